/- Part of the proof of TopVerdictSaid. -/
import Derived.Test.YtidnojkijfinaaaQTpNums0
import Derived.Test.YtidnojkijfinaaaQTpRun
namespace Go.Proofs.Ytidnojkijfinaaa.Fns
open Go.RowKit Go.Maps Go.Proofs.YtidnojkijfinaaaW.PrintWords Go.Proofs.YtidnojkijfinaaaW.PrintLast Go.Proofs.YtidnojkijfinaaaW.PrintMore
attribute [local go_sem] max2_int min2_int max_two min_two max_three min_three max_four min_four
set_option linter.unusedVariables false
set_option linter.unusedSimpArgs false
theorem seen_zero (l : List S72) (x : Int) : False ↔ SeenR l 0 [] 0 x := by simp [SeenR]
theorem seen_start (l : List S72) (k : Nat) (ns : List ByteArray) (x : Int) : SeenR l k [] 0 x ↔ SeenR l k ns 0 x := by simp [SeenR]
theorem seen_none {l : List S72} {k j : Nat} {ns : List ByteArray} {s : ByteArray} (hj : j < ns.length) (hs : ns.getD j ByteArray.empty = s) (hn : nrOf s.toList = none) (x : Int) : SeenR l k ns j x ↔ SeenR l k ns (j + 1) x := by
  have e : ns[j] = s := by rw [← hs]; simp [List.getD_eq_getElem?_getD, hj]
  unfold SeenR
  rw [List.take_succ_eq_append_getElem hj, e]
  constructor
  · rintro (h | ⟨t, h1, h2⟩)
    · exact .inl h
    · exact .inr ⟨t, List.mem_append_left _ h1, h2⟩
  · rintro (h | ⟨t, h1, h2⟩)
    · exact .inl h
    · rcases List.mem_append.1 h1 with h1 | h1
      · exact .inr ⟨t, h1, h2⟩
      · rw [List.mem_singleton.1 h1, hn] at h2; cases h2
theorem seen_some {l : List S72} {k j : Nat} {ns : List ByteArray} {s : ByteArray} {v : Int} (hj : j < ns.length) (hs : ns.getD j ByteArray.empty = s) (hn : nrOf s.toList = some v) (x : Int) : (x = v ∨ SeenR l k ns j x) ↔ SeenR l k ns (j + 1) x := by
  have e : ns[j] = s := by rw [← hs]; simp [List.getD_eq_getElem?_getD, hj]
  unfold SeenR
  rw [List.take_succ_eq_append_getElem hj, e]
  constructor
  · rintro (rfl | h | ⟨t, h1, h2⟩)
    · exact .inr ⟨s, List.mem_append_right _ (List.mem_singleton.2 rfl), hn⟩
    · exact .inl h
    · exact .inr ⟨t, List.mem_append_left _ h1, h2⟩
  · rintro (h | ⟨t, h1, h2⟩)
    · exact .inr (.inl h)
    · rcases List.mem_append.1 h1 with h1 | h1
      · exact .inr (.inr ⟨t, h1, h2⟩)
      · rw [List.mem_singleton.1 h1, hn] at h2
        injection h2 with h2
        exact .inl h2.symm
theorem seen_end {l : List S72} {k : Nat} {ns : List ByteArray} (hk : k < l.length) (hn : (rd_T72 l (k : Int)).f1 = ns) (x : Int) : SeenR l k ns ns.length x ↔ SeenR l (k + 1) [] 0 x := by
  have e : l[k].f1 = ns := by rw [← hn]; simp [rd_T72, List.getD_eq_getElem?_getD, hk]
  unfold SeenR
  rw [List.take_succ_eq_append_getElem hk, List.take_length]
  constructor
  · rintro (⟨r, h1, h2⟩ | ⟨t, h1, h2⟩)
    · exact .inl ⟨r, List.mem_append_left _ h1, h2⟩
    · exact .inl ⟨l[k], List.mem_append_right _ (List.mem_singleton.2 rfl), t, by rw [e]; exact h1, h2⟩
  · rintro (⟨r, h1, h2⟩ | ⟨t, h1, h2⟩)
    · rcases List.mem_append.1 h1 with h1 | h1
      · exact .inl ⟨r, h1, h2⟩
      · rw [List.mem_singleton.1 h1, e] at h2
        obtain ⟨t, h3, h4⟩ := h2
        exact .inr ⟨t, h3, h4⟩
    · simp at h1
theorem seen_all (l : List S72) (x : Int) : SeenR l l.length [] 0 x ↔ x ∈ numsR l := by
  rw [mem_nums_nr]
  unfold SeenR
  rw [List.take_length]
  constructor
  · rintro (h | ⟨t, h1, h2⟩)
    · exact h
    · simp at h1
  · exact fun h => .inl h
def NumsAns (l : List S72) (w : World) (e : Ending) (w' : World) : Prop := ∃ v, e = .returned v ∧ (Kd.int .u32).R 23 w' w.heap.size (fun _ => True) v (numsR l) ∧ Below w.heap.size w w'
set_option maxHeartbeats 16000000 in
set_option maxRecDepth 100000 in
theorem numbers_calls (dk da : Int) (A : Option Addr) (c : Nat) (l : List S72) (w : World) (hr : Kd.C k72 w A l.length l) (hc : l.length ≤ c) (hl : l.length ≤ 65) (hn : ∀ r ∈ l, r.f1.length ≤ 20) :
    Calls Try.prog 22 #[.agg #[.int .i64 dk, .int .i64 da, .slice A l.length c]] w (NumsAns l w) := by
  have HR := Aside0.mk hr
  have HN := Aside0.mk hn
  have HL65 := Aside0.mk hl
  clear hr hc hn hl
  have hu38 := Try.underlying38
  have hu72 := Try.underlying72
  have hmm := @run_makeMap Try.prog
  go_enter Try.func22, Try.ntmps22
  go_wp2_with fail
  go_loopw [16] (fun v16 wr => ∃ (k n : Nat) (D : DataW Unit), v16 = .int .i64 (k : Int) ∧ k ≤ l.length ∧ n ≤ 20 * k ∧ Aside0 (wr.ownsMap Try.prog 23 (plainElem Try.prog 4) (w.heap.size + 1) n D) ∧ Aside0 (Sees D (SeenR l k [] 0)) ∧ Aside0 (Below w.heap.size w wr)) (fun v16 _ => l.length - (intOf v16).toNat)
  case atStart =>
    refine ⟨0, 0, .map [], rfl, by omega, by omega, ⟨?_⟩, ⟨Sees.empty.iff (seen_zero l)⟩, ⟨below_alloc (below_alloc (Below.refl _ _) _) _⟩⟩
    have := World.ownsMap_made (P := Try.prog) (H := Unit) (w.alloc (.cells #[.int .i64 dk, .int .i64 da, .slice A l.length c] 38 (0, 0))) 23 (plainElem Try.prog 4)
    rw [World.size_alloc] at this
    exact this
  case round =>
    obtain ⟨k, n, D, rfl, hk, hnk, HO, HS, HB⟩ := hrel
    obtain ⟨wo, rfl⟩ : ∃ wo : World, wo = wr := ⟨_, rfl⟩
    by_cases hlt : k < l.length
    · have d1 : decide ((k : Int) < (l.length : Int)) = true := decide_eq_true (by omega)
      have d2 : decide (k < l.length) = true := decide_eq_true hlt
      obtain ⟨ad, B2, c2, B3, c3, ea, y0, y1, y2, y3, l2, g2, l3, g3⟩ := at_T72 HR.out (k : Int) (by omega) (by omega)
      have z0 := pw_cell_below HB.out y0
      have z1 := pw_cell_below HB.out y1
      have z2 := pw_cell_below HB.out y2
      have z3 := pw_cell_below HB.out y3
      have HN20 := Aside0.mk (HN.out l[k] (List.getElem_mem hlt))
      have HSE := Aside0.mk (seen_end (l := l) hlt rfl)
      have hgd : rd_T72 l (k : Int) = l[k] := by simp [rd_T72, List.getD_eq_getElem?_getD, hlt]
      rw [hgd] at z0 z1 z2 z3 l2 g2 l3 g3 HSE
      rw [Int.toNat_natCast] at z0 z1 z2 z3
      cases ea
      generalize l[k] = q at z0 z1 z2 z3 l2 g2 l3 g3 HN20 HSE
      clear hgd y0 y1 y2 y3
      obtain ⟨⟨q0, q1⟩, ns, cs⟩ := q
      simp only at z0 z1 z2 z3 l2 g2 l3 g3 HN20 HSE
      have G2 := Aside0.mk g2
      have p1 : (0 ≤ (k : Int)) = True := eq_true (by omega)
      have p2 : ((k : Int) < (l.length : Int)) = True := eq_true (by omega)
      have p3 : (k < l.length) = True := eq_true (by omega)
      have HL := Aside0.mk hlt
      have HNK := Aside0.mk hnk
      clear hlt hk hnk g2 l2 g3 l3
      go_wp2_with fail
      have HB2 := Aside0.mk (below_alloc HB.out (.cells #[.int .i64 q0, .int .i64 q1, .slice B2 ns.length c2, .slice B3 cs.length c3] 72 (0, 0)))
      have HO2 := Aside0.mk (HO.out.alloc (.cells #[.int .i64 q0, .int .i64 q1, .slice B2 ns.length c2, .slice B3 cs.length c3] 72 (0, 0)))
      go_loopw [23] (fun v23 ws => ∃ (j m : Nat) (D' : DataW Unit), v23 = .int .i64 (j : Int) ∧ j ≤ ns.length ∧ Aside0 (m ≤ 20 * k + j) ∧ Aside0 (ws.ownsMap Try.prog 23 (plainElem Try.prog 4) (w.heap.size + 1) m D') ∧ Aside0 (Sees D' (SeenR l k ns j)) ∧ Aside0 (Below w.heap.size w ws)) (fun v23 _ => ns.length - (intOf v23).toNat)
      case atStart => exact ⟨0, n, D, rfl, by omega, ⟨by have := HNK.out; omega⟩, HO2, ⟨HS.out.iff (seen_start l k ns)⟩, HB2⟩
      case round =>
        clear HO HS HB HB2 HO2 z0 z1 z2 z3
        obtain ⟨j, m, D', rfl, hj, HM, HO, HS, HB⟩ := hrel
        have HKW := Aside0.mk (show wrap64 ((j : Int) + 1) = ((j + 1 : Nat) : Int) by rw [IntWalk.wrap64_in _ (by have := HN20.out; omega)]; rfl)
        have HKK := Aside0.mk (show wrap64 ((k : Int) + 1) = ((k + 1 : Nat) : Int) by rw [IntWalk.wrap64_in _ (by have := HL.out; have := HL65.out; omega)]; rfl)
        by_cases hjl : j < ns.length
        · have e0 : decide ((j : Int) < (ns.length : Int)) = true := decide_eq_true (by omega)
          have e1 : decide (j < ns.length) = true := decide_eq_true hjl
          obtain ⟨ad2, ea, hx⟩ := Kd.at_string (Kd.C_below G2.out HB.out) (j : Int) (by omega) (by omega)
          cases ea
          have hgd : rdOf ByteArray.empty ns (j : Int) = ns.getD j ByteArray.empty := by simp [rdOf]
          rw [hgd, Int.toNat_natCast] at hx
          obtain ⟨s, hs⟩ : ∃ s, ns.getD j ByteArray.empty = s := ⟨_, rfl⟩
          rw [hs] at hx
          have hn := nr_is s
          have q1' : (0 ≤ (j : Int)) = True := eq_true (by omega)
          have q2' : ((j : Int) < (ns.length : Int)) = True := eq_true (by omega)
          have q3' : (j < ns.length) = True := eq_true hjl
          have HJ := Aside0.mk hjl
          have HSJ := Aside0.mk hs
          clear hgd hs hjl hj
          cases hnr : nrOf s.toList with
          | none =>
            rw [hnr] at hn
            have HNR := Aside0.mk hn
            have HS2 := Aside0.mk (HS.out.iff (seen_none (l := l) (k := k) HJ.out HSJ.out hnr))
            clear hn hnr
            go_wp2_with fail
            refine (mean_Nr.calls 40 s 0 false _ HNR.out).mono ?_
            rintro e w1 ⟨rfl, hb1⟩
            have HB1 := Aside0.mk (below_then HB.out HB.out.size hb1)
            have HO1 := Aside0.mk (HO.out.kept (below_grown hb1) (by simp))
            clear hb1 HO HB HS
            go_wp2_with fail
            rw [HKW.out]
            refine ⟨⟨j + 1, m, D', rfl, by have := HJ.out; omega, ⟨by have := HM.out; omega⟩, HO1, HS2, HB1⟩, ?_⟩
            have := HJ.out
            simp only [intOf]
            omega
          | some v =>
            rw [hnr] at hn
            have HNR := Aside0.mk hn
            have HS2 := Aside0.mk ((HS.out.put v (.lit (.bool true))).iff (seen_some (l := l) (k := k) HJ.out HSJ.out hnr))
            have HWF := Aside0.mk (nrs_known hnr)
            clear hn hnr
            go_wp2_with fail
            refine (mean_Nr.calls 40 s v true _ HNR.out).mono ?_
            rintro e w1 ⟨rfl, hb1⟩
            have HB1 := Aside0.mk (below_then HB.out HB.out.size hb1)
            have HO1 := Aside0.mk (HO.out.kept (below_grown hb1) (by simp))
            have HKB := Aside0.mk (show m < maxLen by unfold maxLen; have := HM.out; have := HN20.out; have := HJ.out; have := HL.out; have := HL65.out; omega)
            clear hb1 HO HB HS
            go_wp2_with (first
              | ((with_reducible refine gate_ (Op.mapUpdate 102 (.tmp 33) (.tmp 34) (.const (.bool true))) rfl ?_); refine wpList_mapUpdate_own _ rfl _ _ _ 102 rfl 23 4 (Go.Maps.int_keyed Try.underlying23) Try.underlying102 _ (w.heap.size + 1) m D' rfl HO1.out HKB.out _ _ _ rfl rfl (Go.Maps.keyOf_int_mk Try.underlying23 HWF.out) _ [] (plainElem_bool Try.underlying4 true) ?_; intro w2 hown2 hgr2; have HO2 := Aside0.mk hown2; have HG2 := Aside0.mk hgr2; clear hown2 hgr2))
            rw [HKW.out]
            refine ⟨⟨j + 1, m + 1, _, rfl, by have := HJ.out; omega, ⟨by have := HM.out; omega⟩, HO2, HS2, ⟨HB1.out.grown HG2.out HB1.out.size (fun j hj => by cases hj; omega)⟩⟩, ?_⟩
            have := HJ.out
            simp only [intOf]
            omega
        · have e0 : decide ((j : Int) < (ns.length : Int)) = false := decide_eq_false (by omega)
          have e1 : decide (j < ns.length) = false := decide_eq_false hjl
          obtain rfl : j = ns.length := by omega
          have HS2 := Aside0.mk (HS.out.iff HSE.out)
          clear hj hjl HS
          go_wp2_with fail
          rw [HKK.out]
          refine ⟨⟨k + 1, m, D', rfl, by have := HL.out; omega, by have := HM.out; have := HN20.out; omega, HO, HS2, HB⟩, ?_⟩
          have := HL.out
          simp only [intOf]
          omega
    · have d1 : decide ((k : Int) < (l.length : Int)) = false := decide_eq_false (by omega)
      have d2 : decide (k < l.length) = false := decide_eq_false hlt
      obtain rfl : k = l.length := by omega
      have HSA := Aside0.mk (HS.out.iff (seen_all l))
      clear hlt hk hnk HS
      have HMB := Aside0.mk (HO.out.lt)
      have hlw := HB.out.size
      obtain ⟨it, hit⟩ : ∃ it, wo.heap.size = it := ⟨_, rfl⟩
      go_wp2_with (first
        | (at_range; refine wpList_range_own _ rfl _ 102 rfl 23 4 (Go.Maps.int_keyed Try.underlying23) Try.underlying102 _ (w.heap.size + 1) n D rfl HO.out ?_; intro w0 hrg0 hg0 hs0))
      go_frame
      rw [hit] at hrg0 ⊢
      have HIT := Aside0.mk (show w.heap.size + 1 < it by have := HMB.out; omega)
      have HRG0 := Aside0.mk hrg0
      have HB0 := Aside0.mk (HB.out.grown hg0 HB.out.size (fun j hj => by cases hj))
      clear hrg0 hg0 hs0 hlw hit HB HO
      go_loopw [10] (fun v10 wr => ∃ (left : Lit → Bool) (cnt : Nat) (ss : List Int), Aside0 (wr.ranges Try.prog 23 (plainElem Try.prog 4) (w.heap.size + 1) it n D left cnt) ∧ Aside0 (MetI D left ss) ∧ Aside0 ((Kd.int .u32).R 23 wr w.heap.size (fun k => k ≠ w.heap.size + 1 ∧ k ≠ it) v10 ss) ∧ Aside0 (Below w.heap.size w wr)) (fun _ wr => wr.rangeLeft (w.heap.size + 1) it)
      case atStart => exact ⟨_, _, [], HRG0, ⟨MetI.start D⟩, ⟨Kd.R_nil _ _ _ _ _⟩, HB0⟩
      case round =>
        clear HRG0 HB0
        obtain ⟨left, cnt, ss, HRG, HMT, HO, HB⟩ := hrel
        have HLE := Aside0.mk (HMT.out.le HSA.out)
        go_wp2_with (first
          | (at_next; refine wpList_next_ranges_ib _ rfl _ rfl 23 .u32 (Go.Maps.int_keyed Try.underlying23) Try.underlying23 (plainElem Try.prog 4) (w.heap.size + 1) it n D left cnt rfl HRG.out ?_ ?_))
        · intro hc0 hl0
          have HFN := Aside0.mk (sorted_is (rs := l) HMT.out.1 (fun x => by rw [HMT.out.2 x, HSA.out.2 x, hl0]; simp))
          clear hc0 hl0
          go_wp2_with fail
          refine (sort_calls wr w.heap.size _ u10 ss HO.out (by have := HLE.out; omega)).mono ?_
          rintro e w2 ⟨rfl, hr2, hg2⟩
          rw [HFN.out] at hr2
          have HR2 := Aside0.mk hr2
          have HB2 := Aside0.mk (HB.out.grown hg2 HB.out.size (fun j hj => Kd.R_base HO.out j hj))
          clear hr2 hg2
          go_wp2_with fail
          go_ret
          exact ⟨_, rfl, Kd.R_mono HR2.out (fun _ _ => trivial), HB2.out⟩
        · intro x cb y w1 cnt1 hlk hat hrg1 hlt hg1 hs1 hen
          have HMT2 := Aside0.mk (HMT.out.step hlk hat)
          have HRG1 := Aside0.mk hrg1
          have HO1 := Aside0.mk (Kd.R_grown HO.out hg1 (fun k hk e => hk.2 (by injection e)))
          have HB1 := Aside0.mk (HB.out.grown hg1 HB.out.size (fun j hj => by cases hj; have := HIT.out; omega))
          have HCN := Aside0.mk hlt
          have HCE := Aside0.mk HRG.out.left_eq
          have HSZ := Aside0.mk hs1
          have HSZ2 := Aside0.mk HRG.out.lt
          clear hlk hat hrg1 hlt hg1 hs1 HMT HRG HO HB
          go_wp2_with (first
            | ((with_reducible refine gate_dst (N := 46) rfl ?_); refine Kd.R_append (Kd.int .u32) (w0 := w) (W := w1) w.heap.size rfl (.tmp 43) (.tmp 45) 33 23 (.int .u32 0) 4 rfl Try.underlying33 info23 rfl (by decide) (by omega) u10 ss x [.int .u32 x] (fun k => k ≠ w.heap.size + 1 ∧ k ≠ it) (fun _ => False) rfl rfl ?aP (fun _ hk => hk.elim) ?aF ?aO ?aB ?aS ?aL ?_; (case aP => exact rfl); (case aF => exact fun k hk => by have := HIT.out; have := HSZ.out; have := HSZ2.out; omega); (case aO => exact HO1.out); (case aB => exact HB1.out); (case aS => exact HB1.out.size); (case aL => have := HLE.out; omega); intro v5 w5 ho5 hb5 hg5 hat5; have HO5 := Aside0.mk ho5; have HB5 := Aside0.mk hb5; have HG5 := Aside0.mk hg5; clear ho5 hb5 hg5 hat5))
          have HRG5 := Aside0.mk (HRG1.out.kept HG5.out (Kd.R_away HO1.out (fun k hk => hk.1)) (Kd.R_away HO1.out (fun k hk => hk.2)))
          refine ⟨⟨_, cnt1, ss ++ [x], HRG5, HMT2, HO5, HB5⟩, ?_⟩
          rw [HRG5.out.left_eq, HCE.out]
          exact HCN.out
end Go.Proofs.Ytidnojkijfinaaa.Fns
