/- Part of the proof of TopVerdictSaid. -/
import Derived.Test.YtidnojkijfinaaaQFns2
import Derived.Test.YtidnojkijfinaaaQTpMap
import Derived.StringKeys
namespace Go.Proofs.Ytidnojkijfinaaa.Fns
open Go.RowKit Go.Proofs.YtidnojkijfinaaaW.PrintWords Go.Proofs.YtidnojkijfinaaaW.PrintLast Go.Proofs.YtidnojkijfinaaaW.PrintMore
attribute [local go_sem] max2_int min2_int max_two min_two max_three min_three max_four min_four
set_option linter.unusedVariables false
set_option linter.unusedSimpArgs false
def nrOf (n : List UInt8) : Option Int := (callsTab.find? (fun x => x.f0.toList == n)).map (·.f1)
theorem nr_loop (n : ByteArray) : ∀ (d k i : Nat), i + d = callsTab.length → d < k → mean_Nr.l0 k n callsTab (callsTab.length : Int) (i : Int) = some (match ((callsTab.drop i).find? (fun x => x.f0.toList == n.toList)).map (·.f1) with | some v => (v, true) | none => (0, false))
  | 0, k + 1, i, h, _ => by
    rw [mean_Nr.l0, if_neg (by omega), show i = callsTab.length by omega, List.drop_length]
    rfl
  | d + 1, k + 1, i, h, hk => by
    have hl : callsTab.length = 30 := rfl
    have ih := nr_loop n d k (i + 1) (by omega) (by omega)
    have hlt : i < callsTab.length := by omega
    rw [mean_Nr.l0, if_pos (by omega), if_pos (by omega), if_pos (by omega)]
    have e1 : rd_T109 callsTab (i : Int) = callsTab[i] := by simp [rd_T109, List.getD_eq_getElem?_getD, hlt]
    rw [e1, List.drop_eq_getElem_cons hlt, List.find?_cons]
    by_cases hq : callsTab[i].f0.toList = n.toList
    · rw [if_pos hq, beq_iff_eq.mpr hq]
      rfl
    · rw [if_neg hq, beq_eq_false_iff_ne.mpr hq]
      rw [show wrap64 ((i : Int) + 1) = ((i + 1 : Nat) : Int) by rw [IntWalk.wrap64_in _ (by omega)]; rfl]
      exact ih
theorem nr_is (n : ByteArray) : mean_Nr.f 40 n = some (match nrOf n.toList with | some v => (v, true) | none => (0, false)) := by
  have := nr_loop n callsTab.length 40 0 (by omega) (by decide)
  exact this
def wrongL : List ByteArray → List (List UInt8) → Int → Int
  | [], _, e => e
  | n :: ns, seen, e => match nrOf n.toList with
    | some _ => wrongL ns (n.toList :: seen) (if n.toList ∈ seen then 9 else e)
    | none => 8
def mean_wrong.f (ns : List ByteArray) : Option Int := some (wrongL ns [] 0)
theorem zero4 (w : World) : (zeroValue 4).run Try.prog w = .ok (.bool false) w := by
  have h : (Try.prog.info? 4).map (fun i => i.zero) = some (some (.bool false)) := by kernel_rfl
  cases hq : Try.prog.info? 4 with
  | none => rw [hq] at h; cases h
  | some i =>
    rw [hq] at h
    simp at h
    simp [zeroValue, typeInfo, hq, h]
theorem loop_data (s : ByteArray) : ∀ (d i : Nat) (r : List UInt8), i + d = s.size → ByteArray.toList.loop s i r = r.reverse ++ s.data.toList.drop i
  | 0, i, r, h => by
    rw [ByteArray.toList.loop, if_neg (by omega), List.drop_eq_nil_of_le (by show s.data.toList.length ≤ i; have : s.data.toList.length = s.size := rfl; omega), List.append_nil]
  | d + 1, i, r, h => by
    have hl : i < s.data.toList.length := by have : s.data.toList.length = s.size := rfl; omega
    rw [ByteArray.toList.loop, if_pos (by omega), loop_data s d (i + 1) _ (by omega), List.drop_eq_getElem_cons hl, List.reverse_cons, List.append_assoc]
    congr 2
    simp [ByteArray.get!]
    rw [getElem!_pos]
theorem toList_data (s : ByteArray) : s.toList = s.data.toList := by
  rw [ByteArray.toList, loop_data s s.size 0 [] (by omega)]
  rfl
theorem known_short {n : List UInt8} {v : Int} (h : nrOf n = some v) : n.length ≤ 16 := by
  unfold nrOf at h
  rw [Option.map_eq_some_iff] at h
  obtain ⟨x, h1, _⟩ := h
  have h2 := List.find?_some h1
  have h3 := List.mem_of_find?_eq_some h1
  have h4 : ∀ y ∈ callsTab, y.f0.data.toList.length ≤ 16 := by decide
  rw [beq_iff_eq] at h2
  rw [← h2, toList_data]
  exact h4 x h3
theorem below_grown {a b : World} (h : Below a.heap.size a b) : a.grownBy b none := ⟨h.os, h.tape, h.output, h.size, fun i hi _ => h.block i hi⟩
theorem wrong_step (l : List ByteArray) (k : Nat) (h : k < l.length) (seen : List (List UInt8)) (e : Int) : wrongL (l.drop k) seen e = (match nrOf (l.getD k ByteArray.empty).toList with
    | some _ => wrongL (l.drop (k + 1)) ((l.getD k ByteArray.empty).toList :: seen) (if (l.getD k ByteArray.empty).toList ∈ seen then 9 else e)
    | none => 8) := by
  rw [List.drop_eq_getElem_cons h, wrongL, show l.getD k ByteArray.empty = l[k] by simp [List.getD_eq_getElem?_getD, h]]
set_option maxHeartbeats 4000000 in
set_option maxRecDepth 100000 in
theorem mean_wrong.calls (A0 : Option Addr) (c0 : Nat) (l0 : List ByteArray) (r : Int) (w : World) (hr0 : Kd.C Kd.string w A0 l0.length l0) (hc0 : l0.length ≤ c0) (h : mean_wrong.f l0 = some r) :
    Calls Try.prog 38 #[.slice A0 l0.length c0] w fun e w' => e = .returned (.int .i64 r) ∧ Below w.heap.size w w' := by
  obtain rfl : wrongL l0 [] 0 = r := by unfold mean_wrong.f at h; injection h
  clear h
  have hml : l0.length ≤ 9223372036854775807 := (Kd.C_max hr0)
  have HR0 := Aside0.mk hr0
  have HC0 := Aside0.mk hc0
  have HML := Aside0.mk hml
  clear hr0 hc0 hml
  have hmm := @run_makeMap Try.prog
  go_enter Try.func38, Try.ntmps38
  go_wp2
  go_loopw [3, 12] (fun v3 v12 wr => ∃ (k : Nat) (e : Int) (seen : List (List UInt8)) (D : DataW Unit), v12 = .int .i64 (k : Int) ∧ v3 = .int .i64 e ∧ k ≤ l0.length ∧ Aside0 (wrongL (l0.drop k) seen e = wrongL l0 [] 0) ∧ Aside0 (wr.ownsMap Try.prog 9 (plainElem Try.prog 4) w.heap.size k D) ∧ Aside0 (Marks D (fun j => ∃ s ∈ seen, j = .string s)) ∧ Aside0 (Below w.heap.size w wr)) (fun _ v12 _ => l0.length - (intOf v12).toNat)
  case atStart =>
    refine ⟨0, 0, [], .map [], rfl, rfl, by omega, ⟨rfl⟩, ⟨World.ownsMap_made _ _ _ _⟩, ⟨?_⟩, ⟨below_alloc (Below.refl _ _) _⟩⟩
    have := Marks.empty
    simpa using this
  case round =>
    obtain ⟨k, e, seen, D, rfl, rfl, hk, HW, HO, HMK, HB⟩ := hrel
    by_cases hkl : k < l0.length
    · have e0 : decide ((k : Int) < (l0.length : Int)) = true := decide_eq_true (by omega)
      have e1 : decide (k < l0.length) = true := decide_eq_true hkl
      have hw := HW.out
      rw [wrong_step l0 k hkl] at hw
      obtain ⟨ad, ea, hx⟩ := Kd.at_string (Kd.C_below HR0.out HB.out) (k : Int) (by omega) (by omega)
      cases ea
      have hgd : rdOf ByteArray.empty l0 (k : Int) = l0.getD k ByteArray.empty := by simp [rdOf]
      rw [hgd, Int.toNat_natCast] at hx
      obtain ⟨s, hs⟩ : ∃ s, l0.getD k ByteArray.empty = s := ⟨_, rfl⟩
      rw [hs] at hx hw
      clear hs hgd
      have p1 : (0 ≤ (k : Int)) = True := eq_true (by omega)
      have p2 : ((k : Int) < (l0.length : Int)) = True := eq_true (by omega)
      have p3 : (k < l0.length) = True := eq_true hkl
      have hn := nr_is s
      have HKW := Aside0.mk (show wrap64 ((k : Int) + 1) = ((k + 1 : Nat) : Int) by rw [IntWalk.wrap64_in _ (by have := HML.out; omega)]; rfl)
      cases hnr : nrOf s.toList with
      | none =>
        rw [hnr] at hw hn
        have HN := Aside0.mk hn
        have HW' := Aside0.mk hw
        clear hn hw hnr
        go_wp2_with fail
        refine (mean_Nr.calls 40 s 0 false _ HN.out).mono ?_
        rintro e w1 ⟨rfl, hb1⟩
        have HB1 := Aside0.mk (below_then HB.out HB.out.size hb1)
        go_wp2_with fail
        go_ret
        exact ⟨by rw [← HW'.out]; rfl, HB1.out⟩
      | some v =>
        rw [hnr] at hw hn
        simp only at hw
        have HN := Aside0.mk hn
        have HW' := Aside0.mk hw
        have HSH := Aside0.mk (known_short hnr)
        clear hn hw hnr
        go_wp2_with fail
        refine (mean_Nr.calls 40 s v true _ HN.out).mono ?_
        rintro e w1 ⟨rfl, hb1⟩
        have HB1 := Aside0.mk (below_then HB.out HB.out.size hb1)
        have HO1 := Aside0.mk (HO.out.kept (below_grown hb1) (by simp))
        have HKY := Aside0.mk (Go.WideMaps.keyOf_string_mk (P := Try.prog) Try.underlying9 (s := s) (by have := HSH.out; rw [toList_data] at this; have e : s.data.toList.length = s.size := rfl; unfold maxLen; omega))
        have HKB := Aside0.mk (show k < maxLen by unfold maxLen; have := HML.out; omega)
        clear hb1 HO HB
        go_wp2_with (first
          | ((with_reducible refine gate_dst (N := 25) rfl ?_); refine wpList_lookup_own_bool rfl _ _ 126 rfl 9 4 (Go.Maps.string_keyed Try.underlying9) Try.underlying126 Try.underlying4 (zero4 _) w.heap.size k D rfl HO1.out _ _ rfl HKY.out ?_; intro c hat; have HAT := Aside0.mk (HMK.out.at_ hat); clear hat; cases c)
          | ((with_reducible refine gate_ (Op.mapUpdate 126 (.tmp 26) (.tmp 27) (.const (.bool true))) rfl ?_); refine wpList_mapUpdate_own _ rfl _ _ _ 126 rfl 9 4 (Go.Maps.string_keyed Try.underlying9) Try.underlying126 _ w.heap.size k D rfl HO1.out HKB.out _ _ _ rfl rfl HKY.out _ [] (plainElem_bool Try.underlying4 true) ?_; intro w2 hown2 hgr2; have HO2 := Aside0.mk hown2; have HG2 := Aside0.mk hgr2; clear hown2 hgr2))
        all_goals
          rw [HKW.out]
          have hin : (s.toList ∈ seen) = _ := rfl
          refine ⟨⟨k + 1, _, s.toList :: seen, _, rfl, rfl, by omega, ⟨?_⟩, HO2, ⟨?_⟩, ⟨HB1.out.grown HG2.out HB1.out.size (fun j hj => by cases hj; exact Nat.le_refl _)⟩⟩, by simp only [intOf]; omega⟩
          rotate_left
          · have := HMK.out.put (k := .string s.data.toList) (show WideAt.IsKeyLit (.string s.data.toList) from trivial)
            refine ⟨this.1, fun j => ?_⟩
            rcases this.2 j with ⟨h1, h2⟩ | ⟨h1, h2⟩
            · refine .inl ⟨?_, h2⟩
              rcases h1 with rfl | ⟨s', h3, h4⟩
              · exact ⟨_, List.mem_cons_self, by rw [toList_data]⟩
              · exact ⟨s', List.mem_cons_of_mem _ h3, h4⟩
            · refine .inr ⟨fun h => h1 ?_, h2⟩
              obtain ⟨s', h3, h4⟩ := h
              rcases List.mem_cons.1 h3 with rfl | h3
              · exact .inl (by rw [h4, toList_data])
              · exact .inr ⟨s', h3, h4⟩
        · have h := HW'.out
          rw [if_neg (fun h => by have := HAT.out.2 ⟨_, h, by rw [toList_data]⟩; cases this)] at h
          exact h
        · have h := HW'.out
          rw [if_pos (by obtain ⟨s', h3, h4⟩ := HAT.out.1 rfl; injection h4 with h4; rw [toList_data, h4]; exact h3)] at h
          exact h
    · have e0 : decide ((k : Int) < (l0.length : Int)) = false := decide_eq_false (by omega)
      have e1 : decide (k < l0.length) = false := decide_eq_false hkl
      have hw := HW.out
      rw [List.drop_eq_nil_of_le (by omega), wrongL] at hw
      have HW' := Aside0.mk hw
      clear hw
      go_wp2
      go_ret
      exact ⟨by rw [← HW'.out]; rfl, HB.out⟩
end Go.Proofs.Ytidnojkijfinaaa.Fns
