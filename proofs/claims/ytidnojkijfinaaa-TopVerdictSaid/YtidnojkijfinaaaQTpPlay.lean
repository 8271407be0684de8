/- Part of the proof of TopVerdictSaid. -/
import Derived.Test.YtidnojkijfinaaaQTpCheck
namespace Go.Proofs.Ytidnojkijfinaaa.Fns
open Go.RowKit Go.Proofs.YtidnojkijfinaaaW.PrintWords Go.Proofs.YtidnojkijfinaaaW.PrintLast Go.Proofs.YtidnojkijfinaaaW.PrintMore
attribute [local go_sem] max2_int min2_int max_two min_two max_three min_three max_four min_four
set_option linter.unusedVariables false
set_option linter.unusedSimpArgs false
def vmRun (d : DT) (l : List S84) : Nat → Int → Nat → Option Int
  | 0, _, _ => none
  | k + 1, a, at_ => if h : at_ < l.length then (match vmStep d l[at_] a with
      | some (.inl (a', s)) => vmRun d l k a' (at_ + 1 + s.toNat)
      | some (.inr v) => some v
      | none => none)
    else none
theorem C84_move {w w1 : World} {A : Option Addr} {n : Nat} {l : List S84} (h : k84.C w A n l) (hm : ∀ ad, A = some ad → w1.heap[ad.block]? = w.heap[ad.block]?) : k84.C w1 A n l := by
  refine ⟨h.1, h.2.1, fun hn => ?_⟩
  obtain ⟨ad, e, hc⟩ := h.2.2 hn
  refine ⟨ad, e, fun j p hj => ?_⟩
  obtain ⟨c, h1, h2, h3⟩ := hc j p hj
  refine ⟨c, h1, by rw [k84_open h2]; exact k84_mk w1 p, fun i u hu => ?_⟩
  rw [← h3 i u hu]
  exact World.cell?_of_block (by rw [add_block]; exact hm ad e)
theorem C84_lt {w : World} {A : Option Addr} {l : List S84} (h : k84.C w A l.length l) (hl : 0 < l.length) : ∀ ad, A = some ad → ad.block < w.heap.size := by
  obtain ⟨ad, e, x0, _⟩ := at_T84 h 0 (by omega) (by omega)
  intro ad' h'
  rw [h'] at e
  cases e
  have := World.block_lt_of_cell? w _ x0
  rwa [add_block] at this
theorem C84_grown {w w1 : World} {A : Option Addr} {g : Nat} {l : List S84} (h : k84.C w A l.length l) (hg : w.grownBy w1 (some g)) (hne : ∀ ad, A = some ad → ad.block ≠ g) : k84.C w1 A l.length l := by
  by_cases hl : 0 < l.length
  · exact C84_move h fun ad e => hg.block _ (C84_lt h hl ad e) (fun h => hne ad e (by simpa using h))
  · exact ⟨h.1, h.2.1, fun hn => absurd hn hl⟩
theorem vmRun_lt {d : DT} {l : List S84} {k : Nat} {a : Int} {p : Nat} {r : Int} (h : vmRun d l k a p = some r) : p < l.length := by
  cases k with
  | zero => cases h
  | succ k =>
    rw [vmRun] at h
    split at h
    · assumption
    · cases h
def cnt (n : Int) : Obj := .cells #[.int .i64 n] 3 (0, 0)
set_option maxHeartbeats 4000000 in
set_option maxRecDepth 100000 in
theorem seen_calls (w : World) (sb : Nat) (n p : Int) (h : w.heap[sb]? = some (cnt n)) :
    Calls Try.prog 50 #[.int .i64 p, .pointer (some ⟨sb, 0, none⟩)] w fun e w' => e = .returned (.tuple #[]) ∧ w'.heap[sb]? = some (cnt (wrap64 (n + 1))) ∧ w.grownBy w' (some sb) := by
  have c0 : w.cell? ⟨sb, 0, none⟩ = some (.int .i64 n) := (blk_cell h 0).trans rfl
  have f0 := blk_frozen h 0
  have H := Aside0.mk h
  clear h
  go_enter Try.func50, Try.ntmps50
  go_wp2
  go_end0
  exact ⟨rfl, blk_put H.out 0 _ rfl, gr_set (gr_refl _ _) _ _⟩
set_option maxHeartbeats 8000000 in
set_option maxRecDepth 100000 in
theorem play_calls (A : Option Addr) (c : Nat) (l : List S84) (d : DT) (w : World) (sb : Nat) (n ans : Int) (k : Nat) (hr : Kd.C k84 w A l.length l) (hl : ProgOk l) (hv : vmRun d l k 0 0 = some ans)
    (hs : w.heap[sb]? = some (cnt n)) (hA : ∀ ad, A = some ad → ad.block ≠ sb) :
    Calls Try.prog 49 #[.slice A l.length c, .agg d.cells, .func (.func 50) #[] #[.pointer (some ⟨sb, 0, none⟩)]] w fun e w' => e = .returned (.tuple #[.int .u32 ans, .int .i64 0]) ∧ (∃ m, w'.heap[sb]? = some (cnt m)) ∧ w.grownBy w' (some sb) := by
  have HR := Aside0.mk hr
  have HL := Aside0.mk hl
  have HV := Aside0.mk hv
  have HS := Aside0.mk hs
  have hsb := blk_lt hs
  have HLN := Aside0.mk hl.2.1
  clear hr hl hv hs
  have hu84 := Try.underlying84
  have hu149 := Try.underlying149
  have hmm := @run_makeMap Try.prog
  have HD : d.cells = #[.int .u32 d.nr, .int .u32 d.arch, .int .u64 d.ip, .int .u64 d.a0, .int .u64 d.a1, .int .u64 d.a2, .int .u64 d.a3, .int .u64 d.a4, .int .u64 d.a5] := rfl
  have HDA := Aside0.mk HD
  rw [HD]
  clear HD
  go_enter Try.func49, Try.ntmps49
  go_wp2_with fail
  rw [← HDA.out]
  refine (check_ok A c l _ (Kd.C_below HR.out (below_alloc (Below.refl _ _) _)) HL.out).mono ?_
  rintro e w1 ⟨rfl, hb⟩
  have HB1 := Aside0.mk hb
  have HDB := Aside0.mk (blk_below (blk_new w (.cells d.cells 27 (0, 0))) hb)
  clear hb
  go_wp2_with fail
  go_loopw [11] (fun v11 wr => ∃ (p : Nat) (a an m : Int) (ov : Bool), v11 = .int .i64 (p : Int) ∧ p ≤ l.length ∧ Aside0 (wr.heap[w1.heap.size + 1]? = some (mc a 0 w1.heap.size ov an)) ∧ Aside0 (wr.heap[w.heap.size]? = some (.cells d.cells 27 (0, 0))) ∧ Aside0 (wr.heap[sb]? = some (cnt m)) ∧ Aside0 (w.grownBy wr (some sb)) ∧ Aside0 ((ov = false ∧ ∃ k, vmRun d l k a p = some ans) ∨ (ov = true ∧ an = ans))) (fun v11 _ => l.length - (intOf v11).toNat)
  case atStart =>
    refine ⟨0, 0, 0, n, false, rfl, by omega, ⟨?_⟩, ⟨?_⟩, ⟨?_⟩, ⟨?_⟩, ⟨.inl ⟨rfl, k, HV.out⟩⟩⟩
    · exact blk_top (by simp)
    · exact blk_alloc (blk_alloc HDB.out _) _
    · exact blk_alloc (blk_alloc (blk_below (blk_alloc HS.out _) HB1.out) _) _
    · exact gr_alloc (gr_alloc (gr_below (gr_alloc (gr_refl _ _) _) HB1.out) _) _
  case round =>
    have hw1 : w.heap.size + 1 ≤ w1.heap.size := by have := HB1.out.size; simpa using this
    have HW1 := Aside0.mk hw1
    clear HB1 HDB HS HV hw1
    obtain ⟨p, a, an, m, ov, rfl, hp, H1, H2, H3, H4, H5⟩ := hrel
    obtain ⟨c0, c1, c2, c3, c4, f0, f3, f4⟩ := mc_cells H1.out
    have h5 := H5.out
    rcases h5 with ⟨rfl, k, hk⟩ | ⟨rfl, rfl⟩
    · obtain ⟨k', rfl⟩ : ∃ k', k = k' + 1 := by
        cases k with
        | zero => cases hk
        | succ k => exact ⟨k, rfl⟩
      rw [vmRun] at hk
      split at hk
      · rename_i hlt
        obtain ⟨i, hi⟩ : ∃ i, l[p] = i := ⟨_, rfl⟩
        obtain ⟨r, hr⟩ : ∃ r, vmStep d l[p] a = some r := by
          cases h : vmStep d l[p] a with
          | none => rw [h] at hk; cases hk
          | some r => exact ⟨r, rfl⟩
        rw [hr] at hk
        rw [hi] at hr
        have HK := Aside0.mk hk
        have HS := Aside0.mk hr
        have HLT := Aside0.mk hlt
        have HGD := Aside0.mk (show rd_T84 l (p : Int) = i by rw [← hi]; simp [rd_T84, List.getD_eq_getElem?_getD, hlt])
        clear hk hr hp hi
        have p1 : (0 ≤ (p : Int)) = True := eq_true (by omega)
        have p2 : ((p : Int) < (l.length : Int)) = True := eq_true (by omega)
        have p3 : (p < l.length) = True := eq_true (by omega)
        clear hlt H5
        go_wp2_with fail
        refine (seen_calls wr sb m p H3.out).mono ?_
        rintro e w2 ⟨rfl, h2, hg2⟩
        have hne1 : some (w1.heap.size + 1) ≠ some sb := by have := HW1.out; simp; omega
        have hne2 : some w.heap.size ≠ some sb := by simp; omega
        have M1 := Aside0.mk (gr_blk hg2 H1.out hne1)
        have M2 := Aside0.mk (gr_blk hg2 H2.out hne2)
        have M3 := Aside0.mk h2
        have M4 := Aside0.mk (H4.out.trans hg2)
        clear h2 hg2 H1 H2 H3 H4 c0 c1 c2 c3 c4 f0 f3 f4 hne1 hne2
        obtain ⟨ad, ea, x0, x1, x2, x3⟩ := at_T84 (C84_grown HR.out M4.out hA) (p : Int) (by omega) (by have := HLT.out; omega)
        rw [HGD.out, Int.toNat_natCast] at x0 x1 x2 x3
        cases ea
        have y0 : w2.cell? ⟨w.heap.size, 0, none⟩ = some (.int .u32 d.nr) := (blk_cell M2.out 0).trans rfl
        have y1 : w2.cell? ⟨w.heap.size, 1, none⟩ = some (.int .u32 d.arch) := (blk_cell M2.out 1).trans rfl
        have y2 : w2.cell? ⟨w.heap.size, 2, none⟩ = some (.int .u64 d.ip) := (blk_cell M2.out 2).trans rfl
        have y3 : w2.cell? ⟨w.heap.size, 3, none⟩ = some (.int .u64 d.a0) := (blk_cell M2.out 3).trans rfl
        have y4 : w2.cell? ⟨w.heap.size, 4, none⟩ = some (.int .u64 d.a1) := (blk_cell M2.out 4).trans rfl
        have y5 : w2.cell? ⟨w.heap.size, 5, none⟩ = some (.int .u64 d.a2) := (blk_cell M2.out 5).trans rfl
        have y6 : w2.cell? ⟨w.heap.size, 6, none⟩ = some (.int .u64 d.a3) := (blk_cell M2.out 6).trans rfl
        have y7 : w2.cell? ⟨w.heap.size, 7, none⟩ = some (.int .u64 d.a4) := (blk_cell M2.out 7).trans rfl
        have y8 : w2.cell? ⟨w.heap.size, 8, none⟩ = some (.int .u64 d.a5) := (blk_cell M2.out 8).trans rfl
        have KS2 : Aside0 (w2.cell? (ad.add (p * 4)) = some (.int .u16 i.f0) ∧ w2.cell? ⟨(ad.add (p * 4)).block, (ad.add (p * 4)).off + 1, none⟩ = some (.int .u8 i.f1) ∧ w2.cell? ⟨(ad.add (p * 4)).block, (ad.add (p * 4)).off + 2, none⟩ = some (.int .u8 i.f2) ∧ w2.cell? ⟨(ad.add (p * 4)).block, (ad.add (p * 4)).off + 3, none⟩ = some (.int .u32 i.f3) ∧ w2.cell? ⟨w.heap.size, 0, none⟩ = some (.int .u32 d.nr) ∧ w2.cell? ⟨w.heap.size, 1, none⟩ = some (.int .u32 d.arch) ∧ w2.cell? ⟨w.heap.size, 2, none⟩ = some (.int .u64 d.ip) ∧ w2.cell? ⟨w.heap.size, 3, none⟩ = some (.int .u64 d.a0) ∧ w2.cell? ⟨w.heap.size, 4, none⟩ = some (.int .u64 d.a1) ∧ w2.cell? ⟨w.heap.size, 5, none⟩ = some (.int .u64 d.a2) ∧ w2.cell? ⟨w.heap.size, 6, none⟩ = some (.int .u64 d.a3) ∧ w2.cell? ⟨w.heap.size, 7, none⟩ = some (.int .u64 d.a4) ∧ w2.cell? ⟨w.heap.size, 8, none⟩ = some (.int .u64 d.a5)) := ⟨⟨x0, x1, x2, x3, y0, y1, y2, y3, y4, y5, y6, y7, y8⟩⟩
        clear x0 x1 x2 x3 y0 y1 y2 y3 y4 y5 y6 y7 y8
        have hlA : ad.block < w2.heap.size := Nat.lt_of_lt_of_le (C84_lt HR.out (by have := HLT.out; omega) ad rfl) M4.out.size
        have hnA : some ad.block ≠ some (w1.heap.size + 1) := by
          have := C84_lt HR.out (by have := HLT.out; omega) ad rfl
          have := HW1.out
          simp
          omega
        have hlD := blk_lt M2.out
        have hnD : some w.heap.size ≠ some (w1.heap.size + 1) := by have := HW1.out; simp; omega
        have HKeep : Aside0 (∀ w4, w2.drew.grownBy w4 (some (w1.heap.size + 1)) → w4.cell? (ad.add (p * 4)) = some (.int .u16 i.f0) ∧ w4.cell? ⟨(ad.add (p * 4)).block, (ad.add (p * 4)).off + 1, none⟩ = some (.int .u8 i.f1) ∧ w4.cell? ⟨(ad.add (p * 4)).block, (ad.add (p * 4)).off + 2, none⟩ = some (.int .u8 i.f2) ∧ w4.cell? ⟨(ad.add (p * 4)).block, (ad.add (p * 4)).off + 3, none⟩ = some (.int .u32 i.f3) ∧ w4.cell? ⟨w.heap.size, 0, none⟩ = some (.int .u32 d.nr) ∧ w4.cell? ⟨w.heap.size, 1, none⟩ = some (.int .u32 d.arch) ∧ w4.cell? ⟨w.heap.size, 2, none⟩ = some (.int .u64 d.ip) ∧ w4.cell? ⟨w.heap.size, 3, none⟩ = some (.int .u64 d.a0) ∧ w4.cell? ⟨w.heap.size, 4, none⟩ = some (.int .u64 d.a1) ∧ w4.cell? ⟨w.heap.size, 5, none⟩ = some (.int .u64 d.a2) ∧ w4.cell? ⟨w.heap.size, 6, none⟩ = some (.int .u64 d.a3) ∧ w4.cell? ⟨w.heap.size, 7, none⟩ = some (.int .u64 d.a4) ∧ w4.cell? ⟨w.heap.size, 8, none⟩ = some (.int .u64 d.a5)) := by
          refine ⟨fun w4 hg => ?_⟩
          obtain ⟨x0, x1, x2, x3, y0, y1, y2, y3, y4, y5, y6, y7, y8⟩ := KS2.out
          exact ⟨(hg.cell_far _ (by rw [add_block]; exact hlA) (by rw [add_block]; exact hnA)).trans x0, (hg.cell_far _ (by simpa [add_block] using hlA) (by simpa [add_block] using hnA)).trans x1, (hg.cell_far _ (by simpa [add_block] using hlA) (by simpa [add_block] using hnA)).trans x2, (hg.cell_far _ (by simpa [add_block] using hlA) (by simpa [add_block] using hnA)).trans x3, (hg.cell_far _ hlD hnD).trans y0, (hg.cell_far _ hlD hnD).trans y1, (hg.cell_far _ hlD hnD).trans y2, (hg.cell_far _ hlD hnD).trans y3, (hg.cell_far _ hlD hnD).trans y4, (hg.cell_far _ hlD hnD).trans y5, (hg.cell_far _ hlD hnD).trans y6, (hg.cell_far _ hlD hnD).trans y7, (hg.cell_far _ hlD hnD).trans y8⟩
        clear hlA hnA hlD hnD
        rcases r with ⟨a', s⟩ | v
        · go_wp2_with fail
          go_region_held3 (fun W => W.cell? (ad.add (p * 4)) = some (.int .u16 i.f0) ∧ W.cell? ⟨(ad.add (p * 4)).block, (ad.add (p * 4)).off + 1, none⟩ = some (.int .u8 i.f1) ∧ W.cell? ⟨(ad.add (p * 4)).block, (ad.add (p * 4)).off + 2, none⟩ = some (.int .u8 i.f2) ∧ W.cell? ⟨(ad.add (p * 4)).block, (ad.add (p * 4)).off + 3, none⟩ = some (.int .u32 i.f3) ∧ W.cell? ⟨w.heap.size, 0, none⟩ = some (.int .u32 d.nr) ∧ W.cell? ⟨w.heap.size, 1, none⟩ = some (.int .u32 d.arch) ∧ W.cell? ⟨w.heap.size, 2, none⟩ = some (.int .u64 d.ip) ∧ W.cell? ⟨w.heap.size, 3, none⟩ = some (.int .u64 d.a0) ∧ W.cell? ⟨w.heap.size, 4, none⟩ = some (.int .u64 d.a1) ∧ W.cell? ⟨w.heap.size, 5, none⟩ = some (.int .u64 d.a2) ∧ W.cell? ⟨w.heap.size, 6, none⟩ = some (.int .u64 d.a3) ∧ W.cell? ⟨w.heap.size, 7, none⟩ = some (.int .u64 d.a4) ∧ W.cell? ⟨w.heap.size, 8, none⟩ = some (.int .u64 d.a5))
            ((first | exact KS2.out | exact KS4.out | go_keep))
            (first
              | (go_at_call 69; refine (vm_step.calls (mb := w1.heap.size) (an := an) (x := 0) i d _ HS.out (blk_drew M1.out)).mono ?_; rintro e w4 ⟨⟨rfl, b1, b2, hm⟩, hg⟩; have KS4 := Aside0.mk (HKeep.out _ hg); have N1 := Aside0.mk hm; have N2 := Aside0.mk hg; clear hm hg))
          have hlt := vmRun_lt HK.out
          have e1 : IntKind.i64.wrap ((p : Int) + s) = ((p + s.toNat : Nat) : Int) := by rw [IntWalk.i64_in _ (by have := HLN.out; omega)]; omega
          have e2 : wrap64 (((p + s.toNat : Nat) : Int) + 1) = ((p + 1 + s.toNat : Nat) : Int) := by rw [IntWalk.wrap64_in _ (by have := HLN.out; omega)]; omega
          have E1 := Aside0.mk e1
          have E2 := Aside0.mk e2
          have HLT2 := Aside0.mk hlt
          clear e1 e2 hlt p1 p2 p3 b1 b2
          rw [E1.out]
          generalize hq : p + s.toNat = q at E2 ⊢
          clear hq E1
          go_wp2_with fail
          rw [E2.out]
          refine ⟨⟨p + 1 + s.toNat, a', an, _, false, rfl, by have := HLT2.out; omega, N1, ⟨gr_blk N2.out (blk_drew M2.out) (by have := HW1.out; simp; omega)⟩, ⟨gr_blk N2.out (blk_drew M3.out) (by have := HW1.out; simp; omega)⟩, ⟨(gr_drewN M4.out 1).andThen N2.out (fun j hj => .inl (by cases hj; have := HW1.out; omega))⟩, ⟨.inl ⟨rfl, k', HK.out⟩⟩⟩, ?_⟩
          have := HLT.out
          have := HLT2.out
          simp only [intOf]
          omega
        · have hv : v = ans := by have := HK.out; simpa using this
          subst hv
          go_wp2_with fail
          go_region_held3 (fun W => W.cell? (ad.add (p * 4)) = some (.int .u16 i.f0) ∧ W.cell? ⟨(ad.add (p * 4)).block, (ad.add (p * 4)).off + 1, none⟩ = some (.int .u8 i.f1) ∧ W.cell? ⟨(ad.add (p * 4)).block, (ad.add (p * 4)).off + 2, none⟩ = some (.int .u8 i.f2) ∧ W.cell? ⟨(ad.add (p * 4)).block, (ad.add (p * 4)).off + 3, none⟩ = some (.int .u32 i.f3) ∧ W.cell? ⟨w.heap.size, 0, none⟩ = some (.int .u32 d.nr) ∧ W.cell? ⟨w.heap.size, 1, none⟩ = some (.int .u32 d.arch) ∧ W.cell? ⟨w.heap.size, 2, none⟩ = some (.int .u64 d.ip) ∧ W.cell? ⟨w.heap.size, 3, none⟩ = some (.int .u64 d.a0) ∧ W.cell? ⟨w.heap.size, 4, none⟩ = some (.int .u64 d.a1) ∧ W.cell? ⟨w.heap.size, 5, none⟩ = some (.int .u64 d.a2) ∧ W.cell? ⟨w.heap.size, 6, none⟩ = some (.int .u64 d.a3) ∧ W.cell? ⟨w.heap.size, 7, none⟩ = some (.int .u64 d.a4) ∧ W.cell? ⟨w.heap.size, 8, none⟩ = some (.int .u64 d.a5))
            ((first | exact KS2.out | exact KS4.out | go_keep))
            (first
              | (go_at_call 69; refine (vm_step.calls (mb := w1.heap.size) (an := an) (x := 0) i d _ HS.out (blk_drew M1.out)).mono ?_; rintro e w4 ⟨⟨rfl, hm⟩, hg⟩; have KS4 := Aside0.mk (HKeep.out _ hg); have N1 := Aside0.mk hm; have N2 := Aside0.mk hg; clear hm hg))
          have e1 : IntKind.i64.wrap (p : Int) = (p : Int) := by rw [IntWalk.i64_in _ (by have := HLN.out; have := HLT.out; omega)]
          have e2 : wrap64 ((p : Int) + 1) = ((p + 1 : Nat) : Int) := by rw [IntWalk.wrap64_in _ (by have := HLN.out; have := HLT.out; omega)]; rfl
          have E1 := Aside0.mk e1
          have E2 := Aside0.mk e2
          clear e1 e2 p1 p2 p3
          try simp only [Int.add_zero]
          try rw [E1.out]
          go_wp2_with fail
          rw [E2.out]
          refine ⟨⟨p + 1, a, v, _, true, rfl, by have := HLT.out; omega, N1, ⟨gr_blk N2.out (blk_drew M2.out) (by have := HW1.out; simp; omega)⟩, ⟨gr_blk N2.out (blk_drew M3.out) (by have := HW1.out; simp; omega)⟩, ⟨(gr_drewN M4.out 1).andThen N2.out (fun j hj => .inl (by cases hj; have := HW1.out; omega))⟩, ⟨.inr ⟨rfl, rfl⟩⟩⟩, ?_⟩
          have := HLT.out
          simp only [intOf]
          omega
      · cases hk
    · go_wp2
      go_ret2
      exact ⟨rfl, ⟨m, H3.out⟩, H4.out⟩
def RanAs (ans : Int) (e : Ending) : Prop := ∃ n : Int, e = .returned (.tuple #[.int .u32 ans, .int .i64 n, .int .i64 0])
theorem below_of_gr {w W : World} {g B : Nat} (hB : B ≤ w.heap.size) (hg : w.grownBy W (some g)) (h : B ≤ g) {w0 : World} (h0 : Below B w0 w) : Below B w0 W := h0.grown hg hB (fun j hj => by cases hj; exact h)
set_option maxHeartbeats 8000000 in
set_option maxRecDepth 100000 in
theorem run_calls (A : Option Addr) (c : Nat) (l : List S84) (d : DT) (w : World) (ans : Int) (k : Nat) (hr : Kd.C k84 w A l.length l) (hl : ProgOk l) (hv : vmRun d l k 0 0 = some ans) :
    Calls Try.prog 30 #[.slice A l.length c, .agg d.cells] w fun e w' => RanAs ans e ∧ Below w.heap.size w w' := by
  have hlt := C84_lt hr hl.1
  have HR := Aside0.mk hr
  have HL := Aside0.mk hl
  have HV := Aside0.mk hv
  have HLT := Aside0.mk hlt
  clear hr hl hv hlt
  have hmf : ∀ (fn : Fn) (first cap : Array Value) (w : World), (Instr.makeFunc fn first cap).run Try.prog w = .ok (.func fn first cap) w := fun _ _ _ _ => rfl
  have HD : d.cells = #[.int .u32 d.nr, .int .u32 d.arch, .int .u64 d.ip, .int .u64 d.a0, .int .u64 d.a1, .int .u64 d.a2, .int .u64 d.a3, .int .u64 d.a4, .int .u64 d.a5] := rfl
  have HDA := Aside0.mk HD
  rw [HD]
  clear HD
  go_enter Try.func30, Try.ntmps30
  go_wp2_with fail
  rw [← HDA.out]
  have HB := Aside0.mk (below_alloc (below_alloc (Below.refl w.heap.size w) (.cells d.cells 27 (0, 0))) (cnt 0))
  refine (play_calls A c l d _ (w.heap.size + 1) 0 ans k (Kd.C_below HR.out HB.out) HL.out HV.out (blk_top (by simp)) (fun ad e => by have := HLT.out ad e; omega)).mono ?_
  rintro e w1 ⟨rfl, ⟨m, hm⟩, hg⟩
  have HB2 := Aside0.mk (below_of_gr (B := w.heap.size) (by simp; omega) hg (by omega) HB.out)
  have x0 : w1.cell? ⟨w.heap.size + 1, 0, none⟩ = some (.int .i64 m) := (blk_cell hm 0).trans rfl
  clear hm hg
  go_wp2_with fail
  go_quiet (fail)
  go_wp2
  refine bodyPost_ret (v := .tuple #[.int .u32 ans, .int .i64 m, .int .i64 0]) (by simp [results, Try.results30, go_sem]) rfl ⟨⟨m, rfl⟩, pw_below_drewN HB2.out _⟩
end Go.Proofs.Ytidnojkijfinaaa.Fns
