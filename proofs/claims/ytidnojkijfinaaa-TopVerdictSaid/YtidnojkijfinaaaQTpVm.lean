/- Part of the proof of TopVerdictSaid. -/
import Derived.Test.YtidnojkijfinaaaQTpData
import Derived.Maps.AppendAt
import Derived.Maps.RangeWalk
import Derived.BigQuiet
import Derived.Deep.QuietTactic
namespace Go.Proofs.Ytidnojkijfinaaa.Fns
open Go.RowKit Go.Proofs.YtidnojkijfinaaaW.PrintWords Go.Proofs.YtidnojkijfinaaaW.PrintLast Go.Proofs.YtidnojkijfinaaaW.PrintMore
attribute [local go_sem] max2_int min2_int max_two min_two max_three min_three max_four min_four
set_option linter.unusedVariables false
set_option linter.unusedSimpArgs false
theorem gr_refl (w : World) (r : Option Nat) : w.grownBy w r := grown_of_below (Below.refl _ _) r
theorem gr_below {w W W' : World} {r : Option Nat} (h : w.grownBy W r) (hb : Below W.heap.size W W') : w.grownBy W' r := h.trans (grown_of_below hb r)
theorem gr_alloc {w W : World} {r : Option Nat} (h : w.grownBy W r) (o : Obj) : w.grownBy (W.alloc o) r := gr_below h (below_alloc (Below.refl _ _) o)
theorem gr_drewN {w W : World} {r : Option Nat} (h : w.grownBy W r) (n : Nat) : w.grownBy (W.drewN n) r := gr_below h (pw_below_drewN (Below.refl _ _) n)
theorem gr_set {w W : World} {g : Nat} (h : w.grownBy W (some g)) (j : Nat) (u : Value) : w.grownBy (W.setCell ⟨g, j, none⟩ u) (some g) :=
  ⟨h.os, h.tape, h.output, by simpa using h.size, fun i hi hne => (Below.heap_setCell W ⟨g, j, none⟩ u i (fun e => hne (by rw [e]))).trans (h.block i hi hne)⟩
theorem gr_new {w W : World} {r : Option Nat} (h : w.grownBy W r) {b : Nat} (hb : w.heap.size ≤ b) (j : Nat) (u : Value) : w.grownBy (W.setCell ⟨b, j, none⟩ u) r :=
  ⟨h.os, h.tape, h.output, by simpa using h.size, fun i hi hne => (Below.heap_setCell W ⟨b, j, none⟩ u i (fun e => by simp at e; omega)).trans (h.block i hi hne)⟩
theorem gr_blk {w W : World} {r : Option Nat} {g : Nat} {o : Obj} (h : w.grownBy W r) (hb : w.heap[g]? = some o) (hne : some g ≠ r) : W.heap[g]? = some o := (h.block g (blk_lt hb) hne).trans hb
def mc (a x : Int) (mb : Nat) (ov : Bool) (an : Int) : Obj := .cells #[.int .u32 a, .int .u32 x, .map (some mb), .bool ov, .int .u32 an] 149 (0, 0)
section
variable {w : World} {g : Nat} {a x an : Int} {mb : Nat} {ov : Bool}
theorem mc_cells (h : w.heap[g]? = some (mc a x mb ov an)) : w.cell? ⟨g, 0, none⟩ = some (.int .u32 a) ∧ w.cell? ⟨g, 1, none⟩ = some (.int .u32 x) ∧ w.cell? ⟨g, 2, none⟩ = some (.map (some mb)) ∧ w.cell? ⟨g, 3, none⟩ = some (.bool ov) ∧ w.cell? ⟨g, 4, none⟩ = some (.int .u32 an) ∧ w.frozen? ⟨g, 0, none⟩ = false ∧ w.frozen? ⟨g, 3, none⟩ = false ∧ w.frozen? ⟨g, 4, none⟩ = false :=
  ⟨(blk_cell h 0).trans rfl, (blk_cell h 1).trans rfl, (blk_cell h 2).trans rfl, (blk_cell h 3).trans rfl, (blk_cell h 4).trans rfl, blk_frozen h 0, blk_frozen h 3, blk_frozen h 4⟩
set_option maxHeartbeats 4000000 in
set_option maxRecDepth 100000 in
theorem vm_end.calls (v : Int) (h : w.heap[g]? = some (mc a x mb ov an)) :
    Calls Try.prog 98 #[.pointer (some ⟨g, 0, none⟩), .int .u32 v] w fun e w' => e = .returned (.tuple #[]) ∧ w'.heap[g]? = some (mc a x mb true v) ∧ w.grownBy w' (some g) := by
  have hu149 := Try.underlying149
  obtain ⟨c0, c1, c2, c3, c4, f0, f3, f4⟩ := mc_cells h
  have H := Aside0.mk h
  clear h
  go_enter Try.func98, Try.ntmps98
  go_wp2
  go_end0
  exact ⟨rfl, blk_put (blk_put H.out 3 _ rfl) 4 _ rfl, gr_set (gr_set (gr_refl _ _) _ _) _ _⟩
set_option maxHeartbeats 4000000 in
set_option maxRecDepth 100000 in
theorem vm_and.calls (n : Int) (h : w.heap[g]? = some (mc a x mb ov an)) :
    Calls Try.prog 90 #[.pointer (some ⟨g, 0, none⟩), .int .u16 84, .int .u32 n] w fun e w' => e = .returned (.tuple #[]) ∧ w'.heap[g]? = some (mc (bits .and .u32 a n) x mb ov an) ∧ w.grownBy w' (some g) := by
  have hu149 := Try.underlying149
  obtain ⟨c0, c1, c2, c3, c4, f0, f3, f4⟩ := mc_cells h
  have H := Aside0.mk h
  clear h
  go_enter Try.func90, Try.ntmps90
  go_wp2
  go_end0
  exact ⟨rfl, blk_put H.out 0 _ rfl, gr_set (gr_refl _ _) _ _⟩
def jmpB (c a n : Int) : Bool := if c = 21 then a == n else if c = 37 then decide (n < a) else decide (n ≤ a)
set_option maxHeartbeats 4000000 in
set_option maxRecDepth 100000 in
theorem vm_holds.calls (c n : Int) (hc : c = 21 ∨ c = 37 ∨ c = 53) (h : w.heap[g]? = some (mc a x mb ov an)) :
    Calls Try.prog 89 #[.pointer (some ⟨g, 0, none⟩), .int .u16 c, .int .u32 n] w fun e w' => e = .returned (.bool (jmpB c a n)) ∧ w = w' := by
  have hu149 := Try.underlying149
  obtain ⟨c0, c1, c2, c3, c4, f0, f3, f4⟩ := mc_cells h
  clear h
  rcases hc with rfl | rfl | rfl
  all_goals
    go_enter Try.func89, Try.ntmps89
    go_wp2
    go_ret
    exact ⟨rfl, rfl⟩
def S84.cells (i : S84) : Array Value := #[.int .u16 i.f0, .int .u8 i.f1, .int .u8 i.f2, .int .u32 i.f3]
set_option maxHeartbeats 8000000 in
set_option maxRecDepth 100000 in
theorem vm_moves_no (i : S84) (d : DT) (hc : i.f0 = 84 ∨ i.f0 = 21 ∨ i.f0 = 37 ∨ i.f0 = 53 ∨ i.f0 = 5) (h : w.heap[g]? = some (mc a x mb ov an)) :
    Calls Try.prog 88 #[.pointer (some ⟨g, 0, none⟩), .agg i.cells, .agg d.cells] w fun e w' => e = .returned (.bool false) ∧ Below w.heap.size w w' := by
  have hu84 := Try.underlying84
  clear h
  obtain ⟨c, jt, jf, K⟩ := i
  unfold S84.cells DT.cells
  simp only at hc
  rcases hc with rfl | rfl | rfl | rfl | rfl
  all_goals
    go_enter Try.func88, Try.ntmps88
    go_wp2
    go_ret
    exact ⟨rfl, below_alloc (below_alloc (Below.refl _ _) _) _⟩
set_option maxHeartbeats 8000000 in
set_option maxRecDepth 100000 in
theorem vm_moves_ld (i : S84) (d : DT) (j : Nat) (hc : i.f0 = 32) (hj : j < 16) (hk : i.f3 = 4 * (j : Int)) (h : w.heap[g]? = some (mc a x mb ov an)) :
    Calls Try.prog 88 #[.pointer (some ⟨g, 0, none⟩), .agg i.cells, .agg d.cells] w fun e w' => e = .returned (.bool true) ∧ w'.heap[g]? = some (mc (d.word j) x mb ov an) ∧ w.grownBy w' (some g) := by
  have hu84 := Try.underlying84
  have hu149 := Try.underlying149
  obtain ⟨c, jt, jf, K⟩ := i
  unfold S84.cells
  simp only at hc hk
  subst hc
  have HK := Aside0.mk hk
  have HJ := Aside0.mk hj
  have H := Aside0.mk h
  clear h hj hk
  have HD : d.cells = #[.int .u32 d.nr, .int .u32 d.arch, .int .u64 d.ip, .int .u64 d.a0, .int .u64 d.a1, .int .u64 d.a2, .int .u64 d.a3, .int .u64 d.a4, .int .u64 d.a5] := rfl
  have HDA := Aside0.mk HD
  rw [HD]
  clear HD
  go_enter Try.func88, Try.ntmps88
  go_wp2_with fail
  rw [← HDA.out]
  refine (data_Load.calls d j K _ HJ.out HK.out).mono ?_
  rintro e w1 ⟨rfl, hb⟩
  have HB1 := Aside0.mk hb
  have HM := Aside0.mk (blk_below (blk_alloc (blk_alloc H.out _) _) hb)
  obtain ⟨c0, c1, c2, c3, c4, f0, f3, f4⟩ := mc_cells HM.out
  clear hb
  go_wp2
  go_ret
  exact ⟨rfl, blk_put HM.out 0 _ rfl, gr_set (gr_below (gr_alloc (gr_alloc (gr_refl _ _) _) _) HB1.out) _ _⟩
set_option maxHeartbeats 8000000 in
set_option maxRecDepth 100000 in
theorem vm_moves_ret (i : S84) (d : DT) (hc : i.f0 = 6) (h : w.heap[g]? = some (mc a x mb ov an)) :
    Calls Try.prog 88 #[.pointer (some ⟨g, 0, none⟩), .agg i.cells, .agg d.cells] w fun e w' => e = .returned (.bool true) ∧ w'.heap[g]? = some (mc a x mb true i.f3) ∧ w.grownBy w' (some g) := by
  have hu84 := Try.underlying84
  obtain ⟨c, jt, jf, K⟩ := i
  unfold S84.cells DT.cells
  simp only at hc
  subst hc
  have H := Aside0.mk h
  clear h
  go_enter Try.func88, Try.ntmps88
  go_wp2_with fail
  have HM := Aside0.mk (blk_alloc (blk_alloc H.out (.cells #[.int .u16 6, .int .u8 jt, .int .u8 jf, .int .u32 K] 84 (0, 0))) (.cells d.cells 27 (0, 0)))
  refine (vm_end.calls K HM.out).mono ?_
  rintro e w1 ⟨rfl, hm, hg⟩
  have HM1 := Aside0.mk hm
  have HG := Aside0.mk hg
  clear hm hg
  go_wp2
  go_ret
  exact ⟨rfl, HM1.out, (gr_alloc (gr_alloc (gr_refl _ _) _) _).trans HG.out⟩
def skipOf (i : S84) (a : Int) : Int := if jmpB i.f0 a i.f3 then i.f1 else i.f2
def vmStep (d : DT) (i : S84) (a : Int) : Option (Sum (Int × Int) Int) :=
  if 0 ≤ i.f3 ∧ i.f3 < 4294967296 ∧ 0 ≤ i.f1 ∧ i.f1 < 256 ∧ 0 ≤ i.f2 ∧ i.f2 < 256 then
    if i.f0 = 32 then (if i.f3 % 4 = 0 ∧ i.f3 < 64 then some (.inl (d.word (i.f3 / 4).toNat, 0)) else none)
    else if i.f0 = 84 then some (.inl (bits .and .u32 a i.f3, 0))
    else if i.f0 = 21 ∨ i.f0 = 37 ∨ i.f0 = 53 then some (.inl (a, skipOf i a))
    else if i.f0 = 5 then some (.inl (a, i.f3))
    else if i.f0 = 6 then some (.inr i.f3) else none
  else none
set_option maxHeartbeats 8000000 in
set_option maxRecDepth 100000 in
theorem step_jump (i : S84) (d : DT) (hc : i.f0 = 21 ∨ i.f0 = 37 ∨ i.f0 = 53) (hb : 0 ≤ i.f1 ∧ i.f1 < 256 ∧ 0 ≤ i.f2 ∧ i.f2 < 256) (h : w.heap[g]? = some (mc a x mb ov an)) :
    Calls Try.prog 69 #[.pointer (some ⟨g, 0, none⟩), .agg i.cells, .agg d.cells] w fun e w' => e = .returned (.int .i64 (skipOf i a)) ∧ w'.heap[g]? = some (mc a x mb ov an) ∧ w.grownBy w' (some g) := by
  have hu84 := Try.underlying84
  obtain ⟨c, jt, jf, K⟩ := i
  unfold S84.cells
  simp only at hc hb
  obtain ⟨b1, b2, b3, b4⟩ := hb
  have H := Aside0.mk h
  have HC := Aside0.mk hc
  clear h hc
  have HD : d.cells = #[.int .u32 d.nr, .int .u32 d.arch, .int .u64 d.ip, .int .u64 d.a0, .int .u64 d.a1, .int .u64 d.a2, .int .u64 d.a3, .int .u64 d.a4, .int .u64 d.a5] := rfl
  have HDA := Aside0.mk HD
  rw [HD]
  clear HD
  go_enter Try.func69, Try.ntmps69
  go_wp2_with fail
  rw [← HDA.out]
  refine (vm_moves_no ⟨c, jt, jf, K⟩ d (by have := HC.out; simp; omega) (blk_alloc (blk_alloc H.out _) _)).mono ?_
  rintro e w1 ⟨rfl, hb⟩
  have HB1 := Aside0.mk hb
  have HM := Aside0.mk (blk_below (blk_alloc (blk_alloc H.out _) _) hb)
  have hb2 := blk_below (blk_alloc (blk_new w (.cells #[.int .u16 c, .int .u8 jt, .int .u8 jf, .int .u32 K] 84 (0, 0))) _) hb
  have i0 : w1.cell? ⟨w.heap.size, 0, none⟩ = some (.int .u16 c) := (blk_cell hb2 0).trans rfl
  have i1 : w1.cell? ⟨w.heap.size, 1, none⟩ = some (.int .u8 jt) := (blk_cell hb2 1).trans rfl
  have i2 : w1.cell? ⟨w.heap.size, 2, none⟩ = some (.int .u8 jf) := (blk_cell hb2 2).trans rfl
  have i3 : w1.cell? ⟨w.heap.size, 3, none⟩ = some (.int .u32 K) := (blk_cell hb2 3).trans rfl
  clear hb hb2
  have hc := HC.out
  obtain ⟨q, hq⟩ : ∃ q, jmpB c a K = q := ⟨_, rfl⟩
  have HQ := Aside0.mk hq
  clear hq
  rcases hc with rfl | rfl | rfl
  all_goals
    go_wp2_with fail
    go_quiet (fail)
    go_wp2_with fail
    refine (vm_holds.calls _ K (by simp) (blk_drewN HM.out _)).mono ?_
    rintro e w2 ⟨rfl, rfl⟩
    rw [HQ.out]
    cases q
    all_goals
      go_wp2
      go_ret
      exact ⟨by unfold skipOf; simp only; rw [HQ.out]; rfl, blk_drewN HM.out _, gr_drewN (gr_below (gr_alloc (gr_alloc (gr_refl _ _) _) _) HB1.out) _⟩
set_option maxHeartbeats 8000000 in
set_option maxRecDepth 100000 in
theorem step_ja (i : S84) (d : DT) (hc : i.f0 = 5) (hb : 0 ≤ i.f3 ∧ i.f3 < 4294967296) (h : w.heap[g]? = some (mc a x mb ov an)) :
    Calls Try.prog 69 #[.pointer (some ⟨g, 0, none⟩), .agg i.cells, .agg d.cells] w fun e w' => e = .returned (.int .i64 i.f3) ∧ w'.heap[g]? = some (mc a x mb ov an) ∧ w.grownBy w' (some g) := by
  have hu84 := Try.underlying84
  obtain ⟨c, jt, jf, K⟩ := i
  unfold S84.cells
  simp only at hc hb
  obtain ⟨b1, b2⟩ := hb
  subst hc
  have H := Aside0.mk h
  clear h
  have HD : d.cells = #[.int .u32 d.nr, .int .u32 d.arch, .int .u64 d.ip, .int .u64 d.a0, .int .u64 d.a1, .int .u64 d.a2, .int .u64 d.a3, .int .u64 d.a4, .int .u64 d.a5] := rfl
  have HDA := Aside0.mk HD
  rw [HD]
  clear HD
  go_enter Try.func69, Try.ntmps69
  go_wp2_with fail
  rw [← HDA.out]
  refine (vm_moves_no ⟨5, jt, jf, K⟩ d (by simp) (blk_alloc (blk_alloc H.out _) _)).mono ?_
  rintro e w1 ⟨rfl, hb⟩
  have HB1 := Aside0.mk hb
  have HM := Aside0.mk (blk_below (blk_alloc (blk_alloc H.out _) _) hb)
  have hb2 := blk_below (blk_alloc (blk_new w (.cells #[.int .u16 5, .int .u8 jt, .int .u8 jf, .int .u32 K] 84 (0, 0))) _) hb
  have i0 : w1.cell? ⟨w.heap.size, 0, none⟩ = some (.int .u16 5) := (blk_cell hb2 0).trans rfl
  have i3 : w1.cell? ⟨w.heap.size, 3, none⟩ = some (.int .u32 K) := (blk_cell hb2 3).trans rfl
  clear hb hb2
  go_wp2_with fail
  go_quiet (fail)
  go_wp2
  go_ret
  exact ⟨rfl, blk_drewN HM.out _, gr_drewN (gr_below (gr_alloc (gr_alloc (gr_refl _ _) _) _) HB1.out) _⟩
set_option maxHeartbeats 8000000 in
set_option maxRecDepth 100000 in
theorem step_and (i : S84) (d : DT) (hc : i.f0 = 84) (h : w.heap[g]? = some (mc a x mb ov an)) :
    Calls Try.prog 69 #[.pointer (some ⟨g, 0, none⟩), .agg i.cells, .agg d.cells] w fun e w' => e = .returned (.int .i64 0) ∧ w'.heap[g]? = some (mc (bits .and .u32 a i.f3) x mb ov an) ∧ w.grownBy w' (some g) := by
  have hu84 := Try.underlying84
  obtain ⟨c, jt, jf, K⟩ := i
  unfold S84.cells
  simp only at hc
  subst hc
  have H := Aside0.mk h
  clear h
  have HD : d.cells = #[.int .u32 d.nr, .int .u32 d.arch, .int .u64 d.ip, .int .u64 d.a0, .int .u64 d.a1, .int .u64 d.a2, .int .u64 d.a3, .int .u64 d.a4, .int .u64 d.a5] := rfl
  have HDA := Aside0.mk HD
  rw [HD]
  clear HD
  go_enter Try.func69, Try.ntmps69
  go_wp2_with fail
  rw [← HDA.out]
  refine (vm_moves_no ⟨84, jt, jf, K⟩ d (by simp) (blk_alloc (blk_alloc H.out _) _)).mono ?_
  rintro e w1 ⟨rfl, hb⟩
  have HB1 := Aside0.mk hb
  have HM := Aside0.mk (blk_below (blk_alloc (blk_alloc H.out _) _) hb)
  have hb2 := blk_below (blk_alloc (blk_new w (.cells #[.int .u16 84, .int .u8 jt, .int .u8 jf, .int .u32 K] 84 (0, 0))) _) hb
  have i0 : w1.cell? ⟨w.heap.size, 0, none⟩ = some (.int .u16 84) := (blk_cell hb2 0).trans rfl
  have i3 : w1.cell? ⟨w.heap.size, 3, none⟩ = some (.int .u32 K) := (blk_cell hb2 3).trans rfl
  clear hb hb2
  go_wp2_with fail
  go_quiet (fail)
  go_wp2_with fail
  refine (vm_and.calls K (blk_drewN HM.out _)).mono ?_
  rintro e w2 ⟨rfl, hm, hg⟩
  have HM2 := Aside0.mk hm
  have HG2 := Aside0.mk hg
  clear hm hg
  go_wp2
  go_ret
  exact ⟨rfl, HM2.out, (gr_drewN (gr_below (gr_alloc (gr_alloc (gr_refl _ _) _) _) HB1.out) _).trans HG2.out⟩
set_option maxHeartbeats 8000000 in
set_option maxRecDepth 100000 in
theorem step_ld (i : S84) (d : DT) (j : Nat) (hc : i.f0 = 32) (hj : j < 16) (hk : i.f3 = 4 * (j : Int)) (h : w.heap[g]? = some (mc a x mb ov an)) :
    Calls Try.prog 69 #[.pointer (some ⟨g, 0, none⟩), .agg i.cells, .agg d.cells] w fun e w' => e = .returned (.int .i64 0) ∧ w'.heap[g]? = some (mc (d.word j) x mb ov an) ∧ w.grownBy w' (some g) := by
  have hu84 := Try.underlying84
  obtain ⟨c, jt, jf, K⟩ := i
  unfold S84.cells
  simp only at hc hk
  subst hc
  have HJ := Aside0.mk hj
  have HK := Aside0.mk hk
  have H := Aside0.mk h
  clear h hk hj
  have HD : d.cells = #[.int .u32 d.nr, .int .u32 d.arch, .int .u64 d.ip, .int .u64 d.a0, .int .u64 d.a1, .int .u64 d.a2, .int .u64 d.a3, .int .u64 d.a4, .int .u64 d.a5] := rfl
  have HDA := Aside0.mk HD
  rw [HD]
  clear HD
  go_enter Try.func69, Try.ntmps69
  go_wp2_with fail
  rw [← HDA.out]
  refine (vm_moves_ld ⟨32, jt, jf, K⟩ d j rfl HJ.out HK.out (blk_alloc (blk_alloc H.out _) _)).mono ?_
  rintro e w1 ⟨rfl, hm, hg⟩
  have HM := Aside0.mk hm
  have HG := Aside0.mk hg
  clear hm hg
  go_wp2
  go_ret
  exact ⟨rfl, HM.out, (gr_alloc (gr_alloc (gr_refl _ _) _) _).trans HG.out⟩
set_option maxHeartbeats 8000000 in
set_option maxRecDepth 100000 in
theorem step_ret (i : S84) (d : DT) (hc : i.f0 = 6) (h : w.heap[g]? = some (mc a x mb ov an)) :
    Calls Try.prog 69 #[.pointer (some ⟨g, 0, none⟩), .agg i.cells, .agg d.cells] w fun e w' => e = .returned (.int .i64 0) ∧ w'.heap[g]? = some (mc a x mb true i.f3) ∧ w.grownBy w' (some g) := by
  have hu84 := Try.underlying84
  obtain ⟨c, jt, jf, K⟩ := i
  unfold S84.cells
  simp only at hc
  subst hc
  have H := Aside0.mk h
  clear h
  have HD : d.cells = #[.int .u32 d.nr, .int .u32 d.arch, .int .u64 d.ip, .int .u64 d.a0, .int .u64 d.a1, .int .u64 d.a2, .int .u64 d.a3, .int .u64 d.a4, .int .u64 d.a5] := rfl
  have HDA := Aside0.mk HD
  rw [HD]
  clear HD
  go_enter Try.func69, Try.ntmps69
  go_wp2_with fail
  rw [← HDA.out]
  refine (vm_moves_ret ⟨6, jt, jf, K⟩ d rfl (blk_alloc (blk_alloc H.out _) _)).mono ?_
  rintro e w1 ⟨rfl, hm, hg⟩
  have HM := Aside0.mk hm
  have HG := Aside0.mk hg
  clear hm hg
  go_wp2
  go_ret
  exact ⟨rfl, HM.out, (gr_alloc (gr_alloc (gr_refl _ _) _) _).trans HG.out⟩
def stepped (w : World) (g : Nat) (a x : Int) (mb : Nat) (an : Int) (r : Sum (Int × Int) Int) (e : Ending) (w' : World) : Prop := match r with
  | .inl (a', s) => e = .returned (.int .i64 s) ∧ 0 ≤ s ∧ s < 4294967296 ∧ w'.heap[g]? = some (mc a' x mb false an)
  | .inr v => e = .returned (.int .i64 0) ∧ w'.heap[g]? = some (mc a x mb true v)
theorem vm_step.calls (i : S84) (d : DT) (r : Sum (Int × Int) Int) (hr : vmStep d i a = some r) (h : w.heap[g]? = some (mc a x mb false an)) :
    Calls Try.prog 69 #[.pointer (some ⟨g, 0, none⟩), .agg i.cells, .agg d.cells] w fun e w' => stepped w g a x mb an r e w' ∧ w.grownBy w' (some g) := by
  unfold vmStep at hr
  split at hr
  · rename_i hb
    obtain ⟨b1, b2, b3, b4, b5, b6⟩ := hb
    split at hr
    · rename_i h0
      split at hr
      · rename_i h1
        cases hr
        refine (step_ld i d (i.f3 / 4).toNat h0 (by omega) (by omega) h).mono ?_
        rintro e w1 ⟨rfl, hm, hg⟩
        exact ⟨⟨rfl, by omega, by omega, hm⟩, hg⟩
      · cases hr
    · split at hr
      · rename_i h0
        cases hr
        refine (step_and i d h0 h).mono ?_
        rintro e w1 ⟨rfl, hm, hg⟩
        exact ⟨⟨rfl, by omega, by omega, hm⟩, hg⟩
      · split at hr
        · rename_i h0
          cases hr
          refine (step_jump i d h0 ⟨b3, b4, b5, b6⟩ h).mono ?_
          rintro e w1 ⟨rfl, hm, hg⟩
          exact ⟨⟨rfl, by unfold skipOf; split <;> omega, by unfold skipOf; split <;> omega, hm⟩, hg⟩
        · split at hr
          · rename_i h0
            cases hr
            refine (step_ja i d h0 ⟨b1, b2⟩ h).mono ?_
            rintro e w1 ⟨rfl, hm, hg⟩
            exact ⟨⟨rfl, by omega, by omega, hm⟩, hg⟩
          · split at hr
            · rename_i h0
              cases hr
              refine (step_ret i d h0 h).mono ?_
              rintro e w1 ⟨rfl, hm, hg⟩
              exact ⟨⟨rfl, hm⟩, hg⟩
            · cases hr
  · cases hr
end
end Go.Proofs.Ytidnojkijfinaaa.Fns
