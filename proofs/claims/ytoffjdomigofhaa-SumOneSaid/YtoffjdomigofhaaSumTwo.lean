/- The two laws of Sum that take an array of two bytes: their walks. -/
import Derived.Test.YtoffjdomigofhaaPureSum
import Derived.ProofKit
import Derived.Lib.SmallJoins
namespace Go.Proofs.Ytoffjdomigofhaa.Fns
open Go.RowKit Go.Proofs.YtoffjdomigofhaaW.PrintWords Go.Proofs.YtoffjdomigofhaaW.PrintLast Go.Proofs.YtoffjdomigofhaaW.PrintMore Go.ChangeShapes Go.WideShapes
set_option linter.unusedVariables false
set_option linter.unusedSimpArgs false

/-- an array of two bytes, by value, opened -/
theorem open_two {H : Type} {enc : TypeId × Value → H} {P : Program} {w : World} {base b0 : Nat} {spare : Nat → Bool} {held : Bool} {r : Reach} {t e : TypeId} {v : Value} {d : DataW H} {p : List MemPlace}
    (ht : P.underlying t = some (.array 2 e)) (he : P.underlying e = some (.int .u8)) (hce : P.cellsOf e = 1) (hC : P.cellsOf t = 2)
    (hv : Value.okWide P w r b0 t v) (h : DataW.Trod enc P w base spare held t v d p) :
    ∃ x y : Int, v = .agg #[.int .u8 x, .int .u8 y] ∧ (Lit.int .u8 x).wf = true ∧ (Lit.int .u8 y).wf = true := by
  simp only [Value.okWide, ht] at hv
  obtain ⟨cs, rfl, hsz, _⟩ := hv
  obtain ⟨c0, c1, rfl⟩ := Joins.array2 (hsz.trans hC)
  obtain ⟨fuel, hf⟩ := h
  obtain ⟨xs, m, _, _, _, hl, hx⟩ := DataW.trod_array ht hf
  have a0 := hx 0 (by omega)
  have a1 := hx 1 (by omega)
  rw [hce] at a0 a1
  simp only [Value.cells, Nat.zero_mul, List.drop_zero, Nat.one_mul, List.drop_succ_cons, List.take_succ_cons, List.take_zero] at a0 a1
  have e0 : xs[0]? = some xs[0] := List.getElem?_eq_getElem (by omega)
  have e1 : xs[1]? = some xs[1] := List.getElem?_eq_getElem (by omega)
  rw [e0] at a0
  rw [e1] at a1
  obtain ⟨x, q0, _, w0⟩ := DataW.trod_int he a0
  obtain ⟨y, q1, _, w1⟩ := DataW.trod_int he a1
  simp at q0 q1
  subst q0 q1
  exact ⟨x, y, rfl, w0, w1⟩

set_option maxHeartbeats 8000000 in
set_option maxRecDepth 100000 in
theorem rolls_any (s n x y : Int) (w : World) (hs : 0 ≤ s ∧ s ≤ 4294967295) (hx : 0 ≤ x ∧ x ≤ 255) (hy : 0 ≤ y ∧ y ≤ 255) :
    Calls Try.prog 7 #[.int .u32 s, .int .i64 n, .agg #[.int .u8 x, .int .u8 y]] w fun e w' => e = .returned (.bool true) ∧ Below w.heap.size w w' := by
  have h1 := Pure.roll_is s n x y hs.1 hs.2 hx.1 hx.2 hy.1 hy.2
  have h2 := Pure.ref_roll_is s n x y hs.1 hs.2 hx.1 hx.2 hy.1 hy.2
  generalize SumMath.pk _ = R at h1 h2
  have H1 := Aside0.mk h1
  have H2 := Aside0.mk h2
  clear h1 h2 hs hx hy
  have HA := Aside0.mk (Pure.awake_is 10 (by omega))
  go_enter Try.func7, Try.ntmps7
  go_wp2_with fail
  refine (fairleadlaw01_awake.calls 10 true _ HA.out).mono ?_
  rintro e w1 ⟨rfl, hb⟩
  have hz : w.heap.size < w1.heap.size := by have := hb.size; simp at this; omega
  have c0 : w1.cell? ⟨w.heap.size, 0, none⟩ = some (.int .u8 x) := by rw [hb.cell (p := ⟨w.heap.size, 0, none⟩) (by simp)]; simp
  have c1 : w1.cell? ⟨w.heap.size, 1, none⟩ = some (.int .u8 y) := by rw [hb.cell (p := ⟨w.heap.size, 1, none⟩) (by simp)]; simp
  have HB := Aside0.mk (below_then ((Below.refl w.heap.size w).alloc (Nat.le_refl _) (.cells #[.int .u8 x, .int .u8 y] 30)) (by simp) hb)
  clear hb hz
  go_wp2_with fail
  go_quiet ((first | (go_at_call 14; exact Calls.quiet_of ((sum_Roll.calls s n x y R _ H1.out).mono fun _ _ ⟨he, hd⟩ => ⟨he, hd.out⟩)) | (go_at_call 15; exact Calls.quiet_of ((fairleadref01_Roll.calls s n x y R _ H2.out).mono fun _ _ ⟨he, hd⟩ => ⟨he, hd.out⟩))))
  go_wp2_with fail
  go_ret
  exact ⟨by simp, by repeat (first | exact HB.out | apply below_alloc | apply pw_below_drewN | apply below_drew1)⟩
end Go.Proofs.Ytoffjdomigofhaa.Fns
