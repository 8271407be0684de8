/- awake: three numbers. -/
import Derived.Test.YtioccjeiheejjaaTrBuild
namespace Go.Proofs.Ytioccjeiheejjaa.Tree
open Go.RowKit Go.Proofs.YtioccjeiheejjaaW.PrintWords Go.Proofs.YtioccjeiheejjaaW.PrintLast Go.Proofs.YtioccjeiheejjaaW.PrintMore Go.Proofs.Ytioccjeiheejjaa.Fns
set_option linter.unusedVariables false
set_option linter.unusedSimpArgs false

theorem const32 (w : World) (e : TypeId) (l : List Int) (hm : l.length ≤ 9223372036854775807) :
    Kd.C (Kd.int .u32) (w.alloc (.cells (l.map (Value.int .u32)).toArray e (0, 0))) (some ⟨w.heap.size, 0, none⟩) l.length l := by
  refine Kd.C_of_reads (d := (0 : Int)) (h1 := fun _ => rfl) ⟨rfl, hm, fun _ => ⟨_, rfl, fun j hj => ?_⟩⟩
  rw [add_plain, World.cell?_alloc_mark]
  simp [List.getD_eq_getElem?_getD, hj]
theorem rises579 : tree_rises.f 10 [5, 7, 9] = some true := by kernel_rfl
theorem path579 : tree_Path.f 100 [5, 7, 9] 8 = some [1, 2, 1] := by kernel_rfl
theorem mids579 : mids (parts 3 0 3) = [1, 2] := by kernel_rfl

set_option maxHeartbeats 4000000 in
set_option maxRecDepth 100000 in
theorem awake_calls (w : World) : Calls Try.prog 9 #[] w fun e w' => e = .returned (.bool true) ∧ Below w.heap.size w w' := by
  have hb0 := build_main (some ⟨w.heap.size, 0, none⟩) 3 [5, 7, 9] (w.alloc (.cells ([5, 7, 9].map (Value.int .u32)).toArray 39 (0, 0))) (const32 w 39 [5, 7, 9] (by simp)) (by simp) (by simp) 10 rises579
  have HBD := Aside0.mk hb0
  clear hb0
  go_enter Try.func9, Try.ntmps9
  go_wp2_with fail
  refine HBD.out.mono ?_
  rintro e w1 ⟨v1, rfl, hr1, hb1⟩
  rw [show mids (parts ([5, 7, 9] : List Int).length 0 ([5, 7, 9] : List Int).length) = [1, 2] from mids579] at hr1
  obtain ⟨A1, c1, rfl⟩ := Kd.R_slice hr1
  have hb1' : Below w.heap.size w w1 := below_then (below_alloc (Below.refl _ _) _) (by simp) hb1
  have HR1 := Aside0.mk hr1
  have HB1 := Aside0.mk hb1'
  have hp := tree_Path.calls 100 (some ⟨w1.heap.size, 0, none⟩) 3 [5, 7, 9] 8 [1, 2, 1] (w1.alloc (.cells ([5, 7, 9].map (Value.int .u32)).toArray 39 (0, 0))) (const32 w1 39 [5, 7, 9] (by simp)) (by simp) path579
  have HP := Aside0.mk hp
  clear hr1 hb1 hb1' hp HBD
  go_wp2_with fail
  refine HP.out.mono ?_
  rintro e w2 ⟨v2, rfl, hr2, hb2⟩
  obtain ⟨A2, c2, rfl⟩ := Kd.R_slice hr2
  have hb2' : Below w1.heap.size w1 w2 := below_then (below_alloc (Below.refl _ _) _) (by simp) hb2
  have hr1' := Kd.R_below HR1.out hb2'
  obtain ⟨ad1, e1, x1⟩ := Kd.at_int (Kd.R_reads' hr1').2.2 1 (by decide) (by decide)
  obtain ⟨ad2, e2, x2⟩ := Kd.at_int (Kd.R_reads' hr2).2.2 2 (by decide) (by decide)
  cases e1
  cases e2
  have HB2 := Aside0.mk (below_then HB1.out HB1.out.size hb2')
  clear hr1' hr2 hb2 hb2'
  have x1' : w2.cell? ⟨ad1.block, ad1.off + 1, none⟩ = some (.int .i64 2) := x1
  have x2' : w2.cell? ⟨ad2.block, ad2.off + 2, none⟩ = some (.int .i64 1) := x2
  clear x1 x2
  go_wp2_with fail

  go_ret
  exact ⟨rfl, HB2.out⟩
end Go.Proofs.Ytioccjeiheejjaa.Tree
