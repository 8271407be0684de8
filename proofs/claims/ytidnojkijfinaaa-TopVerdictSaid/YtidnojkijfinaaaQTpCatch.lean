/- Part of the proof of TopVerdictSaid. -/
import Derived.Test.YtidnojkijfinaaaQTpRule
import Derived.Defers
import Derived.Recover
namespace Go.Proofs.Ytidnojkijfinaaa.Fns
open Go.RowKit Go.Proofs.YtidnojkijfinaaaW.PrintWords Go.Proofs.YtidnojkijfinaaaW.PrintLast Go.Proofs.YtidnojkijfinaaaW.PrintMore
attribute [local go_sem] max2_int min2_int max_two min_two max_three min_three max_four min_four
set_option linter.unusedVariables false
set_option linter.unusedSimpArgs false
def z38 : Array Value := #[.int .i64 0, .int .i64 0, .slice none 0 0]
theorem ta_nil (w : World) : (Instr.typeAssert .nilIface 20 59 true).run Try.prog w = .ok (.tuple #[.agg #[.int .i64 0, .int .i64 0], .bool false]) w := by kernel_rfl
theorem ta_some (er at_ : Int) (w : World) : (Instr.typeAssert (.iface 59 (.agg #[.int .i64 er, .int .i64 at_])) 20 59 true).run Try.prog w = .ok (.tuple #[.agg #[.int .i64 er, .int .i64 at_], .bool true]) w := by kernel_rfl
section
variable {P : Program} {ops : Array Oper} {Q : Exit → Act → List Frame → World → Prop} {a : Act} {cs cs' : List Frame} {w w' : World} {i : Nat} {rest : List Nat} {o : Oper} {v : Value}
theorem opsS_none (ho : ops[i]? = some o) (hg : o.guard = none) (hr : (execOp a.eval o).run P w = .ok .recover w') (hc : recoverD cs = none) (h : wpOpsS P ops Q rest (a.put o.dst .nilIface) cs w') : wpOpsS P ops Q (i :: rest) a cs w := by
  have hw : Region.wanted o (yielded ops a.tmps) = true := by simp [Region.wanted, hg]
  simp only [wpOpsS, ho, hw, if_true, hr, hc]
  exact h
theorem opsS_some (ho : ops[i]? = some o) (hg : o.guard = none) (hr : (execOp a.eval o).run P w = .ok .recover w') (hc : recoverD cs = some (v, cs')) (h : wpOpsS P ops Q rest (a.put o.dst v) cs' w') : wpOpsS P ops Q (i :: rest) a cs w := by
  have hw : Region.wanted o (yielded ops a.tmps) = true := by simp [Region.wanted, hg]
  simp only [wpOpsS, ho, hw, if_true, hr, hc]
  exact h
theorem opsS_val (ho : ops[i]? = some o) (hg : o.guard = none) (hr : (execOp a.eval o).run P w = .ok (.value v) w') (h : wpOpsS P ops Q rest (a.put o.dst v) cs w') : wpOpsS P ops Q (i :: rest) a cs w := by
  have hw : Region.wanted o (yielded ops a.tmps) = true := by simp [Region.wanted, hg]
  simp only [wpOpsS, ho, hw, if_true, hr]
  exact h
theorem opsS_skip (ho : ops[i]? = some o) (hg : o.guard = none) (hr : (execOp a.eval o).run P w = .ok .skip w') (h : wpOpsS P ops Q rest (a.put o.dst undef) cs w') : wpOpsS P ops Q (i :: rest) a cs w := by
  have hw : Region.wanted o (yielded ops a.tmps) = true := by simp [Region.wanted, hg]
  simp only [wpOpsS, ho, hw, if_true, hr]
  exact h
theorem run_ta {x : Operand} {xt t : TypeId} {u r : Value} (ho : o.op = .typeAssert x xt t true) (hx : a.eval x = u) (hr : (Instr.typeAssert u xt t true).run P w = .ok r w) : (execOp a.eval o).run P w = .ok (.value r) w := by
  simp [execOp, ho, hx, hr, Result.andThen]
end
set_option maxHeartbeats 400000 in
set_option maxRecDepth 100000 in
theorem catch_idle (b2 b3 b4 : Nat) (w : World) :
    CallsD Try.prog 15 #[.pointer (some ⟨b2, 0, none⟩), .pointer (some ⟨b3, 0, none⟩), .pointer (some ⟨b4, 0, none⟩)] .returning w fun e u' w' =>
      e = .returned (.tuple #[]) ∧ u' = .returning ∧ Below w.heap.size w w' := by
  refine callsD_of_wpS Try.func15 rfl fun c₀ cs hu => ?_
  have hu59 := Try.underlying59
  apply wpS_seq
  apply wpS_region
  change wpOpsS _ _ _ [0, 1, 2, 3, 4, 5, 6, 7] _ _ _
  change wpOpsS _ _ _ _ { tmps := #[.pointer (some ⟨b2, 0, none⟩), .pointer (some ⟨b3, 0, none⟩), .pointer (some ⟨b4, 0, none⟩), undef, undef, undef, undef, undef, undef, undef, undef, undef, undef, undef, undef, undef], defers := [] } _ _
  refine opsS_none rfl rfl rfl (by simp [recoverD, hu]) ?_
  change wpOpsS _ _ _ _ { tmps := #[.pointer (some ⟨b2, 0, none⟩), .pointer (some ⟨b3, 0, none⟩), .pointer (some ⟨b4, 0, none⟩), undef, undef, undef, .nilIface, undef, undef, undef, undef, undef, undef, undef, undef, undef], defers := [] } _ _
  apply opsS_val
  · rfl
  · rfl
  · exact run_ta rfl rfl (ta_nil w)
  change wpOpsS _ _ _ _ { tmps := #[.pointer (some ⟨b2, 0, none⟩), .pointer (some ⟨b3, 0, none⟩), .pointer (some ⟨b4, 0, none⟩), undef, undef, undef, .nilIface, .tuple #[.agg #[.int .i64 0, .int .i64 0], .bool false], undef, undef, undef, undef, undef, undef, undef, undef], defers := [] } _ _
  apply opsS_val (w' := w) (v := .tuple #[.agg #[.int .i64 0, .int .i64 0], .bool false])
  · rfl
  · rfl
  · simp [execOp, go_sem, Act.eval]
  change wpOpsS _ _ _ _ { tmps := #[.pointer (some ⟨b2, 0, none⟩), .pointer (some ⟨b3, 0, none⟩), .pointer (some ⟨b4, 0, none⟩), undef, undef, .tuple #[.agg #[.int .i64 0, .int .i64 0], .bool false], .nilIface, .tuple #[.agg #[.int .i64 0, .int .i64 0], .bool false], undef, undef, undef, undef, undef, undef, undef, undef], defers := [] } _ _
  apply opsS_val (w' := w) (v := .agg #[.int .i64 0, .int .i64 0])
  · rfl
  · rfl
  · simp [execOp, go_sem, Act.eval]
  change wpOpsS _ _ _ _ { tmps := #[.pointer (some ⟨b2, 0, none⟩), .pointer (some ⟨b3, 0, none⟩), .pointer (some ⟨b4, 0, none⟩), undef, undef, .tuple #[.agg #[.int .i64 0, .int .i64 0], .bool false], .nilIface, .tuple #[.agg #[.int .i64 0, .int .i64 0], .bool false], .agg #[.int .i64 0, .int .i64 0], undef, undef, undef, undef, undef, undef, undef], defers := [] } _ _
  apply opsS_val (w' := w) (v := .bool false)
  · rfl
  · rfl
  · simp [execOp, go_sem, Act.eval]
  change wpOpsS _ _ _ _ { tmps := #[.pointer (some ⟨b2, 0, none⟩), .pointer (some ⟨b3, 0, none⟩), .pointer (some ⟨b4, 0, none⟩), undef, undef, .tuple #[.agg #[.int .i64 0, .int .i64 0], .bool false], .nilIface, .tuple #[.agg #[.int .i64 0, .int .i64 0], .bool false], .agg #[.int .i64 0, .int .i64 0], .bool false, undef, undef, undef, undef, undef, undef], defers := [] } _ _
  apply opsS_val (w' := w.alloc (.cells #[.int .i64 0, .int .i64 0] 59 (0, 0))) (v := .pointer (some ⟨w.heap.size, 0, none⟩))
  · rfl
  · rfl
  · simp [execOp, go_sem, Act.eval]
  change wpOpsS _ _ _ _ { tmps := #[.pointer (some ⟨b2, 0, none⟩), .pointer (some ⟨b3, 0, none⟩), .pointer (some ⟨b4, 0, none⟩), .pointer (some ⟨w.heap.size, 0, none⟩), undef, .tuple #[.agg #[.int .i64 0, .int .i64 0], .bool false], .nilIface, .tuple #[.agg #[.int .i64 0, .int .i64 0], .bool false], .agg #[.int .i64 0, .int .i64 0], .bool false, undef, undef, undef, undef, undef, undef], defers := [] } _ _
  apply opsS_skip (w' := w.alloc (.cells #[.int .i64 0, .int .i64 0] 59 (0, 0)))
  · rfl
  · rfl
  · simp [execOp, go_sem, Act.eval]
  change wpOpsS _ _ _ _ { tmps := #[.pointer (some ⟨b2, 0, none⟩), .pointer (some ⟨b3, 0, none⟩), .pointer (some ⟨b4, 0, none⟩), .pointer (some ⟨w.heap.size, 0, none⟩), undef, .tuple #[.agg #[.int .i64 0, .int .i64 0], .bool false], .nilIface, .tuple #[.agg #[.int .i64 0, .int .i64 0], .bool false], .agg #[.int .i64 0, .int .i64 0], .bool false, undef, undef, undef, undef, undef, undef], defers := [] } _ _
  apply opsS_val (w' := w.alloc (.cells #[.int .i64 0, .int .i64 0] 59 (0, 0))) (v := .bool false)
  · rfl
  · rfl
  · simp [execOp, go_sem, Act.eval]
  change wpOpsS _ _ _ _ { tmps := #[.pointer (some ⟨b2, 0, none⟩), .pointer (some ⟨b3, 0, none⟩), .pointer (some ⟨b4, 0, none⟩), .pointer (some ⟨w.heap.size, 0, none⟩), .bool false, .tuple #[.agg #[.int .i64 0, .int .i64 0], .bool false], .nilIface, .tuple #[.agg #[.int .i64 0, .int .i64 0], .bool false], .agg #[.int .i64 0, .int .i64 0], .bool false, undef, undef, undef, undef, undef, undef], defers := [] } _ _
  change Code.wpS _ _ _ _ _ _
  refine wpS_of_wp ?_
  go_wp2
  refine ⟨rfl, .returning, ?_, .tuple #[], ?_, rfl, rfl, below_alloc (Below.refl _ _) _⟩
  · cases c₀
    simp_all
  · exact results_none rfl _ _ _
set_option maxHeartbeats 4000000 in
set_option maxRecDepth 100000 in
theorem catch_panics (er at_ : Int) (b2 b3 b4 : Nat) (o2 : Array Value) (x3 x4 : Value) (W0 w : World) (h2 : w.heap[b2]? = some (.cells o2 38 (0, 0))) (hs2 : o2.size = 3) (h3 : w.heap[b3]? = some (.cells #[x3] 39 (0, 0))) (h4 : w.heap[b4]? = some (.cells #[x4] 3 (0, 0)))
    (n23 : b2 ≠ b3) (n24 : b2 ≠ b4) (n34 : b3 ≠ b4) (l2 : W0.heap.size ≤ b2) (l3 : W0.heap.size ≤ b3) (l4 : W0.heap.size ≤ b4) (HB : Below W0.heap.size W0 w) :
    CallsD Try.prog 15 #[.pointer (some ⟨b2, 0, none⟩), .pointer (some ⟨b3, 0, none⟩), .pointer (some ⟨b4, 0, none⟩)] (.panicking [pan er at_]) w fun e u' w' =>
      e = .returned (.tuple #[]) ∧ u' = .panicking [{ v := .iface 59 (.agg #[.int .i64 er, .int .i64 at_]), recovered := true }] ∧ w'.heap[b2]? = some (.cells z38 38 (0, 0)) ∧ w'.heap[b3]? = some (.cells #[.int .i64 er] 39 (0, 0)) ∧ w'.heap[b4]? = some (.cells #[.int .i64 at_] 3 (0, 0)) ∧ Below W0.heap.size W0 w' := by
  refine callsD_of_wpS Try.func15 rfl fun c₀ cs hu => ?_
  have hu59 := Try.underlying59
  have hu38 := Try.underlying38
  apply wpS_seq
  apply wpS_region
  change wpOpsS _ _ _ [0, 1, 2, 3, 4, 5, 6, 7] _ _ _
  change wpOpsS _ _ _ _ { tmps := #[.pointer (some ⟨b2, 0, none⟩), .pointer (some ⟨b3, 0, none⟩), .pointer (some ⟨b4, 0, none⟩), undef, undef, undef, undef, undef, undef, undef, undef, undef, undef, undef, undef, undef], defers := [] } _ _
  refine opsS_some rfl rfl rfl (by simp [recoverD, hu, pan]; exact ⟨rfl, rfl⟩) ?_
  change wpOpsS _ _ _ _ { tmps := #[.pointer (some ⟨b2, 0, none⟩), .pointer (some ⟨b3, 0, none⟩), .pointer (some ⟨b4, 0, none⟩), undef, undef, undef, .iface 59 (.agg #[.int .i64 er, .int .i64 at_]), undef, undef, undef, undef, undef, undef, undef, undef, undef], defers := [] } _ _
  apply opsS_val
  · rfl
  · rfl
  · exact run_ta rfl rfl (ta_some er at_ w)
  change wpOpsS _ _ _ _ { tmps := #[.pointer (some ⟨b2, 0, none⟩), .pointer (some ⟨b3, 0, none⟩), .pointer (some ⟨b4, 0, none⟩), undef, undef, undef, .iface 59 (.agg #[.int .i64 er, .int .i64 at_]), .tuple #[.agg #[.int .i64 er, .int .i64 at_], .bool true], undef, undef, undef, undef, undef, undef, undef, undef], defers := [] } _ _
  apply opsS_val (w' := w) (v := .tuple #[.agg #[.int .i64 er, .int .i64 at_], .bool true])
  · rfl
  · rfl
  · simp [execOp, go_sem, Act.eval]
  change wpOpsS _ _ _ _ { tmps := #[.pointer (some ⟨b2, 0, none⟩), .pointer (some ⟨b3, 0, none⟩), .pointer (some ⟨b4, 0, none⟩), undef, undef, .tuple #[.agg #[.int .i64 er, .int .i64 at_], .bool true], .iface 59 (.agg #[.int .i64 er, .int .i64 at_]), .tuple #[.agg #[.int .i64 er, .int .i64 at_], .bool true], undef, undef, undef, undef, undef, undef, undef, undef], defers := [] } _ _
  apply opsS_val (w' := w) (v := .agg #[.int .i64 er, .int .i64 at_])
  · rfl
  · rfl
  · simp [execOp, go_sem, Act.eval]
  change wpOpsS _ _ _ _ { tmps := #[.pointer (some ⟨b2, 0, none⟩), .pointer (some ⟨b3, 0, none⟩), .pointer (some ⟨b4, 0, none⟩), undef, undef, .tuple #[.agg #[.int .i64 er, .int .i64 at_], .bool true], .iface 59 (.agg #[.int .i64 er, .int .i64 at_]), .tuple #[.agg #[.int .i64 er, .int .i64 at_], .bool true], .agg #[.int .i64 er, .int .i64 at_], undef, undef, undef, undef, undef, undef, undef], defers := [] } _ _
  apply opsS_val (w' := w) (v := .bool true)
  · rfl
  · rfl
  · simp [execOp, go_sem, Act.eval]
  change wpOpsS _ _ _ _ { tmps := #[.pointer (some ⟨b2, 0, none⟩), .pointer (some ⟨b3, 0, none⟩), .pointer (some ⟨b4, 0, none⟩), undef, undef, .tuple #[.agg #[.int .i64 er, .int .i64 at_], .bool true], .iface 59 (.agg #[.int .i64 er, .int .i64 at_]), .tuple #[.agg #[.int .i64 er, .int .i64 at_], .bool true], .agg #[.int .i64 er, .int .i64 at_], .bool true, undef, undef, undef, undef, undef, undef], defers := [] } _ _
  apply opsS_val (w' := w.alloc (.cells #[.int .i64 0, .int .i64 0] 59 (0, 0))) (v := .pointer (some ⟨w.heap.size, 0, none⟩))
  · rfl
  · rfl
  · simp [execOp, go_sem, Act.eval]
  change wpOpsS _ _ _ _ { tmps := #[.pointer (some ⟨b2, 0, none⟩), .pointer (some ⟨b3, 0, none⟩), .pointer (some ⟨b4, 0, none⟩), .pointer (some ⟨w.heap.size, 0, none⟩), undef, .tuple #[.agg #[.int .i64 er, .int .i64 at_], .bool true], .iface 59 (.agg #[.int .i64 er, .int .i64 at_]), .tuple #[.agg #[.int .i64 er, .int .i64 at_], .bool true], .agg #[.int .i64 er, .int .i64 at_], .bool true, undef, undef, undef, undef, undef, undef], defers := [] } _ _
  apply opsS_skip (w' := w.alloc (.cells #[.int .i64 er, .int .i64 at_] 59 (0, 0)))
  · rfl
  · rfl
  · simp [execOp, go_sem, Act.eval]
  change wpOpsS _ _ _ _ { tmps := #[.pointer (some ⟨b2, 0, none⟩), .pointer (some ⟨b3, 0, none⟩), .pointer (some ⟨b4, 0, none⟩), .pointer (some ⟨w.heap.size, 0, none⟩), undef, .tuple #[.agg #[.int .i64 er, .int .i64 at_], .bool true], .iface 59 (.agg #[.int .i64 er, .int .i64 at_]), .tuple #[.agg #[.int .i64 er, .int .i64 at_], .bool true], .agg #[.int .i64 er, .int .i64 at_], .bool true, undef, undef, undef, undef, undef, undef], defers := [] } _ _
  apply opsS_val (w' := w.alloc (.cells #[.int .i64 er, .int .i64 at_] 59 (0, 0))) (v := .bool true)
  · rfl
  · rfl
  · simp [execOp, go_sem, Act.eval]
  change wpOpsS _ _ _ _ { tmps := #[.pointer (some ⟨b2, 0, none⟩), .pointer (some ⟨b3, 0, none⟩), .pointer (some ⟨b4, 0, none⟩), .pointer (some ⟨w.heap.size, 0, none⟩), .bool true, .tuple #[.agg #[.int .i64 er, .int .i64 at_], .bool true], .iface 59 (.agg #[.int .i64 er, .int .i64 at_]), .tuple #[.agg #[.int .i64 er, .int .i64 at_], .bool true], .agg #[.int .i64 er, .int .i64 at_], .bool true, undef, undef, undef, undef, undef, undef], defers := [] } _ _
  change Code.wpS _ _ _ _ _ _
  refine wpS_of_wp ?_
  go_wp2_with fail
  have hbx := blk_new w (.cells #[.int .i64 er, .int .i64 at_] 59 (0, 0))
  have K2 := blk_alloc h2 (.cells #[.int .i64 er, .int .i64 at_] 59 (0, 0))
  have K3 := blk_alloc h3 (.cells #[.int .i64 er, .int .i64 at_] 59 (0, 0))
  have K4 := blk_alloc h4 (.cells #[.int .i64 er, .int .i64 at_] 59 (0, 0))
  have HB1 := Aside0.mk (below_alloc HB (.cells #[.int .i64 er, .int .i64 at_] 59 (0, 0)))
  have m2 : w.heap.size ≠ b2 := by have := blk_lt h2; omega
  have m3 : w.heap.size ≠ b3 := by have := blk_lt h3; omega
  have m4 : w.heap.size ≠ b4 := by have := blk_lt h4; omega
  generalize w.alloc (.cells #[.int .i64 er, .int .i64 at_] 59 (0, 0)) = w1 at hbx K2 K3 K4 HB1 ⊢
  generalize w.heap.size = bx at hbx m2 m3 m4 ⊢
  obtain ⟨o2l⟩ := o2
  match o2l, hs2 with
  | [y0, y1, y2], _ =>
    have c0 : w1.cell? ⟨bx, 0, none⟩ = some (.int .i64 er) := (blk_cell hbx 0).trans rfl
    have c1 : w1.cell? ⟨bx, 1, none⟩ = some (.int .i64 at_) := (blk_cell hbx 1).trans rfl
    have d0 : w1.cell? ⟨b2, 0, none⟩ = some y0 := (blk_cell K2 0).trans rfl
    have d1 : w1.cell? ⟨b2, 1, none⟩ = some y1 := (blk_cell K2 1).trans rfl
    have d2 : w1.cell? ⟨b2, 2, none⟩ = some y2 := (blk_cell K2 2).trans rfl
    have e3 : w1.cell? ⟨b3, 0, none⟩ = some x3 := (blk_cell K3 0).trans rfl
    have e4 : w1.cell? ⟨b4, 0, none⟩ = some x4 := (blk_cell K4 0).trans rfl
    have f0 := blk_frozen K2 0
    have f1 := blk_frozen K2 1
    have f2 := blk_frozen K2 2
    have f3 := blk_frozen K3 0
    have f4 := blk_frozen K4 0
    have H2 := Aside0.mk K2
    have H3 := Aside0.mk K3
    have H4 := Aside0.mk K4
    clear h2 h3 h4 hbx K2 K3 K4
    have n32 := Ne.symm n23
    have n42 := Ne.symm n24
    have n43 := Ne.symm n34
    have m2' := Ne.symm m2
    have m3' := Ne.symm m3
    have m4' := Ne.symm m4
    go_region
    refine ⟨rfl, .panicking [{ v := .iface 59 (.agg #[.int .i64 er, .int .i64 at_]), recovered := true }], rfl, .tuple #[], results_none rfl _ _ _, rfl, rfl, ?_, ?_, ?_, ?_⟩
    · exact blk_drew (blk_far (blk_far (blk_put (blk_put (blk_put H2.out 0 _ rfl) 1 _ rfl) 2 _ rfl) (p := ⟨b3, 0, none⟩) n23 _) (p := ⟨b4, 0, none⟩) n24 _)
    · exact blk_drew (blk_far (blk_put (blk_far (blk_far (blk_far H3.out (p := ⟨b2, 0, none⟩) n32 _) (p := ⟨b2, 1, none⟩) n32 _) (p := ⟨b2, 2, none⟩) n32 _) 0 _ rfl) (p := ⟨b4, 0, none⟩) n34 _)
    · exact blk_drew (blk_put (blk_far (blk_far (blk_far (blk_far H4.out (p := ⟨b2, 0, none⟩) n42 _) (p := ⟨b2, 1, none⟩) n42 _) (p := ⟨b2, 2, none⟩) n42 _) (p := ⟨b3, 0, none⟩) n43 _) 0 _ rfl)
    · exact below_drew (((((HB1.out.setCell l2 _).setCell l2 _).setCell l2 _).setCell l3 _).setCell l4 _)
end Go.Proofs.Ytidnojkijfinaaa.Fns
