/- Part of the proof of TopVerdictSaid. -/
import Derived.Test.YtidnojkijfinaaaQTpBase
import Derived.Laws.StructEq
namespace Go.Proofs.Ytidnojkijfinaaa.Fns
open Go.RowKit Go.Proofs.YtidnojkijfinaaaW.PrintWords Go.Proofs.YtidnojkijfinaaaW.PrintLast Go.Proofs.YtidnojkijfinaaaW.PrintMore
attribute [local go_sem] max2_int min2_int max_two min_two max_three min_three max_four min_four
set_option linter.unusedVariables false
set_option linter.unusedSimpArgs false
theorem eqA111 (d : Nat) (w : World) (x0 y0 x1 y1 x2 y2 : Bool) (x3 y3 x4 y4 x5 y5 : Int) :
    (Op.equalIn (d + 2) 111 (.agg #[.bool x0, .bool x1, .bool x2, .int .i64 x3, .int .u64 x4, .int .u64 x5]) (.agg #[.bool y0, .bool y1, .bool y2, .int .i64 y3, .int .u64 y4, .int .u64 y5])).run Try.prog w = .ok (x0 == y0 && (x1 == y1 && (x2 == y2 && (x3 == y3 && (x4 == y4 && (x5 == y5)))))) w := by
  refine eqA_of Try.underlying111 (by kernel_rfl) ?_
  refine eqf_cons (by rfl) (by go_simp; rfl) (by go_simp; rfl) (by go_simp) ?_
  refine eqf_cons (by rfl) (by go_simp; rfl) (by go_simp; rfl) (by go_simp) ?_
  refine eqf_cons (by rfl) (by go_simp; rfl) (by go_simp; rfl) (by go_simp) ?_
  refine eqf_cons (by rfl) (by go_simp; rfl) (by go_simp; rfl) (by go_simp) ?_
  refine eqf_cons (by rfl) (by go_simp; rfl) (by go_simp; rfl) (by go_simp) ?_
  exact eqf_last (by rfl) (by go_simp; rfl) (by go_simp; rfl) (by go_simp)
theorem run_eq111 (W : World) (a n : Bool) : (Op.equalIn 10000 111 (.agg #[.bool a, .bool n, .bool false, .int .i64 0, .int .u64 0, .int .u64 0]) (.agg #[.bool false, .bool false, .bool false, .int .i64 0, .int .u64 0, .int .u64 0])).run Try.prog W = .ok (!a && !n) W := by
  rw [show (10000 : Nat) = 9998 + 2 from rfl, eqA111]
  cases a <;> cases n <;> rfl
def wayFn (op : Int) : Nat := if op = 1 ∨ op = 2 then 84 else if op = 5 ∨ op = 4 then 85 else 86
def wayOp (op : Int) : Int := if op = 1 ∨ op = 2 then 1 else if op = 5 ∨ op = 4 then 5 else 6
def wayNot (op : Int) : Bool := op == 2 || op == 4 || op == 3
set_option maxHeartbeats 4000000 in
set_option maxRecDepth 100000 in
theorem way_at (op : Int) (h1 : 1 ≤ op) (h6 : op ≤ 6) (w : World) :
    Calls Try.prog 61 #[.int .i64 op] w fun e w' => e = .returned (.tuple #[.func (.func (wayFn op)) #[] #[], .int .i64 (wayOp op), .bool (wayNot op)]) ∧ w' = w := by
  have : op = 1 ∨ op = 2 ∨ op = 3 ∨ op = 4 ∨ op = 5 ∨ op = 6 := by omega
  rcases this with rfl | rfl | rfl | rfl | rfl | rfl <;>
  · go_enter Try.func61, Try.ntmps61
    go_wp2
    go_ret3
    exact ⟨rfl, rfl⟩
set_option maxHeartbeats 4000000 in
set_option maxRecDepth 100000 in
theorem right_at (a op c d : Int) (h0 : 0 ≤ a) (h5 : a ≤ 5) (h1 : 1 ≤ op) (h6 : op ≤ 6) (w : World) :
    Calls Try.prog 60 #[.agg #[.int .i64 a, .int .i64 op, .int .u64 c, .int .u64 d]] w fun e w' => e = .returned (.bool true) ∧ w' = w.alloc (.cells #[.int .i64 a, .int .i64 op, .int .u64 c, .int .u64 d] 98) := by
  have a0 : decide (0 ≤ a) = true := decide_eq_true h0
  have a5 : decide (a ≤ 5) = true := decide_eq_true h5
  have a1 : decide (1 ≤ op) = true := decide_eq_true h1
  have a6 : decide (op ≤ 6) = true := decide_eq_true h6
  have hu := Try.underlying98
  go_enter Try.func60, Try.ntmps60
  go_wp2
  go_ret
  exact ⟨rfl, rfl⟩
theorem ret111 {R : Ending → World → Prop} {a : Act} {W : World} {g : Nat} {cs : Array Value} (hp : a.tmps.getD 2 undef = .pointer (some ⟨g, 0, none⟩)) (hd : a.defers = []) (hb : W.heap[g]? = some (.cells cs 111 (0, 0))) (hs : cs.size = 6) (h : R (.returned (.agg cs)) W) :
    bodyPost Try.prog Try.f42 R .ret a W :=
  bodyPost_ret (results_cell_row (P := Try.prog) rfl a.tmps W g 111 cs (0, 0) _ hp hb Try.underlying111 rfl (by rw [hs]; kernel_rfl)) hd h
theorem blk_new1 (w : World) (A B : Obj) : ((w.alloc A).alloc B).heap[w.heap.size + 1]? = some B := by
  have h := blk_new (w.alloc A) B
  rwa [World.size_alloc] at h
def normNever (op c d : Int) : Bool := if op = 1 then bits .andNot .u64 d c != 0 else if op = 5 then decide (c ≤ d) else if op = 6 then decide (c < d) else if op = 3 then d == 0 else false
def normAlways (op c d : Int) : Bool := if op = 2 then bits .andNot .u64 d c != 0 else if op = 4 then decide (c ≤ d) else if op = 3 then decide (c < d) else if op = 6 then d == 0 else false
def cond_Norm.f (a op c d : Int) : Option (Bool × Bool × Bool × Int × Int × Int) :=
  if 0 ≤ a ∧ a ≤ 5 ∧ 1 ≤ op ∧ op ≤ 6 then (if normAlways op c d || normNever op c d then some (normAlways op c d, normNever op c d, false, 0, 0, 0) else some (false, false, wayNot op, wayOp op, c, d)) else none
set_option maxHeartbeats 4000000 in
set_option maxRecDepth 100000 in
theorem norm_op1 (a c d : Int) (h0 : 0 ≤ a) (h5 : a ≤ 5) (r1 r2 r3 : Bool) (r4 r5 r6 : Int) (h : cond_Norm.f a 1 c d = some (r1, r2, r3, r4, r5, r6)) (w : World) :
    Calls Try.prog 42 #[.agg #[.int .i64 a, .int .i64 1, .int .u64 c, .int .u64 d]] w fun e w' => e = .returned (.agg #[.bool r1, .bool r2, .bool r3, .int .i64 r4, .int .u64 r5, .int .u64 r6]) ∧ Below w.heap.size w w' := by
  rw [cond_Norm.f, if_pos (by omega)] at h
  simp only [normAlways, normNever, wayNot, wayOp] at h
  have HRT := Aside0.mk (fun w => right_at a 1 c d h0 h5 (by omega) (by omega) w)
  have HWY := Aside0.mk (fun w => way_at 1 (by omega) (by omega) w)
  have hu := Try.underlying98
  have hu1 := Try.underlying111
  have hq := run_eq111
  cases hX : bits .andNot .u64 d c != 0
  all_goals
    simp [hX] at h
    obtain ⟨rfl, rfl, rfl, rfl, rfl, rfl⟩ := h
    go_enter Try.func42, Try.ntmps42
    go_wp2_with fail
    refine (HRT.out _).mono ?_
    rintro e w1 ⟨rfl, rfl⟩
    go_wp2_with fail
    refine (HWY.out _).mono ?_
    rintro e w1 ⟨rfl, rfl⟩
    simp only [wayFn, wayOp, wayNot]
    go_wp2_with fail
    all_goals
      exact ret111 rfl rfl (blk_alloc (blk_alloc (blk_new1 w _ _) _) _) rfl ⟨rfl, by repeat (first | exact Below.refl _ _ | apply below_alloc)⟩
set_option maxHeartbeats 4000000 in
set_option maxRecDepth 100000 in
theorem norm_op2 (a c d : Int) (h0 : 0 ≤ a) (h5 : a ≤ 5) (r1 r2 r3 : Bool) (r4 r5 r6 : Int) (h : cond_Norm.f a 2 c d = some (r1, r2, r3, r4, r5, r6)) (w : World) :
    Calls Try.prog 42 #[.agg #[.int .i64 a, .int .i64 2, .int .u64 c, .int .u64 d]] w fun e w' => e = .returned (.agg #[.bool r1, .bool r2, .bool r3, .int .i64 r4, .int .u64 r5, .int .u64 r6]) ∧ Below w.heap.size w w' := by
  rw [cond_Norm.f, if_pos (by omega)] at h
  simp only [normAlways, normNever, wayNot, wayOp] at h
  have HRT := Aside0.mk (fun w => right_at a 2 c d h0 h5 (by omega) (by omega) w)
  have HWY := Aside0.mk (fun w => way_at 2 (by omega) (by omega) w)
  have hu := Try.underlying98
  have hu1 := Try.underlying111
  have hq := run_eq111
  cases hX : bits .andNot .u64 d c != 0
  all_goals
    simp [hX] at h
    obtain ⟨rfl, rfl, rfl, rfl, rfl, rfl⟩ := h
    go_enter Try.func42, Try.ntmps42
    go_wp2_with fail
    refine (HRT.out _).mono ?_
    rintro e w1 ⟨rfl, rfl⟩
    go_wp2_with fail
    refine (HWY.out _).mono ?_
    rintro e w1 ⟨rfl, rfl⟩
    simp only [wayFn, wayOp, wayNot]
    go_wp2_with fail
    all_goals
      exact ret111 rfl rfl (blk_alloc (blk_alloc (blk_new1 w _ _) _) _) rfl ⟨rfl, by repeat (first | exact Below.refl _ _ | apply below_alloc)⟩
set_option maxHeartbeats 4000000 in
set_option maxRecDepth 100000 in
theorem norm_op3 (a c d : Int) (h0 : 0 ≤ a) (h5 : a ≤ 5) (r1 r2 r3 : Bool) (r4 r5 r6 : Int) (h : cond_Norm.f a 3 c d = some (r1, r2, r3, r4, r5, r6)) (w : World) :
    Calls Try.prog 42 #[.agg #[.int .i64 a, .int .i64 3, .int .u64 c, .int .u64 d]] w fun e w' => e = .returned (.agg #[.bool r1, .bool r2, .bool r3, .int .i64 r4, .int .u64 r5, .int .u64 r6]) ∧ Below w.heap.size w w' := by
  rw [cond_Norm.f, if_pos (by omega)] at h
  simp only [normAlways, normNever, wayNot, wayOp] at h
  have HRT := Aside0.mk (fun w => right_at a 3 c d h0 h5 (by omega) (by omega) w)
  have HWY := Aside0.mk (fun w => way_at 3 (by omega) (by omega) w)
  have hu := Try.underlying98
  have hu1 := Try.underlying111
  have hq := run_eq111
  cases hX : decide (c < d) <;> cases hY : d == 0
  all_goals
    simp [hX, hY] at h
    obtain ⟨rfl, rfl, rfl, rfl, rfl, rfl⟩ := h
    go_enter Try.func42, Try.ntmps42
    go_wp2_with fail
    refine (HRT.out _).mono ?_
    rintro e w1 ⟨rfl, rfl⟩
    go_wp2_with fail
    refine (HWY.out _).mono ?_
    rintro e w1 ⟨rfl, rfl⟩
    simp only [wayFn, wayOp, wayNot]
    go_wp2_with fail
    all_goals
      exact ret111 rfl rfl (blk_alloc (blk_alloc (blk_new1 w _ _) _) _) rfl ⟨rfl, by repeat (first | exact Below.refl _ _ | apply below_alloc)⟩
set_option maxHeartbeats 4000000 in
set_option maxRecDepth 100000 in
theorem norm_op4 (a c d : Int) (h0 : 0 ≤ a) (h5 : a ≤ 5) (r1 r2 r3 : Bool) (r4 r5 r6 : Int) (h : cond_Norm.f a 4 c d = some (r1, r2, r3, r4, r5, r6)) (w : World) :
    Calls Try.prog 42 #[.agg #[.int .i64 a, .int .i64 4, .int .u64 c, .int .u64 d]] w fun e w' => e = .returned (.agg #[.bool r1, .bool r2, .bool r3, .int .i64 r4, .int .u64 r5, .int .u64 r6]) ∧ Below w.heap.size w w' := by
  rw [cond_Norm.f, if_pos (by omega)] at h
  simp only [normAlways, normNever, wayNot, wayOp] at h
  have HRT := Aside0.mk (fun w => right_at a 4 c d h0 h5 (by omega) (by omega) w)
  have HWY := Aside0.mk (fun w => way_at 4 (by omega) (by omega) w)
  have hu := Try.underlying98
  have hu1 := Try.underlying111
  have hq := run_eq111
  cases hX : decide (c ≤ d)
  all_goals
    simp [hX] at h
    obtain ⟨rfl, rfl, rfl, rfl, rfl, rfl⟩ := h
    go_enter Try.func42, Try.ntmps42
    go_wp2_with fail
    refine (HRT.out _).mono ?_
    rintro e w1 ⟨rfl, rfl⟩
    go_wp2_with fail
    refine (HWY.out _).mono ?_
    rintro e w1 ⟨rfl, rfl⟩
    simp only [wayFn, wayOp, wayNot]
    go_wp2_with fail
    all_goals
      exact ret111 rfl rfl (blk_alloc (blk_alloc (blk_new1 w _ _) _) _) rfl ⟨rfl, by repeat (first | exact Below.refl _ _ | apply below_alloc)⟩
set_option maxHeartbeats 4000000 in
set_option maxRecDepth 100000 in
theorem norm_op5 (a c d : Int) (h0 : 0 ≤ a) (h5 : a ≤ 5) (r1 r2 r3 : Bool) (r4 r5 r6 : Int) (h : cond_Norm.f a 5 c d = some (r1, r2, r3, r4, r5, r6)) (w : World) :
    Calls Try.prog 42 #[.agg #[.int .i64 a, .int .i64 5, .int .u64 c, .int .u64 d]] w fun e w' => e = .returned (.agg #[.bool r1, .bool r2, .bool r3, .int .i64 r4, .int .u64 r5, .int .u64 r6]) ∧ Below w.heap.size w w' := by
  rw [cond_Norm.f, if_pos (by omega)] at h
  simp only [normAlways, normNever, wayNot, wayOp] at h
  have HRT := Aside0.mk (fun w => right_at a 5 c d h0 h5 (by omega) (by omega) w)
  have HWY := Aside0.mk (fun w => way_at 5 (by omega) (by omega) w)
  have hu := Try.underlying98
  have hu1 := Try.underlying111
  have hq := run_eq111
  cases hX : decide (c ≤ d)
  all_goals
    simp [hX] at h
    obtain ⟨rfl, rfl, rfl, rfl, rfl, rfl⟩ := h
    go_enter Try.func42, Try.ntmps42
    go_wp2_with fail
    refine (HRT.out _).mono ?_
    rintro e w1 ⟨rfl, rfl⟩
    go_wp2_with fail
    refine (HWY.out _).mono ?_
    rintro e w1 ⟨rfl, rfl⟩
    simp only [wayFn, wayOp, wayNot]
    go_wp2_with fail
    all_goals
      exact ret111 rfl rfl (blk_alloc (blk_alloc (blk_new1 w _ _) _) _) rfl ⟨rfl, by repeat (first | exact Below.refl _ _ | apply below_alloc)⟩
set_option maxHeartbeats 4000000 in
set_option maxRecDepth 100000 in
theorem norm_op6 (a c d : Int) (h0 : 0 ≤ a) (h5 : a ≤ 5) (r1 r2 r3 : Bool) (r4 r5 r6 : Int) (h : cond_Norm.f a 6 c d = some (r1, r2, r3, r4, r5, r6)) (w : World) :
    Calls Try.prog 42 #[.agg #[.int .i64 a, .int .i64 6, .int .u64 c, .int .u64 d]] w fun e w' => e = .returned (.agg #[.bool r1, .bool r2, .bool r3, .int .i64 r4, .int .u64 r5, .int .u64 r6]) ∧ Below w.heap.size w w' := by
  rw [cond_Norm.f, if_pos (by omega)] at h
  simp only [normAlways, normNever, wayNot, wayOp] at h
  have HRT := Aside0.mk (fun w => right_at a 6 c d h0 h5 (by omega) (by omega) w)
  have HWY := Aside0.mk (fun w => way_at 6 (by omega) (by omega) w)
  have hu := Try.underlying98
  have hu1 := Try.underlying111
  have hq := run_eq111
  cases hX : decide (c < d) <;> cases hY : d == 0
  all_goals
    simp [hX, hY] at h
    obtain ⟨rfl, rfl, rfl, rfl, rfl, rfl⟩ := h
    go_enter Try.func42, Try.ntmps42
    go_wp2_with fail
    refine (HRT.out _).mono ?_
    rintro e w1 ⟨rfl, rfl⟩
    go_wp2_with fail
    refine (HWY.out _).mono ?_
    rintro e w1 ⟨rfl, rfl⟩
    simp only [wayFn, wayOp, wayNot]
    go_wp2_with fail
    all_goals
      exact ret111 rfl rfl (blk_alloc (blk_alloc (blk_new1 w _ _) _) _) rfl ⟨rfl, by repeat (first | exact Below.refl _ _ | apply below_alloc)⟩
theorem cond_Norm.calls (a op c d : Int) (r1 r2 r3 : Bool) (r4 r5 r6 : Int) (w : World) (h : cond_Norm.f a op c d = some (r1, r2, r3, r4, r5, r6)) :
    Calls Try.prog 42 #[.agg #[.int .i64 a, .int .i64 op, .int .u64 c, .int .u64 d]] w fun e w' => e = .returned (.agg #[.bool r1, .bool r2, .bool r3, .int .i64 r4, .int .u64 r5, .int .u64 r6]) ∧ Below w.heap.size w w' := by
  by_cases hd : 0 ≤ a ∧ a ≤ 5 ∧ 1 ≤ op ∧ op ≤ 6
  · have : op = 1 ∨ op = 2 ∨ op = 3 ∨ op = 4 ∨ op = 5 ∨ op = 6 := by omega
    rcases this with rfl | rfl | rfl | rfl | rfl | rfl
    · exact norm_op1 a c d hd.1 hd.2.1 _ _ _ _ _ _ h w
    · exact norm_op2 a c d hd.1 hd.2.1 _ _ _ _ _ _ h w
    · exact norm_op3 a c d hd.1 hd.2.1 _ _ _ _ _ _ h w
    · exact norm_op4 a c d hd.1 hd.2.1 _ _ _ _ _ _ h w
    · exact norm_op5 a c d hd.1 hd.2.1 _ _ _ _ _ _ h w
    · exact norm_op6 a c d hd.1 hd.2.1 _ _ _ _ _ _ h w
  · rw [cond_Norm.f, if_neg hd] at h
    cases h
end Go.Proofs.Ytidnojkijfinaaa.Fns
