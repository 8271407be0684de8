/- Tables of files: Same. -/
import Derived.Test.YtlohaefhigbdjaaFdsPlay
import Derived.Laws.StructEq
namespace Go.Proofs.Ytlohaefhigbdjaa.Fds
open Go.RowKit Go.Proofs.YtlohaefhigbdjaaW.PrintWords
set_option linter.unusedVariables false
set_option linter.unusedSimpArgs false

theorem all_range {α : Type} [BEq α] (z : α) : ∀ (xs ys : List α), xs.length = ys.length → ((List.range xs.length).all fun i => xs.getD i z == ys.getD i z) = (xs == ys)
  | [], [], _ => rfl
  | x :: xs, y :: ys, h => by
    have ih := all_range z xs ys (by simpa using h)
    rw [List.length_cons, List.range_succ_eq_map, List.all_cons, List.all_map]
    simp only [List.getD_cons_zero, Function.comp_def, List.getD_cons_succ, ih]
    simp [List.cons_beq_cons]
  | [], _ :: _, h => by simp at h
  | _ :: _, [], h => by simp at h

/-- Two arrays of scalars, held against each other. -/
theorem eql_row {α : Type} [BEq α] (z : α) (enc : α → Value) (t e : TypeId) (n : Nat) (i : TypeInfo) (hu : Try.prog.underlying t = some (.array n e)) (hi : Try.prog.info? e = some i) (hc : Try.prog.cellsOf e = 1)
    (hag : ∀ w, (isAgg e).run Try.prog w = .ok false w)
    (he : ∀ (a b : α) (w : World), (Op.equalIn 9999 e (enc a) (enc b)).run Try.prog w = .ok (a == b) w) (xs ys : List α) (hx : xs.length = n) (hy : ys.length = n) (w : World) :
    (binOp .eql t (.agg (xs.map enc).toArray) (.agg (ys.map enc).toArray)).run Try.prog w = .ok (.bool (xs == ys)) w := by
  rw [run_eql_struct, run_equalIn_array w 9999 _ _ hu hi, hc, ← all_range z xs ys (hx.trans hy.symm), hx]
  have hl : ∀ i ∈ List.range n, i < n := fun i hi => by simpa using hi
  generalize List.range n = l at hl
  have key : (Op.eqItems 9999 e 1 (xs.map enc).toArray (ys.map enc).toArray l).run Try.prog w = .ok (l.all fun i => xs.getD i z == ys.getD i z) w := by
    induction l with
    | nil => simp [Op.eqItems]
    | cons j l ih =>
      have hj : j < n := hl j (by simp)
      have px : (part e (xs.map enc).toArray (j * 1)).run Try.prog w = .ok (enc (xs.getD j z)) w := by
        simp [part, hag, List.getD_eq_getElem?_getD, List.getElem?_eq_getElem (show j < xs.length by omega)]
      have py : (part e (ys.map enc).toArray (j * 1)).run Try.prog w = .ok (enc (ys.getD j z)) w := by
        simp [part, hag, List.getD_eq_getElem?_getD, List.getElem?_eq_getElem (show j < ys.length by omega)]
      simp only [Op.eqItems, Sem.run_bind, px, py, he, Result.andThen_ok, List.all_cons]
      cases hb : (xs.getD j z == ys.getD j z)
      · simp
      · simpa using ih fun k hk => hl k (by simp [hk])
  rw [key]
  rfl

theorem inf3 : ∃ i, Try.prog.info? 3 = some i := by
  have h : (Try.prog.info? 3).isSome = true := by kernel_rfl
  exact Option.isSome_iff_exists.1 h
theorem inf4 : ∃ i, Try.prog.info? 4 = some i := by
  have h : (Try.prog.info? 4).isSome = true := by kernel_rfl
  exact Option.isSome_iff_exists.1 h
theorem eql_vals (V V' : List Int) (h : V.length = 16) (h' : V'.length = 16) (w : World) : (binOp .eql 43 (.agg (V.map (Value.int .i64)).toArray) (.agg (V'.map (Value.int .i64)).toArray)).run Try.prog w = .ok (.bool (V == V')) w := by
  obtain ⟨i, hi⟩ := inf3
  exact eql_row 0 (Value.int .i64) 43 3 16 i Try.underlying43 hi (by kernel_rfl) (fun _ => by kernel_rfl) (fun a b w => run_equalIn_int w 9998 3 .i64 .i64 a b Try.underlying3) V V' h h' w
theorem eql_iss (V V' : List Bool) (h : V.length = 16) (h' : V'.length = 16) (w : World) : (binOp .eql 44 (.agg (V.map Value.bool).toArray) (.agg (V'.map Value.bool).toArray)).run Try.prog w = .ok (.bool (V == V')) w := by
  obtain ⟨i, hi⟩ := inf4
  exact eql_row false Value.bool 44 4 16 i Try.underlying44 hi (by kernel_rfl) (fun _ => by kernel_rfl) (fun a b w => run_equalIn_bool' w 9998 4 a b Try.underlying4) V V' h h' w

section
variable {P : Program} {ops : Array Oper} {C : World → Prop} {Q : Act → Prop} {a : Act} {o : Oper} {rest : List Oper}
/-- Quietly: one operation that yields v in every world of the class. -/
theorem quiet_one (v : Value) (hw : Region.wanted o (yielded ops a.tmps) = true) (hr : ∀ w, C w → (execOp a.eval o).run P w = .ok (.value v) w) (h : wpQuiet P ops C Q rest (a.put o.dst v)) : wpQuiet P ops C Q (o :: rest) a := by
  unfold wpQuiet
  rw [if_pos hw]
  refine ⟨v, fun w hC => ?_, h⟩
  unfold Oper.quietAt
  rw [hr w hC]
  exact ⟨rfl, rfl⟩
theorem quiet_load (b off : Nat) (cs : List Value) (ty : TypeId) (x : Operand) (hw : Region.wanted o (yielded ops a.tmps) = true) (ho : o.op = .load ty x)
    (hx : a.eval x = .pointer (some ⟨b, off, none⟩)) (d : TypeDesc) (hu : P.underlying ty = some d) (hd : d.isRow = true) (hi : (P.info? ty).map (·.size) = some cs.length) (hC : ∀ w, C w → w.rangeAt b off cs)
    (h : wpQuiet P ops C Q rest (a.put o.dst (.agg cs.toArray))) : wpQuiet P ops C Q (o :: rest) a :=
  quiet_one _ hw (fun w hw' => by
    unfold execOp
    simp only [ho, hx, Instr.loadAt, Instr.sureAddr, Sem.run_bind, Sem.run_pure, Result.andThen_ok, run_loadVar_mid w b off ty cs d (hC w hw') hu hd hi]) h
theorem quiet_eql (ty ty' : TypeId) (x y : Operand) (hw : Region.wanted o (yielded ops a.tmps) = true) (ho : o.op = .binOp .eql ty x y ty') (A B : Array Value) (b : Bool)
    (hx : a.eval x = .agg A) (hy : a.eval y = .agg B) (hg : P.eqGuardType P.depth ty = false) (he : ∀ w, (binOp .eql ty (.agg A) (.agg B)).run P w = .ok (.bool b) w)
    (h : wpQuiet P ops C Q rest (a.put o.dst (.bool b))) : wpQuiet P ops C Q (o :: rest) a :=
  quiet_one _ hw (fun w hw' => by
    unfold execOp
    simp only [ho, hx, hy, Sem.run_bind, run_eqGuard_agg w .eql ty x y A B hg, he, Result.andThen_ok, Sem.run_pure]) h
end
theorem G43 : Try.prog.eqGuardType Try.prog.depth 43 = false := by kernel_rfl
theorem G44 : Try.prog.eqGuardType Try.prog.depth 44 = false := by kernel_rfl
theorem range_drewN {w : World} {b o : Nat} {cs : List Value} (h : w.rangeAt b o cs) : ∀ w', (∃ n, w' = w.drewN n) → w'.rangeAt b o cs := by
  rintro _ ⟨n, rfl⟩
  exact h

set_option maxHeartbeats 1000000 in
set_option maxRecDepth 100000 in
theorem same_is (w : World) (g g' : Nat) (V V' : List Int) (I I' : List Bool) (ht : Tab w g V I) (ht' : Tab w g' V' I') :
    Calls Try.prog 16 #[.pointer (some ⟨g, 0, none⟩), .pointer (some ⟨g', 0, none⟩)] w fun e w' => e = .returned (.bool (V == V' && I == I')) ∧ ∃ n, w' = w.drewN n := by
  have e1 := eql_vals V V' ht.lv ht'.lv
  have e2 := eql_iss I I' ht.li ht'.li
  have r1 := ht.val_row
  have r2 := ht.is_row
  have r3 := ht'.val_row
  have r4 := ht'.is_row
  have z1 : (V.map (Value.int .i64)).length = 16 := by rw [List.length_map]; exact ht.lv
  have z2 : (I.map Value.bool).length = 16 := by rw [List.length_map]; exact ht.li
  have z3 : (V'.map (Value.int .i64)).length = 16 := by rw [List.length_map]; exact ht'.lv
  have z4 : (I'.map Value.bool).length = 16 := by rw [List.length_map]; exact ht'.li
  clear ht ht'
  generalize hb1 : (V == V') = b1 at *
  generalize hb2 : (I == I') = b2 at *
  clear hb1 hb2
  generalize V.map (Value.int .i64) = L1 at *
  generalize I.map Value.bool = L2 at *
  generalize V'.map (Value.int .i64) = L3 at *
  generalize I'.map Value.bool = L4 at *
  have i1 : (Try.prog.info? 43).map (·.size) = some L1.length := by rw [z1]; exact info43
  have i2 : (Try.prog.info? 44).map (·.size) = some L2.length := by rw [z2]; exact info44
  have i3 : (Try.prog.info? 43).map (·.size) = some L3.length := by rw [z3]; exact info43
  have i4 : (Try.prog.info? 44).map (·.size) = some L4.length := by rw [z4]; exact info44
  cases b1
  · go_enter Try.func16, Try.ntmps16
    go_wp2_with fail
    refine wp_region_quiet_lit (by kernel_rfl) (by kernel_rfl) ?_
    iterate 6 go_big_quiet_step (fail)
    refine quiet_load g 0 L1 43 (.tmp 10) rfl rfl rfl _ Try.underlying43 rfl i1 (range_drewN r1) ?_
    simp only [Act.put, List.setIfInBounds_toArray, List.set_cons_zero, List.set_cons_succ]
    iterate 3 go_big_quiet_step (fail)
    refine quiet_load g' 0 L3 43 (.tmp 14) rfl rfl rfl _ Try.underlying43 rfl i3 (range_drewN r3) ?_
    simp only [Act.put, List.setIfInBounds_toArray, List.set_cons_zero, List.set_cons_succ]
    refine quiet_eql 43 43 (.tmp 11) (.tmp 15) rfl rfl _ _ _ rfl rfl G43 e1 ?_
    simp only [Act.put, List.setIfInBounds_toArray, List.set_cons_zero, List.set_cons_succ]
    iterate 13 go_big_quiet_step (fail)
    refine wpQuiet_nil ?_
    intro _ hw'
    obtain ⟨nq, hw''⟩ := hw'
    subst hw''
    go_wp2
    go_ret
    exact ⟨by first | rfl | simp, nq, rfl⟩
  · go_enter Try.func16, Try.ntmps16
    go_wp2_with fail
    refine wp_region_quiet_lit (by kernel_rfl) (by kernel_rfl) ?_
    iterate 6 go_big_quiet_step (fail)
    refine quiet_load g 0 L1 43 (.tmp 10) rfl rfl rfl _ Try.underlying43 rfl i1 (range_drewN r1) ?_
    simp only [Act.put, List.setIfInBounds_toArray, List.set_cons_zero, List.set_cons_succ]
    iterate 3 go_big_quiet_step (fail)
    refine quiet_load g' 0 L3 43 (.tmp 14) rfl rfl rfl _ Try.underlying43 rfl i3 (range_drewN r3) ?_
    simp only [Act.put, List.setIfInBounds_toArray, List.set_cons_zero, List.set_cons_succ]
    refine quiet_eql 43 43 (.tmp 11) (.tmp 15) rfl rfl _ _ _ rfl rfl G43 e1 ?_
    simp only [Act.put, List.setIfInBounds_toArray, List.set_cons_zero, List.set_cons_succ]
    iterate 5 go_big_quiet_step (fail)
    refine quiet_load g 16 L2 44 (.tmp 21) rfl rfl rfl _ Try.underlying44 rfl i2 (range_drewN r2) ?_
    simp only [Act.put, List.setIfInBounds_toArray, List.set_cons_zero, List.set_cons_succ]
    iterate 3 go_big_quiet_step (fail)
    refine quiet_load g' 16 L4 44 (.tmp 25) rfl rfl rfl _ Try.underlying44 rfl i4 (range_drewN r4) ?_
    simp only [Act.put, List.setIfInBounds_toArray, List.set_cons_zero, List.set_cons_succ]
    refine quiet_eql 44 44 (.tmp 22) (.tmp 26) rfl rfl _ _ _ rfl rfl G44 e2 ?_
    simp only [Act.put, List.setIfInBounds_toArray, List.set_cons_zero, List.set_cons_succ]
    iterate 2 go_big_quiet_step (fail)
    refine wpQuiet_nil ?_
    intro _ hw'
    obtain ⟨nq, hw''⟩ := hw'
    subst hw''
    go_wp2
    go_ret
    exact ⟨by first | rfl | simp, nq, rfl⟩
end Go.Proofs.Ytlohaefhigbdjaa.Fds
