/- The law TreeWalks: its walk. -/
import Derived.Test.YtioccjeiheejjaaTrHalves
import Derived.Test.YtioccjeiheejjaaTrRefB
import Derived.ChangeKeysEq
namespace Go.Proofs.Ytioccjeiheejjaa.Tree
open Go.RowKit Go.Shelf Go.Proofs.YtioccjeiheejjaaW.PrintWords Go.Proofs.YtioccjeiheejjaaW.PrintLast Go.Proofs.YtioccjeiheejjaaW.PrintMore Go.Proofs.Ytioccjeiheejjaa.Fns
attribute [local go_sem] Oper.semAt_some
attribute [local go_sem] max2_int min2_int max_two min_two max_three min_three max_four min_four
set_option linter.unusedVariables false
set_option linter.unusedSimpArgs false

theorem allparts_calls (S : Int) (hS : S ≤ 3000) (w : World) : Calls Try.prog 13 #[.int .i64 0, .int .i64 S] w fun e w' => ∃ v, e = .returned v ∧ Kd.R pr 35 w' w.heap.size (fun _ => True) v (parts S.toNat 0 S.toNat) ∧ Below w.heap.size w w' := by
  by_cases h : S ≤ 0
  · refine (parts_none 0 S h w).mono ?_
    rintro e w' ⟨rfl, hb⟩
    refine ⟨_, rfl, ?_, hb⟩
    rw [show S.toNat = 0 by omega]
    exact Kd.R_nil _ _ _ _ _
  · have := parts_calls S.toNat 0 S.toNat (by omega) (by omega) (by omega) w
    rw [show ((S.toNat : Nat) : Int) = S by omega] at this
    exact this

theorem cells3 : Try.prog.cellsOf 3 = 1 := by kernel_rfl
theorem run_part3 (W : World) (xs : Array Value) (i : Nat) (v : Value) (h : xs[i]? = some v) : (part 3 xs i).run Try.prog W = .ok v W := by
  simp [part, isAgg, run_underlying Try.underlying3, h]
/-- '==' of two arrays of two ints. -/
theorem run_eq35 (W : World) (a b c d : Int) : (Op.equalIn 10000 35 (.agg #[.int .i64 a, .int .i64 b]) (.agg #[.int .i64 c, .int .i64 d])).run Try.prog W = .ok (a == c && b == d) W := by
  obtain ⟨i, hi⟩ : ∃ i, Try.prog.info? 3 = some i := by
    cases h : Try.prog.info? 3 with
    | none => have := info3; rw [h] at this; cases this
    | some i => exact ⟨i, rfl⟩
  rw [run_equalIn_array W 9999 _ _ Try.underlying35 hi, cells3]
  have e : List.range 2 = [0, 1] := rfl
  rw [e]
  simp only [Op.eqItems, Sem.run_bind, run_part3 W #[.int .i64 a, .int .i64 b] (0 * 1) (.int .i64 a) rfl, run_part3 W #[.int .i64 a, .int .i64 b] (1 * 1) (.int .i64 b) rfl, run_part3 W #[.int .i64 c, .int .i64 d] (0 * 1) (.int .i64 c) rfl, run_part3 W #[.int .i64 c, .int .i64 d] (1 * 1) (.int .i64 d) rfl, Result.andThen_ok, run_equalIn_int W 9998 3 .i64 .i64 _ _ Try.underlying3]
  have p1 : (part 3 #[.int .i64 a, .int .i64 b] 1).run Try.prog W = .ok (.int .i64 b) W := run_part3 W _ 1 _ rfl
  have p2 : (part 3 #[.int .i64 c, .int .i64 d] 1).run Try.prog W = .ok (.int .i64 d) W := run_part3 W _ 1 _ rfl
  have p3 := run_equalIn_int W 9998 3 .i64 .i64 b d Try.underlying3
  cases a == c <;> cases hbd : (b == d) <;> simp_all

set_option maxHeartbeats 4000000 in
set_option maxRecDepth 100000 in
theorem walks_main (S m : Int) (hS : S ≤ 3000) (hm : 0 ≤ m) (w : World) :
    Calls Try.prog 4 #[.int .i64 S, .int .i64 m] w fun e W' => e = .returned (.bool true) ∧ Below w.heap.size w W' := by
  refine (callsIn_wide (n := 6)).1 ?_
  have hnf := fun (W : World) (f : Fn) (x y : Array Value) => run_eql_func_nil W f x y
  have d0 : decide ((3000 : Int) < S) = false := decide_eq_false (by omega)
  have d1 : decide (m < 0) = false := decide_eq_false (by omega)
  have HS := Aside0.mk hS
  have HM := Aside0.mk hm
  have HPC := Aside0.mk (allparts_calls S hS)
  clear hS hm
  refine callsIn_of_wp_marks Try.func4 rfl trivial ?_ rfl
  simp only [Try.ntmps4, List.size_toArray, List.length_cons, List.length_nil, Nat.reduceAdd, Nat.reduceSub, Array.replicate_succ, Array.replicate_zero, List.push_toArray, List.append_toArray, List.nil_append, List.cons_append]
  gi_wp2
  refine ⟨trivial, ?_⟩
  have k1 := Boxed.new w 3 (.int .i64 m)
  have k2 := Boxed.new (w.alloc (.cells #[.int .i64 m] 3)) 4 (.bool false)
  rw [World.size_alloc] at k2
  have k1' := k1.alloc (.cells #[.bool false] 4)
  have hb0 : Below w.heap.size w ((w.alloc (.cells #[.int .i64 m] 3)).alloc (.cells #[.bool false] 4)) := below_alloc (below_alloc (Below.refl _ _) _) _
  refine (callsIn_wide.2 (awake_calls _)).mono ?_
  rintro e w2 ⟨rfl, hb2⟩
  have j1 : Boxed w2 w.heap.size 3 (.int .i64 m) := (hb2.block _ k1'.lt).trans k1'
  have j2 : Boxed w2 (w.heap.size + 1) 4 (.bool false) := (hb2.block _ k2.lt).trans k2
  have hbw : Below w.heap.size w w2 := below_then hb0 hb0.size hb2
  clear k1 k2 k1' hb2 hb0
  have hc1 := j1.cell
  gi_wp2
  refine ⟨trivial, ?_⟩
  refine (callsIn_wide.2 (HPC.out w2)).mono ?_
  rintro e w3 ⟨v3, rfl, ho3, hb3⟩
  obtain ⟨A3, c3, rfl⟩ := Kd.R_slice ho3
  have hC3 := (Kd.R_reads' ho3).2.2
  have i1 : Boxed w3 w.heap.size 3 (.int .i64 m) := (hb3.block _ j1.lt).trans j1
  have i2 : Boxed w3 (w.heap.size + 1) 4 (.bool false) := (hb3.block _ j2.lt).trans j2
  have hbw3 := below_then hbw hbw.size hb3
  have hj2 := i2.lt
  clear hbw j1 j2 hb3 ho3 HPC hc1
  have HPL := Aside0.mk (show (parts S.toNat 0 S.toNat).length ≤ 6000 by
    have := parts_odd S.toNat 0 S.toNat
    have := HS.out
    omega)
  have HWS := Aside0.mk (fun Bs w h1 h2 => walk_stops 5 Bs S (by have := HS.out; omega) w h1 h2)
  obtain ⟨P, hP⟩ : ∃ P, parts S.toNat 0 S.toNat = P := ⟨_, rfl⟩
  rw [hP] at HPL HWS hC3
  simp only [hP]
  clear hP
  -- the boxes that are laid ahead of the loop
  have k6 := Boxed.new w3 30 (.slice none 0 0)
  have hc6 := k6.cell
  have hf6 := k6.frozen
  obtain ⟨X4, hX4⟩ : ∃ X4, (w3.alloc (.cells #[.slice none 0 0] 30)).setCell ⟨w3.heap.size, 0, none⟩ (.slice A3 P.length c3) = X4 := ⟨_, rfl⟩
  have k6' : Boxed X4 w3.heap.size 30 (.slice A3 P.length c3) := by rw [← hX4]; exact k6.set _
  have hs4 : X4.heap.size = w3.heap.size + 1 := by rw [← hX4]; simp [World.setCell]
  have hb4 : Below w3.heap.size w3 X4 := by rw [← hX4]; exact Below.setCell (below_alloc (Below.refl _ _) _) (p := ⟨w3.heap.size, 0, none⟩) (Nat.le_refl _) _
  have k7 := Boxed.new X4 3 (.int .i64 0)
  rw [hs4] at k7
  have hc7 := k7.cell
  have hf7 := k7.frozen
  obtain ⟨X5, hX5⟩ : ∃ X5, (X4.alloc (.cells #[.int .i64 0] 3)).setCell ⟨w3.heap.size + 1, 0, none⟩ (.int .i64 0) = X5 := ⟨_, rfl⟩
  have k7' : Boxed X5 (w3.heap.size + 1) 3 (.int .i64 0) := by rw [← hX5]; exact k7.set _
  have hs5 : X5.heap.size = w3.heap.size + 2 := by rw [← hX5]; simp [World.setCell, hs4]
  have hb5 : Below X4.heap.size X4 X5 := by rw [← hX5]; exact Below.setCell (below_alloc (Below.refl _ _) _) (p := ⟨w3.heap.size + 1, 0, none⟩) (by simp only; omega) _
  have l1 : Boxed X4 w.heap.size 3 (.int .i64 m) := (hb4.block _ i1.lt).trans i1
  have l2 : Boxed X4 (w.heap.size + 1) 4 (.bool false) := (hb4.block _ i2.lt).trans i2
  have hC4 := Kd.C_below hC3 hb4
  have hbw4 := below_then hbw3 hbw3.size hb4
  have HB5 := Aside0.mk hb5
  have HK7 := Aside0.mk k7'
  have HK6 := Aside0.mk k6'
  have HL1 := Aside0.mk l1
  have HL2 := Aside0.mk l2
  have HC4 := Aside0.mk hC4
  have HBW := Aside0.mk hbw4
  have HS5 := Aside0.mk hs5
  have HS4 := Aside0.mk hs4
  have HJ := Aside0.mk hj2
  clear i1 i2 hbw3 hj2 hC3 k6 k6' hb4 k7 k7' hb5 l1 l2 hC4 hbw4 hs5
  gi_wp2
  refine ⟨trivial, ?_⟩
  refine (walk_in 5 S X5).mono ?_
  rintro e w' ⟨rfl, rfl⟩
  rw [HS5.out]
  have hSX : Boxed (X5.alloc (.cells #[.int .i64 S] 3)) (w3.heap.size + 2) 3 (.int .i64 S) := by
    have := Boxed.new X5 3 (.int .i64 S)
    rw [HS5.out] at this
    exact this
  have hs6 : (X5.alloc (.cells #[.int .i64 S] 3)).heap.size = w3.heap.size + 3 := by rw [World.size_alloc, HS5.out]
  have h7 : Boxed (X5.alloc (.cells #[.int .i64 S] 3)) (w3.heap.size + 1) 3 (.int .i64 0) := HK7.out.alloc _
  have hb6 : Below X4.heap.size X4 (X5.alloc (.cells #[.int .i64 S] 3)) := below_alloc HB5.out _
  generalize X5.alloc (.cells #[.int .i64 S] 3) = X6 at hSX hs6 h7 hb6 ⊢
  have HSX := Aside0.mk hSX
  have HS6 := Aside0.mk hs6
  have H7 := Aside0.mk h7
  have HB6 := Aside0.mk hb6
  clear hSX hs6 h7 hb6 hX5 hX4 hc6 hf6 hc7 hf7 hs4
  gi_wp2
  have hord := HJ.out
  have hm0 := HM.out
  have hs6 := HS6.out
  have hs4 := HS4.out
  refine wpIn_rangeFunc_ownG rfl (by omega) (gf := 22) (lb := #[.pointer (some ⟨w3.heap.size + 2, 0, none⟩)]) rfl trivial (enters_of Try.func22 (by kernel_rfl) rfl)
    (HWS.out (w3.heap.size + 2) X6 (by omega) HSX.out.cell) KT.trans (fun W l o o' _ h ho _ => KT.putObj W l o o' h ho) (Below.refl _ _) (fun _ => rfl)
    (fun pre W => ((pre.length : Int) ≤ m ∧ pre = P.take pre.length ∧ Boxed W (w3.heap.size + 1) 3 (.int .i64 (pre.length : Int))) ∧ Below X4.heap.size X4 W)
    (fun c ys W => (c = .ret ∧ ¬ ys <+: P) ∨ (c = .exit 0 ∧ (ys.length : Int) = m + 1 ∧ Boxed W (w3.heap.size + 1) 3 (.int .i64 m) ∧ Below X4.heap.size X4 W))
    (OwnFrom.and (fun pre W W' row ⟨h1, h2, h3⟩ hg hrow => ⟨h1, h2, box_abides h3 hg (fun r e => (hrow r e).2)⟩) (ownFrom_below (Nat.le_refl _) (by omega)))
    (fun c pre W W' row hs hg hrow => hs.imp id (fun ⟨h1, h2, h3, h4⟩ => ⟨h1, h2, box_abides h3 hg (fun r e => (hrow r e).2), ownFrom_below (Nat.le_refl _) (by omega) pre W W' row h4 hg hrow⟩))
    ⟨⟨by simpa using hm0, rfl, H7.out⟩, HB6.out⟩
    (fun x => { tmps := #[.int .i64 S, .int .i64 m, undef, .pointer (some ⟨w.heap.size, 0, none⟩), .pointer (some ⟨w.heap.size + 1, 0, none⟩), .bool true, .pointer (some ⟨w3.heap.size, 0, none⟩), .pointer (some ⟨w3.heap.size + 1, 0, none⟩), .func (.func 22) #[] #[.pointer (some ⟨w3.heap.size + 2, 0, none⟩)], .int .i64 x.1, .int .i64 x.2, .bool true, .int .i64 S, .bool false, .bool false, .int .i64 m, .bool false, .bool false, undef, .int .i64 S, .slice A3 P.length c3, .int .i64 S, .func (.func 22) #[] #[.pointer (some ⟨w3.heap.size + 2, 0, none⟩)], .func (.func 22) #[] #[.pointer (some ⟨w3.heap.size + 2, 0, none⟩)], .bool false, .func (.func 22) #[] #[.pointer (some ⟨w3.heap.size + 2, 0, none⟩)], .int .i64 x.1, .int .i64 x.2, undef, undef, undef, undef, undef, undef, undef, undef, undef, undef, undef, undef, undef, undef, undef, undef, undef, undef, undef, undef, undef, undef, undef, undef, undef, undef, undef, undef], defers := [] }) ?assign ?body ?done ?stop
  case assign =>
    intro l x W K hK
    gi_wp2
    exact hK
  case body =>
    rintro l pre x W ⟨⟨hpm, hpt, hb⟩, hB⟩ hlt
    have hb1 : Boxed W w.heap.size 3 (.int .i64 m) := (hB.block _ HL1.out.lt).trans HL1.out
    have hb2 : Boxed W (w.heap.size + 1) 4 (.bool false) := (hB.block _ HL2.out.lt).trans HL2.out
    have hb6 : Boxed W w3.heap.size 30 (.slice A3 P.length c3) := (hB.block _ HK6.out.lt).trans HK6.out
    have y1 := hb1.cell
    have y2 := hb2.cell
    have z2 := hb2.frozen
    have y6 := hb6.cell
    have y7 := hb.cell
    have z7 := hb.frozen
    have HP := Aside0.mk hlt
    have HT := Aside0.mk hpt
    have HBX := Aside0.mk hb
    have HBL := Aside0.mk hB
    have HCN := Aside0.mk (show (pre ++ [x]).length = pre.length + 1 by simp)
    have HCW := Aside0.mk (show ((pre ++ [x]).length : Int) = (pre.length : Int) + 1 by simp)
    have hlen : pre.length < 6000 := by have := HPL.out; omega
    have HK2 := Aside0.mk (show Kp (fun k => k = w3.heap.size + 1 ∨ k = w.heap.size + 1) W (W.setCell ⟨w.heap.size + 1, 0, none⟩ (.bool false)) from (Kp.refl _ W).set _ 0 _ (.inr rfl))
    have HTY := Aside0.mk (show ∀ i, (i = w3.heap.size + 1 ∨ i = w.heap.size + 1) → ∃ c q, W.heap[i]? = some (.cells c q (0, 0)) ∧ q ≠ 36 by
      rintro i (rfl | rfl)
      · exact ⟨_, _, hb, by decide⟩
      · exact ⟨_, _, hb2, by decide⟩)
    clear hlt hpt hb hB hb1 hb2 hb6
    by_cases g1 : m ≤ (pre.length : Int)
    · have q1 : decide (m ≤ (pre.length : Int)) = true := decide_eq_true g1
      have HG := Aside0.mk (show (pre.length : Int) = m by omega)
      clear g1 hpm
      gi_wp2
      refine ⟨KeepsFrom.refl _ _, .inr ⟨rfl, ?_, ?_, HBL.out⟩⟩
      · rw [← HG.out]
        simp
      · rw [← HG.out]
        exact HBX.out
    have q1 : decide (m ≤ (pre.length : Int)) = false := decide_eq_false g1
    by_cases g2 : P.length ≤ pre.length
    · have q2 : decide ((P.length : Int) ≤ (pre.length : Int)) = true := decide_eq_true (by omega)
      have q2' : decide (P.length ≤ pre.length) = true := decide_eq_true g2
      have HG := Aside0.mk g2
      clear g1 g2 hpm
      gi_wp2
      refine ⟨(HK2.out.others HTY.out).1.from _, .inl ⟨rfl, fun hpre => ?_⟩⟩
      have := hpre.length_le
      have := HG.out
      rw [List.length_append, List.length_singleton] at *
      omega
    have q2 : decide ((P.length : Int) ≤ (pre.length : Int)) = false := decide_eq_false (by omega)
    have q2' : decide (P.length ≤ pre.length) = false := decide_eq_false g2
    obtain ⟨ad, f0, o0, o1⟩ := at_pr (Kd.C_below HC4.out HBL.out) pre.length (by omega)
    have hget : P[pre.length]? = some (P.getD pre.length (0, 0)) := by simp [List.getD_eq_getElem?_getD, show pre.length < P.length by omega]
    obtain ⟨p, hp⟩ : ∃ p, P.getD pre.length (0, 0) = p := ⟨_, rfl⟩
    rw [hp] at o0 o1 hget
    have o1' : W.cell? ⟨(ad.add (pre.length * 2)).block, (ad.add (pre.length * 2)).off + 1, none⟩ = some (.int .i64 p.2) := by rw [← add_add] at o1; exact o1
    have HGT := Aside0.mk hget
    have p1 : (0 ≤ (pre.length : Int)) = True := eq_true (by omega)
    have p2 : ((pre.length : Int) < (P.length : Int)) = True := eq_true (by omega)
    have p3 : (pre.length < P.length) = True := eq_true (by omega)
    subst f0
    have HPM := Aside0.mk (show (pre.length : Int) + 1 ≤ m by omega)
    clear hget hp o1 hpm g1 g2
    by_cases g3 : p = x
    · have HG := Aside0.mk g3
      have q4 := run_eq35 W p.1 p.2 x.1 x.2
      rw [show (p.1 == x.1 && p.2 == x.2) = true by rw [g3]; simp] at q4
      clear g3
      gi_wp2
      have hot := ((Kp.refl (fun k => k = w3.heap.size + 1 ∨ k = w.heap.size + 1) W).set (w3.heap.size + 1) 0 (.int .i64 ((pre.length : Int) + 1)) (.inl rfl)).others HTY.out
      refine ⟨hot.1.from _, hot.2, ⟨?_, ?_, ?_⟩, ?_⟩
      · rw [HCW.out]
        exact HPM.out
      · rw [HCN.out, List.take_add_one, ← HT.out, HGT.out, HG.out]
        rfl
      · rw [HCW.out]
        exact HBX.out.set _
      · exact HBL.out.setCell (p := ⟨w3.heap.size + 1, 0, none⟩) (by have := HS4.out; simp only; omega) _
    · have HG := Aside0.mk g3
      have q4 := run_eq35 W p.1 p.2 x.1 x.2
      rw [show (p.1 == x.1 && p.2 == x.2) = false by
        rw [Bool.eq_false_iff]
        intro h
        rw [Bool.and_eq_true, beq_iff_eq, beq_iff_eq] at h
        exact g3 (Prod.ext h.1 h.2)] at q4
      clear g3
      gi_wp2
      refine ⟨(HK2.out.others HTY.out).1.from _, .inl ⟨rfl, fun hpre => ?_⟩⟩
      obtain ⟨r, hr⟩ := hpre
      have h1 := HGT.out
      rw [← hr] at h1
      simp at h1
      exact HG.out h1.symm
  case done =>
    rintro D ys W hD hys ⟨⟨hpm, hpt, hb⟩, hB⟩ hK
    rw [hys] at hpm hb
    have hb1 : Boxed W w.heap.size 3 (.int .i64 m) := (hB.block _ HL1.out.lt).trans HL1.out
    have hb2 : Boxed W (w.heap.size + 1) 4 (.bool false) := (hB.block _ HL2.out.lt).trans HL2.out
    have hb6 : Boxed W w3.heap.size 30 (.slice A3 P.length c3) := (hB.block _ HK6.out.lt).trans HK6.out
    have y1 := hb1.cell
    have y2 := hb2.cell
    have z2 := hb2.frozen
    have y6 := hb6.cell
    have y7 := hb.cell
    have HBX := Aside0.mk (below_then HBW.out HBW.out.size hB)
    clear hB hb hb1 hb2 hb6
    gi_wp2
    all_goals
      try rw [show ((P.length : Int) == m) = true from beq_iff_eq.mpr (by omega)]
      have hK' := (KeepsOthers.setCell W ⟨w.heap.size + 1, 0, none⟩ (.bool true)).same D _ hK rfl
      refine ⟨by simp, .inl ⟨_, _, rfl, run_takeDeferred hK', ?_⟩⟩
      have hc9 := cell_kept (World.cell?_setCell_same' W ⟨w.heap.size + 1, 0, none⟩ (.bool true) (by rw [y2]; rfl)) (grownBy_putObj' _ D (.deferred none)) (fun r e => by cases e; exact ⟨_, hK', rfl⟩)
      refine ⟨.bool true, by simp [results, Try.f4, go_sem, hc9], rfl, ?_⟩
      exact (HBX.out.setCell (p := ⟨w.heap.size + 1, 0, none⟩) (by simp only; omega) _).trans (belowK_b (w := w) (Nat.le_refl _) _ D _ _ (by omega) hK' rfl rfl)
  case stop =>
    rintro D c pre W hD hp h hK
    rcases h with ⟨rfl, h⟩ | ⟨rfl, h1, hb, hB⟩
    · exact absurd hp h
    have hlp : m + 1 ≤ (P.length : Int) := by have := hp.length_le; omega
    have hb1 : Boxed W w.heap.size 3 (.int .i64 m) := (hB.block _ HL1.out.lt).trans HL1.out
    have hb2 : Boxed W (w.heap.size + 1) 4 (.bool false) := (hB.block _ HL2.out.lt).trans HL2.out
    have hb6 : Boxed W w3.heap.size 30 (.slice A3 P.length c3) := (hB.block _ HK6.out.lt).trans HK6.out
    have y1 := hb1.cell
    have y2 := hb2.cell
    have z2 := hb2.frozen
    have y6 := hb6.cell
    have y7 := hb.cell
    have HBX := Aside0.mk (below_then HBW.out HBW.out.size hB)
    clear hB hb hb1 hb2 hb6 h1 hp
    gi_wp2
    all_goals
      try rw [show (m == (P.length : Int)) = true from beq_iff_eq.mpr (by omega)]
      have hK' := (KeepsOthers.setCell W ⟨w.heap.size + 1, 0, none⟩ (.bool true)).same D _ hK rfl
      refine ⟨by simp, .inl ⟨_, _, rfl, run_takeDeferred hK', ?_⟩⟩
      have hc9 := cell_kept (World.cell?_setCell_same' W ⟨w.heap.size + 1, 0, none⟩ (.bool true) (by rw [y2]; rfl)) (grownBy_putObj' _ D (.deferred none)) (fun r e => by cases e; exact ⟨_, hK', rfl⟩)
      refine ⟨.bool true, by simp [results, Try.f4, go_sem, hc9], rfl, ?_⟩
      exact (HBX.out.setCell (p := ⟨w.heap.size + 1, 0, none⟩) (by simp only; omega) _).trans (belowK_b (w := w) (Nat.le_refl _) _ D _ _ (by omega) hK' rfl rfl)

set_option maxHeartbeats 4000000 in
set_option maxRecDepth 100000 in
theorem walks_out (S m : Int) (b : Bool) (hb : decide ((3000 : Int) < S) = b) (hm : b = false → decide (m < 0) = true) (w : World) :
    Calls Try.prog 4 #[.int .i64 S, .int .i64 m] w fun e W' => e = .returned (.bool true) ∧ Below w.heap.size w W' := by
  refine (callsIn_wide (n := 6)).1 ?_
  refine callsIn_of_wp_marks Try.func4 rfl trivial ?_ rfl
  simp only [Try.ntmps4, List.size_toArray, List.length_cons, List.length_nil, Nat.reduceAdd, Nat.reduceSub, Array.replicate_succ, Array.replicate_zero, List.push_toArray, List.append_toArray, List.nil_append, List.cons_append]
  have HB := Aside0.mk hb
  have HM := Aside0.mk hm
  clear hb hm
  gi_wp2
  refine ⟨trivial, ?_⟩
  have k1 := Boxed.new w 3 (.int .i64 m)
  have k2 := Boxed.new (w.alloc (.cells #[.int .i64 m] 3)) 4 (.bool false)
  rw [World.size_alloc] at k2
  have k1' := k1.alloc (.cells #[.bool false] 4)
  have hb0 : Below w.heap.size w ((w.alloc (.cells #[.int .i64 m] 3)).alloc (.cells #[.bool false] 4)) := below_alloc (below_alloc (Below.refl _ _) _) _
  refine (callsIn_wide.2 (awake_calls _)).mono ?_
  rintro e w2 ⟨rfl, hb2⟩
  have j1 : Boxed w2 w.heap.size 3 (.int .i64 m) := (hb2.block _ k1'.lt).trans k1'
  have j2 : Boxed w2 (w.heap.size + 1) 4 (.bool false) := (hb2.block _ k2.lt).trans k2
  have hbw : Below w.heap.size w w2 := below_then hb0 hb0.size hb2
  clear k1 k2 k1' hb2 hb0
  have y1 := j1.cell
  have y2 := j2.cell
  have z2 := j2.frozen
  have hc9 := (j2.set (.bool true)).cell
  cases b with
  | true =>
    have d0 := HB.out
    gi_wp2
    refine ⟨.bool true, by simp [results, Try.f4, go_sem, hc9], rfl, ?_⟩
    exact hbw.setCell (p := ⟨w.heap.size + 1, 0, none⟩) (by simp only; omega) _
  | false =>
    have d0 := HB.out
    have d1 := HM.out rfl
    gi_wp2
    refine ⟨.bool true, by simp [results, Try.f4, go_sem, hc9], rfl, ?_⟩
    exact hbw.setCell (p := ⟨w.heap.size + 1, 0, none⟩) (by simp only; omega) _
theorem walks_any (S m : Int) (w : World) : Calls Try.prog 4 #[.int .i64 S, .int .i64 m] w fun e W' => e = .returned (.bool true) ∧ Below w.heap.size w W' := by
  by_cases h : 3000 < S
  · exact walks_out S m true (decide_eq_true h) (fun h => by cases h) w
  · by_cases hm : m < 0
    · exact walks_out S m false (decide_eq_false h) (fun _ => decide_eq_true hm) w
    · exact walks_main S m (by omega) (by omega) w
end Go.Proofs.Ytioccjeiheejjaa.Tree
