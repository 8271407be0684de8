/- The law TreeHalves: its plain law and its walk. -/
import Derived.Test.YtioccjeiheejjaaTrPure
namespace Go.Proofs.Ytioccjeiheejjaa.Tree
open Go.RowKit Go.Shelf Go.Proofs.YtioccjeiheejjaaW.PrintWords Go.Proofs.YtioccjeiheejjaaW.PrintLast Go.Proofs.YtioccjeiheejjaaW.PrintMore Go.Proofs.Ytioccjeiheejjaa.Fns
attribute [local go_sem] Oper.semAt_some
attribute [local go_sem] max2_int min2_int max_two min_two max_three min_three max_four min_four
set_option linter.unusedVariables false
set_option linter.unusedSimpArgs false

/-- what the parts' check comes to: where the next part of one place must begin; nothing, if a part is amiss. -/
def ok (S : Int) : Int → List (Int × Int) → Option Int
  | e, [] => some e
  | e, x :: xs => if x.1 < 0 ∨ S < x.2 ∨ x.2 ≤ x.1 then none else if wrap64 (x.2 - x.1) = 1 then (if x.1 = e then ok S x.2 xs else none) else ok S e xs
theorem ok_append (S : Int) : ∀ (a : List (Int × Int)) (e : Int) (b : List (Int × Int)), ok S e (a ++ b) = (ok S e a).bind (fun v => ok S v b)
  | [], e, b => rfl
  | x :: a, e, b => by
    rw [List.cons_append, ok, ok]
    split
    · rfl
    · split
      · split
        · exact ok_append S a x.2 b
        · rfl
      · exact ok_append S a e b
theorem ok_parts (S : Int) : ∀ (d f t : Nat), t - f ≤ d → f < t → (t : Int) ≤ S → t ≤ 1000000 → ok S (f : Int) (parts d f t) = some (t : Int)
  | 0, f, t, h1, h2, _, _ => by omega
  | d + 1, f, t, h1, h2, h3, h4 => by
    have e : wrap64 ((t : Int) - (f : Int)) = (t : Int) - (f : Int) := IntWalk.wrap64_in _ (by omega)
    rw [parts, if_neg (by omega)]
    by_cases h : t - f = 1
    · rw [if_pos h, ok, if_neg (by simp only; omega)]
      simp only
      rw [e, if_pos (by omega), if_pos trivial, ok]
    · rw [if_neg h, ok, if_neg (by simp only; omega)]
      simp only
      obtain ⟨m, hm⟩ : ∃ m, f + (t - f) / 2 = m := ⟨_, rfl⟩
      rw [e, if_neg (by omega), hm, ok_append, ok_parts S d f m (by omega) (by omega) (by omega) (by omega)]
      exact ok_parts S d m t (by omega) (by omega) h3 h4
theorem ok_all (S : Int) (hS : S ≤ 3000) : ok S 0 (parts S.toNat 0 S.toNat) = some (S.toNat : Int) := by
  by_cases h : S ≤ 0
  · rw [show S.toNat = 0 by omega]; rfl
  · exact ok_parts S S.toNat 0 S.toNat (by omega) (by omega) (by omega) (by omega)
theorem ok_prefix (S : Int) (hS : S ≤ 3000) (ys : List (Int × Int)) (h : ys <+: parts S.toNat 0 S.toNat) : ok S 0 ys ≠ none := by
  obtain ⟨r, hr⟩ := h
  have := ok_all S hS
  rw [← hr, ok_append] at this
  intro e
  rw [e] at this
  cases this
theorem parts_count (S : Int) : ((parts S.toNat 0 S.toNat).length : Int) = if S ≤ 0 then 0 else 2 * S - 1 := by
  by_cases h : S ≤ 0
  · rw [if_pos h, show S.toNat = 0 by omega]; rfl
  · rw [if_neg h, parts_len S.toNat 0 S.toNat (by omega) (by omega)]
    omega

/-- 'w == nil' of a function. -/
theorem run_equalIn_func_nil (W : World) (d : Nat) (f : Fn) (x y : Array Value) : (Op.equalIn (d + 1) 33 (.func f x y) .nilFunc).run Try.prog W = .ok false W := by
  simp [Op.equalIn, run_underlying Try.underlying33]
theorem run_eql_func_nil (W : World) (f : Fn) (x y : Array Value) : (binOp .eql 33 (.func f x y) .nilFunc).run Try.prog W = .ok (.bool false) W := by
  simp only [binOp]
  simp [Op.equal, Op.maxDepth, run_equalIn_func_nil W 9999 f x y]
/-- the boxes of the law's variables. -/
structure Bx (W : World) (b1 b2 b5 b6 : Nat) (S v c : Int) : Prop where
  s : Boxed W b1 3 (.int .i64 S)
  r : ∃ r, Boxed W b2 4 (.bool r)
  v : Boxed W b5 3 (.int .i64 v)
  c : Boxed W b6 3 (.int .i64 c)
theorem Bx.abides {W W' : World} {b1 b2 b5 b6 : Nat} {S v c : Int} (h : Bx W b1 b2 b5 b6 S v c) {row : Option Nat} (hg : W.grownBy W' row) (hr : ∀ r, row = some r → ∃ o : Obj, W.heap[r]? = some o ∧ o.isCells = false) : Bx W' b1 b2 b5 b6 S v c where
  s := box_abides h.s hg hr
  r := by obtain ⟨r, h⟩ := h.r; exact ⟨r, box_abides h hg hr⟩
  v := box_abides h.v hg hr
  c := box_abides h.c hg hr

theorem Bx.setC {W : World} {b1 b2 b5 b6 : Nat} {S v c : Int} (h : Bx W b1 b2 b5 b6 S v c) (c' : Int) (n1 : b1 ≠ b6) (n2 : b2 ≠ b6) (n3 : b5 ≠ b6) : Bx (W.setCell ⟨b6, 0, none⟩ (.int .i64 c')) b1 b2 b5 b6 S v c' where
  s := (Below.heap_setCell _ _ _ _ n1).trans h.s
  r := by obtain ⟨r, h⟩ := h.r; exact ⟨r, (Below.heap_setCell _ _ _ _ n2).trans h⟩
  v := (Below.heap_setCell _ _ _ _ n3).trans h.v
  c := h.c.set _
theorem Bx.setV {W : World} {b1 b2 b5 b6 : Nat} {S v c : Int} (h : Bx W b1 b2 b5 b6 S v c) (v' : Int) (n1 : b1 ≠ b5) (n2 : b2 ≠ b5) (n3 : b6 ≠ b5) : Bx (W.setCell ⟨b5, 0, none⟩ (.int .i64 v')) b1 b2 b5 b6 S v' c where
  s := (Below.heap_setCell _ _ _ _ n1).trans h.s
  r := by obtain ⟨r, h⟩ := h.r; exact ⟨r, (Below.heap_setCell _ _ _ _ n2).trans h⟩
  v := h.v.set _
  c := (Below.heap_setCell _ _ _ _ n3).trans h.c

set_option maxHeartbeats 4000000 in
set_option maxRecDepth 100000 in
theorem halves_main (S : Int) (hS : S ≤ 3000) (w : World) :
    Calls Try.prog 6 #[.int .i64 S] w fun e W' => e = .returned (.bool true) ∧ Below w.heap.size w W' := by
  refine (callsIn_wide (n := 6)).1 ?_
  have hnf := fun (W : World) (f : Fn) (x y : Array Value) => run_eql_func_nil W f x y
  have d0 : decide ((3000 : Int) < S) = false := decide_eq_false (by omega)
  have HS := Aside0.mk hS
  clear hS
  refine callsIn_of_wp_marks Try.func6 rfl trivial ?_ rfl
  simp only [Try.ntmps6, List.size_toArray, List.length_cons, List.length_nil, Nat.reduceAdd, Nat.reduceSub, Array.replicate_succ, Array.replicate_zero, List.push_toArray, List.append_toArray, List.nil_append, List.cons_append]
  gi_wp2
  refine ⟨trivial, ?_⟩
  have k1 := Boxed.new w 3 (.int .i64 S)
  have k2 := Boxed.new (w.alloc (.cells #[.int .i64 S] 3)) 4 (.bool false)
  rw [World.size_alloc] at k2
  have k1' := k1.alloc (.cells #[.bool false] 4)
  have hb0 : Below w.heap.size w ((w.alloc (.cells #[.int .i64 S] 3)).alloc (.cells #[.bool false] 4)) := below_alloc (below_alloc (Below.refl _ _) _) _
  refine (callsIn_wide.2 (awake_calls _)).mono ?_
  rintro e w2 ⟨rfl, hb2⟩
  have j1 : Boxed w2 w.heap.size 3 (.int .i64 S) := (hb2.block _ k1'.lt).trans k1'
  have j2 : Boxed w2 (w.heap.size + 1) 4 (.bool false) := (hb2.block _ k2.lt).trans k2
  have hbw : Below w.heap.size w w2 := below_then hb0 hb0.size hb2
  clear k1 k2 k1' hb2 hb0
  have hc1 := j1.cell
  -- the boxes that are laid ahead of the loop
  have kS := Boxed.new w2 3 (.int .i64 S)
  have hs1 : (w2.alloc (.cells #[.int .i64 S] 3 (0, 0))).heap.size = w2.heap.size + 1 := by simp
  have k5 := Boxed.new (w2.alloc (.cells #[.int .i64 S] 3)) 3 (.int .i64 0)
  rw [hs1] at k5
  have hc5 := k5.cell
  have hf5 := k5.frozen
  obtain ⟨X3, hX3⟩ : ∃ X3, ((w2.alloc (.cells #[.int .i64 S] 3)).alloc (.cells #[.int .i64 0] 3)).setCell ⟨w2.heap.size + 1, 0, none⟩ (.int .i64 0) = X3 := ⟨_, rfl⟩
  have k5' : Boxed X3 (w2.heap.size + 1) 3 (.int .i64 0) := by rw [← hX3]; exact k5.set _
  have hs3 : X3.heap.size = w2.heap.size + 2 := by rw [← hX3]; simp [World.setCell]
  have hb3 : Below w2.heap.size w2 X3 := by rw [← hX3]; exact Below.setCell (below_alloc (below_alloc (Below.refl _ _) _) _) (p := ⟨w2.heap.size + 1, 0, none⟩) (Nat.le_succ _) _
  have kS' : Boxed X3 w2.heap.size 3 (.int .i64 S) := by rw [← hX3]; exact (Below.heap_setCell _ _ _ _ (by simp)).trans (kS.alloc _)
  have k6 := Boxed.new X3 3 (.int .i64 0)
  rw [hs3] at k6
  have hc6 := k6.cell
  have hf6 := k6.frozen
  obtain ⟨X5, hX5⟩ : ∃ X5, (X3.alloc (.cells #[.int .i64 0] 3)).setCell ⟨w2.heap.size + 2, 0, none⟩ (.int .i64 0) = X5 := ⟨_, rfl⟩
  have k6' : Boxed X5 (w2.heap.size + 2) 3 (.int .i64 0) := by rw [← hX5]; exact k6.set _
  have hb5 : Below X3.heap.size X3 X5 := by rw [← hX5]; exact Below.setCell (below_alloc (Below.refl _ _) _) (p := ⟨w2.heap.size + 2, 0, none⟩) (by simp only; omega) _
  have hb25 : Below w2.heap.size w2 X5 := below_then hb3 hb3.size hb5
  have hBX : Bx X5 w.heap.size (w.heap.size + 1) (w2.heap.size + 1) (w2.heap.size + 2) S 0 0 :=
    ⟨(hb25.block _ j1.lt).trans j1, ⟨false, (hb25.block _ j2.lt).trans j2⟩, (hb5.block _ k5'.lt).trans k5', k6'⟩
  have hSX : Boxed X5 w2.heap.size 3 (.int .i64 S) := (hb5.block _ kS'.lt).trans kS'
  have hBW : Below w.heap.size w X5 := below_then hbw hbw.size hb25
  have hsz5 : w2.heap.size + 2 < X5.heap.size := k6'.lt
  have hj2 := j2.lt
  have HBX := Aside0.mk hBX
  have HSX := Aside0.mk hSX
  have HBW := Aside0.mk hBW
  have HJ := Aside0.mk (And.intro hsz5 hj2)
  clear kS k5 k5' hb3 kS' k6 k6' hb5 hb25 hBX hSX hBW hbw j1 j2 hsz5 hj2
  gi_wp2
  refine ⟨trivial, ?_⟩
  refine (walk_in 5 S w2).mono ?_
  rintro e w' ⟨rfl, rfl⟩
  gi_wp2
  have hord := HJ.out
  refine wpIn_rangeFunc_ownG rfl (by omega) (gf := 22) (lb := #[.pointer (some ⟨w2.heap.size, 0, none⟩)]) rfl trivial (enters_of Try.func22 (by kernel_rfl) rfl)
    (walk_stops 5 w2.heap.size S (by have := HS.out; omega) X5 (by omega) HSX.out.cell) KT.trans (fun W l o o' _ h ho _ => KT.putObj W l o o' h ho) (Below.refl _ _) (fun _ => rfl)
    (fun pre W => (∃ v, ok S 0 pre = some v ∧ Bx W w.heap.size (w.heap.size + 1) (w2.heap.size + 1) (w2.heap.size + 2) S v (pre.length : Int)) ∧ Below w.heap.size w W)
    (fun _ ys W => ok S 0 ys = none ∧ True)
    (OwnFrom.and (fun pre W W' row ⟨v, h1, h2⟩ hg hrow => ⟨v, h1, h2.abides hg (fun r e => (hrow r e).2)⟩) (ownFrom_below (Nat.le_refl _) (by omega)))
    (fun _ _ _ _ _ hs _ _ => hs)
    ⟨⟨0, rfl, HBX.out⟩, HBW.out⟩
    (fun x => { tmps := #[.int .i64 S, .pointer (some ⟨w.heap.size, 0, none⟩), .pointer (some ⟨w.heap.size + 1, 0, none⟩), .bool true, .func (.func 22) #[] #[.pointer (some ⟨w2.heap.size, 0, none⟩)], .pointer (some ⟨w2.heap.size + 1, 0, none⟩), .pointer (some ⟨w2.heap.size + 2, 0, none⟩), .int .i64 x.1, .int .i64 x.2, .bool true, .int .i64 S, .bool false, undef, .int .i64 S, .func (.func 22) #[] #[.pointer (some ⟨w2.heap.size, 0, none⟩)], .func (.func 22) #[] #[.pointer (some ⟨w2.heap.size, 0, none⟩)], .bool false, .func (.func 22) #[] #[.pointer (some ⟨w2.heap.size, 0, none⟩)], .int .i64 x.1, .int .i64 x.2, undef, undef, undef, undef, undef, undef, undef, undef, undef, undef, undef, undef, undef, undef, undef, undef, undef, undef, undef, undef, undef, undef, undef, undef, undef, undef, undef, undef, undef, undef, undef, undef, undef, undef, undef, undef, undef, undef], defers := [] }) ?assign ?body ?done ?stop
  case assign =>
    intro l x W K hK
    gi_wp2
    exact hK
  case body =>
    rintro l pre x W ⟨⟨v, hv, hb⟩, hB⟩ hlt
    have hlen : pre.length < 6000 := by
      have := parts_odd S.toNat 0 S.toNat
      have := HS.out
      omega
    have y1 := hb.s.cell
    have y5 := hb.v.cell
    have y6 := hb.c.cell
    have z5 := hb.v.frozen
    have z6 := hb.c.frozen
    obtain ⟨r0, hr0⟩ := hb.r
    have y2 := hr0.cell
    have z2 := hr0.frozen
    have n1 : ¬ w.heap.size = w2.heap.size + 2 := by omega
    have n2 : ¬ w.heap.size = w2.heap.size + 1 := by omega
    have n3 : ¬ w.heap.size + 1 = w2.heap.size + 2 := by omega
    have n4 : ¬ w.heap.size + 1 = w2.heap.size + 1 := by omega
    have n5 : ¬ w2.heap.size + 1 = w2.heap.size + 2 := by omega
    have n6 : ¬ w2.heap.size = w.heap.size := by omega
    have HCW := Aside0.mk (show ((pre ++ [x]).length : Int) = (pre.length : Int) + 1 by simp)
    have HB := Aside0.mk hb
    have HBl := Aside0.mk hB
    have HV := Aside0.mk hv
    have hk1 : Kp (fun k => k = w2.heap.size + 1 ∨ k = w2.heap.size + 2 ∨ k = w.heap.size + 1) W (W.setCell ⟨w2.heap.size + 2, 0, none⟩ (.int .i64 ((pre.length : Int) + 1))) := (Kp.refl _ W).set _ 0 _ (.inr (.inl rfl))
    have HK1 := Aside0.mk hk1
    have hty : ∀ i, (i = w2.heap.size + 1 ∨ i = w2.heap.size + 2 ∨ i = w.heap.size + 1) → ∃ c q, W.heap[i]? = some (.cells c q (0, 0)) ∧ q ≠ 36 := by
      rintro i (rfl | rfl | rfl)
      · exact ⟨_, _, hb.v, by decide⟩
      · exact ⟨_, _, hb.c, by decide⟩
      · exact ⟨_, _, hr0, by decide⟩
    have HTY := Aside0.mk hty
    have hok : ok S 0 (pre ++ [x]) = if x.1 < 0 ∨ S < x.2 ∨ x.2 ≤ x.1 then none else if wrap64 (x.2 - x.1) = 1 then (if x.1 = v then some x.2 else none) else some v := by
      rw [ok_append, hv]
      rfl
    have HOK := Aside0.mk hok
    have HBX2 := Aside0.mk (hb.setC ((pre.length : Int) + 1) n1 n3 n5)
    have HBL := Aside0.mk (Kp.below hB hk1 (fun i hi => by rcases hi with rfl | rfl | rfl <;> omega) hB.size)
    clear hb hB hv hk1 hty hok hlt
    by_cases g1 : x.1 < 0
    · have q1 : decide (x.1 < 0) = true := decide_eq_true g1
      have HG := Aside0.mk g1
      clear g1
      gi_wp2
      exact ⟨(HK1.out.set (w.heap.size + 1) 0 (.bool false) (.inr (.inr rfl))).others HTY.out |>.1.from _, ⟨by rw [HOK.out, if_pos (.inl HG.out)], trivial⟩⟩
    have q1 : decide (x.1 < 0) = false := decide_eq_false g1
    by_cases g2 : S < x.2
    · have q2 : decide (S < x.2) = true := decide_eq_true g2
      have HG := Aside0.mk g2
      clear g1 g2
      gi_wp2
      exact ⟨(HK1.out.set (w.heap.size + 1) 0 (.bool false) (.inr (.inr rfl))).others HTY.out |>.1.from _, ⟨by rw [HOK.out, if_pos (.inr (.inl HG.out))], trivial⟩⟩
    have q2 : decide (S < x.2) = false := decide_eq_false g2
    by_cases g3 : x.2 ≤ x.1
    · have q3 : decide (x.2 ≤ x.1) = true := decide_eq_true g3
      have HG := Aside0.mk g3
      clear g1 g2 g3
      gi_wp2
      exact ⟨(HK1.out.set (w.heap.size + 1) 0 (.bool false) (.inr (.inr rfl))).others HTY.out |>.1.from _, ⟨by rw [HOK.out, if_pos (.inr (.inr HG.out))], trivial⟩⟩
    have q3 : decide (x.2 ≤ x.1) = false := decide_eq_false g3
    have HG := Aside0.mk (show ¬ (x.1 < 0 ∨ S < x.2 ∨ x.2 ≤ x.1) by omega)
    by_cases g4 : wrap64 (x.2 - x.1) = 1
    · have q4 : (wrap64 (x.2 - x.1) == 1) = true := beq_iff_eq.mpr g4
      have HG4 := Aside0.mk g4
      by_cases g5 : x.1 = v
      · have q5 : (x.1 != v) = false := bne_eq_false_iff_eq.mpr g5
        have HG5 := Aside0.mk g5
        clear g1 g2 g3 g4 g5
        gi_wp2
        have hot := (HK1.out.set (w2.heap.size + 1) 0 (.int .i64 x.2) (.inl rfl)).others HTY.out
        refine ⟨hot.1.from _, hot.2, ⟨x.2, by rw [HOK.out, if_neg HG.out, if_pos HG4.out, if_pos HG5.out], ?_⟩, ?_⟩
        · rw [HCW.out]
          exact HBX2.out.setV x.2 n2 n4 (by omega)
        · exact HBL.out.setCell (p := ⟨w2.heap.size + 1, 0, none⟩) (by simp only; omega) _
      · have q5 : (x.1 != v) = true := bne_iff_ne.mpr g5
        have HG5 := Aside0.mk g5
        clear g1 g2 g3 g4 g5
        gi_wp2
        exact ⟨(HK1.out.set (w.heap.size + 1) 0 (.bool false) (.inr (.inr rfl))).others HTY.out |>.1.from _, ⟨by rw [HOK.out, if_neg HG.out, if_pos HG4.out, if_neg HG5.out], trivial⟩⟩
    · have q4 : (wrap64 (x.2 - x.1) == 1) = false := beq_eq_false_iff_ne.mpr g4
      have HG4 := Aside0.mk g4
      clear g1 g2 g3 g4
      gi_wp2
      have hot := HK1.out.others HTY.out
      refine ⟨hot.1.from _, hot.2, ⟨v, by rw [HOK.out, if_neg HG.out, if_neg HG4.out], ?_⟩, HBL.out⟩
      rw [HCW.out]
      exact HBX2.out
  case done =>
    rintro D ys W hD rfl ⟨⟨v, hv, hb⟩, hB⟩ hK
    rw [ok_all S HS.out] at hv
    injection hv with hv
    subst hv
    rw [parts_count S] at hb
    have y1 := hb.s.cell
    have y5 := hb.v.cell
    have y6 := hb.c.cell
    obtain ⟨r0, hr0⟩ := hb.r
    have y2 := hr0.cell
    have z2 := hr0.frozen
    have HSS := HS.out
    by_cases h0 : S ≤ 0
    · rw [if_pos h0] at y6
      gi_wp2
      all_goals
        have hK' := (KeepsOthers.setCell W ⟨w.heap.size + 1, 0, none⟩ (.bool true)).same D _ hK rfl
        refine ⟨by simp, .inl ⟨_, _, rfl, run_takeDeferred hK', ?_⟩⟩
        have hc9 := cell_kept (World.cell?_setCell_same' W ⟨w.heap.size + 1, 0, none⟩ (.bool true) (by rw [y2]; rfl)) (grownBy_putObj' _ D (.deferred none)) (fun r e => by cases e; exact ⟨_, hK', rfl⟩)
        refine ⟨.bool true, by simp [results, Try.f6, go_sem, hc9], rfl, ?_⟩
        exact (hB.setCell (p := ⟨w.heap.size + 1, 0, none⟩) (by simp only; omega) _).trans (belowK_b (w := w) (Nat.le_refl _) _ D _ _ (by omega) hK' rfl rfl)
    · rw [if_neg h0] at y6
      gi_wp2
      all_goals
        have hK' := (KeepsOthers.setCell W ⟨w.heap.size + 1, 0, none⟩ (.bool true)).same D _ hK rfl
        refine ⟨by simp, .inl ⟨_, _, rfl, run_takeDeferred hK', ?_⟩⟩
        have hc9 := cell_kept (World.cell?_setCell_same' W ⟨w.heap.size + 1, 0, none⟩ (.bool true) (by rw [y2]; rfl)) (grownBy_putObj' _ D (.deferred none)) (fun r e => by cases e; exact ⟨_, hK', rfl⟩)
        refine ⟨.bool true, by simp [results, Try.f6, go_sem, hc9], rfl, ?_⟩
        exact (hB.setCell (p := ⟨w.heap.size + 1, 0, none⟩) (by simp only; omega) _).trans (belowK_b (w := w) (Nat.le_refl _) _ D _ _ (by omega) hK' rfl rfl)
  case stop =>
    rintro D c pre W _ hp h _
    exact absurd h.1 (ok_prefix S HS.out pre hp)

set_option maxHeartbeats 4000000 in
set_option maxRecDepth 100000 in
theorem halves_out (S : Int) (hS : 3000 < S) (w : World) :
    Calls Try.prog 6 #[.int .i64 S] w fun e W' => e = .returned (.bool true) ∧ Below w.heap.size w W' := by
  refine (callsIn_wide (n := 6)).1 ?_
  have d0 : decide ((3000 : Int) < S) = true := decide_eq_true hS
  clear hS
  refine callsIn_of_wp_marks Try.func6 rfl trivial ?_ rfl
  simp only [Try.ntmps6, List.size_toArray, List.length_cons, List.length_nil, Nat.reduceAdd, Nat.reduceSub, Array.replicate_succ, Array.replicate_zero, List.push_toArray, List.append_toArray, List.nil_append, List.cons_append]
  gi_wp2
  refine ⟨trivial, ?_⟩
  have k1 := Boxed.new w 3 (.int .i64 S)
  have k2 := Boxed.new (w.alloc (.cells #[.int .i64 S] 3)) 4 (.bool false)
  rw [World.size_alloc] at k2
  have k1' := k1.alloc (.cells #[.bool false] 4)
  have hb0 : Below w.heap.size w ((w.alloc (.cells #[.int .i64 S] 3)).alloc (.cells #[.bool false] 4)) := below_alloc (below_alloc (Below.refl _ _) _) _
  refine (callsIn_wide.2 (awake_calls _)).mono ?_
  rintro e w2 ⟨rfl, hb2⟩
  have j1 : Boxed w2 w.heap.size 3 (.int .i64 S) := (hb2.block _ k1'.lt).trans k1'
  have j2 : Boxed w2 (w.heap.size + 1) 4 (.bool false) := (hb2.block _ k2.lt).trans k2
  have hbw : Below w.heap.size w w2 := below_then hb0 hb0.size hb2
  clear k1 k2 k1' hb2 hb0
  have y1 := j1.cell
  have y2 := j2.cell
  have z2 := j2.frozen
  have hc9 := (j2.set (.bool true)).cell
  gi_wp2
  refine ⟨.bool true, by simp [results, Try.f6, go_sem, hc9], rfl, ?_⟩
  exact hbw.setCell (p := ⟨w.heap.size + 1, 0, none⟩) (by simp only; omega) _
theorem halves_any (S : Int) (w : World) : Calls Try.prog 6 #[.int .i64 S] w fun e W' => e = .returned (.bool true) ∧ Below w.heap.size w W' := by
  by_cases h : S ≤ 3000
  · exact halves_main S h w
  · exact halves_out S (by omega) w
end Go.Proofs.Ytioccjeiheejjaa.Tree
