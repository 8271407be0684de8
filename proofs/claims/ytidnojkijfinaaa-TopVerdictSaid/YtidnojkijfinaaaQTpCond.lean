/- Part of the proof of TopVerdictSaid. -/
import Derived.Test.YtidnojkijfinaaaQTpOp
import Derived.Test.YtidnojkijfinaaaQTpHolds
namespace Go.Proofs.Ytidnojkijfinaaa.Fns
open Go.RowKit Go.Proofs.YtidnojkijfinaaaW.PrintWords Go.Proofs.YtidnojkijfinaaaW.PrintLast Go.Proofs.YtidnojkijfinaaaW.PrintMore
attribute [local go_sem] max2_int min2_int max_two min_two max_three min_three max_four min_four
set_option linter.unusedVariables false
set_option linter.unusedSimpArgs false
def argB (t : S68) : Bool := t.f0 == 1 && (t.f2.size == 4 && ((t.f2.extract 0 3).toList == [97, 114, 103] && (decide (48 ≤ bt t.f2 3) && decide (bt t.f2 3 ≤ 53))))
def condTail (l : List S68) (a mask : Int) (n : Nat) : PR S98 := match opR l n with
  | .error e => .error e
  | .ok (op, n2) => match mustR l 2 n2 with
    | .error e => .error e
    | .ok (v, n3) => .ok (⟨a, op, mask, v.f3⟩, n3)
def condR (l : List S68) (room : Bool) (n : Nat) : PR S98 :=
  if argB (l.getD n z68) = true then
    if room = true then
      if takeB l 3 ⟨#[38]⟩ (n + 1) = true then
        match mustR l 2 (n + 2) with
        | .error e => .error e
        | .ok (u, n2) => condTail l (bt (l.getD n z68).f2 3 - 48) u.f3 n2
      else condTail l (bt (l.getD n z68).f2 3 - 48) 18446744073709551615 (n + 1)
    else .error (4, (l.getD n z68).f1)
  else .error (7, (l.getD n z68).f1)
def enc98 : World → Value → S98 → Prop := fun _ v a => v = .agg a.cells
set_option maxHeartbeats 16000000 in
set_option maxRecDepth 100000 in
theorem pcond_no (room : Bool) (w : World) (g : Nat) (A : Option Addr) (c : Nat) (l : List S68) (n : Nat) (h : Rdr w g A c l n) (hb : argB (l.getD n z68) = false) :
    Calls Try.prog 36 #[.pointer (some ⟨g, 0, none⟩), .bool room] w fun e w' => Parsed enc98 w g A c l (condR l room n) e w' := by
  have H := Aside0.mk h
  have hu98 := Try.underlying98
  have hu68 := Try.underlying68
  have HTB := Aside0.mk (show condR l room n = .error (7, (l.getD n z68).f1) by unfold condR; rw [hb, if_neg (by simp)])
  obtain ⟨t, htt⟩ : ∃ t, l.getD n z68 = t := ⟨_, rfl⟩
  have HTT := Aside0.mk htt
  rw [htt] at hb HTB
  obtain ⟨tk, ta, ts, tn⟩ := t
  unfold argB at hb
  simp only at hb HTB
  clear h htt
  by_cases h1 : tk = 1
  rotate_left
  · have e1 : (tk != 1) = true := by simpa using h1
    clear h1 hb
    go_enter Try.func36, Try.ntmps36
    go_wp2_with fail
    refine (now_calls _ g A c l n (H.out.grown (below_alloc (Below.refl _ _) _))).mono ?_
    rintro e w1 ⟨rfl, hb⟩
    rw [HTT.out]
    have HB := Aside0.mk (below_then (below_alloc (Below.refl w.heap.size w) _) (by simp) hb)
    have H1 := Aside0.mk ((H.out.grown (below_alloc (Below.refl _ _) _)).grown hb)
    clear hb
    unfold S68.cells
    simp only
    go_wp2_with fail
    refine (fail_calls 7 _ g A c l n (H1.out.grown (below_alloc (Below.refl _ _) _))).mono ?_
    rintro e w3 ⟨rfl, hb⟩
    refine ⟨rfl, ?_⟩
    rw [HTB.out]
    exact ⟨by rw [HTT.out]; rfl, gr_below (gr_alloc (gr_below (gr_refl w (some g)) HB.out) _) hb⟩
  · have e1 : (tk != 1) = false := by simpa using h1
    rw [beq_iff_eq.mpr h1, Bool.true_and] at hb
    clear h1
    by_cases h2 : ts.size = 4
    rotate_left
    · have e2 : ((ts.size : Int) != 4) = true := by simp; omega
      have e2' : (ts.size != 4) = true := by simpa using h2
      clear h2 hb
      go_enter Try.func36, Try.ntmps36
      go_wp2_with fail
      refine (now_calls _ g A c l n (H.out.grown (below_alloc (Below.refl _ _) _))).mono ?_
      rintro e w1 ⟨rfl, hb⟩
      rw [HTT.out]
      have HB := Aside0.mk (below_then (below_alloc (Below.refl w.heap.size w) _) (by simp) hb)
      have H1 := Aside0.mk ((H.out.grown (below_alloc (Below.refl _ _) _)).grown hb)
      clear hb
      unfold S68.cells
      simp only
      go_wp2_with fail
      refine (fail_calls 7 _ g A c l n (H1.out.grown (below_alloc (Below.refl _ _) _))).mono ?_
      rintro e w3 ⟨rfl, hb⟩
      refine ⟨rfl, ?_⟩
      rw [HTB.out]
      exact ⟨by rw [HTT.out]; rfl, gr_below (gr_alloc (gr_below (gr_refl w (some g)) HB.out) _) hb⟩
    · rw [beq_iff_eq.mpr h2, Bool.true_and] at hb
      have e2 : ((ts.size : Int) != 4) = false := by simp [h2]
      have e2' : (ts.size != 4) = false := by simp [h2]
      have q3 : (3 < ts.size) = True := eq_true (by omega)
      have qi3 : ((3 : Int) < (ts.size : Int)) = True := eq_true (by omega)
      have q4 : (3 ≤ ts.size) = True := eq_true (by omega)
      have qi4 : ((3 : Int) ≤ (ts.size : Int)) = True := eq_true (by omega)
      have hx3 : ∀ h : 3 < ts.size, ((ts[3]'h).toNat : Int) = bt ts 3 := bt_at ts 3
      clear h2
      by_cases h3 : (ts.extract 0 3).toList = [97, 114, 103]
      rotate_left
      · have e3 : ((ts.extract 0 3).toList == [97, 114, 103]) = false := by simpa using h3
        clear h3 hb
        go_enter Try.func36, Try.ntmps36
        go_wp2_with fail
        refine (now_calls _ g A c l n (H.out.grown (below_alloc (Below.refl _ _) _))).mono ?_
        rintro e w1 ⟨rfl, hb⟩
        rw [HTT.out]
        have HB := Aside0.mk (below_then (below_alloc (Below.refl w.heap.size w) _) (by simp) hb)
        have H1 := Aside0.mk ((H.out.grown (below_alloc (Below.refl _ _) _)).grown hb)
        clear hb
        unfold S68.cells
        simp only
        go_wp2_with fail
        refine (fail_calls 7 _ g A c l n (H1.out.grown (below_alloc (Below.refl _ _) _))).mono ?_
        rintro e w3 ⟨rfl, hb⟩
        refine ⟨rfl, ?_⟩
        rw [HTB.out]
        exact ⟨by rw [HTT.out]; rfl, gr_below (gr_alloc (gr_below (gr_refl w (some g)) HB.out) _) hb⟩
      · have e3 : ((ts.extract 0 3).toList == [97, 114, 103]) = true := by simpa using h3
        rw [e3, Bool.true_and] at hb
        by_cases h4 : bt ts 3 < 48
        · have e4 : decide (bt ts 3 < 48) = true := decide_eq_true h4
          clear h4 hb
          go_enter Try.func36, Try.ntmps36
          go_wp2_with fail
          refine (now_calls _ g A c l n (H.out.grown (below_alloc (Below.refl _ _) _))).mono ?_
          rintro e w1 ⟨rfl, hb⟩
          rw [HTT.out]
          have HB := Aside0.mk (below_then (below_alloc (Below.refl w.heap.size w) _) (by simp) hb)
          have H1 := Aside0.mk ((H.out.grown (below_alloc (Below.refl _ _) _)).grown hb)
          clear hb
          unfold S68.cells
          simp only
          go_wp2_with fail
          refine (fail_calls 7 _ g A c l n (H1.out.grown (below_alloc (Below.refl _ _) _))).mono ?_
          rintro e w3 ⟨rfl, hb⟩
          refine ⟨rfl, ?_⟩
          rw [HTB.out]
          exact ⟨by rw [HTT.out]; rfl, gr_below (gr_alloc (gr_below (gr_refl w (some g)) HB.out) _) hb⟩
        · have e4 : decide (bt ts 3 < 48) = false := decide_eq_false h4
          have h5 : 53 < bt ts 3 := by
            rw [decide_eq_true (show 48 ≤ bt ts 3 by omega), Bool.true_and] at hb
            have := of_decide_eq_false hb
            omega
          have e5 : decide (53 < bt ts 3) = true := decide_eq_true h5
          clear h4 h5 hb
          go_enter Try.func36, Try.ntmps36
          go_wp2_with fail
          refine (now_calls _ g A c l n (H.out.grown (below_alloc (Below.refl _ _) _))).mono ?_
          rintro e w1 ⟨rfl, hb⟩
          rw [HTT.out]
          have HB := Aside0.mk (below_then (below_alloc (Below.refl w.heap.size w) _) (by simp) hb)
          have H1 := Aside0.mk ((H.out.grown (below_alloc (Below.refl _ _) _)).grown hb)
          clear hb
          unfold S68.cells
          simp only
          go_wp2_with fail
          refine (fail_calls 7 _ g A c l n (H1.out.grown (below_alloc (Below.refl _ _) _))).mono ?_
          rintro e w3 ⟨rfl, hb⟩
          refine ⟨rfl, ?_⟩
          rw [HTB.out]
          exact ⟨by rw [HTT.out]; rfl, gr_below (gr_alloc (gr_below (gr_refl w (some g)) HB.out) _) hb⟩
theorem info98s (x : S98) : (Try.prog.info? 98).map (·.size) = some x.cells.size := by
  have h : (Try.prog.info? 98).map (·.size) = some 4 := by kernel_rfl
  exact h
theorem one98 (x : S98) : x.cells.all (·.oneCell') = true := by simp [S98.cells, Value.oneCell']
theorem argB_is {t : S68} (h : argB t = true) : t.f0 = 1 ∧ t.f2.size = 4 ∧ (t.f2.extract 0 3).toList = [97, 114, 103] ∧ 48 ≤ bt t.f2 3 ∧ bt t.f2 3 ≤ 53 := by
  unfold argB at h
  simp only [Bool.and_eq_true, beq_iff_eq, decide_eq_true_eq] at h
  exact h
set_option maxHeartbeats 32000000 in
set_option maxRecDepth 100000 in
theorem pcond_yes (room : Bool) (w : World) (g : Nat) (A : Option Addr) (c : Nat) (l : List S68) (n : Nat) (h : Rdr w g A c l n) (hb : argB (l.getD n z68) = true) :
    Calls Try.prog 36 #[.pointer (some ⟨g, 0, none⟩), .bool room] w fun e w' => Parsed enc98 w g A c l (condR l room n) e w' := by
  have H := Aside0.mk h
  have hu98 := Try.underlying98
  have hu68 := Try.underlying68
  obtain ⟨r, hr⟩ : ∃ r, condR l room n = r := ⟨_, rfl⟩
  have HTB := Aside0.mk hr
  unfold condR at hr
  rw [if_pos hb] at hr
  obtain ⟨t, htt⟩ : ∃ t, l.getD n z68 = t := ⟨_, rfl⟩
  have HTT := Aside0.mk htt
  rw [htt] at hb hr
  obtain ⟨b1, b2, b3, b4, b5⟩ := argB_is hb
  have HN := Aside0.mk (h.next (by rw [htt, b1]; decide))
  obtain ⟨tk, ta, ts, tn⟩ := t
  simp only at b1 b2 b3 b4 b5 hr
  subst b1
  have HRR := Aside0.mk hr
  have HKW := Aside0.mk (show wrap64 ((n : Int) + 1) = ((n + 1 : Nat) : Int) by have := h.lt; have := h.short; rw [IntWalk.wrap64_in _ (by omega)]; rfl)
  have e2 : ((ts.size : Int) != 4) = false := by simp [b2]
  have e2' : (ts.size != 4) = false := by simp [b2]
  have q3 : (3 < ts.size) = True := eq_true (by omega)
  have qi3 : ((3 : Int) < (ts.size : Int)) = True := eq_true (by omega)
  have q4 : (3 ≤ ts.size) = True := eq_true (by omega)
  have qi4 : ((3 : Int) ≤ (ts.size : Int)) = True := eq_true (by omega)
  have hx3 : ∀ h : 3 < ts.size, ((ts[3]'h).toNat : Int) = bt ts 3 := bt_at ts 3
  have e3 : ((ts.extract 0 3).toList == [97, 114, 103]) = true := by simpa using b3
  have e4 : decide (bt ts 3 < 48) = false := decide_eq_false (by omega)
  have e5 : decide (53 < bt ts 3) = false := decide_eq_false (by omega)
  have B45 := Aside0.mk (And.intro b4 b5)
  clear h hr htt hb b2 b3
  generalize bt ts 3 = q at hx3 e4 e5 HRR b4 b5 B45
  go_enter Try.func36, Try.ntmps36
  go_wp2_with fail
  refine (now_calls _ g A c l n (H.out.grown (below_alloc (Below.refl _ _) _))).mono ?_
  rintro e w1 ⟨rfl, hb⟩
  rw [HTT.out]
  have HB := Aside0.mk (below_then (below_alloc (Below.refl w.heap.size w) _) (by simp) hb)
  have H1 := Aside0.mk ((H.out.grown (below_alloc (Below.refl _ _) _)).grown hb)
  have K1 := Aside0.mk (blk_below (blk_new w (.cells z98.cells 98 (0, 0))) hb)
  have N0 := Aside0.mk (show w.heap.size ≠ g by have := blk_lt H.out.blk; omega)
  have N1 := Aside0.mk (show w.heap.size < w1.heap.size from blk_lt K1.out)
  clear hb
  unfold S68.cells
  simp only
  have x1 : ∀ o, (w1.alloc o).cell? ⟨g, 1, none⟩ = some (.int .i64 (n : Int)) := fun o => (blk_cell (blk_alloc H1.out.blk o) 1).trans rfl
  have f1 : ∀ o, (w1.alloc o).frozen? ⟨g, 1, none⟩ = false := fun o => blk_frozen (blk_alloc H1.out.blk o) 1
  cases room with
  | false =>
    have hrr := HRR.out
    rw [if_neg (by simp)] at hrr
    subst hrr
    clear HRR
    go_wp2_with fail
    refine (fail_calls 4 _ g A c l n (H1.out.grown (below_alloc (Below.refl _ _) _))).mono ?_
    rintro e w3 ⟨rfl, hb⟩
    refine ⟨rfl, ?_⟩
    rw [HTB.out]
    exact ⟨by rw [HTT.out]; rfl, gr_below (gr_alloc (gr_below (gr_refl w (some g)) HB.out) _) hb⟩
  | true =>
    have hrr := HRR.out
    rw [if_pos rfl] at hrr
    have HR2 := Aside0.mk hrr
    clear hrr HRR
    have A3 := Aside0.mk (blk_new ((w1.alloc (.cells #[.int .i64 1, .int .i64 ta, .string ts, .int .u64 tn] 68 (0, 0))).setCell ⟨g, 1, none⟩ (.int .i64 ((n + 1 : Nat) : Int))) (.cells (S98.cells ⟨q - 48, 0, 18446744073709551615, 0⟩) 98 (0, 0)))
    have R3 := Aside0.mk (((H1.out.grown (below_alloc (Below.refl _ _) (.cells #[.int .i64 1, .int .i64 ta, .string ts, .int .u64 tn] 68 (0, 0)))).put (n + 1) HN.out).grown (below_alloc (Below.refl _ _) (.cells (S98.cells ⟨q - 48, 0, 18446744073709551615, 0⟩) 98 (0, 0))))
    have G3 := Aside0.mk (gr_alloc (gr_set (gr_alloc (gr_below (gr_refl w (some g)) HB.out) (.cells #[.int .i64 1, .int .i64 ta, .string ts, .int .u64 tn] 68 (0, 0))) 1 (.int .i64 ((n + 1 : Nat) : Int))) (.cells (S98.cells ⟨q - 48, 0, 18446744073709551615, 0⟩) 98 (0, 0)))
    have B3 := Aside0.mk (blk_alloc (blk_far (blk_alloc K1.out (.cells #[.int .i64 1, .int .i64 ta, .string ts, .int .u64 tn] 68 (0, 0))) (p := ⟨g, 1, none⟩) N0.out (.int .i64 ((n + 1 : Nat) : Int))) (.cells (S98.cells ⟨q - 48, 0, 18446744073709551615, 0⟩) 98 (0, 0)))
    have Z3 := Aside0.mk (show ((w1.alloc (.cells #[.int .i64 1, .int .i64 ta, .string ts, .int .u64 tn] 68 (0, 0))).setCell ⟨g, 1, none⟩ (.int .i64 ((n + 1 : Nat) : Int))).heap.size = w1.heap.size + 1 by simp)
    rw [Z3.out] at A3
    have NG := Aside0.mk (show w1.heap.size + 1 ≠ g by have := blk_lt H1.out.blk; omega)
    have NB := Aside0.mk (show w.heap.size < w1.heap.size + 1 by have := N1.out; omega)
    clear K1 Z3
    go_wp2_with fail
    rw [HKW.out]
    generalize w1.heap.size + 1 = b2 at A3 NG NB ⊢
    unfold S98.cells at A3 R3 G3 B3
    generalize ((w1.alloc (.cells #[.int .i64 1, .int .i64 ta, .string ts, .int .u64 tn] 68 (0, 0))).setCell ⟨g, 1, none⟩ (.int .i64 ((n + 1 : Nat) : Int))).alloc (.cells #[.int .i64 (q - 48), .int .i64 0, .int .u64 18446744073709551615, .int .u64 0] 98 (0, 0)) = w3 at A3 R3 G3 B3 ⊢
    clear x1 f1 H1 N1 HB e2 e2' q3 qi3 q4 qi4 e3 hx3 e4 e5 b4 b5 HTT HKW HN
    obtain ⟨b, hb⟩ : ∃ b, takeB l 3 ⟨#[38]⟩ (n + 1) = b := ⟨_, rfl⟩
    have htc := take_calls 3 ⟨#[38]⟩ w3 g A c l (n + 1) R3.out (by decide)
    rw [hb] at htc
    have hrr := HR2.out
    rw [hb] at hrr
    have HBB := Aside0.mk hb
    refine htc.mono ?_
    clear htc hb HR2
    rintro e w6 ⟨rfl, hR4, hG4⟩
    have A4 := Aside0.mk (gr_blk hG4 A3.out (fun e => NG.out (by cases e; rfl)))
    have B4 := Aside0.mk (gr_blk hG4 B3.out (fun e => N0.out (by cases e; rfl)))
    have G4 := Aside0.mk (G3.out.trans hG4)
    clear hG4 A3 B3 G3 R3
    cases b
    case' true =>
      unfold takeN at hR4
      rw [HBB.out, if_pos rfl] at hR4
      have R4 := Aside0.mk hR4
      rw [if_pos rfl] at hrr
      obtain ⟨m, hm⟩ : ∃ m, mustR l 2 (n + 2) = m := ⟨_, rfl⟩
      rw [hm] at hrr
      have HR2 := Aside0.mk hrr
      have HM := Aside0.mk hm
      clear hR4 hrr hm HBB
      go_wp2_with fail
      have hmc := must_calls 2 w6 g A c l (n + 2) R4.out (by decide)
      rw [HM.out] at hmc
      refine hmc.mono ?_
      clear hmc
      rintro e w5 hp
      rcases m with ⟨er, at_⟩ | ⟨u, n1⟩
      · obtain ⟨rfl, hG5⟩ := hp
        refine ⟨rfl, ?_⟩
        rw [HTB.out, ← HR2.out]
        exact ⟨rfl, G4.out.trans hG5⟩
      obtain ⟨v, rfl, hv, hR5, hG5⟩ := hp
      obtain rfl : v = .agg u.cells := hv
      have A5 := Aside0.mk (gr_blk hG5 A4.out (fun e => NG.out (by cases e; rfl)))
      have B5 := Aside0.mk (gr_blk hG5 B4.out (fun e => N0.out (by cases e; rfl)))
      have G5 := Aside0.mk (G4.out.trans hG5)
      have R5 := Aside0.mk hR5
      have hfd := run_field68_3 u
      have c2 : w5.cell? ⟨b2, 2, none⟩ = some (.int .u64 18446744073709551615) := (blk_cell A5.out 2).trans rfl
      have g2 := blk_frozen A5.out 2
      clear hG5 hR5 A4 B4 G4 R4 HM
      go_wp2_with fail
      have A4 := Aside0.mk (blk_put A5.out 2 (.int .u64 u.f3) rfl)
      have B4 := Aside0.mk (blk_far B5.out (p := ⟨b2, 2, none⟩) (Nat.ne_of_lt NB.out) (.int .u64 u.f3))
      have G4 := Aside0.mk (gr_new G5.out (b := b2) (by have := NB.out; omega) 2 (.int .u64 u.f3))
      have R4 := Aside0.mk (H.out.at_ G4.out (blk_far R5.out.blk (p := ⟨b2, 2, none⟩) (Ne.symm NG.out) (.int .u64 u.f3)) R5.out.lt)
      generalize w5.setCell ⟨b2, 2, none⟩ (.int .u64 u.f3) = w6 at A4 B4 G4 R4 ⊢
      clear c2 g2 A5 B5 G5 R5 hfd
      generalize u.f3 = mask at A4 HR2
      replace A4 : Aside0 (w6.heap[b2]? = some (.cells #[.int .i64 (q - 48), .int .i64 0, .int .u64 mask, .int .u64 0] 98 (0, 0))) := A4
    case' false =>
      unfold takeN at hR4
      rw [HBB.out, if_neg (by simp)] at hR4
      have R4 := Aside0.mk hR4
      rw [if_neg (by simp)] at hrr
      have HR2 := Aside0.mk hrr
      clear hR4 hrr HBB
      go_wp2_with fail
      generalize n + 1 = n1 at R4 HR2
      generalize (18446744073709551615 : Int) = mask at A4 HR2
    all_goals
      obtain ⟨m, hm⟩ : ∃ m, opR l n1 = m := ⟨_, rfl⟩
      have hrr := HR2.out
      unfold condTail at hrr
      rw [hm] at hrr
      have hoc := op_calls w6 g A c l n1 R4.out
      rw [hm] at hoc
      refine hoc.mono ?_
      clear hoc HR2 hm
      rintro e w5 hp
      rcases m with ⟨er, at_⟩ | ⟨op, n2⟩
      · obtain ⟨rfl, hG5⟩ := hp
        refine ⟨rfl, ?_⟩
        rw [HTB.out, ← hrr]
        exact ⟨rfl, G4.out.trans hG5⟩
      · obtain ⟨v, rfl, hv, hR5, hG5⟩ := hp
        obtain rfl : v = .int .i64 op := hv
        have HR2 := Aside0.mk hrr
        have A5 := Aside0.mk (gr_blk hG5 A4.out (fun e => NG.out (by cases e; rfl)))
        have B5 := Aside0.mk (gr_blk hG5 B4.out (fun e => N0.out (by cases e; rfl)))
        have G5 := Aside0.mk (G4.out.trans hG5)
        have R5 := Aside0.mk hR5
        have c1 : w5.cell? ⟨b2, 1, none⟩ = some (.int .i64 0) := (blk_cell A5.out 1).trans rfl
        have g1 := blk_frozen A5.out 1
        clear hG5 hR5 A4 B4 G4 R4 hrr
        go_wp2_with fail
        have NE := Aside0.mk (show w.heap.size ≠ b2 from Nat.ne_of_lt NB.out)
        have A6 := Aside0.mk (blk_put A5.out 1 (.int .i64 op) rfl)
        have B6 := Aside0.mk (blk_far B5.out (p := ⟨b2, 1, none⟩) NE.out (.int .i64 op))
        have G6 := Aside0.mk (gr_new G5.out (b := b2) (by have := NB.out; omega) 1 (.int .i64 op))
        have R6 := Aside0.mk (H.out.at_ G6.out (blk_far R5.out.blk (p := ⟨b2, 1, none⟩) (Ne.symm NG.out) (.int .i64 op)) R5.out.lt)
        generalize w5.setCell ⟨b2, 1, none⟩ (.int .i64 op) = w7 at A6 B6 G6 R6 ⊢
        clear c1 g1 A5 B5 G5 R5
        obtain ⟨m, hm⟩ : ∃ m, mustR l 2 n2 = m := ⟨_, rfl⟩
        have hrr := HR2.out
        rw [hm] at hrr
        have hoc := must_calls 2 w7 g A c l n2 R6.out (by decide)
        rw [hm] at hoc
        refine hoc.mono ?_
        clear hoc HR2 hm
        rintro e w8 hp
        rcases m with ⟨er, at_⟩ | ⟨u, n3⟩
        · obtain ⟨rfl, hG8⟩ := hp
          refine ⟨rfl, ?_⟩
          rw [HTB.out, ← hrr]
          exact ⟨rfl, G6.out.trans hG8⟩
        · obtain ⟨v, rfl, hv, hR8, hG8⟩ := hp
          obtain rfl : v = .agg u.cells := hv
          have HR2 := Aside0.mk hrr
          have A8 := Aside0.mk (gr_blk hG8 A6.out (fun e => NG.out (by cases e; rfl)))
          have B8 := Aside0.mk (gr_blk hG8 B6.out (fun e => N0.out (by cases e; rfl)))
          have G8 := Aside0.mk (G6.out.trans hG8)
          have R8 := Aside0.mk hR8
          have hfd := run_field68_3 u
          have c3 : w8.cell? ⟨b2, 3, none⟩ = some (.int .u64 0) := (blk_cell A8.out 3).trans rfl
          have g3 := blk_frozen A8.out 3
          clear hG8 hR8 A6 B6 G6 R6 hrr
          go_wp2_with (first
            | ((with_reducible refine gate_dst (N := 68) rfl ?_); refine wpList_load_row rfl 98 (.tmp 6) rfl b2 rfl 98 (S98.cells ⟨q - 48, op, mask, u.f3⟩) (0, 0) _ (blk_put A8.out 3 (.int .u64 u.f3) rfl) Try.underlying98 rfl (info98s _) ?_)
            | ((with_reducible refine gate_store (p := 4) rfl ?_); refine store_all (ty := 98) (p := 4) (y := .tmp 68) (b := w.heap.size) (old := z98.cells) (cells := S98.cells ⟨q - 48, op, mask, u.f3⟩) rfl rfl rfl rfl rfl (blk_far B8.out (p := ⟨b2, 3, none⟩) NE.out (.int .u64 u.f3)) rfl (info98s _) (one98 _) ?_; intro w9 hk9 hg9; have K9 := Aside0.mk hk9; have G9 := Aside0.mk hg9; clear hk9 hg9))
          have hgw := (gr_new G8.out (b := b2) (by have := NB.out; omega) 3 (.int .u64 u.f3)).andThen G9.out (fun j hj => .inl (by cases hj; exact Nat.le_refl _))
          have hbg := gr_blk G9.out (blk_far R8.out.blk (p := ⟨b2, 3, none⟩) (Ne.symm NG.out) (.int .u64 u.f3)) (fun e => N0.out (by cases e; rfl))
          refine bodyPost_ret (results_cell_row rfl _ _ w.heap.size 98 _ (0, 0) _ rfl K9.out Try.underlying98 rfl (info98s _)) rfl ?_
          rw [HTB.out, ← HR2.out]
          exact ⟨_, rfl, rfl, H.out.at_ hgw hbg R8.out.lt, hgw⟩
theorem pcond_calls (room : Bool) (w : World) (g : Nat) (A : Option Addr) (c : Nat) (l : List S68) (n : Nat) (h : Rdr w g A c l n) :
    Calls Try.prog 36 #[.pointer (some ⟨g, 0, none⟩), .bool room] w fun e w' => Parsed enc98 w g A c l (condR l room n) e w' := by
  cases hb : argB (l.getD n z68)
  · exact pcond_no room w g A c l n h hb
  · exact pcond_yes room w g A c l n h hb
end Go.Proofs.Ytidnojkijfinaaa.Fns
