/- Part of the proof of TopVerdictSaid. -/
import Derived.Test.YtidnojkijfinaaaQTpWrong
import Derived.Test.YtidnojkijfinaaaQTpNorm
import Derived.Test.YtidnojkijfinaaaQTpTest
import Derived.Test.YtidnojkijfinaaaQFns3
namespace Go.Proofs.Ytidnojkijfinaaa.Fns
open Go.RowKit Go.Proofs.YtidnojkijfinaaaW.PrintWords Go.Proofs.YtidnojkijfinaaaW.PrintLast Go.Proofs.YtidnojkijfinaaaW.PrintMore
attribute [local go_sem] max2_int min2_int max_two min_two max_three min_three max_four min_four
set_option linter.unusedVariables false
set_option linter.unusedSimpArgs false
def mean_Check.l0 : Nat → List (S72) → Int → Int → Option (Int × Int)
  | 0, _, _, _ => none
  | k + 1, x11, x12, x13 => if x13 < x12 then (if 0 ≤ x13 then (if x13 < (x11.length : Int) then ((mean_wrong.f ((rd_T72 x11 x13).f1)).bind fun t180 => (if t180 = 0 then (mean_Check.l0 k x11 x12 (wrap64 (x13 + 1))) else (some (t180, x13)))) else (none)) else (none)) else (some (0, (-1)))
def mean_Check.f (k : Nat) (a0_0 : Int) (a0_1 : Int) (l0_2 : List (S72)) : Option (Int × Int) := (show_Right.f k a0_0 a0_1 l0_2).bind fun t177 => (if t177 = true then (mean_Check.l0 k l0_2 (l0_2.length : Int) 0) else (some (1, (-1))))
set_option maxHeartbeats 8000000 in
set_option maxRecDepth 100000 in
theorem mean_Check.calls (k : Nat) (a0_0 : Int) (a0_1 : Int) (A0_2 : Option Addr) (c0_2 : Nat) (l0_2 : List (S72)) (r1 : Int) (r2 : Int) (w : World) (hr0_2 : Kd.C k72 w A0_2 l0_2.length l0_2) (hc0_2 : l0_2.length ≤ c0_2) (h : mean_Check.f k a0_0 a0_1 l0_2 = some (r1, r2)) :
    Calls Try.prog 21 #[.agg #[.int .i64 a0_0, .int .i64 a0_1, .slice A0_2 l0_2.length c0_2]] w fun e w' => e = .returned (.tuple #[.int .i64 r1, .int .i64 r2]) ∧ Below w.heap.size w w' := by
  have hu38 := Try.underlying38
  have hu72 := Try.underlying72
  have HR0_2 := Aside0.mk hr0_2
  have HC0_2 := Aside0.mk hc0_2
  clear hr0_2 hc0_2
  have HB := Aside0.mk (Below.refl w.heap.size w)
  have H : ((show_Right.f k a0_0 a0_1 l0_2).bind fun t177 => (if t177 = true then (mean_Check.l0 k l0_2 (l0_2.length : Int) 0) else (some (1, (-1))))) = some (r1, r2) := h
  clear h
  replace H := Option.bind_eq_some_iff.mp H
  obtain ⟨t177, A20, H⟩ := H
  replace H : (if t177 = true then (mean_Check.l0 k l0_2 (l0_2.length : Int) 0) else (some (1, (-1)))) = some (r1, r2) := H
  have A2 := Aside0.mk A20
  clear A20
  by_cases c3 : t177 = true
  · subst c3
    have H1 : (mean_Check.l0 k l0_2 (l0_2.length : Int) 0) = some (r1, r2) := by rw [if_pos rfl] at H; exact H
    clear H
    have H := H1
    clear H1
    have H' := Aside0.mk H
    clear H
    go_enter Try.func21, Try.ntmps21
    go_wp2_with (first | ((with_reducible refine gate_dst (N := 1) rfl ?_); refine box_event ?hg (N := 1) ?hd (cs := #[.int .i64 a0_0, .int .i64 a0_1, .slice A0_2 l0_2.length c0_2]) (t := 38) ?hr ?_; (case hd => rfl); (case hg => rfl); (case hr => first | (go_simp; done) | (go_simp; rfl)); intro gb176 hg w4 hbox hb; have n0_ := Aside0.mk (below_step (by repeat (first | (with_reducible first | exact HB.out | apply below_alloc | apply pw_below_drewN | apply below_drew1) | exact HB.out)) hb); have n1_ := Aside0.mk (hbox); have n2_ := Aside0.mk ((by rw [hg]; exact (below_size (by repeat (first | (with_reducible first | exact HB.out | apply below_alloc | apply pw_below_drewN | apply below_drew1) | exact HB.out))) : w.heap.size ≤ gb176)); have n3_ := Aside0.mk ((by rw [hg]; exact (below_size (by repeat (first | (with_reducible first | exact HB.out | apply below_alloc | apply pw_below_drewN | apply below_drew1) | exact HB.out))) : w.heap.size ≤ gb176)); clear HB; have HB := n0_; have BK176 := n1_; have GW176 := n2_; have GE176 := n3_; clear n0_ n1_ n2_ n3_; clear hb hbox hg; have hcz5_0 : w4.cell? ⟨gb176, 0, none⟩ = some (.int .i64 a0_0) := (blk_cell BK176.out 0).trans rfl; have hcz5_1 : w4.cell? ⟨gb176, 1, none⟩ = some (.int .i64 a0_1) := (blk_cell BK176.out 1).trans rfl; have hcz5_2 : w4.cell? ⟨gb176, 2, none⟩ = some (.slice A0_2 l0_2.length c0_2) := (blk_cell BK176.out 2).trans rfl; have hfz5_0 := blk_frozen BK176.out 0; have hfz5_1 := blk_frozen BK176.out 1; have hfz5_2 := blk_frozen BK176.out 2) | ((with_reducible refine gate_callee (f := 37) rfl ?_); refine goesL_ (some 8) rfl rfl Try.func37 (by kernel_rfl) rfl #[.agg #[.int .i64 a0_0, .int .i64 a0_1, .slice A0_2 l0_2.length c0_2]] rfl (by (try simp only [List.map_toArray, List.map_cons, List.map_nil]); first | done | rfl | (simp only [List.length_drop, List.length_take]; rfl)) ?_; (with_reducible refine (show_Right.calls k a0_0 a0_1 _ _ l0_2 true _ ?side1 ?side2 A2.out).mono ?_); (case side1 => repeat (first | exact (Kd.C_below HR0_2.out HB.out) | (with_reducible refine Kd.C_alloc ?_ _) | (with_reducible refine Kd.C_drewN ?_ _) | (with_reducible refine Kd.C_drew ?_))); (case side2 => exact HC0_2.out); rintro e w6 ⟨rfl, hb⟩; refine ⟨_, rfl, ?_⟩; have n0_ := Aside0.mk (blk_below (g := gb176) (o := .cells #[.int .i64 a0_0, .int .i64 a0_1, .slice A0_2 l0_2.length c0_2] 38 (0, 0)) (by (with_reducible repeat (first | refine blk_drewN ?_ _ | refine blk_drew ?_ | refine blk_alloc ?_ _)); exact BK176.out) hb); have n1_ := Aside0.mk (below_step (by repeat (first | (with_reducible first | exact HB.out | apply below_alloc | apply pw_below_drewN | apply below_drew1 | refine below_set ?_ GE176.out) | exact HB.out)) hb); clear BK176; clear HB; have BK176 := n0_; have HB := n1_; clear n0_ n1_; (try clear hb); (try clear hb2); (try clear hk); (try clear hi); have hcz7_0 : w6.cell? ⟨gb176, 0, none⟩ = some (.int .i64 a0_0) := (blk_cell BK176.out 0).trans rfl; have hcz7_1 : w6.cell? ⟨gb176, 1, none⟩ = some (.int .i64 a0_1) := (blk_cell BK176.out 1).trans rfl; have hcz7_2 : w6.cell? ⟨gb176, 2, none⟩ = some (.slice A0_2 l0_2.length c0_2) := (blk_cell BK176.out 2).trans rfl; have hfz7_0 := blk_frozen BK176.out 0; have hfz7_1 := blk_frozen BK176.out 1; have hfz7_2 := blk_frozen BK176.out 2))
    go_loopg [13] k (fun kq v13 w' => ∃ (x13_1 : Int), v13 = .int .i64 x13_1 ∧ Aside0 (mean_Check.l0 kq l0_2 (l0_2.length : Int) x13_1 = some (r1, r2)) ∧ Aside0 (kq ≤ k) ∧ Aside0 (w'.heap[gb176]? = some (.cells #[.int .i64 a0_0, .int .i64 a0_1, (.slice A0_2 l0_2.length c0_2)] 38 (0, 0))) ∧ Aside0 (Below w.heap.size w w'))
    case atStart => exact ⟨(0), (by first | rfl | (simp; done) | (simp [*]; done)), H', ⟨Nat.le_refl _⟩, ⟨by (with_reducible repeat (first | refine blk_drewN ?_ _ | refine blk_drew ?_ | refine blk_alloc ?_ _)); exact BK176.out⟩, ⟨by repeat (first | (with_reducible first | exact HB.out | apply below_alloc | apply pw_below_drewN | apply below_drew1 | refine below_set ?_ GE176.out) | exact HB.out)⟩⟩
    case round =>
      clear H'
      try clear c2
      try clear p2
      try clear c3
      try clear hcz5_0
      try clear hcz5_1
      try clear hcz5_2
      try clear hcz7_0
      try clear hcz7_1
      try clear hcz7_2
      try clear hfz5_0
      try clear hfz5_1
      try clear hfz5_2
      try clear hfz7_0
      try clear hfz7_1
      try clear hfz7_2
      obtain ⟨x13_1, rfl, HA, HK1, BK176, HB⟩ := hrel
      cases gk with
      | zero => exact absurd HA.out (by simp [mean_Check.l0])
      | succ k1 =>
        have H := HA.out
        clear HA
        simp only [mean_Check.l0] at H
        by_cases c8 : x13_1 < (l0_2.length : Int)
        · rw [if_pos c8] at H
          have c8b0 : decide (x13_1 < (l0_2.length : Int)) = true := decide_eq_true c8
          clear c8
          by_cases c9 : 0 ≤ x13_1
          · rw [if_pos c9] at H
            have c9b0 : decide (0 ≤ x13_1) = true := decide_eq_true c9
            clear c9
            by_cases c10 : x13_1 < (l0_2.length : Int)
            · rw [if_pos c10] at H
              have c10b0 : decide (x13_1 < (l0_2.length : Int)) = true := decide_eq_true c10
              clear c10
              replace H := Option.bind_eq_some_iff.mp H
              obtain ⟨t180, A110, H⟩ := H
              replace H : (if t180 = 0 then (mean_Check.l0 k1 l0_2 (l0_2.length : Int) (wrap64 (x13_1 + 1))) else (some (t180, x13_1))) = some (r1, r2) := H
              have A11 := Aside0.mk A110
              clear A110
              by_cases c12 : t180 = 0
              · rw [if_pos c12] at H
                have c12b0 : (t180 == 0) = true := beq_iff_eq.mpr c12
                have c12b1 : (t180 != 0) = false := bne_eq_false_iff_eq.mpr c12
                clear c12
                have H' := Aside0.mk H
                clear H
                have p178 : 0 ≤ (x13_1 : Int) := of_decide_eq_true (by first | (with_reducible assumption) | assumption)
                have q178 : x13_1 < (l0_2.length : Int) := of_decide_eq_true (by first | (with_reducible assumption) | assumption)
                obtain ⟨ad178, A178_2, c178_2, A178_3, c178_3, e178, hx178_0, hx178_1, hx178_2, hx178_3, hl178_2, hi178_2, hl178_3, hi178_3⟩ := at_T72 HR0_2.out x13_1 p178 q178
                cases e178
                replace hx178_0 := (HB.out.cell (World.block_lt_of_cell? w _ hx178_0)).trans hx178_0
                replace hx178_1 := (HB.out.cell (World.block_lt_of_cell? w _ hx178_1)).trans hx178_1
                replace hx178_2 := (HB.out.cell (World.block_lt_of_cell? w _ hx178_2)).trans hx178_2
                replace hx178_3 := (HB.out.cell (World.block_lt_of_cell? w _ hx178_3)).trans hx178_3
                have HR178_2 := Aside0.mk hi178_2
                have HC178_2 := Aside0.mk hl178_2
                clear hi178_2 hl178_2
                have HR178_3 := Aside0.mk hi178_3
                have HC178_3 := Aside0.mk hl178_3
                clear hi178_3 hl178_3
                replace p178 := eq_true p178
                replace q178 := eq_true q178
                go_wp2_with (first | ((with_reducible refine gate_dst (N := 5) rfl ?_); refine box_event ?hg (N := 5) ?hd (cs := #[.int .i64 0, .int .i64 0, .slice none 0 0, .slice none 0 0]) (t := 72) ?hr ?_; (case hd => rfl); (case hg => rfl); (case hr => first | (go_simp; done) | (go_simp; rfl)); intro gb179 hg w13 hbox hb; have n0_ := Aside0.mk (blk_below (g := gb176) (o := .cells #[.int .i64 a0_0, .int .i64 a0_1, .slice (some ad178) l0_2.length c0_2] 38 (0, 0)) (by (with_reducible repeat (first | refine blk_drewN ?_ _ | refine blk_drew ?_ | refine blk_alloc ?_ _)); exact BK176.out) hb); have n1_ := Aside0.mk (below_step (by repeat (first | (with_reducible first | exact HB.out | apply below_alloc | apply pw_below_drewN | apply below_drew1 | refine below_set ?_ GE176.out) | exact HB.out)) hb); have n2_ := Aside0.mk (hbox); have n3_ := Aside0.mk ((by rw [hg]; exact (below_size (by repeat (first | (with_reducible first | exact HB.out | apply below_alloc | apply pw_below_drewN | apply below_drew1 | refine below_set ?_ GE176.out) | exact HB.out))) : w.heap.size ≤ gb179)); have n4_ := Aside0.mk ((by rw [hg]; exact (below_size (by repeat (first | (with_reducible first | exact HB.out | apply below_alloc | apply pw_below_drewN | apply below_drew1 | refine below_set ?_ GE176.out) | exact HB.out))) : w.heap.size ≤ gb179)); have n5_ := Aside0.mk ((by rw [hg]; exact Nat.ne_of_lt (blk_lt (g := gb176) (o := .cells #[.int .i64 a0_0, .int .i64 a0_1, .slice (some ad178) l0_2.length c0_2] 38 (0, 0)) (by (with_reducible repeat (first | refine blk_drewN ?_ _ | refine blk_drew ?_ | refine blk_alloc ?_ _)); exact BK176.out)) : gb176 ≠ gb179)); have n6_ := Aside0.mk ((by rw [hg]; exact Nat.ne_of_gt (blk_lt (g := gb176) (o := .cells #[.int .i64 a0_0, .int .i64 a0_1, .slice (some ad178) l0_2.length c0_2] 38 (0, 0)) (by (with_reducible repeat (first | refine blk_drewN ?_ _ | refine blk_drew ?_ | refine blk_alloc ?_ _)); exact BK176.out)) : gb179 ≠ gb176)); clear BK176; clear HB; have BK176 := n0_; have HB := n1_; have BK179 := n2_; have GW179 := n3_; have GE179 := n4_; have NB176_179 := n5_; have NB179_176 := n6_; clear n0_ n1_ n2_ n3_ n4_ n5_ n6_; clear hb hbox hg; have hnb14 := NB179_176.out; have hnc14 := NB176_179.out; have hcz15_0 : w13.cell? ⟨gb179, 0, none⟩ = some (.int .i64 0) := (blk_cell BK179.out 0).trans rfl; have hcz15_1 : w13.cell? ⟨gb179, 1, none⟩ = some (.int .i64 0) := (blk_cell BK179.out 1).trans rfl; have hcz15_2 : w13.cell? ⟨gb179, 2, none⟩ = some (.slice none 0 0) := (blk_cell BK179.out 2).trans rfl; have hcz15_3 : w13.cell? ⟨gb179, 3, none⟩ = some (.slice none 0 0) := (blk_cell BK179.out 3).trans rfl; have hfz15_0 := blk_frozen BK179.out 0; have hfz15_1 := blk_frozen BK179.out 1; have hfz15_2 := blk_frozen BK179.out 2; have hfz15_3 := blk_frozen BK179.out 3) | ((with_reducible refine gate_callee (f := 38) rfl ?_); refine goesL_ (some 20) rfl rfl Try.func38 (by kernel_rfl) rfl #[.slice A178_2 ((rd_T72 l0_2 x13_1).f1).length c178_2] rfl (by (try simp only [List.map_toArray, List.map_cons, List.map_nil]); first | done | rfl | (simp only [List.length_drop, List.length_take]; rfl)) ?_; (with_reducible refine (mean_wrong.calls _ _ ((rd_T72 l0_2 x13_1).f1) t180 _ ?side1 ?side2 A11.out).mono ?_); (case side1 => exact Kd.C_below HR178_2.out (by repeat (first | (with_reducible first | exact HB.out | apply below_alloc | apply pw_below_drewN | apply below_drew1 | refine below_set ?_ GE176.out | refine below_set ?_ GE179.out) | exact HB.out))); (case side2 => exact HC178_2.out); rintro e w16 ⟨rfl, hb⟩; refine ⟨_, rfl, ?_⟩; have n0_ := Aside0.mk (blk_below (g := gb176) (o := .cells #[.int .i64 a0_0, .int .i64 a0_1, .slice (some ad178) l0_2.length c0_2] 38 (0, 0)) (by (with_reducible repeat (first | refine blk_drewN ?_ _ | refine blk_drew ?_ | refine blk_alloc ?_ _)); refine blk_far ?_ NB176_179.out _; (with_reducible repeat (first | refine blk_drewN ?_ _ | refine blk_drew ?_ | refine blk_alloc ?_ _)); refine blk_far ?_ NB176_179.out _; (with_reducible repeat (first | refine blk_drewN ?_ _ | refine blk_drew ?_ | refine blk_alloc ?_ _)); refine blk_far ?_ NB176_179.out _; (with_reducible repeat (first | refine blk_drewN ?_ _ | refine blk_drew ?_ | refine blk_alloc ?_ _)); refine blk_far ?_ NB176_179.out _; (with_reducible repeat (first | refine blk_drewN ?_ _ | refine blk_drew ?_ | refine blk_alloc ?_ _)); exact BK176.out) hb); have n1_ := Aside0.mk (blk_below (g := gb179) (o := .cells #[.int .i64 ((rd_T72 l0_2 x13_1).f0.f0), .int .i64 ((rd_T72 l0_2 x13_1).f0.f1), .slice A178_2 ((rd_T72 l0_2 x13_1).f1).length c178_2, .slice A178_3 ((rd_T72 l0_2 x13_1).f2).length c178_3] 72 (0, 0)) (by (with_reducible repeat (first | refine blk_drewN ?_ _ | refine blk_drew ?_ | refine blk_alloc ?_ _)); refine blk_put (cs := #[.int .i64 ((rd_T72 l0_2 x13_1).f0.f0), .int .i64 ((rd_T72 l0_2 x13_1).f0.f1), .slice A178_2 ((rd_T72 l0_2 x13_1).f1).length c178_2, .slice none 0 0]) ?_ 3 _ rfl; (with_reducible repeat (first | refine blk_drewN ?_ _ | refine blk_drew ?_ | refine blk_alloc ?_ _)); refine blk_put (cs := #[.int .i64 ((rd_T72 l0_2 x13_1).f0.f0), .int .i64 ((rd_T72 l0_2 x13_1).f0.f1), .slice none 0 0, .slice none 0 0]) ?_ 2 _ rfl; (with_reducible repeat (first | refine blk_drewN ?_ _ | refine blk_drew ?_ | refine blk_alloc ?_ _)); refine blk_put (cs := #[.int .i64 ((rd_T72 l0_2 x13_1).f0.f0), .int .i64 0, .slice none 0 0, .slice none 0 0]) ?_ 1 _ rfl; (with_reducible repeat (first | refine blk_drewN ?_ _ | refine blk_drew ?_ | refine blk_alloc ?_ _)); refine blk_put (cs := #[.int .i64 0, .int .i64 0, .slice none 0 0, .slice none 0 0]) ?_ 0 _ rfl; (with_reducible repeat (first | refine blk_drewN ?_ _ | refine blk_drew ?_ | refine blk_alloc ?_ _)); exact BK179.out) hb); have n2_ := Aside0.mk (below_step (by repeat (first | (with_reducible first | exact HB.out | apply below_alloc | apply pw_below_drewN | apply below_drew1 | refine below_set ?_ GE176.out | refine below_set ?_ GE179.out) | exact HB.out)) hb); clear BK176; clear BK179; clear HB; have BK176 := n0_; have BK179 := n1_; have HB := n2_; clear n0_ n1_ n2_; (try clear hb); (try clear hb2); (try clear hk); (try clear hi)))
                go_roundg k1
                case measure => have := HK1.out; omega
                case rel => exact ⟨(wrap64 (x13_1 + 1)), (by first | rfl | (simp; done) | (simp [*]; done)), H', ⟨by have := HK1.out; omega⟩, ⟨by (with_reducible repeat (first | refine blk_drewN ?_ _ | refine blk_drew ?_ | refine blk_alloc ?_ _)); exact BK176.out⟩, ⟨by repeat (first | (with_reducible first | exact HB.out | apply below_alloc | apply pw_below_drewN | apply below_drew1 | refine below_set ?_ GE176.out | refine below_set ?_ GE179.out) | exact HB.out)⟩⟩
              · rw [if_neg c12] at H
                have c12b0 : (t180 == 0) = false := beq_eq_false_iff_ne.mpr c12
                have c12b1 : (t180 != 0) = true := bne_iff_ne.mpr c12
                simp only [Option.some.injEq, Prod.mk.injEq] at H
                obtain ⟨rfl, rfl⟩ := H
                have p178 : 0 ≤ (x13_1 : Int) := of_decide_eq_true (by first | (with_reducible assumption) | assumption)
                have q178 : x13_1 < (l0_2.length : Int) := of_decide_eq_true (by first | (with_reducible assumption) | assumption)
                obtain ⟨ad178, A178_2, c178_2, A178_3, c178_3, e178, hx178_0, hx178_1, hx178_2, hx178_3, hl178_2, hi178_2, hl178_3, hi178_3⟩ := at_T72 HR0_2.out x13_1 p178 q178
                cases e178
                replace hx178_0 := (HB.out.cell (World.block_lt_of_cell? w _ hx178_0)).trans hx178_0
                replace hx178_1 := (HB.out.cell (World.block_lt_of_cell? w _ hx178_1)).trans hx178_1
                replace hx178_2 := (HB.out.cell (World.block_lt_of_cell? w _ hx178_2)).trans hx178_2
                replace hx178_3 := (HB.out.cell (World.block_lt_of_cell? w _ hx178_3)).trans hx178_3
                have HR178_2 := Aside0.mk hi178_2
                have HC178_2 := Aside0.mk hl178_2
                clear hi178_2 hl178_2
                have HR178_3 := Aside0.mk hi178_3
                have HC178_3 := Aside0.mk hl178_3
                clear hi178_3 hl178_3
                replace p178 := eq_true p178
                replace q178 := eq_true q178
                go_wp2_with (first | ((with_reducible refine gate_dst (N := 5) rfl ?_); refine box_event ?hg (N := 5) ?hd (cs := #[.int .i64 0, .int .i64 0, .slice none 0 0, .slice none 0 0]) (t := 72) ?hr ?_; (case hd => rfl); (case hg => rfl); (case hr => first | (go_simp; done) | (go_simp; rfl)); intro gb179 hg w17 hbox hb; have n0_ := Aside0.mk (blk_below (g := gb176) (o := .cells #[.int .i64 a0_0, .int .i64 a0_1, .slice (some ad178) l0_2.length c0_2] 38 (0, 0)) (by (with_reducible repeat (first | refine blk_drewN ?_ _ | refine blk_drew ?_ | refine blk_alloc ?_ _)); exact BK176.out) hb); have n1_ := Aside0.mk (below_step (by repeat (first | (with_reducible first | exact HB.out | apply below_alloc | apply pw_below_drewN | apply below_drew1 | refine below_set ?_ GE176.out) | exact HB.out)) hb); have n2_ := Aside0.mk (hbox); have n3_ := Aside0.mk ((by rw [hg]; exact (below_size (by repeat (first | (with_reducible first | exact HB.out | apply below_alloc | apply pw_below_drewN | apply below_drew1 | refine below_set ?_ GE176.out) | exact HB.out))) : w.heap.size ≤ gb179)); have n4_ := Aside0.mk ((by rw [hg]; exact (below_size (by repeat (first | (with_reducible first | exact HB.out | apply below_alloc | apply pw_below_drewN | apply below_drew1 | refine below_set ?_ GE176.out) | exact HB.out))) : w.heap.size ≤ gb179)); have n5_ := Aside0.mk ((by rw [hg]; exact Nat.ne_of_lt (blk_lt (g := gb176) (o := .cells #[.int .i64 a0_0, .int .i64 a0_1, .slice (some ad178) l0_2.length c0_2] 38 (0, 0)) (by (with_reducible repeat (first | refine blk_drewN ?_ _ | refine blk_drew ?_ | refine blk_alloc ?_ _)); exact BK176.out)) : gb176 ≠ gb179)); have n6_ := Aside0.mk ((by rw [hg]; exact Nat.ne_of_gt (blk_lt (g := gb176) (o := .cells #[.int .i64 a0_0, .int .i64 a0_1, .slice (some ad178) l0_2.length c0_2] 38 (0, 0)) (by (with_reducible repeat (first | refine blk_drewN ?_ _ | refine blk_drew ?_ | refine blk_alloc ?_ _)); exact BK176.out)) : gb179 ≠ gb176)); clear BK176; clear HB; have BK176 := n0_; have HB := n1_; have BK179 := n2_; have GW179 := n3_; have GE179 := n4_; have NB176_179 := n5_; have NB179_176 := n6_; clear n0_ n1_ n2_ n3_ n4_ n5_ n6_; clear hb hbox hg; have hnb18 := NB179_176.out; have hnc18 := NB176_179.out; have hcz19_0 : w17.cell? ⟨gb179, 0, none⟩ = some (.int .i64 0) := (blk_cell BK179.out 0).trans rfl; have hcz19_1 : w17.cell? ⟨gb179, 1, none⟩ = some (.int .i64 0) := (blk_cell BK179.out 1).trans rfl; have hcz19_2 : w17.cell? ⟨gb179, 2, none⟩ = some (.slice none 0 0) := (blk_cell BK179.out 2).trans rfl; have hcz19_3 : w17.cell? ⟨gb179, 3, none⟩ = some (.slice none 0 0) := (blk_cell BK179.out 3).trans rfl; have hfz19_0 := blk_frozen BK179.out 0; have hfz19_1 := blk_frozen BK179.out 1; have hfz19_2 := blk_frozen BK179.out 2; have hfz19_3 := blk_frozen BK179.out 3) | ((with_reducible refine gate_callee (f := 38) rfl ?_); refine goesL_ (some 20) rfl rfl Try.func38 (by kernel_rfl) rfl #[.slice A178_2 ((rd_T72 l0_2 x13_1).f1).length c178_2] rfl (by (try simp only [List.map_toArray, List.map_cons, List.map_nil]); first | done | rfl | (simp only [List.length_drop, List.length_take]; rfl)) ?_; (with_reducible refine (mean_wrong.calls _ _ ((rd_T72 l0_2 x13_1).f1) t180 _ ?side1 ?side2 A11.out).mono ?_); (case side1 => exact Kd.C_below HR178_2.out (by repeat (first | (with_reducible first | exact HB.out | apply below_alloc | apply pw_below_drewN | apply below_drew1 | refine below_set ?_ GE176.out | refine below_set ?_ GE179.out) | exact HB.out))); (case side2 => exact HC178_2.out); rintro e w20 ⟨rfl, hb⟩; refine ⟨_, rfl, ?_⟩; have n0_ := Aside0.mk (blk_below (g := gb176) (o := .cells #[.int .i64 a0_0, .int .i64 a0_1, .slice (some ad178) l0_2.length c0_2] 38 (0, 0)) (by (with_reducible repeat (first | refine blk_drewN ?_ _ | refine blk_drew ?_ | refine blk_alloc ?_ _)); refine blk_far ?_ NB176_179.out _; (with_reducible repeat (first | refine blk_drewN ?_ _ | refine blk_drew ?_ | refine blk_alloc ?_ _)); refine blk_far ?_ NB176_179.out _; (with_reducible repeat (first | refine blk_drewN ?_ _ | refine blk_drew ?_ | refine blk_alloc ?_ _)); refine blk_far ?_ NB176_179.out _; (with_reducible repeat (first | refine blk_drewN ?_ _ | refine blk_drew ?_ | refine blk_alloc ?_ _)); refine blk_far ?_ NB176_179.out _; (with_reducible repeat (first | refine blk_drewN ?_ _ | refine blk_drew ?_ | refine blk_alloc ?_ _)); exact BK176.out) hb); have n1_ := Aside0.mk (blk_below (g := gb179) (o := .cells #[.int .i64 ((rd_T72 l0_2 x13_1).f0.f0), .int .i64 ((rd_T72 l0_2 x13_1).f0.f1), .slice A178_2 ((rd_T72 l0_2 x13_1).f1).length c178_2, .slice A178_3 ((rd_T72 l0_2 x13_1).f2).length c178_3] 72 (0, 0)) (by (with_reducible repeat (first | refine blk_drewN ?_ _ | refine blk_drew ?_ | refine blk_alloc ?_ _)); refine blk_put (cs := #[.int .i64 ((rd_T72 l0_2 x13_1).f0.f0), .int .i64 ((rd_T72 l0_2 x13_1).f0.f1), .slice A178_2 ((rd_T72 l0_2 x13_1).f1).length c178_2, .slice none 0 0]) ?_ 3 _ rfl; (with_reducible repeat (first | refine blk_drewN ?_ _ | refine blk_drew ?_ | refine blk_alloc ?_ _)); refine blk_put (cs := #[.int .i64 ((rd_T72 l0_2 x13_1).f0.f0), .int .i64 ((rd_T72 l0_2 x13_1).f0.f1), .slice none 0 0, .slice none 0 0]) ?_ 2 _ rfl; (with_reducible repeat (first | refine blk_drewN ?_ _ | refine blk_drew ?_ | refine blk_alloc ?_ _)); refine blk_put (cs := #[.int .i64 ((rd_T72 l0_2 x13_1).f0.f0), .int .i64 0, .slice none 0 0, .slice none 0 0]) ?_ 1 _ rfl; (with_reducible repeat (first | refine blk_drewN ?_ _ | refine blk_drew ?_ | refine blk_alloc ?_ _)); refine blk_put (cs := #[.int .i64 0, .int .i64 0, .slice none 0 0, .slice none 0 0]) ?_ 0 _ rfl; (with_reducible repeat (first | refine blk_drewN ?_ _ | refine blk_drew ?_ | refine blk_alloc ?_ _)); exact BK179.out) hb); have n2_ := Aside0.mk (below_step (by repeat (first | (with_reducible first | exact HB.out | apply below_alloc | apply pw_below_drewN | apply below_drew1 | refine below_set ?_ GE176.out | refine below_set ?_ GE179.out) | exact HB.out)) hb); clear BK176; clear BK179; clear HB; have BK176 := n0_; have BK179 := n1_; have HB := n2_; clear n0_ n1_ n2_; (try clear hb); (try clear hb2); (try clear hk); (try clear hi)))
                go_ret2
                exact ⟨by first | rfl | (simp [errW_none, errW_some] <;> rfl) | (simp [*, errW_none, errW_some] <;> rfl), by repeat (first | (with_reducible first | exact HB.out | apply below_alloc | apply pw_below_drewN | apply below_drew1 | refine below_set ?_ GE176.out | refine below_set ?_ GE179.out) | exact HB.out)⟩
            · rw [if_neg c10] at H
              exact absurd H (by simp)
          · rw [if_neg c9] at H
            exact absurd H (by simp)
        · rw [if_neg c8] at H
          have c8b0 : decide (x13_1 < (l0_2.length : Int)) = false := decide_eq_false c8
          clear c8
          simp only [Option.some.injEq, Prod.mk.injEq] at H
          obtain ⟨rfl, rfl⟩ := H
          go_wp2
          go_ret2
          exact ⟨by first | rfl | (simp [errW_none, errW_some] <;> rfl) | (simp [*, errW_none, errW_some] <;> rfl), by repeat (first | (with_reducible first | exact HB.out | apply below_alloc | apply pw_below_drewN | apply below_drew1 | refine below_set ?_ GE176.out) | exact HB.out)⟩
  · replace c3 := Bool.eq_false_iff.mpr c3
    subst c3
    have H1 : (some (1, (-1))) = some (r1, r2) := by rw [if_neg (show ¬ (false = true) by decide)] at H; exact H
    clear H
    have H := H1
    clear H1
    simp only [Option.some.injEq, Prod.mk.injEq] at H
    obtain ⟨rfl, rfl⟩ := H
    go_enter Try.func21, Try.ntmps21
    go_wp2_with (first | ((with_reducible refine gate_dst (N := 1) rfl ?_); refine box_event ?hg (N := 1) ?hd (cs := #[.int .i64 a0_0, .int .i64 a0_1, .slice A0_2 l0_2.length c0_2]) (t := 38) ?hr ?_; (case hd => rfl); (case hg => rfl); (case hr => first | (go_simp; done) | (go_simp; rfl)); intro gb176 hg w21 hbox hb; have n0_ := Aside0.mk (below_step (by repeat (first | (with_reducible first | exact HB.out | apply below_alloc | apply pw_below_drewN | apply below_drew1) | exact HB.out)) hb); have n1_ := Aside0.mk (hbox); have n2_ := Aside0.mk ((by rw [hg]; exact (below_size (by repeat (first | (with_reducible first | exact HB.out | apply below_alloc | apply pw_below_drewN | apply below_drew1) | exact HB.out))) : w.heap.size ≤ gb176)); have n3_ := Aside0.mk ((by rw [hg]; exact (below_size (by repeat (first | (with_reducible first | exact HB.out | apply below_alloc | apply pw_below_drewN | apply below_drew1) | exact HB.out))) : w.heap.size ≤ gb176)); clear HB; have HB := n0_; have BK176 := n1_; have GW176 := n2_; have GE176 := n3_; clear n0_ n1_ n2_ n3_; clear hb hbox hg; have hcz22_0 : w21.cell? ⟨gb176, 0, none⟩ = some (.int .i64 a0_0) := (blk_cell BK176.out 0).trans rfl; have hcz22_1 : w21.cell? ⟨gb176, 1, none⟩ = some (.int .i64 a0_1) := (blk_cell BK176.out 1).trans rfl; have hcz22_2 : w21.cell? ⟨gb176, 2, none⟩ = some (.slice A0_2 l0_2.length c0_2) := (blk_cell BK176.out 2).trans rfl; have hfz22_0 := blk_frozen BK176.out 0; have hfz22_1 := blk_frozen BK176.out 1; have hfz22_2 := blk_frozen BK176.out 2) | ((with_reducible refine gate_callee (f := 37) rfl ?_); refine goesL_ (some 8) rfl rfl Try.func37 (by kernel_rfl) rfl #[.agg #[.int .i64 a0_0, .int .i64 a0_1, .slice A0_2 l0_2.length c0_2]] rfl (by (try simp only [List.map_toArray, List.map_cons, List.map_nil]); first | done | rfl | (simp only [List.length_drop, List.length_take]; rfl)) ?_; (with_reducible refine (show_Right.calls k a0_0 a0_1 _ _ l0_2 false _ ?side1 ?side2 A2.out).mono ?_); (case side1 => repeat (first | exact (Kd.C_below HR0_2.out HB.out) | (with_reducible refine Kd.C_alloc ?_ _) | (with_reducible refine Kd.C_drewN ?_ _) | (with_reducible refine Kd.C_drew ?_))); (case side2 => exact HC0_2.out); rintro e w23 ⟨rfl, hb⟩; refine ⟨_, rfl, ?_⟩; have n0_ := Aside0.mk (blk_below (g := gb176) (o := .cells #[.int .i64 a0_0, .int .i64 a0_1, .slice A0_2 l0_2.length c0_2] 38 (0, 0)) (by (with_reducible repeat (first | refine blk_drewN ?_ _ | refine blk_drew ?_ | refine blk_alloc ?_ _)); exact BK176.out) hb); have n1_ := Aside0.mk (below_step (by repeat (first | (with_reducible first | exact HB.out | apply below_alloc | apply pw_below_drewN | apply below_drew1 | refine below_set ?_ GE176.out) | exact HB.out)) hb); clear BK176; clear HB; have BK176 := n0_; have HB := n1_; clear n0_ n1_; (try clear hb); (try clear hb2); (try clear hk); (try clear hi)))
    go_ret2
    exact ⟨by first | rfl | (simp [errW_none, errW_some] <;> rfl) | (simp [*, errW_none, errW_some] <;> rfl), by repeat (first | (with_reducible first | exact HB.out | apply below_alloc | apply pw_below_drewN | apply below_drew1 | refine below_set ?_ GE176.out) | exact HB.out)⟩
def compile_rule.l0 : Nat → List (S84) → Int → Int → Int → List ByteArray → List (S98) → Option ((List (S84)))
  | 0, _, _, _, _, _, _ => none
  | k + 1, x5, x6, x182000, x182001, x182002, x182003 => if x6 ≥ 0 then (if 0 ≤ x6 then (if x6 < (x182003.length : Int) then ((cond_Norm.f ((rd_T98 x182003 x6).f0) ((rd_T98 x182003 x6).f1) ((rd_T98 x182003 x6).f2) ((rd_T98 x182003 x6).f3)).bind fun bt188 => (if bt188.2.1 = true then (some ([] : List (S84))) else (if bt188.1 = true then (compile_rule.l0 k x5 (wrap64 (x6 - 1)) x182000 x182001 x182002 x182003) else ((compile_test.f k bt188.1 bt188.2.1 bt188.2.2.1 bt188.2.2.2.1 bt188.2.2.2.2.1 bt188.2.2.2.2.2 ((rd_T98 x182003 x6).f0) (x5.length : Int)).bind fun t196 => (if t196.length + x5.length < 17592186044416 then (compile_rule.l0 k (t196 ++ x5) (wrap64 (x6 - 1)) x182000 x182001 x182002 x182003) else (none)))))) else (none)) else (none)) else (some x5)
def compile_rule.f (k : Nat) (a0_0 : Int) (a0_1 : Int) (l0_2 : List ByteArray) (l0_3 : List (S98)) : Option ((List (S84))) := (act_Value.f a0_0 a0_1).bind fun bt182 => (compile_rule.l0 k (([(⟨6, 0, 0, bt182.1⟩ : S84)] : List (S84))) (wrap64 ((l0_3.length : Int) - 1)) a0_0 a0_1 l0_2 l0_3)
def compile_rule.T10 : Bool × List (List Nat × List Nat) := (true, [([], []), ([], []), ([1], [1]), ([], []), ([2, 3], [2, 3]), ([4], [4]), ([5], [5]), ([], []), ([7], [7]), ([0, 6, 8], [0, 6, 8]), ([], []), ([9, 10, 9], [9, 10]), ([11, 11, 0, 1, 2, 3, 4, 5, 6, 7, 8, 9, 10, 11], [7, 10, 11])])
def compile_rule.B10 : List Nat := [0, 0, 2, 0, 14, 30, 62, 0, 128, 511, 0, 2047, 4095]
theorem compile_rule.tab10 : rtab .any (opsOf Try.f24 10) = compile_rule.T10 := by kernel_rfl
theorem compile_rule.bits10 : waitsOk compile_rule.T10.2 compile_rule.B10 = true := by kernel_rfl
set_option maxHeartbeats 8000000 in
set_option maxRecDepth 100000 in
theorem compile_rule.calls (k : Nat) (a0_0 : Int) (a0_1 : Int) (A0_2 : Option Addr) (c0_2 : Nat) (l0_2 : List ByteArray) (A0_3 : Option Addr) (c0_3 : Nat) (l0_3 : List (S98)) (r : List (S84)) (w : World) (hr0_2 : Kd.C Kd.string w A0_2 l0_2.length l0_2) (hc0_2 : l0_2.length ≤ c0_2) (hr0_3 : Kd.C k98 w A0_3 l0_3.length l0_3) (hc0_3 : l0_3.length ≤ c0_3) (h : compile_rule.f k a0_0 a0_1 l0_2 l0_3 = some r) :
    Calls Try.prog 24 #[.agg #[.int .i64 a0_0, .int .i64 a0_1, .slice A0_2 l0_2.length c0_2, .slice A0_3 l0_3.length c0_3]] w fun e w' => ∃ v0_ : Value, e = .returned (v0_) ∧ Kd.R k84 84 w' w.heap.size (fun _ => True) v0_ r ∧ Below w.heap.size w w' := by
  have hu72 := Try.underlying72
  have hu35 := Try.underlying35
  have hu84 := Try.underlying84
  have hu98 := Try.underlying98
  have hu111 := Try.underlying111
  have HR0_2 := Aside0.mk hr0_2
  have HC0_2 := Aside0.mk hc0_2
  clear hr0_2 hc0_2
  have HR0_3 := Aside0.mk hr0_3
  have HC0_3 := Aside0.mk hc0_3
  clear hr0_3 hc0_3
  have HB := Aside0.mk (Below.refl w.heap.size w)
  have H : ((act_Value.f a0_0 a0_1).bind fun bt182 => (compile_rule.l0 k (([(⟨6, 0, 0, bt182.1⟩ : S84)] : List (S84))) (wrap64 ((l0_3.length : Int) - 1)) a0_0 a0_1 l0_2 l0_3)) = some r := h
  clear h
  replace H := Option.bind_eq_some_iff.mp H
  obtain ⟨⟨t182, t183⟩, A20, H⟩ := H
  replace H : (compile_rule.l0 k (([(⟨6, 0, 0, t182⟩ : S84)] : List (S84))) (wrap64 ((l0_3.length : Int) - 1)) a0_0 a0_1 l0_2 l0_3) = some r := H
  have A2 := Aside0.mk A20
  clear A20
  obtain ⟨y184, hy184⟩ : ∃ y_ : List (S84), y_ = (([(⟨6, 0, 0, t182⟩ : S84)] : List (S84))) := ⟨_, rfl⟩
  replace H : (compile_rule.l0 k y184 (wrap64 ((l0_3.length : Int) - 1)) a0_0 a0_1 l0_2 l0_3) = some r := by first | (rw [hy184]; with_reducible exact H) | (have H2_ := (Option.bind_some _ _).symm.trans H; rw [hy184]; with_reducible exact H2_) | (have H2_ := (Option.bind_some _ _).symm.trans H; with_reducible exact H2_) | with_reducible exact H | (rw [hy184]; exact H) | exact H
  have Ny184 := Aside0.mk hy184
  clear hy184
  have H' := Aside0.mk H
  clear H
  go_enter Try.func24, Try.ntmps24
  go_wp2_with (first | ((with_reducible refine gate_dst (N := 1) rfl ?_); refine box_event ?hg (N := 1) ?hd (cs := #[.int .i64 a0_0, .int .i64 a0_1, .slice A0_2 l0_2.length c0_2, .slice A0_3 l0_3.length c0_3]) (t := 72) ?hr ?_; (case hd => rfl); (case hg => rfl); (case hr => first | (go_simp; done) | (go_simp; rfl)); intro gb181 hg w3 hbox hb; have n0_ := Aside0.mk (below_step (by repeat (first | (with_reducible first | exact HB.out | apply below_alloc | apply pw_below_drewN | apply below_drew1) | exact HB.out)) hb); have n1_ := Aside0.mk (hbox); have n2_ := Aside0.mk ((by rw [hg]; exact (below_size (by repeat (first | (with_reducible first | exact HB.out | apply below_alloc | apply pw_below_drewN | apply below_drew1) | exact HB.out))) : w.heap.size ≤ gb181)); have n3_ := Aside0.mk ((by rw [hg]; exact (below_size (by repeat (first | (with_reducible first | exact HB.out | apply below_alloc | apply pw_below_drewN | apply below_drew1) | exact HB.out))) : w.heap.size ≤ gb181)); clear HB; have HB := n0_; have BK181 := n1_; have GW181 := n2_; have GE181 := n3_; clear n0_ n1_ n2_ n3_; clear hb hbox hg; have hcz4_0 : w3.cell? ⟨gb181, 0, none⟩ = some (.int .i64 a0_0) := (blk_cell BK181.out 0).trans rfl; have hcz4_1 : w3.cell? ⟨gb181, 1, none⟩ = some (.int .i64 a0_1) := (blk_cell BK181.out 1).trans rfl; have hcz4_2 : w3.cell? ⟨gb181, 2, none⟩ = some (.slice A0_2 l0_2.length c0_2) := (blk_cell BK181.out 2).trans rfl; have hcz4_3 : w3.cell? ⟨gb181, 3, none⟩ = some (.slice A0_3 l0_3.length c0_3) := (blk_cell BK181.out 3).trans rfl; have hfz4_0 := blk_frozen BK181.out 0; have hfz4_1 := blk_frozen BK181.out 1; have hfz4_2 := blk_frozen BK181.out 2; have hfz4_3 := blk_frozen BK181.out 3) | ((with_reducible refine gate_callee (f := 10) rfl ?_); refine goesL_ (some 11) rfl rfl Try.func10 (by kernel_rfl) rfl #[.agg #[.int .i64 a0_0, .int .i64 a0_1]] rfl (by (try simp only [List.map_toArray, List.map_cons, List.map_nil]); first | done | rfl | (simp only [List.length_drop, List.length_take]; rfl)) ?_; (with_reducible refine (act_Value.calls a0_0 a0_1 t182 t183 _ A2.out).mono ?_); rintro e w5 ⟨rfl, hb⟩; refine ⟨_, rfl, ?_⟩; have n0_ := Aside0.mk (blk_below (g := gb181) (o := .cells #[.int .i64 a0_0, .int .i64 a0_1, .slice A0_2 l0_2.length c0_2, .slice A0_3 l0_3.length c0_3] 72 (0, 0)) (by (with_reducible repeat (first | refine blk_drewN ?_ _ | refine blk_drew ?_ | refine blk_alloc ?_ _)); exact BK181.out) hb); have n1_ := Aside0.mk (below_step (by repeat (first | (with_reducible first | exact HB.out | apply below_alloc | apply pw_below_drewN | apply below_drew1 | refine below_set ?_ GE181.out) | exact HB.out)) hb); clear BK181; clear HB; have BK181 := n0_; have HB := n1_; clear n0_ n1_; (try clear hb); (try clear hb2); (try clear hk); (try clear hi)) | ((with_reducible refine gate_dst (N := 16) rfl ?_); refine Kd.R_lit k84 _ 84 ?hg (N := 16) ?hd (xs := ([(⟨6, 0, 0, t182⟩ : S84)] : List (S84))) (inner := [.int .u16 6, .int .u8 0, .int .u8 0, .int .u32 t182]) (ok := fun _ => True) (okp := fun _ => True) ?hr ?hp (fun _ hk => hk) trivial (Below.refl _ _) (Nat.le_refl _) (by simp) ?_; (case hd => rfl); (case hg => rfl); (case hr => first | (go_simp; done) | (go_simp; rfl)); (case hp => exact (Reps.c4 (show Kd.M k84 _ _ _ (⟨6, 0, 0, t182⟩ : S84) [.int .u16 6, .int .u8 0, .int .u8 0, .int .u32 t182] from (k84_mkM _ _ _ (⟨6, 0, 0, t182⟩ : S84) )) (Reps.none _ _))); intro v185 w6 ho7 hb hg_ hnew_; clear hg_ hnew_; (first | rw [← Ny184.out] at ho7 | (simp only [Int.reduceToNat] at ho7; rw [← Ny184.out] at ho7)); have n0_ := Aside0.mk (Kd.R_lower ho7 (below_size (by repeat (first | (with_reducible first | exact HB.out | apply below_alloc | apply pw_below_drewN | apply below_drew1 | refine below_set ?_ GE181.out) | exact HB.out)))); have n1_ := Aside0.mk (blk_below (g := gb181) (o := .cells #[.int .i64 a0_0, .int .i64 a0_1, .slice A0_2 l0_2.length c0_2, .slice A0_3 l0_3.length c0_3] 72 (0, 0)) (by (with_reducible repeat (first | refine blk_drewN ?_ _ | refine blk_drew ?_ | refine blk_alloc ?_ _)); exact BK181.out) hb); have n2_ := Aside0.mk (below_step (by repeat (first | (with_reducible first | exact HB.out | apply below_alloc | apply pw_below_drewN | apply below_drew1 | refine below_set ?_ GE181.out) | exact HB.out)) hb); clear BK181; clear HB; have HO186 := n0_; have BK181 := n1_; have HB := n2_; clear n0_ n1_ n2_; clear hb ho7; have hcz8_0 : w6.cell? ⟨gb181, 0, none⟩ = some (.int .i64 a0_0) := (blk_cell BK181.out 0).trans rfl; have hcz8_1 : w6.cell? ⟨gb181, 1, none⟩ = some (.int .i64 a0_1) := (blk_cell BK181.out 1).trans rfl; have hcz8_2 : w6.cell? ⟨gb181, 2, none⟩ = some (.slice A0_2 l0_2.length c0_2) := (blk_cell BK181.out 2).trans rfl; have hcz8_3 : w6.cell? ⟨gb181, 3, none⟩ = some (.slice A0_3 l0_3.length c0_3) := (blk_cell BK181.out 3).trans rfl; have hfz8_0 := blk_frozen BK181.out 0; have hfz8_1 := blk_frozen BK181.out 1; have hfz8_2 := blk_frozen BK181.out 2; have hfz8_3 := blk_frozen BK181.out 3))
  go_loopg [5, 6] k (fun kq v5 v6 w' => ∃ (x5_1 : List (S84)) (x6_1 : Int), v6 = .int .i64 x6_1 ∧ Aside0 (compile_rule.l0 kq x5_1 x6_1 a0_0 a0_1 l0_2 l0_3 = some r) ∧ Aside0 (kq ≤ k) ∧ Aside0 (Kd.R k84 84 w' w.heap.size (fun _ => True) v5 x5_1) ∧ Aside0 (w'.heap[gb181]? = some (.cells #[.int .i64 a0_0, .int .i64 a0_1, (.slice A0_2 l0_2.length c0_2), (.slice A0_3 l0_3.length c0_3)] 72 (0, 0))) ∧ Aside0 (Below w.heap.size w w'))
  case atStart => exact ⟨(y184), (wrap64 ((l0_3.length : Int) - 1)), (by first | rfl | (simp; done) | (simp [*]; done)), H', ⟨Nat.le_refl _⟩, ⟨by (with_reducible repeat (first | apply Kd.R_alloc | apply Kd.R_drewN | apply Kd.R_drew)); exact HO186.out⟩, ⟨by (with_reducible repeat (first | refine blk_drewN ?_ _ | refine blk_drew ?_ | refine blk_alloc ?_ _)); exact BK181.out⟩, ⟨by repeat (first | (with_reducible first | exact HB.out | apply below_alloc | apply pw_below_drewN | apply below_drew1 | refine below_set ?_ GE181.out) | exact HB.out)⟩⟩
  case round =>
    clear H'
    try clear c1
    try clear c2
    try clear p2
    try clear c4
    try clear p6
    try clear hcz4_0
    try clear hcz4_1
    try clear hcz4_2
    try clear hcz4_3
    try clear hcz8_0
    try clear hcz8_1
    try clear hcz8_2
    try clear hcz8_3
    try clear hfz4_0
    try clear hfz4_1
    try clear hfz4_2
    try clear hfz4_3
    try clear hfz8_0
    try clear hfz8_1
    try clear hfz8_2
    try clear hfz8_3
    obtain ⟨x5_1, x6_1, rfl, HA, HK1, HO_5, BK181, HB⟩ := hrel
    cases gk with
    | zero => exact absurd HA.out (by simp [compile_rule.l0])
    | succ k1 =>
      have H := HA.out
      clear HA
      simp only [compile_rule.l0] at H
      by_cases c9 : x6_1 ≥ 0
      · rw [if_pos c9] at H
        have c9b0 : decide (0 ≤ x6_1) = true := decide_eq_true c9
        clear c9
        by_cases c10 : 0 ≤ x6_1
        · rw [if_pos c10] at H
          have c10b0 : decide (0 ≤ x6_1) = true := decide_eq_true c10
          clear c10
          by_cases c11 : x6_1 < (l0_3.length : Int)
          · rw [if_pos c11] at H
            have c11b0 : decide (x6_1 < (l0_3.length : Int)) = true := decide_eq_true c11
            clear c11
            replace H := Option.bind_eq_some_iff.mp H
            obtain ⟨⟨t188, t189, t190, t191, t192, t193⟩, A120, H⟩ := H
            replace H : (if t189 = true then (some ([] : List (S84))) else (if t188 = true then (compile_rule.l0 k1 x5_1 (wrap64 (x6_1 - 1)) a0_0 a0_1 l0_2 l0_3) else ((compile_test.f k1 t188 t189 t190 t191 t192 t193 ((rd_T98 l0_3 x6_1).f0) (x5_1.length : Int)).bind fun t196 => (if t196.length + x5_1.length < 17592186044416 then (compile_rule.l0 k1 (t196 ++ x5_1) (wrap64 (x6_1 - 1)) a0_0 a0_1 l0_2 l0_3) else (none))))) = some r := H
            have A12 := Aside0.mk A120
            clear A120
            by_cases c13 : t189 = true
            · subst c13
              have H1 : (some ([] : List (S84))) = some r := by rw [if_pos rfl] at H; exact H
              clear H
              have H := H1
              clear H1
              obtain rfl := Option.some.inj H
              have hcz14_0 : wr.cell? ⟨gb181, 0, none⟩ = some (.int .i64 a0_0) := (blk_cell BK181.out 0).trans rfl
              have hcz14_1 : wr.cell? ⟨gb181, 1, none⟩ = some (.int .i64 a0_1) := (blk_cell BK181.out 1).trans rfl
              have hcz14_2 : wr.cell? ⟨gb181, 2, none⟩ = some (.slice A0_2 l0_2.length c0_2) := (blk_cell BK181.out 2).trans rfl
              have hcz14_3 : wr.cell? ⟨gb181, 3, none⟩ = some (.slice A0_3 l0_3.length c0_3) := (blk_cell BK181.out 3).trans rfl
              have hfz14_0 := blk_frozen BK181.out 0
              have hfz14_1 := blk_frozen BK181.out 1
              have hfz14_2 := blk_frozen BK181.out 2
              have hfz14_3 := blk_frozen BK181.out 3
              have p187 : 0 ≤ (x6_1 : Int) := of_decide_eq_true (by first | (with_reducible assumption) | assumption)
              have q187 : x6_1 < (l0_3.length : Int) := of_decide_eq_true (by first | (with_reducible assumption) | assumption)
              obtain ⟨ad187, e187, hx187_0, hx187_1, hx187_2, hx187_3⟩ := at_T98 HR0_3.out x6_1 p187 q187
              cases e187
              replace hx187_0 := (HB.out.cell (World.block_lt_of_cell? w _ hx187_0)).trans hx187_0
              replace hx187_1 := (HB.out.cell (World.block_lt_of_cell? w _ hx187_1)).trans hx187_1
              replace hx187_2 := (HB.out.cell (World.block_lt_of_cell? w _ hx187_2)).trans hx187_2
              replace hx187_3 := (HB.out.cell (World.block_lt_of_cell? w _ hx187_3)).trans hx187_3
              replace p187 := eq_true p187
              replace q187 := eq_true q187
              go_wp2_with (first | ((with_reducible refine gate_callee (f := 42) rfl ?_); refine goesL_ (some 30) rfl rfl Try.func42 (by kernel_rfl) rfl #[.agg #[.int .i64 ((rd_T98 l0_3 x6_1).f0), .int .i64 ((rd_T98 l0_3 x6_1).f1), .int .u64 ((rd_T98 l0_3 x6_1).f2), .int .u64 ((rd_T98 l0_3 x6_1).f3)]] rfl (by (try simp only [List.map_toArray, List.map_cons, List.map_nil]); first | done | rfl | (simp only [List.length_drop, List.length_take]; rfl)) ?_; (with_reducible refine (cond_Norm.calls ((rd_T98 l0_3 x6_1).f0) ((rd_T98 l0_3 x6_1).f1) ((rd_T98 l0_3 x6_1).f2) ((rd_T98 l0_3 x6_1).f3) t188 true t190 t191 t192 t193 _ A12.out).mono ?_); rintro e w15 ⟨rfl, hb⟩; refine ⟨_, rfl, ?_⟩; have n0_ := Aside0.mk (Kd.R_below (by (with_reducible repeat (first | apply Kd.R_alloc | apply Kd.R_drewN | apply Kd.R_drew)); exact HO_5.out) hb); have n1_ := Aside0.mk (blk_below (g := gb181) (o := .cells #[.int .i64 a0_0, .int .i64 a0_1, .slice A0_2 l0_2.length c0_2, .slice (some ad187) l0_3.length c0_3] 72 (0, 0)) (by (with_reducible repeat (first | refine blk_drewN ?_ _ | refine blk_drew ?_ | refine blk_alloc ?_ _)); exact BK181.out) hb); have n2_ := Aside0.mk (below_step (by repeat (first | (with_reducible first | exact HB.out | apply below_alloc | apply pw_below_drewN | apply below_drew1 | refine below_set ?_ GE181.out) | exact HB.out)) hb); clear HO_5; clear BK181; clear HB; have HO_5 := n0_; have BK181 := n1_; have HB := n2_; clear n0_ n1_ n2_; (try clear hb); (try clear hb2); (try clear hk); (try clear hi)) | ((with_reducible refine gate_dst (N := 7) rfl ?_); refine box_event ?hg (N := 7) ?hd (cs := #[.bool false, .bool false, .bool false, .int .i64 0, .int .u64 0, .int .u64 0]) (t := 111) ?hr ?_; (case hd => rfl); (case hg => rfl); (case hr => first | (go_simp; done) | (go_simp; rfl)); intro gb194 hg w16 hbox hb; have n0_ := Aside0.mk (Kd.R_below (by (with_reducible repeat (first | apply Kd.R_alloc | apply Kd.R_drewN | apply Kd.R_drew)); exact HO_5.out) hb); have n1_ := Aside0.mk (blk_below (g := gb181) (o := .cells #[.int .i64 a0_0, .int .i64 a0_1, .slice A0_2 l0_2.length c0_2, .slice (some ad187) l0_3.length c0_3] 72 (0, 0)) (by (with_reducible repeat (first | refine blk_drewN ?_ _ | refine blk_drew ?_ | refine blk_alloc ?_ _)); exact BK181.out) hb); have n2_ := Aside0.mk (below_step (by repeat (first | (with_reducible first | exact HB.out | apply below_alloc | apply pw_below_drewN | apply below_drew1 | refine below_set ?_ GE181.out) | exact HB.out)) hb); have n3_ := Aside0.mk (hbox); have n4_ := Aside0.mk ((by rw [hg]; exact (below_size (by repeat (first | (with_reducible first | exact HB.out | apply below_alloc | apply pw_below_drewN | apply below_drew1 | refine below_set ?_ GE181.out) | exact HB.out))) : w.heap.size ≤ gb194)); have n5_ := Aside0.mk ((by rw [hg]; exact (below_size (by repeat (first | (with_reducible first | exact HB.out | apply below_alloc | apply pw_below_drewN | apply below_drew1 | refine below_set ?_ GE181.out) | exact HB.out))) : w.heap.size ≤ gb194)); have n6_ := Aside0.mk ((by rw [hg]; exact Nat.ne_of_lt (blk_lt (g := gb181) (o := .cells #[.int .i64 a0_0, .int .i64 a0_1, .slice A0_2 l0_2.length c0_2, .slice (some ad187) l0_3.length c0_3] 72 (0, 0)) (by (with_reducible repeat (first | refine blk_drewN ?_ _ | refine blk_drew ?_ | refine blk_alloc ?_ _)); exact BK181.out)) : gb181 ≠ gb194)); have n7_ := Aside0.mk ((by rw [hg]; exact Nat.ne_of_gt (blk_lt (g := gb181) (o := .cells #[.int .i64 a0_0, .int .i64 a0_1, .slice A0_2 l0_2.length c0_2, .slice (some ad187) l0_3.length c0_3] 72 (0, 0)) (by (with_reducible repeat (first | refine blk_drewN ?_ _ | refine blk_drew ?_ | refine blk_alloc ?_ _)); exact BK181.out)) : gb194 ≠ gb181)); clear HO_5; clear BK181; clear HB; have HO_5 := n0_; have BK181 := n1_; have HB := n2_; have BK194 := n3_; have GW194 := n4_; have GE194 := n5_; have NB181_194 := n6_; have NB194_181 := n7_; clear n0_ n1_ n2_ n3_ n4_ n5_ n6_ n7_; clear hb hbox hg; have hnb17 := NB194_181.out; have hnc17 := NB181_194.out; have hcz18_0 : w16.cell? ⟨gb194, 0, none⟩ = some (.bool false) := (blk_cell BK194.out 0).trans rfl; have hcz18_1 : w16.cell? ⟨gb194, 1, none⟩ = some (.bool false) := (blk_cell BK194.out 1).trans rfl; have hcz18_2 : w16.cell? ⟨gb194, 2, none⟩ = some (.bool false) := (blk_cell BK194.out 2).trans rfl; have hcz18_3 : w16.cell? ⟨gb194, 3, none⟩ = some (.int .i64 0) := (blk_cell BK194.out 3).trans rfl; have hcz18_4 : w16.cell? ⟨gb194, 4, none⟩ = some (.int .u64 0) := (blk_cell BK194.out 4).trans rfl; have hcz18_5 : w16.cell? ⟨gb194, 5, none⟩ = some (.int .u64 0) := (blk_cell BK194.out 5).trans rfl; have hfz18_0 := blk_frozen BK194.out 0; have hfz18_1 := blk_frozen BK194.out 1; have hfz18_2 := blk_frozen BK194.out 2; have hfz18_3 := blk_frozen BK194.out 3; have hfz18_4 := blk_frozen BK194.out 4; have hfz18_5 := blk_frozen BK194.out 5))
              go_ret
              exact ⟨_, by first | rfl | (simp [errW_none, errW_some] <;> rfl) | (simp [*, errW_none, errW_some] <;> rfl), by first | exact Kd.R_nil _ _ _ _ _ | exact Kd.N_nil _ _ _ _ _ | exact Kd.V_nil _ _ _ _ _ | exact Kd.Q_nil _ _ _ _ _ | exact Kd.S_nil _ _ _ _ _, by repeat (first | (with_reducible first | exact HB.out | apply below_alloc | apply pw_below_drewN | apply below_drew1 | refine below_set ?_ GE181.out | refine below_set ?_ GE194.out) | exact HB.out)⟩
            · replace c13 := Bool.eq_false_iff.mpr c13
              subst c13
              have H1 : (if t188 = true then (compile_rule.l0 k1 x5_1 (wrap64 (x6_1 - 1)) a0_0 a0_1 l0_2 l0_3) else ((compile_test.f k1 t188 false t190 t191 t192 t193 ((rd_T98 l0_3 x6_1).f0) (x5_1.length : Int)).bind fun t196 => (if t196.length + x5_1.length < 17592186044416 then (compile_rule.l0 k1 (t196 ++ x5_1) (wrap64 (x6_1 - 1)) a0_0 a0_1 l0_2 l0_3) else (none)))) = some r := by rw [if_neg (show ¬ (false = true) by decide)] at H; exact H
              clear H
              have H := H1
              clear H1
              by_cases c19 : t188 = true
              · subst c19
                have H1 : (compile_rule.l0 k1 x5_1 (wrap64 (x6_1 - 1)) a0_0 a0_1 l0_2 l0_3) = some r := by rw [if_pos rfl] at H; exact H
                clear H
                have H := H1
                clear H1
                have H' := Aside0.mk H
                clear H
                have hcz20_0 : wr.cell? ⟨gb181, 0, none⟩ = some (.int .i64 a0_0) := (blk_cell BK181.out 0).trans rfl
                have hcz20_1 : wr.cell? ⟨gb181, 1, none⟩ = some (.int .i64 a0_1) := (blk_cell BK181.out 1).trans rfl
                have hcz20_2 : wr.cell? ⟨gb181, 2, none⟩ = some (.slice A0_2 l0_2.length c0_2) := (blk_cell BK181.out 2).trans rfl
                have hcz20_3 : wr.cell? ⟨gb181, 3, none⟩ = some (.slice A0_3 l0_3.length c0_3) := (blk_cell BK181.out 3).trans rfl
                have hfz20_0 := blk_frozen BK181.out 0
                have hfz20_1 := blk_frozen BK181.out 1
                have hfz20_2 := blk_frozen BK181.out 2
                have hfz20_3 := blk_frozen BK181.out 3
                have p187 : 0 ≤ (x6_1 : Int) := of_decide_eq_true (by first | (with_reducible assumption) | assumption)
                have q187 : x6_1 < (l0_3.length : Int) := of_decide_eq_true (by first | (with_reducible assumption) | assumption)
                obtain ⟨ad187, e187, hx187_0, hx187_1, hx187_2, hx187_3⟩ := at_T98 HR0_3.out x6_1 p187 q187
                cases e187
                replace hx187_0 := (HB.out.cell (World.block_lt_of_cell? w _ hx187_0)).trans hx187_0
                replace hx187_1 := (HB.out.cell (World.block_lt_of_cell? w _ hx187_1)).trans hx187_1
                replace hx187_2 := (HB.out.cell (World.block_lt_of_cell? w _ hx187_2)).trans hx187_2
                replace hx187_3 := (HB.out.cell (World.block_lt_of_cell? w _ hx187_3)).trans hx187_3
                replace p187 := eq_true p187
                replace q187 := eq_true q187
                go_wp2_with (first | ((with_reducible refine gate_callee (f := 42) rfl ?_); refine goesL_ (some 30) rfl rfl Try.func42 (by kernel_rfl) rfl #[.agg #[.int .i64 ((rd_T98 l0_3 x6_1).f0), .int .i64 ((rd_T98 l0_3 x6_1).f1), .int .u64 ((rd_T98 l0_3 x6_1).f2), .int .u64 ((rd_T98 l0_3 x6_1).f3)]] rfl (by (try simp only [List.map_toArray, List.map_cons, List.map_nil]); first | done | rfl | (simp only [List.length_drop, List.length_take]; rfl)) ?_; (with_reducible refine (cond_Norm.calls ((rd_T98 l0_3 x6_1).f0) ((rd_T98 l0_3 x6_1).f1) ((rd_T98 l0_3 x6_1).f2) ((rd_T98 l0_3 x6_1).f3) true false t190 t191 t192 t193 _ A12.out).mono ?_); rintro e w21 ⟨rfl, hb⟩; refine ⟨_, rfl, ?_⟩; have n0_ := Aside0.mk (Kd.R_below (by (with_reducible repeat (first | apply Kd.R_alloc | apply Kd.R_drewN | apply Kd.R_drew)); exact HO_5.out) hb); have n1_ := Aside0.mk (blk_below (g := gb181) (o := .cells #[.int .i64 a0_0, .int .i64 a0_1, .slice A0_2 l0_2.length c0_2, .slice (some ad187) l0_3.length c0_3] 72 (0, 0)) (by (with_reducible repeat (first | refine blk_drewN ?_ _ | refine blk_drew ?_ | refine blk_alloc ?_ _)); exact BK181.out) hb); have n2_ := Aside0.mk (below_step (by repeat (first | (with_reducible first | exact HB.out | apply below_alloc | apply pw_below_drewN | apply below_drew1 | refine below_set ?_ GE181.out) | exact HB.out)) hb); clear HO_5; clear BK181; clear HB; have HO_5 := n0_; have BK181 := n1_; have HB := n2_; clear n0_ n1_ n2_; (try clear hb); (try clear hb2); (try clear hk); (try clear hi)) | ((with_reducible refine gate_dst (N := 7) rfl ?_); refine box_event ?hg (N := 7) ?hd (cs := #[.bool false, .bool false, .bool false, .int .i64 0, .int .u64 0, .int .u64 0]) (t := 111) ?hr ?_; (case hd => rfl); (case hg => rfl); (case hr => first | (go_simp; done) | (go_simp; rfl)); intro gb194 hg w22 hbox hb; have n0_ := Aside0.mk (Kd.R_below (by (with_reducible repeat (first | apply Kd.R_alloc | apply Kd.R_drewN | apply Kd.R_drew)); exact HO_5.out) hb); have n1_ := Aside0.mk (blk_below (g := gb181) (o := .cells #[.int .i64 a0_0, .int .i64 a0_1, .slice A0_2 l0_2.length c0_2, .slice (some ad187) l0_3.length c0_3] 72 (0, 0)) (by (with_reducible repeat (first | refine blk_drewN ?_ _ | refine blk_drew ?_ | refine blk_alloc ?_ _)); exact BK181.out) hb); have n2_ := Aside0.mk (below_step (by repeat (first | (with_reducible first | exact HB.out | apply below_alloc | apply pw_below_drewN | apply below_drew1 | refine below_set ?_ GE181.out) | exact HB.out)) hb); have n3_ := Aside0.mk (hbox); have n4_ := Aside0.mk ((by rw [hg]; exact (below_size (by repeat (first | (with_reducible first | exact HB.out | apply below_alloc | apply pw_below_drewN | apply below_drew1 | refine below_set ?_ GE181.out) | exact HB.out))) : w.heap.size ≤ gb194)); have n5_ := Aside0.mk ((by rw [hg]; exact (below_size (by repeat (first | (with_reducible first | exact HB.out | apply below_alloc | apply pw_below_drewN | apply below_drew1 | refine below_set ?_ GE181.out) | exact HB.out))) : w.heap.size ≤ gb194)); have n6_ := Aside0.mk ((by rw [hg]; exact Nat.ne_of_lt (blk_lt (g := gb181) (o := .cells #[.int .i64 a0_0, .int .i64 a0_1, .slice A0_2 l0_2.length c0_2, .slice (some ad187) l0_3.length c0_3] 72 (0, 0)) (by (with_reducible repeat (first | refine blk_drewN ?_ _ | refine blk_drew ?_ | refine blk_alloc ?_ _)); exact BK181.out)) : gb181 ≠ gb194)); have n7_ := Aside0.mk ((by rw [hg]; exact Nat.ne_of_gt (blk_lt (g := gb181) (o := .cells #[.int .i64 a0_0, .int .i64 a0_1, .slice A0_2 l0_2.length c0_2, .slice (some ad187) l0_3.length c0_3] 72 (0, 0)) (by (with_reducible repeat (first | refine blk_drewN ?_ _ | refine blk_drew ?_ | refine blk_alloc ?_ _)); exact BK181.out)) : gb194 ≠ gb181)); clear HO_5; clear BK181; clear HB; have HO_5 := n0_; have BK181 := n1_; have HB := n2_; have BK194 := n3_; have GW194 := n4_; have GE194 := n5_; have NB181_194 := n6_; have NB194_181 := n7_; clear n0_ n1_ n2_ n3_ n4_ n5_ n6_ n7_; clear hb hbox hg; have hnb23 := NB194_181.out; have hnc23 := NB181_194.out; have hcz24_0 : w22.cell? ⟨gb194, 0, none⟩ = some (.bool false) := (blk_cell BK194.out 0).trans rfl; have hcz24_1 : w22.cell? ⟨gb194, 1, none⟩ = some (.bool false) := (blk_cell BK194.out 1).trans rfl; have hcz24_2 : w22.cell? ⟨gb194, 2, none⟩ = some (.bool false) := (blk_cell BK194.out 2).trans rfl; have hcz24_3 : w22.cell? ⟨gb194, 3, none⟩ = some (.int .i64 0) := (blk_cell BK194.out 3).trans rfl; have hcz24_4 : w22.cell? ⟨gb194, 4, none⟩ = some (.int .u64 0) := (blk_cell BK194.out 4).trans rfl; have hcz24_5 : w22.cell? ⟨gb194, 5, none⟩ = some (.int .u64 0) := (blk_cell BK194.out 5).trans rfl; have hfz24_0 := blk_frozen BK194.out 0; have hfz24_1 := blk_frozen BK194.out 1; have hfz24_2 := blk_frozen BK194.out 2; have hfz24_3 := blk_frozen BK194.out 3; have hfz24_4 := blk_frozen BK194.out 4; have hfz24_5 := blk_frozen BK194.out 5))
                go_roundg k1
                case measure => have := HK1.out; omega
                case rel => exact ⟨(x5_1), (wrap64 (x6_1 - 1)), (by first | rfl | (simp; done) | (simp [*]; done)), H', ⟨by have := HK1.out; omega⟩, ⟨by (with_reducible repeat (first | apply Kd.R_alloc | apply Kd.R_drewN | apply Kd.R_drew)); exact Kd.R_mono (Kd.R_far (p := ⟨gb194, 5, none⟩) (Kd.R_far (p := ⟨gb194, 4, none⟩) (Kd.R_far (p := ⟨gb194, 3, none⟩) (Kd.R_far (p := ⟨gb194, 2, none⟩) (Kd.R_far (p := ⟨gb194, 1, none⟩) (Kd.R_far (p := ⟨gb194, 0, none⟩) (Kd.R_types HO_5.out BK194.out (by decide)) (fun _ hk => hk.2) (.bool true)) (fun _ hk => hk.2) (.bool false)) (fun _ hk => hk.2) (.bool t190)) (fun _ hk => hk.2) (.int .i64 t191)) (fun _ hk => hk.2) (.int .u64 t192)) (fun _ hk => hk.2) (.int .u64 t193)) (fun _ hk => trivial)⟩, ⟨by (with_reducible repeat (first | refine blk_drewN ?_ _ | refine blk_drew ?_ | refine blk_alloc ?_ _)); refine blk_far ?_ NB181_194.out _; (with_reducible repeat (first | refine blk_drewN ?_ _ | refine blk_drew ?_ | refine blk_alloc ?_ _)); refine blk_far ?_ NB181_194.out _; (with_reducible repeat (first | refine blk_drewN ?_ _ | refine blk_drew ?_ | refine blk_alloc ?_ _)); refine blk_far ?_ NB181_194.out _; (with_reducible repeat (first | refine blk_drewN ?_ _ | refine blk_drew ?_ | refine blk_alloc ?_ _)); refine blk_far ?_ NB181_194.out _; (with_reducible repeat (first | refine blk_drewN ?_ _ | refine blk_drew ?_ | refine blk_alloc ?_ _)); refine blk_far ?_ NB181_194.out _; (with_reducible repeat (first | refine blk_drewN ?_ _ | refine blk_drew ?_ | refine blk_alloc ?_ _)); refine blk_far ?_ NB181_194.out _; (with_reducible repeat (first | refine blk_drewN ?_ _ | refine blk_drew ?_ | refine blk_alloc ?_ _)); exact BK181.out⟩, ⟨by repeat (first | (with_reducible first | exact HB.out | apply below_alloc | apply pw_below_drewN | apply below_drew1 | refine below_set ?_ GE181.out | refine below_set ?_ GE194.out) | exact HB.out)⟩⟩
              · replace c19 := Bool.eq_false_iff.mpr c19
                subst c19
                have H1 : ((compile_test.f k1 false false t190 t191 t192 t193 ((rd_T98 l0_3 x6_1).f0) (x5_1.length : Int)).bind fun t196 => (if t196.length + x5_1.length < 17592186044416 then (compile_rule.l0 k1 (t196 ++ x5_1) (wrap64 (x6_1 - 1)) a0_0 a0_1 l0_2 l0_3) else (none))) = some r := by rw [if_neg (show ¬ (false = true) by decide)] at H; exact H
                clear H
                have H := H1
                clear H1
                replace H := Option.bind_eq_some_iff.mp H
                obtain ⟨t196, A250, H⟩ := H
                replace H : (if t196.length + x5_1.length < 17592186044416 then (compile_rule.l0 k1 (t196 ++ x5_1) (wrap64 (x6_1 - 1)) a0_0 a0_1 l0_2 l0_3) else (none)) = some r := H
                have A25 := Aside0.mk A250
                clear A250
                by_cases c26 : t196.length + x5_1.length < 17592186044416
                · rw [if_pos c26] at H
                  have LMc26 := Aside0.mk c26
                  clear c26
                  obtain ⟨y199, hy199⟩ : ∃ y_ : List (S84), y_ = (t196 ++ x5_1) := ⟨_, rfl⟩
                  replace H : (compile_rule.l0 k1 y199 (wrap64 (x6_1 - 1)) a0_0 a0_1 l0_2 l0_3) = some r := by first | (rw [hy199]; with_reducible exact H) | (have H2_ := (Option.bind_some _ _).symm.trans H; rw [hy199]; with_reducible exact H2_) | (have H2_ := (Option.bind_some _ _).symm.trans H; with_reducible exact H2_) | with_reducible exact H | (rw [hy199]; exact H) | exact H
                  have Ny199 := Aside0.mk hy199
                  clear hy199
                  have H' := Aside0.mk H
                  clear H
                  have hcz27_0 : wr.cell? ⟨gb181, 0, none⟩ = some (.int .i64 a0_0) := (blk_cell BK181.out 0).trans rfl
                  have hcz27_1 : wr.cell? ⟨gb181, 1, none⟩ = some (.int .i64 a0_1) := (blk_cell BK181.out 1).trans rfl
                  have hcz27_2 : wr.cell? ⟨gb181, 2, none⟩ = some (.slice A0_2 l0_2.length c0_2) := (blk_cell BK181.out 2).trans rfl
                  have hcz27_3 : wr.cell? ⟨gb181, 3, none⟩ = some (.slice A0_3 l0_3.length c0_3) := (blk_cell BK181.out 3).trans rfl
                  have hfz27_0 := blk_frozen BK181.out 0
                  have hfz27_1 := blk_frozen BK181.out 1
                  have hfz27_2 := blk_frozen BK181.out 2
                  have hfz27_3 := blk_frozen BK181.out 3
                  have p187 : 0 ≤ (x6_1 : Int) := of_decide_eq_true (by first | (with_reducible assumption) | assumption)
                  have q187 : x6_1 < (l0_3.length : Int) := of_decide_eq_true (by first | (with_reducible assumption) | assumption)
                  obtain ⟨ad187, e187, hx187_0, hx187_1, hx187_2, hx187_3⟩ := at_T98 HR0_3.out x6_1 p187 q187
                  cases e187
                  replace hx187_0 := (HB.out.cell (World.block_lt_of_cell? w _ hx187_0)).trans hx187_0
                  replace hx187_1 := (HB.out.cell (World.block_lt_of_cell? w _ hx187_1)).trans hx187_1
                  replace hx187_2 := (HB.out.cell (World.block_lt_of_cell? w _ hx187_2)).trans hx187_2
                  replace hx187_3 := (HB.out.cell (World.block_lt_of_cell? w _ hx187_3)).trans hx187_3
                  replace p187 := eq_true p187
                  replace q187 := eq_true q187
                  try go_wp2_with (first | ((with_reducible refine gate_callee (f := 42) rfl ?_); refine goesL_ (some 30) rfl rfl Try.func42 (by kernel_rfl) rfl #[.agg #[.int .i64 ((rd_T98 l0_3 x6_1).f0), .int .i64 ((rd_T98 l0_3 x6_1).f1), .int .u64 ((rd_T98 l0_3 x6_1).f2), .int .u64 ((rd_T98 l0_3 x6_1).f3)]] rfl (by (try simp only [List.map_toArray, List.map_cons, List.map_nil]); first | done | rfl | (simp only [List.length_drop, List.length_take]; rfl)) ?_; (with_reducible refine (cond_Norm.calls ((rd_T98 l0_3 x6_1).f0) ((rd_T98 l0_3 x6_1).f1) ((rd_T98 l0_3 x6_1).f2) ((rd_T98 l0_3 x6_1).f3) false false t190 t191 t192 t193 _ A12.out).mono ?_); rintro e w28 ⟨rfl, hb⟩; refine ⟨_, rfl, ?_⟩; have n0_ := Aside0.mk (Kd.R_below (by (with_reducible repeat (first | apply Kd.R_alloc | apply Kd.R_drewN | apply Kd.R_drew)); exact HO_5.out) hb); have n1_ := Aside0.mk (blk_below (g := gb181) (o := .cells #[.int .i64 a0_0, .int .i64 a0_1, .slice A0_2 l0_2.length c0_2, .slice (some ad187) l0_3.length c0_3] 72 (0, 0)) (by (with_reducible repeat (first | refine blk_drewN ?_ _ | refine blk_drew ?_ | refine blk_alloc ?_ _)); exact BK181.out) hb); have n2_ := Aside0.mk (below_step (by repeat (first | (with_reducible first | exact HB.out | apply below_alloc | apply pw_below_drewN | apply below_drew1 | refine below_set ?_ GE181.out) | exact HB.out)) hb); clear HO_5; clear BK181; clear HB; have HO_5 := n0_; have BK181 := n1_; have HB := n2_; clear n0_ n1_ n2_; (try clear hb); (try clear hb2); (try clear hk); (try clear hi)) | ((with_reducible refine gate_dst (N := 7) rfl ?_); refine box_event ?hg (N := 7) ?hd (cs := #[.bool false, .bool false, .bool false, .int .i64 0, .int .u64 0, .int .u64 0]) (t := 111) ?hr ?_; (case hd => rfl); (case hg => rfl); (case hr => first | (go_simp; done) | (go_simp; rfl)); intro gb194 hg w29 hbox hb; have n0_ := Aside0.mk (Kd.R_below (by (with_reducible repeat (first | apply Kd.R_alloc | apply Kd.R_drewN | apply Kd.R_drew)); exact HO_5.out) hb); have n1_ := Aside0.mk (blk_below (g := gb181) (o := .cells #[.int .i64 a0_0, .int .i64 a0_1, .slice A0_2 l0_2.length c0_2, .slice (some ad187) l0_3.length c0_3] 72 (0, 0)) (by (with_reducible repeat (first | refine blk_drewN ?_ _ | refine blk_drew ?_ | refine blk_alloc ?_ _)); exact BK181.out) hb); have n2_ := Aside0.mk (below_step (by repeat (first | (with_reducible first | exact HB.out | apply below_alloc | apply pw_below_drewN | apply below_drew1 | refine below_set ?_ GE181.out) | exact HB.out)) hb); have n3_ := Aside0.mk (hbox); have n4_ := Aside0.mk ((by rw [hg]; exact (below_size (by repeat (first | (with_reducible first | exact HB.out | apply below_alloc | apply pw_below_drewN | apply below_drew1 | refine below_set ?_ GE181.out) | exact HB.out))) : w.heap.size ≤ gb194)); have n5_ := Aside0.mk ((by rw [hg]; exact (below_size (by repeat (first | (with_reducible first | exact HB.out | apply below_alloc | apply pw_below_drewN | apply below_drew1 | refine below_set ?_ GE181.out) | exact HB.out))) : w.heap.size ≤ gb194)); have n6_ := Aside0.mk ((by rw [hg]; exact Nat.ne_of_lt (blk_lt (g := gb181) (o := .cells #[.int .i64 a0_0, .int .i64 a0_1, .slice A0_2 l0_2.length c0_2, .slice (some ad187) l0_3.length c0_3] 72 (0, 0)) (by (with_reducible repeat (first | refine blk_drewN ?_ _ | refine blk_drew ?_ | refine blk_alloc ?_ _)); exact BK181.out)) : gb181 ≠ gb194)); have n7_ := Aside0.mk ((by rw [hg]; exact Nat.ne_of_gt (blk_lt (g := gb181) (o := .cells #[.int .i64 a0_0, .int .i64 a0_1, .slice A0_2 l0_2.length c0_2, .slice (some ad187) l0_3.length c0_3] 72 (0, 0)) (by (with_reducible repeat (first | refine blk_drewN ?_ _ | refine blk_drew ?_ | refine blk_alloc ?_ _)); exact BK181.out)) : gb194 ≠ gb181)); clear HO_5; clear BK181; clear HB; have HO_5 := n0_; have BK181 := n1_; have HB := n2_; have BK194 := n3_; have GW194 := n4_; have GE194 := n5_; have NB181_194 := n6_; have NB194_181 := n7_; clear n0_ n1_ n2_ n3_ n4_ n5_ n6_ n7_; clear hb hbox hg; have hnb30 := NB194_181.out; have hnc30 := NB181_194.out; have hcz31_0 : w29.cell? ⟨gb194, 0, none⟩ = some (.bool false) := (blk_cell BK194.out 0).trans rfl; have hcz31_1 : w29.cell? ⟨gb194, 1, none⟩ = some (.bool false) := (blk_cell BK194.out 1).trans rfl; have hcz31_2 : w29.cell? ⟨gb194, 2, none⟩ = some (.bool false) := (blk_cell BK194.out 2).trans rfl; have hcz31_3 : w29.cell? ⟨gb194, 3, none⟩ = some (.int .i64 0) := (blk_cell BK194.out 3).trans rfl; have hcz31_4 : w29.cell? ⟨gb194, 4, none⟩ = some (.int .u64 0) := (blk_cell BK194.out 4).trans rfl; have hcz31_5 : w29.cell? ⟨gb194, 5, none⟩ = some (.int .u64 0) := (blk_cell BK194.out 5).trans rfl; have hfz31_0 := blk_frozen BK194.out 0; have hfz31_1 := blk_frozen BK194.out 1; have hfz31_2 := blk_frozen BK194.out 2; have hfz31_3 := blk_frozen BK194.out 3; have hfz31_4 := blk_frozen BK194.out 4; have hfz31_5 := blk_frozen BK194.out 5))
                  have n0_ : Aside0 (Kd.R k84 84 ((((((w29.setCell ⟨gb194, 0, none⟩ (.bool false)).setCell ⟨gb194, 1, none⟩ (.bool false)).setCell ⟨gb194, 2, none⟩ (.bool t190)).setCell ⟨gb194, 3, none⟩ (.int .i64 t191)).setCell ⟨gb194, 4, none⟩ (.int .u64 t192)).setCell ⟨gb194, 5, none⟩ (.int .u64 t193)) w.heap.size (fun _ => True) u5 x5_1) := ⟨by (with_reducible repeat (first | apply Kd.R_alloc | apply Kd.R_drewN | apply Kd.R_drew)); exact Kd.R_mono (Kd.R_far (p := ⟨gb194, 5, none⟩) (Kd.R_far (p := ⟨gb194, 4, none⟩) (Kd.R_far (p := ⟨gb194, 3, none⟩) (Kd.R_far (p := ⟨gb194, 2, none⟩) (Kd.R_far (p := ⟨gb194, 1, none⟩) (Kd.R_far (p := ⟨gb194, 0, none⟩) (Kd.R_types HO_5.out BK194.out (by decide)) (fun _ hk => hk.2) (.bool false)) (fun _ hk => hk.2) (.bool false)) (fun _ hk => hk.2) (.bool t190)) (fun _ hk => hk.2) (.int .i64 t191)) (fun _ hk => hk.2) (.int .u64 t192)) (fun _ hk => hk.2) (.int .u64 t193)) (fun _ hk => trivial)⟩
                  have n1_ : Aside0 (((((((w29.setCell ⟨gb194, 0, none⟩ (.bool false)).setCell ⟨gb194, 1, none⟩ (.bool false)).setCell ⟨gb194, 2, none⟩ (.bool t190)).setCell ⟨gb194, 3, none⟩ (.int .i64 t191)).setCell ⟨gb194, 4, none⟩ (.int .u64 t192)).setCell ⟨gb194, 5, none⟩ (.int .u64 t193)).heap[gb181]? = some (.cells #[.int .i64 a0_0, .int .i64 a0_1, .slice A0_2 l0_2.length c0_2, .slice (some ad187) l0_3.length c0_3] 72 (0, 0))) := ⟨by (with_reducible repeat (first | refine blk_drewN ?_ _ | refine blk_drew ?_ | refine blk_alloc ?_ _)); refine blk_far ?_ NB181_194.out _; (with_reducible repeat (first | refine blk_drewN ?_ _ | refine blk_drew ?_ | refine blk_alloc ?_ _)); refine blk_far ?_ NB181_194.out _; (with_reducible repeat (first | refine blk_drewN ?_ _ | refine blk_drew ?_ | refine blk_alloc ?_ _)); refine blk_far ?_ NB181_194.out _; (with_reducible repeat (first | refine blk_drewN ?_ _ | refine blk_drew ?_ | refine blk_alloc ?_ _)); refine blk_far ?_ NB181_194.out _; (with_reducible repeat (first | refine blk_drewN ?_ _ | refine blk_drew ?_ | refine blk_alloc ?_ _)); refine blk_far ?_ NB181_194.out _; (with_reducible repeat (first | refine blk_drewN ?_ _ | refine blk_drew ?_ | refine blk_alloc ?_ _)); refine blk_far ?_ NB181_194.out _; (with_reducible repeat (first | refine blk_drewN ?_ _ | refine blk_drew ?_ | refine blk_alloc ?_ _)); exact BK181.out⟩
                  have n2_ : Aside0 (((((((w29.setCell ⟨gb194, 0, none⟩ (.bool false)).setCell ⟨gb194, 1, none⟩ (.bool false)).setCell ⟨gb194, 2, none⟩ (.bool t190)).setCell ⟨gb194, 3, none⟩ (.int .i64 t191)).setCell ⟨gb194, 4, none⟩ (.int .u64 t192)).setCell ⟨gb194, 5, none⟩ (.int .u64 t193)).heap[gb194]? = some (.cells #[.bool false, .bool false, .bool t190, .int .i64 t191, .int .u64 t192, .int .u64 t193] 111 (0, 0))) := ⟨by (with_reducible repeat (first | refine blk_drewN ?_ _ | refine blk_drew ?_ | refine blk_alloc ?_ _)); refine blk_put (cs := #[.bool false, .bool false, .bool t190, .int .i64 t191, .int .u64 t192, .int .u64 0]) ?_ 5 _ rfl; (with_reducible repeat (first | refine blk_drewN ?_ _ | refine blk_drew ?_ | refine blk_alloc ?_ _)); refine blk_put (cs := #[.bool false, .bool false, .bool t190, .int .i64 t191, .int .u64 0, .int .u64 0]) ?_ 4 _ rfl; (with_reducible repeat (first | refine blk_drewN ?_ _ | refine blk_drew ?_ | refine blk_alloc ?_ _)); refine blk_put (cs := #[.bool false, .bool false, .bool t190, .int .i64 0, .int .u64 0, .int .u64 0]) ?_ 3 _ rfl; (with_reducible repeat (first | refine blk_drewN ?_ _ | refine blk_drew ?_ | refine blk_alloc ?_ _)); refine blk_put (cs := #[.bool false, .bool false, .bool false, .int .i64 0, .int .u64 0, .int .u64 0]) ?_ 2 _ rfl; (with_reducible repeat (first | refine blk_drewN ?_ _ | refine blk_drew ?_ | refine blk_alloc ?_ _)); refine blk_put (cs := #[.bool false, .bool false, .bool false, .int .i64 0, .int .u64 0, .int .u64 0]) ?_ 1 _ rfl; (with_reducible repeat (first | refine blk_drewN ?_ _ | refine blk_drew ?_ | refine blk_alloc ?_ _)); refine blk_put (cs := #[.bool false, .bool false, .bool false, .int .i64 0, .int .u64 0, .int .u64 0]) ?_ 0 _ rfl; (with_reducible repeat (first | refine blk_drewN ?_ _ | refine blk_drew ?_ | refine blk_alloc ?_ _)); exact BK194.out⟩
                  have n3_ : Aside0 (Below w.heap.size w ((((((w29.setCell ⟨gb194, 0, none⟩ (.bool false)).setCell ⟨gb194, 1, none⟩ (.bool false)).setCell ⟨gb194, 2, none⟩ (.bool t190)).setCell ⟨gb194, 3, none⟩ (.int .i64 t191)).setCell ⟨gb194, 4, none⟩ (.int .u64 t192)).setCell ⟨gb194, 5, none⟩ (.int .u64 t193))) := ⟨by repeat (first | (with_reducible first | exact HB.out | apply below_alloc | apply pw_below_drewN | apply below_drew1 | refine below_set ?_ GE181.out | refine below_set ?_ GE194.out) | exact HB.out)⟩
                  (try clear HO_5)
                  (try clear BK181)
                  (try clear BK194)
                  (try clear HB)
                  generalize ((((((w29.setCell ⟨gb194, 0, none⟩ (.bool false)).setCell ⟨gb194, 1, none⟩ (.bool false)).setCell ⟨gb194, 2, none⟩ (.bool t190)).setCell ⟨gb194, 3, none⟩ (.int .i64 t191)).setCell ⟨gb194, 4, none⟩ (.int .u64 t192)).setCell ⟨gb194, 5, none⟩ (.int .u64 t193)) = w32 at n0_ n1_ n2_ n3_ ⊢
                  have HO_5 := n0_
                  have BK181 := n1_
                  have BK194 := n2_
                  have HB := n3_
                  clear n0_ n1_ n2_ n3_
                  have n0_ := Aside0.mk (Kd.R_drew HO_5.out)
                  have n1_ := Aside0.mk (blk_drew BK181.out)
                  have n2_ := Aside0.mk (blk_drew BK194.out)
                  have n3_ := Aside0.mk (below_drew1 HB.out)
                  clear HO_5
                  clear BK181
                  clear BK194
                  clear HB
                  have HO_5 := n0_
                  have BK181 := n1_
                  have BK194 := n2_
                  have HB := n3_
                  clear n0_ n1_ n2_ n3_
                  have p195 : 0 ≤ (x6_1 : Int) := of_decide_eq_true (by first | (with_reducible assumption) | assumption)
                  have q195 : x6_1 < (l0_3.length : Int) := of_decide_eq_true (by first | (with_reducible assumption) | assumption)
                  obtain ⟨ad195, e195, hx195_0, hx195_1, hx195_2, hx195_3⟩ := at_T98 HR0_3.out x6_1 p195 q195
                  have hw195_3 := hx195_3
                  have hw195_2 := hx195_2
                  have hw195_1 := hx195_1
                  have hw195_0 := hx195_0
                  obtain rfl : ad187 = ad195 := (by injection e195)
                  replace hx195_0 := (HB.out.cell (World.block_lt_of_cell? w _ hx195_0)).trans hx195_0
                  replace hx195_1 := (HB.out.cell (World.block_lt_of_cell? w _ hx195_1)).trans hx195_1
                  replace hx195_2 := (HB.out.cell (World.block_lt_of_cell? w _ hx195_2)).trans hx195_2
                  replace hx195_3 := (HB.out.cell (World.block_lt_of_cell? w _ hx195_3)).trans hx195_3
                  replace p195 := eq_true p195
                  replace q195 := eq_true q195
                  obtain ⟨Ao34, co34, eo34⟩ := Kd.R_slice HO_5.out
                  (first | subst eo34 | (injection eo34 with f1_ f2_ f3_; have f4_ := f1_.symm; have f5_ := f3_.symm; clear f1_ f2_ f3_; subst f4_; subst f5_))
                  refine start_ (n := 13) (S := fun w' => w'.cell? ⟨gb194, 0, none⟩ = some (.bool false) ∧ w'.cell? ⟨gb194, 1, none⟩ = some (.bool false) ∧ w'.cell? ⟨gb194, 2, none⟩ = some (.bool t190) ∧ w'.cell? ⟨gb194, 3, none⟩ = some (.int .i64 t191) ∧ w'.cell? ⟨gb194, 4, none⟩ = some (.int .u64 t192) ∧ w'.cell? ⟨gb194, 5, none⟩ = some (.int .u64 t193) ∧ w'.cell? ⟨gb181, 0, none⟩ = some (.int .i64 a0_0) ∧ w'.cell? ⟨gb181, 1, none⟩ = some (.int .i64 a0_1) ∧ w'.cell? ⟨gb181, 2, none⟩ = some (.slice A0_2 l0_2.length c0_2) ∧ w'.cell? ⟨gb181, 3, none⟩ = some (.slice (some ad187) l0_3.length c0_3) ∧ w'.cell? (ad187.add ((x6_1).toNat * 4)) = some (.int .i64 ((rd_T98 l0_3 x6_1).f0)) ∧ w'.cell? ⟨(ad187.add ((x6_1).toNat * 4)).block, (ad187.add ((x6_1).toNat * 4)).off + 1, none⟩ = some (.int .i64 ((rd_T98 l0_3 x6_1).f1)) ∧ w'.cell? ⟨(ad187.add ((x6_1).toNat * 4)).block, (ad187.add ((x6_1).toNat * 4)).off + 2, none⟩ = some (.int .u64 ((rd_T98 l0_3 x6_1).f2)) ∧ w'.cell? ⟨(ad187.add ((x6_1).toNat * 4)).block, (ad187.add ((x6_1).toNat * 4)).off + 3, none⟩ = some (.int .u64 ((rd_T98 l0_3 x6_1).f3))) (ds := []) #[false, false, false, false, false, false, false, false, false, false, false, false, false] (by kernel_rfl) rfl rfl ⟨(blk_cell BK194.out 0).trans rfl, (blk_cell BK194.out 1).trans rfl, (blk_cell BK194.out 2).trans rfl, (blk_cell BK194.out 3).trans rfl, (blk_cell BK194.out 4).trans rfl, (blk_cell BK194.out 5).trans rfl, (blk_cell BK181.out 0).trans rfl, (blk_cell BK181.out 1).trans rfl, (blk_cell BK181.out 2).trans rfl, (blk_cell BK181.out 3).trans rfl, ((HB.out.cell (World.block_lt_of_cell? w _ hw195_0)).trans hw195_0), ((HB.out.cell (World.block_lt_of_cell? w _ hw195_1)).trans hw195_1), ((HB.out.cell (World.block_lt_of_cell? w _ hw195_2)).trans hw195_2), ((HB.out.cell (World.block_lt_of_cell? w _ hw195_3)).trans hw195_3)⟩ (fun hHeld => ?_); refine with_tabW compile_rule.tab10 compile_rule.bits10 (fun HT_ HW_ => ?_)
                  generalize w32.drew = w33 at HO_5 BK181 BK194 HB hx195_0 hx195_1 hx195_2 hx195_3 hHeld ⊢
                  refine pure_ (i := 1) (N := some 37) (v := ?_) (a' := ?_) #[false, true, false, false, false, false, false, false, false, false, false, false, false] rfl rfl (any_of HT_.out (by kernel_rfl)) (fun _ _ _ h => h) (Or.inl ⟨by rfl, ?_⟩) ?_ ?_
                  rotate_left
                  · intro w'
                    go_simp
                    with_reducible rfl
                  rotate_left
                  · simp only [Act.put, List.setIfInBounds_toArray, List.set_cons_zero, List.set_cons_succ, i64_w, i32_w]
                    rfl
                  refine pure_ (i := 3) (N := some 39) (v := ?_) (a' := ?_) #[false, true, false, true, false, false, false, false, false, false, false, false, false] rfl rfl (any_of HT_.out (by kernel_rfl)) (fun _ _ _ h => h) (Or.inl ⟨by rfl, ?_⟩) ?_ ?_
                  rotate_left
                  · intro w'
                    go_simp
                    with_reducible rfl
                  rotate_left
                  · simp only [Act.put, List.setIfInBounds_toArray, List.set_cons_zero, List.set_cons_succ, i64_w, i32_w]
                    rfl
                  refine pure_ (i := 7) (N := some 43) (v := ?_) (a' := ?_) #[false, true, false, true, false, false, false, true, false, false, false, false, false] rfl rfl (any_of HT_.out (by kernel_rfl)) (fun _ _ _ h => h) (Or.inl ⟨by rfl, ?_⟩) ?_ ?_
                  rotate_left
                  · intro w'
                    go_simp
                    with_reducible rfl
                  rotate_left
                  · simp only [Act.put, List.setIfInBounds_toArray, List.set_cons_zero, List.set_cons_succ, i64_w, i32_w]
                    rfl
                  refine pure_ (i := 8) (N := some 44) (v := ?_) (a' := ?_) #[false, true, false, true, false, false, false, true, true, false, false, false, false] rfl rfl (any_of HT_.out (by kernel_rfl)) (fun _ _ _ h => h) (Or.inl ⟨by rfl, ?_⟩) ?_ ?_
                  rotate_left
                  · intro w'
                    go_simp
                    with_reducible rfl
                  rotate_left
                  · simp only [Act.put, List.setIfInBounds_toArray, List.set_cons_zero, List.set_cons_succ, i64_w, i32_w]
                    rfl
                  refine pure_ (i := 10) (N := some 46) (v := ?_) (a' := ?_) #[false, true, false, true, false, false, false, true, true, false, true, false, false] rfl rfl (any_of HT_.out (by kernel_rfl)) (fun _ _ _ h => h) (Or.inl ⟨by rfl, ?_⟩) ?_ ?_
                  rotate_left
                  · intro w'
                    go_simp
                    with_reducible rfl
                  rotate_left
                  · simp only [Act.put, List.setIfInBounds_toArray, List.set_cons_zero, List.set_cons_succ, i64_w, i32_w]
                    rfl
                  refine take_ (i := 0) (N := some 36) (v := ?_) (a' := ?_) #[true, true, false, true, false, false, false, true, true, false, true, false, false] rfl rfl (take_ofW HT_.out HW_.out (by kernel_rfl)) (fun _ _ _ h => h) (Or.inl ⟨by rfl, ?_⟩) hHeld ?_ ?_
                  rotate_left
                  · rintro w' ⟨s0, s1, s2, s3, s4, s5, s6, s7, s8, s9, s10, s11, s12, s13⟩
                    go_simp
                    with_reducible rfl
                  rotate_left
                  · simp only [Act.put, List.setIfInBounds_toArray, List.set_cons_zero, List.set_cons_succ, i64_w, i32_w]
                    rfl
                  refine take_ (i := 2) (N := some 38) (v := ?_) (a' := ?_) #[true, true, true, true, false, false, false, true, true, false, true, false, false] rfl rfl (take_ofW HT_.out HW_.out (by kernel_rfl)) (fun _ _ _ h => h) (Or.inl ⟨by rfl, ?_⟩) hHeld ?_ ?_
                  rotate_left
                  · rintro w' ⟨s0, s1, s2, s3, s4, s5, s6, s7, s8, s9, s10, s11, s12, s13⟩
                    go_simp
                    with_reducible rfl
                  rotate_left
                  · simp only [Act.put, List.setIfInBounds_toArray, List.set_cons_zero, List.set_cons_succ, i64_w, i32_w]
                    rfl
                  refine pure_ (i := 4) (N := some 40) (v := ?_) (a' := ?_) #[true, true, true, true, true, false, false, true, true, false, true, false, false] rfl rfl (any_of HT_.out (by kernel_rfl)) (fun _ _ _ h => h) (Or.inl ⟨by rfl, ?_⟩) ?_ ?_
                  rotate_left
                  · intro w'
                    go_simp
                    with_reducible rfl
                  rotate_left
                  · simp only [Act.put, List.setIfInBounds_toArray, List.set_cons_zero, List.set_cons_succ, i64_w, i32_w]
                    rfl
                  refine pure_ (i := 5) (N := some 41) (v := ?_) (a' := ?_) #[true, true, true, true, true, true, false, true, true, false, true, false, false] rfl rfl (any_of HT_.out (by kernel_rfl)) (fun _ _ _ h => h) (Or.inl ⟨by rfl, ?_⟩) ?_ ?_
                  rotate_left
                  · intro w'
                    go_simp
                    with_reducible rfl
                  rotate_left
                  · simp only [Act.put, List.setIfInBounds_toArray, List.set_cons_zero, List.set_cons_succ, i64_w, i32_w]
                    rfl
                  refine take_ (i := 6) (N := some 42) (v := ?_) (a' := ?_) #[true, true, true, true, true, true, true, true, true, false, true, false, false] rfl rfl (take_ofW HT_.out HW_.out (by kernel_rfl)) (fun _ _ _ h => h) (Or.inl ⟨by rfl, ?_⟩) hHeld ?_ ?_
                  rotate_left
                  · rintro w' ⟨s0, s1, s2, s3, s4, s5, s6, s7, s8, s9, s10, s11, s12, s13⟩
                    go_simp
                    with_reducible rfl
                  rotate_left
                  · simp only [Act.put, List.setIfInBounds_toArray, List.set_cons_zero, List.set_cons_succ, i64_w, i32_w]
                    rfl
                  refine one_ (i := 9) (N := some 45) #[true, true, true, true, true, true, true, true, true, true, true, false, false] rfl rfl (one_of HT_.out (by kernel_rfl)) (by decide) (fun K hK => ?_)
                  refine goes_ Try.func43 (by kernel_rfl) rfl #[.agg #[.bool false, .bool false, .bool t190, .int .i64 t191, .int .u64 t192, .int .u64 t193], .int .i64 ((rd_T98 l0_3 x6_1).f0), .int .i64 (x5_1.length : Int)] (by rfl) rfl rfl (by (try simp only [List.map_toArray, List.map_cons, List.map_nil]); first | done | rfl | (simp only [List.length_drop, List.length_take]; rfl)) ?_
                  with_reducible refine (compile_test.calls k1 false false t190 t191 t192 t193 ((rd_T98 l0_3 x6_1).f0) (x5_1.length : Int) t196 _ A25.out).mono ?_
                  rintro e w35 ⟨v197, rfl, ho0, hb⟩
                  refine ⟨_, rfl, ?_⟩
                  have n0_ := Aside0.mk (Kd.R_elder' (by (with_reducible repeat (first | apply Kd.R_alloc | apply Kd.R_drewN | apply Kd.R_drew)); exact HO_5.out) (Kd.R_base ho0) hb)
                  have n1_ := Aside0.mk (Kd.R_lower (Kd.R_new' ho0 (Kd.R_lt (by (with_reducible repeat (first | apply Kd.R_alloc | apply Kd.R_drewN | apply Kd.R_drew)); exact HO_5.out))) (below_size (by repeat (first | (with_reducible first | exact HB.out | apply below_alloc | apply pw_below_drewN | apply below_drew1 | refine below_set ?_ GE181.out | refine below_set ?_ GE194.out) | exact HB.out))))
                  have n2_ := Aside0.mk (blk_below (g := gb181) (o := .cells #[.int .i64 a0_0, .int .i64 a0_1, .slice A0_2 l0_2.length c0_2, .slice (some ad187) l0_3.length c0_3] 72 (0, 0)) (by (with_reducible repeat (first | refine blk_drewN ?_ _ | refine blk_drew ?_ | refine blk_alloc ?_ _)); exact BK181.out) hb)
                  have n3_ := Aside0.mk (blk_below (g := gb194) (o := .cells #[.bool false, .bool false, .bool t190, .int .i64 t191, .int .u64 t192, .int .u64 t193] 111 (0, 0)) (by (with_reducible repeat (first | refine blk_drewN ?_ _ | refine blk_drew ?_ | refine blk_alloc ?_ _)); exact BK194.out) hb)
                  have n4_ := Aside0.mk (below_step (by repeat (first | (with_reducible first | exact HB.out | apply below_alloc | apply pw_below_drewN | apply below_drew1 | refine below_set ?_ GE181.out | refine below_set ?_ GE194.out) | exact HB.out)) hb)
                  clear HO_5
                  clear BK181
                  clear BK194
                  clear HB
                  have HO_5 := n0_
                  have HO198 := n1_
                  have BK181 := n2_
                  have BK194 := n3_
                  have HB := n4_
                  clear n0_ n1_ n2_ n3_ n4_
                  (try clear hb)
                  (try clear hb2)
                  (try clear hk)
                  (try clear hi)
                  (try clear ho0)
                  refine hK.out _ _ ⟨(blk_cell BK194.out 0).trans rfl, (blk_cell BK194.out 1).trans rfl, (blk_cell BK194.out 2).trans rfl, (blk_cell BK194.out 3).trans rfl, (blk_cell BK194.out 4).trans rfl, (blk_cell BK194.out 5).trans rfl, (blk_cell BK181.out 0).trans rfl, (blk_cell BK181.out 1).trans rfl, (blk_cell BK181.out 2).trans rfl, (blk_cell BK181.out 3).trans rfl, ((HB.out.cell (World.block_lt_of_cell? w _ hw195_0)).trans hw195_0), ((HB.out.cell (World.block_lt_of_cell? w _ hw195_1)).trans hw195_1), ((HB.out.cell (World.block_lt_of_cell? w _ hw195_2)).trans hw195_2), ((HB.out.cell (World.block_lt_of_cell? w _ hw195_3)).trans hw195_3)⟩ (fun hHeld => ?_)
                  clear hK K
                  refine norm_ (a' := ?_) ?_ ?_
                  rotate_left
                  · show Act.put _ (some 45) _ = _
                    simp only [Act.put, List.setIfInBounds_toArray, List.set_cons_zero, List.set_cons_succ, i64_w, i32_w]
                    rfl
                  refine one_ (i := 11) (N := some 47) #[true, true, true, true, true, true, true, true, true, true, true, true, false] rfl rfl (one_of HT_.out (by kernel_rfl)) (by decide) (fun K hK => ?_)
                  refine Kd.R_append_rows_step k84 (w0 := w) w.heap.size (by rfl) (.tmp 45) (.tmp 46) 42 84 (.agg #[(.int .u16 0), (.int .u8 0), (.int .u8 0), (.int .u32 0)]) 8 rfl Try.underlying42 info84 rfl (by decide) (by omega) v197 t196 x5_1 _ _ _ (fun k_ => some k_ ≠ (.slice Ao34 x5_1.length co34 : Value).ownBlock) (fun _ => False) rfl rfl ?aO ?aR (fun _ _ h => h) (fun _ h => h.elim) ?aF ?aB ?aS ?aL ?_
                  (case aR => repeat (first | exact (Kd.R_reads' HO_5.out).2.2 | (with_reducible refine Kd.C_alloc ?_ _) | (with_reducible refine Kd.C_drewN ?_ _) | (with_reducible refine Kd.C_drew ?_)))
                  (case aB => exact (by repeat (first | (with_reducible first | exact HB.out | apply below_alloc | apply pw_below_drewN | apply below_drew1 | refine below_set ?_ GE181.out | refine below_set ?_ GE194.out) | exact HB.out)))
                  (case aF => exact (fun k_ hk => Kd.fresh' (Kd.R_lt (by (with_reducible repeat (first | apply Kd.R_alloc | apply Kd.R_drewN | apply Kd.R_drew)); exact HO_5.out)) k_ hk))
                  (case aO => exact (by (with_reducible repeat (first | apply Kd.R_alloc | apply Kd.R_drewN | apply Kd.R_drew)); exact Kd.R_mono HO198.out (fun _ hk => hk.2)))
                  (case aS => exact (below_size (by repeat (first | (with_reducible first | exact HB.out | apply below_alloc | apply pw_below_drewN | apply below_drew1 | refine below_set ?_ GE181.out | refine below_set ?_ GE194.out) | exact HB.out))))
                  (case aL => have := LMc26.out; omega)
                  intro v200 w36 ho hb hg hat
                  rw [← Ny199.out] at ho
                  have n0_ := Aside0.mk (Kd.R_after (ok := (fun _ => True)) (by (with_reducible repeat (first | apply Kd.R_alloc | apply Kd.R_drewN | apply Kd.R_drew)); exact HO_5.out) hg hat)
                  have n1_ := Aside0.mk (blk_grown (g := gb181) (o := .cells #[.int .i64 a0_0, .int .i64 a0_1, .slice A0_2 l0_2.length c0_2, .slice (some ad187) l0_3.length c0_3] 72 (0, 0)) (by (with_reducible repeat (first | refine blk_drewN ?_ _ | refine blk_drew ?_ | refine blk_alloc ?_ _)); exact BK181.out) hg (Kd.R_ne HO198.out BK181.out (by decide)))
                  have n2_ := Aside0.mk (blk_grown (g := gb194) (o := .cells #[.bool false, .bool false, .bool t190, .int .i64 t191, .int .u64 t192, .int .u64 t193] 111 (0, 0)) (by (with_reducible repeat (first | refine blk_drewN ?_ _ | refine blk_drew ?_ | refine blk_alloc ?_ _)); exact BK194.out) hg (Kd.R_ne HO198.out BK194.out (by decide)))
                  have n3_ := Aside0.mk (hb)
                  have n4_ := Aside0.mk (ho)
                  clear HO_5
                  clear BK181
                  clear BK194
                  clear HB
                  clear HO198
                  have HO_5 := n0_
                  have BK181 := n1_
                  have BK194 := n2_
                  have HB := n3_
                  have HO201 := n4_
                  clear n0_ n1_ n2_ n3_ n4_
                  clear ho hb hg hat
                  refine hK.out _ _ ⟨(blk_cell BK194.out 0).trans rfl, (blk_cell BK194.out 1).trans rfl, (blk_cell BK194.out 2).trans rfl, (blk_cell BK194.out 3).trans rfl, (blk_cell BK194.out 4).trans rfl, (blk_cell BK194.out 5).trans rfl, (blk_cell BK181.out 0).trans rfl, (blk_cell BK181.out 1).trans rfl, (blk_cell BK181.out 2).trans rfl, (blk_cell BK181.out 3).trans rfl, ((HB.out.cell (World.block_lt_of_cell? w _ hw195_0)).trans hw195_0), ((HB.out.cell (World.block_lt_of_cell? w _ hw195_1)).trans hw195_1), ((HB.out.cell (World.block_lt_of_cell? w _ hw195_2)).trans hw195_2), ((HB.out.cell (World.block_lt_of_cell? w _ hw195_3)).trans hw195_3)⟩ (fun hHeld => ?_)
                  clear hK K
                  refine norm_ (a' := ?_) ?_ ?_
                  rotate_left
                  · show Act.put _ (some 47) _ = _
                    simp only [Act.put, List.setIfInBounds_toArray, List.set_cons_zero, List.set_cons_succ, i64_w, i32_w]
                    rfl
                  refine pure_ (i := 12) (N := some 5) (v := ?_) (a' := ?_) #[true, true, true, true, true, true, true, true, true, true, true, true, true] rfl rfl (any_of HT_.out (by kernel_rfl)) (fun _ _ _ h => h) (Or.inl ⟨by rfl, ?_⟩) ?_ ?_
                  rotate_left
                  · intro w'
                    go_simp
                    with_reducible rfl
                  rotate_left
                  · simp only [Act.put, List.setIfInBounds_toArray, List.set_cons_zero, List.set_cons_succ, i64_w, i32_w]
                    rfl
                  refine done_ (done_of HT_.out (by kernel_rfl)) ?_
                  try go_wp2
                  go_roundg k1
                  case measure => have := HK1.out; omega
                  case rel => exact ⟨(y199), (wrap64 (x6_1 - 1)), (by first | rfl | (simp; done) | (simp [*]; done)), H', ⟨by have := HK1.out; omega⟩, ⟨by (with_reducible repeat (first | apply Kd.R_alloc | apply Kd.R_drewN | apply Kd.R_drew)); exact Kd.R_mono HO201.out (fun _ hk => trivial)⟩, ⟨by (with_reducible repeat (first | refine blk_drewN ?_ _ | refine blk_drew ?_ | refine blk_alloc ?_ _)); exact BK181.out⟩, ⟨by repeat (first | (with_reducible first | exact HB.out | apply below_alloc | apply pw_below_drewN | apply below_drew1 | refine below_set ?_ GE181.out | refine below_set ?_ GE194.out) | exact HB.out)⟩⟩
                · rw [if_neg c26] at H
                  exact absurd H (by simp)
          · rw [if_neg c11] at H
            exact absurd H (by simp)
        · rw [if_neg c10] at H
          exact absurd H (by simp)
      · rw [if_neg c9] at H
        have c9b0 : decide (0 ≤ x6_1) = false := decide_eq_false c9
        clear c9
        obtain rfl := Option.some.inj H
        go_wp2
        go_ret
        exact ⟨_, by first | rfl | (simp [errW_none, errW_some] <;> rfl) | (simp [*, errW_none, errW_some] <;> rfl), by (with_reducible repeat (first | apply Kd.R_alloc | apply Kd.R_drewN | apply Kd.R_drew)); exact HO_5.out, by repeat (first | (with_reducible first | exact HB.out | apply below_alloc | apply pw_below_drewN | apply below_drew1 | refine below_set ?_ GE181.out) | exact HB.out)⟩
def compile_plan_leaf.f (l0_0 : List Int) (l0_1 : List (List (S84))) (a1 : Int) : Option ((List (S84))) := if 0 ≤ a1 then (if a1 < (l0_1.length : Int) then (if 0 ≤ (wrap64 (((rd_L17 l0_1 a1).length : Int) - 1)) then (if (wrap64 (((rd_L17 l0_1 a1).length : Int) - 1)) < ((rd_L17 l0_1 a1).length : Int) then (if a1 < (l0_0.length : Int) then ((some (([(⟨21, 1, 0, rd l0_0 a1⟩ : S84), (⟨5, 0, 0, (wrap64 (((rd_L17 l0_1 a1).length : Int) - 1)) % 4294967296⟩ : S84)] : List (S84)) : List (S84))).bind fun y207 => (if (wrap64 (((rd_L17 l0_1 a1).length : Int) - 1)) ≤ ((rd_L17 l0_1 a1).length : Int) then ((some ((rd_L17 l0_1 a1).take ((wrap64 (((rd_L17 l0_1 a1).length : Int) - 1)) : Int).toNat : List (S84))).bind fun y210 => (if y207.length + y210.length < 17592186044416 then ((some (y207 ++ y210 : List (S84))).bind fun y214 => ((some (([(⟨(rd_T84 (rd_L17 l0_1 a1) (wrap64 (((rd_L17 l0_1 a1).length : Int) - 1))).f0, (rd_T84 (rd_L17 l0_1 a1) (wrap64 (((rd_L17 l0_1 a1).length : Int) - 1))).f1, (rd_T84 (rd_L17 l0_1 a1) (wrap64 (((rd_L17 l0_1 a1).length : Int) - 1))).f2, (rd_T84 (rd_L17 l0_1 a1) (wrap64 (((rd_L17 l0_1 a1).length : Int) - 1))).f3⟩ : S84)] : List (S84)) : List (S84))).bind fun y217 => (if y214.length + y217.length < 17592186044416 then (some (y214 ++ y217)) else (none)))) else (none))) else (none))) else (none)) else (none)) else (none)) else (none)) else (none)
def compile_plan_leaf.T4 : Bool × List (List Nat × List Nat) := (true, [([], []), ([], []), ([], []), ([2], [2]), ([3], [3]), ([1, 4], [1, 4]), ([0, 5], [0, 5]), ([], []), ([7], [7]), ([6, 8, 6], [6, 8]), ([9, 9, 0, 1, 2, 3, 4, 5, 6, 7, 8, 9], [9])])
def compile_plan_leaf.B4 : List Nat := [0, 0, 0, 4, 12, 30, 63, 0, 128, 511, 1023]
theorem compile_plan_leaf.tab4 : rtab .any (opsOf Try.f44 4) = compile_plan_leaf.T4 := by kernel_rfl
theorem compile_plan_leaf.bits4 : waitsOk compile_plan_leaf.T4.2 compile_plan_leaf.B4 = true := by kernel_rfl
set_option maxHeartbeats 8000000 in
set_option maxRecDepth 100000 in
theorem compile_plan_leaf.calls (A0_0 : Option Addr) (c0_0 : Nat) (l0_0 : List Int) (A0_1 : Option Addr) (c0_1 : Nat) (l0_1 : List (List (S84))) (a1 : Int) (r : List (S84)) (w : World) (hr0_0 : Kd.C (Kd.int .u32) w A0_0 l0_0.length l0_0) (hc0_0 : l0_0.length ≤ c0_0) (hr0_1 : Kd.C (Kd.slice 84 k84) w A0_1 l0_1.length l0_1) (hc0_1 : l0_1.length ≤ c0_1) (h : compile_plan_leaf.f l0_0 l0_1 a1 = some r) :
    Calls Try.prog 44 #[.agg #[.slice A0_0 l0_0.length c0_0, .slice A0_1 l0_1.length c0_1], .int .i64 a1] w fun e w' => ∃ v0_ : Value, e = .returned (v0_) ∧ Kd.R k84 84 w' w.heap.size (fun _ => True) v0_ r ∧ Below w.heap.size w w' := by
  have hu78 := Try.underlying78
  have hu84 := Try.underlying84
  have HR0_0 := Aside0.mk hr0_0
  have HC0_0 := Aside0.mk hc0_0
  clear hr0_0 hc0_0
  have HR0_1 := Aside0.mk hr0_1
  have HC0_1 := Aside0.mk hc0_1
  clear hr0_1 hc0_1
  have HB := Aside0.mk (Below.refl w.heap.size w)
  have H : (if 0 ≤ a1 then (if a1 < (l0_1.length : Int) then (if 0 ≤ (wrap64 (((rd_L17 l0_1 a1).length : Int) - 1)) then (if (wrap64 (((rd_L17 l0_1 a1).length : Int) - 1)) < ((rd_L17 l0_1 a1).length : Int) then (if a1 < (l0_0.length : Int) then ((some (([(⟨21, 1, 0, rd l0_0 a1⟩ : S84), (⟨5, 0, 0, (wrap64 (((rd_L17 l0_1 a1).length : Int) - 1)) % 4294967296⟩ : S84)] : List (S84)) : List (S84))).bind fun y207 => (if (wrap64 (((rd_L17 l0_1 a1).length : Int) - 1)) ≤ ((rd_L17 l0_1 a1).length : Int) then ((some ((rd_L17 l0_1 a1).take ((wrap64 (((rd_L17 l0_1 a1).length : Int) - 1)) : Int).toNat : List (S84))).bind fun y210 => (if y207.length + y210.length < 17592186044416 then ((some (y207 ++ y210 : List (S84))).bind fun y214 => ((some (([(⟨(rd_T84 (rd_L17 l0_1 a1) (wrap64 (((rd_L17 l0_1 a1).length : Int) - 1))).f0, (rd_T84 (rd_L17 l0_1 a1) (wrap64 (((rd_L17 l0_1 a1).length : Int) - 1))).f1, (rd_T84 (rd_L17 l0_1 a1) (wrap64 (((rd_L17 l0_1 a1).length : Int) - 1))).f2, (rd_T84 (rd_L17 l0_1 a1) (wrap64 (((rd_L17 l0_1 a1).length : Int) - 1))).f3⟩ : S84)] : List (S84)) : List (S84))).bind fun y217 => (if y214.length + y217.length < 17592186044416 then (some (y214 ++ y217)) else (none)))) else (none))) else (none))) else (none)) else (none)) else (none)) else (none)) else (none)) = some r := h
  clear h
  by_cases c3 : 0 ≤ a1
  · rw [if_pos c3] at H
    have c3b0 : decide (0 ≤ a1) = true := decide_eq_true c3
    clear c3
    by_cases c4 : a1 < (l0_1.length : Int)
    · rw [if_pos c4] at H
      have c4b0 : decide (a1 < (l0_1.length : Int)) = true := decide_eq_true c4
      clear c4
      obtain ⟨ji5, hji5⟩ : ∃ j_ : Int, (wrap64 (((rd_L17 l0_1 a1).length : Int) - 1)) = j_ := ⟨_, rfl⟩
      replace H : (if 0 ≤ (ji5) then (if (ji5) < ((rd_L17 l0_1 a1).length : Int) then (if a1 < (l0_0.length : Int) then ((some (([(⟨21, 1, 0, rd l0_0 a1⟩ : S84), (⟨5, 0, 0, (ji5) % 4294967296⟩ : S84)] : List (S84)) : List (S84))).bind fun y207 => (if (ji5) ≤ ((rd_L17 l0_1 a1).length : Int) then ((some ((rd_L17 l0_1 a1).take ((ji5) : Int).toNat : List (S84))).bind fun y210 => (if y207.length + y210.length < 17592186044416 then ((some (y207 ++ y210 : List (S84))).bind fun y214 => ((some (([(⟨(rd_T84 (rd_L17 l0_1 a1) (ji5)).f0, (rd_T84 (rd_L17 l0_1 a1) (ji5)).f1, (rd_T84 (rd_L17 l0_1 a1) (ji5)).f2, (rd_T84 (rd_L17 l0_1 a1) (ji5)).f3⟩ : S84)] : List (S84)) : List (S84))).bind fun y217 => (if y214.length + y217.length < 17592186044416 then (some (y214 ++ y217)) else (none)))) else (none))) else (none))) else (none)) else (none)) else (none)) = some r := by first | (rw [hji5] at H; exact H) | (simp only [hji5] at H ⊢; exact H)
      have hji5w : (IntKind.i64.wrap (((rd_L17 l0_1 a1).length : Int) - 1)) = ji5 := (i64_w _).trans hji5
      by_cases c6 : 0 ≤ (ji5)
      · rw [if_pos c6] at H
        have c6b0 : decide (0 ≤ (ji5)) = true := decide_eq_true c6
        clear c6
        by_cases c7 : (ji5) < ((rd_L17 l0_1 a1).length : Int)
        · rw [if_pos c7] at H
          have c7b0 : decide ((ji5) < ((rd_L17 l0_1 a1).length : Int)) = true := decide_eq_true c7
          clear c7
          by_cases c8 : a1 < (l0_0.length : Int)
          · rw [if_pos c8] at H
            have c8b0 : decide (a1 < (l0_0.length : Int)) = true := decide_eq_true c8
            clear c8
            obtain ⟨y207, hy207⟩ : ∃ y_ : List (S84), y_ = (([(⟨21, 1, 0, rd l0_0 a1⟩ : S84), (⟨5, 0, 0, (ji5) % 4294967296⟩ : S84)] : List (S84))) := ⟨_, rfl⟩
            replace H : (if (ji5) ≤ ((rd_L17 l0_1 a1).length : Int) then ((some ((rd_L17 l0_1 a1).take ((ji5) : Int).toNat : List (S84))).bind fun y210 => (if y207.length + y210.length < 17592186044416 then ((some (y207 ++ y210 : List (S84))).bind fun y214 => ((some (([(⟨(rd_T84 (rd_L17 l0_1 a1) (ji5)).f0, (rd_T84 (rd_L17 l0_1 a1) (ji5)).f1, (rd_T84 (rd_L17 l0_1 a1) (ji5)).f2, (rd_T84 (rd_L17 l0_1 a1) (ji5)).f3⟩ : S84)] : List (S84)) : List (S84))).bind fun y217 => (if y214.length + y217.length < 17592186044416 then (some (y214 ++ y217)) else (none)))) else (none))) else (none)) = some r := by first | (rw [hy207]; with_reducible exact H) | (have H2_ := (Option.bind_some _ _).symm.trans H; rw [hy207]; with_reducible exact H2_) | (have H2_ := (Option.bind_some _ _).symm.trans H; with_reducible exact H2_) | with_reducible exact H | (rw [hy207]; exact H) | exact H
            have Ny207 := Aside0.mk hy207
            clear hy207
            have c9b0 := eq_true (of_decide_eq_true (by first | (with_reducible assumption) | assumption) : 0 ≤ (ji5))
            by_cases c10 : (ji5) ≤ ((rd_L17 l0_1 a1).length : Int)
            · rw [if_pos c10] at H
              have c10b0 := eq_true c10
              have c10b1 : decide ((ji5) ≤ ((rd_L17 l0_1 a1).length : Int)) = true := decide_eq_true c10
              clear c10
              obtain ⟨y210, hy210⟩ : ∃ y_ : List (S84), y_ = ((rd_L17 l0_1 a1).take ((ji5) : Int).toNat) := ⟨_, rfl⟩
              replace H : (if y207.length + y210.length < 17592186044416 then ((some (y207 ++ y210 : List (S84))).bind fun y214 => ((some (([(⟨(rd_T84 (rd_L17 l0_1 a1) (ji5)).f0, (rd_T84 (rd_L17 l0_1 a1) (ji5)).f1, (rd_T84 (rd_L17 l0_1 a1) (ji5)).f2, (rd_T84 (rd_L17 l0_1 a1) (ji5)).f3⟩ : S84)] : List (S84)) : List (S84))).bind fun y217 => (if y214.length + y217.length < 17592186044416 then (some (y214 ++ y217)) else (none)))) else (none)) = some r := by first | (rw [hy210]; with_reducible exact H) | (have H2_ := (Option.bind_some _ _).symm.trans H; rw [hy210]; with_reducible exact H2_) | (have H2_ := (Option.bind_some _ _).symm.trans H; with_reducible exact H2_) | with_reducible exact H | (rw [hy210]; exact H) | exact H
              have Ny210 := Aside0.mk hy210
              clear hy210
              by_cases c11 : y207.length + y210.length < 17592186044416
              · rw [if_pos c11] at H
                have LMc11 := Aside0.mk c11
                clear c11
                obtain ⟨y214, hy214⟩ : ∃ y_ : List (S84), y_ = (y207 ++ y210) := ⟨_, rfl⟩
                replace H : ((some (([(⟨(rd_T84 (rd_L17 l0_1 a1) (ji5)).f0, (rd_T84 (rd_L17 l0_1 a1) (ji5)).f1, (rd_T84 (rd_L17 l0_1 a1) (ji5)).f2, (rd_T84 (rd_L17 l0_1 a1) (ji5)).f3⟩ : S84)] : List (S84)) : List (S84))).bind fun y217 => (if y214.length + y217.length < 17592186044416 then (some (y214 ++ y217)) else (none))) = some r := by first | (rw [hy214]; with_reducible exact H) | (have H2_ := (Option.bind_some _ _).symm.trans H; rw [hy214]; with_reducible exact H2_) | (have H2_ := (Option.bind_some _ _).symm.trans H; with_reducible exact H2_) | with_reducible exact H | (rw [hy214]; exact H) | exact H
                have Ny214 := Aside0.mk hy214
                clear hy214
                obtain ⟨y217, hy217⟩ : ∃ y_ : List (S84), y_ = (([(⟨(rd_T84 (rd_L17 l0_1 a1) (ji5)).f0, (rd_T84 (rd_L17 l0_1 a1) (ji5)).f1, (rd_T84 (rd_L17 l0_1 a1) (ji5)).f2, (rd_T84 (rd_L17 l0_1 a1) (ji5)).f3⟩ : S84)] : List (S84))) := ⟨_, rfl⟩
                replace H : (if y214.length + y217.length < 17592186044416 then (some (y214 ++ y217)) else (none)) = some r := by first | (rw [hy217]; with_reducible exact H) | (have H2_ := (Option.bind_some _ _).symm.trans H; rw [hy217]; with_reducible exact H2_) | (have H2_ := (Option.bind_some _ _).symm.trans H; with_reducible exact H2_) | with_reducible exact H | (rw [hy217]; exact H) | exact H
                have Ny217 := Aside0.mk hy217
                clear hy217
                by_cases c12 : y214.length + y217.length < 17592186044416
                · rw [if_pos c12] at H
                  have LMc12 := Aside0.mk c12
                  clear c12
                  obtain ⟨y220, hy220⟩ : ∃ y_ : List (S84), y_ = (y214 ++ y217) := ⟨_, rfl⟩
                  replace H : (some y220) = some r := by first | (rw [hy220]; with_reducible exact H) | (have H2_ := (Option.bind_some _ _).symm.trans H; rw [hy220]; with_reducible exact H2_) | (have H2_ := (Option.bind_some _ _).symm.trans H; with_reducible exact H2_) | with_reducible exact H | (rw [hy220]; exact H) | exact H
                  have Ny220 := Aside0.mk hy220
                  clear hy220
                  obtain rfl := Option.some.inj H
                  go_enter Try.func44, Try.ntmps44
                  try go_wp2_with (first | ((with_reducible refine gate_dst (N := 2) rfl ?_); refine box_event ?hg (N := 2) ?hd (cs := #[.slice A0_0 l0_0.length c0_0, .slice A0_1 l0_1.length c0_1]) (t := 78) ?hr ?_; (case hd => rfl); (case hg => rfl); (case hr => first | (go_simp; done) | (go_simp; rfl)); intro gb202 hg w13 hbox hb; have n0_ := Aside0.mk (below_step (by repeat (first | (with_reducible first | exact HB.out | apply below_alloc | apply pw_below_drewN | apply below_drew1) | exact HB.out)) hb); have n1_ := Aside0.mk (hbox); have n2_ := Aside0.mk ((by rw [hg]; exact (below_size (by repeat (first | (with_reducible first | exact HB.out | apply below_alloc | apply pw_below_drewN | apply below_drew1) | exact HB.out))) : w.heap.size ≤ gb202)); have n3_ := Aside0.mk ((by rw [hg]; exact (below_size (by repeat (first | (with_reducible first | exact HB.out | apply below_alloc | apply pw_below_drewN | apply below_drew1) | exact HB.out))) : w.heap.size ≤ gb202)); clear HB; have HB := n0_; have BK202 := n1_; have GW202 := n2_; have GE202 := n3_; clear n0_ n1_ n2_ n3_; clear hb hbox hg; have hcz14_0 : w13.cell? ⟨gb202, 0, none⟩ = some (.slice A0_0 l0_0.length c0_0) := (blk_cell BK202.out 0).trans rfl; have hcz14_1 : w13.cell? ⟨gb202, 1, none⟩ = some (.slice A0_1 l0_1.length c0_1) := (blk_cell BK202.out 1).trans rfl; have hfz14_0 := blk_frozen BK202.out 0; have hfz14_1 := blk_frozen BK202.out 1; have p203 : 0 ≤ (a1 : Int) := of_decide_eq_true (by first | (with_reducible assumption) | assumption); have q203 : a1 < (l0_1.length : Int) := of_decide_eq_true (by first | (with_reducible assumption) | assumption); obtain ⟨ad203, A203_0, c203_0, e203, hx203_0, hl203_0, hi203_0⟩ := at_L17 HR0_1.out a1 p203 q203; cases e203; replace hx203_0 := (HB.out.cell (World.block_lt_of_cell? w _ hx203_0)).trans hx203_0; have HR203_0 := Aside0.mk hi203_0; have HC203_0 := Aside0.mk hl203_0; clear hi203_0 hl203_0; replace p203 := eq_true p203; replace q203 := eq_true q203; have p204 : 0 ≤ ((ji5) : Int) := of_decide_eq_true (by first | (with_reducible assumption) | assumption); have q204 : (ji5) < ((rd_L17 l0_1 a1).length : Int) := of_decide_eq_true (by first | (with_reducible assumption) | assumption); obtain ⟨ad204, e204, hx204_0, hx204_1, hx204_2, hx204_3⟩ := at_T84 HR203_0.out (ji5) p204 q204; cases e204; replace hx204_0 := (HB.out.cell (World.block_lt_of_cell? w _ hx204_0)).trans hx204_0; replace hx204_1 := (HB.out.cell (World.block_lt_of_cell? w _ hx204_1)).trans hx204_1; replace hx204_2 := (HB.out.cell (World.block_lt_of_cell? w _ hx204_2)).trans hx204_2; replace hx204_3 := (HB.out.cell (World.block_lt_of_cell? w _ hx204_3)).trans hx204_3; replace p204 := eq_true p204; replace q204 := eq_true q204) | ((with_reducible refine gate_dst (N := 6) rfl ?_); refine box_event ?hg (N := 6) ?hd (cs := #[.int .u16 0, .int .u8 0, .int .u8 0, .int .u32 0]) (t := 84) ?hr ?_; (case hd => rfl); (case hg => rfl); (case hr => first | (go_simp; done) | (go_simp; rfl)); intro gb205 hg w15 hbox hb; have n0_ := Aside0.mk (blk_below (g := gb202) (o := .cells #[.slice A0_0 l0_0.length c0_0, .slice (some ad203) l0_1.length c0_1] 78 (0, 0)) (by (with_reducible repeat (first | refine blk_drewN ?_ _ | refine blk_drew ?_ | refine blk_alloc ?_ _)); exact BK202.out) hb); have n1_ := Aside0.mk (below_step (by repeat (first | (with_reducible first | exact HB.out | apply below_alloc | apply pw_below_drewN | apply below_drew1 | refine below_set ?_ GE202.out) | exact HB.out)) hb); have n2_ := Aside0.mk (hbox); have n3_ := Aside0.mk ((by rw [hg]; exact (below_size (by repeat (first | (with_reducible first | exact HB.out | apply below_alloc | apply pw_below_drewN | apply below_drew1 | refine below_set ?_ GE202.out) | exact HB.out))) : w.heap.size ≤ gb205)); have n4_ := Aside0.mk ((by rw [hg]; exact (below_size (by repeat (first | (with_reducible first | exact HB.out | apply below_alloc | apply pw_below_drewN | apply below_drew1 | refine below_set ?_ GE202.out) | exact HB.out))) : w.heap.size ≤ gb205)); have n5_ := Aside0.mk ((by rw [hg]; exact Nat.ne_of_lt (blk_lt (g := gb202) (o := .cells #[.slice A0_0 l0_0.length c0_0, .slice (some ad203) l0_1.length c0_1] 78 (0, 0)) (by (with_reducible repeat (first | refine blk_drewN ?_ _ | refine blk_drew ?_ | refine blk_alloc ?_ _)); exact BK202.out)) : gb202 ≠ gb205)); have n6_ := Aside0.mk ((by rw [hg]; exact Nat.ne_of_gt (blk_lt (g := gb202) (o := .cells #[.slice A0_0 l0_0.length c0_0, .slice (some ad203) l0_1.length c0_1] 78 (0, 0)) (by (with_reducible repeat (first | refine blk_drewN ?_ _ | refine blk_drew ?_ | refine blk_alloc ?_ _)); exact BK202.out)) : gb205 ≠ gb202)); clear BK202; clear HB; have BK202 := n0_; have HB := n1_; have BK205 := n2_; have GW205 := n3_; have GE205 := n4_; have NB202_205 := n5_; have NB205_202 := n6_; clear n0_ n1_ n2_ n3_ n4_ n5_ n6_; clear hb hbox hg; have hnb16 := NB205_202.out; have hnc16 := NB202_205.out; have hcz17_0 : w15.cell? ⟨gb205, 0, none⟩ = some (.int .u16 0) := (blk_cell BK205.out 0).trans rfl; have hcz17_1 : w15.cell? ⟨gb205, 1, none⟩ = some (.int .u8 0) := (blk_cell BK205.out 1).trans rfl; have hcz17_2 : w15.cell? ⟨gb205, 2, none⟩ = some (.int .u8 0) := (blk_cell BK205.out 2).trans rfl; have hcz17_3 : w15.cell? ⟨gb205, 3, none⟩ = some (.int .u32 0) := (blk_cell BK205.out 3).trans rfl; have hfz17_0 := blk_frozen BK205.out 0; have hfz17_1 := blk_frozen BK205.out 1; have hfz17_2 := blk_frozen BK205.out 2; have hfz17_3 := blk_frozen BK205.out 3; have hcz18_0 : w15.cell? ⟨gb202, 0, none⟩ = some (.slice A0_0 l0_0.length c0_0) := (blk_cell BK202.out 0).trans rfl; have hcz18_1 : w15.cell? ⟨gb202, 1, none⟩ = some (.slice (some ad203) l0_1.length c0_1) := (blk_cell BK202.out 1).trans rfl; have hfz18_0 := blk_frozen BK202.out 0; have hfz18_1 := blk_frozen BK202.out 1; have p206 : 0 ≤ (a1 : Int) := of_decide_eq_true (by first | (with_reducible assumption) | assumption); have q206 : a1 < (l0_0.length : Int) := of_decide_eq_true (by first | (with_reducible assumption) | assumption); obtain ⟨ad206, e206, hx206_0⟩ := Kd.at_int HR0_0.out a1 p206 q206; cases e206; have hn206_0 : ad206.block ≠ gb205 := Nat.ne_of_lt (Nat.lt_of_lt_of_le (by have := World.block_lt_of_cell? _ _ hx206_0; first | rwa [add_block] at this | exact this) GW205.out); have hn206_1 : ad206.block ≠ gb205 := Nat.ne_of_lt (Nat.lt_of_lt_of_le (by have := World.block_lt_of_cell? _ _ hx206_0; first | rwa [add_block] at this | exact this) GW205.out); have hn206_2 : ad206.block ≠ gb205 := Nat.ne_of_lt (Nat.lt_of_lt_of_le (by have := World.block_lt_of_cell? _ _ hx206_0; first | rwa [add_block] at this | exact this) GW205.out); have hn206_3 : ad206.block ≠ gb205 := Nat.ne_of_lt (Nat.lt_of_lt_of_le (by have := World.block_lt_of_cell? _ _ hx206_0; first | rwa [add_block] at this | exact this) GW205.out); replace hx206_0 := (HB.out.cell (World.block_lt_of_cell? w _ hx206_0)).trans hx206_0; replace hx206_0 := (cell_far (p := ⟨gb205, 0, none⟩) (by first | (rw [add_block]; exact hn206_0) | (show (Addr.add _ _).block ≠ _; rw [add_block]; exact hn206_0) | exact hn206_0) (.int .u16 ((rd_T84 (rd_L17 l0_1 a1) (ji5)).f0))).trans hx206_0; replace hx206_0 := (cell_far (p := ⟨gb205, 1, none⟩) (by first | (rw [add_block]; exact hn206_1) | (show (Addr.add _ _).block ≠ _; rw [add_block]; exact hn206_1) | exact hn206_1) (.int .u8 ((rd_T84 (rd_L17 l0_1 a1) (ji5)).f1))).trans hx206_0; replace hx206_0 := (cell_far (p := ⟨gb205, 2, none⟩) (by first | (rw [add_block]; exact hn206_2) | (show (Addr.add _ _).block ≠ _; rw [add_block]; exact hn206_2) | exact hn206_2) (.int .u8 ((rd_T84 (rd_L17 l0_1 a1) (ji5)).f2))).trans hx206_0; replace hx206_0 := (cell_far (p := ⟨gb205, 3, none⟩) (by first | (rw [add_block]; exact hn206_3) | (show (Addr.add _ _).block ≠ _; rw [add_block]; exact hn206_3) | exact hn206_3) (.int .u32 ((rd_T84 (rd_L17 l0_1 a1) (ji5)).f3))).trans hx206_0; clear hn206_0; clear hn206_1; clear hn206_2; clear hn206_3; replace p206 := eq_true p206; replace q206 := eq_true q206) | ((with_reducible refine gate_dst (N := 30) rfl ?_); refine Kd.R_lit k84 _ 84 ?hg (N := 30) ?hd (xs := ([(⟨21, 1, 0, rd l0_0 a1⟩ : S84), (⟨5, 0, 0, (ji5) % 4294967296⟩ : S84)] : List (S84))) (inner := [.int .u16 21, .int .u8 1, .int .u8 0, .int .u32 (rd l0_0 a1), .int .u16 5, .int .u8 0, .int .u8 0, .int .u32 ((ji5) % 4294967296)]) (ok := fun _ => True) (okp := fun _ => True) ?hr ?hp (fun _ hk => hk) trivial (Below.refl _ _) (Nat.le_refl _) (by simp) ?_; (case hd => rfl); (case hg => rfl); (case hr => first | (go_simp; done) | (go_simp; rfl)); (case hp => exact (Reps.c4 (show Kd.M k84 _ _ _ (⟨21, 1, 0, rd l0_0 a1⟩ : S84) [.int .u16 21, .int .u8 1, .int .u8 0, .int .u32 (rd l0_0 a1)] from (k84_mkM _ _ _ (⟨21, 1, 0, rd l0_0 a1⟩ : S84) )) (Reps.c4 (show Kd.M k84 _ _ _ (⟨5, 0, 0, (ji5) % 4294967296⟩ : S84) [.int .u16 5, .int .u8 0, .int .u8 0, .int .u32 ((ji5) % 4294967296)] from (k84_mkM _ _ _ (⟨5, 0, 0, (ji5) % 4294967296⟩ : S84) )) (Reps.none _ _)))); intro v208 w19 ho20 hb hg_ hnew_; clear hg_ hnew_; (first | rw [← Ny207.out] at ho20 | (simp only [Int.reduceToNat] at ho20; rw [← Ny207.out] at ho20)); have n0_ := Aside0.mk (Kd.R_lower (Kd.R_newB ho20 (g := gb205) (o := .cells #[.int .u16 ((rd_T84 (rd_L17 l0_1 a1) (ji5)).f0), .int .u8 ((rd_T84 (rd_L17 l0_1 a1) (ji5)).f1), .int .u8 ((rd_T84 (rd_L17 l0_1 a1) (ji5)).f2), .int .u32 ((rd_T84 (rd_L17 l0_1 a1) (ji5)).f3)] 84 (0, 0)) (by (with_reducible repeat (first | refine blk_drewN ?_ _ | refine blk_drew ?_ | refine blk_alloc ?_ _)); refine blk_put (cs := #[.int .u16 ((rd_T84 (rd_L17 l0_1 a1) (ji5)).f0), .int .u8 ((rd_T84 (rd_L17 l0_1 a1) (ji5)).f1), .int .u8 ((rd_T84 (rd_L17 l0_1 a1) (ji5)).f2), .int .u32 0]) ?_ 3 _ rfl; (with_reducible repeat (first | refine blk_drewN ?_ _ | refine blk_drew ?_ | refine blk_alloc ?_ _)); refine blk_put (cs := #[.int .u16 ((rd_T84 (rd_L17 l0_1 a1) (ji5)).f0), .int .u8 ((rd_T84 (rd_L17 l0_1 a1) (ji5)).f1), .int .u8 0, .int .u32 0]) ?_ 2 _ rfl; (with_reducible repeat (first | refine blk_drewN ?_ _ | refine blk_drew ?_ | refine blk_alloc ?_ _)); refine blk_put (cs := #[.int .u16 ((rd_T84 (rd_L17 l0_1 a1) (ji5)).f0), .int .u8 0, .int .u8 0, .int .u32 0]) ?_ 1 _ rfl; (with_reducible repeat (first | refine blk_drewN ?_ _ | refine blk_drew ?_ | refine blk_alloc ?_ _)); refine blk_put (cs := #[.int .u16 0, .int .u8 0, .int .u8 0, .int .u32 0]) ?_ 0 _ rfl; (with_reducible repeat (first | refine blk_drewN ?_ _ | refine blk_drew ?_ | refine blk_alloc ?_ _)); exact BK205.out)) (below_size (by repeat (first | (with_reducible first | exact HB.out | apply below_alloc | apply pw_below_drewN | apply below_drew1 | refine below_set ?_ GE202.out | refine below_set ?_ GE205.out) | exact HB.out)))); have n1_ := Aside0.mk (blk_below (g := gb202) (o := .cells #[.slice (some ad206) l0_0.length c0_0, .slice (some ad203) l0_1.length c0_1] 78 (0, 0)) (by (with_reducible repeat (first | refine blk_drewN ?_ _ | refine blk_drew ?_ | refine blk_alloc ?_ _)); refine blk_far ?_ NB202_205.out _; (with_reducible repeat (first | refine blk_drewN ?_ _ | refine blk_drew ?_ | refine blk_alloc ?_ _)); refine blk_far ?_ NB202_205.out _; (with_reducible repeat (first | refine blk_drewN ?_ _ | refine blk_drew ?_ | refine blk_alloc ?_ _)); refine blk_far ?_ NB202_205.out _; (with_reducible repeat (first | refine blk_drewN ?_ _ | refine blk_drew ?_ | refine blk_alloc ?_ _)); refine blk_far ?_ NB202_205.out _; (with_reducible repeat (first | refine blk_drewN ?_ _ | refine blk_drew ?_ | refine blk_alloc ?_ _)); exact BK202.out) hb); have n2_ := Aside0.mk (blk_below (g := gb205) (o := .cells #[.int .u16 ((rd_T84 (rd_L17 l0_1 a1) (ji5)).f0), .int .u8 ((rd_T84 (rd_L17 l0_1 a1) (ji5)).f1), .int .u8 ((rd_T84 (rd_L17 l0_1 a1) (ji5)).f2), .int .u32 ((rd_T84 (rd_L17 l0_1 a1) (ji5)).f3)] 84 (0, 0)) (by (with_reducible repeat (first | refine blk_drewN ?_ _ | refine blk_drew ?_ | refine blk_alloc ?_ _)); refine blk_put (cs := #[.int .u16 ((rd_T84 (rd_L17 l0_1 a1) (ji5)).f0), .int .u8 ((rd_T84 (rd_L17 l0_1 a1) (ji5)).f1), .int .u8 ((rd_T84 (rd_L17 l0_1 a1) (ji5)).f2), .int .u32 0]) ?_ 3 _ rfl; (with_reducible repeat (first | refine blk_drewN ?_ _ | refine blk_drew ?_ | refine blk_alloc ?_ _)); refine blk_put (cs := #[.int .u16 ((rd_T84 (rd_L17 l0_1 a1) (ji5)).f0), .int .u8 ((rd_T84 (rd_L17 l0_1 a1) (ji5)).f1), .int .u8 0, .int .u32 0]) ?_ 2 _ rfl; (with_reducible repeat (first | refine blk_drewN ?_ _ | refine blk_drew ?_ | refine blk_alloc ?_ _)); refine blk_put (cs := #[.int .u16 ((rd_T84 (rd_L17 l0_1 a1) (ji5)).f0), .int .u8 0, .int .u8 0, .int .u32 0]) ?_ 1 _ rfl; (with_reducible repeat (first | refine blk_drewN ?_ _ | refine blk_drew ?_ | refine blk_alloc ?_ _)); refine blk_put (cs := #[.int .u16 0, .int .u8 0, .int .u8 0, .int .u32 0]) ?_ 0 _ rfl; (with_reducible repeat (first | refine blk_drewN ?_ _ | refine blk_drew ?_ | refine blk_alloc ?_ _)); exact BK205.out) hb); have n3_ := Aside0.mk (below_step (by repeat (first | (with_reducible first | exact HB.out | apply below_alloc | apply pw_below_drewN | apply below_drew1 | refine below_set ?_ GE202.out | refine below_set ?_ GE205.out) | exact HB.out)) hb); clear BK202; clear BK205; clear HB; have HO209 := n0_; have BK202 := n1_; have BK205 := n2_; have HB := n3_; clear n0_ n1_ n2_ n3_; clear hb ho20; obtain ⟨Ao21, co21, eo21⟩ := Kd.R_slice HO209.out; subst eo21))
                  have n0_ := Aside0.mk (Kd.R_drew HO209.out)
                  have n1_ := Aside0.mk (blk_drew BK202.out)
                  have n2_ := Aside0.mk (blk_drew BK205.out)
                  have n3_ := Aside0.mk (below_drew1 HB.out)
                  clear HO209
                  clear BK202
                  clear BK205
                  clear HB
                  have HO209 := n0_
                  have BK202 := n1_
                  have BK205 := n2_
                  have HB := n3_
                  clear n0_ n1_ n2_ n3_
                  have q23 : ((ji5) : Int) ≤ (((rd_L17 l0_1 a1).length : Int) : Int) := of_decide_eq_true (by first | (with_reducible assumption) | assumption)
                  obtain ⟨i023, hi023, _, hsz23, _⟩ := info_parts info84
                  have hroom23 : (rd_L17 l0_1 a1).length ≤ c203_0 := HC203_0.out
                  have hC23 : Kd.C k84 _ (some ad204) (rd_L17 l0_1 a1).length (rd_L17 l0_1 a1) := HR203_0.out
                  have hcut23 := cut_to (P := Try.prog) 42 84 .i64 Try.underlying42 hi023 (some ad204) (rd_L17 l0_1 a1).length c203_0 (ji5) (of_decide_eq_true (by first | (with_reducible assumption) | assumption)) q23 hroom23
                  have hr23 := Kd.C_take (m := ((ji5) : Int).toNat) hC23 (by omega)
                  have hy23 : y210.length = ((ji5) : Int).toNat := (by rw [Ny210.out, List.length_take]; omega)
                  rw [← Ny210.out] at hr23
                  rw [← hy23] at hcut23
                  have HR213 := Aside0.mk hr23
                  have HC213 := Aside0.mk (show y210.length ≤ c203_0 from by omega)
                  clear hr23 hC23 hroom23 hi023 hsz23
                  have KY23 := Aside0.mk hy23
                  clear hy23
                  replace q23 := eq_true q23
                  refine start_ (n := 11) (S := fun w' => w'.cell? ⟨gb205, 0, none⟩ = some (.int .u16 ((rd_T84 (rd_L17 l0_1 a1) (ji5)).f0)) ∧ w'.cell? ⟨gb205, 1, none⟩ = some (.int .u8 ((rd_T84 (rd_L17 l0_1 a1) (ji5)).f1)) ∧ w'.cell? ⟨gb205, 2, none⟩ = some (.int .u8 ((rd_T84 (rd_L17 l0_1 a1) (ji5)).f2)) ∧ w'.cell? ⟨gb205, 3, none⟩ = some (.int .u32 ((rd_T84 (rd_L17 l0_1 a1) (ji5)).f3))) (ds := []) #[false, false, false, false, false, false, false, false, false, false, false] (by kernel_rfl) rfl rfl ⟨(blk_cell BK205.out 0).trans rfl, (blk_cell BK205.out 1).trans rfl, (blk_cell BK205.out 2).trans rfl, (blk_cell BK205.out 3).trans rfl⟩ (fun hHeld => ?_); refine with_tabW compile_plan_leaf.tab4 compile_plan_leaf.bits4 (fun HT_ HW_ => ?_)
                  generalize w19.drew = w22 at HO209 BK202 BK205 HB HR213 hHeld ⊢
                  refine pure_ (i := 0) (N := some 31) (v := ?_) (a' := ?_) #[true, false, false, false, false, false, false, false, false, false, false] rfl rfl (any_of HT_.out (by kernel_rfl)) (fun _ _ _ h => h) (Or.inl ⟨by rfl, ?_⟩) ?_ ?_
                  rotate_left
                  · intro w'
                    go_simp
                    with_reducible rfl
                  rotate_left
                  · simp only [Act.put, List.setIfInBounds_toArray, List.set_cons_zero, List.set_cons_succ, i64_w, i32_w]
                    rfl
                  refine pure_ (i := 1) (N := some 32) (v := ?_) (a' := ?_) #[true, true, false, false, false, false, false, false, false, false, false] rfl rfl (any_of HT_.out (by kernel_rfl)) (fun _ _ _ h => h) (Or.inl ⟨by rfl, ?_⟩) ?_ ?_
                  rotate_left
                  · intro w'
                    go_simp
                    with_reducible rfl
                  rotate_left
                  · simp only [Act.put, List.setIfInBounds_toArray, List.set_cons_zero, List.set_cons_succ, i64_w, i32_w]
                    rfl
                  refine pure_ (i := 2) (N := some 33) (v := ?_) (a' := ?_) #[true, true, true, false, false, false, false, false, false, false, false] rfl rfl (any_of HT_.out (by kernel_rfl)) (fun _ _ _ h => h) (Or.inl ⟨by rfl, ?_⟩) ?_ ?_
                  rotate_left
                  · intro w'
                    go_simp
                    with_reducible rfl
                  rotate_left
                  · simp only [Act.put, List.setIfInBounds_toArray, List.set_cons_zero, List.set_cons_succ, i64_w, i32_w]
                    rfl
                  refine pure_ (i := 3) (N := some 34) (v := ?_) (a' := ?_) #[true, true, true, true, false, false, false, false, false, false, false] rfl rfl (any_of HT_.out (by kernel_rfl)) (fun _ _ _ h => h) (Or.inl ⟨by rfl, ?_⟩) ?_ ?_
                  rotate_left
                  · intro w'
                    go_simp
                    with_reducible rfl
                  rotate_left
                  · simp only [Act.put, List.setIfInBounds_toArray, List.set_cons_zero, List.set_cons_succ, i64_w, i32_w]
                    rfl
                  refine pure_ (i := 4) (N := some 35) (v := ?_) (a' := ?_) #[true, true, true, true, true, false, false, false, false, false, false] rfl rfl (any_of HT_.out (by kernel_rfl)) (fun _ _ _ h => h) (Or.inl ⟨by rfl, ?_⟩) ?_ ?_
                  rotate_left
                  · intro w'
                    go_simp
                    with_reducible rfl
                  rotate_left
                  · simp only [Act.put, List.setIfInBounds_toArray, List.set_cons_zero, List.set_cons_succ, i64_w, i32_w]
                    rfl
                  refine pure_ (i := 5) (N := some 36) (v := ?_) (a' := ?_) #[true, true, true, true, true, true, false, false, false, false, false] rfl rfl (any_of HT_.out (by kernel_rfl)) (fun _ _ _ h => h) (Or.inl ⟨by rfl, ?_⟩) ?_ ?_
                  rotate_left
                  · intro w'
                    go_simp
                    with_reducible rfl
                  rotate_left
                  · simp only [Act.put, List.setIfInBounds_toArray, List.set_cons_zero, List.set_cons_succ, i64_w, i32_w]
                    rfl
                  refine take_ (i := 7) (N := some 38) (v := ?_) (a' := ?_) #[true, true, true, true, true, true, false, true, false, false, false] rfl rfl (take_ofW HT_.out HW_.out (by kernel_rfl)) (fun _ _ _ h => h) (Or.inl ⟨by rfl, ?_⟩) hHeld ?_ ?_
                  rotate_left
                  · rintro w' ⟨s0, s1, s2, s3⟩
                    go_simp
                    with_reducible rfl
                  rotate_left
                  · simp only [Act.put, List.setIfInBounds_toArray, List.set_cons_zero, List.set_cons_succ, i64_w, i32_w]
                    rfl
                  refine join_ (σ := Value × Value) 2 #[true, true, true, true, true, true, true, true, true, false, false] (fun s_ => [(37, s_.1), (39, s_.2)]) (fun s_ w' => (w'.cell? ⟨gb205, 0, none⟩ = some (.int .u16 ((rd_T84 (rd_L17 l0_1 a1) (ji5)).f0)) ∧ w'.cell? ⟨gb205, 1, none⟩ = some (.int .u8 ((rd_T84 (rd_L17 l0_1 a1) (ji5)).f1)) ∧ w'.cell? ⟨gb205, 2, none⟩ = some (.int .u8 ((rd_T84 (rd_L17 l0_1 a1) (ji5)).f2)) ∧ w'.cell? ⟨gb205, 3, none⟩ = some (.int .u32 ((rd_T84 (rd_L17 l0_1 a1) (ji5)).f3))) ∧ (Kd.R k84 84 w' w.heap.size (fun k_ => some k_ ≠ (s_.2 : Value).ownBlock ∧ k_ ≠ gb205) s_.1 y214) ∧ (Kd.R k84 84 w' w.heap.size (fun k_ => some k_ ≠ (s_.1 : Value).ownBlock ∧ k_ ≠ gb205) s_.2 y217) ∧ (w'.heap[gb202]? = some (.cells #[.slice (some ad206) l0_0.length c0_0, .slice (some ad203) l0_1.length c0_1] 78 (0, 0))) ∧ (w'.heap[gb205]? = some (.cells #[.int .u16 ((rd_T84 (rd_L17 l0_1 a1) (ji5)).f0), .int .u8 ((rd_T84 (rd_L17 l0_1 a1) (ji5)).f1), .int .u8 ((rd_T84 (rd_L17 l0_1 a1) (ji5)).f2), .int .u32 ((rd_T84 (rd_L17 l0_1 a1) (ji5)).f3)] 84 (0, 0))) ∧ (Below w.heap.size w w')) ?_ ?_
                  rotate_left
                  · intro hCont
                    refine two_ (i := 6) (j := 8) (Ni := some 37) (Nj := some 39) #[true, true, true, true, true, true, true, true, false, false, false] #[true, true, true, true, true, true, false, true, true, false, false] rfl rfl rfl rfl (two_of HT_.out (by kernel_rfl)) (by decide) (by decide) (fun K hK => ?_) (fun K hK => ?_)
                    · skip
                      refine Kd.R_append_rows_step k84 (w0 := w) w.heap.size (by rfl) (.tmp 31) (.tmp 36) 42 84 (.agg #[(.int .u16 0), (.int .u8 0), (.int .u8 0), (.int .u32 0)]) 8 rfl Try.underlying42 info84 rfl (by decide) (by omega) (.slice Ao21 y207.length co21) y207 y210 _ _ _ (fun k_ => k_ ≠ gb205) (fun _ => False) rfl rfl ?aO ?aR (fun _ _ h => h) (fun _ h => h.elim) ?aF ?aB ?aS ?aL ?_
                      (case aR => repeat (first | exact (Kd.C_below HR213.out HB.out) | (with_reducible refine Kd.C_alloc ?_ _) | (with_reducible refine Kd.C_drewN ?_ _) | (with_reducible refine Kd.C_drew ?_)))
                      (case aB => exact (by repeat (first | (with_reducible first | exact HB.out | apply below_alloc | apply pw_below_drewN | apply below_drew1 | refine below_set ?_ GE202.out | refine below_set ?_ GE205.out) | exact HB.out)))
                      (case aF => exact (fun k_ hk => Kd.freshB (g := gb205) (o := .cells #[.int .u16 ((rd_T84 (rd_L17 l0_1 a1) (ji5)).f0), .int .u8 ((rd_T84 (rd_L17 l0_1 a1) (ji5)).f1), .int .u8 ((rd_T84 (rd_L17 l0_1 a1) (ji5)).f2), .int .u32 ((rd_T84 (rd_L17 l0_1 a1) (ji5)).f3)] 84 (0, 0)) (by (with_reducible repeat (first | refine blk_drewN ?_ _ | refine blk_drew ?_ | refine blk_alloc ?_ _)); exact BK205.out) k_ hk))
                      (case aO => exact (by (with_reducible repeat (first | apply Kd.R_alloc | apply Kd.R_drewN | apply Kd.R_drew)); exact Kd.R_mono HO209.out (fun _ hk => hk.2)))
                      (case aS => exact (below_size (by repeat (first | (with_reducible first | exact HB.out | apply below_alloc | apply pw_below_drewN | apply below_drew1 | refine below_set ?_ GE202.out | refine below_set ?_ GE205.out) | exact HB.out))))
                      (case aL => have := LMc11.out; omega)
                      intro v215 w24 ho hb hg hat
                      rw [← Ny214.out] at ho
                      have n0_ := Aside0.mk (blk_grown (g := gb202) (o := .cells #[.slice (some ad206) l0_0.length c0_0, .slice (some ad203) l0_1.length c0_1] 78 (0, 0)) (by (with_reducible repeat (first | refine blk_drewN ?_ _ | refine blk_drew ?_ | refine blk_alloc ?_ _)); exact BK202.out) hg (Kd.R_ne HO209.out BK202.out (by decide)))
                      have n1_ := Aside0.mk (blk_grown (g := gb205) (o := .cells #[.int .u16 ((rd_T84 (rd_L17 l0_1 a1) (ji5)).f0), .int .u8 ((rd_T84 (rd_L17 l0_1 a1) (ji5)).f1), .int .u8 ((rd_T84 (rd_L17 l0_1 a1) (ji5)).f2), .int .u32 ((rd_T84 (rd_L17 l0_1 a1) (ji5)).f3)] 84 (0, 0)) (by (with_reducible repeat (first | refine blk_drewN ?_ _ | refine blk_drew ?_ | refine blk_alloc ?_ _)); exact BK205.out) hg (Kd.R_away HO209.out (fun _ hk => hk.2)))
                      have n2_ := Aside0.mk (hb)
                      have n3_ := Aside0.mk (ho)
                      clear BK202
                      clear BK205
                      clear HB
                      clear HO209
                      have BK202 := n0_
                      have BK205 := n1_
                      have HB := n2_
                      have HO216 := n3_
                      clear n0_ n1_ n2_ n3_
                      clear ho hb hg hat
                      refine hK.out _ _ ⟨(blk_cell BK205.out 0).trans rfl, (blk_cell BK205.out 1).trans rfl, (blk_cell BK205.out 2).trans rfl, (blk_cell BK205.out 3).trans rfl⟩ (fun hHeld => ?_)
                      clear hK K
                      refine norm_ (a' := ?_) ?_ ?_
                      rotate_left
                      · show Act.put _ (some 37) _ = _
                        simp only [Act.put, List.setIfInBounds_toArray, List.set_cons_zero, List.set_cons_succ, i64_w, i32_w]
                        rfl
                      refine one_ (i := 8) (N := some 39) #[true, true, true, true, true, true, true, true, true, false, false] rfl rfl (one_of HT_.out (by kernel_rfl)) (by decide) (fun K hK => ?_)
                      refine Kd.R_lit_step k84 _ 84 ?hg (N := 39) ?hd (xs := ([(⟨(rd_T84 (rd_L17 l0_1 a1) (ji5)).f0, (rd_T84 (rd_L17 l0_1 a1) (ji5)).f1, (rd_T84 (rd_L17 l0_1 a1) (ji5)).f2, (rd_T84 (rd_L17 l0_1 a1) (ji5)).f3⟩ : S84)] : List (S84))) (inner := [.int .u16 ((rd_T84 (rd_L17 l0_1 a1) (ji5)).f0), .int .u8 ((rd_T84 (rd_L17 l0_1 a1) (ji5)).f1), .int .u8 ((rd_T84 (rd_L17 l0_1 a1) (ji5)).f2), .int .u32 ((rd_T84 (rd_L17 l0_1 a1) (ji5)).f3)]) (ok := fun _ => True) (okp := fun _ => True) ?hr ?hp (fun _ hk => hk) trivial (Below.refl _ _) (Nat.le_refl _) (by simp) ?_; (case hd => rfl); (case hg => rfl); (case hr => first | (go_simp; done) | (go_simp; rfl)); (case hp => exact (Reps.c4 (show Kd.M k84 _ _ _ (⟨(rd_T84 (rd_L17 l0_1 a1) (ji5)).f0, (rd_T84 (rd_L17 l0_1 a1) (ji5)).f1, (rd_T84 (rd_L17 l0_1 a1) (ji5)).f2, (rd_T84 (rd_L17 l0_1 a1) (ji5)).f3⟩ : S84) [.int .u16 ((rd_T84 (rd_L17 l0_1 a1) (ji5)).f0), .int .u8 ((rd_T84 (rd_L17 l0_1 a1) (ji5)).f1), .int .u8 ((rd_T84 (rd_L17 l0_1 a1) (ji5)).f2), .int .u32 ((rd_T84 (rd_L17 l0_1 a1) (ji5)).f3)] from (k84_mkM _ _ _ (⟨(rd_T84 (rd_L17 l0_1 a1) (ji5)).f0, (rd_T84 (rd_L17 l0_1 a1) (ji5)).f1, (rd_T84 (rd_L17 l0_1 a1) (ji5)).f2, (rd_T84 (rd_L17 l0_1 a1) (ji5)).f3⟩ : S84) )) (Reps.none _ _)))
                      intro v218 w25 ho26 hb hg_ hnew_
                      clear hg_ hnew_
                      (first | rw [← Ny217.out] at ho26 | (simp only [Int.reduceToNat] at ho26; rw [← Ny217.out] at ho26))
                      have n0_ := Aside0.mk (Kd.R_elder' (by (with_reducible repeat (first | apply Kd.R_alloc | apply Kd.R_drewN | apply Kd.R_drew)); exact HO216.out) (Kd.R_base ho26) hb)
                      have n1_ := Aside0.mk (Kd.R_lower (Kd.R_newB (Kd.R_new' ho26 (Kd.R_lt (by (with_reducible repeat (first | apply Kd.R_alloc | apply Kd.R_drewN | apply Kd.R_drew)); exact HO216.out))) (g := gb205) (o := .cells #[.int .u16 ((rd_T84 (rd_L17 l0_1 a1) (ji5)).f0), .int .u8 ((rd_T84 (rd_L17 l0_1 a1) (ji5)).f1), .int .u8 ((rd_T84 (rd_L17 l0_1 a1) (ji5)).f2), .int .u32 ((rd_T84 (rd_L17 l0_1 a1) (ji5)).f3)] 84 (0, 0)) (by (with_reducible repeat (first | refine blk_drewN ?_ _ | refine blk_drew ?_ | refine blk_alloc ?_ _)); exact BK205.out)) (below_size (by repeat (first | (with_reducible first | exact HB.out | apply below_alloc | apply pw_below_drewN | apply below_drew1 | refine below_set ?_ GE202.out | refine below_set ?_ GE205.out) | exact HB.out))))
                      have n2_ := Aside0.mk (blk_below (g := gb202) (o := .cells #[.slice (some ad206) l0_0.length c0_0, .slice (some ad203) l0_1.length c0_1] 78 (0, 0)) (by (with_reducible repeat (first | refine blk_drewN ?_ _ | refine blk_drew ?_ | refine blk_alloc ?_ _)); exact BK202.out) hb)
                      have n3_ := Aside0.mk (blk_below (g := gb205) (o := .cells #[.int .u16 ((rd_T84 (rd_L17 l0_1 a1) (ji5)).f0), .int .u8 ((rd_T84 (rd_L17 l0_1 a1) (ji5)).f1), .int .u8 ((rd_T84 (rd_L17 l0_1 a1) (ji5)).f2), .int .u32 ((rd_T84 (rd_L17 l0_1 a1) (ji5)).f3)] 84 (0, 0)) (by (with_reducible repeat (first | refine blk_drewN ?_ _ | refine blk_drew ?_ | refine blk_alloc ?_ _)); exact BK205.out) hb)
                      have n4_ := Aside0.mk (below_step (by repeat (first | (with_reducible first | exact HB.out | apply below_alloc | apply pw_below_drewN | apply below_drew1 | refine below_set ?_ GE202.out | refine below_set ?_ GE205.out) | exact HB.out)) hb)
                      clear HO216
                      clear BK202
                      clear BK205
                      clear HB
                      have HO216 := n0_
                      have HO219 := n1_
                      have BK202 := n2_
                      have BK205 := n3_
                      have HB := n4_
                      clear n0_ n1_ n2_ n3_ n4_
                      clear hb ho26
                      refine hK.out _ _ ⟨(blk_cell BK205.out 0).trans rfl, (blk_cell BK205.out 1).trans rfl, (blk_cell BK205.out 2).trans rfl, (blk_cell BK205.out 3).trans rfl⟩ (fun hHeld => ?_)
                      clear hK K
                      refine norm_ (a' := ?_) ?_ ?_
                      rotate_left
                      · show Act.put _ (some 39) _ = _
                        simp only [Act.put, List.setIfInBounds_toArray, List.set_cons_zero, List.set_cons_succ, i64_w, i32_w]
                        rfl
                      exact norm_ (by simp only [putAll, Act.put, List.setIfInBounds_toArray, List.set_cons_zero, List.set_cons_succ]) (hCont (v215, v218) _ ⟨hHeld, (by (with_reducible repeat (first | apply Kd.R_alloc | apply Kd.R_drewN | apply Kd.R_drew)); exact Kd.R_mono HO216.out (fun _ hk => ⟨hk.2, hk.1⟩)), (by (with_reducible repeat (first | apply Kd.R_alloc | apply Kd.R_drewN | apply Kd.R_drew)); exact Kd.R_mono HO219.out (fun _ hk => ⟨hk.1.2, hk.2⟩)), (by (with_reducible repeat (first | refine blk_drewN ?_ _ | refine blk_drew ?_ | refine blk_alloc ?_ _)); exact BK202.out), (by (with_reducible repeat (first | refine blk_drewN ?_ _ | refine blk_drew ?_ | refine blk_alloc ?_ _)); exact BK205.out), (by repeat (first | (with_reducible first | exact HB.out | apply below_alloc | apply pw_below_drewN | apply below_drew1 | refine below_set ?_ GE202.out | refine below_set ?_ GE205.out) | exact HB.out))⟩)
                    · skip
                      refine Kd.R_lit_step k84 _ 84 ?hg (N := 39) ?hd (xs := ([(⟨(rd_T84 (rd_L17 l0_1 a1) (ji5)).f0, (rd_T84 (rd_L17 l0_1 a1) (ji5)).f1, (rd_T84 (rd_L17 l0_1 a1) (ji5)).f2, (rd_T84 (rd_L17 l0_1 a1) (ji5)).f3⟩ : S84)] : List (S84))) (inner := [.int .u16 ((rd_T84 (rd_L17 l0_1 a1) (ji5)).f0), .int .u8 ((rd_T84 (rd_L17 l0_1 a1) (ji5)).f1), .int .u8 ((rd_T84 (rd_L17 l0_1 a1) (ji5)).f2), .int .u32 ((rd_T84 (rd_L17 l0_1 a1) (ji5)).f3)]) (ok := fun _ => True) (okp := fun _ => True) ?hr ?hp (fun _ hk => hk) trivial (Below.refl _ _) (Nat.le_refl _) (by simp) ?_; (case hd => rfl); (case hg => rfl); (case hr => first | (go_simp; done) | (go_simp; rfl)); (case hp => exact (Reps.c4 (show Kd.M k84 _ _ _ (⟨(rd_T84 (rd_L17 l0_1 a1) (ji5)).f0, (rd_T84 (rd_L17 l0_1 a1) (ji5)).f1, (rd_T84 (rd_L17 l0_1 a1) (ji5)).f2, (rd_T84 (rd_L17 l0_1 a1) (ji5)).f3⟩ : S84) [.int .u16 ((rd_T84 (rd_L17 l0_1 a1) (ji5)).f0), .int .u8 ((rd_T84 (rd_L17 l0_1 a1) (ji5)).f1), .int .u8 ((rd_T84 (rd_L17 l0_1 a1) (ji5)).f2), .int .u32 ((rd_T84 (rd_L17 l0_1 a1) (ji5)).f3)] from (k84_mkM _ _ _ (⟨(rd_T84 (rd_L17 l0_1 a1) (ji5)).f0, (rd_T84 (rd_L17 l0_1 a1) (ji5)).f1, (rd_T84 (rd_L17 l0_1 a1) (ji5)).f2, (rd_T84 (rd_L17 l0_1 a1) (ji5)).f3⟩ : S84) )) (Reps.none _ _)))
                      intro v218 w24 ho25 hb hg_ hnew_
                      clear hg_ hnew_
                      (first | rw [← Ny217.out] at ho25 | (simp only [Int.reduceToNat] at ho25; rw [← Ny217.out] at ho25))
                      have n0_ := Aside0.mk (Kd.R_elder' (by (with_reducible repeat (first | apply Kd.R_alloc | apply Kd.R_drewN | apply Kd.R_drew)); exact HO209.out) (Kd.R_base ho25) hb)
                      have n1_ := Aside0.mk (Kd.R_lower (Kd.R_newB (Kd.R_new' ho25 (Kd.R_lt (by (with_reducible repeat (first | apply Kd.R_alloc | apply Kd.R_drewN | apply Kd.R_drew)); exact HO209.out))) (g := gb205) (o := .cells #[.int .u16 ((rd_T84 (rd_L17 l0_1 a1) (ji5)).f0), .int .u8 ((rd_T84 (rd_L17 l0_1 a1) (ji5)).f1), .int .u8 ((rd_T84 (rd_L17 l0_1 a1) (ji5)).f2), .int .u32 ((rd_T84 (rd_L17 l0_1 a1) (ji5)).f3)] 84 (0, 0)) (by (with_reducible repeat (first | refine blk_drewN ?_ _ | refine blk_drew ?_ | refine blk_alloc ?_ _)); exact BK205.out)) (below_size (by repeat (first | (with_reducible first | exact HB.out | apply below_alloc | apply pw_below_drewN | apply below_drew1 | refine below_set ?_ GE202.out | refine below_set ?_ GE205.out) | exact HB.out))))
                      have n2_ := Aside0.mk (blk_below (g := gb202) (o := .cells #[.slice (some ad206) l0_0.length c0_0, .slice (some ad203) l0_1.length c0_1] 78 (0, 0)) (by (with_reducible repeat (first | refine blk_drewN ?_ _ | refine blk_drew ?_ | refine blk_alloc ?_ _)); exact BK202.out) hb)
                      have n3_ := Aside0.mk (blk_below (g := gb205) (o := .cells #[.int .u16 ((rd_T84 (rd_L17 l0_1 a1) (ji5)).f0), .int .u8 ((rd_T84 (rd_L17 l0_1 a1) (ji5)).f1), .int .u8 ((rd_T84 (rd_L17 l0_1 a1) (ji5)).f2), .int .u32 ((rd_T84 (rd_L17 l0_1 a1) (ji5)).f3)] 84 (0, 0)) (by (with_reducible repeat (first | refine blk_drewN ?_ _ | refine blk_drew ?_ | refine blk_alloc ?_ _)); exact BK205.out) hb)
                      have n4_ := Aside0.mk (below_step (by repeat (first | (with_reducible first | exact HB.out | apply below_alloc | apply pw_below_drewN | apply below_drew1 | refine below_set ?_ GE202.out | refine below_set ?_ GE205.out) | exact HB.out)) hb)
                      clear HO209
                      clear BK202
                      clear BK205
                      clear HB
                      have HO209 := n0_
                      have HO219 := n1_
                      have BK202 := n2_
                      have BK205 := n3_
                      have HB := n4_
                      clear n0_ n1_ n2_ n3_ n4_
                      clear hb ho25
                      refine hK.out _ _ ⟨(blk_cell BK205.out 0).trans rfl, (blk_cell BK205.out 1).trans rfl, (blk_cell BK205.out 2).trans rfl, (blk_cell BK205.out 3).trans rfl⟩ (fun hHeld => ?_)
                      clear hK K
                      refine norm_ (a' := ?_) ?_ ?_
                      rotate_left
                      · show Act.put _ (some 39) _ = _
                        simp only [Act.put, List.setIfInBounds_toArray, List.set_cons_zero, List.set_cons_succ, i64_w, i32_w]
                        rfl
                      refine one_ (i := 6) (N := some 37) #[true, true, true, true, true, true, true, true, true, false, false] rfl rfl (one_of HT_.out (by kernel_rfl)) (by decide) (fun K hK => ?_)
                      refine Kd.R_append_rows_step k84 (w0 := w) w.heap.size (by rfl) (.tmp 31) (.tmp 36) 42 84 (.agg #[(.int .u16 0), (.int .u8 0), (.int .u8 0), (.int .u32 0)]) 8 rfl Try.underlying42 info84 rfl (by decide) (by omega) (.slice Ao21 y207.length co21) y207 y210 _ _ _ (fun k_ => some k_ ≠ (v218 : Value).ownBlock ∧ k_ ≠ gb205) (fun _ => False) rfl rfl ?aO ?aR (fun _ _ h => h) (fun _ h => h.elim) ?aF ?aB ?aS ?aL ?_
                      (case aR => repeat (first | exact (Kd.C_below HR213.out HB.out) | (with_reducible refine Kd.C_alloc ?_ _) | (with_reducible refine Kd.C_drewN ?_ _) | (with_reducible refine Kd.C_drew ?_)))
                      (case aB => exact (by repeat (first | (with_reducible first | exact HB.out | apply below_alloc | apply pw_below_drewN | apply below_drew1 | refine below_set ?_ GE202.out | refine below_set ?_ GE205.out) | exact HB.out)))
                      (case aF => exact (fun k_ hk => ⟨Kd.fresh' (Kd.R_lt (by (with_reducible repeat (first | apply Kd.R_alloc | apply Kd.R_drewN | apply Kd.R_drew)); exact HO219.out)) k_ hk, Kd.freshB (g := gb205) (o := .cells #[.int .u16 ((rd_T84 (rd_L17 l0_1 a1) (ji5)).f0), .int .u8 ((rd_T84 (rd_L17 l0_1 a1) (ji5)).f1), .int .u8 ((rd_T84 (rd_L17 l0_1 a1) (ji5)).f2), .int .u32 ((rd_T84 (rd_L17 l0_1 a1) (ji5)).f3)] 84 (0, 0)) (by (with_reducible repeat (first | refine blk_drewN ?_ _ | refine blk_drew ?_ | refine blk_alloc ?_ _)); exact BK205.out) k_ hk⟩))
                      (case aO => exact (by (with_reducible repeat (first | apply Kd.R_alloc | apply Kd.R_drewN | apply Kd.R_drew)); exact Kd.R_mono HO209.out (fun _ hk => ⟨hk.2, hk.1.2⟩)))
                      (case aS => exact (below_size (by repeat (first | (with_reducible first | exact HB.out | apply below_alloc | apply pw_below_drewN | apply below_drew1 | refine below_set ?_ GE202.out | refine below_set ?_ GE205.out) | exact HB.out))))
                      (case aL => have := LMc11.out; omega)
                      intro v215 w26 ho hb hg hat
                      rw [← Ny214.out] at ho
                      have n0_ := Aside0.mk (blk_grown (g := gb202) (o := .cells #[.slice (some ad206) l0_0.length c0_0, .slice (some ad203) l0_1.length c0_1] 78 (0, 0)) (by (with_reducible repeat (first | refine blk_drewN ?_ _ | refine blk_drew ?_ | refine blk_alloc ?_ _)); exact BK202.out) hg (Kd.R_ne HO209.out BK202.out (by decide)))
                      have n1_ := Aside0.mk (blk_grown (g := gb205) (o := .cells #[.int .u16 ((rd_T84 (rd_L17 l0_1 a1) (ji5)).f0), .int .u8 ((rd_T84 (rd_L17 l0_1 a1) (ji5)).f1), .int .u8 ((rd_T84 (rd_L17 l0_1 a1) (ji5)).f2), .int .u32 ((rd_T84 (rd_L17 l0_1 a1) (ji5)).f3)] 84 (0, 0)) (by (with_reducible repeat (first | refine blk_drewN ?_ _ | refine blk_drew ?_ | refine blk_alloc ?_ _)); exact BK205.out) hg (Kd.R_away HO209.out (fun _ hk => hk.1.2)))
                      have n2_ := Aside0.mk (Kd.R_after (ok := (fun k_ => k_ ≠ gb205)) (by (with_reducible repeat (first | apply Kd.R_alloc | apply Kd.R_drewN | apply Kd.R_drew)); exact Kd.R_mono HO219.out (fun _ hk => ⟨hk.2, hk.1.2⟩)) hg hat)
                      have n3_ := Aside0.mk (hb)
                      have n4_ := Aside0.mk (ho)
                      clear BK202
                      clear BK205
                      clear HO219
                      clear HB
                      clear HO209
                      have BK202 := n0_
                      have BK205 := n1_
                      have HO219 := n2_
                      have HB := n3_
                      have HO216 := n4_
                      clear n0_ n1_ n2_ n3_ n4_
                      clear ho hb hg hat
                      refine hK.out _ _ ⟨(blk_cell BK205.out 0).trans rfl, (blk_cell BK205.out 1).trans rfl, (blk_cell BK205.out 2).trans rfl, (blk_cell BK205.out 3).trans rfl⟩ (fun hHeld => ?_)
                      clear hK K
                      refine norm_ (a' := ?_) ?_ ?_
                      rotate_left
                      · show Act.put _ (some 37) _ = _
                        simp only [Act.put, List.setIfInBounds_toArray, List.set_cons_zero, List.set_cons_succ, i64_w, i32_w]
                        rfl
                      exact norm_ (by simp only [putAll, Act.put, List.setIfInBounds_toArray, List.set_cons_zero, List.set_cons_succ]) (hCont (v215, v218) _ ⟨hHeld, (by (with_reducible repeat (first | apply Kd.R_alloc | apply Kd.R_drewN | apply Kd.R_drew)); exact HO216.out), (by (with_reducible repeat (first | apply Kd.R_alloc | apply Kd.R_drewN | apply Kd.R_drew)); exact Kd.R_mono HO219.out (fun _ hk => ⟨hk.2, hk.1⟩)), (by (with_reducible repeat (first | refine blk_drewN ?_ _ | refine blk_drew ?_ | refine blk_alloc ?_ _)); exact BK202.out), (by (with_reducible repeat (first | refine blk_drewN ?_ _ | refine blk_drew ?_ | refine blk_alloc ?_ _)); exact BK205.out), (by repeat (first | (with_reducible first | exact HB.out | apply below_alloc | apply pw_below_drewN | apply below_drew1 | refine below_set ?_ GE202.out | refine below_set ?_ GE205.out) | exact HB.out))⟩)
                  rintro ⟨v215, v218⟩ w27 ⟨hS_, h0_, h1_, h2_, h3_, h4_⟩
                  have n0_ : Aside0 (Kd.R k84 84 w27 w.heap.size (fun k_ => some k_ ≠ (v218 : Value).ownBlock ∧ k_ ≠ gb205) v215 y214) := ⟨h0_⟩
                  have n1_ : Aside0 (Kd.R k84 84 w27 w.heap.size (fun k_ => some k_ ≠ (v215 : Value).ownBlock ∧ k_ ≠ gb205) v218 y217) := ⟨h1_⟩
                  have n2_ : Aside0 (w27.heap[gb202]? = some (.cells #[.slice (some ad206) l0_0.length c0_0, .slice (some ad203) l0_1.length c0_1] 78 (0, 0))) := ⟨h2_⟩
                  have n3_ : Aside0 (w27.heap[gb205]? = some (.cells #[.int .u16 ((rd_T84 (rd_L17 l0_1 a1) (ji5)).f0), .int .u8 ((rd_T84 (rd_L17 l0_1 a1) (ji5)).f1), .int .u8 ((rd_T84 (rd_L17 l0_1 a1) (ji5)).f2), .int .u32 ((rd_T84 (rd_L17 l0_1 a1) (ji5)).f3)] 84 (0, 0))) := ⟨h3_⟩
                  have n4_ : Aside0 (Below w.heap.size w w27) := ⟨h4_⟩
                  clear HO209
                  clear BK202
                  clear BK205
                  clear HB
                  clear h0_ h1_ h2_ h3_ h4_
                  have HO216 := n0_
                  have HO219 := n1_
                  have BK202 := n2_
                  have BK205 := n3_
                  have HB := n4_
                  clear n0_ n1_ n2_ n3_ n4_
                  have hHeld : w27.cell? ⟨gb205, 0, none⟩ = some (.int .u16 ((rd_T84 (rd_L17 l0_1 a1) (ji5)).f0)) ∧ w27.cell? ⟨gb205, 1, none⟩ = some (.int .u8 ((rd_T84 (rd_L17 l0_1 a1) (ji5)).f1)) ∧ w27.cell? ⟨gb205, 2, none⟩ = some (.int .u8 ((rd_T84 (rd_L17 l0_1 a1) (ji5)).f2)) ∧ w27.cell? ⟨gb205, 3, none⟩ = some (.int .u32 ((rd_T84 (rd_L17 l0_1 a1) (ji5)).f3)) := hS_
                  obtain ⟨Ao29, co29, eo29⟩ := Kd.R_slice HO219.out
                  (first | subst eo29 | (injection eo29 with f1_ f2_ f3_; have f4_ := f1_.symm; have f5_ := f3_.symm; clear f1_ f2_ f3_; subst f4_; subst f5_))
                  refine norm_ (a' := ?_) ?_ ?_
                  rotate_left
                  · simp only [putAll, Act.put, List.setIfInBounds_toArray, List.set_cons_zero, List.set_cons_succ]
                    rfl
                  refine one_ (i := 9) (N := some 40) #[true, true, true, true, true, true, true, true, true, true, false] rfl rfl (one_of HT_.out (by kernel_rfl)) (by decide) (fun K hK => ?_)
                  refine Kd.R_append_rows_step k84 (w0 := w) w.heap.size (by rfl) (.tmp 37) (.tmp 39) 42 84 (.agg #[(.int .u16 0), (.int .u8 0), (.int .u8 0), (.int .u32 0)]) 8 rfl Try.underlying42 info84 rfl (by decide) (by omega) v215 y214 y217 _ _ _ (fun k_ => some k_ ≠ (.slice Ao29 y217.length co29 : Value).ownBlock ∧ k_ ≠ gb205) (fun _ => False) rfl rfl ?aO ?aR (fun _ _ h => h) (fun _ h => h.elim) ?aF ?aB ?aS ?aL ?_
                  (case aR => repeat (first | exact (Kd.R_reads' HO219.out).2.2 | (with_reducible refine Kd.C_alloc ?_ _) | (with_reducible refine Kd.C_drewN ?_ _) | (with_reducible refine Kd.C_drew ?_)))
                  (case aB => exact (by repeat (first | (with_reducible first | exact HB.out | apply below_alloc | apply pw_below_drewN | apply below_drew1 | refine below_set ?_ GE202.out | refine below_set ?_ GE205.out) | exact HB.out)))
                  (case aF => exact (fun k_ hk => ⟨Kd.fresh' (Kd.R_lt (by (with_reducible repeat (first | apply Kd.R_alloc | apply Kd.R_drewN | apply Kd.R_drew)); exact HO219.out)) k_ hk, Kd.freshB (g := gb205) (o := .cells #[.int .u16 ((rd_T84 (rd_L17 l0_1 a1) (ji5)).f0), .int .u8 ((rd_T84 (rd_L17 l0_1 a1) (ji5)).f1), .int .u8 ((rd_T84 (rd_L17 l0_1 a1) (ji5)).f2), .int .u32 ((rd_T84 (rd_L17 l0_1 a1) (ji5)).f3)] 84 (0, 0)) (by (with_reducible repeat (first | refine blk_drewN ?_ _ | refine blk_drew ?_ | refine blk_alloc ?_ _)); exact BK205.out) k_ hk⟩))
                  (case aO => exact (by (with_reducible repeat (first | apply Kd.R_alloc | apply Kd.R_drewN | apply Kd.R_drew)); exact HO216.out))
                  (case aS => exact (below_size (by repeat (first | (with_reducible first | exact HB.out | apply below_alloc | apply pw_below_drewN | apply below_drew1 | refine below_set ?_ GE202.out | refine below_set ?_ GE205.out) | exact HB.out))))
                  (case aL => have := LMc12.out; omega)
                  intro v221 w28 ho hb hg hat
                  rw [← Ny220.out] at ho
                  have n0_ := Aside0.mk (blk_grown (g := gb202) (o := .cells #[.slice (some ad206) l0_0.length c0_0, .slice (some ad203) l0_1.length c0_1] 78 (0, 0)) (by (with_reducible repeat (first | refine blk_drewN ?_ _ | refine blk_drew ?_ | refine blk_alloc ?_ _)); exact BK202.out) hg (Kd.R_ne HO216.out BK202.out (by decide)))
                  have n1_ := Aside0.mk (blk_grown (g := gb205) (o := .cells #[.int .u16 ((rd_T84 (rd_L17 l0_1 a1) (ji5)).f0), .int .u8 ((rd_T84 (rd_L17 l0_1 a1) (ji5)).f1), .int .u8 ((rd_T84 (rd_L17 l0_1 a1) (ji5)).f2), .int .u32 ((rd_T84 (rd_L17 l0_1 a1) (ji5)).f3)] 84 (0, 0)) (by (with_reducible repeat (first | refine blk_drewN ?_ _ | refine blk_drew ?_ | refine blk_alloc ?_ _)); exact BK205.out) hg (Kd.R_away HO216.out (fun _ hk => hk.2)))
                  have n2_ := Aside0.mk (Kd.R_after (ok := (fun k_ => k_ ≠ gb205)) (by (with_reducible repeat (first | apply Kd.R_alloc | apply Kd.R_drewN | apply Kd.R_drew)); exact Kd.R_mono HO219.out (fun _ hk => ⟨hk.2, hk.1⟩)) hg hat)
                  have n3_ := Aside0.mk (hb)
                  have n4_ := Aside0.mk (ho)
                  clear BK202
                  clear BK205
                  clear HO219
                  clear HB
                  clear HO216
                  have BK202 := n0_
                  have BK205 := n1_
                  have HO219 := n2_
                  have HB := n3_
                  have HO222 := n4_
                  clear n0_ n1_ n2_ n3_ n4_
                  clear ho hb hg hat
                  refine hK.out _ _ ⟨(blk_cell BK205.out 0).trans rfl, (blk_cell BK205.out 1).trans rfl, (blk_cell BK205.out 2).trans rfl, (blk_cell BK205.out 3).trans rfl⟩ (fun hHeld => ?_)
                  clear hK K
                  refine norm_ (a' := ?_) ?_ ?_
                  rotate_left
                  · show Act.put _ (some 40) _ = _
                    simp only [Act.put, List.setIfInBounds_toArray, List.set_cons_zero, List.set_cons_succ, i64_w, i32_w]
                    rfl
                  refine pure_ (i := 10) (N := some 4) (v := ?_) (a' := ?_) #[true, true, true, true, true, true, true, true, true, true, true] rfl rfl (any_of HT_.out (by kernel_rfl)) (fun _ _ _ h => h) (Or.inl ⟨by rfl, ?_⟩) ?_ ?_
                  rotate_left
                  · intro w'
                    go_simp
                    with_reducible rfl
                  rotate_left
                  · simp only [Act.put, List.setIfInBounds_toArray, List.set_cons_zero, List.set_cons_succ, i64_w, i32_w]
                    rfl
                  refine done_ (done_of HT_.out (by kernel_rfl)) ?_
                  try go_wp2
                  go_ret
                  exact ⟨_, by first | rfl | (simp [errW_none, errW_some] <;> rfl) | (simp only [← hji5]; first | rfl | (simp [errW_none, errW_some] <;> rfl)) | (simp [*, errW_none, errW_some] <;> rfl), by (with_reducible repeat (first | apply Kd.R_alloc | apply Kd.R_drewN | apply Kd.R_drew)); exact Kd.R_mono HO222.out (fun _ hk => trivial), by repeat (first | (with_reducible first | exact HB.out | apply below_alloc | apply pw_below_drewN | apply below_drew1 | refine below_set ?_ GE202.out | refine below_set ?_ GE205.out) | exact HB.out)⟩
                · rw [if_neg c12] at H
                  exact absurd H (by simp)
              · rw [if_neg c11] at H
                exact absurd H (by simp)
            · rw [if_neg c10] at H
              exact absurd H (by simp)
          · rw [if_neg c8] at H
            exact absurd H (by simp)
        · rw [if_neg c7] at H
          exact absurd H (by simp)
      · rw [if_neg c6] at H
        exact absurd H (by simp)
    · rw [if_neg c4] at H
      exact absurd H (by simp)
  · rw [if_neg c3] at H
    exact absurd H (by simp)
mutual
def compile_plan_part.l0 : Nat → List (S84) → List (List (S84)) → Int → Int → Option ((List (S84)))
  | 0, _, _, _, _ => none
  | k + 1, x9, x47, x48, x49 => if x49 < x48 then (if 0 ≤ x49 then (if x49 < (x47.length : Int) then (if x9.length + (rd_L17 x47 x49).length < 17592186044416 then (compile_plan_part.l0 k (x9 ++ (rd_L17 x47 x49)) x47 x48 (wrap64 (x49 + 1))) else (none)) else (none)) else (none)) else (some x9)
def compile_plan_part.f : Nat → List Int → List (List (S84)) → Int → Int → Option ((List (S84)))
  | 0, _, _, _, _ => none
  | k + 1, l0_0, l0_1, a1, a2 => if (wrap64 (a2 - a1)) = 1 then ((compile_plan_leaf.f l0_0 l0_1 a1).bind fun t224 => (some t224)) else ((compile_plan_part.f k l0_0 l0_1 a1 (wrap64 (a1 + (wrap64 (Int.tdiv (wrap64 (a2 - a1)) 2))))).bind fun t227 => ((compile_plan_part.f k l0_0 l0_1 (wrap64 (a1 + (wrap64 (Int.tdiv (wrap64 (a2 - a1)) 2)))) a2).bind fun t230 => ((some (([t227, t230] : List (List (S84))) : List (List (S84)))).bind fun y233 => (if 0 ≤ (wrap64 (a1 + (wrap64 (Int.tdiv (wrap64 (a2 - a1)) 2)))) then (if (wrap64 (a1 + (wrap64 (Int.tdiv (wrap64 (a2 - a1)) 2)))) < (l0_0.length : Int) then (if 0 < (y233.length : Int) then (compile_plan_part.l0 k (([(⟨53, 0, 1, rd l0_0 (wrap64 (a1 + (wrap64 (Int.tdiv (wrap64 (a2 - a1)) 2))))⟩ : S84), (⟨5, 0, 0, (((rd_L17 y233 0).length : Int)) % 4294967296⟩ : S84)] : List (S84))) y233 (y233.length : Int) 0) else (none)) else (none)) else (none)))))
end
def compile_plan_part.T4 : Bool × List (List Nat × List Nat) := (true, [([], []), ([], []), ([], []), ([0, 1, 2], [0, 1, 2]), ([], []), ([], []), ([], []), ([4, 5, 6, 3], [4, 5, 6]), ([3, 7], [3, 7]), ([8, 7, 0, 1, 2, 3, 4, 5, 6, 7, 8], [8])])
def compile_plan_part.B4 : List Nat := [0, 0, 0, 7, 0, 0, 0, 127, 255, 511]
theorem compile_plan_part.tab4 : rtab .any (opsOf Try.f25 4) = compile_plan_part.T4 := by kernel_rfl
theorem compile_plan_part.bits4 : waitsOk compile_plan_part.T4.2 compile_plan_part.B4 = true := by kernel_rfl
def compile_plan_part.T5 : Bool × List (List Nat × List Nat) := (true, [([], []), ([0], [0]), ([], []), ([1, 2], [1, 2]), ([3], [3]), ([4], [4]), ([], []), ([6], [6]), ([7], [7]), ([8], [8]), ([9], [9]), ([10], [10]), ([5, 11], [5, 11]), ([12, 0, 1, 2, 3, 4, 5, 6, 7, 8, 9, 10, 11, 12], [12])])
def compile_plan_part.B5 : List Nat := [0, 1, 0, 7, 15, 31, 0, 64, 192, 448, 960, 1984, 4095, 8191]
theorem compile_plan_part.tab5 : rtab .any (opsOf Try.f25 5) = compile_plan_part.T5 := by kernel_rfl
theorem compile_plan_part.bits5 : waitsOk compile_plan_part.T5.2 compile_plan_part.B5 = true := by kernel_rfl
set_option maxHeartbeats 8000000 in
set_option maxRecDepth 100000 in
theorem compile_plan_part.calls (k : Nat) : ∀ (A0_0 : Option Addr) (c0_0 : Nat) (l0_0 : List Int) (A0_1 : Option Addr) (c0_1 : Nat) (l0_1 : List (List (S84))) (a1 : Int) (a2 : Int) (r : List (S84)) (w : World) (hr0_0 : Kd.C (Kd.int .u32) w A0_0 l0_0.length l0_0) (hc0_0 : l0_0.length ≤ c0_0) (hr0_1 : Kd.C (Kd.slice 84 k84) w A0_1 l0_1.length l0_1) (hc0_1 : l0_1.length ≤ c0_1) (h : compile_plan_part.f k l0_0 l0_1 a1 a2 = some r),
    Calls Try.prog 25 #[.agg #[.slice A0_0 l0_0.length c0_0, .slice A0_1 l0_1.length c0_1], .int .i64 a1, .int .i64 a2] w fun e w' => ∃ v0_ : Value, e = .returned (v0_) ∧ Kd.R k84 84 w' w.heap.size (fun _ => True) v0_ r ∧ Below w.heap.size w w' := by
  induction k using Nat.strongRecOn with
  | _ k ih =>
  intro A0_0 c0_0 l0_0 A0_1 c0_1 l0_1 a1 a2 r w hr0_0 hc0_0 hr0_1 hc0_1 h
  cases k with
  | zero => exact absurd h (by simp [compile_plan_part.f])
  | succ k =>
  simp only [compile_plan_part.f] at h
  have hu78 := Try.underlying78
  have hu84 := Try.underlying84
  have HR0_0 := Aside0.mk hr0_0
  have HC0_0 := Aside0.mk hc0_0
  clear hr0_0 hc0_0
  have HR0_1 := Aside0.mk hr0_1
  have HC0_1 := Aside0.mk hc0_1
  clear hr0_1 hc0_1
  have HB := Aside0.mk (Below.refl w.heap.size w)
  have H : (if (wrap64 (a2 - a1)) = 1 then ((compile_plan_leaf.f l0_0 l0_1 a1).bind fun t224 => (some t224)) else ((compile_plan_part.f k l0_0 l0_1 a1 (wrap64 (a1 + (wrap64 (Int.tdiv (wrap64 (a2 - a1)) 2))))).bind fun t227 => ((compile_plan_part.f k l0_0 l0_1 (wrap64 (a1 + (wrap64 (Int.tdiv (wrap64 (a2 - a1)) 2)))) a2).bind fun t230 => ((some (([t227, t230] : List (List (S84))) : List (List (S84)))).bind fun y233 => (if 0 ≤ (wrap64 (a1 + (wrap64 (Int.tdiv (wrap64 (a2 - a1)) 2)))) then (if (wrap64 (a1 + (wrap64 (Int.tdiv (wrap64 (a2 - a1)) 2)))) < (l0_0.length : Int) then (if 0 < (y233.length : Int) then (compile_plan_part.l0 k (([(⟨53, 0, 1, rd l0_0 (wrap64 (a1 + (wrap64 (Int.tdiv (wrap64 (a2 - a1)) 2))))⟩ : S84), (⟨5, 0, 0, (((rd_L17 y233 0).length : Int)) % 4294967296⟩ : S84)] : List (S84))) y233 (y233.length : Int) 0) else (none)) else (none)) else (none)))))) = some r := h
  clear h
  by_cases c4 : (wrap64 (a2 - a1)) = 1
  · rw [if_pos c4] at H
    have c4b0 : ((wrap64 (a2 - a1)) == 1) = true := beq_iff_eq.mpr c4
    have c4b1 : ((wrap64 (a2 - a1)) != 1) = false := bne_eq_false_iff_eq.mpr c4
    clear c4
    replace H := Option.bind_eq_some_iff.mp H
    obtain ⟨t224, A50, H⟩ := H
    replace H : (some t224) = some r := H
    have A5 := Aside0.mk A50
    clear A50
    obtain rfl := Option.some.inj H
    go_enter Try.func25, Try.ntmps25
    go_wp2_with (first | ((with_reducible refine gate_dst (N := 3) rfl ?_); refine box_event ?hg (N := 3) ?hd (cs := #[.slice A0_0 l0_0.length c0_0, .slice A0_1 l0_1.length c0_1]) (t := 78) ?hr ?_; (case hd => rfl); (case hg => rfl); (case hr => first | (go_simp; done) | (go_simp; rfl)); intro gb223 hg w6 hbox hb; have n0_ := Aside0.mk (below_step (by repeat (first | (with_reducible first | exact HB.out | apply below_alloc | apply pw_below_drewN | apply below_drew1) | exact HB.out)) hb); have n1_ := Aside0.mk (hbox); have n2_ := Aside0.mk ((by rw [hg]; exact (below_size (by repeat (first | (with_reducible first | exact HB.out | apply below_alloc | apply pw_below_drewN | apply below_drew1) | exact HB.out))) : w.heap.size ≤ gb223)); have n3_ := Aside0.mk ((by rw [hg]; exact (below_size (by repeat (first | (with_reducible first | exact HB.out | apply below_alloc | apply pw_below_drewN | apply below_drew1) | exact HB.out))) : w.heap.size ≤ gb223)); clear HB; have HB := n0_; have BK223 := n1_; have GW223 := n2_; have GE223 := n3_; clear n0_ n1_ n2_ n3_; clear hb hbox hg; have hcz7_0 : w6.cell? ⟨gb223, 0, none⟩ = some (.slice A0_0 l0_0.length c0_0) := (blk_cell BK223.out 0).trans rfl; have hcz7_1 : w6.cell? ⟨gb223, 1, none⟩ = some (.slice A0_1 l0_1.length c0_1) := (blk_cell BK223.out 1).trans rfl; have hfz7_0 := blk_frozen BK223.out 0; have hfz7_1 := blk_frozen BK223.out 1) | ((with_reducible refine gate_callee (f := 44) rfl ?_); refine goesL_ (some 18) rfl rfl Try.func44 (by kernel_rfl) rfl #[.agg #[.slice A0_0 l0_0.length c0_0, .slice A0_1 l0_1.length c0_1], .int .i64 a1] rfl (by (try simp only [List.map_toArray, List.map_cons, List.map_nil]); first | done | rfl | (simp only [List.length_drop, List.length_take]; rfl)) ?_; (with_reducible refine (compile_plan_leaf.calls _ _ l0_0 _ _ l0_1 a1 t224 _ ?side1 ?side2 ?side3 ?side4 A5.out).mono ?_); (case side1 => repeat (first | exact (Kd.C_below HR0_0.out HB.out) | (with_reducible refine Kd.C_alloc ?_ _) | (with_reducible refine Kd.C_drewN ?_ _) | (with_reducible refine Kd.C_drew ?_))); (case side2 => exact HC0_0.out); (case side3 => repeat (first | exact (Kd.C_below HR0_1.out HB.out) | (with_reducible refine Kd.C_alloc ?_ _) | (with_reducible refine Kd.C_drewN ?_ _) | (with_reducible refine Kd.C_drew ?_))); (case side4 => exact HC0_1.out); rintro e w8 ⟨v225, rfl, ho0, hb⟩; refine ⟨_, rfl, ?_⟩; have n0_ := Aside0.mk (Kd.R_lower ho0 (below_size (by repeat (first | (with_reducible first | exact HB.out | apply below_alloc | apply pw_below_drewN | apply below_drew1 | refine below_set ?_ GE223.out) | exact HB.out)))); have n1_ := Aside0.mk (blk_below (g := gb223) (o := .cells #[.slice A0_0 l0_0.length c0_0, .slice A0_1 l0_1.length c0_1] 78 (0, 0)) (by (with_reducible repeat (first | refine blk_drewN ?_ _ | refine blk_drew ?_ | refine blk_alloc ?_ _)); exact BK223.out) hb); have n2_ := Aside0.mk (below_step (by repeat (first | (with_reducible first | exact HB.out | apply below_alloc | apply pw_below_drewN | apply below_drew1 | refine below_set ?_ GE223.out) | exact HB.out)) hb); clear BK223; clear HB; have HO226 := n0_; have BK223 := n1_; have HB := n2_; clear n0_ n1_ n2_; (try clear hb); (try clear hb2); (try clear hk); (try clear hi); (try clear ho0)))
    go_ret
    exact ⟨_, by first | rfl | (simp [errW_none, errW_some] <;> rfl) | (simp [*, errW_none, errW_some] <;> rfl), by (with_reducible repeat (first | apply Kd.R_alloc | apply Kd.R_drewN | apply Kd.R_drew)); exact HO226.out, by repeat (first | (with_reducible first | exact HB.out | apply below_alloc | apply pw_below_drewN | apply below_drew1 | refine below_set ?_ GE223.out) | exact HB.out)⟩
  · rw [if_neg c4] at H
    have c4b0 : ((wrap64 (a2 - a1)) == 1) = false := beq_eq_false_iff_ne.mpr c4
    have c4b1 : ((wrap64 (a2 - a1)) != 1) = true := bne_iff_ne.mpr c4
    replace H := Option.bind_eq_some_iff.mp H
    obtain ⟨t227, A90, H⟩ := H
    replace H : ((compile_plan_part.f k l0_0 l0_1 (wrap64 (a1 + (wrap64 (Int.tdiv (wrap64 (a2 - a1)) 2)))) a2).bind fun t230 => ((some (([t227, t230] : List (List (S84))) : List (List (S84)))).bind fun y233 => (if 0 ≤ (wrap64 (a1 + (wrap64 (Int.tdiv (wrap64 (a2 - a1)) 2)))) then (if (wrap64 (a1 + (wrap64 (Int.tdiv (wrap64 (a2 - a1)) 2)))) < (l0_0.length : Int) then (if 0 < (y233.length : Int) then (compile_plan_part.l0 k (([(⟨53, 0, 1, rd l0_0 (wrap64 (a1 + (wrap64 (Int.tdiv (wrap64 (a2 - a1)) 2))))⟩ : S84), (⟨5, 0, 0, (((rd_L17 y233 0).length : Int)) % 4294967296⟩ : S84)] : List (S84))) y233 (y233.length : Int) 0) else (none)) else (none)) else (none)))) = some r := H
    have A9 := Aside0.mk A90
    clear A90
    replace H := Option.bind_eq_some_iff.mp H
    obtain ⟨t230, A100, H⟩ := H
    replace H : ((some (([t227, t230] : List (List (S84))) : List (List (S84)))).bind fun y233 => (if 0 ≤ (wrap64 (a1 + (wrap64 (Int.tdiv (wrap64 (a2 - a1)) 2)))) then (if (wrap64 (a1 + (wrap64 (Int.tdiv (wrap64 (a2 - a1)) 2)))) < (l0_0.length : Int) then (if 0 < (y233.length : Int) then (compile_plan_part.l0 k (([(⟨53, 0, 1, rd l0_0 (wrap64 (a1 + (wrap64 (Int.tdiv (wrap64 (a2 - a1)) 2))))⟩ : S84), (⟨5, 0, 0, (((rd_L17 y233 0).length : Int)) % 4294967296⟩ : S84)] : List (S84))) y233 (y233.length : Int) 0) else (none)) else (none)) else (none))) = some r := H
    have A10 := Aside0.mk A100
    clear A100
    obtain ⟨y233, hy233⟩ : ∃ y_ : List (List (S84)), y_ = (([t227, t230] : List (List (S84)))) := ⟨_, rfl⟩
    replace H : (if 0 ≤ (wrap64 (a1 + (wrap64 (Int.tdiv (wrap64 (a2 - a1)) 2)))) then (if (wrap64 (a1 + (wrap64 (Int.tdiv (wrap64 (a2 - a1)) 2)))) < (l0_0.length : Int) then (if 0 < (y233.length : Int) then (compile_plan_part.l0 k (([(⟨53, 0, 1, rd l0_0 (wrap64 (a1 + (wrap64 (Int.tdiv (wrap64 (a2 - a1)) 2))))⟩ : S84), (⟨5, 0, 0, (((rd_L17 y233 0).length : Int)) % 4294967296⟩ : S84)] : List (S84))) y233 (y233.length : Int) 0) else (none)) else (none)) else (none)) = some r := by first | (rw [hy233]; with_reducible exact H) | (have H2_ := (Option.bind_some _ _).symm.trans H; rw [hy233]; with_reducible exact H2_) | (have H2_ := (Option.bind_some _ _).symm.trans H; with_reducible exact H2_) | with_reducible exact H | (rw [hy233]; exact H) | exact H
    have Ny233 := Aside0.mk hy233
    clear hy233
    obtain ⟨ji11, hji11⟩ : ∃ j_ : Int, (wrap64 (a1 + (wrap64 (Int.tdiv (wrap64 (a2 - a1)) 2)))) = j_ := ⟨_, rfl⟩
    replace H : (if 0 ≤ (ji11) then (if (ji11) < (l0_0.length : Int) then (if 0 < (y233.length : Int) then (compile_plan_part.l0 k (([(⟨53, 0, 1, rd l0_0 (ji11)⟩ : S84), (⟨5, 0, 0, (((rd_L17 y233 0).length : Int)) % 4294967296⟩ : S84)] : List (S84))) y233 (y233.length : Int) 0) else (none)) else (none)) else (none)) = some r := by first | (rw [hji11] at H; exact H) | (simp only [hji11] at H ⊢; exact H)
    (try rw [hji11] at A9)
    (try rw [hji11] at A10)
    have hji11w : (IntKind.i64.wrap (a1 + (wrap64 (Int.tdiv (wrap64 (a2 - a1)) 2)))) = ji11 := (i64_w _).trans hji11
    by_cases c12 : 0 ≤ (ji11)
    · rw [if_pos c12] at H
      have c12b0 : decide (0 ≤ (ji11)) = true := decide_eq_true c12
      clear c12
      by_cases c13 : (ji11) < (l0_0.length : Int)
      · rw [if_pos c13] at H
        have c13b0 : decide ((ji11) < (l0_0.length : Int)) = true := decide_eq_true c13
        clear c13
        by_cases c14 : 0 < (y233.length : Int)
        · rw [if_pos c14] at H
          have c14b0 : decide (0 < (y233.length : Int)) = true := decide_eq_true c14
          have c14b1 : decide (0 < y233.length) = true := decide_eq_true (by omega)
          clear c14
          obtain ⟨y238, hy238⟩ : ∃ y_ : List (S84), y_ = (([(⟨53, 0, 1, rd l0_0 (ji11)⟩ : S84), (⟨5, 0, 0, (((rd_L17 y233 0).length : Int)) % 4294967296⟩ : S84)] : List (S84))) := ⟨_, rfl⟩
          replace H : (compile_plan_part.l0 k y238 y233 (y233.length : Int) 0) = some r := by first | (rw [hy238]; with_reducible exact H) | (have H2_ := (Option.bind_some _ _).symm.trans H; rw [hy238]; with_reducible exact H2_) | (have H2_ := (Option.bind_some _ _).symm.trans H; with_reducible exact H2_) | with_reducible exact H | (rw [hy238]; exact H) | exact H
          have Ny238 := Aside0.mk hy238
          clear hy238
          have H' := Aside0.mk H
          clear H
          go_enter Try.func25, Try.ntmps25
          try go_wp2_with (first | ((with_reducible refine gate_dst (N := 3) rfl ?_); refine box_event ?hg (N := 3) ?hd (cs := #[.slice A0_0 l0_0.length c0_0, .slice A0_1 l0_1.length c0_1]) (t := 78) ?hr ?_; (case hd => rfl); (case hg => rfl); (case hr => first | (go_simp; done) | (go_simp; rfl)); intro gb223 hg w15 hbox hb; have n0_ := Aside0.mk (below_step (by repeat (first | (with_reducible first | exact HB.out | apply below_alloc | apply pw_below_drewN | apply below_drew1) | exact HB.out)) hb); have n1_ := Aside0.mk (hbox); have n2_ := Aside0.mk ((by rw [hg]; exact (below_size (by repeat (first | (with_reducible first | exact HB.out | apply below_alloc | apply pw_below_drewN | apply below_drew1) | exact HB.out))) : w.heap.size ≤ gb223)); have n3_ := Aside0.mk ((by rw [hg]; exact (below_size (by repeat (first | (with_reducible first | exact HB.out | apply below_alloc | apply pw_below_drewN | apply below_drew1) | exact HB.out))) : w.heap.size ≤ gb223)); clear HB; have HB := n0_; have BK223 := n1_; have GW223 := n2_; have GE223 := n3_; clear n0_ n1_ n2_ n3_; clear hb hbox hg))
          have n0_ := Aside0.mk (blk_drew BK223.out)
          have n1_ := Aside0.mk (below_drew1 HB.out)
          clear BK223
          clear HB
          have BK223 := n0_
          have HB := n1_
          clear n0_ n1_
          refine start_ (n := 10) (S := fun w' => w'.cell? ⟨gb223, 0, none⟩ = some (.slice A0_0 l0_0.length c0_0) ∧ w'.cell? ⟨gb223, 1, none⟩ = some (.slice A0_1 l0_1.length c0_1)) (ds := []) #[false, false, false, false, false, false, false, false, false, false] (by kernel_rfl) rfl rfl ⟨(blk_cell BK223.out 0).trans rfl, (blk_cell BK223.out 1).trans rfl⟩ (fun hHeld => ?_); refine with_tabW compile_plan_part.tab4 compile_plan_part.bits4 (fun HT_ HW_ => ?_)
          generalize w15.drew = w16 at BK223 HB hHeld ⊢
          refine pure_ (i := 1) (N := some 26) (v := ?_) (a' := ?_) #[false, true, false, false, false, false, false, false, false, false] rfl rfl (any_of HT_.out (by kernel_rfl)) (fun _ _ _ h => h) (Or.inl ⟨by rfl, ?_⟩) ?_ ?_
          rotate_left
          · intro w'
            go_simp
            with_reducible rfl
          rotate_left
          · simp only [Act.put, List.setIfInBounds_toArray, List.set_cons_zero, List.set_cons_succ, i64_w, i32_w]
            rfl
          refine pure_ (i := 2) (N := some 27) (v := ?_) (a' := ?_) #[false, true, true, false, false, false, false, false, false, false] rfl rfl (any_of HT_.out (by kernel_rfl)) (fun _ _ _ h => h) (Or.inl ⟨by rfl, ?_⟩) ?_ ?_
          rotate_left
          · intro w'
            go_simp
            with_reducible rfl
          rotate_left
          · simp only [Act.put, List.setIfInBounds_toArray, List.set_cons_zero, List.set_cons_succ, i64_w, i32_w]
            rfl
          refine pure_ (i := 5) (N := some 30) (v := ?_) (a' := ?_) #[false, true, true, false, false, true, false, false, false, false] rfl rfl (any_of HT_.out (by kernel_rfl)) (fun _ _ _ h => h) (Or.inl ⟨by rfl, ?_⟩) ?_ ?_
          rotate_left
          · intro w'
            go_simp
            with_reducible rfl
          rotate_left
          · simp only [Act.put, List.setIfInBounds_toArray, List.set_cons_zero, List.set_cons_succ, i64_w, i32_w]
            rfl
          refine pure_ (i := 6) (N := some 31) (v := ?_) (a' := ?_) #[false, true, true, false, false, true, true, false, false, false] rfl rfl (any_of HT_.out (by kernel_rfl)) (fun _ _ _ h => h) (Or.inl ⟨by rfl, ?_⟩) ?_ ?_
          rotate_left
          · intro w'
            go_simp
            with_reducible rfl
          rotate_left
          · simp only [Act.put, List.setIfInBounds_toArray, List.set_cons_zero, List.set_cons_succ, i64_w, i32_w]
            rfl
          refine take_ (i := 0) (N := some 25) (v := ?_) (a' := ?_) #[true, true, true, false, false, true, true, false, false, false] rfl rfl (take_ofW HT_.out HW_.out (by kernel_rfl)) (fun _ _ _ h => h) (Or.inl ⟨by rfl, ?_⟩) hHeld ?_ ?_
          rotate_left
          · rintro w' ⟨s0, s1⟩
            go_simp
            with_reducible rfl
          rotate_left
          · simp only [Act.put, List.setIfInBounds_toArray, List.set_cons_zero, List.set_cons_succ, i64_w, i32_w]
            rfl
          refine take_ (i := 4) (N := some 29) (v := ?_) (a' := ?_) #[true, true, true, false, true, true, true, false, false, false] rfl rfl (take_ofW HT_.out HW_.out (by kernel_rfl)) (fun _ _ _ h => h) (Or.inl ⟨by rfl, ?_⟩) hHeld ?_ ?_
          rotate_left
          · rintro w' ⟨s0, s1⟩
            go_simp
            with_reducible rfl
          rotate_left
          · simp only [Act.put, List.setIfInBounds_toArray, List.set_cons_zero, List.set_cons_succ, i64_w, i32_w]
            rfl
          refine one_ (i := 3) (N := some 28) #[true, true, true, true, true, true, true, false, false, false] rfl rfl (one_of HT_.out (by kernel_rfl)) (by decide) (fun K hK => ?_)
          refine goes_ Try.func25 (by kernel_rfl) rfl #[.agg #[.slice A0_0 l0_0.length c0_0, .slice A0_1 l0_1.length c0_1], .int .i64 a1, .int .i64 ji11] (by rfl) rfl rfl (by (try simp only [List.map_toArray, List.map_cons, List.map_nil]); first | done | (simp only [hji11]; rfl) | rfl | (simp only [List.length_drop, List.length_take]; rfl)) ?_
          with_reducible refine (ih k (by omega) _ _ l0_0 _ _ l0_1 a1 ji11 t227 _ ?side1 ?side2 ?side3 ?side4 A9.out).mono ?_
          (case side1 => repeat (first | exact (Kd.C_below HR0_0.out HB.out) | (with_reducible refine Kd.C_alloc ?_ _) | (with_reducible refine Kd.C_drewN ?_ _) | (with_reducible refine Kd.C_drew ?_)))
          (case side2 => exact HC0_0.out)
          (case side3 => repeat (first | exact (Kd.C_below HR0_1.out HB.out) | (with_reducible refine Kd.C_alloc ?_ _) | (with_reducible refine Kd.C_drewN ?_ _) | (with_reducible refine Kd.C_drew ?_)))
          (case side4 => exact HC0_1.out)
          rintro e w17 ⟨v228, rfl, ho0, hb⟩
          refine ⟨_, rfl, ?_⟩
          have n0_ := Aside0.mk (Kd.R_lower ho0 (below_size (by repeat (first | (with_reducible first | exact HB.out | apply below_alloc | apply pw_below_drewN | apply below_drew1 | refine below_set ?_ GE223.out) | exact HB.out))))
          have n1_ := Aside0.mk (blk_below (g := gb223) (o := .cells #[.slice A0_0 l0_0.length c0_0, .slice A0_1 l0_1.length c0_1] 78 (0, 0)) (by (with_reducible repeat (first | refine blk_drewN ?_ _ | refine blk_drew ?_ | refine blk_alloc ?_ _)); exact BK223.out) hb)
          have n2_ := Aside0.mk (below_step (by repeat (first | (with_reducible first | exact HB.out | apply below_alloc | apply pw_below_drewN | apply below_drew1 | refine below_set ?_ GE223.out) | exact HB.out)) hb)
          clear BK223
          clear HB
          have HO229 := n0_
          have BK223 := n1_
          have HB := n2_
          clear n0_ n1_ n2_
          (try clear hb)
          (try clear hb2)
          (try clear hk)
          (try clear hi)
          (try clear ho0)
          refine hK.out _ _ ⟨(blk_cell BK223.out 0).trans rfl, (blk_cell BK223.out 1).trans rfl⟩ (fun hHeld => ?_)
          clear hK K
          refine norm_ (a' := ?_) ?_ ?_
          rotate_left
          · show Act.put _ (some 28) _ = _
            simp only [Act.put, List.setIfInBounds_toArray, List.set_cons_zero, List.set_cons_succ, i64_w, i32_w]
            rfl
          refine one_ (i := 7) (N := some 32) #[true, true, true, true, true, true, true, true, false, false] rfl rfl (one_of HT_.out (by kernel_rfl)) (by decide) (fun K hK => ?_)
          refine goes_ Try.func25 (by kernel_rfl) rfl #[.agg #[.slice A0_0 l0_0.length c0_0, .slice A0_1 l0_1.length c0_1], .int .i64 ji11, .int .i64 a2] (by rfl) rfl rfl (by (try simp only [List.map_toArray, List.map_cons, List.map_nil]); first | done | (simp only [hji11]; rfl) | rfl | (simp only [List.length_drop, List.length_take]; rfl)) ?_
          with_reducible refine (ih k (by omega) _ _ l0_0 _ _ l0_1 ji11 a2 t230 _ ?side1 ?side2 ?side3 ?side4 A10.out).mono ?_
          (case side1 => repeat (first | exact (Kd.C_below HR0_0.out HB.out) | (with_reducible refine Kd.C_alloc ?_ _) | (with_reducible refine Kd.C_drewN ?_ _) | (with_reducible refine Kd.C_drew ?_)))
          (case side2 => exact HC0_0.out)
          (case side3 => repeat (first | exact (Kd.C_below HR0_1.out HB.out) | (with_reducible refine Kd.C_alloc ?_ _) | (with_reducible refine Kd.C_drewN ?_ _) | (with_reducible refine Kd.C_drew ?_)))
          (case side4 => exact HC0_1.out)
          rintro e w18 ⟨v231, rfl, ho0, hb⟩
          refine ⟨_, rfl, ?_⟩
          have n0_ := Aside0.mk (Kd.R_elder' (by (with_reducible repeat (first | apply Kd.R_alloc | apply Kd.R_drewN | apply Kd.R_drew)); exact HO229.out) (Kd.R_base ho0) hb)
          have n1_ := Aside0.mk (Kd.R_lower (Kd.R_new' ho0 (Kd.R_lt (by (with_reducible repeat (first | apply Kd.R_alloc | apply Kd.R_drewN | apply Kd.R_drew)); exact HO229.out))) (below_size (by repeat (first | (with_reducible first | exact HB.out | apply below_alloc | apply pw_below_drewN | apply below_drew1 | refine below_set ?_ GE223.out) | exact HB.out))))
          have n2_ := Aside0.mk (blk_below (g := gb223) (o := .cells #[.slice A0_0 l0_0.length c0_0, .slice A0_1 l0_1.length c0_1] 78 (0, 0)) (by (with_reducible repeat (first | refine blk_drewN ?_ _ | refine blk_drew ?_ | refine blk_alloc ?_ _)); exact BK223.out) hb)
          have n3_ := Aside0.mk (below_step (by repeat (first | (with_reducible first | exact HB.out | apply below_alloc | apply pw_below_drewN | apply below_drew1 | refine below_set ?_ GE223.out) | exact HB.out)) hb)
          clear HO229
          clear BK223
          clear HB
          have HO229 := n0_
          have HO232 := n1_
          have BK223 := n2_
          have HB := n3_
          clear n0_ n1_ n2_ n3_
          (try clear hb)
          (try clear hb2)
          (try clear hk)
          (try clear hi)
          (try clear ho0)
          obtain ⟨Ao19, co19, eo19⟩ := Kd.R_slice HO229.out
          (first | subst eo19 | (injection eo19 with f1_ f2_ f3_; have f4_ := f1_.symm; have f5_ := f3_.symm; clear f1_ f2_ f3_; subst f4_; subst f5_))
          obtain ⟨Ao20, co20, eo20⟩ := Kd.R_slice HO232.out
          (first | subst eo20 | (injection eo20 with f1_ f2_ f3_; have f4_ := f1_.symm; have f5_ := f3_.symm; clear f1_ f2_ f3_; subst f4_; subst f5_))
          refine hK.out _ _ ⟨(blk_cell BK223.out 0).trans rfl, (blk_cell BK223.out 1).trans rfl⟩ (fun hHeld => ?_)
          clear hK K
          refine norm_ (a' := ?_) ?_ ?_
          rotate_left
          · show Act.put _ (some 32) _ = _
            simp only [Act.put, List.setIfInBounds_toArray, List.set_cons_zero, List.set_cons_succ, i64_w, i32_w]
            rfl
          refine one_ (i := 8) (N := some 33) #[true, true, true, true, true, true, true, true, true, false] rfl rfl (one_of HT_.out (by kernel_rfl)) (by decide) (fun K hK => ?_)
          refine Kd.N_lit_step (Kd.slice 84 k84) _ 42 ?hg (N' := 33) ?hd (xs := ([t227, t230] : List (List (S84)))) (inner := [.slice Ao19 t227.length co19, .slice Ao20 t230.length co20]) (ok := (fun k_ => k_ ≠ gb223)) (okp := (fun k_ => k_ ≠ gb223)) ?hr ?hp (fun _ hk => hk) ((show ∀ k_, w18.heap.size ≤ k_ → (fun k_ => k_ ≠ gb223) k_ from fun k_ hk => Kd.freshB (g := gb223) (o := .cells #[.slice A0_0 l0_0.length c0_0, .slice A0_1 l0_1.length c0_1] 78 (0, 0)) (by (with_reducible repeat (first | refine blk_drewN ?_ _ | refine blk_drew ?_ | refine blk_alloc ?_ _)); exact BK223.out) k_ hk) _ (Nat.le_refl _)) (Below.refl _ _) (Nat.le_refl _) (by simp) ?_; (case hd => rfl); (case hg => rfl); (case hr => first | (go_simp; done) | (go_simp; rfl)); (case hp => exact (Reps.one (show Kd.FK (Kd.slice 84 k84) _ _ t227 [.slice Ao19 t227.length co19] from (Kd.FK_slice_mk (Kd.R_reads' (Kd.R_mono (ok' := (fun k_ => k_ ≠ gb223)) (Kd.R_types (HO229.out) BK223.out (by decide)) (fun k_ hk => hk.2))).2.1 (Kd.R_F (Kd.R_mono (ok' := (fun k_ => k_ ≠ gb223)) (Kd.R_types (HO229.out) BK223.out (by decide)) (fun k_ hk => hk.2))))) (Reps.one (show Kd.FK (Kd.slice 84 k84) _ _ t230 [.slice Ao20 t230.length co20] from (Kd.FK_slice_mk (Kd.R_reads' (Kd.R_mono (ok' := (fun k_ => k_ ≠ gb223)) (Kd.R_types (HO232.out) BK223.out (by decide)) (fun k_ hk => hk.2))).2.1 (Kd.R_F (Kd.R_mono (ok' := (fun k_ => k_ ≠ gb223)) (Kd.R_types (HO232.out) BK223.out (by decide)) (fun k_ hk => hk.2))))) (Reps.none _ _))))
          intro v234 w21 ho22 hb hg_ hnew_
          clear hg_ hnew_
          (first | rw [← Ny233.out] at ho22 | (simp only [Int.reduceToNat] at ho22; rw [← Ny233.out] at ho22))
          have n0_ := Aside0.mk (Kd.N_lower ho22 (below_size (by repeat (first | (with_reducible first | exact HB.out | apply below_alloc | apply pw_below_drewN | apply below_drew1 | refine below_set ?_ GE223.out) | exact HB.out))))
          have n1_ := Aside0.mk (blk_below (g := gb223) (o := .cells #[.slice A0_0 l0_0.length c0_0, .slice A0_1 l0_1.length c0_1] 78 (0, 0)) (by (with_reducible repeat (first | refine blk_drewN ?_ _ | refine blk_drew ?_ | refine blk_alloc ?_ _)); exact BK223.out) hb)
          have n2_ := Aside0.mk (below_step (by repeat (first | (with_reducible first | exact HB.out | apply below_alloc | apply pw_below_drewN | apply below_drew1 | refine below_set ?_ GE223.out) | exact HB.out)) hb)
          clear BK223
          clear HB
          clear HO229
          clear HO232
          have HO235 := n0_
          have BK223 := n1_
          have HB := n2_
          clear n0_ n1_ n2_
          clear hb ho22
          refine hK.out _ _ ⟨(blk_cell BK223.out 0).trans rfl, (blk_cell BK223.out 1).trans rfl⟩ (fun hHeld => ?_)
          clear hK K
          refine norm_ (a' := ?_) ?_ ?_
          rotate_left
          · show Act.put _ (some 33) _ = _
            simp only [Act.put, List.setIfInBounds_toArray, List.set_cons_zero, List.set_cons_succ, i64_w, i32_w]
            rfl
          refine pure_ (i := 9) (N := some 8) (v := ?_) (a' := ?_) #[true, true, true, true, true, true, true, true, true, true] rfl rfl (any_of HT_.out (by kernel_rfl)) (fun _ _ _ h => h) (Or.inl ⟨by rfl, ?_⟩) ?_ ?_
          rotate_left
          · intro w'
            go_simp
            with_reducible rfl
          rotate_left
          · simp only [Act.put, List.setIfInBounds_toArray, List.set_cons_zero, List.set_cons_succ, i64_w, i32_w]
            rfl
          refine done_ (done_of HT_.out (by kernel_rfl)) ?_
          try go_wp2
          have n0_ := Aside0.mk (Kd.N_drew HO235.out)
          have n1_ := Aside0.mk (blk_drew BK223.out)
          have n2_ := Aside0.mk (below_drew1 HB.out)
          clear HO235
          clear BK223
          clear HB
          have HO235 := n0_
          have BK223 := n1_
          have HB := n2_
          clear n0_ n1_ n2_
          have p236 : 0 ≤ ((ji11) : Int) := of_decide_eq_true (by first | (with_reducible assumption) | assumption)
          have q236 : (ji11) < (l0_0.length : Int) := of_decide_eq_true (by first | (with_reducible assumption) | assumption)
          obtain ⟨ad236, e236, hx236_0⟩ := Kd.at_int HR0_0.out (ji11) p236 q236
          have hw236_0 := hx236_0
          cases e236
          replace hx236_0 := (HB.out.cell (World.block_lt_of_cell? w _ hx236_0)).trans hx236_0
          replace p236 := eq_true p236
          replace q236 := eq_true q236
          obtain ⟨Ao24, co24, eo24⟩ := Kd.N_slice HO235.out
          (first | subst eo24 | (injection eo24 with f1_ f2_ f3_; have f4_ := f1_.symm; have f5_ := f3_.symm; clear f1_ f2_ f3_; subst f4_; subst f5_))
          have p237 : 0 ≤ (0 : Int) := (by omega)
          have q237 : 0 < (y233.length : Int) := of_decide_eq_true (by first | (with_reducible assumption) | assumption)
          obtain ⟨ad237, A237_0, c237_0, e237, hx237_0, hl237_0, hi237_0⟩ := at_L17 (Kd.N_reads' HO235.out).2.2 0 p237 q237
          cases e237
          obtain ⟨ce237, hce237, hMe237, hcc237⟩ := Kd.N_get HO235.out [] 0 p237 (by first | exact q237 | exact of_decide_eq_true (by first | (with_reducible assumption) | assumption) | (have e_ := (Kd.N_reads' HO235.out).1; omega))
          obtain ⟨ua237_0, uc237_0, rfl, ul237_0, ge237_0⟩ := Kd.FK_slice_open hMe237
          have hv237_0 := hcc237 0 _ rfl
          rw [Nat.add_zero, show ((Kd.slice 84 k84)).sz = 1 from rfl, Nat.mul_one] at hv237_0
          replace hv237_0 := Option.some.inj (hv237_0.symm.trans hx237_0)
          injection hv237_0 with hva_ hvn_ hvc_
          rw [hva_] at ge237_0
          rw [hvc_] at ul237_0
          have HL237_0 := Aside0.mk (show Kd.V k84 84 _ w.heap.size _ _ (rd_L17 y233 0) from Kd.V_mk ul237_0 ge237_0)
          clear hva_ hvn_ hvc_ ge237_0 ul237_0
          clear hcc237 hce237
          have qi237 : (0 < y233.length) = True := eq_true (by omega)
          (try rw [show ((0 : Int)).toNat = 0 from rfl] at hx237_0)
          (try rw [Addr.add_zero'] at hx237_0)
          have HR237_0 := Aside0.mk hi237_0
          have HC237_0 := Aside0.mk hl237_0
          clear hi237_0 hl237_0
          replace p237 := eq_true p237
          replace q237 := eq_true q237
          refine start_ (n := 14) (S := fun w' => w'.cell? ⟨gb223, 0, none⟩ = some (.slice (some ad236) l0_0.length c0_0) ∧ w'.cell? ⟨gb223, 1, none⟩ = some (.slice A0_1 l0_1.length c0_1) ∧ w'.cell? (ad236.add ((ji11)).toNat) = some (.int .u32 (rd l0_0 (ji11))) ∧ w'.cell? ad237 = some (.slice A237_0 (rd_L17 y233 0).length c237_0)) (ds := []) #[false, false, false, false, false, false, false, false, false, false, false, false, false, false] (by kernel_rfl) rfl rfl ⟨(blk_cell BK223.out 0).trans rfl, (blk_cell BK223.out 1).trans rfl, ((HB.out.cell (World.block_lt_of_cell? w _ hw236_0)).trans hw236_0), hx237_0⟩ (fun hHeld => ?_); refine with_tabW compile_plan_part.tab5 compile_plan_part.bits5 (fun HT_ HW_ => ?_)
          generalize w21.drew = w23 at HO235 BK223 HB HL237_0 HR237_0 hx236_0 hx237_0 hHeld ⊢
          refine pure_ (i := 0) (N := some 34) (v := ?_) (a' := ?_) #[true, false, false, false, false, false, false, false, false, false, false, false, false, false] rfl rfl (any_of HT_.out (by kernel_rfl)) (fun _ _ _ h => h) (Or.inl ⟨by rfl, ?_⟩) ?_ ?_
          rotate_left
          · intro w'
            go_simp
            with_reducible rfl
          rotate_left
          · simp only [Act.put, List.setIfInBounds_toArray, List.set_cons_zero, List.set_cons_succ, i64_w, i32_w]
            rfl
          refine pure_ (i := 2) (N := some 36) (v := ?_) (a' := ?_) #[true, false, true, false, false, false, false, false, false, false, false, false, false, false] rfl rfl (any_of HT_.out (by kernel_rfl)) (fun _ _ _ h => h) (Or.inl ⟨by rfl, ?_⟩) ?_ ?_
          rotate_left
          · intro w'
            go_simp
            with_reducible rfl
          rotate_left
          · simp only [Act.put, List.setIfInBounds_toArray, List.set_cons_zero, List.set_cons_succ, i64_w, i32_w]
            rfl
          refine pure_ (i := 6) (N := some 40) (v := ?_) (a' := ?_) #[true, false, true, false, false, false, true, false, false, false, false, false, false, false] rfl rfl (any_of HT_.out (by kernel_rfl)) (fun _ _ _ h => h) (Or.inl ⟨by rfl, ?_⟩) ?_ ?_
          rotate_left
          · intro w'
            go_simp
            with_reducible rfl
          rotate_left
          · simp only [Act.put, List.setIfInBounds_toArray, List.set_cons_zero, List.set_cons_succ, i64_w, i32_w]
            rfl
          refine pure_ (i := 7) (N := some 41) (v := ?_) (a' := ?_) #[true, false, true, false, false, false, true, true, false, false, false, false, false, false] rfl rfl (any_of HT_.out (by kernel_rfl)) (fun _ _ _ h => h) (Or.inl ⟨by rfl, ?_⟩) ?_ ?_
          rotate_left
          · intro w'
            go_simp
            with_reducible rfl
          rotate_left
          · simp only [Act.put, List.setIfInBounds_toArray, List.set_cons_zero, List.set_cons_succ, i64_w, i32_w]
            rfl
          refine take_ (i := 1) (N := some 35) (v := ?_) (a' := ?_) #[true, true, true, false, false, false, true, true, false, false, false, false, false, false] rfl rfl (take_ofW HT_.out HW_.out (by kernel_rfl)) (fun _ _ _ h => h) (Or.inl ⟨by rfl, ?_⟩) hHeld ?_ ?_
          rotate_left
          · rintro w' ⟨s0, s1, s2, s3⟩
            go_simp
            with_reducible rfl
          rotate_left
          · simp only [Act.put, List.setIfInBounds_toArray, List.set_cons_zero, List.set_cons_succ, i64_w, i32_w]
            rfl
          refine pure_ (i := 3) (N := some 37) (v := ?_) (a' := ?_) #[true, true, true, true, false, false, true, true, false, false, false, false, false, false] rfl rfl (any_of HT_.out (by kernel_rfl)) (fun _ _ _ h => h) (Or.inl ⟨by rfl, ?_⟩) ?_ ?_
          rotate_left
          · intro w'
            go_simp
            with_reducible rfl
          rotate_left
          · simp only [Act.put, List.setIfInBounds_toArray, List.set_cons_zero, List.set_cons_succ, i64_w, i32_w]
            rfl
          refine take_ (i := 4) (N := some 38) (v := ?_) (a' := ?_) #[true, true, true, true, true, false, true, true, false, false, false, false, false, false] rfl rfl (take_ofW HT_.out HW_.out (by kernel_rfl)) (fun _ _ _ h => h) (Or.inl ⟨by rfl, ?_⟩) hHeld ?_ ?_
          rotate_left
          · rintro w' ⟨s0, s1, s2, s3⟩
            go_simp
            with_reducible rfl
          rotate_left
          · simp only [Act.put, List.setIfInBounds_toArray, List.set_cons_zero, List.set_cons_succ, i64_w, i32_w]
            rfl
          refine pure_ (i := 5) (N := some 39) (v := ?_) (a' := ?_) #[true, true, true, true, true, true, true, true, false, false, false, false, false, false] rfl rfl (any_of HT_.out (by kernel_rfl)) (fun _ _ _ h => h) (Or.inl ⟨by rfl, ?_⟩) ?_ ?_
          rotate_left
          · intro w'
            go_simp
            with_reducible rfl
          rotate_left
          · simp only [Act.put, List.setIfInBounds_toArray, List.set_cons_zero, List.set_cons_succ, i64_w, i32_w]
            rfl
          refine take_ (i := 8) (N := some 42) (v := ?_) (a' := ?_) #[true, true, true, true, true, true, true, true, true, false, false, false, false, false] rfl rfl (take_ofW HT_.out HW_.out (by kernel_rfl)) (fun _ _ _ h => h) (Or.inl ⟨by rfl, ?_⟩) hHeld ?_ ?_
          rotate_left
          · rintro w' ⟨s0, s1, s2, s3⟩
            go_simp
            with_reducible rfl
          rotate_left
          · simp only [Act.put, List.setIfInBounds_toArray, List.set_cons_zero, List.set_cons_succ, i64_w, i32_w]
            rfl
          refine pure_ (i := 9) (N := some 43) (v := ?_) (a' := ?_) #[true, true, true, true, true, true, true, true, true, true, false, false, false, false] rfl rfl (any_of HT_.out (by kernel_rfl)) (fun _ _ _ h => h) (Or.inl ⟨by rfl, ?_⟩) ?_ ?_
          rotate_left
          · intro w'
            go_simp
            with_reducible rfl
          rotate_left
          · simp only [Act.put, List.setIfInBounds_toArray, List.set_cons_zero, List.set_cons_succ, i64_w, i32_w]
            rfl
          refine pure_ (i := 10) (N := some 44) (v := ?_) (a' := ?_) #[true, true, true, true, true, true, true, true, true, true, true, false, false, false] rfl rfl (any_of HT_.out (by kernel_rfl)) (fun _ _ _ h => h) (Or.inl ⟨by rfl, ?_⟩) ?_ ?_
          rotate_left
          · intro w'
            go_simp
            with_reducible rfl
          rotate_left
          · simp only [Act.put, List.setIfInBounds_toArray, List.set_cons_zero, List.set_cons_succ, i64_w, i32_w]
            rfl
          refine pure_ (i := 11) (N := some 45) (v := ?_) (a' := ?_) #[true, true, true, true, true, true, true, true, true, true, true, true, false, false] rfl rfl (any_of HT_.out (by kernel_rfl)) (fun _ _ _ h => h) (Or.inl ⟨by rfl, ?_⟩) ?_ ?_
          rotate_left
          · intro w'
            go_simp
            with_reducible rfl
          rotate_left
          · simp only [Act.put, List.setIfInBounds_toArray, List.set_cons_zero, List.set_cons_succ, i64_w, i32_w]
            rfl
          refine one_ (i := 12) (N := some 46) #[true, true, true, true, true, true, true, true, true, true, true, true, true, false] rfl rfl (one_of HT_.out (by kernel_rfl)) (by decide) (fun K hK => ?_)
          refine Kd.R_lit_step k84 _ 84 ?hg (N := 46) ?hd (xs := ([(⟨53, 0, 1, rd l0_0 (ji11)⟩ : S84), (⟨5, 0, 0, (((rd_L17 y233 0).length : Int)) % 4294967296⟩ : S84)] : List (S84))) (inner := [.int .u16 53, .int .u8 0, .int .u8 1, .int .u32 (rd l0_0 (ji11)), .int .u16 5, .int .u8 0, .int .u8 0, .int .u32 ((((rd_L17 y233 0).length : Int)) % 4294967296)]) (ok := fun _ => True) (okp := fun _ => True) ?hr ?hp (fun _ hk => hk) trivial (Below.refl _ _) (Nat.le_refl _) (by simp) ?_; (case hd => rfl); (case hg => rfl); (case hr => first | (go_simp; done) | (go_simp; rfl)); (case hp => exact (Reps.c4 (show Kd.M k84 _ _ _ (⟨53, 0, 1, rd l0_0 (ji11)⟩ : S84) [.int .u16 53, .int .u8 0, .int .u8 1, .int .u32 (rd l0_0 (ji11))] from (k84_mkM _ _ _ (⟨53, 0, 1, rd l0_0 (ji11)⟩ : S84) )) (Reps.c4 (show Kd.M k84 _ _ _ (⟨5, 0, 0, (((rd_L17 y233 0).length : Int)) % 4294967296⟩ : S84) [.int .u16 5, .int .u8 0, .int .u8 0, .int .u32 ((((rd_L17 y233 0).length : Int)) % 4294967296)] from (k84_mkM _ _ _ (⟨5, 0, 0, (((rd_L17 y233 0).length : Int)) % 4294967296⟩ : S84) )) (Reps.none _ _))))
          intro v239 w25 ho26 hb hg_ hnew_
          have HS3_ := (hb.cell (World.block_lt_of_cell? _ _ (hHeld.2.2.2))).trans (hHeld.2.2.2)
          clear hg_ hnew_
          (first | rw [← Ny238.out] at ho26 | (simp only [Int.reduceToNat] at ho26; rw [← Ny238.out] at ho26))
          have n0_ := Aside0.mk (Kd.N_elder' (by (with_reducible repeat (first | apply Kd.N_alloc | apply Kd.N_drewN | apply Kd.N_drew)); exact HO235.out) (Kd.R_base ho26) hb)
          have n1_ := Aside0.mk (Kd.V_elder' (by (with_reducible repeat (first | apply Kd.V_alloc | apply Kd.V_drewN | apply Kd.V_drew)); exact HL237_0.out) (Kd.R_base ho26) hb)
          have n2_ := Aside0.mk (Kd.R_lower ho26 (below_size (by repeat (first | (with_reducible first | exact HB.out | apply below_alloc | apply pw_below_drewN | apply below_drew1 | refine below_set ?_ GE223.out) | exact HB.out))))
          have n3_ := Aside0.mk (blk_below (g := gb223) (o := .cells #[.slice (some ad236) l0_0.length c0_0, .slice A0_1 l0_1.length c0_1] 78 (0, 0)) (by (with_reducible repeat (first | refine blk_drewN ?_ _ | refine blk_drew ?_ | refine blk_alloc ?_ _)); exact BK223.out) hb)
          have n4_ := Aside0.mk (Kd.C_below (by repeat (first | (with_reducible exact HR237_0.out) | (with_reducible refine Kd.C_alloc ?_ _) | (with_reducible refine Kd.C_drewN ?_ _) | (with_reducible refine Kd.C_drew ?_) | exact HR237_0.out)) hb)
          have n5_ := Aside0.mk (below_step (by repeat (first | (with_reducible first | exact HB.out | apply below_alloc | apply pw_below_drewN | apply below_drew1 | refine below_set ?_ GE223.out) | exact HB.out)) hb)
          clear HO235
          clear HL237_0
          clear BK223
          clear HR237_0
          clear HB
          have HO235 := n0_
          have HL237_0 := n1_
          have HO240 := n2_
          have BK223 := n3_
          have HR237_0 := n4_
          have HB := n5_
          clear n0_ n1_ n2_ n3_ n4_ n5_
          clear hb ho26
          refine hK.out _ _ ⟨(blk_cell BK223.out 0).trans rfl, (blk_cell BK223.out 1).trans rfl, ((HB.out.cell (World.block_lt_of_cell? w _ hw236_0)).trans hw236_0), HS3_⟩ (fun hHeld => ?_)
          clear hK K
          refine norm_ (a' := ?_) ?_ ?_
          rotate_left
          · show Act.put _ (some 46) _ = _
            simp only [Act.put, List.setIfInBounds_toArray, List.set_cons_zero, List.set_cons_succ, i64_w, i32_w]
            rfl
          refine pure_ (i := 13) (N := some 9) (v := ?_) (a' := ?_) #[true, true, true, true, true, true, true, true, true, true, true, true, true, true] rfl rfl (any_of HT_.out (by kernel_rfl)) (fun _ _ _ h => h) (Or.inl ⟨by rfl, ?_⟩) ?_ ?_
          rotate_left
          · intro w'
            go_simp
            with_reducible rfl
          rotate_left
          · simp only [Act.put, List.setIfInBounds_toArray, List.set_cons_zero, List.set_cons_succ, i64_w, i32_w]
            rfl
          refine done_ (done_of HT_.out (by kernel_rfl)) ?_
          try go_wp2
          go_loopg [9, 49] k (fun kq v9 v49 w' => ∃ (x9_1 : List (S84)) (x49_1 : Int), v49 = .int .i64 x49_1 ∧ Aside0 (compile_plan_part.l0 kq x9_1 y233 (y233.length : Int) x49_1 = some r) ∧ Aside0 (kq ≤ k) ∧ Aside0 (Kd.R k84 84 w' w.heap.size (fun _ => True) v9 x9_1) ∧ Aside0 (Kd.N (Kd.slice 84 k84) 42 w' w.heap.size (fun k_ => some k_ ≠ (v9 : Value).ownBlock ∧ k_ ≠ gb223) (.slice (some ad237) y233.length co24) y233) ∧ Aside0 (w'.heap[gb223]? = some (.cells #[(.slice (some ad236) l0_0.length c0_0), (.slice A0_1 l0_1.length c0_1)] 78 (0, 0))) ∧ Aside0 (Below w.heap.size w w'))
          case atStart => exact ⟨(y238), (0), (by first | rfl | (simp; done) | (simp [*]; done)), H', ⟨Nat.le_refl _⟩, ⟨by (with_reducible repeat (first | apply Kd.R_alloc | apply Kd.R_drewN | apply Kd.R_drew)); exact HO240.out⟩, ⟨by (with_reducible repeat (first | apply Kd.N_alloc | apply Kd.N_drewN | apply Kd.N_drew)); exact Kd.N_mono HO235.out (fun _ hk => ⟨hk.2, hk.1⟩)⟩, ⟨by (with_reducible repeat (first | refine blk_drewN ?_ _ | refine blk_drew ?_ | refine blk_alloc ?_ _)); exact BK223.out⟩, ⟨by repeat (first | (with_reducible first | exact HB.out | apply below_alloc | apply pw_below_drewN | apply below_drew1 | refine below_set ?_ GE223.out) | exact HB.out)⟩⟩
          case round =>
            clear H'
            try clear c1
            try clear c2
            try clear p2
            try clear q2
            try clear hx2
            try clear qi2
            try clear c4
            try clear c4b0
            try clear c4b1
            try clear p6
            try clear c12
            try clear c12b0
            try clear c13
            try clear c13b0
            try clear c14
            try clear c14b0
            try clear c14b1
            try clear c23
            try clear p23
            try clear q23
            try clear hx23
            try clear qi23
            try clear c25
            try clear hcz7_0
            try clear hcz7_1
            try clear hfz7_0
            try clear hfz7_1
            try clear hx236_0
            try clear hx237_0
            try clear p236
            try clear p237
            try clear q236
            try clear q237
            obtain ⟨x9_1, x49_1, rfl, HA, HK1, HO_9, HO_47, BK223, HB⟩ := hrel
            cases gk with
            | zero => exact absurd HA.out (by simp [compile_plan_part.l0])
            | succ k1 =>
              have H := HA.out
              clear HA
              simp only [compile_plan_part.l0] at H
              by_cases c27 : x49_1 < (y233.length : Int)
              · rw [if_pos c27] at H
                have c27b0 : decide (x49_1 < (y233.length : Int)) = true := decide_eq_true c27
                clear c27
                by_cases c28 : 0 ≤ x49_1
                · rw [if_pos c28] at H
                  have c28b0 : decide (0 ≤ x49_1) = true := decide_eq_true c28
                  clear c28
                  by_cases c29 : x49_1 < (y233.length : Int)
                  · rw [if_pos c29] at H
                    have c29b0 : decide (x49_1 < (y233.length : Int)) = true := decide_eq_true c29
                    clear c29
                    by_cases c30 : x9_1.length + (rd_L17 y233 x49_1).length < 17592186044416
                    · rw [if_pos c30] at H
                      have LMc30 := Aside0.mk c30
                      clear c30
                      obtain ⟨y242, hy242⟩ : ∃ y_ : List (S84), y_ = (x9_1 ++ (rd_L17 y233 x49_1)) := ⟨_, rfl⟩
                      replace H : (compile_plan_part.l0 k1 y242 y233 (y233.length : Int) (wrap64 (x49_1 + 1))) = some r := by first | (rw [hy242]; with_reducible exact H) | (have H2_ := (Option.bind_some _ _).symm.trans H; rw [hy242]; with_reducible exact H2_) | (have H2_ := (Option.bind_some _ _).symm.trans H; with_reducible exact H2_) | with_reducible exact H | (rw [hy242]; exact H) | exact H
                      have Ny242 := Aside0.mk hy242
                      clear hy242
                      have H' := Aside0.mk H
                      clear H
                      have p241 : 0 ≤ (x49_1 : Int) := of_decide_eq_true (by first | (with_reducible assumption) | assumption)
                      have q241 : x49_1 < (y233.length : Int) := of_decide_eq_true (by first | (with_reducible assumption) | assumption)
                      obtain ⟨ad241, A241_0, c241_0, e241, hx241_0, hl241_0, hi241_0⟩ := at_L17 (Kd.N_reads' HO_47.out).2.2 x49_1 p241 q241
                      obtain rfl : ad237 = ad241 := (by injection e241)
                      obtain ⟨ce241, hce241, hMe241, hcc241⟩ := Kd.N_get HO_47.out [] x49_1 p241 (by first | exact q241 | exact of_decide_eq_true (by first | (with_reducible assumption) | assumption) | (have e_ := (Kd.N_reads' HO_47.out).1; omega))
                      obtain ⟨ua241_0, uc241_0, rfl, ul241_0, ge241_0⟩ := Kd.FK_slice_open hMe241
                      have hv241_0 := hcc241 0 _ rfl
                      rw [Nat.add_zero, show ((Kd.slice 84 k84)).sz = 1 from rfl, Nat.mul_one] at hv241_0
                      replace hv241_0 := Option.some.inj (hv241_0.symm.trans hx241_0)
                      injection hv241_0 with hva_ hvn_ hvc_
                      rw [hva_] at ge241_0
                      rw [hvc_] at ul241_0
                      have HL241_0 := Aside0.mk (show Kd.V k84 84 _ w.heap.size _ _ (rd_L17 y233 x49_1) from Kd.V_mk ul241_0 ge241_0)
                      clear hva_ hvn_ hvc_ ge241_0 ul241_0
                      clear hcc241 hce241
                      have HR241_0 := Aside0.mk hi241_0
                      have HC241_0 := Aside0.mk hl241_0
                      clear hi241_0 hl241_0
                      replace p241 := eq_true p241
                      replace q241 := eq_true q241
                      go_wp2_with (first | ((with_reducible refine gate_builtin (b := .append) (xs := #[.tmp 53, .tmp 54]) rfl ?_); at_builtin; refine Kd.R_append_rows k84 (w0 := w) w.heap.size rfl (.tmp 53) (.tmp 54) 42 84 (.agg #[(.int .u16 0), (.int .u8 0), (.int .u8 0), (.int .u32 0)]) 8 rfl Try.underlying42 info84 rfl (by decide) (by omega) u9 x9_1 (rd_L17 y233 x49_1) _ _ _ (fun _ => True) (fun _ => False) rfl rfl ?aO ?aR (fun _ _ h => h) (fun _ h => h.elim) ?aF ?aB ?aS ?aL ?_; (case aR => repeat (first | exact (by repeat (first | (with_reducible exact HR241_0.out) | (with_reducible refine Kd.C_alloc ?_ _) | (with_reducible refine Kd.C_drewN ?_ _) | (with_reducible refine Kd.C_drew ?_) | exact HR241_0.out)) | (with_reducible refine Kd.C_alloc ?_ _) | (with_reducible refine Kd.C_drewN ?_ _) | (with_reducible refine Kd.C_drew ?_))); (case aB => exact (by repeat (first | (with_reducible first | exact HB.out | apply below_alloc | apply pw_below_drewN | apply below_drew1 | refine below_set ?_ GE223.out) | exact HB.out))); (case aF => exact (fun _ _ => trivial)); (case aO => exact (by (with_reducible repeat (first | apply Kd.R_alloc | apply Kd.R_drewN | apply Kd.R_drew)); exact HO_9.out)); (case aS => exact (below_size (by repeat (first | (with_reducible first | exact HB.out | apply below_alloc | apply pw_below_drewN | apply below_drew1 | refine below_set ?_ GE223.out) | exact HB.out)))); (case aL => have := LMc30.out; omega); intro v243 w31 ho hb hg hat; rw [← Ny242.out] at ho; have n0_ := Aside0.mk (Kd.N_afterv (ok := (fun k_ => k_ ≠ gb223)) (by (with_reducible repeat (first | apply Kd.N_alloc | apply Kd.N_drewN | apply Kd.N_drew)); exact Kd.N_mono HO_47.out (fun _ hk => ⟨hk.2, hk.1⟩)) hg hat); have n1_ := Aside0.mk (blk_grown (g := gb223) (o := .cells #[.slice (some ad236) l0_0.length c0_0, .slice A0_1 l0_1.length c0_1] 78 (0, 0)) (by (with_reducible repeat (first | refine blk_drewN ?_ _ | refine blk_drew ?_ | refine blk_alloc ?_ _)); exact BK223.out) hg (Kd.R_ne HO_9.out BK223.out (by decide))); have n2_ := Aside0.mk (Kd.V_afterv (ok := (fun k_ => some k_ ≠ (.slice (some ad237) y233.length co24 : Value).ownBlock ∧ k_ ≠ gb223)) (by (with_reducible repeat (first | apply Kd.V_alloc | apply Kd.V_drewN | apply Kd.V_drew)); exact Kd.V_mono HL241_0.out (fun _ hk => ⟨⟨hk.2, hk.1.2⟩, hk.1.1⟩)) hg hat); have n3_ := Aside0.mk (hb); have n4_ := Aside0.mk (ho); clear HO_47; clear BK223; clear HL241_0; clear HB; clear HO_9; have HO_47 := n0_; have BK223 := n1_; have HL241_0 := n2_; have HB := n3_; have HO244 := n4_; clear n0_ n1_ n2_ n3_ n4_; clear ho hb hg hat))
                      go_roundg k1
                      case measure => have := HK1.out; omega
                      case rel => exact ⟨(y242), (wrap64 (x49_1 + 1)), (by first | rfl | (simp; done) | (simp [*]; done)), H', ⟨by have := HK1.out; omega⟩, ⟨by (with_reducible repeat (first | apply Kd.R_alloc | apply Kd.R_drewN | apply Kd.R_drew)); exact HO244.out⟩, ⟨by (with_reducible repeat (first | apply Kd.N_alloc | apply Kd.N_drewN | apply Kd.N_drew)); exact Kd.N_mono HO_47.out (fun _ hk => ⟨hk.2, hk.1⟩)⟩, ⟨by (with_reducible repeat (first | refine blk_drewN ?_ _ | refine blk_drew ?_ | refine blk_alloc ?_ _)); exact BK223.out⟩, ⟨by repeat (first | (with_reducible first | exact HB.out | apply below_alloc | apply pw_below_drewN | apply below_drew1 | refine below_set ?_ GE223.out) | exact HB.out)⟩⟩
                    · rw [if_neg c30] at H
                      exact absurd H (by simp)
                  · rw [if_neg c29] at H
                    exact absurd H (by simp)
                · rw [if_neg c28] at H
                  exact absurd H (by simp)
              · rw [if_neg c27] at H
                have c27b0 : decide (x49_1 < (y233.length : Int)) = false := decide_eq_false c27
                clear c27
                obtain rfl := Option.some.inj H
                go_wp2
                go_ret
                exact ⟨_, by first | rfl | (simp [errW_none, errW_some] <;> rfl) | (simp only [← hji11]; first | rfl | (simp [errW_none, errW_some] <;> rfl)) | (simp [*, errW_none, errW_some] <;> rfl), by (with_reducible repeat (first | apply Kd.R_alloc | apply Kd.R_drewN | apply Kd.R_drew)); exact HO_9.out, by repeat (first | (with_reducible first | exact HB.out | apply below_alloc | apply pw_below_drewN | apply below_drew1 | refine below_set ?_ GE223.out) | exact HB.out)⟩
        · rw [if_neg c14] at H
          exact absurd H (by simp)
      · rw [if_neg c13] at H
        exact absurd H (by simp)
    · rw [if_neg c12] at H
      exact absurd H (by simp)
end Go.Proofs.Ytidnojkijfinaaa.Fns
