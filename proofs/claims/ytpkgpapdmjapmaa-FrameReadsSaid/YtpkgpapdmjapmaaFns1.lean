/- Functions of the program and their contracts, walked. -/
import Derived.Test.YtpkgpapdmjapmaaFns0
namespace Go.Proofs.Ytpkgpapdmjapmaa.Fns
open Go.RowKit Go.Proofs.YtpkgpapdmjapmaaW.PrintWords Go.Proofs.YtpkgpapdmjapmaaW.PrintLast Go.Proofs.YtpkgpapdmjapmaaW.PrintMore
attribute [local go_sem] max2_int min2_int max_two min_two max_three min_three max_four min_four
set_option linter.unusedVariables false
set_option linter.unusedSimpArgs false

/-! ### sum_parts: function 30 -/
def sum_parts.f (a0 : Int) : Option (Int × Int) := some (Int.tmod (Go.bits .and .u32 a0 65535) 65521, Int.tmod (a0 / 65536) 65521)
set_option maxHeartbeats 8000000 in
set_option maxRecDepth 100000 in
theorem sum_parts.calls (a0 : Int) (r1 : Int) (r2 : Int) (w : World) (h : sum_parts.f a0 = some (r1, r2)) :
    Calls Try.prog 30 #[.int .u32 a0] w fun e w' => e = .returned (.tuple #[.int .u32 r1, .int .u32 r2]) ∧ Drawn0 w w' := by
  have H : (some (Int.tmod (Go.bits .and .u32 a0 65535) 65521, Int.tmod (a0 / 65536) 65521)) = some (r1, r2) := h
  clear h
  simp only [Option.some.injEq, Prod.mk.injEq] at H
  obtain ⟨rfl, rfl⟩ := H
  go_enter Try.func30, Try.ntmps30
  go_wp2
  go_ret2
  exact ⟨by first | rfl | (simp; done) | (simp [*]; done), by repeat (first | exact Drawn0.refl _ | apply Drawn0.step)⟩

/-! ### sum_Go: function 27 -/
def sum_Go.l0 : Nat → List Int → Int → Int → Int → Int → Option (Int)
  | 0, _, _, _, _, _ => none
  | k + 1, x1, x5, x6, x14, x15 => if x15 < x14 then (if 0 ≤ x15 then (if x15 < (x1.length : Int) then (sum_Go.l0 k x1 (((x5 + ((rd x1 x15) % 4294967296)) % 4294967296) % 65521) (((x6 + (((x5 + ((rd x1 x15) % 4294967296)) % 4294967296) % 65521)) % 4294967296) % 65521) x14 (wrap64 (x15 + 1))) else (none)) else (none)) else (some (Go.bits .or .u32 ((x6 * 65536) % 4294967296) x5))
def sum_Go.f (k : Nat) (a0 : Int) (l1 : List Int) : Option (Int) := (sum_parts.f a0).bind fun bt101 => (sum_Go.l0 k l1 bt101.1 bt101.2 (l1.length : Int) 0)
theorem sum_Go.mono_l : ∀ k, (∀ y0 y1 y2 y3 y4, LeO (sum_Go.l0 k y0 y1 y2 y3 y4) (sum_Go.l0 (k + 1) y0 y1 y2 y3 y4))
  | 0 => fun _ _ _ _ _ r h => by simp [sum_Go.l0] at h
  | k + 1 => by
    have ih0 := sum_Go.mono_l k
    · intro y0 y1 y2 y3 y4
      unfold sum_Go.l0
      repeat' first
      | (with_reducible exact ih0 _ _ _ _ _)
      | (with_reducible exact LeO.refl _)
      | (with_reducible exact LeO.none _)
      | (with_reducible refine LeO.ite ?_ ?_)
      | (with_reducible refine LeO.bind ?_ (fun _ => ?_))
      | exact ih0 _ _ _ _ _
      | exact LeO.none _
      | refine LeO.ite ?_ ?_
      | refine LeO.bind ?_ (fun _ => ?_)
theorem sum_Go.mono : ∀ a0 a1 k, LeO (sum_Go.f k a0 a1) (sum_Go.f (k + 1) a0 a1) := by
  intro a0 a1 k
  have ih0 := sum_Go.mono_l k
  unfold sum_Go.f
  repeat' first
      | (with_reducible exact ih0 _ _ _ _ _)
      | (with_reducible exact LeO.refl _)
      | (with_reducible exact LeO.none _)
      | (with_reducible refine LeO.ite ?_ ?_)
      | (with_reducible refine LeO.bind ?_ (fun _ => ?_))
      | exact ih0 _ _ _ _ _
      | exact LeO.none _
      | refine LeO.ite ?_ ?_
      | refine LeO.bind ?_ (fun _ => ?_)
set_option maxHeartbeats 8000000 in
set_option maxRecDepth 100000 in
theorem sum_Go.calls (k : Nat) (a0 : Int) (A1 : Option Addr) (c1 : Nat) (l1 : List Int) (r : Int) (w : World) (hr1 : Kd.C (Kd.int .u8) w A1 l1.length l1) (hc1 : l1.length ≤ c1) (h : sum_Go.f k a0 l1 = some r) :
    Calls Try.prog 27 #[.int .u32 a0, .slice A1 l1.length c1] w fun e w' => e = .returned (.int .u32 r) ∧ Drawn0 w w' := by
  have HR1 := Aside0.mk hr1
  have HC1 := Aside0.mk hc1
  clear hr1 hc1
  have H : ((sum_parts.f a0).bind fun bt101 => (sum_Go.l0 k l1 bt101.1 bt101.2 (l1.length : Int) 0)) = some r := h
  clear h
  replace H := Option.bind_eq_some_iff.mp H
  obtain ⟨⟨t101, t102⟩, A30, H⟩ := H
  replace H : (sum_Go.l0 k l1 t101 t102 (l1.length : Int) 0) = some r := H
  have A3 := Aside0.mk A30
  clear A30
  have H' := Aside0.mk H
  clear H
  go_enter Try.func27, Try.ntmps27
  go_wp2_with (first | ((with_reducible refine gate_callee (f := 30) rfl ?_); refine goesL_ (some 10) rfl rfl Try.func30 (by kernel_rfl) rfl #[.int .u32 a0] rfl (by (try simp only [List.map_toArray, List.map_cons, List.map_nil]); first | done | rfl | (simp only [List.length_drop, List.length_take]; rfl)) ?_; (with_reducible refine (sum_parts.calls a0 t101 t102 _ A3.out).mono ?_); rintro e w' ⟨rfl, ⟨nd, rfl⟩⟩; refine ⟨_, rfl, ?_⟩))
  go_loopg [5, 6, 15] k (fun kq v5 v6 v15 w' => ∃ (x5_1 : Int) (x6_1 : Int) (x15_1 : Int), v5 = .int .u32 x5_1 ∧ v6 = .int .u32 x6_1 ∧ v15 = .int .i64 x15_1 ∧ Aside0 (sum_Go.l0 kq l1 x5_1 x6_1 (l1.length : Int) x15_1 = some r) ∧ Aside0 (kq ≤ k) ∧ Drawn0 w w')
  case atStart => exact ⟨(t101), (t102), (0), (by first | rfl | (simp; done) | (simp [*]; done)), (by first | rfl | (simp; done) | (simp [*]; done)), (by first | rfl | (simp; done) | (simp [*]; done)), H', ⟨Nat.le_refl _⟩, by repeat (first | exact Drawn0.refl _ | apply Drawn0.step)⟩
  case round =>
    clear H'
    try clear c1
    try clear c2
    try clear p2
    try clear c3
    obtain ⟨x5_1, x6_1, x15_1, rfl, rfl, rfl, HA, HK1, ⟨m1, rfl⟩⟩ := hrel
    cases gk with
    | zero => exact absurd HA.out (by simp [sum_Go.l0])
    | succ k1 =>
      have H := HA.out
      clear HA
      simp only [sum_Go.l0] at H
      by_cases c4 : x15_1 < (l1.length : Int)
      · rw [if_pos c4] at H
        have c4b0 : decide (x15_1 < (l1.length : Int)) = true := decide_eq_true c4
        clear c4
        by_cases c5 : 0 ≤ x15_1
        · rw [if_pos c5] at H
          have c5b0 : decide (0 ≤ x15_1) = true := decide_eq_true c5
          clear c5
          by_cases c6 : x15_1 < (l1.length : Int)
          · rw [if_pos c6] at H
            have c6b0 : decide (x15_1 < (l1.length : Int)) = true := decide_eq_true c6
            clear c6
            have H' := Aside0.mk H
            clear H
            have p103 : 0 ≤ (x15_1 : Int) := of_decide_eq_true (by first | (with_reducible assumption) | assumption)
            have q103 : x15_1 < (l1.length : Int) := of_decide_eq_true (by first | (with_reducible assumption) | assumption)
            obtain ⟨ad103, e103, hx103_0⟩ := Kd.at_int HR1.out x15_1 p103 q103
            cases e103
            replace p103 := eq_true p103
            replace q103 := eq_true q103
            go_wp2
            go_roundg k1
            case measure => have := HK1.out; omega
            case rel => exact ⟨(((x5_1 + ((rd l1 x15_1) % 4294967296)) % 4294967296) % 65521), (((x6_1 + (((x5_1 + ((rd l1 x15_1) % 4294967296)) % 4294967296) % 65521)) % 4294967296) % 65521), (wrap64 (x15_1 + 1)), (by first | rfl | (simp; done) | (simp [*]; done)), (by first | rfl | (simp; done) | (simp [*]; done)), (by first | rfl | (simp; done) | (simp [*]; done)), H', ⟨by have := HK1.out; omega⟩, by repeat (first | exact Drawn0.refl _ | apply Drawn0.step)⟩
          · rw [if_neg c6] at H
            exact absurd H (by simp)
        · rw [if_neg c5] at H
          exact absurd H (by simp)
      · rw [if_neg c4] at H
        have c4b0 : decide (x15_1 < (l1.length : Int)) = false := decide_eq_false c4
        clear c4
        obtain rfl := Option.some.inj H
        go_wp2
        go_ret
        exact ⟨by first | rfl | (simp; done) | (simp [*]; done), by repeat (first | exact Drawn0.refl _ | apply Drawn0.step)⟩

/-! ### sum_Of: function 28 -/
def sum_Of.f (k : Nat) (l0 : List Int) : Option (Int) := (sum_Go.f k 1 l0).bind fun t104 => (some t104)
theorem sum_Of.mono : ∀ a0 k, LeO (sum_Of.f k a0) (sum_Of.f (k + 1) a0) := by
  intro a0 k
  unfold sum_Of.f
  repeat' first
      | (with_reducible exact sum_Go.mono _ _ _)
      | (with_reducible exact LeO.refl _)
      | (with_reducible exact LeO.none _)
      | (with_reducible refine LeO.ite ?_ ?_)
      | (with_reducible refine LeO.bind ?_ (fun _ => ?_))
      | exact sum_Go.mono _ _ _
      | exact LeO.none _
      | refine LeO.ite ?_ ?_
      | refine LeO.bind ?_ (fun _ => ?_)
set_option maxHeartbeats 8000000 in
set_option maxRecDepth 100000 in
theorem sum_Of.calls (k : Nat) (A0 : Option Addr) (c0 : Nat) (l0 : List Int) (r : Int) (w : World) (hr0 : Kd.C (Kd.int .u8) w A0 l0.length l0) (hc0 : l0.length ≤ c0) (h : sum_Of.f k l0 = some r) :
    Calls Try.prog 28 #[.slice A0 l0.length c0] w fun e w' => e = .returned (.int .u32 r) ∧ Drawn0 w w' := by
  have HR0 := Aside0.mk hr0
  have HC0 := Aside0.mk hc0
  clear hr0 hc0
  have H : ((sum_Go.f k 1 l0).bind fun t104 => (some t104)) = some r := h
  clear h
  replace H := Option.bind_eq_some_iff.mp H
  obtain ⟨t104, A20, H⟩ := H
  replace H : (some t104) = some r := H
  have A2 := Aside0.mk A20
  clear A20
  obtain rfl := Option.some.inj H
  go_enter Try.func28, Try.ntmps28
  go_wp2_with (first | ((with_reducible refine gate_callee (f := 27) rfl ?_); refine goesL_ (some 4) rfl rfl Try.func27 (by kernel_rfl) rfl #[.int .u32 1, .slice A0 l0.length c0] rfl (by (try simp only [List.map_toArray, List.map_cons, List.map_nil]); first | done | rfl | (simp only [List.length_drop, List.length_take]; rfl)) ?_; (with_reducible refine (sum_Go.calls k 1 _ _ l0 t104 _ ?side1 ?side2 A2.out).mono ?_); (case side1 => repeat (first | exact HR0.out | (with_reducible refine Kd.C_alloc ?_ _) | (with_reducible refine Kd.C_drewN ?_ _) | (with_reducible refine Kd.C_drew ?_))); (case side2 => exact HC0.out); rintro e w' ⟨rfl, ⟨nd, rfl⟩⟩; refine ⟨_, rfl, ?_⟩))
  go_ret
  exact ⟨by first | rfl | (simp; done) | (simp [*]; done), by repeat (first | exact Drawn0.refl _ | apply Drawn0.step)⟩

/-! ### frame_of: function 20 -/
def frame_of.f (k : Nat) (l0 : List Int) : Option (Int × Int) := (sum_Of.f k (([((l0.length : Int) / 256) % 256, ((l0.length : Int)) % 256] : List Int))).bind fun t109 => ((sum_Go.f k t109 l0).bind fun t110 => (some ((l0.length : Int), t110)))
theorem frame_of.mono : ∀ a0 k, LeO (frame_of.f k a0) (frame_of.f (k + 1) a0) := by
  intro a0 k
  unfold frame_of.f
  repeat' first
      | (with_reducible exact sum_Go.mono _ _ _)
      | (with_reducible exact sum_Of.mono _ _)
      | (with_reducible exact LeO.refl _)
      | (with_reducible exact LeO.none _)
      | (with_reducible refine LeO.ite ?_ ?_)
      | (with_reducible refine LeO.bind ?_ (fun _ => ?_))
      | exact sum_Go.mono _ _ _
      | exact sum_Of.mono _ _
      | exact LeO.none _
      | refine LeO.ite ?_ ?_
      | refine LeO.bind ?_ (fun _ => ?_)
set_option maxHeartbeats 8000000 in
set_option maxRecDepth 100000 in
theorem frame_of.calls (k : Nat) (A0 : Option Addr) (c0 : Nat) (l0 : List Int) (r1 : Int) (r2 : Int) (w : World) (hr0 : Kd.C (Kd.int .u8) w A0 l0.length l0) (hc0 : l0.length ≤ c0) (h : frame_of.f k l0 = some (r1, r2)) :
    Calls Try.prog 20 #[.slice A0 l0.length c0] w fun e w' => e = .returned (.agg #[.int .i64 r1, .int .u32 r2]) ∧ Below w.heap.size w w' := by
  have hu48 := Try.underlying48
  have HR0 := Aside0.mk hr0
  have HC0 := Aside0.mk hc0
  clear hr0 hc0
  have HB := Aside0.mk (Below.refl w.heap.size w)
  have H : ((sum_Of.f k (([((l0.length : Int) / 256) % 256, ((l0.length : Int)) % 256] : List Int))).bind fun t109 => ((sum_Go.f k t109 l0).bind fun t110 => (some ((l0.length : Int), t110)))) = some (r1, r2) := h
  clear h
  obtain ⟨y106, hy106⟩ : ∃ y_ : List Int, y_ = (([((l0.length : Int) / 256) % 256, ((l0.length : Int)) % 256] : List Int)) := ⟨_, rfl⟩
  replace H : ((sum_Of.f k y106).bind fun t109 => ((sum_Go.f k t109 l0).bind fun t110 => (some ((l0.length : Int), t110)))) = some (r1, r2) := by first | (rw [hy106]; with_reducible exact H) | (have H2_ := (Option.bind_some _ _).symm.trans H; rw [hy106]; with_reducible exact H2_) | (have H2_ := (Option.bind_some _ _).symm.trans H; with_reducible exact H2_) | with_reducible exact H | (rw [hy106]; exact H) | exact H
  have Ny106 := Aside0.mk hy106
  clear hy106
  replace H := Option.bind_eq_some_iff.mp H
  obtain ⟨t109, A20, H⟩ := H
  replace H : ((sum_Go.f k t109 l0).bind fun t110 => (some ((l0.length : Int), t110))) = some (r1, r2) := H
  have A2 := Aside0.mk A20
  clear A20
  replace H := Option.bind_eq_some_iff.mp H
  obtain ⟨t110, A30, H⟩ := H
  replace H : (some ((l0.length : Int), t110)) = some (r1, r2) := H
  have A3 := Aside0.mk A30
  clear A30
  simp only [Option.some.injEq, Prod.mk.injEq] at H
  obtain ⟨rfl, rfl⟩ := H
  go_enter Try.func20, Try.ntmps20
  go_wp2_with (first | ((with_reducible refine gate_dst (N := 2) rfl ?_); refine box_event ?hg (N := 2) ?hd (cs := #[.int .i64 0, .int .u32 0]) (t := 48) ?hr ?_; (case hd => rfl); (case hg => rfl); (case hr => first | (go_simp; done) | (go_simp; rfl)); intro gb105 hg w4 hbox hb; have n0_ := Aside0.mk (below_step (by repeat (first | (with_reducible first | exact HB.out | apply below_alloc | apply pw_below_drewN | apply below_drew1) | exact HB.out)) hb); have n1_ := Aside0.mk (hbox); have n2_ := Aside0.mk ((by rw [hg]; exact (below_size (by repeat (first | (with_reducible first | exact HB.out | apply below_alloc | apply pw_below_drewN | apply below_drew1) | exact HB.out))) : w.heap.size ≤ gb105)); have n3_ := Aside0.mk ((by rw [hg]; exact (below_size (by repeat (first | (with_reducible first | exact HB.out | apply below_alloc | apply pw_below_drewN | apply below_drew1) | exact HB.out))) : w.heap.size ≤ gb105)); clear HB; have HB := n0_; have BK105 := n1_; have GW105 := n2_; have GE105 := n3_; clear n0_ n1_ n2_ n3_; clear hb hbox hg) | ((with_reducible refine gate_dst (N := 12) rfl ?_); refine Kd.R_lit (Kd.int .u8) _ 5 ?hg (N := 12) ?hd (xs := ([((l0.length : Int) / 256) % 256, ((l0.length : Int)) % 256] : List Int)) (inner := [.int .u8 (((l0.length : Int) / 256) % 256), .int .u8 (((l0.length : Int)) % 256)]) (ok := fun _ => True) (okp := fun _ => True) ?hr ?hp (fun _ hk => hk) trivial (Below.refl _ _) (Nat.le_refl _) (by simp) ?_; (case hd => rfl); (case hg => rfl); (case hr => first | (go_simp; done) | (go_simp; rfl)); (case hp => exact (Reps.one (show Kd.M (Kd.int .u8) _ _ _ (((l0.length : Int) / 256) % 256) [.int .u8 (((l0.length : Int) / 256) % 256)] from rfl) (Reps.one (show Kd.M (Kd.int .u8) _ _ _ (((l0.length : Int)) % 256) [.int .u8 (((l0.length : Int)) % 256)] from rfl) (Reps.none _ _)))); intro v107 w5 ho6 hb hg_ hnew_; clear hg_ hnew_; (first | rw [← Ny106.out] at ho6 | (simp only [Int.reduceToNat] at ho6; rw [← Ny106.out] at ho6)); have n0_ := Aside0.mk (Kd.R_lower ho6 (below_size (by repeat (first | (with_reducible first | exact HB.out | apply below_alloc | apply pw_below_drewN | apply below_drew1 | refine below_set ?_ GE105.out) | exact HB.out)))); have n1_ := Aside0.mk (blk_below (g := gb105) (o := .cells #[.int .i64 0, .int .u32 0] 48 (0, 0)) (by (with_reducible repeat (first | refine blk_drewN ?_ _ | refine blk_drew ?_ | refine blk_alloc ?_ _)); exact BK105.out) hb); have n2_ := Aside0.mk (below_step (by repeat (first | (with_reducible first | exact HB.out | apply below_alloc | apply pw_below_drewN | apply below_drew1 | refine below_set ?_ GE105.out) | exact HB.out)) hb); clear BK105; clear HB; have HO108 := n0_; have BK105 := n1_; have HB := n2_; clear n0_ n1_ n2_; clear hb ho6; obtain ⟨Ao7, co7, eo7⟩ := Kd.R_slice HO108.out; subst eo7) | ((with_reducible refine gate_callee (f := 28) rfl ?_); refine goesL_ (some 13) rfl rfl Try.func28 (by kernel_rfl) rfl #[.slice Ao7 y106.length co7] rfl (by (try simp only [List.map_toArray, List.map_cons, List.map_nil]); first | done | rfl | (simp only [List.length_drop, List.length_take]; rfl)) ?_; (with_reducible refine (sum_Of.calls k _ _ y106 t109 _ ?side1 ?side2 A2.out).mono ?_); (case side1 => repeat (first | exact (Kd.R_reads' HO108.out).2.2 | (with_reducible refine Kd.C_alloc ?_ _) | (with_reducible refine Kd.C_drewN ?_ _) | (with_reducible refine Kd.C_drew ?_))); (case side2 => exact (Kd.R_reads' HO108.out).2.1); rintro e w' ⟨rfl, ⟨nd, rfl⟩⟩; refine ⟨_, rfl, ?_⟩; (try (rw [drewN_self w5]; generalize hq_ : World.drewN w5 _ = w5; have n0_ : Aside0 (Kd.R (Kd.int .u8) 5 w5 w.heap.size (fun _ => True) (.slice Ao7 y106.length co7) y106) := ⟨by rw [← hq_]; exact (by (with_reducible repeat (first | apply Kd.R_alloc | apply Kd.R_drewN | apply Kd.R_drew)); exact HO108.out)⟩; have n1_ : Aside0 (w5.heap[gb105]? = some (.cells #[.int .i64 0, .int .u32 0] 48 (0, 0))) := ⟨by rw [← hq_]; exact (by (with_reducible repeat (first | refine blk_drewN ?_ _ | refine blk_drew ?_ | refine blk_alloc ?_ _)); exact BK105.out)⟩; have n2_ : Aside0 (Below w.heap.size w w5) := ⟨by rw [← hq_]; exact (by repeat (first | (with_reducible first | exact HB.out | apply below_alloc | apply pw_below_drewN | apply below_drew1 | refine below_set ?_ GE105.out) | exact HB.out))⟩; clear HO108 BK105 HB hq_; have HO108 := n0_; have BK105 := n1_; have HB := n2_; clear n0_ n1_ n2_))) | ((with_reducible refine gate_callee (f := 27) rfl ?_); refine goesL_ (some 15) rfl rfl Try.func27 (by kernel_rfl) rfl #[.int .u32 t109, .slice A0 l0.length c0] rfl (by (try simp only [List.map_toArray, List.map_cons, List.map_nil]); first | done | rfl | (simp only [List.length_drop, List.length_take]; rfl)) ?_; (with_reducible refine (sum_Go.calls k t109 _ _ l0 t110 _ ?side1 ?side2 A3.out).mono ?_); (case side1 => repeat (first | exact (Kd.C_below HR0.out HB.out) | (with_reducible refine Kd.C_alloc ?_ _) | (with_reducible refine Kd.C_drewN ?_ _) | (with_reducible refine Kd.C_drew ?_))); (case side2 => exact HC0.out); rintro e w' ⟨rfl, ⟨nd, rfl⟩⟩; refine ⟨_, rfl, ?_⟩; (try (rw [drewN_self w5]; generalize hq_ : World.drewN w5 _ = w5; have n0_ : Aside0 (Kd.R (Kd.int .u8) 5 w5 w.heap.size (fun _ => True) (.slice Ao7 y106.length co7) y106) := ⟨by rw [← hq_]; exact (by (with_reducible repeat (first | apply Kd.R_alloc | apply Kd.R_drewN | apply Kd.R_drew)); exact HO108.out)⟩; have n1_ : Aside0 (w5.heap[gb105]? = some (.cells #[.int .i64 0, .int .u32 0] 48 (0, 0))) := ⟨by rw [← hq_]; exact (by (with_reducible repeat (first | refine blk_drewN ?_ _ | refine blk_drew ?_ | refine blk_alloc ?_ _)); exact BK105.out)⟩; have n2_ : Aside0 (Below w.heap.size w w5) := ⟨by rw [← hq_]; exact (by repeat (first | (with_reducible first | exact HB.out | apply below_alloc | apply pw_below_drewN | apply below_drew1 | refine below_set ?_ GE105.out) | exact HB.out))⟩; clear HO108 BK105 HB hq_; have HO108 := n0_; have BK105 := n1_; have HB := n2_; clear n0_ n1_ n2_)); have hcz8_0 : w5.cell? ⟨gb105, 0, none⟩ = some (.int .i64 0) := (blk_cell BK105.out 0).trans rfl; have hcz8_1 : w5.cell? ⟨gb105, 1, none⟩ = some (.int .u32 0) := (blk_cell BK105.out 1).trans rfl; have hfz8_0 := blk_frozen BK105.out 0; have hfz8_1 := blk_frozen BK105.out 1))
  refine bodyPost_ret (results_cell_row rfl _ _ gb105 48 #[.int .i64 (l0.length : Int), .int .u32 t110] (0, 0) _ rfl (by (with_reducible repeat (first | refine blk_drewN ?_ _ | refine blk_drew ?_ | refine blk_alloc ?_ _)); refine blk_put (cs := #[.int .i64 (l0.length : Int), .int .u32 0]) ?_ 1 _ rfl; (with_reducible repeat (first | refine blk_drewN ?_ _ | refine blk_drew ?_ | refine blk_alloc ?_ _)); refine blk_put (cs := #[.int .i64 0, .int .u32 0]) ?_ 0 _ rfl; (with_reducible repeat (first | refine blk_drewN ?_ _ | refine blk_drew ?_ | refine blk_alloc ?_ _)); exact BK105.out) Try.underlying48 rfl (by kernel_rfl)) rfl ?_
  exact ⟨by first | rfl | (simp [errW_none, errW_some] <;> rfl) | (simp [*, errW_none, errW_some] <;> rfl), by repeat (first | (with_reducible first | exact HB.out | apply below_alloc | apply pw_below_drewN | apply below_drew1 | refine below_set ?_ GE105.out) | exact HB.out)⟩

/-! ### frame_Frame: function 10 -/
def frame_Frame.f (k : Nat) (l0 : List Int) : Option (List Int × Int) := if (l0.length : Int) = 0 then (some (([] : List Int), 10)) else (if (l0.length : Int) > 512 then (some (([] : List Int), 4)) else ((frame_of.f k l0).bind fun bt111 => ((some (([102, 76, (bt111.1 / 256) % 256, (bt111.1) % 256, (bt111.2 / 16777216) % 256, (bt111.2 / 65536) % 256, (bt111.2 / 256) % 256, (bt111.2) % 256] : List Int) : List Int)).bind fun y114 => (if y114.length + l0.length < 140737488355328 then (some ((y114 ++ l0), 0)) else (none)))))
theorem frame_Frame.mono : ∀ a0 k, LeO (frame_Frame.f k a0) (frame_Frame.f (k + 1) a0) := by
  intro a0 k
  unfold frame_Frame.f
  repeat' first
      | (with_reducible exact frame_of.mono _ _)
      | (with_reducible exact LeO.refl _)
      | (with_reducible exact LeO.none _)
      | (with_reducible refine LeO.ite ?_ ?_)
      | (with_reducible refine LeO.bind ?_ (fun _ => ?_))
      | exact frame_of.mono _ _
      | exact LeO.none _
      | refine LeO.ite ?_ ?_
      | refine LeO.bind ?_ (fun _ => ?_)
set_option maxHeartbeats 8000000 in
set_option maxRecDepth 100000 in
theorem frame_Frame.calls (k : Nat) (A0 : Option Addr) (c0 : Nat) (l0 : List Int) (r1 : List Int) (r2 : Int) (w : World) (hr0 : Kd.C (Kd.int .u8) w A0 l0.length l0) (hc0 : l0.length ≤ c0) (h : frame_Frame.f k l0 = some (r1, r2)) :
    Calls Try.prog 10 #[.slice A0 l0.length c0] w fun e w' => ∃ v0_ : Value, e = .returned (.tuple #[v0_, .int .i64 r2]) ∧ Kd.R (Kd.int .u8) 5 w' w.heap.size (fun _ => True) v0_ r1 ∧ Below w.heap.size w w' := by
  have hu48 := Try.underlying48
  have HR0 := Aside0.mk hr0
  have HC0 := Aside0.mk hc0
  clear hr0 hc0
  have HB := Aside0.mk (Below.refl w.heap.size w)
  have H : (if (l0.length : Int) = 0 then (some (([] : List Int), 10)) else (if (l0.length : Int) > 512 then (some (([] : List Int), 4)) else ((frame_of.f k l0).bind fun bt111 => ((some (([102, 76, (bt111.1 / 256) % 256, (bt111.1) % 256, (bt111.2 / 16777216) % 256, (bt111.2 / 65536) % 256, (bt111.2 / 256) % 256, (bt111.2) % 256] : List Int) : List Int)).bind fun y114 => (if y114.length + l0.length < 140737488355328 then (some ((y114 ++ l0), 0)) else (none)))))) = some (r1, r2) := h
  clear h
  by_cases c2 : (l0.length : Int) = 0
  · rw [if_pos c2] at H
    have c2b0 : ((l0.length : Int) == 0) = true := beq_iff_eq.mpr c2
    have c2b1 : ((l0.length : Int) != 0) = false := bne_eq_false_iff_eq.mpr c2
    clear c2
    simp only [Option.some.injEq, Prod.mk.injEq] at H
    obtain ⟨rfl, rfl⟩ := H
    go_enter Try.func10, Try.ntmps10
    go_wp2
    go_ret2
    exact ⟨_, by first | rfl | (simp [errW_none, errW_some] <;> rfl) | (simp [*, errW_none, errW_some] <;> rfl), by first | exact Kd.R_nil _ _ _ _ _ | exact Kd.N_nil _ _ _ _ _ | exact Kd.V_nil _ _ _ _ _ | exact Kd.Q_nil _ _ _ _ _ | exact Kd.S_nil _ _ _ _ _, by repeat (first | (with_reducible first | exact HB.out | apply below_alloc | apply pw_below_drewN | apply below_drew1) | exact HB.out)⟩
  · rw [if_neg c2] at H
    have c2b0 : ((l0.length : Int) == 0) = false := beq_eq_false_iff_ne.mpr c2
    have c2b1 : ((l0.length : Int) != 0) = true := bne_iff_ne.mpr c2
    have c2b2 : ¬ (l0 = []) := fun h_ => c2 (by rw [h_]; rfl)
    by_cases c3 : (l0.length : Int) > 512
    · rw [if_pos c3] at H
      have c3b0 : decide (512 < (l0.length : Int)) = true := decide_eq_true c3
      have c3b1 : decide (512 < l0.length) = true := decide_eq_true (by omega)
      clear c3
      simp only [Option.some.injEq, Prod.mk.injEq] at H
      obtain ⟨rfl, rfl⟩ := H
      go_enter Try.func10, Try.ntmps10
      go_wp2
      go_ret2
      exact ⟨_, by first | rfl | (simp [errW_none, errW_some] <;> rfl) | (simp [*, errW_none, errW_some] <;> rfl), by first | exact Kd.R_nil _ _ _ _ _ | exact Kd.N_nil _ _ _ _ _ | exact Kd.V_nil _ _ _ _ _ | exact Kd.Q_nil _ _ _ _ _ | exact Kd.S_nil _ _ _ _ _, by repeat (first | (with_reducible first | exact HB.out | apply below_alloc | apply pw_below_drewN | apply below_drew1) | exact HB.out)⟩
    · rw [if_neg c3] at H
      have c3b0 : decide (512 < (l0.length : Int)) = false := decide_eq_false c3
      have c3b1 : decide (512 < l0.length) = false := decide_eq_false (by omega)
      clear c3
      replace H := Option.bind_eq_some_iff.mp H
      obtain ⟨⟨t111, t112⟩, A40, H⟩ := H
      replace H : ((some (([102, 76, (t111 / 256) % 256, (t111) % 256, (t112 / 16777216) % 256, (t112 / 65536) % 256, (t112 / 256) % 256, (t112) % 256] : List Int) : List Int)).bind fun y114 => (if y114.length + l0.length < 140737488355328 then (some ((y114 ++ l0), 0)) else (none))) = some (r1, r2) := H
      have A4 := Aside0.mk A40
      clear A40
      obtain ⟨y114, hy114⟩ : ∃ y_ : List Int, y_ = (([102, 76, (t111 / 256) % 256, (t111) % 256, (t112 / 16777216) % 256, (t112 / 65536) % 256, (t112 / 256) % 256, (t112) % 256] : List Int)) := ⟨_, rfl⟩
      replace H : (if y114.length + l0.length < 140737488355328 then (some ((y114 ++ l0), 0)) else (none)) = some (r1, r2) := by first | (rw [hy114]; with_reducible exact H) | (have H2_ := (Option.bind_some _ _).symm.trans H; rw [hy114]; with_reducible exact H2_) | (have H2_ := (Option.bind_some _ _).symm.trans H; with_reducible exact H2_) | with_reducible exact H | (rw [hy114]; exact H) | exact H
      have Ny114 := Aside0.mk hy114
      clear hy114
      by_cases c5 : y114.length + l0.length < 140737488355328
      · rw [if_pos c5] at H
        have LMc5 := Aside0.mk c5
        clear c5
        obtain ⟨y117, hy117⟩ : ∃ y_ : List Int, y_ = (y114 ++ l0) := ⟨_, rfl⟩
        replace H : (some (y117, 0)) = some (r1, r2) := by first | (rw [hy117]; with_reducible exact H) | (have H2_ := (Option.bind_some _ _).symm.trans H; rw [hy117]; with_reducible exact H2_) | (have H2_ := (Option.bind_some _ _).symm.trans H; with_reducible exact H2_) | with_reducible exact H | (rw [hy117]; exact H) | exact H
        have Ny117 := Aside0.mk hy117
        clear hy117
        simp only [Option.some.injEq, Prod.mk.injEq] at H
        obtain ⟨rfl, rfl⟩ := H
        go_enter Try.func10, Try.ntmps10
        go_wp2_with (first | ((with_reducible refine gate_callee (f := 20) rfl ?_); refine goesL_ (some 13) rfl rfl Try.func20 (by kernel_rfl) rfl #[.slice A0 l0.length c0] rfl (by (try simp only [List.map_toArray, List.map_cons, List.map_nil]); first | done | rfl | (simp only [List.length_drop, List.length_take]; rfl)) ?_; (with_reducible refine (frame_of.calls k _ _ l0 t111 t112 _ ?side1 ?side2 A4.out).mono ?_); (case side1 => repeat (first | exact HR0.out | (with_reducible refine Kd.C_alloc ?_ _) | (with_reducible refine Kd.C_drewN ?_ _) | (with_reducible refine Kd.C_drew ?_))); (case side2 => exact HC0.out); rintro e w6 ⟨rfl, hb⟩; refine ⟨_, rfl, ?_⟩; have n0_ := Aside0.mk (below_step (by repeat (first | (with_reducible first | exact HB.out | apply below_alloc | apply pw_below_drewN | apply below_drew1) | exact HB.out)) hb); clear HB; have HB := n0_; clear n0_; (try clear hb); (try clear hb2); (try clear hk); (try clear hi)) | ((with_reducible refine gate_dst (N := 4) rfl ?_); refine box_event ?hg (N := 4) ?hd (cs := #[.int .i64 0, .int .u32 0]) (t := 48) ?hr ?_; (case hd => rfl); (case hg => rfl); (case hr => first | (go_simp; done) | (go_simp; rfl)); intro gb113 hg w7 hbox hb; have n0_ := Aside0.mk (below_step (by repeat (first | (with_reducible first | exact HB.out | apply below_alloc | apply pw_below_drewN | apply below_drew1) | exact HB.out)) hb); have n1_ := Aside0.mk (hbox); have n2_ := Aside0.mk ((by rw [hg]; exact (below_size (by repeat (first | (with_reducible first | exact HB.out | apply below_alloc | apply pw_below_drewN | apply below_drew1) | exact HB.out))) : w.heap.size ≤ gb113)); have n3_ := Aside0.mk ((by rw [hg]; exact (below_size (by repeat (first | (with_reducible first | exact HB.out | apply below_alloc | apply pw_below_drewN | apply below_drew1) | exact HB.out))) : w.heap.size ≤ gb113)); clear HB; have HB := n0_; have BK113 := n1_; have GW113 := n2_; have GE113 := n3_; clear n0_ n1_ n2_ n3_; clear hb hbox hg; have hcz8_0 : w7.cell? ⟨gb113, 0, none⟩ = some (.int .i64 0) := (blk_cell BK113.out 0).trans rfl; have hcz8_1 : w7.cell? ⟨gb113, 1, none⟩ = some (.int .u32 0) := (blk_cell BK113.out 1).trans rfl; have hfz8_0 := blk_frozen BK113.out 0; have hfz8_1 := blk_frozen BK113.out 1) | ((with_reducible refine gate_dst (N := 36) rfl ?_); refine Kd.R_lit (Kd.int .u8) _ 5 ?hg (N := 36) ?hd (xs := ([102, 76, (t111 / 256) % 256, (t111) % 256, (t112 / 16777216) % 256, (t112 / 65536) % 256, (t112 / 256) % 256, (t112) % 256] : List Int)) (inner := [.int .u8 102, .int .u8 76, .int .u8 ((t111 / 256) % 256), .int .u8 ((t111) % 256), .int .u8 ((t112 / 16777216) % 256), .int .u8 ((t112 / 65536) % 256), .int .u8 ((t112 / 256) % 256), .int .u8 ((t112) % 256)]) (ok := fun _ => True) (okp := fun _ => True) ?hr ?hp (fun _ hk => hk) trivial (Below.refl _ _) (Nat.le_refl _) (by simp) ?_; (case hd => rfl); (case hg => rfl); (case hr => first | (go_simp; done) | (go_simp; rfl)); (case hp => exact (Reps.one (show Kd.M (Kd.int .u8) _ _ _ 102 [.int .u8 102] from rfl) (Reps.one (show Kd.M (Kd.int .u8) _ _ _ 76 [.int .u8 76] from rfl) (Reps.one (show Kd.M (Kd.int .u8) _ _ _ ((t111 / 256) % 256) [.int .u8 ((t111 / 256) % 256)] from rfl) (Reps.one (show Kd.M (Kd.int .u8) _ _ _ ((t111) % 256) [.int .u8 ((t111) % 256)] from rfl) (Reps.one (show Kd.M (Kd.int .u8) _ _ _ ((t112 / 16777216) % 256) [.int .u8 ((t112 / 16777216) % 256)] from rfl) (Reps.one (show Kd.M (Kd.int .u8) _ _ _ ((t112 / 65536) % 256) [.int .u8 ((t112 / 65536) % 256)] from rfl) (Reps.one (show Kd.M (Kd.int .u8) _ _ _ ((t112 / 256) % 256) [.int .u8 ((t112 / 256) % 256)] from rfl) (Reps.one (show Kd.M (Kd.int .u8) _ _ _ ((t112) % 256) [.int .u8 ((t112) % 256)] from rfl) (Reps.none _ _)))))))))); intro v115 w9 ho10 hb hg_ hnew_; clear hg_ hnew_; (first | rw [← Ny114.out] at ho10 | (simp only [Int.reduceToNat] at ho10; rw [← Ny114.out] at ho10)); have n0_ := Aside0.mk (Kd.R_lower ho10 (below_size (by repeat (first | (with_reducible first | exact HB.out | apply below_alloc | apply pw_below_drewN | apply below_drew1 | refine below_set ?_ GE113.out) | exact HB.out)))); have n1_ := Aside0.mk (blk_below (g := gb113) (o := .cells #[.int .i64 t111, .int .u32 t112] 48 (0, 0)) (by (with_reducible repeat (first | refine blk_drewN ?_ _ | refine blk_drew ?_ | refine blk_alloc ?_ _)); refine blk_put (cs := #[.int .i64 t111, .int .u32 0]) ?_ 1 _ rfl; (with_reducible repeat (first | refine blk_drewN ?_ _ | refine blk_drew ?_ | refine blk_alloc ?_ _)); refine blk_put (cs := #[.int .i64 0, .int .u32 0]) ?_ 0 _ rfl; (with_reducible repeat (first | refine blk_drewN ?_ _ | refine blk_drew ?_ | refine blk_alloc ?_ _)); exact BK113.out) hb); have n2_ := Aside0.mk (below_step (by repeat (first | (with_reducible first | exact HB.out | apply below_alloc | apply pw_below_drewN | apply below_drew1 | refine below_set ?_ GE113.out) | exact HB.out)) hb); clear BK113; clear HB; have HO116 := n0_; have BK113 := n1_; have HB := n2_; clear n0_ n1_ n2_; clear hb ho10) | ((with_reducible refine gate_builtin (b := .append) (xs := #[.tmp 37, .tmp 38]) rfl ?_); at_builtin; refine Kd.R_append_rows (Kd.int .u8) (w0 := w) w.heap.size rfl (.tmp 37) (.tmp 38) 22 5 (.int .u8 0) 1 rfl Try.underlying22 info5 rfl (by decide) (by omega) v115 y114 l0 _ _ _ (fun _ => True) (fun _ => False) rfl rfl ?aO ?aR (fun _ _ h => h) (fun _ h => h.elim) ?aF ?aB ?aS ?aL ?_; (case aR => repeat (first | exact (Kd.C_below HR0.out HB.out) | (with_reducible refine Kd.C_alloc ?_ _) | (with_reducible refine Kd.C_drewN ?_ _) | (with_reducible refine Kd.C_drew ?_))); (case aB => exact (by repeat (first | (with_reducible first | exact HB.out | apply below_alloc | apply pw_below_drewN | apply below_drew1 | refine below_set ?_ GE113.out) | exact HB.out))); (case aF => exact (fun _ _ => trivial)); (case aO => exact (by (with_reducible repeat (first | apply Kd.R_alloc | apply Kd.R_drewN | apply Kd.R_drew)); exact HO116.out)); (case aS => exact (below_size (by repeat (first | (with_reducible first | exact HB.out | apply below_alloc | apply pw_below_drewN | apply below_drew1 | refine below_set ?_ GE113.out) | exact HB.out)))); (case aL => have := LMc5.out; omega); intro v118 w11 ho hb hg hat; rw [← Ny117.out] at ho; have n0_ := Aside0.mk (blk_grown (g := gb113) (o := .cells #[.int .i64 t111, .int .u32 t112] 48 (0, 0)) (by (with_reducible repeat (first | refine blk_drewN ?_ _ | refine blk_drew ?_ | refine blk_alloc ?_ _)); exact BK113.out) hg (Kd.R_ne HO116.out BK113.out (by decide))); have n1_ := Aside0.mk (hb); have n2_ := Aside0.mk (ho); clear BK113; clear HB; clear HO116; have BK113 := n0_; have HB := n1_; have HO119 := n2_; clear n0_ n1_ n2_; clear ho hb hg hat))
        go_ret2
        exact ⟨_, by first | rfl | (simp [errW_none, errW_some] <;> rfl) | (simp [*, errW_none, errW_some] <;> rfl), by (with_reducible repeat (first | apply Kd.R_alloc | apply Kd.R_drewN | apply Kd.R_drew)); exact HO119.out, by repeat (first | (with_reducible first | exact HB.out | apply below_alloc | apply pw_below_drewN | apply below_drew1 | refine below_set ?_ GE113.out) | exact HB.out)⟩
      · rw [if_neg c5] at H
        exact absurd H (by simp)

-- NOT PRINTED: function 13 (frame_Reader_Feed)

/-! ### frame_begins: function 23 -/
def frame_begins.j0 : Nat → List Int → Bool → Option (Bool)
  | 0, _, _ => none
  | k + 1, x0, x35 => if x35 = true then (some false) else (if (x0.length : Int) < 4 then (some true) else (if 2 < (x0.length : Int) then (if 3 < (x0.length : Int) then (if (Go.bits .or .i64 (wrap64 ((wrap64 (rd x0 2)) * 256)) (wrap64 (rd x0 3))) ≥ 1 then (some (decide ((Go.bits .or .i64 (wrap64 ((wrap64 (rd x0 2)) * 256)) (wrap64 (rd x0 3))) ≤ 512))) else (some false)) else (none)) else (none)))
def frame_begins.f (k : Nat) (l0 : List Int) : Option (Bool) := if (l0.length : Int) > 0 then (if 0 < (l0.length : Int) then (if (rd l0 0) = 102 then (if (l0.length : Int) > 1 then (if 1 < (l0.length : Int) then (if (rd l0 1) = 76 then (if (l0.length : Int) > 2 then (if 2 < (l0.length : Int) then (frame_begins.j0 k l0 (decide ((wrap64 (rd l0 2)) > 2))) else (none)) else (frame_begins.j0 k l0 false)) else (frame_begins.j0 k l0 true)) else (none)) else (if (l0.length : Int) > 2 then (if 2 < (l0.length : Int) then (frame_begins.j0 k l0 (decide ((wrap64 (rd l0 2)) > 2))) else (none)) else (frame_begins.j0 k l0 false))) else (frame_begins.j0 k l0 true)) else (none)) else (if (l0.length : Int) > 1 then (if 1 < (l0.length : Int) then (if (rd l0 1) = 76 then (if (l0.length : Int) > 2 then (if 2 < (l0.length : Int) then (frame_begins.j0 k l0 (decide ((wrap64 (rd l0 2)) > 2))) else (none)) else (frame_begins.j0 k l0 false)) else (frame_begins.j0 k l0 true)) else (none)) else (if (l0.length : Int) > 2 then (if 2 < (l0.length : Int) then (frame_begins.j0 k l0 (decide ((wrap64 (rd l0 2)) > 2))) else (none)) else (frame_begins.j0 k l0 false)))
theorem frame_begins.mono_l : ∀ k, (∀ y0 y1, LeO (frame_begins.j0 k y0 y1) (frame_begins.j0 (k + 1) y0 y1))
  | 0 => fun _ _ r h => by simp [frame_begins.j0] at h
  | k + 1 => by
    have ih0 := frame_begins.mono_l k
    · intro y0 y1
      unfold frame_begins.j0
      repeat' first
      | (with_reducible exact ih0 _ _)
      | (with_reducible exact LeO.refl _)
      | (with_reducible exact LeO.none _)
      | (with_reducible refine LeO.ite ?_ ?_)
      | (with_reducible refine LeO.bind ?_ (fun _ => ?_))
      | exact ih0 _ _
      | exact LeO.none _
      | refine LeO.ite ?_ ?_
      | refine LeO.bind ?_ (fun _ => ?_)
theorem frame_begins.mono : ∀ a0 k, LeO (frame_begins.f k a0) (frame_begins.f (k + 1) a0) := by
  intro a0 k
  have ih0 := frame_begins.mono_l k
  unfold frame_begins.f
  repeat' first
      | (with_reducible exact ih0 _ _)
      | (with_reducible exact LeO.refl _)
      | (with_reducible exact LeO.none _)
      | (with_reducible refine LeO.ite ?_ ?_)
      | (with_reducible refine LeO.bind ?_ (fun _ => ?_))
      | exact ih0 _ _
      | exact LeO.none _
      | refine LeO.ite ?_ ?_
      | refine LeO.bind ?_ (fun _ => ?_)
set_option maxHeartbeats 8000000 in
set_option maxRecDepth 100000 in
theorem frame_begins.calls (k : Nat) (A0 : Option Addr) (c0 : Nat) (l0 : List Int) (r : Bool) (w : World) (hr0 : Kd.C (Kd.int .u8) w A0 l0.length l0) (hc0 : l0.length ≤ c0) (h : frame_begins.f k l0 = some r) :
    Calls Try.prog 23 #[.slice A0 l0.length c0] w fun e w' => e = .returned (.bool r) ∧ Drawn0 w w' := by
  have HR0 := Aside0.mk hr0
  have HC0 := Aside0.mk hc0
  clear hr0 hc0
  have H : (if (l0.length : Int) > 0 then (if 0 < (l0.length : Int) then (if (rd l0 0) = 102 then (if (l0.length : Int) > 1 then (if 1 < (l0.length : Int) then (if (rd l0 1) = 76 then (if (l0.length : Int) > 2 then (if 2 < (l0.length : Int) then (frame_begins.j0 k l0 (decide ((wrap64 (rd l0 2)) > 2))) else (none)) else (frame_begins.j0 k l0 false)) else (frame_begins.j0 k l0 true)) else (none)) else (if (l0.length : Int) > 2 then (if 2 < (l0.length : Int) then (frame_begins.j0 k l0 (decide ((wrap64 (rd l0 2)) > 2))) else (none)) else (frame_begins.j0 k l0 false))) else (frame_begins.j0 k l0 true)) else (none)) else (if (l0.length : Int) > 1 then (if 1 < (l0.length : Int) then (if (rd l0 1) = 76 then (if (l0.length : Int) > 2 then (if 2 < (l0.length : Int) then (frame_begins.j0 k l0 (decide ((wrap64 (rd l0 2)) > 2))) else (none)) else (frame_begins.j0 k l0 false)) else (frame_begins.j0 k l0 true)) else (none)) else (if (l0.length : Int) > 2 then (if 2 < (l0.length : Int) then (frame_begins.j0 k l0 (decide ((wrap64 (rd l0 2)) > 2))) else (none)) else (frame_begins.j0 k l0 false)))) = some r := h
  clear h
  have HC2 := Aside0.mk H
  clear H
  go_enter Try.func23, Try.ntmps23
  go_upto_region 1 with (fail)
  repeat (go_quiet (fail); go_upto_region 1 with (fail))
  go_cut [35] (fun v35 wc => ∃ (kq : Nat) (x35_1 : Bool), v35 = .bool x35_1 ∧ Aside0 (frame_begins.j0 kq l0 x35_1 = some r) ∧ Aside0 (kq ≤ k) ∧ Drawn0 w wc)
  case first =>
    have H := HC2.out
    clear HC2
    by_cases c3 : (l0.length : Int) > 0
    · rw [if_pos c3] at H
      have c3b0 : decide (0 < (l0.length : Int)) = true := decide_eq_true c3
      have c3b1 : decide (0 < l0.length) = true := decide_eq_true (by omega)
      clear c3
      (first | rw [c3b0] | (simp only [i64_w, i32_w]; rw [c3b0]) | skip)
      by_cases c4 : 0 < (l0.length : Int)
      · rw [if_pos c4] at H
        have c4b0 : decide (0 < (l0.length : Int)) = true := decide_eq_true c4
        have c4b1 : decide (0 < l0.length) = true := decide_eq_true (by omega)
        clear c4
        by_cases c5 : (rd l0 0) = 102
        · rw [if_pos c5] at H
          have c5b0 : ((rd l0 0) == 102) = true := beq_iff_eq.mpr c5
          have c5b1 : ((rd l0 0) != 102) = false := bne_eq_false_iff_eq.mpr c5
          clear c5
          by_cases c6 : (l0.length : Int) > 1
          · rw [if_pos c6] at H
            have c6b0 : decide (1 < (l0.length : Int)) = true := decide_eq_true c6
            have c6b1 : decide (1 < l0.length) = true := decide_eq_true (by omega)
            clear c6
            by_cases c7 : 1 < (l0.length : Int)
            · rw [if_pos c7] at H
              have c7b0 : decide (1 < (l0.length : Int)) = true := decide_eq_true c7
              have c7b1 : decide (1 < l0.length) = true := decide_eq_true (by omega)
              clear c7
              by_cases c8 : (rd l0 1) = 76
              · rw [if_pos c8] at H
                have c8b0 : ((rd l0 1) == 76) = true := beq_iff_eq.mpr c8
                have c8b1 : ((rd l0 1) != 76) = false := bne_eq_false_iff_eq.mpr c8
                clear c8
                by_cases c9 : (l0.length : Int) > 2
                · rw [if_pos c9] at H
                  have c9b0 : decide (2 < (l0.length : Int)) = true := decide_eq_true c9
                  have c9b1 : decide (2 < l0.length) = true := decide_eq_true (by omega)
                  clear c9
                  by_cases c10 : 2 < (l0.length : Int)
                  · rw [if_pos c10] at H
                    have c10b0 : decide (2 < (l0.length : Int)) = true := decide_eq_true c10
                    have c10b1 : decide (2 < l0.length) = true := decide_eq_true (by omega)
                    clear c10
                    have H' := Aside0.mk H
                    clear H
                    have p120 : 0 ≤ (0 : Int) := (by omega)
                    have q120 : 0 < (l0.length : Int) := of_decide_eq_true (by first | (with_reducible assumption) | assumption)
                    obtain ⟨ad120, e120, hx120_0⟩ := Kd.at_int HR0.out 0 p120 q120
                    cases e120
                    have qi120 : (0 < l0.length) = True := eq_true (by omega)
                    (try rw [show ((0 : Int)).toNat = 0 from rfl] at hx120_0)
                    (try rw [Addr.add_zero'] at hx120_0)
                    replace p120 := eq_true p120
                    replace q120 := eq_true q120
                    have p121 : 0 ≤ (1 : Int) := (by omega)
                    have q121 : 1 < (l0.length : Int) := of_decide_eq_true (by first | (with_reducible assumption) | assumption)
                    obtain ⟨ad121, e121, hx121_0⟩ := Kd.at_int HR0.out 1 p121 q121
                    obtain rfl : ad120 = ad121 := (by injection e121)
                    (try simp only [show (1 : Int).toNat = 1 from rfl, Nat.reduceMul, Nat.reduceEqDiff, Go.Addr.add, ↓reduceIte] at hx121_0)
                    have qi121 : (1 < l0.length) = True := eq_true (by omega)
                    (try rw [show ((1 : Int)).toNat = 1 from rfl] at hx121_0)
                    replace p121 := eq_true p121
                    replace q121 := eq_true q121
                    have p122 : 0 ≤ (2 : Int) := (by omega)
                    have q122 : 2 < (l0.length : Int) := of_decide_eq_true (by first | (with_reducible assumption) | assumption)
                    obtain ⟨ad122, e122, hx122_0⟩ := Kd.at_int HR0.out 2 p122 q122
                    obtain rfl : ad120 = ad122 := (by injection e122)
                    (try simp only [show (2 : Int).toNat = 2 from rfl, Nat.reduceMul, Nat.reduceEqDiff, Go.Addr.add, ↓reduceIte] at hx122_0)
                    have qi122 : (2 < l0.length) = True := eq_true (by omega)
                    (try rw [show ((2 : Int)).toNat = 2 from rfl] at hx122_0)
                    replace p122 := eq_true p122
                    replace q122 := eq_true q122
                    go_wp2
                    repeat (go_quiet (fail); try go_wp2)
                    go_meet
                    case rel => exact ⟨_, (decide ((wrap64 (rd l0 2)) > 2)), (by first | rfl | (simp; done) | (simp [*]; done)), H', ⟨by first | omega | exact Nat.le_refl _⟩, by repeat (first | exact Drawn0.refl _ | apply Drawn0.step)⟩
                  · rw [if_neg c10] at H
                    exact absurd H (by simp)
                · rw [if_neg c9] at H
                  have c9b0 : decide (2 < (l0.length : Int)) = false := decide_eq_false c9
                  have c9b1 : decide (2 < l0.length) = false := decide_eq_false (by omega)
                  clear c9
                  have H' := Aside0.mk H
                  clear H
                  have p120 : 0 ≤ (0 : Int) := (by omega)
                  have q120 : 0 < (l0.length : Int) := of_decide_eq_true (by first | (with_reducible assumption) | assumption)
                  obtain ⟨ad120, e120, hx120_0⟩ := Kd.at_int HR0.out 0 p120 q120
                  cases e120
                  have qi120 : (0 < l0.length) = True := eq_true (by omega)
                  (try rw [show ((0 : Int)).toNat = 0 from rfl] at hx120_0)
                  (try rw [Addr.add_zero'] at hx120_0)
                  replace p120 := eq_true p120
                  replace q120 := eq_true q120
                  have p121 : 0 ≤ (1 : Int) := (by omega)
                  have q121 : 1 < (l0.length : Int) := of_decide_eq_true (by first | (with_reducible assumption) | assumption)
                  obtain ⟨ad121, e121, hx121_0⟩ := Kd.at_int HR0.out 1 p121 q121
                  obtain rfl : ad120 = ad121 := (by injection e121)
                  (try simp only [show (1 : Int).toNat = 1 from rfl, Nat.reduceMul, Nat.reduceEqDiff, Go.Addr.add, ↓reduceIte] at hx121_0)
                  have qi121 : (1 < l0.length) = True := eq_true (by omega)
                  (try rw [show ((1 : Int)).toNat = 1 from rfl] at hx121_0)
                  replace p121 := eq_true p121
                  replace q121 := eq_true q121
                  go_wp2
                  repeat (go_quiet (fail); try go_wp2)
                  go_meet
                  case rel => exact ⟨_, (false), (by first | rfl | (simp; done) | (simp [*]; done)), H', ⟨by first | omega | exact Nat.le_refl _⟩, by repeat (first | exact Drawn0.refl _ | apply Drawn0.step)⟩
              · rw [if_neg c8] at H
                have c8b0 : ((rd l0 1) == 76) = false := beq_eq_false_iff_ne.mpr c8
                have c8b1 : ((rd l0 1) != 76) = true := bne_iff_ne.mpr c8
                have H' := Aside0.mk H
                clear H
                have p120 : 0 ≤ (0 : Int) := (by omega)
                have q120 : 0 < (l0.length : Int) := of_decide_eq_true (by first | (with_reducible assumption) | assumption)
                obtain ⟨ad120, e120, hx120_0⟩ := Kd.at_int HR0.out 0 p120 q120
                cases e120
                have qi120 : (0 < l0.length) = True := eq_true (by omega)
                (try rw [show ((0 : Int)).toNat = 0 from rfl] at hx120_0)
                (try rw [Addr.add_zero'] at hx120_0)
                replace p120 := eq_true p120
                replace q120 := eq_true q120
                have p121 : 0 ≤ (1 : Int) := (by omega)
                have q121 : 1 < (l0.length : Int) := of_decide_eq_true (by first | (with_reducible assumption) | assumption)
                obtain ⟨ad121, e121, hx121_0⟩ := Kd.at_int HR0.out 1 p121 q121
                obtain rfl : ad120 = ad121 := (by injection e121)
                (try simp only [show (1 : Int).toNat = 1 from rfl, Nat.reduceMul, Nat.reduceEqDiff, Go.Addr.add, ↓reduceIte] at hx121_0)
                have qi121 : (1 < l0.length) = True := eq_true (by omega)
                (try rw [show ((1 : Int)).toNat = 1 from rfl] at hx121_0)
                replace p121 := eq_true p121
                replace q121 := eq_true q121
                go_wp2
                repeat (go_quiet (fail); try go_wp2)
                go_meet
                case rel => exact ⟨_, (true), (by first | rfl | (simp; done) | (simp [*]; done)), H', ⟨by first | omega | exact Nat.le_refl _⟩, by repeat (first | exact Drawn0.refl _ | apply Drawn0.step)⟩
            · rw [if_neg c7] at H
              exact absurd H (by simp)
          · rw [if_neg c6] at H
            have c6b0 : decide (1 < (l0.length : Int)) = false := decide_eq_false c6
            have c6b1 : decide (1 < l0.length) = false := decide_eq_false (by omega)
            clear c6
            by_cases c11 : (l0.length : Int) > 2
            · rw [if_pos c11] at H
              have c11b0 : decide (2 < (l0.length : Int)) = true := decide_eq_true c11
              have c11b1 : decide (2 < l0.length) = true := decide_eq_true (by omega)
              clear c11
              by_cases c12 : 2 < (l0.length : Int)
              · rw [if_pos c12] at H
                have c12b0 : decide (2 < (l0.length : Int)) = true := decide_eq_true c12
                have c12b1 : decide (2 < l0.length) = true := decide_eq_true (by omega)
                clear c12
                have H' := Aside0.mk H
                clear H
                have p120 : 0 ≤ (0 : Int) := (by omega)
                have q120 : 0 < (l0.length : Int) := of_decide_eq_true (by first | (with_reducible assumption) | assumption)
                obtain ⟨ad120, e120, hx120_0⟩ := Kd.at_int HR0.out 0 p120 q120
                cases e120
                have qi120 : (0 < l0.length) = True := eq_true (by omega)
                (try rw [show ((0 : Int)).toNat = 0 from rfl] at hx120_0)
                (try rw [Addr.add_zero'] at hx120_0)
                replace p120 := eq_true p120
                replace q120 := eq_true q120
                have p123 : 0 ≤ (2 : Int) := (by omega)
                have q123 : 2 < (l0.length : Int) := of_decide_eq_true (by first | (with_reducible assumption) | assumption)
                obtain ⟨ad123, e123, hx123_0⟩ := Kd.at_int HR0.out 2 p123 q123
                obtain rfl : ad120 = ad123 := (by injection e123)
                (try simp only [show (2 : Int).toNat = 2 from rfl, Nat.reduceMul, Nat.reduceEqDiff, Go.Addr.add, ↓reduceIte] at hx123_0)
                have qi123 : (2 < l0.length) = True := eq_true (by omega)
                (try rw [show ((2 : Int)).toNat = 2 from rfl] at hx123_0)
                replace p123 := eq_true p123
                replace q123 := eq_true q123
                go_wp2
                repeat (go_quiet (fail); try go_wp2)
                go_meet
                case rel => exact ⟨_, (decide ((wrap64 (rd l0 2)) > 2)), (by first | rfl | (simp; done) | (simp [*]; done)), H', ⟨by first | omega | exact Nat.le_refl _⟩, by repeat (first | exact Drawn0.refl _ | apply Drawn0.step)⟩
              · rw [if_neg c12] at H
                exact absurd H (by simp)
            · rw [if_neg c11] at H
              have c11b0 : decide (2 < (l0.length : Int)) = false := decide_eq_false c11
              have c11b1 : decide (2 < l0.length) = false := decide_eq_false (by omega)
              clear c11
              have H' := Aside0.mk H
              clear H
              have p120 : 0 ≤ (0 : Int) := (by omega)
              have q120 : 0 < (l0.length : Int) := of_decide_eq_true (by first | (with_reducible assumption) | assumption)
              obtain ⟨ad120, e120, hx120_0⟩ := Kd.at_int HR0.out 0 p120 q120
              cases e120
              have qi120 : (0 < l0.length) = True := eq_true (by omega)
              (try rw [show ((0 : Int)).toNat = 0 from rfl] at hx120_0)
              (try rw [Addr.add_zero'] at hx120_0)
              replace p120 := eq_true p120
              replace q120 := eq_true q120
              go_wp2
              repeat (go_quiet (fail); try go_wp2)
              go_meet
              case rel => exact ⟨_, (false), (by first | rfl | (simp; done) | (simp [*]; done)), H', ⟨by first | omega | exact Nat.le_refl _⟩, by repeat (first | exact Drawn0.refl _ | apply Drawn0.step)⟩
        · rw [if_neg c5] at H
          have c5b0 : ((rd l0 0) == 102) = false := beq_eq_false_iff_ne.mpr c5
          have c5b1 : ((rd l0 0) != 102) = true := bne_iff_ne.mpr c5
          have H' := Aside0.mk H
          clear H
          have p120 : 0 ≤ (0 : Int) := (by omega)
          have q120 : 0 < (l0.length : Int) := of_decide_eq_true (by first | (with_reducible assumption) | assumption)
          obtain ⟨ad120, e120, hx120_0⟩ := Kd.at_int HR0.out 0 p120 q120
          cases e120
          have qi120 : (0 < l0.length) = True := eq_true (by omega)
          (try rw [show ((0 : Int)).toNat = 0 from rfl] at hx120_0)
          (try rw [Addr.add_zero'] at hx120_0)
          replace p120 := eq_true p120
          replace q120 := eq_true q120
          go_wp2
          repeat (go_quiet (fail); try go_wp2)
          go_meet
          case rel => exact ⟨_, (true), (by first | rfl | (simp; done) | (simp [*]; done)), H', ⟨by first | omega | exact Nat.le_refl _⟩, by repeat (first | exact Drawn0.refl _ | apply Drawn0.step)⟩
      · rw [if_neg c4] at H
        exact absurd H (by simp)
    · rw [if_neg c3] at H
      have c3b0 : decide (0 < (l0.length : Int)) = false := decide_eq_false c3
      have c3b1 : decide (0 < l0.length) = false := decide_eq_false (by omega)
      clear c3
      (first | rw [c3b0] | (simp only [i64_w, i32_w]; rw [c3b0]) | skip)
      by_cases c13 : (l0.length : Int) > 1
      · rw [if_pos c13] at H
        have c13b0 : decide (1 < (l0.length : Int)) = true := decide_eq_true c13
        have c13b1 : decide (1 < l0.length) = true := decide_eq_true (by omega)
        clear c13
        by_cases c14 : 1 < (l0.length : Int)
        · rw [if_pos c14] at H
          have c14b0 : decide (1 < (l0.length : Int)) = true := decide_eq_true c14
          have c14b1 : decide (1 < l0.length) = true := decide_eq_true (by omega)
          clear c14
          by_cases c15 : (rd l0 1) = 76
          · rw [if_pos c15] at H
            have c15b0 : ((rd l0 1) == 76) = true := beq_iff_eq.mpr c15
            have c15b1 : ((rd l0 1) != 76) = false := bne_eq_false_iff_eq.mpr c15
            clear c15
            by_cases c16 : (l0.length : Int) > 2
            · rw [if_pos c16] at H
              have c16b0 : decide (2 < (l0.length : Int)) = true := decide_eq_true c16
              have c16b1 : decide (2 < l0.length) = true := decide_eq_true (by omega)
              clear c16
              by_cases c17 : 2 < (l0.length : Int)
              · rw [if_pos c17] at H
                have c17b0 : decide (2 < (l0.length : Int)) = true := decide_eq_true c17
                have c17b1 : decide (2 < l0.length) = true := decide_eq_true (by omega)
                clear c17
                have H' := Aside0.mk H
                clear H
                have p124 : 0 ≤ (1 : Int) := (by omega)
                have q124 : 1 < (l0.length : Int) := of_decide_eq_true (by first | (with_reducible assumption) | assumption)
                obtain ⟨ad124, e124, hx124_0⟩ := Kd.at_int HR0.out 1 p124 q124
                cases e124
                (try simp only [show (1 : Int).toNat = 1 from rfl, Nat.reduceMul, Nat.reduceEqDiff, Go.Addr.add, ↓reduceIte] at hx124_0)
                have qi124 : (1 < l0.length) = True := eq_true (by omega)
                (try rw [show ((1 : Int)).toNat = 1 from rfl] at hx124_0)
                replace p124 := eq_true p124
                replace q124 := eq_true q124
                have p125 : 0 ≤ (2 : Int) := (by omega)
                have q125 : 2 < (l0.length : Int) := of_decide_eq_true (by first | (with_reducible assumption) | assumption)
                obtain ⟨ad125, e125, hx125_0⟩ := Kd.at_int HR0.out 2 p125 q125
                obtain rfl : ad124 = ad125 := (by injection e125)
                (try simp only [show (2 : Int).toNat = 2 from rfl, Nat.reduceMul, Nat.reduceEqDiff, Go.Addr.add, ↓reduceIte] at hx125_0)
                have qi125 : (2 < l0.length) = True := eq_true (by omega)
                (try rw [show ((2 : Int)).toNat = 2 from rfl] at hx125_0)
                replace p125 := eq_true p125
                replace q125 := eq_true q125
                go_wp2
                repeat (go_quiet (fail); try go_wp2)
                go_meet
                case rel => exact ⟨_, (decide ((wrap64 (rd l0 2)) > 2)), (by first | rfl | (simp; done) | (simp [*]; done)), H', ⟨by first | omega | exact Nat.le_refl _⟩, by repeat (first | exact Drawn0.refl _ | apply Drawn0.step)⟩
              · rw [if_neg c17] at H
                exact absurd H (by simp)
            · rw [if_neg c16] at H
              have c16b0 : decide (2 < (l0.length : Int)) = false := decide_eq_false c16
              have c16b1 : decide (2 < l0.length) = false := decide_eq_false (by omega)
              clear c16
              have H' := Aside0.mk H
              clear H
              have p124 : 0 ≤ (1 : Int) := (by omega)
              have q124 : 1 < (l0.length : Int) := of_decide_eq_true (by first | (with_reducible assumption) | assumption)
              obtain ⟨ad124, e124, hx124_0⟩ := Kd.at_int HR0.out 1 p124 q124
              cases e124
              (try simp only [show (1 : Int).toNat = 1 from rfl, Nat.reduceMul, Nat.reduceEqDiff, Go.Addr.add, ↓reduceIte] at hx124_0)
              have qi124 : (1 < l0.length) = True := eq_true (by omega)
              (try rw [show ((1 : Int)).toNat = 1 from rfl] at hx124_0)
              replace p124 := eq_true p124
              replace q124 := eq_true q124
              go_wp2
              repeat (go_quiet (fail); try go_wp2)
              go_meet
              case rel => exact ⟨_, (false), (by first | rfl | (simp; done) | (simp [*]; done)), H', ⟨by first | omega | exact Nat.le_refl _⟩, by repeat (first | exact Drawn0.refl _ | apply Drawn0.step)⟩
          · rw [if_neg c15] at H
            have c15b0 : ((rd l0 1) == 76) = false := beq_eq_false_iff_ne.mpr c15
            have c15b1 : ((rd l0 1) != 76) = true := bne_iff_ne.mpr c15
            have H' := Aside0.mk H
            clear H
            have p124 : 0 ≤ (1 : Int) := (by omega)
            have q124 : 1 < (l0.length : Int) := of_decide_eq_true (by first | (with_reducible assumption) | assumption)
            obtain ⟨ad124, e124, hx124_0⟩ := Kd.at_int HR0.out 1 p124 q124
            cases e124
            (try simp only [show (1 : Int).toNat = 1 from rfl, Nat.reduceMul, Nat.reduceEqDiff, Go.Addr.add, ↓reduceIte] at hx124_0)
            have qi124 : (1 < l0.length) = True := eq_true (by omega)
            (try rw [show ((1 : Int)).toNat = 1 from rfl] at hx124_0)
            replace p124 := eq_true p124
            replace q124 := eq_true q124
            go_wp2
            repeat (go_quiet (fail); try go_wp2)
            go_meet
            case rel => exact ⟨_, (true), (by first | rfl | (simp; done) | (simp [*]; done)), H', ⟨by first | omega | exact Nat.le_refl _⟩, by repeat (first | exact Drawn0.refl _ | apply Drawn0.step)⟩
        · rw [if_neg c14] at H
          exact absurd H (by simp)
      · rw [if_neg c13] at H
        have c13b0 : decide (1 < (l0.length : Int)) = false := decide_eq_false c13
        have c13b1 : decide (1 < l0.length) = false := decide_eq_false (by omega)
        clear c13
        by_cases c18 : (l0.length : Int) > 2
        · rw [if_pos c18] at H
          have c18b0 : decide (2 < (l0.length : Int)) = true := decide_eq_true c18
          have c18b1 : decide (2 < l0.length) = true := decide_eq_true (by omega)
          clear c18
          by_cases c19 : 2 < (l0.length : Int)
          · rw [if_pos c19] at H
            have c19b0 : decide (2 < (l0.length : Int)) = true := decide_eq_true c19
            have c19b1 : decide (2 < l0.length) = true := decide_eq_true (by omega)
            clear c19
            have H' := Aside0.mk H
            clear H
            have p126 : 0 ≤ (2 : Int) := (by omega)
            have q126 : 2 < (l0.length : Int) := of_decide_eq_true (by first | (with_reducible assumption) | assumption)
            obtain ⟨ad126, e126, hx126_0⟩ := Kd.at_int HR0.out 2 p126 q126
            cases e126
            (try simp only [show (2 : Int).toNat = 2 from rfl, Nat.reduceMul, Nat.reduceEqDiff, Go.Addr.add, ↓reduceIte] at hx126_0)
            have qi126 : (2 < l0.length) = True := eq_true (by omega)
            (try rw [show ((2 : Int)).toNat = 2 from rfl] at hx126_0)
            replace p126 := eq_true p126
            replace q126 := eq_true q126
            go_wp2
            repeat (go_quiet (fail); try go_wp2)
            go_meet
            case rel => exact ⟨_, (decide ((wrap64 (rd l0 2)) > 2)), (by first | rfl | (simp; done) | (simp [*]; done)), H', ⟨by first | omega | exact Nat.le_refl _⟩, by repeat (first | exact Drawn0.refl _ | apply Drawn0.step)⟩
          · rw [if_neg c19] at H
            exact absurd H (by simp)
        · rw [if_neg c18] at H
          have c18b0 : decide (2 < (l0.length : Int)) = false := decide_eq_false c18
          have c18b1 : decide (2 < l0.length) = false := decide_eq_false (by omega)
          clear c18
          have H' := Aside0.mk H
          clear H
          go_wp2
          repeat (go_quiet (fail); try go_wp2)
          go_meet
          case rel => exact ⟨_, (false), (by first | rfl | (simp; done) | (simp [*]; done)), H', ⟨by first | omega | exact Nat.le_refl _⟩, by repeat (first | exact Drawn0.refl _ | apply Drawn0.step)⟩
  case rest =>
    clear HC2
    try clear c1
    try clear p1
    try clear q1
    try clear hx1
    try clear qi1
    try clear c2
    try clear p2
    try clear c3
    try clear c3b0
    try clear c3b1
    try clear c4
    try clear c4b0
    try clear c4b1
    try clear c5
    try clear c5b0
    try clear c5b1
    try clear c6
    try clear c6b0
    try clear c6b1
    try clear p6
    try clear c7
    try clear c7b0
    try clear c7b1
    try clear c8
    try clear c8b0
    try clear c8b1
    try clear c9
    try clear c9b0
    try clear c9b1
    try clear c10
    try clear c10b0
    try clear c10b1
    try clear c11
    try clear c11b0
    try clear c11b1
    try clear c12
    try clear c12b0
    try clear c12b1
    try clear p12
    try clear q12
    try clear hx12
    try clear qi12
    try clear c13
    try clear c13b0
    try clear c13b1
    try clear c14
    try clear c14b0
    try clear c14b1
    try clear c15
    try clear c15b0
    try clear c15b1
    try clear c16
    try clear c16b0
    try clear c16b1
    try clear c17
    try clear c17b0
    try clear c17b1
    try clear c18
    try clear c18b0
    try clear c18b1
    try clear c19
    try clear c19b0
    try clear c19b1
    try clear hx120_0
    try clear hx121_0
    try clear hx122_0
    try clear hx123_0
    try clear hx124_0
    try clear hx125_0
    try clear hx126_0
    try clear p120
    try clear p121
    try clear p122
    try clear p123
    try clear p124
    try clear p125
    try clear p126
    try clear q120
    try clear q121
    try clear q122
    try clear q123
    try clear q124
    try clear q125
    try clear q126
    obtain ⟨kq, x35_1, rfl, HA, HJ1, ⟨mc1, rfl⟩⟩ := hcut
    cases kq with
    | zero => exact absurd HA.out (by simp [frame_begins.j0])
    | succ kj1 =>
      have H := HA.out
      clear HA
      simp only [frame_begins.j0] at H
      by_cases c20 : x35_1 = true
      · subst c20
        have H1 : (some false) = some r := by rw [if_pos rfl] at H; exact H
        clear H
        have H := H1
        clear H1
        obtain rfl := Option.some.inj H
        go_wp2
        repeat (go_quiet (fail); try go_wp2)
        go_ret
        exact ⟨by first | rfl | (simp; done) | (simp [*]; done), by repeat (first | exact Drawn0.refl _ | apply Drawn0.step)⟩
      · replace c20 := Bool.eq_false_iff.mpr c20
        subst c20
        have H1 : (if (l0.length : Int) < 4 then (some true) else (if 2 < (l0.length : Int) then (if 3 < (l0.length : Int) then (if (Go.bits .or .i64 (wrap64 ((wrap64 (rd l0 2)) * 256)) (wrap64 (rd l0 3))) ≥ 1 then (some (decide ((Go.bits .or .i64 (wrap64 ((wrap64 (rd l0 2)) * 256)) (wrap64 (rd l0 3))) ≤ 512))) else (some false)) else (none)) else (none))) = some r := by rw [if_neg (show ¬ (false = true) by decide)] at H; exact H
        clear H
        have H := H1
        clear H1
        by_cases c21 : (l0.length : Int) < 4
        · rw [if_pos c21] at H
          have c21b0 : decide ((l0.length : Int) < 4) = true := decide_eq_true c21
          have c21b1 : decide (l0.length < 4) = true := decide_eq_true (by omega)
          clear c21
          obtain rfl := Option.some.inj H
          go_wp2
          repeat (go_quiet (fail); try go_wp2)
          go_ret
          exact ⟨by first | rfl | (simp; done) | (simp [*]; done), by repeat (first | exact Drawn0.refl _ | apply Drawn0.step)⟩
        · rw [if_neg c21] at H
          have c21b0 : decide ((l0.length : Int) < 4) = false := decide_eq_false c21
          have c21b1 : decide (l0.length < 4) = false := decide_eq_false (by omega)
          clear c21
          by_cases c22 : 2 < (l0.length : Int)
          · rw [if_pos c22] at H
            have c22b0 : decide (2 < (l0.length : Int)) = true := decide_eq_true c22
            have c22b1 : decide (2 < l0.length) = true := decide_eq_true (by omega)
            clear c22
            by_cases c23 : 3 < (l0.length : Int)
            · rw [if_pos c23] at H
              have c23b0 : decide (3 < (l0.length : Int)) = true := decide_eq_true c23
              have c23b1 : decide (3 < l0.length) = true := decide_eq_true (by omega)
              clear c23
              by_cases c24 : (Go.bits .or .i64 (wrap64 ((wrap64 (rd l0 2)) * 256)) (wrap64 (rd l0 3))) ≥ 1
              · rw [if_pos c24] at H
                have c24b0 : decide (1 ≤ (Go.bits .or .i64 (wrap64 ((wrap64 (rd l0 2)) * 256)) (wrap64 (rd l0 3)))) = true := decide_eq_true c24
                clear c24
                obtain rfl := Option.some.inj H
                have p127 : 0 ≤ (2 : Int) := (by omega)
                have q127 : 2 < (l0.length : Int) := of_decide_eq_true (by first | (with_reducible assumption) | assumption)
                obtain ⟨ad127, e127, hx127_0⟩ := Kd.at_int HR0.out 2 p127 q127
                cases e127
                (try simp only [show (2 : Int).toNat = 2 from rfl, Nat.reduceMul, Nat.reduceEqDiff, Go.Addr.add, ↓reduceIte] at hx127_0)
                have qi127 : (2 < l0.length) = True := eq_true (by omega)
                (try rw [show ((2 : Int)).toNat = 2 from rfl] at hx127_0)
                replace p127 := eq_true p127
                replace q127 := eq_true q127
                have p128 : 0 ≤ (3 : Int) := (by omega)
                have q128 : 3 < (l0.length : Int) := of_decide_eq_true (by first | (with_reducible assumption) | assumption)
                obtain ⟨ad128, e128, hx128_0⟩ := Kd.at_int HR0.out 3 p128 q128
                obtain rfl : ad127 = ad128 := (by injection e128)
                (try simp only [show (3 : Int).toNat = 3 from rfl, Nat.reduceMul, Nat.reduceEqDiff, Go.Addr.add, ↓reduceIte] at hx128_0)
                have qi128 : (3 < l0.length) = True := eq_true (by omega)
                (try rw [show ((3 : Int)).toNat = 3 from rfl] at hx128_0)
                replace p128 := eq_true p128
                replace q128 := eq_true q128
                go_wp2
                repeat (go_quiet (fail); try go_wp2)
                go_ret
                exact ⟨by first | rfl | (simp; done) | (simp [*]; done), by repeat (first | exact Drawn0.refl _ | apply Drawn0.step)⟩
              · rw [if_neg c24] at H
                have c24b0 : decide (1 ≤ (Go.bits .or .i64 (wrap64 ((wrap64 (rd l0 2)) * 256)) (wrap64 (rd l0 3)))) = false := decide_eq_false c24
                clear c24
                obtain rfl := Option.some.inj H
                have p127 : 0 ≤ (2 : Int) := (by omega)
                have q127 : 2 < (l0.length : Int) := of_decide_eq_true (by first | (with_reducible assumption) | assumption)
                obtain ⟨ad127, e127, hx127_0⟩ := Kd.at_int HR0.out 2 p127 q127
                cases e127
                (try simp only [show (2 : Int).toNat = 2 from rfl, Nat.reduceMul, Nat.reduceEqDiff, Go.Addr.add, ↓reduceIte] at hx127_0)
                have qi127 : (2 < l0.length) = True := eq_true (by omega)
                (try rw [show ((2 : Int)).toNat = 2 from rfl] at hx127_0)
                replace p127 := eq_true p127
                replace q127 := eq_true q127
                have p128 : 0 ≤ (3 : Int) := (by omega)
                have q128 : 3 < (l0.length : Int) := of_decide_eq_true (by first | (with_reducible assumption) | assumption)
                obtain ⟨ad128, e128, hx128_0⟩ := Kd.at_int HR0.out 3 p128 q128
                obtain rfl : ad127 = ad128 := (by injection e128)
                (try simp only [show (3 : Int).toNat = 3 from rfl, Nat.reduceMul, Nat.reduceEqDiff, Go.Addr.add, ↓reduceIte] at hx128_0)
                have qi128 : (3 < l0.length) = True := eq_true (by omega)
                (try rw [show ((3 : Int)).toNat = 3 from rfl] at hx128_0)
                replace p128 := eq_true p128
                replace q128 := eq_true q128
                go_wp2
                repeat (go_quiet (fail); try go_wp2)
                go_ret
                exact ⟨by first | rfl | (simp; done) | (simp [*]; done), by repeat (first | exact Drawn0.refl _ | apply Drawn0.step)⟩
            · rw [if_neg c23] at H
              exact absurd H (by simp)
          · rw [if_neg c22] at H
            exact absurd H (by simp)

-- NOT PRINTED: function 24 (frame_front)

-- NOT PRINTED: function 14 (frame_Reader_Next)



/-! ### fairleadref16_big: function 21 -/
def fairleadref16_big.l0 : Nat → Int → List Int → Int → Option (List Int)
  | 0, _, _, _ => none
  | k + 1, x0, x5, x6 => if x6 ≥ 0 then (if 0 ≤ x6 then (if x6 < (x5.length : Int) then (fairleadref16_big.l0 k (wrap64 (Int.tdiv x0 256)) (x5.set (x6 : Int).toNat ((Int.tmod x0 256) % 256)) (wrap64 (x6 - 1))) else (none)) else (none)) else (some x5)
def fairleadref16_big.f (k : Nat) (a0 : Int) (a1 : Int) : Option (List Int) := if 0 ≤ a1 then (if (a1 : Int).toNat ≤ 281474976710656 then (fairleadref16_big.l0 k a0 (List.replicate (a1 : Int).toNat 0) (wrap64 (a1 - 1))) else (none)) else (none)
theorem fairleadref16_big.mono_l : ∀ k, (∀ y0 y1 y2, LeO (fairleadref16_big.l0 k y0 y1 y2) (fairleadref16_big.l0 (k + 1) y0 y1 y2))
  | 0 => fun _ _ _ r h => by simp [fairleadref16_big.l0] at h
  | k + 1 => by
    have ih0 := fairleadref16_big.mono_l k
    · intro y0 y1 y2
      unfold fairleadref16_big.l0
      repeat' first
      | (with_reducible exact ih0 _ _ _)
      | (with_reducible exact LeO.refl _)
      | (with_reducible exact LeO.none _)
      | (with_reducible refine LeO.ite ?_ ?_)
      | (with_reducible refine LeO.bind ?_ (fun _ => ?_))
      | exact ih0 _ _ _
      | exact LeO.none _
      | refine LeO.ite ?_ ?_
      | refine LeO.bind ?_ (fun _ => ?_)
theorem fairleadref16_big.mono : ∀ a0 a1 k, LeO (fairleadref16_big.f k a0 a1) (fairleadref16_big.f (k + 1) a0 a1) := by
  intro a0 a1 k
  have ih0 := fairleadref16_big.mono_l k
  unfold fairleadref16_big.f
  repeat' first
      | (with_reducible exact ih0 _ _ _)
      | (with_reducible exact LeO.refl _)
      | (with_reducible exact LeO.none _)
      | (with_reducible refine LeO.ite ?_ ?_)
      | (with_reducible refine LeO.bind ?_ (fun _ => ?_))
      | exact ih0 _ _ _
      | exact LeO.none _
      | refine LeO.ite ?_ ?_
      | refine LeO.bind ?_ (fun _ => ?_)
set_option maxHeartbeats 8000000 in
set_option maxRecDepth 100000 in
theorem fairleadref16_big.calls (k : Nat) (a0 : Int) (a1 : Int) (r : List Int) (w : World) (h : fairleadref16_big.f k a0 a1 = some r) :
    Calls Try.prog 21 #[.int .i64 a0, .int .i64 a1] w fun e w' => ∃ v0_ : Value, e = .returned (v0_) ∧ Kd.R (Kd.int .u8) 5 w' w.heap.size (fun _ => True) v0_ r ∧ Below w.heap.size w w' := by
  have HB := Aside0.mk (Below.refl w.heap.size w)
  have H : (if 0 ≤ a1 then (if (a1 : Int).toNat ≤ 281474976710656 then (fairleadref16_big.l0 k a0 (List.replicate (a1 : Int).toNat 0) (wrap64 (a1 - 1))) else (none)) else (none)) = some r := h
  clear h
  by_cases c3 : 0 ≤ a1
  · rw [if_pos c3] at H
    have c3b0 := eq_true c3
    have c3b1 : decide (0 ≤ a1) = true := decide_eq_true c3
    clear c3
    by_cases c4 : (a1 : Int).toNat ≤ 281474976710656
    · rw [if_pos c4] at H
      have c4b0 := eq_true c4
      have c4b1 : decide ((a1 : Int).toNat ≤ 281474976710656) = true := decide_eq_true c4
      clear c4
      obtain ⟨y153, hy153⟩ : ∃ y_ : List Int, y_ = (List.replicate (a1 : Int).toNat 0) := ⟨_, rfl⟩
      replace H : (fairleadref16_big.l0 k a0 y153 (wrap64 (a1 - 1))) = some r := by first | (rw [hy153]; with_reducible exact H) | (have H2_ := (Option.bind_some _ _).symm.trans H; rw [hy153]; with_reducible exact H2_) | (have H2_ := (Option.bind_some _ _).symm.trans H; with_reducible exact H2_) | with_reducible exact H | (rw [hy153]; exact H) | exact H
      have Ny153 := Aside0.mk hy153
      clear hy153
      have H' := Aside0.mk H
      clear H
      go_enter Try.func21, Try.ntmps21
      go_wp2_with (first | ((with_reducible refine gate_dst (N := 8) rfl ?_); refine Kd.R_make (Kd.int .u8) _ 5 rfl (N := 8) rfl 22 _ _ rfl a1 rfl rfl Try.underlying22 (.int .u8 0) 1 info5 rfl (by decide) (by omega) 0 (ok := fun _ => True) (okp := fun _ => True) rfl (fun _ hk => hk) trivial (of_decide_eq_true (by first | (with_reducible assumption) | assumption)) (Nat.le_trans (Nat.mul_le_mul_right _ (of_decide_eq_true (by first | (with_reducible assumption) | assumption) : a1.toNat ≤ 281474976710656)) (by omega)) (Below.refl _ _) (Nat.le_refl _) ?_; intro v154 w5 ho6 hb hg_ hnew_; clear hg_ hnew_; (first | rw [← Ny153.out] at ho6 | (simp only [Int.reduceToNat] at ho6; rw [← Ny153.out] at ho6)); have n0_ := Aside0.mk (Kd.R_lower ho6 (below_size (by repeat (first | (with_reducible first | exact HB.out | apply below_alloc | apply pw_below_drewN | apply below_drew1) | exact HB.out)))); have n1_ := Aside0.mk (below_step (by repeat (first | (with_reducible first | exact HB.out | apply below_alloc | apply pw_below_drewN | apply below_drew1) | exact HB.out)) hb); clear HB; have HO155 := n0_; have HB := n1_; clear n0_ n1_; clear hb ho6))
      go_loopg [0, 6] k (fun kq v0 v6 w' => ∃ (x0_1 : Int) (x5_1 : List Int) (x6_1 : Int), v0 = .int .i64 x0_1 ∧ v6 = .int .i64 x6_1 ∧ Aside0 (fairleadref16_big.l0 kq x0_1 x5_1 x6_1 = some r) ∧ Aside0 (kq ≤ k) ∧ Aside0 (Kd.R (Kd.int .u8) 5 w' w.heap.size (fun _ => True) v154 x5_1) ∧ Aside0 (Below w.heap.size w w'))
      case atStart => exact ⟨(a0), (y153), (wrap64 (a1 - 1)), (by first | rfl | (simp; done) | (simp [*]; done)), (by first | rfl | (simp; done) | (simp [*]; done)), H', ⟨Nat.le_refl _⟩, ⟨by (with_reducible repeat (first | apply Kd.R_alloc | apply Kd.R_drewN | apply Kd.R_drew)); exact HO155.out⟩, ⟨by repeat (first | (with_reducible first | exact HB.out | apply below_alloc | apply pw_below_drewN | apply below_drew1) | exact HB.out)⟩⟩
      case round =>
        clear H'
        try clear c2
        try clear p2
        try clear c3
        try clear c3b0
        try clear c3b1
        try clear c4
        try clear c4b0
        try clear c4b1
        try clear p6
        obtain ⟨x0_1, x5_1, x6_1, rfl, rfl, HA, HK1, HO_5, HB⟩ := hrel
        cases gk with
        | zero => exact absurd HA.out (by simp [fairleadref16_big.l0])
        | succ k1 =>
          have H := HA.out
          clear HA
          simp only [fairleadref16_big.l0] at H
          by_cases c7 : x6_1 ≥ 0
          · rw [if_pos c7] at H
            have c7b0 : decide (0 ≤ x6_1) = true := decide_eq_true c7
            clear c7
            by_cases c8 : 0 ≤ x6_1
            · rw [if_pos c8] at H
              have c8b0 : decide (0 ≤ x6_1) = true := decide_eq_true c8
              clear c8
              by_cases c9 : x6_1 < (x5_1.length : Int)
              · rw [if_pos c9] at H
                have c9b0 : decide (x6_1 < (x5_1.length : Int)) = true := decide_eq_true c9
                clear c9
                obtain ⟨y156, hy156⟩ : ∃ y_ : List Int, y_ = (x5_1.set (x6_1 : Int).toNat ((Int.tmod x0_1 256) % 256)) := ⟨_, rfl⟩
                replace H : (fairleadref16_big.l0 k1 (wrap64 (Int.tdiv x0_1 256)) y156 (wrap64 (x6_1 - 1))) = some r := by first | (rw [hy156]; with_reducible exact H) | (have H2_ := (Option.bind_some _ _).symm.trans H; rw [hy156]; with_reducible exact H2_) | (have H2_ := (Option.bind_some _ _).symm.trans H; with_reducible exact H2_) | with_reducible exact H | (rw [hy156]; exact H) | exact H
                have Ny156 := Aside0.mk hy156
                clear hy156
                have H' := Aside0.mk H
                clear H
                have p10 : 0 ≤ (x6_1 : Int) := of_decide_eq_true (by first | (with_reducible assumption) | assumption)
                have q10 : (x6_1 : Int) < ((x5_1.length : Int) : Int) := of_decide_eq_true (by first | (with_reducible assumption) | assumption)
                obtain ⟨go10, co10, eo10, gb10, gl10, cl10, HG10⟩ := Kd.R_form HO_5.out (by omega)
                (first | cases eo10 | (injection eo10 with ea_ en_ ec_; (first | subst ea_ | (injection ea_ with ea_; subst ea_)); subst ec_; clear en_))
                have GB10 := Aside0.mk gb10
                have GG10 := Aside0.mk HG10
                clear gb10 gl10 HG10
                obtain ⟨hx10_0, hf10_0⟩ := Kd.R_celln 0 HO_5.out (x6_1 : Int) p10 q10
                replace p10 := eq_true p10
                replace q10 := eq_true q10
                have HP11 := Kd.R_putg HO_5.out (x6_1 : Int) ((Int.tmod x0_1 256) % 256)
                go_wp2_with (first | ((with_reducible refine gate_store (t := 5) (p := 20) rfl ?_); refine store_event (t := 5) (p := 20) (v := ?vo_w12) (w1 := (wr.setCell ⟨go10, (x6_1 : Int).toNat, none⟩ (.int .u8 ((Int.tmod x0_1 256) % 256)))) ?hg ?ho ?hn ?hr ?_; (case ho => rfl); (case hg => rfl); (case hn => rfl); (case hr => first | (go_simp; done) | (go_simp; rfl)); intro w12 hw; have hg : wr.grownBy w12 (some go10) := (by rw [hw]; exact HP11.2); have hp_ : Kd.R (Kd.int .u8) 5 w12 w.heap.size (fun _ => True) (.slice (some ⟨go10, 0, none⟩) x5_1.length co10) y156 := (by rw [hw, Ny156.out]; exact HP11.1); clear HP11; have n0_ := Aside0.mk (hp_); have n1_ := Aside0.mk ((by rw [hw]; exact below_set (HB.out) GB10.out : Below w.heap.size w w12)); clear HO_5; clear HB; have HO_5 := n0_; have HB := n1_; clear n0_ n1_; clear hg hw hp_))
                go_roundg k1
                case measure => have := HK1.out; omega
                case rel => exact ⟨(wrap64 (Int.tdiv x0_1 256)), (y156), (wrap64 (x6_1 - 1)), (by first | rfl | (simp; done) | (simp [*]; done)), (by first | rfl | (simp; done) | (simp [*]; done)), H', ⟨by have := HK1.out; omega⟩, ⟨by (with_reducible repeat (first | apply Kd.R_alloc | apply Kd.R_drewN | apply Kd.R_drew)); exact HO_5.out⟩, ⟨by repeat (first | (with_reducible first | exact HB.out | apply below_alloc | apply pw_below_drewN | apply below_drew1) | exact HB.out)⟩⟩
              · rw [if_neg c9] at H
                exact absurd H (by simp)
            · rw [if_neg c8] at H
              exact absurd H (by simp)
          · rw [if_neg c7] at H
            have c7b0 : decide (0 ≤ x6_1) = false := decide_eq_false c7
            clear c7
            obtain rfl := Option.some.inj H
            go_wp2
            go_ret
            exact ⟨_, by first | rfl | (simp [errW_none, errW_some] <;> rfl) | (simp [*, errW_none, errW_some] <;> rfl), by (with_reducible repeat (first | apply Kd.R_alloc | apply Kd.R_drewN | apply Kd.R_drew)); exact HO_5.out, by repeat (first | (with_reducible first | exact HB.out | apply below_alloc | apply pw_below_drewN | apply below_drew1) | exact HB.out)⟩
    · rw [if_neg c4] at H
      exact absurd H (by simp)
  · rw [if_neg c3] at H
    exact absurd H (by simp)

/-! ### fairleadref01_Go: function 29 -/
def fairleadref01_Go.l0 : Nat → List Int → Int → Int → Int → Int → Int → Int → Option (Int)
  | 0, _, _, _, _, _, _, _ => none
  | k + 1, x1, x5, x6, x7, x8, x9, x10 => if x10 < (x1.length : Int) then (if 0 ≤ x10 then (fairleadref01_Go.l0 k x1 x5 x6 x7 (Int.tmod (IntKind.u64.wrap (x8 + (IntKind.u64.wrap (rd x1 x10)))) 65521) (Int.tmod (IntKind.u64.wrap (x9 + (IntKind.u64.wrap ((Int.tmod (IntKind.u64.wrap (x7 - (IntKind.u64.wrap (x10)))) 65521) * (IntKind.u64.wrap (rd x1 x10)))))) 65521) (wrap64 (x10 + 1))) else (none)) else (some ((IntKind.u64.wrap ((IntKind.u64.wrap ((Int.tmod (IntKind.u64.wrap ((IntKind.u64.wrap (x6 + (IntKind.u64.wrap ((Int.tmod x7 65521) * x5)))) + x9)) 65521) * 65536)) + (Int.tmod (IntKind.u64.wrap (x5 + x8)) 65521))) % 4294967296))
def fairleadref01_Go.f (k : Nat) (a0 : Int) (l1 : List Int) : Option (Int) := fairleadref01_Go.l0 k l1 (Int.tmod (IntKind.u64.wrap (Int.tmod a0 65536)) 65521) (((Int.tdiv a0 65536) % 4294967296) % 65521) (IntKind.u64.wrap ((l1.length : Int))) 0 0 0
theorem fairleadref01_Go.mono_l : ∀ k, (∀ y0 y1 y2 y3 y4 y5 y6, LeO (fairleadref01_Go.l0 k y0 y1 y2 y3 y4 y5 y6) (fairleadref01_Go.l0 (k + 1) y0 y1 y2 y3 y4 y5 y6))
  | 0 => fun _ _ _ _ _ _ _ r h => by simp [fairleadref01_Go.l0] at h
  | k + 1 => by
    have ih0 := fairleadref01_Go.mono_l k
    · intro y0 y1 y2 y3 y4 y5 y6
      unfold fairleadref01_Go.l0
      repeat' first
      | (with_reducible exact ih0 _ _ _ _ _ _ _)
      | (with_reducible exact LeO.refl _)
      | (with_reducible exact LeO.none _)
      | (with_reducible refine LeO.ite ?_ ?_)
      | (with_reducible refine LeO.bind ?_ (fun _ => ?_))
      | exact ih0 _ _ _ _ _ _ _
      | exact LeO.none _
      | refine LeO.ite ?_ ?_
      | refine LeO.bind ?_ (fun _ => ?_)
theorem fairleadref01_Go.mono : ∀ a0 a1 k, LeO (fairleadref01_Go.f k a0 a1) (fairleadref01_Go.f (k + 1) a0 a1) := by
  intro a0 a1 k
  have ih0 := fairleadref01_Go.mono_l k
  unfold fairleadref01_Go.f
  repeat' first
      | (with_reducible exact ih0 _ _ _ _ _ _ _)
      | (with_reducible exact LeO.refl _)
      | (with_reducible exact LeO.none _)
      | (with_reducible refine LeO.ite ?_ ?_)
      | (with_reducible refine LeO.bind ?_ (fun _ => ?_))
      | exact ih0 _ _ _ _ _ _ _
      | exact LeO.none _
      | refine LeO.ite ?_ ?_
      | refine LeO.bind ?_ (fun _ => ?_)
set_option maxHeartbeats 8000000 in
set_option maxRecDepth 100000 in
theorem fairleadref01_Go.calls (k : Nat) (a0 : Int) (A1 : Option Addr) (c1 : Nat) (l1 : List Int) (r : Int) (w : World) (hr1 : Kd.C (Kd.int .u8) w A1 l1.length l1) (hc1 : l1.length ≤ c1) (h : fairleadref01_Go.f k a0 l1 = some r) :
    Calls Try.prog 29 #[.int .u32 a0, .slice A1 l1.length c1] w fun e w' => e = .returned (.int .u32 r) ∧ Drawn0 w w' := by
  have HR1 := Aside0.mk hr1
  have HC1 := Aside0.mk hc1
  clear hr1 hc1
  have H : (fairleadref01_Go.l0 k l1 (Int.tmod (IntKind.u64.wrap (Int.tmod a0 65536)) 65521) (((Int.tdiv a0 65536) % 4294967296) % 65521) (IntKind.u64.wrap ((l1.length : Int))) 0 0 0) = some r := h
  clear h
  have H' := Aside0.mk H
  clear H
  go_enter Try.func29, Try.ntmps29
  go_wp2
  go_loopg [8, 9, 10] k (fun kq v8 v9 v10 w' => ∃ (x8_1 : Int) (x9_1 : Int) (x10_1 : Int), v8 = .int .u64 x8_1 ∧ v9 = .int .u64 x9_1 ∧ v10 = .int .i64 x10_1 ∧ Aside0 (fairleadref01_Go.l0 kq l1 (Int.tmod (IntKind.u64.wrap (Int.tmod a0 65536)) 65521) (((Int.tdiv a0 65536) % 4294967296) % 65521) (IntKind.u64.wrap ((l1.length : Int))) x8_1 x9_1 x10_1 = some r) ∧ Aside0 (kq ≤ k) ∧ Drawn0 w w')
  case atStart => exact ⟨(0), (0), (0), (by first | rfl | (simp; done) | (simp [*]; done)), (by first | rfl | (simp; done) | (simp [*]; done)), (by first | rfl | (simp; done) | (simp [*]; done)), H', ⟨Nat.le_refl _⟩, by repeat (first | exact Drawn0.refl _ | apply Drawn0.step)⟩
  case round =>
    clear H'
    try clear c1
    try clear c2
    try clear p2
    obtain ⟨x8_1, x9_1, x10_1, rfl, rfl, rfl, HA, HK1, ⟨m1, rfl⟩⟩ := hrel
    cases gk with
    | zero => exact absurd HA.out (by simp [fairleadref01_Go.l0])
    | succ k1 =>
      have H := HA.out
      clear HA
      simp only [fairleadref01_Go.l0] at H
      by_cases c3 : x10_1 < (l1.length : Int)
      · rw [if_pos c3] at H
        have c3b0 : decide (x10_1 < (l1.length : Int)) = true := decide_eq_true c3
        clear c3
        by_cases c4 : 0 ≤ x10_1
        · rw [if_pos c4] at H
          have c4b0 : decide (0 ≤ x10_1) = true := decide_eq_true c4
          clear c4
          have H' := Aside0.mk H
          clear H
          have p157 : 0 ≤ (x10_1 : Int) := of_decide_eq_true (by first | (with_reducible assumption) | assumption)
          have q157 : x10_1 < (l1.length : Int) := of_decide_eq_true (by first | (with_reducible assumption) | assumption)
          obtain ⟨ad157, e157, hx157_0⟩ := Kd.at_int HR1.out x10_1 p157 q157
          cases e157
          replace p157 := eq_true p157
          replace q157 := eq_true q157
          have p158 : 0 ≤ (x10_1 : Int) := of_decide_eq_true (by first | (with_reducible assumption) | assumption)
          have q158 : x10_1 < (l1.length : Int) := of_decide_eq_true (by first | (with_reducible assumption) | assumption)
          obtain ⟨ad158, e158, hx158_0⟩ := Kd.at_int HR1.out x10_1 p158 q158
          obtain rfl : ad157 = ad158 := (by injection e158)
          replace p158 := eq_true p158
          replace q158 := eq_true q158
          go_wp2
          go_roundg k1
          case measure => have := HK1.out; omega
          case rel => exact ⟨(Int.tmod (IntKind.u64.wrap (x8_1 + (IntKind.u64.wrap (rd l1 x10_1)))) 65521), (Int.tmod (IntKind.u64.wrap (x9_1 + (IntKind.u64.wrap ((Int.tmod (IntKind.u64.wrap ((IntKind.u64.wrap ((l1.length : Int))) - (IntKind.u64.wrap (x10_1)))) 65521) * (IntKind.u64.wrap (rd l1 x10_1)))))) 65521), (wrap64 (x10_1 + 1)), (by first | rfl | (simp; done) | (simp [*]; done)), (by first | rfl | (simp; done) | (simp [*]; done)), (by first | rfl | (simp; done) | (simp [*]; done)), H', ⟨by have := HK1.out; omega⟩, by repeat (first | exact Drawn0.refl _ | apply Drawn0.step)⟩
        · rw [if_neg c4] at H
          exact absurd H (by simp)
      · rw [if_neg c3] at H
        have c3b0 : decide (x10_1 < (l1.length : Int)) = false := decide_eq_false c3
        clear c3
        obtain rfl := Option.some.inj H
        go_wp2
        go_ret
        exact ⟨by first | rfl | (simp; done) | (simp [*]; done), by repeat (first | exact Drawn0.refl _ | apply Drawn0.step)⟩

/-! ### fairleadref01_Of: function 22 -/
def fairleadref01_Of.f (k : Nat) (l0 : List Int) : Option (Int) := (fairleadref01_Go.f k 1 l0).bind fun t159 => (some t159)
theorem fairleadref01_Of.mono : ∀ a0 k, LeO (fairleadref01_Of.f k a0) (fairleadref01_Of.f (k + 1) a0) := by
  intro a0 k
  unfold fairleadref01_Of.f
  repeat' first
      | (with_reducible exact fairleadref01_Go.mono _ _ _)
      | (with_reducible exact LeO.refl _)
      | (with_reducible exact LeO.none _)
      | (with_reducible refine LeO.ite ?_ ?_)
      | (with_reducible refine LeO.bind ?_ (fun _ => ?_))
      | exact fairleadref01_Go.mono _ _ _
      | exact LeO.none _
      | refine LeO.ite ?_ ?_
      | refine LeO.bind ?_ (fun _ => ?_)
set_option maxHeartbeats 8000000 in
set_option maxRecDepth 100000 in
theorem fairleadref01_Of.calls (k : Nat) (A0 : Option Addr) (c0 : Nat) (l0 : List Int) (r : Int) (w : World) (hr0 : Kd.C (Kd.int .u8) w A0 l0.length l0) (hc0 : l0.length ≤ c0) (h : fairleadref01_Of.f k l0 = some r) :
    Calls Try.prog 22 #[.slice A0 l0.length c0] w fun e w' => e = .returned (.int .u32 r) ∧ Drawn0 w w' := by
  have HR0 := Aside0.mk hr0
  have HC0 := Aside0.mk hc0
  clear hr0 hc0
  have H : ((fairleadref01_Go.f k 1 l0).bind fun t159 => (some t159)) = some r := h
  clear h
  replace H := Option.bind_eq_some_iff.mp H
  obtain ⟨t159, A20, H⟩ := H
  replace H : (some t159) = some r := H
  have A2 := Aside0.mk A20
  clear A20
  obtain rfl := Option.some.inj H
  go_enter Try.func22, Try.ntmps22
  go_wp2_with (first | ((with_reducible refine gate_callee (f := 29) rfl ?_); refine goesL_ (some 4) rfl rfl Try.func29 (by kernel_rfl) rfl #[.int .u32 1, .slice A0 l0.length c0] rfl (by (try simp only [List.map_toArray, List.map_cons, List.map_nil]); first | done | rfl | (simp only [List.length_drop, List.length_take]; rfl)) ?_; (with_reducible refine (fairleadref01_Go.calls k 1 _ _ l0 t159 _ ?side1 ?side2 A2.out).mono ?_); (case side1 => repeat (first | exact HR0.out | (with_reducible refine Kd.C_alloc ?_ _) | (with_reducible refine Kd.C_drewN ?_ _) | (with_reducible refine Kd.C_drew ?_))); (case side2 => exact HC0.out); rintro e w' ⟨rfl, ⟨nd, rfl⟩⟩; refine ⟨_, rfl, ?_⟩))
  go_ret
  exact ⟨by first | rfl | (simp; done) | (simp [*]; done), by repeat (first | exact Drawn0.refl _ | apply Drawn0.step)⟩

/-! ### fairleadref16_Frame: function 11 -/
def fairleadref16_Frame.f (k : Nat) (l0 : List Int) : Option (List Int × Int) := if (l0.length : Int) = 0 then (some (([] : List Int), 10)) else (if (l0.length : Int) > 512 then (some (([] : List Int), 4)) else ((fairleadref16_big.f k (l0.length : Int) 2).bind fun t160 => ((some (([] : List Int) : List Int)).bind fun y163 => (if y163.length + t160.length < 140737488355328 then ((some (y163 ++ t160 : List Int)).bind fun y166 => (if y166.length + l0.length < 140737488355328 then ((fairleadref01_Of.f k (y166 ++ l0)).bind fun t172 => ((some (([102, 76] : List Int) : List Int)).bind fun y173 => (if y173.length + t160.length < 140737488355328 then ((some (y173 ++ t160 : List Int)).bind fun y176 => ((fairleadref16_big.f k (wrap64 (t172)) 4).bind fun t179 => (if y176.length + t179.length < 140737488355328 then ((some (y176 ++ t179 : List Int)).bind fun y182 => (if y182.length + l0.length < 140737488355328 then (some ((y182 ++ l0), 0)) else (none))) else (none)))) else (none)))) else (none))) else (none)))))
theorem fairleadref16_Frame.mono : ∀ a0 k, LeO (fairleadref16_Frame.f k a0) (fairleadref16_Frame.f (k + 1) a0) := by
  intro a0 k
  unfold fairleadref16_Frame.f
  repeat' first
      | (with_reducible exact fairleadref01_Of.mono _ _)
      | (with_reducible exact fairleadref16_big.mono _ _ _)
      | (with_reducible exact LeO.refl _)
      | (with_reducible exact LeO.none _)
      | (with_reducible refine LeO.ite ?_ ?_)
      | (with_reducible refine LeO.bind ?_ (fun _ => ?_))
      | exact fairleadref01_Of.mono _ _
      | exact fairleadref16_big.mono _ _ _
      | exact LeO.none _
      | refine LeO.ite ?_ ?_
      | refine LeO.bind ?_ (fun _ => ?_)
set_option maxHeartbeats 8000000 in
set_option maxRecDepth 100000 in
theorem fairleadref16_Frame.calls (k : Nat) (A0 : Option Addr) (c0 : Nat) (l0 : List Int) (r1 : List Int) (r2 : Int) (w : World) (hr0 : Kd.C (Kd.int .u8) w A0 l0.length l0) (hc0 : l0.length ≤ c0) (h : fairleadref16_Frame.f k l0 = some (r1, r2)) :
    Calls Try.prog 11 #[.slice A0 l0.length c0] w fun e w' => ∃ v0_ : Value, e = .returned (.tuple #[v0_, .int .i64 r2]) ∧ Kd.R (Kd.int .u8) 5 w' w.heap.size (fun _ => True) v0_ r1 ∧ Below w.heap.size w w' := by
  have HR0 := Aside0.mk hr0
  have HC0 := Aside0.mk hc0
  clear hr0 hc0
  have HB := Aside0.mk (Below.refl w.heap.size w)
  have H : (if (l0.length : Int) = 0 then (some (([] : List Int), 10)) else (if (l0.length : Int) > 512 then (some (([] : List Int), 4)) else ((fairleadref16_big.f k (l0.length : Int) 2).bind fun t160 => ((some (([] : List Int) : List Int)).bind fun y163 => (if y163.length + t160.length < 140737488355328 then ((some (y163 ++ t160 : List Int)).bind fun y166 => (if y166.length + l0.length < 140737488355328 then ((fairleadref01_Of.f k (y166 ++ l0)).bind fun t172 => ((some (([102, 76] : List Int) : List Int)).bind fun y173 => (if y173.length + t160.length < 140737488355328 then ((some (y173 ++ t160 : List Int)).bind fun y176 => ((fairleadref16_big.f k (wrap64 (t172)) 4).bind fun t179 => (if y176.length + t179.length < 140737488355328 then ((some (y176 ++ t179 : List Int)).bind fun y182 => (if y182.length + l0.length < 140737488355328 then (some ((y182 ++ l0), 0)) else (none))) else (none)))) else (none)))) else (none))) else (none)))))) = some (r1, r2) := h
  clear h
  by_cases c2 : (l0.length : Int) = 0
  · rw [if_pos c2] at H
    have c2b0 : ((l0.length : Int) == 0) = true := beq_iff_eq.mpr c2
    have c2b1 : ((l0.length : Int) != 0) = false := bne_eq_false_iff_eq.mpr c2
    clear c2
    simp only [Option.some.injEq, Prod.mk.injEq] at H
    obtain ⟨rfl, rfl⟩ := H
    go_enter Try.func11, Try.ntmps11
    go_wp2
    go_ret2
    exact ⟨_, by first | rfl | (simp [errW_none, errW_some] <;> rfl) | (simp [*, errW_none, errW_some] <;> rfl), by first | exact Kd.R_nil _ _ _ _ _ | exact Kd.N_nil _ _ _ _ _ | exact Kd.V_nil _ _ _ _ _ | exact Kd.Q_nil _ _ _ _ _ | exact Kd.S_nil _ _ _ _ _, by repeat (first | (with_reducible first | exact HB.out | apply below_alloc | apply pw_below_drewN | apply below_drew1) | exact HB.out)⟩
  · rw [if_neg c2] at H
    have c2b0 : ((l0.length : Int) == 0) = false := beq_eq_false_iff_ne.mpr c2
    have c2b1 : ((l0.length : Int) != 0) = true := bne_iff_ne.mpr c2
    have c2b2 : ¬ (l0 = []) := fun h_ => c2 (by rw [h_]; rfl)
    by_cases c3 : (l0.length : Int) > 512
    · rw [if_pos c3] at H
      have c3b0 : decide (512 < (l0.length : Int)) = true := decide_eq_true c3
      have c3b1 : decide (512 < l0.length) = true := decide_eq_true (by omega)
      clear c3
      simp only [Option.some.injEq, Prod.mk.injEq] at H
      obtain ⟨rfl, rfl⟩ := H
      go_enter Try.func11, Try.ntmps11
      go_wp2
      go_ret2
      exact ⟨_, by first | rfl | (simp [errW_none, errW_some] <;> rfl) | (simp [*, errW_none, errW_some] <;> rfl), by first | exact Kd.R_nil _ _ _ _ _ | exact Kd.N_nil _ _ _ _ _ | exact Kd.V_nil _ _ _ _ _ | exact Kd.Q_nil _ _ _ _ _ | exact Kd.S_nil _ _ _ _ _, by repeat (first | (with_reducible first | exact HB.out | apply below_alloc | apply pw_below_drewN | apply below_drew1) | exact HB.out)⟩
    · rw [if_neg c3] at H
      have c3b0 : decide (512 < (l0.length : Int)) = false := decide_eq_false c3
      have c3b1 : decide (512 < l0.length) = false := decide_eq_false (by omega)
      clear c3
      replace H := Option.bind_eq_some_iff.mp H
      obtain ⟨t160, A40, H⟩ := H
      replace H : ((some (([] : List Int) : List Int)).bind fun y163 => (if y163.length + t160.length < 140737488355328 then ((some (y163 ++ t160 : List Int)).bind fun y166 => (if y166.length + l0.length < 140737488355328 then ((fairleadref01_Of.f k (y166 ++ l0)).bind fun t172 => ((some (([102, 76] : List Int) : List Int)).bind fun y173 => (if y173.length + t160.length < 140737488355328 then ((some (y173 ++ t160 : List Int)).bind fun y176 => ((fairleadref16_big.f k (wrap64 (t172)) 4).bind fun t179 => (if y176.length + t179.length < 140737488355328 then ((some (y176 ++ t179 : List Int)).bind fun y182 => (if y182.length + l0.length < 140737488355328 then (some ((y182 ++ l0), 0)) else (none))) else (none)))) else (none)))) else (none))) else (none))) = some (r1, r2) := H
      have A4 := Aside0.mk A40
      clear A40
      obtain ⟨y163, hy163⟩ : ∃ y_ : List Int, y_ = (([] : List Int)) := ⟨_, rfl⟩
      replace H : (if y163.length + t160.length < 140737488355328 then ((some (y163 ++ t160 : List Int)).bind fun y166 => (if y166.length + l0.length < 140737488355328 then ((fairleadref01_Of.f k (y166 ++ l0)).bind fun t172 => ((some (([102, 76] : List Int) : List Int)).bind fun y173 => (if y173.length + t160.length < 140737488355328 then ((some (y173 ++ t160 : List Int)).bind fun y176 => ((fairleadref16_big.f k (wrap64 (t172)) 4).bind fun t179 => (if y176.length + t179.length < 140737488355328 then ((some (y176 ++ t179 : List Int)).bind fun y182 => (if y182.length + l0.length < 140737488355328 then (some ((y182 ++ l0), 0)) else (none))) else (none)))) else (none)))) else (none))) else (none)) = some (r1, r2) := by first | (rw [hy163]; with_reducible exact H) | (have H2_ := (Option.bind_some _ _).symm.trans H; rw [hy163]; with_reducible exact H2_) | (have H2_ := (Option.bind_some _ _).symm.trans H; with_reducible exact H2_) | with_reducible exact H | (rw [hy163]; exact H) | exact H
      have Ny163 := Aside0.mk hy163
      clear hy163
      by_cases c5 : y163.length + t160.length < 140737488355328
      · rw [if_pos c5] at H
        have LMc5 := Aside0.mk c5
        clear c5
        obtain ⟨y166, hy166⟩ : ∃ y_ : List Int, y_ = (y163 ++ t160) := ⟨_, rfl⟩
        replace H : (if y166.length + l0.length < 140737488355328 then ((fairleadref01_Of.f k (y166 ++ l0)).bind fun t172 => ((some (([102, 76] : List Int) : List Int)).bind fun y173 => (if y173.length + t160.length < 140737488355328 then ((some (y173 ++ t160 : List Int)).bind fun y176 => ((fairleadref16_big.f k (wrap64 (t172)) 4).bind fun t179 => (if y176.length + t179.length < 140737488355328 then ((some (y176 ++ t179 : List Int)).bind fun y182 => (if y182.length + l0.length < 140737488355328 then (some ((y182 ++ l0), 0)) else (none))) else (none)))) else (none)))) else (none)) = some (r1, r2) := by first | (rw [hy166]; with_reducible exact H) | (have H2_ := (Option.bind_some _ _).symm.trans H; rw [hy166]; with_reducible exact H2_) | (have H2_ := (Option.bind_some _ _).symm.trans H; with_reducible exact H2_) | with_reducible exact H | (rw [hy166]; exact H) | exact H
        have Ny166 := Aside0.mk hy166
        clear hy166
        by_cases c6 : y166.length + l0.length < 140737488355328
        · rw [if_pos c6] at H
          have LMc6 := Aside0.mk c6
          clear c6
          obtain ⟨y169, hy169⟩ : ∃ y_ : List Int, y_ = (y166 ++ l0) := ⟨_, rfl⟩
          replace H : ((fairleadref01_Of.f k y169).bind fun t172 => ((some (([102, 76] : List Int) : List Int)).bind fun y173 => (if y173.length + t160.length < 140737488355328 then ((some (y173 ++ t160 : List Int)).bind fun y176 => ((fairleadref16_big.f k (wrap64 (t172)) 4).bind fun t179 => (if y176.length + t179.length < 140737488355328 then ((some (y176 ++ t179 : List Int)).bind fun y182 => (if y182.length + l0.length < 140737488355328 then (some ((y182 ++ l0), 0)) else (none))) else (none)))) else (none)))) = some (r1, r2) := by first | (rw [hy169]; with_reducible exact H) | (have H2_ := (Option.bind_some _ _).symm.trans H; rw [hy169]; with_reducible exact H2_) | (have H2_ := (Option.bind_some _ _).symm.trans H; with_reducible exact H2_) | with_reducible exact H | (rw [hy169]; exact H) | exact H
          have Ny169 := Aside0.mk hy169
          clear hy169
          replace H := Option.bind_eq_some_iff.mp H
          obtain ⟨t172, A70, H⟩ := H
          replace H : ((some (([102, 76] : List Int) : List Int)).bind fun y173 => (if y173.length + t160.length < 140737488355328 then ((some (y173 ++ t160 : List Int)).bind fun y176 => ((fairleadref16_big.f k (wrap64 (t172)) 4).bind fun t179 => (if y176.length + t179.length < 140737488355328 then ((some (y176 ++ t179 : List Int)).bind fun y182 => (if y182.length + l0.length < 140737488355328 then (some ((y182 ++ l0), 0)) else (none))) else (none)))) else (none))) = some (r1, r2) := H
          have A7 := Aside0.mk A70
          clear A70
          obtain ⟨y173, hy173⟩ : ∃ y_ : List Int, y_ = (([102, 76] : List Int)) := ⟨_, rfl⟩
          replace H : (if y173.length + t160.length < 140737488355328 then ((some (y173 ++ t160 : List Int)).bind fun y176 => ((fairleadref16_big.f k (wrap64 (t172)) 4).bind fun t179 => (if y176.length + t179.length < 140737488355328 then ((some (y176 ++ t179 : List Int)).bind fun y182 => (if y182.length + l0.length < 140737488355328 then (some ((y182 ++ l0), 0)) else (none))) else (none)))) else (none)) = some (r1, r2) := by first | (rw [hy173]; with_reducible exact H) | (have H2_ := (Option.bind_some _ _).symm.trans H; rw [hy173]; with_reducible exact H2_) | (have H2_ := (Option.bind_some _ _).symm.trans H; with_reducible exact H2_) | with_reducible exact H | (rw [hy173]; exact H) | exact H
          have Ny173 := Aside0.mk hy173
          clear hy173
          by_cases c8 : y173.length + t160.length < 140737488355328
          · rw [if_pos c8] at H
            have LMc8 := Aside0.mk c8
            clear c8
            obtain ⟨y176, hy176⟩ : ∃ y_ : List Int, y_ = (y173 ++ t160) := ⟨_, rfl⟩
            replace H : ((fairleadref16_big.f k (wrap64 (t172)) 4).bind fun t179 => (if y176.length + t179.length < 140737488355328 then ((some (y176 ++ t179 : List Int)).bind fun y182 => (if y182.length + l0.length < 140737488355328 then (some ((y182 ++ l0), 0)) else (none))) else (none))) = some (r1, r2) := by first | (rw [hy176]; with_reducible exact H) | (have H2_ := (Option.bind_some _ _).symm.trans H; rw [hy176]; with_reducible exact H2_) | (have H2_ := (Option.bind_some _ _).symm.trans H; with_reducible exact H2_) | with_reducible exact H | (rw [hy176]; exact H) | exact H
            have Ny176 := Aside0.mk hy176
            clear hy176
            replace H := Option.bind_eq_some_iff.mp H
            obtain ⟨t179, A90, H⟩ := H
            replace H : (if y176.length + t179.length < 140737488355328 then ((some (y176 ++ t179 : List Int)).bind fun y182 => (if y182.length + l0.length < 140737488355328 then (some ((y182 ++ l0), 0)) else (none))) else (none)) = some (r1, r2) := H
            have A9 := Aside0.mk A90
            clear A90
            by_cases c10 : y176.length + t179.length < 140737488355328
            · rw [if_pos c10] at H
              have LMc10 := Aside0.mk c10
              clear c10
              obtain ⟨y182, hy182⟩ : ∃ y_ : List Int, y_ = (y176 ++ t179) := ⟨_, rfl⟩
              replace H : (if y182.length + l0.length < 140737488355328 then (some ((y182 ++ l0), 0)) else (none)) = some (r1, r2) := by first | (rw [hy182]; with_reducible exact H) | (have H2_ := (Option.bind_some _ _).symm.trans H; rw [hy182]; with_reducible exact H2_) | (have H2_ := (Option.bind_some _ _).symm.trans H; with_reducible exact H2_) | with_reducible exact H | (rw [hy182]; exact H) | exact H
              have Ny182 := Aside0.mk hy182
              clear hy182
              by_cases c11 : y182.length + l0.length < 140737488355328
              · rw [if_pos c11] at H
                have LMc11 := Aside0.mk c11
                clear c11
                obtain ⟨y185, hy185⟩ : ∃ y_ : List Int, y_ = (y182 ++ l0) := ⟨_, rfl⟩
                replace H : (some (y185, 0)) = some (r1, r2) := by first | (rw [hy185]; with_reducible exact H) | (have H2_ := (Option.bind_some _ _).symm.trans H; rw [hy185]; with_reducible exact H2_) | (have H2_ := (Option.bind_some _ _).symm.trans H; with_reducible exact H2_) | with_reducible exact H | (rw [hy185]; exact H) | exact H
                have Ny185 := Aside0.mk hy185
                clear hy185
                simp only [Option.some.injEq, Prod.mk.injEq] at H
                obtain ⟨rfl, rfl⟩ := H
                go_enter Try.func11, Try.ntmps11
                go_wp2_with (first | ((with_reducible refine gate_callee (f := 21) rfl ?_); refine goesL_ (some 15) rfl rfl Try.func21 (by kernel_rfl) rfl #[.int .i64 (l0.length : Int), .int .i64 2] rfl (by (try simp only [List.map_toArray, List.map_cons, List.map_nil]); first | done | rfl | (simp only [List.length_drop, List.length_take]; rfl)) ?_; (with_reducible refine (fairleadref16_big.calls k (l0.length : Int) 2 t160 _ A4.out).mono ?_); rintro e w12 ⟨v161, rfl, ho0, hb⟩; refine ⟨_, rfl, ?_⟩; have n0_ := Aside0.mk (Kd.R_lower ho0 (below_size (by repeat (first | (with_reducible first | exact HB.out | apply below_alloc | apply pw_below_drewN | apply below_drew1) | exact HB.out)))); have n1_ := Aside0.mk (below_step (by repeat (first | (with_reducible first | exact HB.out | apply below_alloc | apply pw_below_drewN | apply below_drew1) | exact HB.out)) hb); clear HB; have HO162 := n0_; have HB := n1_; clear n0_ n1_; (try clear hb); (try clear hb2); (try clear hk); (try clear hi); (try clear ho0)) | ((with_reducible refine gate_dst (N := 16) rfl ?_); refine Kd.R_lit (Kd.int .u8) _ 5 ?hg (N := 16) ?hd (xs := ([] : List Int)) (inner := []) (ok := fun _ => True) (okp := fun _ => True) ?hr ?hp (fun _ hk => hk) trivial (Below.refl _ _) (Nat.le_refl _) (by simp) ?_; (case hd => rfl); (case hg => rfl); (case hr => first | (go_simp; done) | (go_simp; rfl)); (case hp => exact (Reps.none _ _)); intro v164 w13 ho14 hb hg_ hnew_; clear hg_ hnew_; (first | rw [← Ny163.out] at ho14 | (simp only [Int.reduceToNat] at ho14; rw [← Ny163.out] at ho14)); have n0_ := Aside0.mk (Kd.R_elder' (by (with_reducible repeat (first | apply Kd.R_alloc | apply Kd.R_drewN | apply Kd.R_drew)); exact HO162.out) (Kd.R_base ho14) hb); have n1_ := Aside0.mk (Kd.R_lower (Kd.R_new' ho14 (Kd.R_lt (by (with_reducible repeat (first | apply Kd.R_alloc | apply Kd.R_drewN | apply Kd.R_drew)); exact HO162.out))) (below_size (by repeat (first | (with_reducible first | exact HB.out | apply below_alloc | apply pw_below_drewN | apply below_drew1) | exact HB.out)))); have n2_ := Aside0.mk (below_step (by repeat (first | (with_reducible first | exact HB.out | apply below_alloc | apply pw_below_drewN | apply below_drew1) | exact HB.out)) hb); clear HO162; clear HB; have HO162 := n0_; have HO165 := n1_; have HB := n2_; clear n0_ n1_ n2_; clear hb ho14; obtain ⟨Ao16, co16, eo16⟩ := Kd.R_slice HO162.out; subst eo16) | ((with_reducible refine gate_builtin (b := .append) (xs := #[.tmp 16, .tmp 17]) rfl ?_); at_builtin; refine Kd.R_append_rows (Kd.int .u8) (w0 := w) w.heap.size rfl (.tmp 16) (.tmp 17) 22 5 (.int .u8 0) 1 rfl Try.underlying22 info5 rfl (by decide) (by omega) v164 y163 t160 _ _ _ (fun k_ => some k_ ≠ (.slice Ao16 t160.length co16 : Value).ownBlock) (fun _ => False) rfl rfl ?aO ?aR (fun _ _ h => h) (fun _ h => h.elim) ?aF ?aB ?aS ?aL ?_; (case aR => repeat (first | exact (Kd.R_reads' HO162.out).2.2 | (with_reducible refine Kd.C_alloc ?_ _) | (with_reducible refine Kd.C_drewN ?_ _) | (with_reducible refine Kd.C_drew ?_))); (case aB => exact (by repeat (first | (with_reducible first | exact HB.out | apply below_alloc | apply pw_below_drewN | apply below_drew1) | exact HB.out))); (case aF => exact (fun k_ hk => Kd.fresh' (Kd.R_lt (by (with_reducible repeat (first | apply Kd.R_alloc | apply Kd.R_drewN | apply Kd.R_drew)); exact HO162.out)) k_ hk)); (case aO => exact (by (with_reducible repeat (first | apply Kd.R_alloc | apply Kd.R_drewN | apply Kd.R_drew)); exact Kd.R_mono HO165.out (fun _ hk => hk.2))); (case aS => exact (below_size (by repeat (first | (with_reducible first | exact HB.out | apply below_alloc | apply pw_below_drewN | apply below_drew1) | exact HB.out)))); (case aL => have := LMc5.out; omega); intro v167 w15 ho hb hg hat; rw [← Ny166.out] at ho; have n0_ := Aside0.mk (Kd.R_after (ok := (fun _ => True)) (by (with_reducible repeat (first | apply Kd.R_alloc | apply Kd.R_drewN | apply Kd.R_drew)); exact HO162.out) hg hat); have n1_ := Aside0.mk (hb); have n2_ := Aside0.mk (ho); clear HO162; clear HB; clear HO165; have HO162 := n0_; have HB := n1_; have HO168 := n2_; clear n0_ n1_ n2_; clear ho hb hg hat) | ((with_reducible refine gate_builtin (b := .append) (xs := #[.tmp 18, .tmp 19]) rfl ?_); at_builtin; refine Kd.R_append_rows (Kd.int .u8) (w0 := w) w.heap.size rfl (.tmp 18) (.tmp 19) 22 5 (.int .u8 0) 1 rfl Try.underlying22 info5 rfl (by decide) (by omega) v167 y166 l0 _ _ _ (fun k_ => some k_ ≠ (.slice Ao16 t160.length co16 : Value).ownBlock) (fun _ => False) rfl rfl ?aO ?aR (fun _ _ h => h) (fun _ h => h.elim) ?aF ?aB ?aS ?aL ?_; (case aR => repeat (first | exact (Kd.C_below HR0.out HB.out) | (with_reducible refine Kd.C_alloc ?_ _) | (with_reducible refine Kd.C_drewN ?_ _) | (with_reducible refine Kd.C_drew ?_))); (case aB => exact (by repeat (first | (with_reducible first | exact HB.out | apply below_alloc | apply pw_below_drewN | apply below_drew1) | exact HB.out))); (case aF => exact (fun k_ hk => Kd.fresh' (Kd.R_lt (by (with_reducible repeat (first | apply Kd.R_alloc | apply Kd.R_drewN | apply Kd.R_drew)); exact HO162.out)) k_ hk)); (case aO => exact (by (with_reducible repeat (first | apply Kd.R_alloc | apply Kd.R_drewN | apply Kd.R_drew)); exact HO168.out)); (case aS => exact (below_size (by repeat (first | (with_reducible first | exact HB.out | apply below_alloc | apply pw_below_drewN | apply below_drew1) | exact HB.out)))); (case aL => have := LMc6.out; omega); intro v170 w17 ho hb hg hat; rw [← Ny169.out] at ho; have n0_ := Aside0.mk (Kd.R_after (ok := (fun _ => True)) (by (with_reducible repeat (first | apply Kd.R_alloc | apply Kd.R_drewN | apply Kd.R_drew)); exact HO162.out) hg hat); have n1_ := Aside0.mk (hb); have n2_ := Aside0.mk (ho); clear HO162; clear HB; clear HO168; have HO162 := n0_; have HB := n1_; have HO171 := n2_; clear n0_ n1_ n2_; clear ho hb hg hat; obtain ⟨Ao18, co18, eo18⟩ := Kd.R_slice HO171.out; subst eo18) | ((with_reducible refine gate_callee (f := 22) rfl ?_); refine goesL_ (some 21) rfl rfl Try.func22 (by kernel_rfl) rfl #[.slice Ao18 y169.length co18] rfl (by (try simp only [List.map_toArray, List.map_cons, List.map_nil]); first | done | rfl | (simp only [List.length_drop, List.length_take]; rfl)) ?_; (with_reducible refine (fairleadref01_Of.calls k _ _ y169 t172 _ ?side1 ?side2 A7.out).mono ?_); (case side1 => repeat (first | exact (Kd.R_reads' HO171.out).2.2 | (with_reducible refine Kd.C_alloc ?_ _) | (with_reducible refine Kd.C_drewN ?_ _) | (with_reducible refine Kd.C_drew ?_))); (case side2 => exact (Kd.R_reads' HO171.out).2.1); rintro e w' ⟨rfl, ⟨nd, rfl⟩⟩; refine ⟨_, rfl, ?_⟩) | ((with_reducible refine gate_dst (N := 22) rfl ?_); refine Kd.R_lit (Kd.int .u8) _ 5 ?hg (N := 22) ?hd (xs := ([102, 76] : List Int)) (inner := [.int .u8 102, .int .u8 76]) (ok := fun _ => True) (okp := fun _ => True) ?hr ?hp (fun _ hk => hk) trivial (Below.refl _ _) (Nat.le_refl _) (by simp) ?_; (case hd => rfl); (case hg => rfl); (case hr => first | (go_simp; done) | (go_simp; rfl)); (case hp => exact (Reps.one (show Kd.M (Kd.int .u8) _ _ _ 102 [.int .u8 102] from rfl) (Reps.one (show Kd.M (Kd.int .u8) _ _ _ 76 [.int .u8 76] from rfl) (Reps.none _ _)))); intro v174 w19 ho20 hb hg_ hnew_; clear hg_ hnew_; (first | rw [← Ny173.out] at ho20 | (simp only [Int.reduceToNat] at ho20; rw [← Ny173.out] at ho20)); have n0_ := Aside0.mk (Kd.R_elder' (by (with_reducible repeat (first | apply Kd.R_alloc | apply Kd.R_drewN | apply Kd.R_drew)); exact HO162.out) (Kd.R_base ho20) hb); have n1_ := Aside0.mk (Kd.R_elder' (by (with_reducible repeat (first | apply Kd.R_alloc | apply Kd.R_drewN | apply Kd.R_drew)); exact HO171.out) (Kd.R_base ho20) hb); have n2_ := Aside0.mk (Kd.R_lower (Kd.R_new' (Kd.R_new' ho20 (Kd.R_lt (by (with_reducible repeat (first | apply Kd.R_alloc | apply Kd.R_drewN | apply Kd.R_drew)); exact HO162.out))) (Kd.R_lt (by (with_reducible repeat (first | apply Kd.R_alloc | apply Kd.R_drewN | apply Kd.R_drew)); exact HO171.out))) (below_size (by repeat (first | (with_reducible first | exact HB.out | apply below_alloc | apply pw_below_drewN | apply below_drew1) | exact HB.out)))); have n3_ := Aside0.mk (below_step (by repeat (first | (with_reducible first | exact HB.out | apply below_alloc | apply pw_below_drewN | apply below_drew1) | exact HB.out)) hb); clear HO162; clear HO171; clear HB; have HO162 := n0_; have HO171 := n1_; have HO175 := n2_; have HB := n3_; clear n0_ n1_ n2_ n3_; clear hb ho20) | ((with_reducible refine gate_builtin (b := .append) (xs := #[.tmp 22, .tmp 23]) rfl ?_); at_builtin; refine Kd.R_append_rows (Kd.int .u8) (w0 := w) w.heap.size rfl (.tmp 22) (.tmp 23) 22 5 (.int .u8 0) 1 rfl Try.underlying22 info5 rfl (by decide) (by omega) v174 y173 t160 _ _ _ (fun k_ => some k_ ≠ (.slice Ao16 t160.length co16 : Value).ownBlock ∧ some k_ ≠ (.slice Ao18 y169.length co18 : Value).ownBlock) (fun _ => False) rfl rfl ?aO ?aR (fun _ _ h => h) (fun _ h => h.elim) ?aF ?aB ?aS ?aL ?_; (case aR => repeat (first | exact (Kd.R_reads' HO162.out).2.2 | (with_reducible refine Kd.C_alloc ?_ _) | (with_reducible refine Kd.C_drewN ?_ _) | (with_reducible refine Kd.C_drew ?_))); (case aB => exact (by repeat (first | (with_reducible first | exact HB.out | apply below_alloc | apply pw_below_drewN | apply below_drew1) | exact HB.out))); (case aF => exact (fun k_ hk => ⟨Kd.fresh' (Kd.R_lt (by (with_reducible repeat (first | apply Kd.R_alloc | apply Kd.R_drewN | apply Kd.R_drew)); exact HO162.out)) k_ hk, Kd.fresh' (Kd.R_lt (by (with_reducible repeat (first | apply Kd.R_alloc | apply Kd.R_drewN | apply Kd.R_drew)); exact HO171.out)) k_ hk⟩)); (case aO => exact (by (with_reducible repeat (first | apply Kd.R_alloc | apply Kd.R_drewN | apply Kd.R_drew)); exact Kd.R_mono HO175.out (fun _ hk => ⟨hk.1.2, hk.2⟩))); (case aS => exact (below_size (by repeat (first | (with_reducible first | exact HB.out | apply below_alloc | apply pw_below_drewN | apply below_drew1) | exact HB.out)))); (case aL => have := LMc8.out; omega); intro v177 w21 ho hb hg hat; rw [← Ny176.out] at ho; have n0_ := Aside0.mk (Kd.R_after (ok := (fun k_ => some k_ ≠ (.slice Ao18 y169.length co18 : Value).ownBlock)) (by (with_reducible repeat (first | apply Kd.R_alloc | apply Kd.R_drewN | apply Kd.R_drew)); exact Kd.R_mono HO162.out (fun _ hk => ⟨hk.1.2, hk.2⟩)) hg hat); have n1_ := Aside0.mk (Kd.R_after (ok := (fun k_ => some k_ ≠ (.slice Ao16 t160.length co16 : Value).ownBlock)) (by (with_reducible repeat (first | apply Kd.R_alloc | apply Kd.R_drewN | apply Kd.R_drew)); exact HO171.out) hg hat); have n2_ := Aside0.mk (hb); have n3_ := Aside0.mk (ho); clear HO162; clear HO171; clear HB; clear HO175; have HO162 := n0_; have HO171 := n1_; have HB := n2_; have HO178 := n3_; clear n0_ n1_ n2_ n3_; clear ho hb hg hat) | ((with_reducible refine gate_callee (f := 21) rfl ?_); refine goesL_ (some 28) rfl rfl Try.func21 (by kernel_rfl) rfl #[.int .i64 (wrap64 (t172)), .int .i64 4] rfl (by (try simp only [List.map_toArray, List.map_cons, List.map_nil]); first | done | rfl | (simp only [List.length_drop, List.length_take]; rfl)) ?_; (with_reducible refine (fairleadref16_big.calls k (wrap64 (t172)) 4 t179 _ A9.out).mono ?_); rintro e w22 ⟨v180, rfl, ho0, hb⟩; refine ⟨_, rfl, ?_⟩; have n0_ := Aside0.mk (Kd.R_elder' (by (with_reducible repeat (first | apply Kd.R_alloc | apply Kd.R_drewN | apply Kd.R_drew)); exact HO162.out) (Kd.R_base ho0) hb); have n1_ := Aside0.mk (Kd.R_elder' (by (with_reducible repeat (first | apply Kd.R_alloc | apply Kd.R_drewN | apply Kd.R_drew)); exact HO171.out) (Kd.R_base ho0) hb); have n2_ := Aside0.mk (Kd.R_elder' (by (with_reducible repeat (first | apply Kd.R_alloc | apply Kd.R_drewN | apply Kd.R_drew)); exact HO178.out) (Kd.R_base ho0) hb); have n3_ := Aside0.mk (Kd.R_lower (Kd.R_new' (Kd.R_new' (Kd.R_new' ho0 (Kd.R_lt (by (with_reducible repeat (first | apply Kd.R_alloc | apply Kd.R_drewN | apply Kd.R_drew)); exact HO162.out))) (Kd.R_lt (by (with_reducible repeat (first | apply Kd.R_alloc | apply Kd.R_drewN | apply Kd.R_drew)); exact HO171.out))) (Kd.R_lt (by (with_reducible repeat (first | apply Kd.R_alloc | apply Kd.R_drewN | apply Kd.R_drew)); exact HO178.out))) (below_size (by repeat (first | (with_reducible first | exact HB.out | apply below_alloc | apply pw_below_drewN | apply below_drew1) | exact HB.out)))); have n4_ := Aside0.mk (below_step (by repeat (first | (with_reducible first | exact HB.out | apply below_alloc | apply pw_below_drewN | apply below_drew1) | exact HB.out)) hb); clear HO162; clear HO171; clear HO178; clear HB; have HO162 := n0_; have HO171 := n1_; have HO178 := n2_; have HO181 := n3_; have HB := n4_; clear n0_ n1_ n2_ n3_ n4_; (try clear hb); (try clear hb2); (try clear hk); (try clear hi); (try clear ho0); obtain ⟨Ao24, co24, eo24⟩ := Kd.R_slice HO181.out; subst eo24) | ((with_reducible refine gate_builtin (b := .append) (xs := #[.tmp 25, .tmp 28]) rfl ?_); at_builtin; refine Kd.R_append_rows (Kd.int .u8) (w0 := w) w.heap.size rfl (.tmp 25) (.tmp 28) 22 5 (.int .u8 0) 1 rfl Try.underlying22 info5 rfl (by decide) (by omega) v177 y176 t179 _ _ _ (fun k_ => some k_ ≠ (.slice Ao16 t160.length co16 : Value).ownBlock ∧ some k_ ≠ (.slice Ao18 y169.length co18 : Value).ownBlock ∧ some k_ ≠ (.slice Ao24 t179.length co24 : Value).ownBlock) (fun _ => False) rfl rfl ?aO ?aR (fun _ _ h => h) (fun _ h => h.elim) ?aF ?aB ?aS ?aL ?_; (case aR => repeat (first | exact (Kd.R_reads' HO181.out).2.2 | (with_reducible refine Kd.C_alloc ?_ _) | (with_reducible refine Kd.C_drewN ?_ _) | (with_reducible refine Kd.C_drew ?_))); (case aB => exact (by repeat (first | (with_reducible first | exact HB.out | apply below_alloc | apply pw_below_drewN | apply below_drew1) | exact HB.out))); (case aF => exact (fun k_ hk => ⟨Kd.fresh' (Kd.R_lt (by (with_reducible repeat (first | apply Kd.R_alloc | apply Kd.R_drewN | apply Kd.R_drew)); exact HO162.out)) k_ hk, Kd.fresh' (Kd.R_lt (by (with_reducible repeat (first | apply Kd.R_alloc | apply Kd.R_drewN | apply Kd.R_drew)); exact HO171.out)) k_ hk, Kd.fresh' (Kd.R_lt (by (with_reducible repeat (first | apply Kd.R_alloc | apply Kd.R_drewN | apply Kd.R_drew)); exact HO181.out)) k_ hk⟩)); (case aO => exact (by (with_reducible repeat (first | apply Kd.R_alloc | apply Kd.R_drewN | apply Kd.R_drew)); exact Kd.R_mono HO178.out (fun _ hk => ⟨hk.1.1, ⟨hk.1.2, hk.2⟩⟩))); (case aS => exact (below_size (by repeat (first | (with_reducible first | exact HB.out | apply below_alloc | apply pw_below_drewN | apply below_drew1) | exact HB.out)))); (case aL => have := LMc10.out; omega); intro v183 w23 ho hb hg hat; rw [← Ny182.out] at ho; have n0_ := Aside0.mk (Kd.R_after (ok := (fun k_ => some k_ ≠ (.slice Ao18 y169.length co18 : Value).ownBlock ∧ some k_ ≠ (.slice Ao24 t179.length co24 : Value).ownBlock)) (by (with_reducible repeat (first | apply Kd.R_alloc | apply Kd.R_drewN | apply Kd.R_drew)); exact Kd.R_mono HO162.out (fun _ hk => ⟨⟨hk.1.1, hk.2⟩, hk.1.2⟩)) hg hat); have n1_ := Aside0.mk (Kd.R_after (ok := (fun k_ => some k_ ≠ (.slice Ao16 t160.length co16 : Value).ownBlock ∧ some k_ ≠ (.slice Ao24 t179.length co24 : Value).ownBlock)) (by (with_reducible repeat (first | apply Kd.R_alloc | apply Kd.R_drewN | apply Kd.R_drew)); exact Kd.R_mono HO171.out (fun _ hk => ⟨⟨hk.1.1, hk.2⟩, hk.1.2⟩)) hg hat); have n2_ := Aside0.mk (Kd.R_after (ok := (fun k_ => some k_ ≠ (.slice Ao16 t160.length co16 : Value).ownBlock ∧ some k_ ≠ (.slice Ao18 y169.length co18 : Value).ownBlock)) (by (with_reducible repeat (first | apply Kd.R_alloc | apply Kd.R_drewN | apply Kd.R_drew)); exact Kd.R_mono HO181.out (fun _ hk => ⟨⟨hk.1.1.2, hk.1.2⟩, hk.2⟩)) hg hat); have n3_ := Aside0.mk (hb); have n4_ := Aside0.mk (ho); clear HO162; clear HO171; clear HO181; clear HB; clear HO178; have HO162 := n0_; have HO171 := n1_; have HO181 := n2_; have HB := n3_; have HO184 := n4_; clear n0_ n1_ n2_ n3_ n4_; clear ho hb hg hat) | ((with_reducible refine gate_builtin (b := .append) (xs := #[.tmp 30, .tmp 31]) rfl ?_); at_builtin; refine Kd.R_append_rows (Kd.int .u8) (w0 := w) w.heap.size rfl (.tmp 30) (.tmp 31) 22 5 (.int .u8 0) 1 rfl Try.underlying22 info5 rfl (by decide) (by omega) v183 y182 l0 _ _ _ (fun k_ => some k_ ≠ (.slice Ao16 t160.length co16 : Value).ownBlock ∧ some k_ ≠ (.slice Ao18 y169.length co18 : Value).ownBlock ∧ some k_ ≠ (.slice Ao24 t179.length co24 : Value).ownBlock) (fun _ => False) rfl rfl ?aO ?aR (fun _ _ h => h) (fun _ h => h.elim) ?aF ?aB ?aS ?aL ?_; (case aR => repeat (first | exact (Kd.C_below HR0.out HB.out) | (with_reducible refine Kd.C_alloc ?_ _) | (with_reducible refine Kd.C_drewN ?_ _) | (with_reducible refine Kd.C_drew ?_))); (case aB => exact (by repeat (first | (with_reducible first | exact HB.out | apply below_alloc | apply pw_below_drewN | apply below_drew1) | exact HB.out))); (case aF => exact (fun k_ hk => ⟨Kd.fresh' (Kd.R_lt (by (with_reducible repeat (first | apply Kd.R_alloc | apply Kd.R_drewN | apply Kd.R_drew)); exact HO162.out)) k_ hk, Kd.fresh' (Kd.R_lt (by (with_reducible repeat (first | apply Kd.R_alloc | apply Kd.R_drewN | apply Kd.R_drew)); exact HO171.out)) k_ hk, Kd.fresh' (Kd.R_lt (by (with_reducible repeat (first | apply Kd.R_alloc | apply Kd.R_drewN | apply Kd.R_drew)); exact HO181.out)) k_ hk⟩)); (case aO => exact (by (with_reducible repeat (first | apply Kd.R_alloc | apply Kd.R_drewN | apply Kd.R_drew)); exact HO184.out)); (case aS => exact (below_size (by repeat (first | (with_reducible first | exact HB.out | apply below_alloc | apply pw_below_drewN | apply below_drew1) | exact HB.out)))); (case aL => have := LMc11.out; omega); intro v186 w25 ho hb hg hat; rw [← Ny185.out] at ho; have n0_ := Aside0.mk (Kd.R_after (ok := (fun k_ => some k_ ≠ (.slice Ao18 y169.length co18 : Value).ownBlock ∧ some k_ ≠ (.slice Ao24 t179.length co24 : Value).ownBlock)) (by (with_reducible repeat (first | apply Kd.R_alloc | apply Kd.R_drewN | apply Kd.R_drew)); exact HO162.out) hg hat); have n1_ := Aside0.mk (Kd.R_after (ok := (fun k_ => some k_ ≠ (.slice Ao16 t160.length co16 : Value).ownBlock ∧ some k_ ≠ (.slice Ao24 t179.length co24 : Value).ownBlock)) (by (with_reducible repeat (first | apply Kd.R_alloc | apply Kd.R_drewN | apply Kd.R_drew)); exact HO171.out) hg hat); have n2_ := Aside0.mk (Kd.R_after (ok := (fun k_ => some k_ ≠ (.slice Ao16 t160.length co16 : Value).ownBlock ∧ some k_ ≠ (.slice Ao18 y169.length co18 : Value).ownBlock)) (by (with_reducible repeat (first | apply Kd.R_alloc | apply Kd.R_drewN | apply Kd.R_drew)); exact HO181.out) hg hat); have n3_ := Aside0.mk (hb); have n4_ := Aside0.mk (ho); clear HO162; clear HO171; clear HO181; clear HB; clear HO184; have HO162 := n0_; have HO171 := n1_; have HO181 := n2_; have HB := n3_; have HO187 := n4_; clear n0_ n1_ n2_ n3_ n4_; clear ho hb hg hat))
                go_ret2
                exact ⟨_, by first | rfl | (simp [errW_none, errW_some] <;> rfl) | (simp [*, errW_none, errW_some] <;> rfl), by (with_reducible repeat (first | apply Kd.R_alloc | apply Kd.R_drewN | apply Kd.R_drew)); exact Kd.R_mono HO187.out (fun _ hk => trivial), by repeat (first | (with_reducible first | exact HB.out | apply below_alloc | apply pw_below_drewN | apply below_drew1) | exact HB.out)⟩
              · rw [if_neg c11] at H
                exact absurd H (by simp)
            · rw [if_neg c10] at H
              exact absurd H (by simp)
          · rw [if_neg c8] at H
            exact absurd H (by simp)
        · rw [if_neg c6] at H
          exact absurd H (by simp)
      · rw [if_neg c5] at H
        exact absurd H (by simp)

-- NOT PRINTED: function 3 (fairleadlaw16_FrameMakes)

/-! ### fairleadlaw16_light: function 12 -/
def fairleadlaw16_light.l0 : Nat → List (List Int) → Int → Int → Option (Bool)
  | 0, _, _, _ => none
  | k + 1, x0, x3, x4 => if x4 < (x0.length : Int) then (if x4 < 100 then (if 0 ≤ x4 then (fairleadlaw16_light.l0 k x0 (wrap64 (x3 + (mn ((rd_L1 x0 x4).length : Int) 10000))) (wrap64 (x4 + 1))) else (none)) else (if (x0.length : Int) ≤ 100 then (some (decide (x3 ≤ 3000))) else (some false))) else (if (x0.length : Int) ≤ 100 then (some (decide (x3 ≤ 3000))) else (some false))
def fairleadlaw16_light.f (k : Nat) (l0 : List (List Int)) : Option (Bool) := fairleadlaw16_light.l0 k l0 0 0
theorem fairleadlaw16_light.mono_l : ∀ k, (∀ y0 y1 y2, LeO (fairleadlaw16_light.l0 k y0 y1 y2) (fairleadlaw16_light.l0 (k + 1) y0 y1 y2))
  | 0 => fun _ _ _ r h => by simp [fairleadlaw16_light.l0] at h
  | k + 1 => by
    have ih0 := fairleadlaw16_light.mono_l k
    · intro y0 y1 y2
      unfold fairleadlaw16_light.l0
      repeat' first
      | (with_reducible exact ih0 _ _ _)
      | (with_reducible exact LeO.refl _)
      | (with_reducible exact LeO.none _)
      | (with_reducible refine LeO.ite ?_ ?_)
      | (with_reducible refine LeO.bind ?_ (fun _ => ?_))
      | exact ih0 _ _ _
      | exact LeO.none _
      | refine LeO.ite ?_ ?_
      | refine LeO.bind ?_ (fun _ => ?_)
theorem fairleadlaw16_light.mono : ∀ a0 k, LeO (fairleadlaw16_light.f k a0) (fairleadlaw16_light.f (k + 1) a0) := by
  intro a0 k
  have ih0 := fairleadlaw16_light.mono_l k
  unfold fairleadlaw16_light.f
  repeat' first
      | (with_reducible exact ih0 _ _ _)
      | (with_reducible exact LeO.refl _)
      | (with_reducible exact LeO.none _)
      | (with_reducible refine LeO.ite ?_ ?_)
      | (with_reducible refine LeO.bind ?_ (fun _ => ?_))
      | exact ih0 _ _ _
      | exact LeO.none _
      | refine LeO.ite ?_ ?_
      | refine LeO.bind ?_ (fun _ => ?_)
set_option maxHeartbeats 8000000 in
set_option maxRecDepth 100000 in
theorem fairleadlaw16_light.calls (k : Nat) (A0 : Option Addr) (c0 : Nat) (l0 : List (List Int)) (r : Bool) (w : World) (hr0 : Kd.C (Kd.slice 5 (Kd.int .u8)) w A0 l0.length l0) (hc0 : l0.length ≤ c0) (h : fairleadlaw16_light.f k l0 = some r) :
    Calls Try.prog 12 #[.slice A0 l0.length c0] w fun e w' => e = .returned (.bool r) ∧ Below w.heap.size w w' := by
  have HR0 := Aside0.mk hr0
  have HC0 := Aside0.mk hc0
  clear hr0 hc0
  have HB := Aside0.mk (Below.refl w.heap.size w)
  have H : (fairleadlaw16_light.l0 k l0 0 0) = some r := h
  clear h
  have H' := Aside0.mk H
  clear H
  go_enter Try.func12, Try.ntmps12
  go_wp2
  go_loopg [3, 4] k (fun kq v3 v4 w' => ∃ (x3_1 : Int) (x4_1 : Int), v3 = .int .i64 x3_1 ∧ v4 = .int .i64 x4_1 ∧ Aside0 (fairleadlaw16_light.l0 kq l0 x3_1 x4_1 = some r) ∧ Aside0 (kq ≤ k) ∧ Aside0 (Below w.heap.size w w'))
  case atStart => exact ⟨(0), (0), (by first | rfl | (simp; done) | (simp [*]; done)), (by first | rfl | (simp; done) | (simp [*]; done)), H', ⟨Nat.le_refl _⟩, ⟨by repeat (first | (with_reducible first | exact HB.out | apply below_alloc | apply pw_below_drewN | apply below_drew1) | exact HB.out)⟩⟩
  case round =>
    clear H'
    try clear c1
    obtain ⟨x3_1, x4_1, rfl, rfl, HA, HK1, HB⟩ := hrel
    cases gk with
    | zero => exact absurd HA.out (by simp [fairleadlaw16_light.l0])
    | succ k1 =>
      have H := HA.out
      clear HA
      simp only [fairleadlaw16_light.l0] at H
      by_cases c2 : x4_1 < (l0.length : Int)
      · rw [if_pos c2] at H
        have c2b0 : decide (x4_1 < (l0.length : Int)) = true := decide_eq_true c2
        clear c2
        by_cases c3 : x4_1 < 100
        · rw [if_pos c3] at H
          have c3b0 : decide (x4_1 < 100) = true := decide_eq_true c3
          clear c3
          by_cases c4 : 0 ≤ x4_1
          · rw [if_pos c4] at H
            have c4b0 : decide (0 ≤ x4_1) = true := decide_eq_true c4
            clear c4
            obtain ⟨ji5, hji5⟩ : ∃ j_ : Int, (mn ((rd_L1 l0 x4_1).length : Int) 10000) = j_ := ⟨_, rfl⟩
            replace H : (fairleadlaw16_light.l0 k1 l0 (wrap64 (x3_1 + (ji5))) (wrap64 (x4_1 + 1))) = some r := by first | (rw [hji5] at H; exact H) | (simp only [hji5] at H ⊢; exact H)
            have hji5_ : (if 10000 < ((rd_L1 l0 x4_1).length : Int) then 10000 else ((rd_L1 l0 x4_1).length : Int)) = ji5 := hji5
            have H' := Aside0.mk H
            clear H
            have p153 : 0 ≤ (x4_1 : Int) := of_decide_eq_true (by first | (with_reducible assumption) | assumption)
            have q153 : x4_1 < (l0.length : Int) := of_decide_eq_true (by first | (with_reducible assumption) | assumption)
            obtain ⟨ad153, A153_0, c153_0, e153, hx153_0, hl153_0, hi153_0⟩ := at_L1 HR0.out x4_1 p153 q153
            cases e153
            replace hx153_0 := (HB.out.cell (World.block_lt_of_cell? w _ hx153_0)).trans hx153_0
            have HR153_0 := Aside0.mk hi153_0
            have HC153_0 := Aside0.mk hl153_0
            clear hi153_0 hl153_0
            replace p153 := eq_true p153
            replace q153 := eq_true q153
            go_wp2
            go_roundg k1
            case measure => have := HK1.out; omega
            case rel => exact ⟨(wrap64 (x3_1 + (ji5))), (wrap64 (x4_1 + 1)), (by first | rfl | (simp; done) | (simp only [← hji5] <;> (first | rfl | simp)) | (simp [*]; done)), (by first | rfl | (simp; done) | (simp [*]; done)), H', ⟨by have := HK1.out; omega⟩, ⟨by repeat (first | (with_reducible first | exact HB.out | apply below_alloc | apply pw_below_drewN | apply below_drew1) | exact HB.out)⟩⟩
          · rw [if_neg c4] at H
            exact absurd H (by simp)
        · rw [if_neg c3] at H
          have c3b0 : decide (x4_1 < 100) = false := decide_eq_false c3
          clear c3
          by_cases c6 : (l0.length : Int) ≤ 100
          · rw [if_pos c6] at H
            have c6b0 : decide ((l0.length : Int) ≤ 100) = true := decide_eq_true c6
            have c6b1 : decide (l0.length ≤ 100) = true := decide_eq_true (by omega)
            clear c6
            obtain rfl := Option.some.inj H
            go_wp2
            go_ret
            exact ⟨by first | rfl | (simp [errW_none, errW_some] <;> rfl) | (simp [*, errW_none, errW_some] <;> rfl), by repeat (first | (with_reducible first | exact HB.out | apply below_alloc | apply pw_below_drewN | apply below_drew1) | exact HB.out)⟩
          · rw [if_neg c6] at H
            have c6b0 : decide ((l0.length : Int) ≤ 100) = false := decide_eq_false c6
            have c6b1 : decide (l0.length ≤ 100) = false := decide_eq_false (by omega)
            clear c6
            obtain rfl := Option.some.inj H
            go_wp2
            go_ret
            exact ⟨by first | rfl | (simp [errW_none, errW_some] <;> rfl) | (simp [*, errW_none, errW_some] <;> rfl), by repeat (first | (with_reducible first | exact HB.out | apply below_alloc | apply pw_below_drewN | apply below_drew1) | exact HB.out)⟩
      · rw [if_neg c2] at H
        have c2b0 : decide (x4_1 < (l0.length : Int)) = false := decide_eq_false c2
        clear c2
        by_cases c7 : (l0.length : Int) ≤ 100
        · rw [if_pos c7] at H
          have c7b0 : decide ((l0.length : Int) ≤ 100) = true := decide_eq_true c7
          have c7b1 : decide (l0.length ≤ 100) = true := decide_eq_true (by omega)
          clear c7
          obtain rfl := Option.some.inj H
          go_wp2
          go_ret
          exact ⟨by first | rfl | (simp [errW_none, errW_some] <;> rfl) | (simp [*, errW_none, errW_some] <;> rfl), by repeat (first | (with_reducible first | exact HB.out | apply below_alloc | apply pw_below_drewN | apply below_drew1) | exact HB.out)⟩
        · rw [if_neg c7] at H
          have c7b0 : decide ((l0.length : Int) ≤ 100) = false := decide_eq_false c7
          have c7b1 : decide (l0.length ≤ 100) = false := decide_eq_false (by omega)
          clear c7
          obtain rfl := Option.some.inj H
          go_wp2
          go_ret
          exact ⟨by first | rfl | (simp [errW_none, errW_some] <;> rfl) | (simp [*, errW_none, errW_some] <;> rfl), by repeat (first | (with_reducible first | exact HB.out | apply below_alloc | apply pw_below_drewN | apply below_drew1) | exact HB.out)⟩

end Go.Proofs.Ytpkgpapdmjapmaa.Fns
