/- The law FramePieces: its walk. -/
import Derived.Test.YtpkgpapdmjapmaaFrSt
namespace Go.Proofs.Ytpkgpapdmjapmaa.Fns
open Go.RowKit Go.Proofs.YtpkgpapdmjapmaaW.PrintWords Go.Proofs.YtpkgpapdmjapmaaW.PrintLast Go.Proofs.YtpkgpapdmjapmaaW.PrintMore Go.Proofs.Ytpkgpapdmjapmaa.SumMath Go.Proofs.Ytpkgpapdmjapmaa.Pure
set_option linter.unusedVariables false
set_option linter.unusedSimpArgs false

/-- what holds between the pieces: k have been fed. -/
structure Pcs (l0 : List (List Int)) (k : Nat) (B1 : List Int) (xs : List (List Int)) (c1 : Nat) : Prop where
  p : Pieces (l0.take k).flatten B1 xs c1
  b : Bytes B1
  n : B1.length + c1 + costs xs = (l0.take k).flatten.length
theorem Pcs.feed {l0 : List (List Int)} {k : Nat} {B1 : List Int} {xs : List (List Int)} {c1 : Nat} (h : Pcs l0 k B1 xs c1) (hk : k < l0.length) (b : List Int) (hb : rd_L1 l0 (k : Int) = b) (hB : Bytes b) : Pcs l0 (k + 1) (B1 ++ b) xs c1 where
  p := by rw [flat_take l0 k hk, hb]; exact h.p.feed b hB
  b := bytes_append h.b hB
  n := by rw [flat_take l0 k hk, hb, List.length_append, List.length_append, ← h.n]; omega
theorem costs_app (a b : List (List Int)) : costs (a ++ b) = costs a + costs b := by
  induction a with
  | nil => simp [costs]
  | cons x a ih => rw [List.cons_append]; simp only [costs, ih]; omega
theorem Pcs.drain {l0 : List (List Int)} {k : Nat} {B1 : List Int} {xs : List (List Int)} {c1 : Nat} (h : Pcs l0 k B1 xs c1) : Pcs l0 k (drn 4000 B1).2.1 (xs ++ (drn 4000 B1).1) (c1 + (drn 4000 B1).2.2) where
  p := h.p.drain h.b (by have := h.n; omega)
  b := fun x hx => h.b x ((drn_costs 4000 B1 h.b).2.subset hx)
  n := by have := (drn_costs 4000 B1 h.b).1; have := h.n; rw [costs_app]; omega
theorem costs_len (l : List (List Int)) : l.length ≤ costs l := by rw [costs_tot]; omega

set_option maxHeartbeats 8000000 in
set_option maxRecDepth 100000 in
theorem pieces_main (A0 : Option Addr) (c0 : Nat) (l0 : List (List Int)) (Aq : Option Addr) (cq : Nat) (lq : List Bool) (w : World) (hr0 : Kd.C (Kd.slice 5 (Kd.int .u8)) w A0 l0.length l0) (hc0 : l0.length ≤ c0) (hb : ∀ b ∈ l0, Bytes b) (hL : isLight l0 = true)
    (hq0 : Kd.C Kd.bool w Aq lq.length lq) (hqc : lq.length ≤ cq) :
    Calls Try.prog 6 #[.slice A0 l0.length c0, .slice Aq lq.length cq] w fun e w' => e = .returned (.bool true) ∧ Below w.heap.size w w' := by
  have HR0 := Aside0.mk hr0
  have HC0 := Aside0.mk hc0
  have HQ0 := Aside0.mk hq0
  have HBY := Aside0.mk hb
  have HLT := Aside0.mk (light_is l0 200 (by omega))
  rw [hL] at HLT
  have HTOT := Aside0.mk (light_tot l0 hL)
  clear hr0 hc0 hb hL hq0 hqc
  go_enter Try.func6, Try.ntmps6
  go_wp2_with fail
  refine (awake_calls w).mono ?_
  rintro e w1 ⟨rfl, hb1⟩
  have HB1 := Aside0.mk hb1
  have HR1 := Aside0.mk (Kd.C_below HR0.out hb1)
  clear hb1
  go_wp2_with fail
  refine (fairleadlaw16_light.calls 200 A0 c0 l0 true w1 HR1.out HC0.out HLT.out).mono ?_
  rintro e w2 ⟨rfl, hb2⟩
  have HB2 := Aside0.mk (below_then HB1.out (below_size HB1.out) hb2)
  clear hb2 HB1 HR1
  go_upto_region 6 with (fail)
  obtain ⟨tag0, hst0⟩ := St.start w2 w.heap.size HB2.out.size
  have hb4 := below_alloc (below_alloc HB2.out (.cells #[.slice none 0 0, .int .i64 0] 32 (0, 0))) (.cells #[.slice none 0 0, .int .i64 0] 32 (0, 0))
  generalize (w2.alloc (.cells #[.slice none 0 0, .int .i64 0] 32 (0, 0))).alloc (.cells #[.slice none 0 0, .int .i64 0] 32 (0, 0)) = w4 at hst0 hb4 ⊢
  generalize hg2 : w2.heap.size + 1 = g2 at hst0 ⊢
  clear hg2
  generalize w2.heap.size = g1 at hst0 ⊢
  have HST := Aside0.mk hst0
  have HB4 := Aside0.mk hb4
  clear hst0 hb4 HB2
  go_wp2_with fail
  go_loopw [9, 11] (fun v9 v11 wr => ∃ (k : Nat) (tag : Nat → Nat) (B1 : List Int) (xs : List (List Int)) (c1 : Nat), k ≤ l0.length ∧ v11 = .int .i64 (k : Int) ∧ Aside0 (St tag w.heap.size wr g1 g2 B1 (l0.take k).flatten (c1 : Int) 0 v9 xs) ∧ Aside0 (Below w.heap.size w wr) ∧ Aside0 (Pcs l0 k B1 xs c1)) (fun _ v11 _ => l0.length - (intOf v11).toNat)
  case atStart => exact ⟨0, tag0, [], [], 0, by omega, by first | rfl | simp, HST, HB4, ⟨⟨by simpa using Pieces.nil, fun x hx => by simp at hx, by simp [costs]⟩⟩⟩
  case round =>
    clear HST HB4
    obtain ⟨k, tag, B1, xs, cc, hk, rfl, HST, HBr, HP⟩ := hrel
    obtain ⟨A9, c9, rfl⟩ := Kd.R_slice HST.out.row
    have HTL := Aside0.mk (Nat.le_trans (flat_le l0 k) HTOT.out.2)
    by_cases hkl : k < l0.length
    · have d0 : decide ((k : Int) < (l0.length : Int)) = true := decide_eq_true (by omega)
      have d1 : decide (k < l0.length) = true := decide_eq_true hkl
      obtain ⟨ad1, A1_, c1_, e1, hx0, hl1_, hi1⟩ := at_L1 HR0.out (k : Int) (by omega) (by omega)
      cases e1
      have p1 : (0 ≤ (k : Int)) = True := eq_true (by omega)
      have q1 : ((k : Int) < (l0.length : Int)) = True := eq_true (by omega)
      have p2 : decide (0 ≤ (k : Int)) = true := decide_eq_true (by omega)
      have HKW := Aside0.mk (show wrap64 ((k : Int) + 1) = ((k + 1 : Nat) : Int) by rw [IntWalk.wrap64_in _ (by have := HTOT.out.1; omega)]; rfl)
      have HFT := Aside0.mk (flat_take l0 k hkl)
      have HNL := Aside0.mk (Nat.le_trans (flat_le l0 (k + 1)) HTOT.out.2)
      obtain ⟨b, hbb⟩ : ∃ b, rd_L1 l0 (k : Int) = b := ⟨_, rfl⟩
      rw [hbb] at hx0 hl1_ hi1 HFT
      have HBb := HBY.out b (by rw [← hbb, rdL_get l0 k hkl]; exact List.getElem_mem hkl)
      have HP2 := Aside0.mk (HP.out.feed hkl b hbb HBb)
      have HI0 := Aside0.mk hi1
      simp only [Int.toNat_natCast] at hx0
      have HX0 := Aside0.mk hx0
      have hx1 := pw_cell_below HBr.out hx0
      clear hi1 hl1_ hbb hx0 HBb
      go_wp2_with fail
      have HLL := Aside0.mk (show B1.length + b.length ≤ 3000 by have := HP2.out.n; have := HNL.out; rw [List.length_append] at *; omega)
      refine (feed _ w.heap.size g1 B1 _ A1_ c1_ b wr HST.out.r1 (Kd.C_below HI0.out HBr.out) (by have := HLL.out; omega)).mono ?_
      rintro e w5 ⟨⟨_, rfl⟩, hr5, hk5⟩
      have HB5 := Aside0.mk (Kp.below HBr.out hk5 (fun i hi => hi.elim (fun h => h ▸ HST.out.r1.1) (fun h => HST.out.lo i (by omega))) HBr.out.size)
      have HS5 := Aside0.mk (HST.out.turn1 1 (hr5.mono (fun j h => h.elim .inl (fun h => .inr ⟨rfl, h⟩))) hk5)
      have hx2 := pw_cell_below HB5.out HX0.out
      clear hr5 hk5 hx1
      generalize retag tag wr.heap.size 1 = tag5 at HS5
      go_wp2_with fail
      refine (feed _ w.heap.size g2 _ _ A1_ c1_ b w5 HS5.out.r2 (Kd.C_below HI0.out HB5.out) (by have := HNL.out; have := HTL.out; rw [HFT.out, List.length_append] at *; omega)).mono ?_
      rintro e w6 ⟨⟨_, rfl⟩, hr6, hk6⟩
      have HB6 := Aside0.mk (Kp.below HB5.out hk6 (fun i hi => hi.elim (fun h => h ▸ HS5.out.r2.1) (fun h => HS5.out.lo i (by omega))) HB5.out.size)
      have hs6 := HS5.out.turn2 2 (hr6.mono (fun j h => h.elim .inl (fun h => .inr ⟨rfl, h⟩))) hk6
      rw [← HFT.out] at hs6
      have HS6 := Aside0.mk hs6
      clear hr6 hk6 hx2 hs6
      generalize retag tag5 w5.heap.size 2 = tag6 at HS6
      by_cases hkq : k < lq.length
      · obtain ⟨adq, eq_, hxq⟩ := at_bool HQ0.out k hkq
        cases eq_
        have hxq6 := pw_cell_below HB6.out hxq
        have q0 : decide ((k : Int) < (lq.length : Int)) = true := decide_eq_true (by omega)
        have q2 : decide (k < lq.length) = true := decide_eq_true hkq
        have q3 : ((k : Int) < (lq.length : Int)) = True := eq_true (by omega)
        clear hxq
        cases hcall : lq.getD k false with
        | false =>
          rw [hcall] at hxq6
          clear hcall
          go_wp2_with fail
          rw [HKW.out]
          refine ⟨⟨k + 1, tag6, _, xs, cc, by omega, rfl, HS6, HB6, HP2⟩, ?_⟩
          simp only [intOf, Int.toNat_natCast]
          omega
        | true =>
          rw [hcall] at hxq6
          clear hcall
          go_wp2_with fail
          refine (drained_calls _ w.heap.size g1 _ _ w6 HS6.out.r1 HP2.out.b (by omega) (by have := HP2.out.n; have := HNL.out; omega)).mono ?_
          rintro e w7 ⟨v7, rfl, ho7, hr7, hk7⟩
          have HP3 := Aside0.mk HP2.out.drain
          have hs7 := HS6.out.turn1 3 (hr7.mono (fun j h => .inl h)) (hk7.mono (fun j h => .inl h))
          rw [← Int.natCast_add] at hs7
          have HK7 := Aside0.mk hk7.size
          have HB7 := Aside0.mk (Kp.below HB6.out hk7 (fun i hi => hi ▸ HS6.out.r1.1) HB6.out.size)
          obtain ⟨A7, c7, rfl⟩ := Kd.R_slice ho7
          have HRD7 := Aside0.mk (rows_reads ho7 HB6.out.size)
          have HYL := Aside0.mk (show xs.length + (drn 4000 (B1 ++ b)).1.length ≤ 3000 by
            have h1 := costs_len (xs ++ (drn 4000 (B1 ++ b)).1); have := HP3.out.n; have := HNL.out; rw [List.length_append] at h1; omega)
          clear ho7 hr7 hk7
          generalize (drn 4000 (B1 ++ b)).1 = ys at *
          generalize (drn 4000 (B1 ++ b)).2.1 = B3 at *
          generalize (drn 4000 (B1 ++ b)).2.2 = c3 at *
          have HOK := Aside0.mk (show ∀ j, (w6.heap.size ≤ j ∧ j < w7.heap.size) → retag tag6 w6.heap.size 3 j = 3 ∧ some j ≠ (Value.slice A9 xs.length c9).ownBlock from
            fun j h => ⟨retag_new h.1, fun e => by have := (HS6.out.row.1 j e.symm).2; omega⟩)
          have HFR := Aside0.mk (show ∀ j, w7.heap.size ≤ j → retag tag6 w6.heap.size 3 j = 3 from fun j h => by
            refine retag_new ?_
            have := hs7.r1.lt; have := HK7.out; omega)
          generalize retag tag6 w6.heap.size 3 = tag7 at hs7 HOK HFR
          have HS7 := Aside0.mk hs7
          have HO7 := Aside0.mk (Kd.R_mono (ok' := fun j => tag7 j = 3) hs7.row (fun _ h => h.1))
          clear hs7
          go_wp2_with (first
            | ((with_reducible refine gate_dst (N := 47) rfl ?_); refine Kd.R_append_rows (Kd.slice 5 (Kd.int .u8)) (w0 := w) (W := w7) w.heap.size rfl (.tmp 45) (.tmp 46) 28 22 (.slice none 0 0) 24 rfl Try.underlying28 info22 rfl (by decide) (by decide) (.slice A9 xs.length c9) xs ys A7 ys.length c7 (fun j => tag7 j = 3) (fun j => w6.heap.size ≤ j ∧ j < w7.heap.size) rfl rfl HO7.out HRD7.out (fun _ _ h => h) HOK.out HFR.out HB7.out HB7.out.size (by have := HYL.out; omega) ?_; intro v8 w8 ho8 hb8 hg8 hat8; have HS8 := Aside0.mk (HS7.out.grow ho8 hg8); have HB8 := Aside0.mk hb8; clear ho8 hb8 hg8 hat8))
          rw [HKW.out]
          refine ⟨⟨k + 1, tag7, _, xs ++ ys, cc + c3, by omega, rfl, HS8, HB8, HP3⟩, ?_⟩
          simp only [intOf, Int.toNat_natCast]
          omega
      · have q0 : decide ((k : Int) < (lq.length : Int)) = false := decide_eq_false (by omega)
        have q2 : decide (k < lq.length) = false := decide_eq_false hkq
        go_wp2_with fail
        rw [HKW.out]
        refine ⟨⟨k + 1, tag6, _, xs, cc, by omega, rfl, HS6, HB6, HP2⟩, ?_⟩
        simp only [intOf, Int.toNat_natCast]
        omega
    · have d0 : decide ((k : Int) < (l0.length : Int)) = false := decide_eq_false (by omega)
      have d1 : decide (k < l0.length) = false := decide_eq_false hkl
      obtain rfl : k = l0.length := by omega
      have HDN := Aside0.mk (HP.out.p.done (by have := HTL.out; omega))
      have HPN := Aside0.mk HP.out.n
      have HPB := Aside0.mk HP.out.b
      have HWB := Aside0.mk (flat_bytes l0 HBY.out l0.length)
      have HCS := Aside0.mk (drn_costs 4000 B1 HP.out.b).1
      clear HP
      generalize (l0.take l0.length).flatten = WW at HST HTL HDN HPN HWB ⊢
      go_wp2_with fail
      refine (drained_calls _ w.heap.size g1 _ _ wr HST.out.r1 HPB.out (by omega) (by have := HPN.out; have := HTL.out; omega)).mono ?_
      rintro e w7 ⟨v7, rfl, ho7, hr7, hk7⟩
      have hs7 := HST.out.turn1 3 (hr7.mono (fun j h => .inl h)) (hk7.mono (fun j h => .inl h))
      rw [← Int.natCast_add] at hs7
      have HK7 := Aside0.mk hk7.size
      have HB7 := Aside0.mk (Kp.below HBr.out hk7 (fun i hi => hi ▸ HST.out.r1.1) HBr.out.size)
      obtain ⟨A7, c7, rfl⟩ := Kd.R_slice ho7
      have HRD7 := Aside0.mk (rows_reads ho7 HBr.out.size)
      have HYL := Aside0.mk (show xs.length + (drn 4000 B1).1.length ≤ 3000 by
        have h1 := costs_len (xs ++ (drn 4000 B1).1); have := HCS.out; have := HPN.out; have := HTL.out; rw [List.length_append, costs_app] at h1; omega)
      clear ho7 hr7 hk7
      generalize (drn 4000 B1).1 = ys at *
      generalize (drn 4000 B1).2.1 = B3 at *
      generalize (drn 4000 B1).2.2 = c3 at *
      have HOK := Aside0.mk (show ∀ j, (wr.heap.size ≤ j ∧ j < w7.heap.size) → retag tag wr.heap.size 3 j = 3 ∧ some j ≠ (Value.slice A9 xs.length c9).ownBlock from
        fun j h => ⟨retag_new h.1, fun e => by have := (HST.out.row.1 j e.symm).2; omega⟩)
      have HFR := Aside0.mk (show ∀ j, w7.heap.size ≤ j → retag tag wr.heap.size 3 j = 3 from fun j h => by
        refine retag_new ?_
        have := HK7.out; omega)
      generalize retag tag wr.heap.size 3 = tag7 at hs7 HOK HFR
      have HS7 := Aside0.mk hs7
      have HO7 := Aside0.mk (Kd.R_mono (ok' := fun j => tag7 j = 3) hs7.row (fun _ h => h.1))
      clear hs7
      go_wp2_with (first
        | ((with_reducible refine gate_dst (N := 50) rfl ?_); refine Kd.R_append_rows (Kd.slice 5 (Kd.int .u8)) (w0 := w) (W := w7) w.heap.size rfl (.tmp 48) (.tmp 49) 28 22 (.slice none 0 0) 24 rfl Try.underlying28 info22 rfl (by decide) (by decide) (.slice A9 xs.length c9) xs ys A7 ys.length c7 (fun j => tag7 j = 3) (fun j => wr.heap.size ≤ j ∧ j < w7.heap.size) rfl rfl HO7.out HRD7.out (fun _ _ h => h) HOK.out HFR.out HB7.out HB7.out.size (by have := HYL.out; omega) ?_; intro v8 w8 ho8 hb8 hg8 hat8; have HS8 := Aside0.mk (HS7.out.grow ho8 hg8); have HB8 := Aside0.mk hb8; clear ho8 hb8 hg8 hat8))
      refine (drained_calls _ w.heap.size g2 _ _ w8 HS8.out.r2 HWB.out (by omega) (by have := HTL.out; omega)).mono ?_
      rintro e w9 ⟨v9, rfl, ho9, hr9, hk9⟩
      rw [HDN.out.1, HDN.out.2.1, HDN.out.2.2] at *
      have HS9 := Aside0.mk (HS8.out.turn2 3 (hr9.mono (fun j h => .inl h)) (hk9.mono (fun j h => .inl h)))
      have HB9 := Aside0.mk (Kp.below HB8.out hk9 (fun i hi => hi ▸ HS8.out.r2.1) HB8.out.size)
      have HK9 := Aside0.mk hk9.size
      obtain ⟨A9', c9', rfl⟩ := Kd.R_slice ho9
      have HRD9 := Aside0.mk (rows_reads ho9 HB8.out.size)
      clear ho9 hr9 hk9
      generalize retag tag7 w8.heap.size 3 = tag9 at HS9
      obtain ⟨zs, hzs⟩ : ∃ zs, xs ++ ys = zs := ⟨_, rfl⟩
      have HZL := Aside0.mk (show zs.length ≤ 3000 by rw [← hzs, List.length_append]; exact HYL.out)
      rw [hzs] at HRD9 HS9 ⊢
      have HAL := Aside0.mk (alike_same zs (by have := HZL.out; omega) 4000 (by have := HZL.out; omega))
      obtain ⟨A8, c8, rfl⟩ := Kd.R_slice HS9.out.row
      go_wp2_with (first
        | ((with_reducible refine gate_dst (N := 53) rfl ?_); refine Kd.R_append_rows (Kd.slice 5 (Kd.int .u8)) (w0 := w) (W := w9) w.heap.size rfl (.tmp 51) (.tmp 52) 28 22 (.slice none 0 0) 24 rfl Try.underlying28 info22 rfl (by decide) (by decide) (.slice none 0 0) [] zs A9' zs.length c9' (fun j => w8.heap.size ≤ j) (fun j => w8.heap.size ≤ j ∧ j < w9.heap.size) rfl rfl (Kd.R_nil _ _ _ _ _) HRD9.out (fun _ _ h => h) (fun j h => ⟨h.1, fun e => by simp [Value.ownBlock] at e⟩) (fun j h => Nat.le_trans HK9.out h) HB9.out HB9.out.size (by have := HZL.out; simp only [List.length_nil]; omega) ?_; intro v10 w10 ho10 hb10 hg10 hat10; rw [List.nil_append] at ho10; have HB10 := Aside0.mk hb10; have HS10 := Aside0.mk (HS9.out.below (Kp.below (Below.refl _ _) (Kp.of_grown hg10) (fun i hi => by simp [Value.ownBlock] at hi) (Nat.le_refl _))); obtain ⟨A10, c10, rfl⟩ := Kd.R_slice ho10; have HO10 := Aside0.mk (Kd.R_reads' ho10); clear ho10 hb10 hg10 hat10))
      refine (fairleadlaw16_alike.calls 4000 A8 c8 zs A10 c10 zs true w10 (Kd.R_reads' HS10.out.row).2.2 (Kd.R_reads' HS10.out.row).2.1 HO10.out.2.2 HO10.out.2.1 HAL.out).mono ?_
      rintro e w11 ⟨rfl, ⟨m, rfl⟩⟩
      have HR11 := Aside0.mk (HS10.out.r1.drewN m)
      have HR12 := Aside0.mk (HS10.out.r2.drewN m)
      have HB11 := Aside0.mk (pw_below_drewN HB10.out m)
      go_wp2_with fail
      refine (lost_calls _ _ g1 _ _ _ HR11.out).mono ?_
      rintro e w' ⟨rfl, hw⟩
      subst hw
      go_wp2_with fail
      refine (lost_calls _ _ g2 _ _ _ HR12.out).mono ?_
      rintro e w' ⟨rfl, hw⟩
      subst hw
      go_wp2_with fail
      refine (left_calls _ _ g1 _ _ _ HR11.out).mono ?_
      rintro e w' ⟨rfl, hw⟩
      subst hw
      go_wp2_with fail
      refine (left_calls _ _ g2 _ _ _ HR12.out).mono ?_
      rintro e w' ⟨rfl, hw⟩
      subst hw
      go_wp2_with fail
      go_ret
      exact ⟨rfl, HB11.out⟩

set_option maxHeartbeats 8000000 in
set_option maxRecDepth 100000 in
theorem pieces_out (A0 : Option Addr) (c0 : Nat) (l0 : List (List Int)) (vq : Value) (w : World) (hr0 : Kd.C (Kd.slice 5 (Kd.int .u8)) w A0 l0.length l0) (hc0 : l0.length ≤ c0) (hL : isLight l0 = false) :
    Calls Try.prog 6 #[.slice A0 l0.length c0, vq] w fun e w' => e = .returned (.bool true) ∧ Below w.heap.size w w' := by
  have HR0 := Aside0.mk hr0
  have HC0 := Aside0.mk hc0
  have HLT := Aside0.mk (light_is l0 200 (by omega))
  rw [hL] at HLT
  clear hr0 hc0 hL
  go_enter Try.func6, Try.ntmps6
  go_wp2_with fail
  refine (awake_calls w).mono ?_
  rintro e w1 ⟨rfl, hb1⟩
  have HB1 := Aside0.mk hb1
  have HR1 := Aside0.mk (Kd.C_below HR0.out hb1)
  clear hb1
  go_wp2_with fail
  refine (fairleadlaw16_light.calls 200 A0 c0 l0 false w1 HR1.out HC0.out HLT.out).mono ?_
  rintro e w2 ⟨rfl, hb2⟩
  have HB2 := Aside0.mk (below_then HB1.out (below_size HB1.out) hb2)
  clear hb2 HB1 HR1
  go_wp2_with fail
  go_ret
  exact ⟨rfl, HB2.out⟩
theorem pieces_any (A0 : Option Addr) (n c0 : Nat) (A1 : Option Addr) (m c1 : Nat) (w : World) (h : ∃ l, BytesRows w A0 n c0 l) (hq : ∃ l, BoolRow w A1 m c1 l) :
    Calls Try.prog 6 #[.slice A0 n c0, .slice A1 m c1] w fun e w' => e = .returned (.bool true) ∧ Below w.heap.size w w' := by
  obtain ⟨l, rfl, h1, h2, h3⟩ := h
  obtain ⟨q, rfl, q1, q2⟩ := hq
  cases hL : isLight l with
  | true => exact pieces_main A0 c0 l A1 c1 q w h2 h1 h3 hL q2 q1
  | false => exact pieces_out A0 c0 l _ w h2 h1 hL

end Go.Proofs.Ytpkgpapdmjapmaa.Fns
