/- The law FrameReads: its walk. -/
import Derived.Test.YtpkgpapdmjapmaaFrTw
import Derived.StillTailTactics
namespace Go.Proofs.Ytpkgpapdmjapmaa.Fns
open Go.RowKit Go.Proofs.YtpkgpapdmjapmaaW.PrintWords Go.Proofs.YtpkgpapdmjapmaaW.PrintLast Go.Proofs.YtpkgpapdmjapmaaW.PrintMore Go.Proofs.Ytpkgpapdmjapmaa.SumMath Go.Proofs.Ytpkgpapdmjapmaa.Pure
set_option linter.unusedVariables false
set_option linter.unusedSimpArgs false

/-- what both readers hold: k pieces have come. -/
structure Hd (l0 : List (List Int)) (k : Nat) (B : List Int) (c : Nat) : Prop where
  b : Bytes B
  n : B.length + c ≤ (l0.take k).flatten.length
theorem Hd.feed {l0 : List (List Int)} {k : Nat} {B : List Int} {c : Nat} (h : Hd l0 k B c) (hk : k < l0.length) (b : List Int) (hb : rd_L1 l0 (k : Int) = b) (hB : Bytes b) : Hd l0 (k + 1) (B ++ b) c where
  b := bytes_append h.b hB
  n := by have := h.n; rw [flat_take l0 k hk, hb, List.length_append, List.length_append]; omega
theorem Hd.next {l0 : List (List Int)} {k : Nat} {B : List Int} {c : Nat} (h : Hd l0 k B c) : Hd l0 k (nx B).2.1 (c + (nx B).2.2) where
  b := fun x hx => h.b x ((nx_rest B h.b).1.subset hx)
  n := by have := (nx_rest B h.b).2; have := h.n; omega

set_option maxHeartbeats 8000000 in
set_option maxRecDepth 100000 in
theorem reads_main (A0 : Option Addr) (c0 : Nat) (l0 : List (List Int)) (Aq : Option Addr) (cq : Nat) (lq : List Int) (w : World) (hr0 : Kd.C (Kd.slice 5 (Kd.int .u8)) w A0 l0.length l0) (hc0 : l0.length ≤ c0) (hb : ∀ b ∈ l0, Bytes b) (hL : isLight l0 = true)
    (hq0 : Kd.C (Kd.int .i64) w Aq lq.length lq) (hqc : lq.length ≤ cq) :
    Calls Try.prog 4 #[.slice A0 l0.length c0, .slice Aq lq.length cq] w fun e w' => e = .returned (.bool true) ∧ Below w.heap.size w w' := by
  have HR0 := Aside0.mk hr0
  have HC0 := Aside0.mk hc0
  have HQ0 := Aside0.mk hq0
  have HBY := Aside0.mk hb
  have HLT := Aside0.mk (light_is l0 200 (by omega))
  rw [hL] at HLT
  have HTOT := Aside0.mk (light_tot l0 hL)
  clear hr0 hc0 hb hL hq0 hqc
  go_enter Try.func4, Try.ntmps4
  go_wp2_with fail
  refine (awake_calls w).mono ?_
  rintro e w1 ⟨rfl, hb1⟩
  have HB1 := Aside0.mk hb1
  have HR1 := Aside0.mk (Kd.C_below HR0.out hb1)
  clear hb1
  go_wp2_with fail
  refine (fairleadlaw16_light.calls 200 A0 c0 l0 true w1 HR1.out HC0.out HLT.out).mono ?_
  rintro e w2 ⟨rfl, hb2⟩
  have HB2 := Aside0.mk (below_then HB1.out (below_size HB1.out) hb2)
  clear hb2 HB1 HR1
  go_upto_region 7 with (fail)
  obtain ⟨tag0, hst0⟩ := Tw.start w2 w.heap.size HB2.out.size
  have hb4 := below_alloc (below_alloc HB2.out (.cells #[.slice none 0 0, .int .i64 0] 32 (0, 0))) (.cells #[.slice none 0 0, .int .i64 0] 34 (0, 0))
  generalize (w2.alloc (.cells #[.slice none 0 0, .int .i64 0] 32 (0, 0))).alloc (.cells #[.slice none 0 0, .int .i64 0] 34 (0, 0)) = w4 at hst0 hb4 ⊢
  generalize hg2 : w2.heap.size + 1 = g2 at hst0 ⊢
  clear hg2
  generalize w2.heap.size = g1 at hst0 ⊢
  have HST := Aside0.mk hst0
  have HB4 := Aside0.mk hb4
  clear hst0 hb4 HB2
  go_wp2_with fail
  go_loopw [9] (fun v9 wr => ∃ (k : Nat) (tag : Nat → Nat) (B : List Int) (cc : Nat), k ≤ l0.length ∧ v9 = .int .i64 (k : Int) ∧ Aside0 (Tw tag w.heap.size wr g1 g2 B B (cc : Int) (cc : Int)) ∧ Aside0 (Below w.heap.size w wr) ∧ Aside0 (Hd l0 k B cc)) (fun v9 _ => l0.length - (intOf v9).toNat)
  case atStart => exact ⟨0, tag0, [], 0, by omega, by first | rfl | simp, HST, HB4, ⟨⟨fun x hx => by simp at hx, by simp⟩⟩⟩
  case round =>
    clear HST HB4
    obtain ⟨k, tag, B, cc, hk, rfl, HST, HBr, HP⟩ := hrel
    have HTL := Aside0.mk (Nat.le_trans (flat_le l0 k) HTOT.out.2)
    by_cases hkl : k < l0.length
    · have d0 : decide ((k : Int) < (l0.length : Int)) = true := decide_eq_true (by omega)
      have d1 : decide (k < l0.length) = true := decide_eq_true hkl
      obtain ⟨ad1, A1_, c1_, e1, hx0, hl1_, hi1⟩ := at_L1 HR0.out (k : Int) (by omega) (by omega)
      cases e1
      have p1 : (0 ≤ (k : Int)) = True := eq_true (by omega)
      have q1 : ((k : Int) < (l0.length : Int)) = True := eq_true (by omega)
      have q1' : (k < l0.length) = True := eq_true (by omega)
      have p2 : decide (0 ≤ (k : Int)) = true := decide_eq_true (by omega)
      have HKW := Aside0.mk (show wrap64 ((k : Int) + 1) = ((k + 1 : Nat) : Int) by rw [IntWalk.wrap64_in _ (by have := HTOT.out.1; omega)]; rfl)
      have HFT := Aside0.mk (flat_take l0 k hkl)
      have HNL := Aside0.mk (Nat.le_trans (flat_le l0 (k + 1)) HTOT.out.2)
      obtain ⟨b, hbb⟩ : ∃ b, rd_L1 l0 (k : Int) = b := ⟨_, rfl⟩
      rw [hbb] at hx0 hl1_ hi1 HFT
      have HBb := HBY.out b (by rw [← hbb, rdL_get l0 k hkl]; exact List.getElem_mem hkl)
      have HP2 := Aside0.mk (HP.out.feed hkl b hbb HBb)
      have HI0 := Aside0.mk hi1
      simp only [Int.toNat_natCast] at hx0
      have HX0 := Aside0.mk hx0
      have hx1 := pw_cell_below HBr.out hx0
      have HLL := Aside0.mk (show B.length + b.length + cc ≤ 3000 by have := HP2.out.n; have := HNL.out; rw [List.length_append] at *; omega)
      clear hi1 hl1_ hbb hx0 HBb
      go_wp2_with fail
      refine (feed _ w.heap.size g1 B _ A1_ c1_ b wr HST.out.r1 (Kd.C_below HI0.out HBr.out) (by have := HLL.out; omega)).mono ?_
      rintro e w5 ⟨⟨_, rfl⟩, hr5, hk5⟩
      have HB5 := Aside0.mk (Kp.below HBr.out hk5 (fun i hi => hi.elim (fun h => h ▸ HST.out.r1.1) (fun h => HST.out.lo i (by omega))) HBr.out.size)
      have HS5 := Aside0.mk (HST.out.turn1 1 (hr5.mono (fun j h => h.elim .inl (fun h => .inr ⟨rfl, h⟩))) hk5)
      clear hr5 hk5 hx1
      generalize retag tag wr.heap.size 1 = tag5 at HS5
      have hB6 := Below.drew HB5.out
      have hS6 := HS5.out.below (Below.drew (Below.refl _ w5))
      have hx6 := pw_cell_below hB6 HX0.out
      have hi6 := Kd.C_below HI0.out hB6
      go_upto_region 11 with (fail)
      obtain ⟨A2, c2, hblk, hrow, _, _⟩ := hS6.r2.open_
      have h60 : w5.drew.cell? ⟨g2, 0, none⟩ = some (.slice A2 B.length c2) := (blk_cell hblk 0).trans rfl
      have HRW := Aside0.mk hrow
      have HBK := Aside0.mk hblk
      have HS6 := Aside0.mk hS6
      have HB6 := Aside0.mk hB6
      have HI6 := Aside0.mk hi6
      clear hrow hblk hS6 hB6 hi6
      go_still_tail 6, (by kernel_rfl)
      change wpList _ _ _ _ _ w5.drew
      generalize w5.drew = w6 at HS6 HB6 HI6 HRW HBK h60 hx6 ⊢
      go_wp2_with (first
        | ((with_reducible refine gate_dst (N := 39) rfl ?_); refine Kd.R_append_rows (Kd.int .u8) (Rr := (Kd.int .u8).K w6) (w0 := w) (W := w6) w.heap.size rfl (.tmp 34) (.tmp 38) 22 5 (.int .u8 0) 1 rfl Try.underlying22 info5 rfl (by decide) (by decide) (.slice A2 B.length c2) B b A1_ b.length c1_ (fun j => (tag5 j = 2 ∧ j < w6.heap.size) ∨ w6.heap.size ≤ j) (fun _ => False) rfl rfl ?aO ?aR (fun _ _ h => h) (fun _ h => h.elim) ?aF ?aB ?aS ?aL ?_; (case aR => exact HI6.out); (case aB => exact HB6.out); (case aF => exact fun _ h => .inr h); (case aO => exact Kd.R_mono HRW.out (fun _ h => .inl h)); (case aS => exact HB6.out.size); (case aL => have := HLL.out; simp; omega); intro v7 w7 ho7 hb7 hg7 hat7; have hbk7 := (hg7.block g2 (blk_lt HBK.out) (Kd.R_ne HRW.out HBK.out (by decide))).trans HBK.out; have k0 : w7.cell? ⟨g2, 0, none⟩ = some (.slice A2 B.length c2) := (blk_cell hbk7 0).trans rfl; have kf0 := blk_frozen hbk7 0; obtain ⟨A7, c7, rfl⟩ := Kd.R_slice ho7; have HO7 := Aside0.mk ho7; have HG7 := Aside0.mk hg7; have HBK7 := Aside0.mk hbk7; clear ho7 hb7 hg7 hat7 hbk7))
      have hr8 := Rf.set_row HS6.out.r2.1 HBK7.out HO7.out
      have hk8 : Kp (fun j => j = g2 ∨ (tag5 j = 2 ∧ j < w6.heap.size)) w6 (w7.setCell ⟨g2, 0, none⟩ (.slice A7 (B ++ b).length c7)) :=
        Kp.set ((Kp.of_grown HG7.out).mono (fun j hj => .inr (HRW.out.1 j hj.symm))) g2 0 _ (.inl rfl)
      have HB8 := Aside0.mk (Kp.below HB6.out hk8 (fun i hi => hi.elim (fun h => h ▸ HS6.out.r2.1) (fun h => HS6.out.lo i (by omega))) HB6.out.size)
      have HS8 := Aside0.mk (HS6.out.turn2 hr8 hk8)
      clear hr8 hk8 HO7 HG7 HBK7 HRW HBK HS6 HI6 HS5 HB5 k0 kf0 h60 hx6
      rw [List.length_append] at HB8 HS8
      generalize w7.setCell ⟨g2, 0, none⟩ (.slice A7 (B.length + b.length) c7) = w8 at HB8 HS8 ⊢
      generalize retag tag5 w6.heap.size 2 = tag8 at HS8
      obtain ⟨B8, hB8⟩ : ∃ B8, B ++ b = B8 := ⟨_, rfl⟩
      rw [hB8] at HS8 HP2
      clear hB8
      go_loopw [10] (fun v10 wr => ∃ (j : Nat) (tag : Nat → Nat) (B : List Int) (cc : Nat), j ≤ 5 ∧ v10 = .int .i64 (j : Int) ∧ Aside0 (Tw tag w.heap.size wr g1 g2 B B (cc : Int) (cc : Int)) ∧ Aside0 (Below w.heap.size w wr) ∧ Aside0 (Hd l0 (k + 1) B cc)) (fun v10 _ => 5 - (intOf v10).toNat)
      case atStart => exact ⟨0, tag8, B8, cc, by omega, by first | rfl | simp, HS8, HB8, HP2⟩
      case round =>
        clear HST HBr HP HS8 HB8 HP2 HLL HFT HTL
        obtain ⟨j, tagj, Bj, cj, hj, rfl, HST, HBr, HP⟩ := hrel
        have HLJ := Aside0.mk (show Bj.length + cj ≤ 3000 from Nat.le_trans HP.out.n HNL.out)
        by_cases hkq : k < lq.length
        · obtain ⟨adq, eq_, hxq⟩ := Kd.at_int HQ0.out (k : Int) (by omega) (by omega)
          cases eq_
          simp only [Int.toNat_natCast] at hxq
          have HXQ := Aside0.mk hxq
          have hxq6 := pw_cell_below HBr.out hxq
          obtain ⟨q, hq⟩ : ∃ q, rd lq (k : Int) = q := ⟨_, rfl⟩
          rw [hq] at hxq6 HXQ
          have q0 : decide ((k : Int) < (lq.length : Int)) = true := decide_eq_true (by omega)
          have q2 : decide (k < lq.length) = true := decide_eq_true hkq
          have q3 : ((k : Int) < (lq.length : Int)) = True := eq_true (by omega)
          have q4 : (k < lq.length) = True := eq_true (by omega)
          clear hxq hq
          by_cases hjq : (j : Int) < q
          · have r0 : decide ((j : Int) < q) = true := decide_eq_true hjq
            by_cases hj5 : j < 5
            · have r1 : decide ((j : Int) < 5) = true := decide_eq_true (by omega)
              have r2 : decide (j < 5) = true := decide_eq_true hj5
              have HJW := Aside0.mk (show wrap64 ((j : Int) + 1) = ((j + 1 : Nat) : Int) by rw [IntWalk.wrap64_in _ (by omega)]; rfl)
              go_wp2_with fail
              refine (next_calls _ w.heap.size g1 Bj _ wr HST.out.r1 HP.out.b (by have := HLJ.out; omega) (by omega) (by have := HLJ.out; omega)).mono ?_
              rintro e w9 ⟨v9, rfl, hr9, hk9, hn9, hs9⟩
              have HB9 := Aside0.mk (Kp.below HBr.out hk9 (fun i hi => hi ▸ HST.out.r1.1) HBr.out.size)
              have HS9 := Aside0.mk (HST.out.turn1 3 (hr9.mono (fun j h => .inl h)) (hk9.mono (fun j h => .inl h)))
              have HSZ := Aside0.mk hk9.size
              clear hr9 hk9 hxq6
              generalize retag tagj wr.heap.size 3 = tag9 at HS9
              have hHP := HP.out.next
              cases hnx : (nx Bj).1 with
              | none =>
                obtain rfl := hn9 hnx
                clear hn9 hs9
                go_wp2_with fail
                refine (ref_next_calls _ w.heap.size g2 Bj _ w9 HS9.out.r2 HP.out.b (by have := HLJ.out; omega) (by omega) (by have := HLJ.out; omega)).mono ?_
                rintro e w10 ⟨v10, rfl, hr10, hk10, hn10, _⟩
                obtain rfl := hn10 hnx
                have HB10 := Aside0.mk (Kp.below HB9.out hk10 (fun i hi => hi ▸ HS9.out.r2.1) HB9.out.size)
                have hs10 := HS9.out.turn2 (hr10.mono (fun j h => .inr h)) (hk10.mono (fun j h => .inl h))
                rw [← Int.natCast_add] at hs10
                have HS10 := Aside0.mk hs10
                have hcv := Kd.C_string (P := Try.prog) (w := w10) (A := none) (n := 0) (c := 0) (xs := []) Try.underlying22 Try.underlying5 Try.underlying9 ⟨rfl, by simp, fun h => by simp at h⟩
                have hs0 : ((strOfNums []).toList != (strOfNums []).toList) = false := by simp
                have HHP := Aside0.mk hHP
                clear hr10 hk10 hn10 hs10 hHP
                generalize retag tag9 w9.heap.size 2 = tag10 at HS10
                go_wp2_with fail
                try rw [HJW.out]
                refine ⟨⟨j + 1, tag10, _, _, by omega, rfl, HS10, HB10, HHP⟩, ?_⟩
                simp only [intOf]
                omega
              | some bd =>
                have hro9 := hs9 bd hnx
                obtain ⟨A9, c9, rfl⟩ := Kd.R_slice hro9
                have HO9 := Aside0.mk (Kd.R_bound hro9)
                clear hn9 hs9 hro9
                go_wp2_with fail
                refine (ref_next_calls _ w.heap.size g2 Bj _ w9 HS9.out.r2 HP.out.b (by have := HLJ.out; omega) (by omega) (by have := HLJ.out; omega)).mono ?_
                rintro e w10 ⟨v10, rfl, hr10, hk10, _, hs11⟩
                have hro10 := hs11 bd hnx
                obtain ⟨A10, c10, rfl⟩ := Kd.R_slice hro10
                have HB10 := Aside0.mk (Kp.below HB9.out hk10 (fun i hi => hi ▸ HS9.out.r2.1) HB9.out.size)
                have hs10 := HS9.out.turn2 (hr10.mono (fun j h => .inr h)) (hk10.mono (fun j h => .inl h))
                rw [← Int.natCast_add] at hs10
                have HS10 := Aside0.mk hs10
                have ho9' := Kd.R_step HO9.out (fun i hi hlt => hk10.block i hlt (fun h => by have := HST.out.r2.lt; have := hi.2.1; omega))
                have hcv1 := own_string (P := Try.prog) Try.underlying22 Try.underlying5 Try.underlying9 (Kd.own_of_R ho9')
                have hcv2 := own_string (P := Try.prog) Try.underlying22 Try.underlying5 Try.underlying9 (Kd.own_of_R hro10)
                have hs0 : ((strOfNums bd).toList != (strOfNums bd).toList) = false := by simp
                have HHP := Aside0.mk hHP
                clear hr10 hk10 hs11 hs10 hHP hro10 ho9'
                generalize retag tag9 w9.heap.size 2 = tag10 at HS10
                go_wp2_with fail
                try rw [HJW.out]
                refine ⟨⟨j + 1, tag10, _, _, by omega, rfl, HS10, HB10, HHP⟩, ?_⟩
                simp only [intOf]
                omega
            · have r1 : decide ((j : Int) < 5) = false := decide_eq_false (by omega)
              have r2 : decide (j < 5) = false := decide_eq_false hj5
              go_wp2_with fail
              obtain ⟨A9, c9, hblk9, _, _, _⟩ := HST.out.r2.open_
              have x90 : ∀ m_ : Nat, (wr.drewN m_).cell? ⟨g2, 0, none⟩ = some (.slice A9 Bj.length c9) := fun m_ => (blk_cell (blk_drewN hblk9 m_) 0).trans rfl
              have x91 : ∀ m_ : Nat, (wr.drewN m_).cell? ⟨g2, 1, none⟩ = some (.int .i64 (cj : Int)) := fun m_ => (blk_cell (blk_drewN hblk9 m_) 1).trans rfl
              have x92 : wr.cell? ⟨g2, 0, none⟩ = some (.slice A9 Bj.length c9) := (blk_cell hblk9 0).trans rfl
              have x93 : wr.cell? ⟨g2, 1, none⟩ = some (.int .i64 (cj : Int)) := (blk_cell hblk9 1).trans rfl
              have x94 : ((Bj.length : Int) != (Bj.length : Int)) = false := by simp
              have x95 : ((cj : Int) != (cj : Int)) = false := by simp
              clear hblk9
              go_quiet (first | (go_at_call 16; exact Calls.quiet_of_same (left_calls _ _ g1 Bj _ _ (HST.out.r1.drewN _))) | (go_at_call 17; exact Calls.quiet_of_same (lost_calls _ _ g1 Bj _ _ (HST.out.r1.drewN _))))
              go_wp2_with fail
              rw [HKW.out]
              refine ⟨⟨k + 1, tagj, Bj, cj, by omega, rfl, ⟨HST.out.below (pw_below_drewN (Below.refl _ _) nq)⟩, ⟨pw_below_drewN HBr.out nq⟩, HP⟩, ?_⟩
              simp only [intOf, Int.toNat_natCast]
              omega
          · have r0 : decide ((j : Int) < q) = false := decide_eq_false hjq
            go_wp2_with fail
            obtain ⟨A9, c9, hblk9, _, _, _⟩ := HST.out.r2.open_
            have x90 : ∀ m_ : Nat, (wr.drewN m_).cell? ⟨g2, 0, none⟩ = some (.slice A9 Bj.length c9) := fun m_ => (blk_cell (blk_drewN hblk9 m_) 0).trans rfl
            have x91 : ∀ m_ : Nat, (wr.drewN m_).cell? ⟨g2, 1, none⟩ = some (.int .i64 (cj : Int)) := fun m_ => (blk_cell (blk_drewN hblk9 m_) 1).trans rfl
            have x92 : wr.cell? ⟨g2, 0, none⟩ = some (.slice A9 Bj.length c9) := (blk_cell hblk9 0).trans rfl
            have x93 : wr.cell? ⟨g2, 1, none⟩ = some (.int .i64 (cj : Int)) := (blk_cell hblk9 1).trans rfl
            have x94 : ((Bj.length : Int) != (Bj.length : Int)) = false := by simp
            have x95 : ((cj : Int) != (cj : Int)) = false := by simp
            clear hblk9
            go_quiet (first | (go_at_call 16; exact Calls.quiet_of_same (left_calls _ _ g1 Bj _ _ (HST.out.r1.drewN _))) | (go_at_call 17; exact Calls.quiet_of_same (lost_calls _ _ g1 Bj _ _ (HST.out.r1.drewN _))))
            go_wp2_with fail
            rw [HKW.out]
            refine ⟨⟨k + 1, tagj, Bj, cj, by omega, rfl, ⟨HST.out.below (pw_below_drewN (Below.refl _ _) nq)⟩, ⟨pw_below_drewN HBr.out nq⟩, HP⟩, ?_⟩
            simp only [intOf, Int.toNat_natCast]
            omega
        · have q0 : decide ((k : Int) < (lq.length : Int)) = false := decide_eq_false (by omega)
          have q2 : decide (k < lq.length) = false := decide_eq_false hkq
          go_wp2_with fail
          obtain ⟨A9, c9, hblk9, _, _, _⟩ := HST.out.r2.open_
          have x90 : ∀ m_ : Nat, (wr.drewN m_).cell? ⟨g2, 0, none⟩ = some (.slice A9 Bj.length c9) := fun m_ => (blk_cell (blk_drewN hblk9 m_) 0).trans rfl
          have x91 : ∀ m_ : Nat, (wr.drewN m_).cell? ⟨g2, 1, none⟩ = some (.int .i64 (cj : Int)) := fun m_ => (blk_cell (blk_drewN hblk9 m_) 1).trans rfl
          have x92 : wr.cell? ⟨g2, 0, none⟩ = some (.slice A9 Bj.length c9) := (blk_cell hblk9 0).trans rfl
          have x93 : wr.cell? ⟨g2, 1, none⟩ = some (.int .i64 (cj : Int)) := (blk_cell hblk9 1).trans rfl
          have x94 : ((Bj.length : Int) != (Bj.length : Int)) = false := by simp
          have x95 : ((cj : Int) != (cj : Int)) = false := by simp
          clear hblk9
          go_quiet (first | (go_at_call 16; exact Calls.quiet_of_same (left_calls _ _ g1 Bj _ _ (HST.out.r1.drewN _))) | (go_at_call 17; exact Calls.quiet_of_same (lost_calls _ _ g1 Bj _ _ (HST.out.r1.drewN _))))
          go_wp2_with fail
          rw [HKW.out]
          refine ⟨⟨k + 1, tagj, Bj, cj, by omega, rfl, ⟨HST.out.below (pw_below_drewN (Below.refl _ _) nq)⟩, ⟨pw_below_drewN HBr.out nq⟩, HP⟩, ?_⟩
          simp only [intOf, Int.toNat_natCast]
          omega
    · have d0 : decide ((k : Int) < (l0.length : Int)) = false := decide_eq_false (by omega)
      have d1 : decide (k < l0.length) = false := decide_eq_false hkl
      go_wp2_with fail
      go_ret
      exact ⟨rfl, HBr.out⟩

set_option maxHeartbeats 8000000 in
set_option maxRecDepth 100000 in
theorem reads_out (A0 : Option Addr) (c0 : Nat) (l0 : List (List Int)) (vq : Value) (w : World) (hr0 : Kd.C (Kd.slice 5 (Kd.int .u8)) w A0 l0.length l0) (hc0 : l0.length ≤ c0) (hL : isLight l0 = false) :
    Calls Try.prog 4 #[.slice A0 l0.length c0, vq] w fun e w' => e = .returned (.bool true) ∧ Below w.heap.size w w' := by
  have HR0 := Aside0.mk hr0
  have HC0 := Aside0.mk hc0
  have HLT := Aside0.mk (light_is l0 200 (by omega))
  rw [hL] at HLT
  clear hr0 hc0 hL
  go_enter Try.func4, Try.ntmps4
  go_wp2_with fail
  refine (awake_calls w).mono ?_
  rintro e w1 ⟨rfl, hb1⟩
  have HB1 := Aside0.mk hb1
  have HR1 := Aside0.mk (Kd.C_below HR0.out hb1)
  clear hb1
  go_wp2_with fail
  refine (fairleadlaw16_light.calls 200 A0 c0 l0 false w1 HR1.out HC0.out HLT.out).mono ?_
  rintro e w2 ⟨rfl, hb2⟩
  have HB2 := Aside0.mk (below_then HB1.out (below_size HB1.out) hb2)
  clear hb2 HB1 HR1
  go_wp2_with fail
  go_ret
  exact ⟨rfl, HB2.out⟩
theorem reads_any (A0 : Option Addr) (n c0 : Nat) (a1 : Option Addr) (len1 cap1 : Nat) (z1 : List Int) (w : World) (h : ∃ l, BytesRows w A0 n c0 l)
    (w1 : (a1 = none ∧ len1 = 0 ∧ cap1 = 0 ∧ z1 = []) ∨ ∃ x, a1 = some x ∧ len1 ≤ cap1 ∧ cap1 ≤ maxLen ∧ z1.length = cap1 ∧ (∀ i, i < z1.length → w.cell? (x.add i) = some (.int .i64 (z1.getD i 0))) ∧ ∀ n ∈ z1, (Lit.int .i64 n).wf = true) :
    Calls Try.prog 4 #[.slice A0 n c0, .slice a1 len1 cap1] w fun e w' => e = .returned (.bool true) ∧ Below w.heap.size w w' := by
  obtain ⟨l, rfl, h1, h2, h3⟩ := h
  obtain ⟨q, rfl, hr1, hm1, hw1, hc1⟩ := ReadsInt.ofRowC w1
  cases hL : isLight l with
  | true => exact reads_main A0 c0 l a1 cap1 q w h2 h1 h3 hL (Kd.C_of_reads (d := (0 : Int)) (h1 := fun _ => rfl) hr1) hc1
  | false => exact reads_out A0 c0 l _ w h2 h1 hL

end Go.Proofs.Ytpkgpapdmjapmaa.Fns
