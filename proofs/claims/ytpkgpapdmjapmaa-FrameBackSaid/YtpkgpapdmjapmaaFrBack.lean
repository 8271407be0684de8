/- The law FrameBack: its walk. -/
import Derived.Test.YtpkgpapdmjapmaaFrBackP
namespace Go.Proofs.Ytpkgpapdmjapmaa.Fns
open Go.RowKit Go.Proofs.YtpkgpapdmjapmaaW.PrintWords Go.Proofs.YtpkgpapdmjapmaaW.PrintLast Go.Proofs.YtpkgpapdmjapmaaW.PrintMore Go.Proofs.Ytpkgpapdmjapmaa.SumMath Go.Proofs.Ytpkgpapdmjapmaa.Pure
set_option linter.unusedVariables false
set_option linter.unusedSimpArgs false

def good (l : List (List Int)) (k : Nat) : List (List Int) := (l.take k).filter fits
theorem good_yes (l : List (List Int)) (k : Nat) (h : k < l.length) (b : List Int) (hb : rd_L1 l (k : Int) = b) (hf : fits b = true) : good l (k + 1) = good l k ++ [b] := by
  rw [rdL_get l k h] at hb
  unfold good
  rw [List.take_succ_eq_append_getElem h, List.filter_append, hb]
  simp [hf]
theorem good_no (l : List (List Int)) (k : Nat) (h : k < l.length) (b : List Int) (hb : rd_L1 l (k : Int) = b) (hf : fits b = false) : good l (k + 1) = good l k := by
  rw [rdL_get l k h] at hb
  unfold good
  rw [List.take_succ_eq_append_getElem h, List.filter_append, hb]
  simp [hf]
theorem good_mem (l : List (List Int)) (k : Nat) (b : List Int) (h : b ∈ good l k) : b ∈ l ∧ fits b = true := by
  unfold good at h
  rw [List.mem_filter] at h
  exact ⟨List.mem_of_mem_take h.1, h.2⟩
theorem good_len (l : List (List Int)) (k : Nat) : (good l k).length ≤ l.length := by
  unfold good
  have := List.length_filter_le fits (l.take k)
  rw [List.length_take] at this
  omega
theorem good_costs (l : List (List Int)) (k : Nat) : ((good l k).flatMap mk).length ≤ 8 * l.length + tot l := by
  rw [mks_length, ← costs_tot]
  exact Nat.le_trans (filter_le _ _) (costs_le l k)

set_option maxHeartbeats 8000000 in
set_option maxRecDepth 100000 in
theorem back_main (A0 : Option Addr) (c0 : Nat) (l0 : List (List Int)) (w : World) (hr0 : Kd.C (Kd.slice 5 (Kd.int .u8)) w A0 l0.length l0) (hc0 : l0.length ≤ c0) (hb : ∀ b ∈ l0, Bytes b) (hL : isLight l0 = true) :
    Calls Try.prog 5 #[.slice A0 l0.length c0] w fun e w' => e = .returned (.bool true) ∧ Below w.heap.size w w' := by
  have HR0 := Aside0.mk hr0
  have HC0 := Aside0.mk hc0
  have HBY := Aside0.mk hb
  have HLT := Aside0.mk (light_is l0 200 (by omega))
  rw [hL] at HLT
  have HTOT := Aside0.mk (light_tot l0 hL)
  clear hr0 hc0 hb hL
  go_enter Try.func5, Try.ntmps5
  go_wp2_with fail
  refine (awake_calls w).mono ?_
  rintro e w1 ⟨rfl, hb1⟩
  have HB1 := Aside0.mk hb1
  have HR1 := Aside0.mk (Kd.C_below HR0.out hb1)
  clear hb1
  go_wp2_with fail
  refine (fairleadlaw16_light.calls 200 A0 c0 l0 true w1 HR1.out HC0.out HLT.out).mono ?_
  rintro e w2 ⟨rfl, hb2⟩
  have HB2 := Aside0.mk (below_then HB1.out (below_size HB1.out) hb2)
  clear hb2 HB1 HR1
  go_upto_region 6 with (fail)
  have hrd := (Rd.new w2 w.heap.size HB2.out.size).mono (ok' := fun j => w.heap.size ≤ j ∧ some j ≠ (Value.slice none 0 0).ownBlock) (fun _ h => h.elim)
  have hb4 := below_alloc HB2.out (.cells #[.slice none 0 0, .int .i64 0] 32 (0, 0))
  generalize w2.alloc (.cells #[.slice none 0 0, .int .i64 0] 32 (0, 0)) = w4 at hrd hb4 ⊢
  generalize w2.heap.size = g at hrd ⊢
  have HR4 := Aside0.mk hrd
  have HB4 := Aside0.mk hb4
  clear hrd hb4 HB2
  go_wp2_with fail
  go_loopw [6, 7] (fun v6 v7 wr => ∃ (k : Nat) (ps : List RawT), k ≤ l0.length ∧ v7 = .int .i64 (k : Int) ∧ Aside0 (Rd (fun j => w.heap.size ≤ j ∧ some j ≠ v6.ownBlock) w.heap.size wr g ((good l0 k).flatMap mk) 0) ∧ Aside0 (Below w.heap.size w wr) ∧
    Aside0 (Kd.R raw 22 wr w.heap.size (fun j => j ≠ g) v6 ps) ∧ Aside0 (ShowsAll w ps (good l0 k))) (fun _ v7 _ => l0.length - (intOf v7).toNat)
  case atStart => exact ⟨0, [], by omega, by first | rfl | simp, HR4, HB4, ⟨Kd.R_nil _ _ _ _ _⟩, ⟨trivial⟩⟩
  case round =>
    clear HR4 HB4
    obtain ⟨k, ps, hk, rfl, HRr, HBr, HVr, HS⟩ := hrel
    obtain ⟨A6, c6, rfl⟩ := Kd.R_slice HVr.out
    by_cases hkl : k < l0.length
    · have d0 : decide ((k : Int) < (l0.length : Int)) = true := decide_eq_true (by omega)
      have d1 : decide (k < l0.length) = true := decide_eq_true hkl
      obtain ⟨ad1, A1_, c1_, e1, hx0, hl1_, hi1⟩ := at_L1 HR0.out (k : Int) (by omega) (by omega)
      cases e1
      have p1 : (0 ≤ (k : Int)) = True := eq_true (by omega)
      have q1 : ((k : Int) < (l0.length : Int)) = True := eq_true (by omega)
      have p2 : decide (0 ≤ (k : Int)) = true := decide_eq_true (by omega)
      have hkw : wrap64 ((k : Int) + 1) = ((k + 1 : Nat) : Int) := by rw [IntWalk.wrap64_in _ (by have := HTOT.out.1; omega)]; rfl
      have HKW := Aside0.mk hkw
      clear hkw
      obtain ⟨b, hbb⟩ : ∃ b, rd_L1 l0 (k : Int) = b := ⟨_, rfl⟩
      have HBB := Aside0.mk hbb
      rw [hbb] at hx0 hl1_ hi1
      have HI0 := Aside0.mk hi1
      have HI1 := Aside0.mk (Kd.C_below hi1 HBr.out)
      have HLc := Aside0.mk hl1_
      have HBb := Aside0.mk (HBY.out b (by rw [← hbb, rdL_get l0 k hkl]; exact List.getElem_mem hkl))
      simp only [Int.toNat_natCast] at hx0
      have HX0 := Aside0.mk hx0
      have hx1 := pw_cell_below HBr.out hx0
      clear hi1 hl1_ hbb hx0
      by_cases hb0 : b.length = 0
      · have hf := frame_is b HBb.out 600 (.inr (by omega))
        rw [if_pos hb0] at hf
        have HF := Aside0.mk hf
        have HFN := Aside0.mk (good_no l0 k hkl b HBB.out (by unfold fits; simp; omega))
        have z0 : decide ((1 : Int) ≤ (b.length : Int)) = false := decide_eq_false (by omega)
        have z1 : decide (1 ≤ b.length) = false := decide_eq_false (by omega)
        have z2 : decide (0 < b.length) = false := decide_eq_false (by omega)
        clear hf hb0
        go_wp2_with fail
        refine (frame_Frame.calls 600 A1_ c1_ b _ _ wr HI1.out HLc.out HF.out).mono ?_
        rintro e w5 ⟨v2, rfl, ho2, hb5⟩
        have HB5 := Aside0.mk (below_then HBr.out HBr.out.size hb5)
        have HR5 := Aside0.mk (HRr.out.below hb5)
        have HV5 := Aside0.mk (Kd.R_below HVr.out hb5)
        have hx2 := pw_cell_below HB5.out HX0.out
        clear ho2 hb5 hx1
        go_wp2_with fail
        rw [HKW.out]
        refine ⟨⟨k + 1, ps, by omega, rfl, ?_, HB5, HV5, ?_⟩, ?_⟩
        · rw [HFN.out]; exact HR5
        · rw [HFN.out]; exact HS
        · simp only [intOf, Int.toNat_natCast]
          omega
      by_cases hb1 : 512 < b.length
      · have hf := frame_is b HBb.out 600 (.inr (by omega))
        rw [if_neg hb0, if_pos hb1] at hf
        have HF := Aside0.mk hf
        have HFN := Aside0.mk (good_no l0 k hkl b HBB.out (by unfold fits; simp; omega))
        have z0 : decide ((1 : Int) ≤ (b.length : Int)) = true := decide_eq_true (by omega)
        have z1 : decide (1 ≤ b.length) = true := decide_eq_true (by omega)
        have z2 : decide ((b.length : Int) ≤ 512) = false := decide_eq_false (by omega)
        have z3 : decide (b.length ≤ 512) = false := decide_eq_false (by omega)
        have z4 : decide (0 < b.length) = true := decide_eq_true (by omega)
        clear hf hb0 hb1
        go_wp2_with fail
        refine (frame_Frame.calls 600 A1_ c1_ b _ _ wr HI1.out HLc.out HF.out).mono ?_
        rintro e w5 ⟨v2, rfl, ho2, hb5⟩
        have HB5 := Aside0.mk (below_then HBr.out HBr.out.size hb5)
        have HR5 := Aside0.mk (HRr.out.below hb5)
        have HV5 := Aside0.mk (Kd.R_below HVr.out hb5)
        have hx2 := pw_cell_below HB5.out HX0.out
        clear ho2 hb5 hx1
        go_wp2_with fail
        rw [HKW.out]
        refine ⟨⟨k + 1, ps, by omega, rfl, ?_, HB5, HV5, ?_⟩, ?_⟩
        · rw [HFN.out]; exact HR5
        · rw [HFN.out]; exact HS
        · simp only [intOf, Int.toNat_natCast]
          omega
      · have hf := frame_is b HBb.out 600 (.inr (by omega))
        rw [if_neg hb0, if_neg hb1] at hf
        have HF := Aside0.mk hf
        have HFN := Aside0.mk (good_yes l0 k hkl b HBB.out (by unfold fits; simp; omega))
        have HBN := Aside0.mk (good_costs l0 (k + 1))
        rw [HFN.out, List.flatMap_append, List.flatMap_cons, List.flatMap_nil, List.append_nil, List.length_append] at HBN
        have z0 : decide ((1 : Int) ≤ (b.length : Int)) = true := decide_eq_true (by omega)
        have z1 : decide (1 ≤ b.length) = true := decide_eq_true (by omega)
        have z2 : decide ((b.length : Int) ≤ 512) = true := decide_eq_true (by omega)
        have z3 : decide (b.length ≤ 512) = true := decide_eq_true (by omega)
        have z4 : decide (0 < b.length) = true := decide_eq_true (by omega)
        have HPL := Aside0.mk (show ps.length ≤ 100 by rw [HS.out.length]; exact Nat.le_trans (good_len l0 k) HTOT.out.1)
        clear hf hb0 hb1
        go_wp2_with fail
        refine (frame_Frame.calls 600 A1_ c1_ b _ _ wr HI1.out HLc.out HF.out).mono ?_
        rintro e w5 ⟨v2, rfl, ho2, hb5⟩
        have hown : ∀ j, some j = (Value.slice A6 ps.length c6).ownBlock → j < wr.heap.size := fun j hj => ((Kd.R_bound HVr.out).1 j hj.symm).2.2.1
        obtain ⟨A3, c3, rfl⟩ := Kd.R_slice ho2
        have HO5 := Aside0.mk (Kd.R_mono (ok' := fun j => some j ≠ (Value.slice A6 ps.length c6).ownBlock) (Kd.R_bound ho2) (fun j hj h => by have := hown j h; have := hj.2.1; omega))
        have HB5 := Aside0.mk (below_then HBr.out HBr.out.size hb5)
        have HR5 := Aside0.mk (HRr.out.below hb5)
        have HV5 := Aside0.mk (Kd.R_below HVr.out hb5)
        have HSZ := Aside0.mk hb5.size
        have hx2 := pw_cell_below HB5.out HX0.out
        clear ho2 hb5 hx1 hown
        go_wp2_with (first
          | ((with_reducible refine gate_dst (N := 57) rfl ?_); refine Kd.R_append raw (w0 := w) (W := w5) w.heap.size rfl (.tmp 51) (.tmp 56) 28 22 (.slice none 0 0) 24 rfl Try.underlying28 info22 rfl (by decide) (by decide) (.slice A6 ps.length c6) ps (A1_, b.length, c1_) [.slice A1_ b.length c1_] (fun j => j ≠ g) (fun _ => False) rfl rfl rfl (fun _ h => h.elim) (fun k hk he => by have := HR5.out.lt; omega) HV5.out HB5.out HB5.out.size (by have := HPL.out; omega) ?_; intro v6 w6 ho6 hb6 hg6 hat6; have HO6 := Aside0.mk ho6; have HB6 := Aside0.mk hb6; have HG6 := Aside0.mk hg6; have HAT6 := Aside0.mk hat6; clear ho6 hb6 hg6 hat6))
        have hg0 : some g ≠ (Value.slice A6 ps.length c6).ownBlock := fun h => HV5.out.1 g h.symm rfl
        have hr6 : Rd (fun j => w.heap.size ≤ j ∧ some j ≠ v6.ownBlock) w.heap.size w6 g ((good l0 k).flatMap mk) 0 := by
          refine (HR5.out.bound.move (Kp.of_grown HG6.out) hg0 (fun j hj => hj.1.2)).mono ?_
          rintro j ⟨⟨h1, h2⟩, _, h4, _⟩
          refine ⟨h1, fun h => ?_⟩
          rcases HAT6.out with e | ⟨b', e, hle⟩
          · exact h2 (h.trans e)
          · rw [e] at h
            injection h with h
            omega
        have HR6 := Aside0.mk hr6
        have HO7 := Aside0.mk (Kd.R_grown HO5.out HG6.out (fun j hj => hj))
        clear hr6 HO5 HR5 HV5 hx2 hg0
        refine (feed _ w.heap.size g _ 0 A3 c3 (mk b) w6 HR6.out (Kd.R_reads' HO7.out).2.2 (by have := HBN.out; have := HTOT.out; omega)).mono ?_
        rintro e w7 ⟨⟨_, rfl⟩, hr7, hk7⟩
        have hlt6 : ∀ j, some j = v6.ownBlock → j < w6.heap.size := fun j hj => ((Kd.R_bound HO6.out).1 j hj.symm).2.2.1
        have HR7 := Aside0.mk (hr7.mono (ok' := fun j => w.heap.size ≤ j ∧ some j ≠ v6.ownBlock) (fun j h => h.elim id (fun h => ⟨Nat.le_trans HB6.out.size h, fun e => by have := hlt6 j e; omega⟩)))
        have HB7 := Aside0.mk (Kp.below HB6.out hk7 (fun i hi => hi.elim (fun h => h ▸ HR6.out.1) (fun h => h.1)) HB6.out.size)
        have HV7 := Aside0.mk (Kd.R_mono (ok' := fun j => j ≠ g) (Kd.R_step (raw_narrow HO6.out) (fun j hj hlt => hk7.block j hlt (fun h => h.elim hj.2 (fun h => h.2 hj.1)))) (fun _ h => h.2))
        have HS7 := Aside0.mk (ShowsAll.append (qs := [(A1_, b.length, c1_)]) (cs := [b]) HS.out ⟨⟨rfl, HLc.out, HI0.out⟩, trivial⟩)
        clear hr7 hk7 hlt6
        go_wp2_with fail
        rw [HKW.out]
        refine ⟨⟨k + 1, ps ++ [(A1_, b.length, c1_)], by omega, rfl, ?_, HB7, HV7, ?_⟩, ?_⟩
        · rw [HFN.out, List.flatMap_append, List.flatMap_cons, List.flatMap_nil, List.append_nil]; exact HR7
        · rw [HFN.out]; exact HS7
        · simp only [intOf, Int.toNat_natCast]
          omega
    · have d0 : decide ((k : Int) < (l0.length : Int)) = false := decide_eq_false (by omega)
      have d1 : decide (k < l0.length) = false := decide_eq_false hkl
      obtain rfl : k = l0.length := by omega
      have HGC := Aside0.mk (good_costs l0 l0.length)
      have HGL := Aside0.mk (good_len l0 l0.length)
      have HDR := Aside0.mk (drn_mks (good l0 l0.length) 4000 (by have := HGL.out; have := HTOT.out; omega) (fun b hb => ⟨HBY.out b (good_mem l0 _ b hb).1, (good_mem l0 _ b hb).2⟩))
      have HBB := Aside0.mk (mks_bytes (good l0 l0.length) (fun b hb => HBY.out b (good_mem l0 _ b hb).1))
      have HAL := Aside0.mk (alike_same (good l0 l0.length) (by have := HGL.out; have := HTOT.out; omega) 1000 (by have := HGL.out; have := HTOT.out; omega))
      have HPL := Aside0.mk HS.out.length
      generalize good l0 l0.length = gs at HGC HGL HDR HBB HAL HPL HS HRr ⊢
      go_wp2_with fail
      refine (drained_calls _ w.heap.size g _ 0 wr HRr.out HBB.out (by omega) (by have := HGC.out; have := HTOT.out; omega)).mono ?_
      rintro e w8 ⟨v8, rfl, ho8, hr8, hk8⟩
      rw [HDR.out] at ho8 hr8
      have HR8 : Aside0 (Rd (fun j => w.heap.size ≤ j ∧ some j ≠ (Value.slice A6 ps.length c6).ownBlock) w.heap.size w8 g [] 0) := ⟨hr8⟩
      obtain ⟨A8, c8, rfl⟩ := Kd.R_slice ho8
      have HB8 := Aside0.mk (Kp.below HBr.out hk8 (fun i hi => hi ▸ HRr.out.1) HBr.out.size)
      have HV8 := Aside0.mk (Kd.R_step HVr.out (fun j hj hlt => hk8.block j hlt hj))
      have HG8 := Aside0.mk (Kd.R_reads' ho8)
      have HW8 := Aside0.mk (raw_rows (Kd.R_reads' HV8.out).2.2 (HS.out.below HB8.out))
      clear ho8 hr8 hk8
      rw [HPL.out] at HW8 ⊢
      go_wp2_with fail
      refine (fairleadlaw16_alike.calls 1000 A8 c8 gs A6 c6 gs true w8 HG8.out.2.2 ?_ HW8.out ?_ HAL.out).mono ?_
      · exact HG8.out.2.1
      · rw [← HPL.out]; exact (Kd.R_reads' HV8.out).2.1
      rintro e w9 ⟨rfl, ⟨m, rfl⟩⟩
      have HR9 := Aside0.mk (HR8.out.drewN m)
      have HB9 := Aside0.mk (pw_below_drewN HB8.out m)
      go_wp2_with fail
      refine (lost_calls _ _ g [] 0 _ HR9.out).mono ?_
      rintro e w' ⟨rfl, hw⟩
      subst hw
      go_wp2_with fail
      refine (left_calls _ _ g [] 0 _ HR9.out).mono ?_
      rintro e w' ⟨rfl, hw⟩
      subst hw
      go_wp2_with fail
      go_ret
      exact ⟨rfl, HB9.out⟩

set_option maxHeartbeats 8000000 in
set_option maxRecDepth 100000 in
theorem back_out (A0 : Option Addr) (c0 : Nat) (l0 : List (List Int)) (w : World) (hr0 : Kd.C (Kd.slice 5 (Kd.int .u8)) w A0 l0.length l0) (hc0 : l0.length ≤ c0) (hL : isLight l0 = false) :
    Calls Try.prog 5 #[.slice A0 l0.length c0] w fun e w' => e = .returned (.bool true) ∧ Below w.heap.size w w' := by
  have HR0 := Aside0.mk hr0
  have HC0 := Aside0.mk hc0
  have HLT := Aside0.mk (light_is l0 200 (by omega))
  rw [hL] at HLT
  clear hr0 hc0 hL
  go_enter Try.func5, Try.ntmps5
  go_wp2_with fail
  refine (awake_calls w).mono ?_
  rintro e w1 ⟨rfl, hb1⟩
  have HB1 := Aside0.mk hb1
  have HR1 := Aside0.mk (Kd.C_below HR0.out hb1)
  clear hb1
  go_wp2_with fail
  refine (fairleadlaw16_light.calls 200 A0 c0 l0 false w1 HR1.out HC0.out HLT.out).mono ?_
  rintro e w2 ⟨rfl, hb2⟩
  have HB2 := Aside0.mk (below_then HB1.out (below_size HB1.out) hb2)
  clear hb2 HB1 HR1
  go_wp2_with fail
  go_ret
  exact ⟨rfl, HB2.out⟩
theorem back_any (A0 : Option Addr) (n c0 : Nat) (w : World) (h : ∃ l, BytesRows w A0 n c0 l) :
    Calls Try.prog 5 #[.slice A0 n c0] w fun e w' => e = .returned (.bool true) ∧ Below w.heap.size w w' := by
  obtain ⟨l, rfl, h1, h2, h3⟩ := h
  cases hL : isLight l with
  | true => exact back_main A0 c0 l w h2 h1 h3 hL
  | false => exact back_out A0 c0 l w h2 h1 hL

end Go.Proofs.Ytpkgpapdmjapmaa.Fns
