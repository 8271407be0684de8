/- The law FrameCounts: its walk. -/
import Derived.Test.YtpkgpapdmjapmaaFrRows
import Derived.Test.YtpkgpapdmjapmaaFrLight
namespace Go.Proofs.Ytpkgpapdmjapmaa.Pure
open Go.RowKit Go.Proofs.YtpkgpapdmjapmaaW.PrintWords Go.Proofs.YtpkgpapdmjapmaaW.PrintLast Go.Proofs.YtpkgpapdmjapmaaW.PrintMore Go.Proofs.Ytpkgpapdmjapmaa.SumMath Go.Proofs.Ytpkgpapdmjapmaa.Fns

theorem rdL_get (l : List (List Int)) (k : Nat) (h : k < l.length) : rd_L1 l (k : Int) = l[k] := by simp [rd_L1, List.getD_eq_getElem?_getD, h]
theorem flat_tot : ∀ (l : List (List Int)), l.flatten.length = tot l
  | [] => rfl
  | b :: l => by simp only [List.flatten_cons, List.length_append, tot, flat_tot l]
theorem flat_take (l : List (List Int)) (k : Nat) (h : k < l.length) : (l.take (k + 1)).flatten = (l.take k).flatten ++ rd_L1 l (k : Int) := by
  rw [rdL_get l k h, List.take_succ_eq_append_getElem h, List.flatten_append]
  simp
theorem flat_bytes (l : List (List Int)) (h : ∀ b ∈ l, Bytes b) (k : Nat) : Bytes (l.take k).flatten := by
  intro x hx
  obtain ⟨b, hb, hx⟩ := List.mem_flatten.1 hx
  exact h b (List.mem_of_mem_take hb) x hx
theorem flat_le (l : List (List Int)) (k : Nat) : (l.take k).flatten.length ≤ tot l := by
  rw [flat_tot]
  induction l generalizing k with
  | nil => simp [tot]
  | cons b l ih => cases k with
    | zero => simp [tot]
    | succ k => have := ih k; simp only [List.take_succ_cons, tot]; omega
theorem costs_take : ∀ (l : List (List Int)) (k : Nat), k < l.length → costs (l.take (k + 1)) = costs (l.take k) + 8 + (rd_L1 l (k : Int)).length
  | [], k, h => by simp at h
  | b :: l, 0, h => by simp [costs, rd_L1]
  | b :: l, k + 1, h => by
    have := costs_take l k (by simpa using h)
    rw [rdL_get l k (by simpa using h)] at this
    rw [rdL_get _ _ h]
    simp only [List.take_succ_cons, costs, List.getElem_cons_succ] at this ⊢
    omega
theorem costs_le (l : List (List Int)) (k : Nat) : costs (l.take k) ≤ costs l := by
  induction l generalizing k with
  | nil => simp
  | cons b l ih => cases k with
    | zero => simp [costs]
    | succ k => have := ih k; simp only [List.take_succ_cons, costs]; omega
end Go.Proofs.Ytpkgpapdmjapmaa.Pure

namespace Go.Proofs.Ytpkgpapdmjapmaa.Fns
open Go.RowKit Go.Proofs.YtpkgpapdmjapmaaW.PrintWords Go.Proofs.YtpkgpapdmjapmaaW.PrintLast Go.Proofs.YtpkgpapdmjapmaaW.PrintMore Go.Proofs.Ytpkgpapdmjapmaa.SumMath Go.Proofs.Ytpkgpapdmjapmaa.Pure
set_option linter.unusedVariables false
set_option linter.unusedSimpArgs false

set_option maxHeartbeats 8000000 in
set_option maxRecDepth 100000 in
theorem counts_main (A0 : Option Addr) (c0 : Nat) (l0 : List (List Int)) (w : World) (hr0 : Kd.C (Kd.slice 5 (Kd.int .u8)) w A0 l0.length l0) (hc0 : l0.length ≤ c0) (hb : ∀ b ∈ l0, Bytes b) (hL : isLight l0 = true) :
    Calls Try.prog 8 #[.slice A0 l0.length c0] w fun e w' => e = .returned (.bool true) ∧ Below w.heap.size w w' := by
  have HR0 := Aside0.mk hr0
  have HC0 := Aside0.mk hc0
  have HBY := Aside0.mk hb
  have HLT := Aside0.mk (light_is l0 200 (by omega))
  rw [hL] at HLT
  have HTOT := Aside0.mk (light_tot l0 hL)
  clear hr0 hc0 hb hL
  go_enter Try.func8, Try.ntmps8
  go_wp2_with fail
  refine (awake_calls w).mono ?_
  rintro e w1 ⟨rfl, hb1⟩
  have HB1 := Aside0.mk hb1
  have HR1 := Aside0.mk (Kd.C_below HR0.out hb1)
  clear hb1
  go_wp2_with fail
  refine (fairleadlaw16_light.calls 200 A0 c0 l0 true w1 HR1.out HC0.out HLT.out).mono ?_
  rintro e w2 ⟨rfl, hb2⟩
  have HB2 := Aside0.mk (below_then HB1.out (below_size HB1.out) hb2)
  clear hb2 HB1 HR1
  go_upto_region 6 with (fail)
  have hrd := (Rd.new w2 w.heap.size HB2.out.size).mono (ok' := fun k => w.heap.size ≤ k) (fun _ h => h.elim)
  have hb4 := below_alloc HB2.out (.cells #[.slice none 0 0, .int .i64 0] 32 (0, 0))
  generalize w2.alloc (.cells #[.slice none 0 0, .int .i64 0] 32 (0, 0)) = w4 at hrd hb4 ⊢
  generalize w2.heap.size = g at hrd ⊢
  have HR4 := Aside0.mk hrd
  have HB4 := Aside0.mk hb4
  clear hrd hb4 HB2
  go_wp2_with fail
  go_loopw [6, 7] (fun v6 v7 wr => ∃ (k : Nat) (B : List Int), k ≤ l0.length ∧ v6 = .int .i64 (B.length : Int) ∧ v7 = .int .i64 (k : Int) ∧ Aside0 (B = (l0.take k).flatten) ∧ Aside0 (Rd (fun k => w.heap.size ≤ k) w.heap.size wr g B 0) ∧ Aside0 (Below w.heap.size w wr)) (fun _ v7 _ => l0.length - (intOf v7).toNat)
  case atStart => exact ⟨0, [], by omega, by first | rfl | simp, by first | rfl | simp, ⟨by simp⟩, HR4, HB4⟩
  case round =>
    clear HR4 HB4
    obtain ⟨k, B, hk, rfl, rfl, HE, HRr, HBr⟩ := hrel
    have HBL := Aside0.mk (show B.length ≤ 3000 by rw [HE.out]; exact Nat.le_trans (flat_le l0 k) HTOT.out.2)
    by_cases hkl : k < l0.length
    · have d0 : decide ((k : Int) < (l0.length : Int)) = true := decide_eq_true (by omega)
      have d1 : decide (k < l0.length) = true := decide_eq_true hkl
      have HN := Aside0.mk (flat_take l0 k hkl)
      have HNL := Aside0.mk (show ((l0.take (k + 1)).flatten).length ≤ 3000 from Nat.le_trans (flat_le l0 (k + 1)) HTOT.out.2)
      obtain ⟨ad1, A1_, c1_, e1, hx1, hl1_, hi1⟩ := at_L1 (Kd.C_below HR0.out HBr.out) (k : Int) (by omega) (by omega)
      cases e1
      have HI1 := Aside0.mk hi1
      simp only [Int.toNat_natCast] at hx1
      clear hi1 hl1_
      have p1 : (0 ≤ (k : Int)) = True := eq_true (by omega)
      have q1 : ((k : Int) < (l0.length : Int)) = True := eq_true (by omega)
      have p2 : decide (0 ≤ (k : Int)) = true := decide_eq_true (by omega)
      obtain ⟨b, hbb⟩ : ∃ b, rd_L1 l0 (k : Int) = b := ⟨_, rfl⟩
      rw [hbb] at hx1 HI1 HN
      have HBB := Aside0.mk hbb
      have HLB := Aside0.mk (show B.length + b.length ≤ 3000 by have := HNL.out; rw [HN.out, ← HE.out, List.length_append] at this; exact this)
      clear hbb
      go_wp2_with fail
      refine (feed _ w.heap.size g B 0 A1_ c1_ b wr HRr.out HI1.out (by have := HLB.out; omega)).mono ?_
      rintro e w5 ⟨⟨_, rfl⟩, hr5, hk5⟩
      have HR5 := Aside0.mk (hr5.mono (ok' := fun k => w.heap.size ≤ k) (fun _ h => h.elim id (fun h => Nat.le_trans HBr.out.size h)))
      have HB5 := Aside0.mk (Kp.below HBr.out hk5 (fun i hi => hi.elim (fun h => h ▸ HRr.out.1) id) HBr.out.size)
      clear hr5 hk5 hx1
      obtain ⟨ad2, A2_, c2_, e2, hx2, hl2_, hi2⟩ := at_L1 (Kd.C_below HR0.out HB5.out) (k : Int) (by omega) (by omega)
      cases e2
      simp only [Int.toNat_natCast, HBB.out] at hx2
      clear hi2 hl2_
      go_wp2_with fail
      have hw6 : wrap64 ((B.length : Int) + (b.length : Int)) = (((B ++ b).length : Nat) : Int) := by rw [IntWalk.wrap64_in _ (by have := HLB.out; omega), List.length_append]; rfl
      have hw7 : wrap64 ((k : Int) + 1) = ((k + 1 : Nat) : Int) := by rw [IntWalk.wrap64_in _ (by have := HTOT.out.1; omega)]; rfl
      rw [hw6, hw7]
      refine ⟨⟨k + 1, B ++ b, by omega, rfl, rfl, ⟨by rw [HN.out, HE.out]⟩, HR5, HB5⟩, ?_⟩
      simp only [intOf, Int.toNat_natCast]
      omega
    · have d0 : decide ((k : Int) < (l0.length : Int)) = false := decide_eq_false (by omega)
      have d1 : decide (k < l0.length) = false := decide_eq_false hkl
      obtain rfl : k = l0.length := by omega
      have hBb : Bytes B := by rw [HE.out]; exact flat_bytes l0 HBY.out _
      have HBb := Aside0.mk hBb
      clear hBb
      have t0 : ((B.length : Int) != (B.length : Int)) = false := by simp
      go_wp2_with fail
      refine (left_calls _ _ g B 0 wr HRr.out).mono ?_
      rintro e w' ⟨rfl, hw⟩
      subst hw
      go_wp2_with fail
      refine (lost_calls _ _ g B 0 w' HRr.out).mono ?_
      rintro e w'' ⟨rfl, hw⟩
      subst hw
      go_wp2_with fail
      refine (drained_calls _ w.heap.size g B 0 w'' HRr.out HBb.out (by omega) (by have := HBL.out; omega)).mono ?_
      rintro e w6 ⟨v6, rfl, hr6, hd6, hk6⟩
      have HB6 := Aside0.mk (Kp.below HBr.out hk6 (fun i hi => hi ▸ HRr.out.1) HBr.out.size)
      have hcst := (drn_costs 4000 B HBb.out).1
      obtain ⟨A6, c6, rfl⟩ := Kd.R_slice hr6
      have HC6 := Aside0.mk (Kd.R_reads' hr6).2.2
      clear hr6 hk6
      generalize (drn 4000 B).1 = xs at hcst HC6 ⊢
      generalize (drn 4000 B).2.1 = B2 at hcst hd6 ⊢
      generalize (drn 4000 B).2.2 = c at hcst hd6 ⊢
      have HD6 := Aside0.mk hd6
      have HCST := Aside0.mk hcst
      clear hcst hd6
      have HXL := Aside0.mk (show costs xs ≤ B.length by have := HCST.out; omega)
      clear t0
      go_wp2_with fail
      go_loopw [6, 9] (fun v6 v9 wr => ∃ k : Nat, k ≤ xs.length ∧ v6 = .int .i64 ((B.length - costs (xs.take k) : Nat) : Int) ∧ v9 = .int .i64 (k : Int) ∧ Drawn0 w6 wr) (fun _ v9 _ => xs.length - (intOf v9).toNat)
      case atStart => exact ⟨0, by omega, by simp [costs], by first | rfl | simp, ⟨0, rfl⟩⟩
      case round =>
        obtain ⟨k, hk, rfl, rfl, ⟨m1, rfl⟩⟩ := hrel
        by_cases hkl : k < xs.length
        · have d0 : decide ((k : Int) < (xs.length : Int)) = true := decide_eq_true (by omega)
          have d1 : decide (k < xs.length) = true := decide_eq_true hkl
          obtain ⟨ad1, A1_, c1_, e1, hx1, hl1_, hi1⟩ := at_L1 HC6.out (k : Int) (by omega) (by omega)
          cases e1
          have p1 : (0 ≤ (k : Int)) = True := eq_true (by omega)
          have q1 : ((k : Int) < (xs.length : Int)) = True := eq_true (by omega)
          have p2 : decide (0 ≤ (k : Int)) = true := decide_eq_true (by omega)
          have HK := Aside0.mk (costs_take xs k hkl)
          have HKL := Aside0.mk (costs_le xs (k + 1))
          simp only [Int.toNat_natCast] at hx1
          clear hi1 hl1_
          obtain ⟨b, hbb⟩ : ∃ b, rd_L1 xs (k : Int) = b := ⟨_, rfl⟩
          rw [hbb] at hx1 HK
          clear hbb
          go_wp2_with fail
          have hw6 : wrap64 (wrap64 (((B.length - costs (xs.take k) : Nat) : Int) - 8) - (b.length : Int)) = ((B.length - costs (xs.take (k + 1)) : Nat) : Int) := by
            have h1 := HK.out
            have h2 := HKL.out
            have h3 := HXL.out
            have h4 := HBL.out
            rw [IntWalk.wrap64_in (((B.length - costs (xs.take k) : Nat) : Int) - 8) (by omega), IntWalk.wrap64_in _ (by omega)]
            omega
          have hw7 : wrap64 ((k : Int) + 1) = ((k + 1 : Nat) : Int) := by rw [IntWalk.wrap64_in _ (by have := HC6.out.2.1; omega)]; rfl
          rw [hw6, hw7]
          refine ⟨⟨k + 1, by omega, rfl, rfl, ⟨_, rfl⟩⟩, ?_⟩
          simp only [intOf, Int.toNat_natCast]
          omega
        · have d0 : decide ((k : Int) < (xs.length : Int)) = false := decide_eq_false (by omega)
          have d1 : decide (k < xs.length) = false := decide_eq_false hkl
          obtain rfl : k = xs.length := by omega
          have ez : B.length - costs (xs.take xs.length) = c + B2.length := by rw [List.take_length]; have := HCST.out; omega
          rw [ez]
          have HD7 := Aside0.mk (HD6.out.drewN m1)
          have HB7 := Aside0.mk (pw_below_drewN HB6.out m1)
          clear ez d0 d1 hk hkl
          have d3 : ((c : Int) + (B2.length : Int) == wrap64 ((c : Int) + (B2.length : Int))) = true := by
            rw [IntWalk.wrap64_in _ (by have := HCST.out; have := HBL.out; omega)]; simp
          go_wp2_with fail
          refine (lost_calls _ _ g B2 _ _ HD7.out).mono ?_
          rintro e w' ⟨rfl, hw⟩
          subst hw
          go_wp2_with fail
          refine (left_calls _ _ g B2 _ _ HD7.out).mono ?_
          rintro e w' ⟨rfl, hw⟩
          subst hw
          go_wp2_with fail
          go_ret
          exact ⟨rfl, HB7.out⟩

set_option maxHeartbeats 8000000 in
set_option maxRecDepth 100000 in
theorem counts_out (A0 : Option Addr) (c0 : Nat) (l0 : List (List Int)) (w : World) (hr0 : Kd.C (Kd.slice 5 (Kd.int .u8)) w A0 l0.length l0) (hc0 : l0.length ≤ c0) (hL : isLight l0 = false) :
    Calls Try.prog 8 #[.slice A0 l0.length c0] w fun e w' => e = .returned (.bool true) ∧ Below w.heap.size w w' := by
  have HR0 := Aside0.mk hr0
  have HC0 := Aside0.mk hc0
  have HLT := Aside0.mk (light_is l0 200 (by omega))
  rw [hL] at HLT
  clear hr0 hc0 hL
  go_enter Try.func8, Try.ntmps8
  go_wp2_with fail
  refine (awake_calls w).mono ?_
  rintro e w1 ⟨rfl, hb1⟩
  have HB1 := Aside0.mk hb1
  have HR1 := Aside0.mk (Kd.C_below HR0.out hb1)
  clear hb1
  go_wp2_with fail
  refine (fairleadlaw16_light.calls 200 A0 c0 l0 false w1 HR1.out HC0.out HLT.out).mono ?_
  rintro e w2 ⟨rfl, hb2⟩
  have HB2 := Aside0.mk (below_then HB1.out (below_size HB1.out) hb2)
  clear hb2 HB1 HR1
  go_wp2_with fail
  go_ret
  exact ⟨rfl, HB2.out⟩
theorem counts_any (A0 : Option Addr) (n c0 : Nat) (w : World) (h : ∃ l, BytesRows w A0 n c0 l) :
    Calls Try.prog 8 #[.slice A0 n c0] w fun e w' => e = .returned (.bool true) ∧ Below w.heap.size w w' := by
  obtain ⟨l, rfl, h1, h2, h3⟩ := h
  cases hL : isLight l with
  | true => exact counts_main A0 c0 l w h2 h1 h3 hL
  | false => exact counts_out A0 c0 l w h2 h1 hL

end Go.Proofs.Ytpkgpapdmjapmaa.Fns
