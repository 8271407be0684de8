/- The document's Stands: walked. -/
import Derived.Test.YtpkgpapdmjapmaaFrRefP
namespace Go.Proofs.Ytpkgpapdmjapmaa.Fns
open Go.RowKit Go.Proofs.YtpkgpapdmjapmaaW.PrintWords Go.Proofs.YtpkgpapdmjapmaaW.PrintLast Go.Proofs.YtpkgpapdmjapmaaW.PrintMore Go.Proofs.Ytpkgpapdmjapmaa.SumMath Go.Proofs.Ytpkgpapdmjapmaa.Pure
set_option linter.unusedVariables false
set_option linter.unusedSimpArgs false

set_option maxRecDepth 100000 in
theorem stands_short (A0 : Option Addr) (c0 : Nat) (l0 : List Int) (w : World) (h9 : l0.length < 9) :
    Calls Try.prog 25 #[.slice A0 l0.length c0] w fun e w' => e = .returned (.slice none 0 0) ∧ Below w.heap.size w w' := by
  have d0 : decide ((l0.length : Int) < 9) = true := decide_eq_true (by omega)
  have d1 : decide (l0.length < 9) = true := decide_eq_true h9
  go_enter Try.func25, Try.ntmps25
  go_wp2
  go_ret
  exact ⟨rfl, Below.refl _ _⟩
set_option maxHeartbeats 4000000 in
set_option maxRecDepth 100000 in
theorem stands_odd (A0 : Option Addr) (c0 : Nat) (l0 : List Int) (w : World) (hr0 : Kd.C (Kd.int .u8) w A0 l0.length l0) (hc0 : l0.length ≤ c0) (hb : Bytes l0) (hl : l0.length ≤ 1000000) (h9 : 9 ≤ l0.length) (hn : nn l0 < 1 ∨ 512 < nn l0 ∨ l0.length < 8 + nn l0) :
    Calls Try.prog 25 #[.slice A0 l0.length c0] w fun e w' => e = .returned (.slice none 0 0) ∧ Below w.heap.size w w' := by
  obtain ⟨c, d, e2, e3, b0, b1, b2, b3, ew, en⟩ := num23 l0 hb (by omega)
  obtain ⟨ad, e0, x2⟩ := Kd.at_int hr0 2 (by decide) (by omega)
  cases e0
  obtain ⟨ad', e0, x3⟩ := Kd.at_int hr0 3 (by decide) (by omega)
  cases e0
  rw [e2] at x2 ew
  rw [e3] at x3 ew
  have d0 : decide ((l0.length : Int) < 9) = false := decide_eq_false (by omega)
  have d1 : decide (l0.length < 9) = false := decide_eq_false (by omega)
  simp only [show (2 : Int).toNat = 2 from rfl, Nat.reduceMul, Nat.reduceEqDiff, Go.Addr.add, ↓reduceIte] at x2
  simp only [show (3 : Int).toNat = 3 from rfl, Nat.reduceMul, Nat.reduceEqDiff, Go.Addr.add, ↓reduceIte] at x3
  have l2 : ((2 : Int) < (l0.length : Int)) = True := eq_true (by omega)
  have l3 : ((3 : Int) < (l0.length : Int)) = True := eq_true (by omega)
  have k2 : (2 < l0.length) = True := eq_true (by omega)
  have k3 : (3 < l0.length) = True := eq_true (by omega)
  obtain ⟨n, hnn⟩ : ∃ n, c * 256 + d = n := ⟨_, rfl⟩
  rw [hnn] at ew en
  have hn2 : n < 1 ∨ 512 < n ∨ (l0.length : Int) < n + 8 := by omega
  have EW := Aside0.mk ew
  have HN := Aside0.mk hn2
  have HNN := Aside0.mk (show 0 ≤ n ∧ n ≤ 70000 by omega)
  have HCN := Aside0.mk hnn
  clear hr0 hc0 hn hnn en ew hn2 e2 e3 hb
  go_enter Try.func25, Try.ntmps25
  go_upto_region 3 with (fail)
  go_cut [3] (fun v3 wc => v3 = .int .i64 n ∧ ∃ m, wc = w.drewN m)
  case first =>
    go_quiet (fail)
    go_wp2
    go_meet
    case rel => exact ⟨by rw [HCN.out], _, rfl⟩
  case rest =>
    obtain ⟨rfl, m, rfl⟩ := hcut
    clear x2 x3
    obtain ⟨n0, n1⟩ := HNN.out
    have HB := Aside0.mk (pw_below_drewN (Below.refl w.heap.size w) m)
    by_cases g1 : n < 1
    · have z1 : decide (n < 1) = true := decide_eq_true g1
      clear g1
      go_wp2
      go_ret
      exact ⟨rfl, HB.out⟩
    · have z1 : decide (n < 1) = false := decide_eq_false g1
      by_cases g2 : 512 < n
      · have z2 : decide (512 < n) = true := decide_eq_true g2
        go_wp2
        go_ret
        exact ⟨rfl, HB.out⟩
      · have z2 : decide (512 < n) = false := decide_eq_false g2
        have g3 : (l0.length : Int) < n + 8 := by have := HN.out; omega
        have z3 : decide ((l0.length : Int) < n + 8) = true := decide_eq_true g3
        go_wp2
        go_ret
        exact ⟨rfl, HB.out⟩
set_option maxHeartbeats 4000000 in
set_option maxRecDepth 100000 in
theorem stands_full (A0 : Option Addr) (c0 : Nat) (l0 : List Int) (w : World) (hr0 : Kd.C (Kd.int .u8) w A0 l0.length l0) (hc0 : l0.length ≤ c0) (hb : Bytes l0) (hl : l0.length ≤ 1000000) (n : Nat) (hnn : nn l0 = n) (hn1 : 1 ≤ n) (hn2 : n ≤ 512) (h8 : 8 + n ≤ l0.length) (r : Bool)
    (hr : ((strOfNums (mk (bodyAt l0 n))).toList != (strOfNums (l0.take (8 + n))).toList) = !r) :
    Calls Try.prog 25 #[.slice A0 l0.length c0] w fun e w' => ∃ v, e = .returned v ∧ Kd.R (Kd.int .u8) 5 w' w.heap.size (fun _ => True) v (if r = true then bodyAt l0 n else []) ∧ Below w.heap.size w w' := by
  have HR0 := Aside0.mk hr0
  have HC0 := Aside0.mk hc0
  obtain ⟨c, d, e2, e3, b0, b1, b2, b3, ew, en⟩ := num23 l0 hb (by omega)
  obtain ⟨ad, e0, x2⟩ := Kd.at_int hr0 2 (by decide) (by omega)
  cases e0
  obtain ⟨ad', e0, x3⟩ := Kd.at_int hr0 3 (by decide) (by omega)
  cases e0
  rw [e2] at x2
  rw [e3] at x3
  have d0 : decide ((l0.length : Int) < 9) = false := decide_eq_false (by omega)
  have d1 : decide (l0.length < 9) = false := decide_eq_false (by omega)
  simp only [show (2 : Int).toNat = 2 from rfl, Nat.reduceMul, Nat.reduceEqDiff, Go.Addr.add, ↓reduceIte] at x2
  simp only [show (3 : Int).toNat = 3 from rfl, Nat.reduceMul, Nat.reduceEqDiff, Go.Addr.add, ↓reduceIte] at x3
  have l2 : ((2 : Int) < (l0.length : Int)) = True := eq_true (by omega)
  have l3 : ((3 : Int) < (l0.length : Int)) = True := eq_true (by omega)
  have k2 : (2 < l0.length) = True := eq_true (by omega)
  have k3 : (3 < l0.length) = True := eq_true (by omega)
  have HCN := Aside0.mk (show c * 256 + d = (n : Int) by omega)
  have hbl := body_length l0 n h8
  have hf := ref_frame_is (bodyAt l0 n) (body_bytes hb _) 599 (.inr (by omega)) (by omega)
  rw [if_neg (by omega), if_neg (by omega)] at hf
  have HF := Aside0.mk hf
  have HRR := Aside0.mk hr
  have HBL := Aside0.mk hbl
  clear hr0 hc0 hnn en ew e2 e3 hb hf hr hbl
  go_enter Try.func25, Try.ntmps25
  go_upto_region 3 with (fail)
  go_cut [3] (fun v3 wc => v3 = .int .i64 (n : Int) ∧ ∃ m, wc = w.drewN m)
  case first =>
    go_quiet (fail)
    go_wp2
    go_meet
    case rel => exact ⟨by rw [HCN.out], _, rfl⟩
  case rest =>
    obtain ⟨rfl, m, rfl⟩ := hcut
    clear x2 x3 l2 l3 k2 k3 HCN b0 b1 b2 b3
    have HB := Aside0.mk (pw_below_drewN (Below.refl w.heap.size w) m)
    have HRm := Aside0.mk (Kd.C_drewN HR0.out m)
    generalize w.drewN m = w1 at HB HRm ⊢
    have z1 : decide ((n : Int) < 1) = false := decide_eq_false (by omega)
    have z2 : decide ((512 : Int) < (n : Int)) = false := decide_eq_false (by omega)
    have z3 : decide ((l0.length : Int) < (n : Int) + 8) = false := decide_eq_false (by omega)
    have z1' : decide (n < 1) = false := decide_eq_false (by omega)
    have z2' : decide (512 < n) = false := decide_eq_false (by omega)
    have z3' : decide (l0.length < n + 8) = false := decide_eq_false (by omega)
    obtain ⟨i0, hi0, _, hsz0, _⟩ := info_parts info5
    obtain ⟨A9, hcut9, hA9, hC9⟩ := print_mid_of (P := Try.prog) (Value.int .u8) 0 22 5 .i64 .i64 Try.underlying22 hi0 hsz0 (some ad) c0 l0 8 (8 + (n : Int)) (by omega) (by omega) (by omega) HC0.out
    obtain ⟨hcut7, hA7, hC7⟩ := print_take_of (P := Try.prog) (Value.int .u8) 0 22 5 .i64 Try.underlying22 hi0 hsz0 (some ad) c0 l0 ((n : Int) + 8) (by omega) (by omega) HC0.out
    have eT : ((8 + (n : Int))).toNat = 8 + n := by omega
    have eT' : (((n : Int) + 8)).toNat = 8 + n := by omega
    have e8 : (8 : Int).toNat = 8 := rfl
    have eB : (l0.take (8 + n)).drop 8 = bodyAt l0 n := rfl
    rw [eT, e8, eB] at hcut9
    rw [eT, e8, eB] at hA9 hC9
    rw [eT'] at hcut7 hA7 hC7
    have HCB := Aside0.mk (Kd.C_of_reads (h1 := fun _ => rfl) (hA9 _ (Kd.reads_of_C HRm.out)))
    have HCT := Aside0.mk (Kd.C_of_reads (h1 := fun _ => rfl) (hA7 _ (Kd.reads_of_C HRm.out)))
    have HC9 := Aside0.mk hC9
    clear hA9 hC9 hA7 hC7 hi0 hsz0 eT eT' e8 eB
    generalize mk (bodyAt l0 n) = F at HRR HF
    generalize l0.take (8 + n) = T at HRR HCT hcut7
    obtain ⟨b, hbeq⟩ : ∃ b, bodyAt l0 n = b := ⟨_, rfl⟩
    rw [hbeq] at hcut9 HCB HC9 HF HBL
    have HEQ := Aside0.mk hbeq
    clear hbeq
    go_wp2_with fail
    refine (fairleadref16_Frame.calls 599 A9 _ b _ _ w1 HCB.out HC9.out HF.out).mono ?_
    rintro e w2 ⟨v2, rfl, ho2, hb2⟩
    obtain ⟨A2, c2, rfl⟩ := Kd.R_slice ho2
    have HB2 := Aside0.mk (below_then HB.out HB.out.size hb2)
    have hcv1 := fun m_ : Nat => own_string (P := Try.prog) Try.underlying22 Try.underlying5 Try.underlying9 (Kd.own_of_R (Kd.R_drewN ho2 m_))
    have hcv2 := fun m_ : Nat => Kd.C_string (P := Try.prog) (A := (some ad)) (c := c0) Try.underlying22 Try.underlying5 Try.underlying9 (Kd.C_drewN (Kd.C_below HCT.out hb2) m_)
    have HCB2 := Aside0.mk (Kd.C_below HCB.out hb2)
    cases r with
    | false =>
      have hr : ((strOfNums F).toList != (strOfNums T).toList) = true := HRR.out
      have hr' : ((strOfNums F).toList == (strOfNums T).toList) = false := by simpa using hr
      clear ho2 hb2
      go_upto_region 7 with (fail)
      go_quiet (fail)
      go_wp2
      go_ret
      exact ⟨_, rfl, Kd.R_nil _ _ _ _ _, by first | exact HB2.out | exact pw_below_drewN HB2.out _⟩
    | true =>
      have hr : ((strOfNums F).toList != (strOfNums T).toList) = false := HRR.out
      have hr' : ((strOfNums F).toList == (strOfNums T).toList) = true := by simpa using hr
      clear ho2 hb2
      go_upto_region 7 with (fail)
      go_quiet (fail)
      go_upto_region 9 with (fail)
      have HB3 := Aside0.mk (pw_below_drewN HB2.out nq)
      have HC3 := Aside0.mk (Kd.C_drewN HCB2.out nq)
      generalize w2.drewN nq = w3 at HB3 HC3 ⊢
      go_wp2_with (first
        | ((with_reducible refine gate_dst (N := 48) rfl ?_); refine Kd.R_lit (Kd.int .u8) (w0 := w3) w3.heap.size 5 ?hg (N := 48) ?hd (xs := ([] : List Int)) (inner := []) (ok := fun _ => True) (okp := fun _ => True) ?hr ?hp (fun _ hk => hk) trivial (Below.refl _ _) (Nat.le_refl _) (by simp) ?_; (case hd => rfl); (case hg => rfl); (case hr => first | (go_simp; done) | (go_simp; rfl)); (case hp => exact Reps.none _ _); intro v30 w30 ho30 hb30 hg30 hn30; have HO30 := Aside0.mk ho30; have HB30 := Aside0.mk hb30; clear ho30 hb30 hg30 hn30)
        | ((with_reducible refine gate_dst (N := 53) rfl ?_); refine Kd.R_append_rows (Kd.int .u8) (Rr := (Kd.int .u8).K w30) (w0 := w3) w3.heap.size rfl (.tmp 48) (.tmp 52) 22 5 (.int .u8 0) 1 rfl Try.underlying22 info5 rfl (by decide) (by decide) v30 [] b A9 b.length (c0 - 8) (fun _ => True) (fun _ => False) rfl rfl ?aO ?aR (fun _ _ h => h) (fun _ h => h.elim) ?aF ?aB ?aS ?aL ?_; (case aR => exact Kd.C_below HC3.out HB30.out); (case aB => exact HB30.out); (case aF => exact fun _ _ => trivial); (case aO => exact HO30.out); (case aS => exact HB30.out.size); (case aL => have := HBL.out; simp; omega); intro v32 w32 ho32 hb32 hg32 hat32; rw [List.nil_append] at ho32; have HO32 := Aside0.mk ho32; have HB32 := Aside0.mk hb32; clear ho32 hb32 hg32 hat32))
      go_ret
      exact ⟨_, rfl, by (show Kd.R _ _ _ _ _ _ (bodyAt l0 n)); rw [HEQ.out]; exact Kd.R_lower HO32.out HB3.out.size, below_then HB3.out HB3.out.size HB32.out⟩

/-- what stands at the front. -/
theorem stands_hit (A0 : Option Addr) (c0 : Nat) (l0 : List Int) (w : World) (hr0 : Kd.C (Kd.int .u8) w A0 l0.length l0) (hc0 : l0.length ≤ c0) (hb : Bytes l0) (hl : l0.length ≤ 1000000) (h : hit l0) :
    Calls Try.prog 25 #[.slice A0 l0.length c0] w fun e w' => ∃ v, e = .returned v ∧ Kd.R (Kd.int .u8) 5 w' w.heap.size (fun _ => True) v (bodyAt l0 (nn l0)) ∧ Below w.heap.size w w' := by
  obtain ⟨n1, n2, n3, _, _⟩ := bgn_long l0 hb h.1 (by have := h.2.1; omega)
  exact stands_full A0 c0 l0 w hr0 hc0 hb hl (nn l0) rfl n1 n2 h.2.2.1 true (by rw [hit_take l0 hb h]; simp)
theorem stands_not (A0 : Option Addr) (c0 : Nat) (l0 : List Int) (w : World) (hr0 : Kd.C (Kd.int .u8) w A0 l0.length l0) (hc0 : l0.length ≤ c0) (hb : Bytes l0) (hl : l0.length ≤ 1000000) (h : ¬ hit l0) :
    Calls Try.prog 25 #[.slice A0 l0.length c0] w fun e w' => ∃ v, e = .returned v ∧ Kd.R (Kd.int .u8) 5 w' w.heap.size (fun _ => True) v [] ∧ Below w.heap.size w w' := by
  by_cases h9 : l0.length < 9
  · refine (stands_short A0 c0 l0 w h9).mono ?_
    rintro e w' ⟨rfl, hb'⟩
    exact ⟨_, rfl, Kd.R_nil _ _ _ _ _, hb'⟩
  by_cases hn : nn l0 < 1 ∨ 512 < nn l0 ∨ l0.length < 8 + nn l0
  · refine (stands_odd A0 c0 l0 w hr0 hc0 hb hl (by omega) hn).mono ?_
    rintro e w' ⟨rfl, hb'⟩
    exact ⟨_, rfl, Kd.R_nil _ _ _ _ _, hb'⟩
  · refine stands_full A0 c0 l0 w hr0 hc0 hb hl (nn l0) rfl (by omega) (by omega) (by omega) false ?_
    have : ¬ (strOfNums (mk (bodyAt l0 (nn l0)))).toList = (strOfNums (l0.take (8 + nn l0))).toList := fun e =>
      h (take_hit l0 hb (nn l0) (by omega) (by omega) (by omega) ((str_iff _ _ (mk_bytes _ (body_bytes hb _)) (fun x hx => hb x (List.mem_of_mem_take hx))).1 e).symm)
    simpa using this
end Go.Proofs.Ytpkgpapdmjapmaa.Fns
