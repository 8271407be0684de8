/- The law FrameMakes: its walk. -/
import Derived.Test.YtpkgpapdmjapmaaFrAwake
namespace Go.Proofs.Ytpkgpapdmjapmaa.Fns
open Go.RowKit Go.Proofs.YtpkgpapdmjapmaaW.PrintWords Go.Proofs.YtpkgpapdmjapmaaW.PrintLast Go.Proofs.YtpkgpapdmjapmaaW.PrintMore Go.Proofs.Ytpkgpapdmjapmaa.SumMath Go.Proofs.Ytpkgpapdmjapmaa.Pure
set_option linter.unusedVariables false
set_option linter.unusedSimpArgs false

set_option maxHeartbeats 8000000 in
set_option maxRecDepth 100000 in
theorem makes_main (A0 : Option Addr) (c0 : Nat) (l0 : List Int) (w : World) (hr0 : Kd.C (Kd.int .u8) w A0 l0.length l0) (hc0 : l0.length ≤ c0) (hb : Bytes l0) :
    Calls Try.prog 3 #[.slice A0 l0.length c0] w fun e w' => e = .returned (.bool true) ∧ Below w.heap.size w w' := by
  have HR0 := Aside0.mk hr0
  have HC0 := Aside0.mk hc0
  obtain ⟨r1, r2, e1⟩ : ∃ r1 r2, (if l0.length = 0 then (([] : List Int), (10 : Int)) else if 512 < l0.length then ([], 4) else (mk l0, 0)) = (r1, r2) := ⟨_, _, rfl⟩
  have hf := frame_is l0 hb 600 (.inr (by omega))
  have hg := ref_frame_is l0 hb 600 (.inr (by omega)) (by omega)
  rw [e1] at hf hg
  have HF := Aside0.mk hf
  have HG := Aside0.mk hg
  clear hr0 hc0 hb hf hg e1
  by_cases hl : 2000 < l0.length
  · have d0 : decide ((2000 : Int) < (l0.length : Int)) = true := decide_eq_true (by omega)
    have d1 : decide (2000 < l0.length) = true := decide_eq_true hl
    go_enter Try.func3, Try.ntmps3
    go_wp2_with fail
    refine (awake_calls w).mono ?_
    rintro e w1 ⟨rfl, hb1⟩
    have HB1 := Aside0.mk hb1
    clear hb1
    go_wp2_with fail
    go_ret
    exact ⟨rfl, HB1.out⟩
  · have d0 : decide ((2000 : Int) < (l0.length : Int)) = false := decide_eq_false (by omega)
    have d1 : decide (2000 < l0.length) = false := decide_eq_false hl
    go_enter Try.func3, Try.ntmps3
    go_wp2_with fail
    refine (awake_calls w).mono ?_
    rintro e w1 ⟨rfl, hb1⟩
    have HB1 := Aside0.mk hb1
    have HR1 := Aside0.mk (Kd.C_below HR0.out hb1)
    clear hb1 HR0
    go_wp2_with fail
    refine (frame_Frame.calls 600 A0 c0 l0 r1 r2 w1 HR1.out HC0.out HF.out).mono ?_
    rintro e w2 ⟨v2, rfl, ho2, hb2⟩
    have HB2 := Aside0.mk (below_then HB1.out (below_size HB1.out) hb2)
    have HR2 := Aside0.mk (Kd.C_below HR1.out hb2)
    have HO2 := Aside0.mk ho2
    clear hb2 ho2 HR1 HB1
    go_wp2_with fail
    refine (fairleadref16_Frame.calls 600 A0 c0 l0 r1 r2 w2 HR2.out HC0.out HG.out).mono ?_
    rintro e w3 ⟨v3, rfl, ho3, hb3⟩
    have HB3 := Aside0.mk (below_then HB2.out (below_size HB2.out) hb3)
    have hv2 := own_string (P := Try.prog) Try.underlying22 Try.underlying5 Try.underlying9 (Kd.own_of_R (Kd.R_below HO2.out hb3))
    have hv3 := own_string (P := Try.prog) Try.underlying22 Try.underlying5 Try.underlying9 (Kd.own_of_R ho3)
    clear hb3 ho3 HB2 HR2 HO2
    go_wp2_with fail
    go_ret
    exact ⟨rfl, HB3.out⟩

theorem makes_any (a0 : Option Addr) (len0 cap0 : Nat) (z0 : List Int) (w : World)
    (w0 : (a0 = none ∧ len0 = 0 ∧ cap0 = 0 ∧ z0 = []) ∨ ∃ x, a0 = some x ∧ len0 ≤ cap0 ∧ cap0 ≤ maxLen ∧ z0.length = cap0 ∧ (∀ i, i < z0.length → w.cell? (x.add i) = some (.int .u8 (z0.getD i 0))) ∧ ∀ n ∈ z0, (Lit.int .u8 n).wf = true) :
    Calls Try.prog 3 #[.slice a0 len0 cap0] w fun e w' => e = .returned (.bool true) ∧ Below w.heap.size w w' := by
  obtain ⟨l0, rfl, hr0, hm0, hw0, hc0⟩ := ReadsInt.ofRowC w0
  exact makes_main a0 cap0 l0 w (Kd.C_of_reads (d := (0 : Int)) (h1 := fun _ => rfl) hr0) hc0 (Pure.bytes_of hw0)

end Go.Proofs.Ytpkgpapdmjapmaa.Fns
