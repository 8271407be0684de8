/- The law TreeBuilds: its walk. -/
import Derived.Test.YtioccjeiheejjaaTrRefB
namespace Go.Proofs.Ytioccjeiheejjaa.Tree
open Go.RowKit Go.Proofs.YtioccjeiheejjaaW.PrintWords Go.Proofs.YtioccjeiheejjaaW.PrintLast Go.Proofs.YtioccjeiheejjaaW.PrintMore Go.Proofs.Ytioccjeiheejjaa.Fns
set_option linter.unusedVariables false
set_option linter.unusedSimpArgs false

set_option maxHeartbeats 4000000 in
set_option maxRecDepth 100000 in
theorem refbuild_long (A0 : Option Addr) (c0 : Nat) (l0 : List Int) (w : World) (hl : 4096 < l0.length) :
    Calls Try.prog 11 #[.slice A0 l0.length c0] w fun e w' => e = .returned (.tuple #[.slice none 0 0, .int .i64 4]) ∧ Below w.heap.size w w' := by
  have d0 : decide ((4096 : Int) < (l0.length : Int)) = true := decide_eq_true (by omega)
  have d1 : decide (4096 < l0.length) = true := decide_eq_true hl
  go_enter Try.func11, Try.ntmps11
  go_wp2_with fail
  go_ret2
  exact ⟨rfl, Below.refl _ _⟩
set_option maxHeartbeats 4000000 in
set_option maxRecDepth 100000 in
theorem refbuild_odd (A0 : Option Addr) (c0 : Nat) (l0 : List Int) (w : World) (hr0 : Kd.C (Kd.int .u32) w A0 l0.length l0) (hc0 : l0.length ≤ c0) (hl : l0.length ≤ 4096) (hri : risesB l0 = false) :
    Calls Try.prog 11 #[.slice A0 l0.length c0] w fun e w' => e = .returned (.tuple #[.slice none 0 0, .int .i64 1]) ∧ Below w.heap.size w w' := by
  have hri' := ref_rises_is l0 (by omega) 6000 (by omega)
  rw [hri] at hri'
  have HR0 := Aside0.mk hr0
  have HC0 := Aside0.mk hc0
  have HRI := Aside0.mk hri'
  have d0 : decide ((4096 : Int) < (l0.length : Int)) = false := decide_eq_false (by omega)
  have d1 : decide (4096 < l0.length) = false := decide_eq_false (by omega)
  clear hr0 hc0 hri hri' hl
  go_enter Try.func11, Try.ntmps11
  go_wp2_with fail
  refine (fairleadref13_Rises.calls 6000 A0 c0 l0 false w HR0.out HC0.out HRI.out).mono ?_
  rintro e w1 ⟨rfl, ⟨m1, rfl⟩⟩
  go_wp2_with fail
  go_ret2
  exact ⟨rfl, pw_below_drewN (Below.refl _ _) m1⟩

/-- what both Builds answer of a list. -/
theorem builds_both (l0 : List Int) (hl : l0.length ≤ 5000) : ∃ (ms : List Int) (er : Int), ms.length ≤ 8192 ∧
    (∀ (w : World) (A0 : Option Addr) (c0 : Nat), Kd.C (Kd.int .u32) w A0 l0.length l0 → l0.length ≤ c0 → Calls Try.prog 10 #[.slice A0 l0.length c0] w fun e w' => ∃ v, e = .returned (.tuple #[v, .int .i64 er]) ∧ Kd.R (Kd.int .i64) 3 w' w.heap.size (fun _ => True) v ms ∧ Below w.heap.size w w') ∧
    (∀ (w : World) (A0 : Option Addr) (c0 : Nat), Kd.C (Kd.int .u32) w A0 l0.length l0 → l0.length ≤ c0 → Calls Try.prog 11 #[.slice A0 l0.length c0] w fun e w' => ∃ v, e = .returned (.tuple #[v, .int .i64 er]) ∧ Kd.R (Kd.int .i64) 3 w' w.heap.size (fun _ => True) v ms ∧ Below w.heap.size w w') := by
  by_cases h1 : 4096 < l0.length
  · refine ⟨[], 4, by simp, fun w A0 c0 h2 h3 => (build_long A0 c0 l0 w h1).mono ?_, fun w A0 c0 h2 h3 => (refbuild_long A0 c0 l0 w h1).mono ?_⟩
    · rintro e w' ⟨rfl, hb⟩
      exact ⟨_, rfl, Kd.R_nil _ _ _ _ _, hb⟩
    · rintro e w' ⟨rfl, hb⟩
      exact ⟨_, rfl, Kd.R_nil _ _ _ _ _, hb⟩
  · have hr := tree_rises_is l0 (by omega) 6000 (by omega)
    cases hri : risesB l0 with
    | true =>
      rw [hri] at hr
      refine ⟨mids (parts l0.length 0 l0.length), 0, ?_, fun w A0 c0 h2 h3 => build_main A0 c0 l0 w h2 h3 (by omega) 6000 hr, fun w A0 c0 h2 h3 => refbuild_main A0 c0 l0 w h2 h3 (by omega) hri⟩
      have a1 := mids_len (parts l0.length 0 l0.length)
      have a2 := parts_le l0.length 0 l0.length
      omega
    | false =>
      rw [hri] at hr
      refine ⟨[], 1, by simp, fun w A0 c0 h2 h3 => (build_odd A0 c0 l0 w h2 h3 (by omega) 6000 hr).mono ?_, fun w A0 c0 h2 h3 => (refbuild_odd A0 c0 l0 w h2 h3 (by omega) hri).mono ?_⟩
      · rintro e w' ⟨rfl, hb⟩
        exact ⟨_, rfl, Kd.R_nil _ _ _ _ _, hb⟩
      · rintro e w' ⟨rfl, hb⟩
        exact ⟨_, rfl, Kd.R_nil _ _ _ _ _, hb⟩

set_option maxHeartbeats 4000000 in
set_option maxRecDepth 100000 in
theorem builds_main (A0 : Option Addr) (c0 : Nat) (l0 : List Int) (w : World) (hr0 : Kd.C (Kd.int .u32) w A0 l0.length l0) (hc0 : l0.length ≤ c0) :
    Calls Try.prog 3 #[.slice A0 l0.length c0] w fun e w' => e = .returned (.bool true) ∧ Below w.heap.size w w' := by
  have HR0 := Aside0.mk hr0
  have HC0 := Aside0.mk hc0
  clear hr0 hc0
  by_cases hl : 5000 < l0.length
  · have d0 : decide ((5000 : Int) < (l0.length : Int)) = true := decide_eq_true (by omega)
    have d1 : decide (5000 < l0.length) = true := decide_eq_true hl
    go_enter Try.func3, Try.ntmps3
    go_wp2_with fail
    refine (awake_calls w).mono ?_
    rintro e w1 ⟨rfl, hb1⟩
    have HB1 := Aside0.mk hb1
    go_wp2_with fail
    go_ret
    exact ⟨rfl, HB1.out⟩
  · have d0 : decide ((5000 : Int) < (l0.length : Int)) = false := decide_eq_false (by omega)
    have d1 : decide (5000 < l0.length) = false := decide_eq_false hl
    obtain ⟨p, er, hml, hc1, hc2⟩ := builds_both l0 (by omega)
    have HK1 := Aside0.mk hc1
    have HK2 := Aside0.mk hc2
    have HS := Aside0.mk (same_is p (by omega) 9000 (by omega))
    clear hc1 hc2 hml
    go_enter Try.func3, Try.ntmps3
    go_wp2_with fail
    refine (awake_calls w).mono ?_
    rintro e w1 ⟨rfl, hb1⟩
    have HB1 := Aside0.mk hb1
    have HR1 := Aside0.mk (Kd.C_below HR0.out hb1)
    clear hb1
    go_wp2_with fail
    refine (HK1.out w1 A0 c0 HR1.out HC0.out).mono ?_
    rintro e w2 ⟨v2, rfl, ho2, hb2⟩
    obtain ⟨A2, c2, rfl⟩ := Kd.R_slice ho2
    have HO2 := Aside0.mk ho2
    have HB2 := Aside0.mk (below_then HB1.out HB1.out.size hb2)
    have HR2 := Aside0.mk (Kd.C_below HR1.out hb2)
    clear ho2 hb2
    go_wp2_with fail
    refine (HK2.out w2 A0 c0 HR2.out HC0.out).mono ?_
    rintro e w3 ⟨v3, rfl, ho3, hb3⟩
    obtain ⟨A3, c3, rfl⟩ := Kd.R_slice ho3
    have HO3 := Aside0.mk (Kd.R_reads' ho3)
    have HO2' := Aside0.mk (Kd.R_reads' (Kd.R_below HO2.out hb3))
    have HB3 := Aside0.mk (below_then HB2.out HB2.out.size hb3)
    clear ho3 hb3 HO2
    go_wp2_with fail
    refine (fairleadlaw13_same.calls 9000 A2 c2 p A3 c3 p true w3 HO2'.out.2.2 HO2'.out.2.1 HO3.out.2.2 HO3.out.2.1 HS.out).mono ?_
    rintro e w4 ⟨rfl, ⟨m4, rfl⟩⟩
    go_wp2_with fail
    go_ret
    exact ⟨by simp, pw_below_drewN HB3.out _⟩

theorem builds_any (a0 : Option Addr) (len0 cap0 : Nat) (z0 : List Int) (w : World)
    (w0 : (a0 = none ∧ len0 = 0 ∧ cap0 = 0 ∧ z0 = []) ∨ ∃ x, a0 = some x ∧ len0 ≤ cap0 ∧ cap0 ≤ maxLen ∧ z0.length = cap0 ∧ (∀ i, i < z0.length → w.cell? (x.add i) = some (.int .u32 (z0.getD i 0))) ∧ ∀ n ∈ z0, (Lit.int .u32 n).wf = true) :
    Calls Try.prog 3 #[.slice a0 len0 cap0] w fun e w' => e = .returned (.bool true) ∧ Below w.heap.size w w' := by
  obtain ⟨l0, rfl, hr0, hm0, hw0, hc0⟩ := ReadsInt.ofRowC w0
  exact builds_main a0 cap0 l0 w (Kd.C_of_reads (d := (0 : Int)) (h1 := fun _ => rfl) hr0) hc0
end Go.Proofs.Ytioccjeiheejjaa.Tree
