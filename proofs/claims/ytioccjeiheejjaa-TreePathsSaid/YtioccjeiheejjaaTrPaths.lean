/- The law TreePaths: its walk. -/
import Derived.Test.YtioccjeiheejjaaTrPure
namespace Go.Proofs.Ytioccjeiheejjaa.Tree
open Go.RowKit Go.Proofs.YtioccjeiheejjaaW.PrintWords Go.Proofs.YtioccjeiheejjaaW.PrintLast Go.Proofs.YtioccjeiheejjaaW.PrintMore Go.Proofs.Ytioccjeiheejjaa.Fns
set_option linter.unusedVariables false
set_option linter.unusedSimpArgs false

set_option maxHeartbeats 4000000 in
set_option maxRecDepth 100000 in
theorem paths_main (A0 : Option Addr) (c0 : Nat) (l0 : List Int) (n size : Int) (w : World) (hr0 : Kd.C (Kd.int .u32) w A0 l0.length l0) (hc0 : l0.length ≤ c0) :
    Calls Try.prog 7 #[.slice A0 l0.length c0, .int .u32 n, .int .i64 size] w fun e w' => e = .returned (.bool true) ∧ Below w.heap.size w w' := by
  have HR0 := Aside0.mk hr0
  have HC0 := Aside0.mk hc0
  clear hr0 hc0
  by_cases hl : 5000 < l0.length
  · have d0 : decide ((5000 : Int) < (l0.length : Int)) = true := decide_eq_true (by omega)
    have d1 : decide (5000 < l0.length) = true := decide_eq_true hl
    go_enter Try.func7, Try.ntmps7
    go_wp2_with fail
    refine (awake_calls w).mono ?_
    rintro e w1 ⟨rfl, hb1⟩
    have HB1 := Aside0.mk hb1
    go_wp2_with fail
    go_ret
    exact ⟨rfl, HB1.out⟩
  · have d0 : decide ((5000 : Int) < (l0.length : Int)) = false := decide_eq_false (by omega)
    have d1 : decide (5000 < l0.length) = false := decide_eq_false hl
    have hp := path_is l0 n 6000 (by omega)
    have hd := deep_is size
    have hsm := same_is (pathB l0 n) (by have := pathB_len l0 n; omega) 6000 (by have := pathB_len l0 n; omega)
    have HP := Aside0.mk hp
    have HD := Aside0.mk hd
    have HS := Aside0.mk hsm
    clear hp hd hsm
    generalize pathB l0 n = p at HP HS
    generalize deepL size 62 0 = q at HD
    go_enter Try.func7, Try.ntmps7
    go_wp2_with fail
    refine (awake_calls w).mono ?_
    rintro e w1 ⟨rfl, hb1⟩
    have HB1 := Aside0.mk hb1
    have HR1 := Aside0.mk (Kd.C_below HR0.out hb1)
    clear hb1
    go_wp2_with fail
    refine (tree_Path.calls 6000 A0 c0 l0 n p w1 HR1.out HC0.out HP.out.1).mono ?_
    rintro e w2 ⟨v2, rfl, ho2, hb2⟩
    obtain ⟨A2, c2, rfl⟩ := Kd.R_slice ho2
    have HO2 := Aside0.mk ho2
    have HB2 := Aside0.mk (below_then HB1.out HB1.out.size hb2)
    have HR2 := Aside0.mk (Kd.C_below HR1.out hb2)
    clear ho2 hb2
    go_wp2_with fail
    refine (fairleadref13_Path.calls 6000 A0 c0 l0 n p w2 HR2.out HC0.out HP.out.2).mono ?_
    rintro e w3 ⟨v3, rfl, ho3, hb3⟩
    obtain ⟨A3, c3, rfl⟩ := Kd.R_slice ho3
    have HO3 := Aside0.mk (Kd.R_reads' ho3)
    have HO2' := Aside0.mk (Kd.R_reads' (Kd.R_below HO2.out hb3))
    have HB3 := Aside0.mk (below_then HB2.out HB2.out.size hb3)
    clear ho3 hb3 HO2
    go_wp2_with fail
    refine (fairleadlaw13_same.calls 6000 A2 c2 p A3 c3 p true w3 HO2'.out.2.2 HO2'.out.2.1 HO3.out.2.2 HO3.out.2.1 HS.out).mono ?_
    rintro e w4 ⟨rfl, ⟨m4, rfl⟩⟩
    go_wp2_with fail
    refine (tree_Deep.calls 100 size q _ HD.out.1).mono ?_
    rintro e w5 ⟨rfl, ⟨m5, rfl⟩⟩
    go_wp2_with fail
    refine (fairleadref13_Deep.calls 100 size q _ HD.out.2).mono ?_
    rintro e w6 ⟨rfl, ⟨m6, rfl⟩⟩
    go_wp2_with fail
    go_ret
    exact ⟨rfl, pw_below_drewN HB3.out _⟩

theorem paths_any (a0 : Option Addr) (len0 cap0 : Nat) (z0 : List Int) (a1 a2 : Int) (w : World)
    (w0 : (a0 = none ∧ len0 = 0 ∧ cap0 = 0 ∧ z0 = []) ∨ ∃ x, a0 = some x ∧ len0 ≤ cap0 ∧ cap0 ≤ maxLen ∧ z0.length = cap0 ∧ (∀ i, i < z0.length → w.cell? (x.add i) = some (.int .u32 (z0.getD i 0))) ∧ ∀ n ∈ z0, (Lit.int .u32 n).wf = true) :
    Calls Try.prog 7 #[.slice a0 len0 cap0, .int .u32 a1, .int .i64 a2] w fun e w' => e = .returned (.bool true) ∧ Below w.heap.size w w' := by
  obtain ⟨l0, rfl, hr0, hm0, hw0, hc0⟩ := ReadsInt.ofRowC w0
  exact paths_main a0 cap0 l0 a1 a2 w (Kd.C_of_reads (d := (0 : Int)) (h1 := fun _ => rfl) hr0) hc0
end Go.Proofs.Ytioccjeiheejjaa.Tree
