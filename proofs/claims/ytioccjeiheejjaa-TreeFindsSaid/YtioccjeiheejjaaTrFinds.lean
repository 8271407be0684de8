/- The law TreeFinds: its walk. -/
import Derived.Test.YtioccjeiheejjaaTrFindP
import Derived.WalkMore
namespace Go.Proofs.Ytioccjeiheejjaa.Tree
open Go.RowKit Go.Proofs.YtioccjeiheejjaaW.PrintWords Go.Proofs.YtioccjeiheejjaaW.PrintLast Go.Proofs.YtioccjeiheejjaaW.PrintMore Go.Proofs.Ytioccjeiheejjaa.Fns
set_option linter.unusedVariables false
set_option linter.unusedSimpArgs false

set_option maxHeartbeats 4000000 in
set_option maxRecDepth 100000 in
/-- where Build answers with an error, or there is nothing. -/
theorem finds_out (A0 : Option Addr) (c0 : Nat) (l0 : List Int) (n : Int) (w : World) (hr0 : Kd.C (Kd.int .u32) w A0 l0.length l0) (hc0 : l0.length ≤ c0) (err : Int)
    (hB : ∀ W, Below w.heap.size w W → Calls Try.prog 10 #[.slice A0 l0.length c0] W fun e W' => ∃ v, e = .returned (.tuple #[v, .int .i64 err]) ∧ Below W.heap.size W W')
    (hp : pathB l0 n = []) (he : l0.length = 0 ∨ (0 < l0.length ∧ ((err : Int) != 0) = true)) :
    Calls Try.prog 8 #[.slice A0 l0.length c0, .int .u32 n] w fun e w' => e = .returned (.bool true) ∧ Below w.heap.size w w' := by
  have HR0 := Aside0.mk hr0
  have HC0 := Aside0.mk hc0
  have HBD := Aside0.mk hB
  have hpp := (path_is l0 n 6000 (by omega)).1
  rw [hp] at hpp
  have HP := Aside0.mk hpp
  clear hr0 hc0 hB hp hpp
  have hcase : (((l0.length : Int) == 0) = true) ∨ (((l0.length : Int) == 0) = false ∧ (err != 0) = true) := by
    rcases he with he | ⟨he, h2⟩
    · exact .inl (by rw [he]; rfl)
    · exact .inr ⟨by have : ¬ (l0.length : Int) = 0 := by omega
                     simpa using this, h2⟩
  have hcase2 : ((l0.length == 0) = true) ∨ ((l0.length == 0) = false) := by cases l0.length == 0 <;> simp
  have HE := Aside0.mk he
  clear he
  go_enter Try.func8, Try.ntmps8
  go_wp2_with fail
  refine (awake_calls w).mono ?_
  rintro e w1 ⟨rfl, hb1⟩
  have HB1 := Aside0.mk hb1
  have HR1 := Aside0.mk (Kd.C_below HR0.out hb1)
  clear hb1
  go_wp2_with fail
  refine (HBD.out w1 HB1.out).mono ?_
  rintro e w2 ⟨v2, rfl, hb2⟩
  have HB2 := Aside0.mk (below_then HB1.out HB1.out.size hb2)
  have HR2 := Aside0.mk (Kd.C_below HR1.out hb2)
  clear hb2
  go_wp2_with fail
  refine (tree_Path.calls 6000 A0 c0 l0 n [] w2 HR2.out HC0.out HP.out).mono ?_
  rintro e w3 ⟨v3, rfl, ho3, hb3⟩
  obtain ⟨A3, c3, rfl⟩ := Kd.R_slice ho3
  have HB3 := Aside0.mk (below_then HB2.out HB2.out.size hb3)
  clear ho3 hb3
  rcases HE.out with h0 | ⟨h0, h1⟩
  · have e0 : ((l0.length : Int) == 0) = true := by rw [h0]; rfl
    have e1 : (l0.length == 0) = true := by rw [h0]; rfl
    clear hcase hcase2
    go_wp2_with fail
    go_ret
    exact ⟨rfl, HB3.out⟩
  · have e0 : ((l0.length : Int) == 0) = false := by have : ¬ (l0.length : Int) = 0 := by omega
                                                     simpa using this
    have e1 : ¬ l0.length = 0 := by omega
    have e2 : ¬ l0 = [] := by intro h; rw [h] at h0; simp at h0
    clear hcase hcase2
    go_wp2_with fail
    go_ret
    exact ⟨rfl, HB3.out⟩

set_option maxHeartbeats 4000000 in
set_option maxRecDepth 100000 in
theorem finds_main (A0 : Option Addr) (c0 : Nat) (l0 : List Int) (n : Int) (w : World) (hr0 : Kd.C (Kd.int .u32) w A0 l0.length l0) (hc0 : l0.length ≤ c0) (h0 : 0 < l0.length) (hl : l0.length ≤ 4096) (hri : risesB l0 = true) :
    Calls Try.prog 8 #[.slice A0 l0.length c0, .int .u32 n] w fun e w' => e = .returned (.bool true) ∧ Below w.heap.size w w' := by
  have HR0 := Aside0.mk hr0
  have HC0 := Aside0.mk hc0
  have hri' := tree_rises_is l0 (by omega) 6000 (by omega)
  rw [hri] at hri'
  have HRI := Aside0.mk hri'
  obtain ⟨pl, e, ps, hpb, hw, hde, hlen, he62⟩ := finds_law l0 n h0 hl hri
  have hpp := (path_is l0 n 6000 (by omega)).1
  have hdd := (deep_is (l0.length : Int)).1
  rw [hpb] at hpp
  rw [hde] at hdd
  have HP := Aside0.mk hpp
  have HD := Aside0.mk hdd
  have HW := Aside0.mk hw
  have HL := Aside0.mk hl
  have hpt : pl < l0.length ∨ pl = 0 := by
    rw [← hw]
    have : ∀ i, wantI l0 n i < i ∨ wantI l0 n i = 0 := by
      intro i
      induction i with
      | zero => exact .inr rfl
      | succ i ih => rw [wantI]; split <;> omega
    exact this _
  have e0 : ((l0.length : Int) == 0) = false := by have : ¬ (l0.length : Int) = 0 := by omega
                                                   simpa using this
  have e1 : ¬ l0.length = 0 := by omega
  have e2 : ¬ l0 = [] := by intro h; rw [h] at h0; simp at h0
  clear hr0 hc0 hri hri' hpp hdd hpb hw hde
  go_enter Try.func8, Try.ntmps8
  go_wp2_with fail
  refine (awake_calls w).mono ?_
  rintro e w1 ⟨rfl, hb1⟩
  have HB1 := Aside0.mk hb1
  have HR1 := Aside0.mk (Kd.C_below HR0.out hb1)
  clear hb1
  go_wp2_with fail
  refine (build_main A0 c0 l0 w1 HR1.out HC0.out HL.out 6000 HRI.out).mono ?_
  rintro e w2 ⟨v2, rfl, hr2, hb2⟩
  have HB2 := Aside0.mk (below_then HB1.out HB1.out.size hb2)
  have HR2 := Aside0.mk (Kd.C_below HR1.out hb2)
  clear hb2 hr2
  go_wp2_with fail
  refine (tree_Path.calls 6000 A0 c0 l0 n _ w2 HR2.out HC0.out HP.out).mono ?_
  rintro e w3 ⟨v3, rfl, ho3, hb3⟩
  obtain ⟨A3, c3, rfl⟩ := Kd.R_slice ho3
  have hx3 := (Kd.R_reads' ho3).2.2
  rw [List.length_append, List.length_singleton] at hx3
  obtain ⟨ad3, e3, x3⟩ := Kd.at_int hx3 (ps.length : Int) (by omega) (by omega)
  cases e3
  have x3' : w3.cell? (ad3.add ps.length) = some (.int .i64 (pl : Int)) := by
    rw [Int.toNat_natCast] at x3
    rw [x3]
    simp [rd, List.getD_eq_getElem?_getD]
  have HX3 := Aside0.mk x3'
  have HB3 := Aside0.mk (below_then HB2.out HB2.out.size hb3)
  have HR3 := Aside0.mk (Kd.C_below HR2.out hb3)
  clear ho3 hb3 hx3 x3 x3'
  rw [List.length_append, List.length_singleton]
  go_wp2_with fail
  go_loopw [9, 10] (fun v9 v10 wr => ∃ k : Nat, k ≤ l0.length ∧ v9 = .int .i64 (wantI l0 n k : Int) ∧ v10 = .int .i64 (k : Int) ∧ Drawn0 w3 wr) (fun _ v10 _ => l0.length - (intOf v10).toNat)
  case atStart => exact ⟨0, by omega, by first | rfl | simp [wantI], by first | rfl | simp, ⟨0, rfl⟩⟩
  case round =>
    obtain ⟨k, hk, rfl, rfl, ⟨m1, rfl⟩⟩ := hrel
    by_cases hkl : k < l0.length
    · have d0 : decide ((k : Int) < (l0.length : Int)) = true := decide_eq_true (by omega)
      have d1 : decide (k < l0.length) = true := decide_eq_true hkl
      obtain ⟨ad0, f0, y0⟩ := Kd.at_int HR3.out (k : Int) (by omega) (by omega)
      cases f0
      rw [Int.toNat_natCast] at y0
      have p1 : (0 ≤ (k : Int)) = True := eq_true (by omega)
      have q1 : ((k : Int) < (l0.length : Int)) = True := eq_true (by omega)
      have q2 : (k < l0.length) = True := eq_true hkl
      have HKW := Aside0.mk (show wrap64 ((k : Int) + 1) = ((k + 1 : Nat) : Int) by rw [IntWalk.wrap64_in _ (by have := HL.out; omega)]; rfl)
      obtain ⟨x, hx⟩ : ∃ x, rd l0 (k : Int) = x := ⟨_, rfl⟩
      rw [hx] at y0
      have HWX := Aside0.mk (show wantI l0 n (k + 1) = if x ≤ n then k else wantI l0 n k by rw [wantI, hx])
      clear hx
      by_cases hle : x ≤ n
      · have z0 : decide (x ≤ n) = true := decide_eq_true hle
        go_wp2_with fail
        try rw [HKW.out]
        refine ⟨⟨k + 1, by omega, ?_, rfl, ⟨_, rfl⟩⟩, ?_⟩
        · rw [HWX.out, if_pos hle]
        · simp only [intOf]
          omega
      · have z0 : decide (x ≤ n) = false := decide_eq_false hle
        have HLE := Aside0.mk hle
        clear hle
        go_wp2_with fail
        try rw [HKW.out]
        refine ⟨⟨k + 1, by omega, ?_, rfl, ⟨_, rfl⟩⟩, ?_⟩
        · rw [HWX.out, if_neg HLE.out]
        · simp only [intOf]
          omega
    · have d0 : decide ((k : Int) < (l0.length : Int)) = false := decide_eq_false (by omega)
      have d1 : decide (k < l0.length) = false := decide_eq_false hkl
      obtain rfl : k = l0.length := by omega
      rw [HW.out]
      have x4 : ∀ m, (w3.drewN m).cell? (ad3.add ps.length) = some (.int .i64 (pl : Int)) := fun m => HX3.out
      have s1 : decide ((1 : Int) ≤ (ps.length : Int) + 1) = true := decide_eq_true (by omega)
      have s2 : decide ((ps.length : Int) + 1 ≤ (e : Int) + 1) = true := decide_eq_true (by omega)
      have s3 : decide ((ps.length : Int) ≤ (e : Int)) = true := decide_eq_true (by omega)
      have s4 : decide (ps.length ≤ e) = true := decide_eq_true (by omega)
      have s5 : ((ps.length : Int) < (ps.length : Int) + 1) = True := eq_true (by omega)
      have s6 : (ps.length < ps.length + 1) = True := eq_true (by omega)
      have s7 : (0 ≤ (ps.length : Int)) = True := eq_true (by omega)
      have s8 : wrap64 ((ps.length : Int) + 1 - 1) = (ps.length : Int) := by rw [IntWalk.wrap64_in _ (by omega)]; omega
      have s9 : wrap64 ((e : Int) + 1) = (e : Int) + 1 := IntWalk.wrap64_in _ (by omega)
      go_wp2_with fail
      refine (tree_Deep.calls 100 (l0.length : Int) (e : Int) _ HD.out).mono ?_
      rintro e' w5 ⟨rfl, ⟨m5, rfl⟩⟩
      go_wp2_with fail
      go_ret
      exact ⟨rfl, pw_below_drewN HB3.out _⟩
theorem finds_all (A0 : Option Addr) (c0 : Nat) (l0 : List Int) (n : Int) (w : World) (hr0 : Kd.C (Kd.int .u32) w A0 l0.length l0) (hc0 : l0.length ≤ c0) :
    Calls Try.prog 8 #[.slice A0 l0.length c0, .int .u32 n] w fun e w' => e = .returned (.bool true) ∧ Below w.heap.size w w' := by
  by_cases h1 : 4096 < l0.length
  · refine finds_out A0 c0 l0 n w hr0 hc0 4 (fun W hW => (build_long A0 c0 l0 W h1).mono ?_) (by unfold pathB; rw [if_neg (by omega), if_pos h1]) (.inr ⟨by omega, rfl⟩)
    rintro e w' ⟨rfl, hb⟩
    exact ⟨_, rfl, hb⟩
  by_cases h0 : l0.length = 0
  · have hri := tree_rises_is l0 (by omega) 6000 (by omega)
    rw [show risesB l0 = true by unfold risesB; rw [h0]; rfl] at hri
    refine finds_out A0 c0 l0 n w hr0 hc0 0 (fun W hW => (build_main A0 c0 l0 W (Kd.C_below hr0 hW) hc0 (by omega) 6000 hri).mono ?_) (by unfold pathB; rw [if_pos h0]) (.inl h0)
    rintro e w' ⟨v, rfl, _, hb⟩
    exact ⟨_, rfl, hb⟩
  cases hr : risesB l0 with
  | true => exact finds_main A0 c0 l0 n w hr0 hc0 (by omega) (by omega) hr
  | false =>
    have hri := tree_rises_is l0 (by omega) 6000 (by omega)
    rw [hr] at hri
    refine finds_out A0 c0 l0 n w hr0 hc0 1 (fun W hW => (build_odd A0 c0 l0 W (Kd.C_below hr0 hW) hc0 (by omega) 6000 hri).mono ?_) (by unfold pathB; rw [if_neg h0, if_neg h1, hr]; rfl) (.inr ⟨by omega, rfl⟩)
    rintro e w' ⟨rfl, hb⟩
    exact ⟨_, rfl, hb⟩
theorem finds_any (a0 : Option Addr) (len0 cap0 : Nat) (z0 : List Int) (a1 : Int) (w : World)
    (w0 : (a0 = none ∧ len0 = 0 ∧ cap0 = 0 ∧ z0 = []) ∨ ∃ x, a0 = some x ∧ len0 ≤ cap0 ∧ cap0 ≤ maxLen ∧ z0.length = cap0 ∧ (∀ i, i < z0.length → w.cell? (x.add i) = some (.int .u32 (z0.getD i 0))) ∧ ∀ n ∈ z0, (Lit.int .u32 n).wf = true) :
    Calls Try.prog 8 #[.slice a0 len0 cap0, .int .u32 a1] w fun e w' => e = .returned (.bool true) ∧ Below w.heap.size w w' := by
  obtain ⟨l0, rfl, hr0, hm0, hw0, hc0⟩ := ReadsInt.ofRowC w0
  exact finds_all a0 cap0 l0 a1 w (Kd.C_of_reads (d := (0 : Int)) (h1 := fun _ => rfl) hr0) hc0
end Go.Proofs.Ytioccjeiheejjaa.Tree
