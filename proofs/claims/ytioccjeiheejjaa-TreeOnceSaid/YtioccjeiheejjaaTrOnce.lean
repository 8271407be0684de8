/- The law TreeOnce: its walk. -/
import Derived.Test.YtioccjeiheejjaaTrOnceP
import Derived.WalkMore
namespace Go.Proofs.Ytioccjeiheejjaa.Tree
open Go.RowKit Go.Proofs.YtioccjeiheejjaaW.PrintWords Go.Proofs.YtioccjeiheejjaaW.PrintLast Go.Proofs.YtioccjeiheejjaaW.PrintMore Go.Proofs.Ytioccjeiheejjaa.Fns
attribute [local go_sem] max2_int min2_int max_two min_two max_three min_three max_four min_four
set_option linter.unusedVariables false
set_option linter.unusedSimpArgs false

set_option maxHeartbeats 4000000 in
set_option maxRecDepth 100000 in
theorem once_out (A0 : Option Addr) (c0 : Nat) (l0 : List Int) (w : World) (hr0 : Kd.C (Kd.int .u32) w A0 l0.length l0) (hc0 : l0.length ≤ c0) (err : Int)
    (hB : ∀ W, Below w.heap.size w W → Calls Try.prog 10 #[.slice A0 l0.length c0] W fun e W' => e = .returned (.tuple #[.slice none 0 0, .int .i64 err]) ∧ Below W.heap.size W W')
    (he : (err = 4 ∧ 4096 < l0.length) ∨ (err = 1 ∧ l0.length ≤ 4096)) :
    Calls Try.prog 5 #[.slice A0 l0.length c0] w fun e w' => e = .returned (.bool true) ∧ Below w.heap.size w w' := by
  have HR0 := Aside0.mk hr0
  have HC0 := Aside0.mk hc0
  have HBD := Aside0.mk hB
  clear hr0 hc0 hB
  rcases he with ⟨rfl, hl⟩ | ⟨rfl, hl⟩
  · have d0 : decide ((4096 : Int) < (l0.length : Int)) = true := decide_eq_true (by omega)
    have d1 : decide (4096 < l0.length) = true := decide_eq_true hl
    go_enter Try.func5, Try.ntmps5
    go_wp2_with fail
    refine (awake_calls w).mono ?_
    rintro e w1 ⟨rfl, hb1⟩
    have HB1 := Aside0.mk hb1
    clear hb1
    go_wp2_with fail
    refine (HBD.out w1 HB1.out).mono ?_
    rintro e w2 ⟨rfl, hb2⟩
    have HB2 := Aside0.mk (below_then HB1.out HB1.out.size hb2)
    clear hb2
    go_wp2_with fail
    go_ret
    exact ⟨rfl, HB2.out⟩
  · have d0 : decide ((4096 : Int) < (l0.length : Int)) = false := decide_eq_false (by omega)
    have d1 : decide (4096 < l0.length) = false := decide_eq_false (by omega)
    go_enter Try.func5, Try.ntmps5
    go_wp2_with fail
    refine (awake_calls w).mono ?_
    rintro e w1 ⟨rfl, hb1⟩
    have HB1 := Aside0.mk hb1
    clear hb1
    go_wp2_with fail
    refine (HBD.out w1 HB1.out).mono ?_
    rintro e w2 ⟨rfl, hb2⟩
    have HB2 := Aside0.mk (below_then HB1.out HB1.out.size hb2)
    clear hb2
    go_wp2_with fail
    go_ret
    exact ⟨rfl, HB2.out⟩

theorem info4 : (Try.prog.info? 4).map (fun i => (i.zero, i.size, i.bytes)) = some (some (.bool false), 1, 1) := by kernel_rfl
set_option maxHeartbeats 4000000 in
set_option maxRecDepth 100000 in
theorem once_main (A0 : Option Addr) (c0 : Nat) (l0 : List Int) (w : World) (hr0 : Kd.C (Kd.int .u32) w A0 l0.length l0) (hc0 : l0.length ≤ c0) (hl : l0.length ≤ 4096) (hri : risesB l0 = true) :
    Calls Try.prog 5 #[.slice A0 l0.length c0] w fun e w' => e = .returned (.bool true) ∧ Below w.heap.size w w' := by
  have HR0 := Aside0.mk hr0
  have HC0 := Aside0.mk hc0
  have hri' := tree_rises_is l0 (by omega) 6000 (by omega)
  rw [hri] at hri'
  have HRI := Aside0.mk hri'
  have hM : (∀ x ∈ mids (parts l0.length 0 l0.length), 0 < x ∧ x < (l0.length : Int)) ∧ (mids (parts l0.length 0 l0.length)).Nodup ∧ (mids (parts l0.length 0 l0.length)).length = l0.length - 1 := by
    by_cases h0 : l0.length = 0
    · rw [h0]
      exact ⟨fun x hx => by simp [parts, mids] at hx, by simp [parts, mids], by simp [parts, mids]⟩
    · have := mids_once l0.length 0 l0.length (by omega) (by omega)
      exact ⟨fun x hx => by have := this.1 x hx; omega, this.2.1, by rw [this.2.2]; omega⟩
  have HM := Aside0.mk hM
  have HL := Aside0.mk hl
  have hl' : l0.length ≤ 4096 := HL.out
  clear hr0 hc0 hri hri' hM
  go_enter Try.func5, Try.ntmps5
  go_wp2_with fail
  refine (awake_calls w).mono ?_
  rintro e w1 ⟨rfl, hb1⟩
  have HB1 := Aside0.mk hb1
  have HR1 := Aside0.mk (Kd.C_below HR0.out hb1)
  clear hb1
  go_wp2_with fail
  refine (build_main A0 c0 l0 w1 HR1.out HC0.out HL.out 6000 HRI.out).mono ?_
  rintro e w2 ⟨v2, rfl, hr2, hb2⟩
  obtain ⟨M, hMe⟩ : ∃ M, mids (parts l0.length 0 l0.length) = M := ⟨_, rfl⟩
  rw [hMe] at hr2 HM
  clear hMe
  obtain ⟨A2, c2, rfl⟩ := Kd.R_slice hr2
  have HO2 := Aside0.mk (Kd.R_lower hr2 HB1.out.size)
  have HB2 := Aside0.mk (below_then HB1.out HB1.out.size hb2)
  clear hb2 hr2
  go_wp2_with (first
    | ((with_reducible refine gate_dst (N := 32) rfl ?_); refine Kd.R_make Kd.bool (w0 := w) (W := w2) w.heap.size 4 ?hg (N := 32) ?hd 37 (.tmp 31) (.tmp 31) ?ho (l0.length : Int) ?hx ?hy Try.underlying37 (.bool false) 1 info4 rfl (by decide) (by decide) false (ok := fun _ => True) (okp := fun _ => True) rfl (fun _ h => h) trivial (by omega) (by omega) HB2.out HB2.out.size ?_; (case hd => rfl); (case hg => rfl); (case ho => rfl); (case hx => rfl); (case hy => rfl); intro v6 w3 ho3 hb3 hg3 hat3; rw [Int.toNat_natCast, ← seenL_zero l0.length M] at ho3; obtain ⟨A6, c6, rfl⟩ := Kd.R_slice ho3; rw [seenL_len] at ho3; have HO3 := Aside0.mk ho3; have HB3 := Aside0.mk hb3; have HM3 := Aside0.mk (Kd.R_mono (ok' := fun j => some j ≠ (Value.slice A6 l0.length c6).ownBlock) (Kd.R_grown (Kd.R_bound HO2.out) hg3 (fun k hk => by simp)) (fun j hj e => by obtain ⟨b, hb, hle⟩ := hat3; rw [seenL_len] at hb; rw [hb] at e; injection e with e; have := hj.2.2.1; omega)); clear ho3 hb3 hg3 hat3; rw [seenL_len]))
  go_loopw [7] (fun v7 wr => ∃ k : Nat, k ≤ M.length ∧ v7 = .int .i64 (k : Int) ∧ Aside0 (Kd.R Kd.bool 4 wr w.heap.size (fun _ => True) (.slice A6 l0.length c6) (seenL l0.length M k)) ∧ Aside0 (Kd.R (Kd.int .i64) 3 wr w.heap.size (fun j => some j ≠ (Value.slice A6 l0.length c6).ownBlock) (.slice A2 M.length c2) M) ∧ Aside0 (Below w.heap.size w wr)) (fun v7 _ => M.length - (intOf v7).toNat)
  case atStart => exact ⟨0, by omega, by first | rfl | simp, HO3, HM3, HB3⟩
  case round =>
    clear HO3 HM3 HB3
    obtain ⟨k, hk, rfl, HS, HMR, HBr⟩ := hrel
    by_cases hkl : k < M.length
    · have d0 : decide ((k : Int) < (M.length : Int)) = true := decide_eq_true (by omega)
      have d1 : decide (k < M.length) = true := decide_eq_true hkl
      obtain ⟨x, hx⟩ : ∃ x, rd M (k : Int) = x := ⟨_, rfl⟩
      have hxm := HM.out.1 x (by rw [← hx, rd_mem M k hkl]; exact List.getElem_mem hkl)
      obtain ⟨ad2, f2, y2⟩ := Kd.at_int (Kd.R_reads' HMR.out).2.2 (k : Int) (by omega) (by omega)
      cases f2
      rw [Int.toNat_natCast, hx] at y2
      have hsl := seenL_len l0.length M k
      obtain ⟨g6, c6', he, hg6, hgl6, _⟩ := Kd.R_form (show Kd.R Kd.bool 4 wr w.heap.size (fun _ => True) (.slice A6 l0.length c6) (seenL l0.length M k) from HS.out) (by rw [hsl]; omega)
      injection he with he1 he2 he3
      subst he1
      subst he3
      have hs' : Kd.R Kd.bool 4 wr w.heap.size (fun _ => True) (.slice (some ⟨g6, 0, none⟩) (seenL l0.length M k).length c6) (seenL l0.length M k) := by rw [hsl]; exact HS.out
      obtain ⟨hc6, hf6⟩ := Kd.R_cell (d := false) hs' x (by omega) (by rw [hsl]; omega)
      rw [seenL_not l0.length M HM.out.2.1 k hkl x hx (by omega) hxm.2] at hc6
      obtain ⟨hp1, hp2⟩ := Kd.R_put hs' x true
      rw [seenL_set l0.length M k hkl x hx (by omega) hxm.2, hsl] at hp1
      have HP1 := Aside0.mk hp1
      have HMN := Aside0.mk (Kd.R_grown HMR.out hp2 (fun j hj => hj))
      have HBN := Aside0.mk (Below.grown HBr.out hp2 HBr.out.size (fun j hj => by injection hj with hj; subst hj; exact hg6))
      have HKW := Aside0.mk (show wrap64 ((k : Int) + 1) = ((k + 1 : Nat) : Int) by rw [IntWalk.wrap64_in _ (by have := HL.out; have := HM.out.2.2; omega)]; rfl)
      have p1 : (0 ≤ (k : Int)) = True := eq_true (by omega)
      have q1 : ((k : Int) < (M.length : Int)) = True := eq_true (by omega)
      have q2 : (k < M.length) = True := eq_true hkl
      have p3 : (0 ≤ x) = True := eq_true (by omega)
      have p4 : (x < (l0.length : Int)) = True := eq_true (by omega)
      have z1 : decide (x < 1) = false := decide_eq_false (by omega)
      have z2 : decide ((l0.length : Int) ≤ x) = false := decide_eq_false (by omega)
      have HXM := Aside0.mk hxm
      clear hs' hp1 hp2 hx hsl hxm he2
      go_wp2_with fail
      try rw [HKW.out]
      refine ⟨⟨k + 1, by omega, rfl, HP1, HMN, HBN⟩, ?_⟩
      simp only [intOf]
      omega
    · have d0 : decide ((k : Int) < (M.length : Int)) = false := decide_eq_false (by omega)
      have d1 : decide (k < M.length) = false := decide_eq_false hkl
      go_wp2_with fail
      all_goals
        go_ret
        refine ⟨?_, HBr.out⟩
        show Ending.returned (Value.bool _) = _
        congr 2
        rw [beq_iff_eq]
        have := HM.out.2.2
        omega
theorem once_all (A0 : Option Addr) (c0 : Nat) (l0 : List Int) (w : World) (hr0 : Kd.C (Kd.int .u32) w A0 l0.length l0) (hc0 : l0.length ≤ c0) :
    Calls Try.prog 5 #[.slice A0 l0.length c0] w fun e w' => e = .returned (.bool true) ∧ Below w.heap.size w w' := by
  by_cases h1 : 4096 < l0.length
  · exact once_out A0 c0 l0 w hr0 hc0 4 (fun W hW => build_long A0 c0 l0 W h1) (.inl ⟨rfl, h1⟩)
  cases hr : risesB l0 with
  | true => exact once_main A0 c0 l0 w hr0 hc0 (by omega) hr
  | false =>
    have hri := tree_rises_is l0 (by omega) 6000 (by omega)
    rw [hr] at hri
    exact once_out A0 c0 l0 w hr0 hc0 1 (fun W hW => build_odd A0 c0 l0 W (Kd.C_below hr0 hW) hc0 (by omega) 6000 hri) (.inr ⟨rfl, by omega⟩)
theorem once_any (a0 : Option Addr) (len0 cap0 : Nat) (z0 : List Int) (w : World)
    (w0 : (a0 = none ∧ len0 = 0 ∧ cap0 = 0 ∧ z0 = []) ∨ ∃ x, a0 = some x ∧ len0 ≤ cap0 ∧ cap0 ≤ maxLen ∧ z0.length = cap0 ∧ (∀ i, i < z0.length → w.cell? (x.add i) = some (.int .u32 (z0.getD i 0))) ∧ ∀ n ∈ z0, (Lit.int .u32 n).wf = true) :
    Calls Try.prog 5 #[.slice a0 len0 cap0] w fun e w' => e = .returned (.bool true) ∧ Below w.heap.size w w' := by
  obtain ⟨l0, rfl, hr0, hm0, hw0, hc0⟩ := ReadsInt.ofRowC w0
  exact once_all a0 cap0 l0 w (Kd.C_of_reads (d := (0 : Int)) (h1 := fun _ => rfl) hr0) hc0
end Go.Proofs.Ytioccjeiheejjaa.Tree
