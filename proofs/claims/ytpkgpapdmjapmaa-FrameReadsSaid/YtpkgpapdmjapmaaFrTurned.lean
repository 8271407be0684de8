/- The law FrameTurned: its walk. -/
import Derived.Test.YtpkgpapdmjapmaaFrTurnP
import Derived.StillTailTactics
import Derived.Laws.BitsAllLaws
import Derived.Lib.Bytes
namespace Go.Proofs.Ytpkgpapdmjapmaa.Pure
open Go.RowKit Go.Proofs.YtpkgpapdmjapmaaW.PrintWords Go.Proofs.YtpkgpapdmjapmaaW.PrintLast Go.Proofs.YtpkgpapdmjapmaaW.PrintMore Go.Proofs.Ytpkgpapdmjapmaa.SumMath Go.Proofs.Ytpkgpapdmjapmaa.Fns

theorem nx_mem : ∀ (B b : List Int), (nx B).1 = some b → ∀ x ∈ b, x ∈ B
  | [], b, h => by rw [nx] at h; cases h
  | y :: B, b, h => by
    rw [nx] at h
    split at h
    · split at h
      · cases h
      · split at h
        · injection h with h
          subst h
          exact fun x hx => List.mem_of_mem_take (List.mem_of_mem_drop hx)
        · exact fun x hx => List.mem_cons_of_mem _ (nx_mem B b h x hx)
    · exact fun x hx => List.mem_cons_of_mem _ (nx_mem B b h x hx)
theorem drn_mem : ∀ (f : Nat) (B : List Int), Bytes B → ∀ b ∈ (drn f B).1, ∀ x ∈ b, x ∈ B
  | 0, B, _, b, hm => by simp [drn] at hm
  | f + 1, B, hb, b, hm => by
    cases h : (nx B).1 with
    | none => rw [drn_none f B h] at hm; simp at hm
    | some b1 =>
      have hr := nx_rest B hb
      rw [drn_some f B b1 h] at hm
      rcases List.mem_cons.1 hm with rfl | hm
      · exact nx_mem B b h
      · exact fun x hx => hr.1.subset (drn_mem f (nx B).2.1 (fun z hz => hb z (hr.1.subset hz)) b hm x hx)
theorem str_inj : ∀ (a b : List Int), Bytes a → Bytes b → (a.map fun n => UInt8.ofNat n.toNat) = (b.map fun n => UInt8.ofNat n.toNat) → a = b
  | [], [], _, _, _ => rfl
  | [], _ :: _, _, _, h => by simp at h
  | _ :: _, [], _, _, h => by simp at h
  | x :: a, y :: b, ha, hb, h => by
    simp only [List.map_cons, List.cons.injEq] at h
    have hx := ha x (by simp)
    have hy := hb y (by simp)
    have e := congrArg UInt8.toNat h.1
    simp only [UInt8.toNat_ofNat'] at e
    have := str_inj a b (fun z hz => ha z (List.mem_cons_of_mem _ hz)) (fun z hz => hb z (List.mem_cons_of_mem _ hz)) h.2
    rw [this, show x = y by omega]
theorem str_ne (a b : List Int) (ha : Bytes a) (hb : Bytes b) (h : a ≠ b) : ((strOfNums a).toList == (strOfNums b).toList) = false := by
  refine beq_eq_false_iff_ne.mpr fun e => h (str_inj a b ha hb ?_)
  rw [Lib.toList_data, Lib.toList_data] at e
  exact e
theorem set_bytes (F : List Int) (hF : Bytes F) (M turn : Int) (hM0 : 0 ≤ M) (hM1 : M < (F.length : Int)) (ht0 : 0 < turn) (ht1 : turn ≤ 255) :
    Bytes (F.set M.toNat (bits .xor .u8 (rdOf 0 F M) turn)) ∧ F.set M.toNat (bits .xor .u8 (rdOf 0 F M) turn) ≠ F := by
  have hi : M.toNat < F.length := by omega
  have er : rdOf 0 F M = F[M.toNat] := by simp [rdOf, List.getD_eq_getElem?_getD, hi]
  have hx := hF F[M.toNat] (List.getElem_mem hi)
  rw [er]
  generalize hX : F[M.toNat] = X at hx ⊢
  have e := u8_xor X turn (by omega) (by omega) (by omega) (by omega)
  have hlt : X.toNat ^^^ turn.toNat < 2 ^ 8 := Nat.xor_lt_two_pow (by omega) (by omega)
  rw [e]
  refine ⟨fun x hx2 => ?_, fun h => ?_⟩
  · rcases List.mem_or_eq_of_mem_set hx2 with h | rfl
    · exact hF x h
    · omega
  · have h2 := congrArg (fun l => l[M.toNat]?) h
    simp only [List.getElem?_set_self hi, List.getElem?_eq_getElem hi, hX, Option.some.injEq] at h2
    have h3 : X.toNat ^^^ turn.toNat = X.toNat := by omega
    have h4 : X.toNat ^^^ (X.toNat ^^^ turn.toNat) = X.toNat ^^^ X.toNat := by rw [h3]
    rw [← Nat.xor_assoc, Nat.xor_self, Nat.zero_xor] at h4
    omega
theorem turned_law (l0 : List Int) (hb : Bytes l0) (M turn : Int) (F' : List Int) (hM0 : 0 ≤ M) (hM1 : M < ((mk l0).length : Int)) (ht0 : 0 < turn) (ht1 : turn ≤ 255)
    (hF' : F' = (mk l0).set M.toNat (bits .xor .u8 (rdOf 0 (mk l0) M) turn)) : Bytes F' ∧ ∀ b, b ∈ (drn 4000 F').1 → ((strOfNums b).toList == (strOfNums l0).toList) = false := by
  obtain ⟨h1, h2⟩ := set_bytes (mk l0) (mk_bytes l0 hb) M turn hM0 hM1 ht0 ht1
  rw [← hF'] at h1 h2
  refine ⟨h1, fun b hm => str_ne b l0 (fun x hx => h1 x (drn_mem 4000 F' h1 b hm x hx)) hb ?_⟩
  rintro rfl
  exact h2 (drn_whole 4000 F' b h1 hm (by rw [hF', List.length_set, mk_length]))
end Go.Proofs.Ytpkgpapdmjapmaa.Pure

namespace Go.Proofs.Ytpkgpapdmjapmaa.Fns
open Go.RowKit Go.Proofs.YtpkgpapdmjapmaaW.PrintWords Go.Proofs.YtpkgpapdmjapmaaW.PrintLast Go.Proofs.YtpkgpapdmjapmaaW.PrintMore Go.Proofs.Ytpkgpapdmjapmaa.SumMath Go.Proofs.Ytpkgpapdmjapmaa.Pure
set_option linter.unusedVariables false
set_option linter.unusedSimpArgs false

set_option maxHeartbeats 8000000 in
set_option maxRecDepth 100000 in
theorem turned_main (A0 : Option Addr) (c0 : Nat) (l0 : List Int) (at_ turn : Int) (w : World) (hr0 : Kd.C (Kd.int .u8) w A0 l0.length l0) (hc0 : l0.length ≤ c0) (hb : Bytes l0)
    (ha0 : 0 ≤ at_) (ha1 : at_ ≤ 9223372036854775807) (ht0 : 0 < turn) (ht1 : turn ≤ 255) (hl0 : 0 < l0.length) (hl1 : l0.length ≤ 512) :
    Calls Try.prog 7 #[.slice A0 l0.length c0, .int .i64 at_, .int .u8 turn] w fun e w' => e = .returned (.bool true) ∧ Below w.heap.size w w' := by
  have HR0 := Aside0.mk hr0
  have HC0 := Aside0.mk hc0
  have HBY := Aside0.mk hb
  have hf := frame_is l0 hb 600 (.inr (by omega))
  rw [if_neg (by omega), if_neg (by omega)] at hf
  have HF := Aside0.mk hf
  have d0 : decide (at_ < 0) = false := decide_eq_false (by omega)
  have d1 : (turn == 0) = false := by simp; omega
  have hml := mk_length l0
  obtain ⟨F, hFm⟩ : ∃ F, F = mk l0 := ⟨_, rfl⟩
  rw [← hFm] at HF hml
  have HFM := Aside0.mk hFm
  have d2 : ((F.length : Int) == 0) = false := by rw [hml]; simp; omega
  have d3 : decide (F.length = 0) = false := by rw [hml]; simp
  have d4 : (F.length == 0) = false := by rw [hml]; simp
  have d5 : ¬ ((F.length : Int) = 0) := by omega
  have d6 : ¬ F = [] := by intro h; rw [h] at hml; simp at hml; omega
  have d7 : ¬ F.length = 0 := by omega
  have HML := Aside0.mk hml
  clear hr0 hc0 hb hf hml hFm
  go_enter Try.func7, Try.ntmps7
  go_wp2_with fail
  refine (awake_calls w).mono ?_
  rintro e w1 ⟨rfl, hb1⟩
  have HB1 := Aside0.mk hb1
  have HR1 := Aside0.mk (Kd.C_below HR0.out hb1)
  clear hb1
  go_wp2_with fail
  refine (frame_Frame.calls 600 A0 c0 l0 _ _ w1 HR1.out HC0.out HF.out).mono ?_
  rintro e w2 ⟨v2, rfl, ho2, hb2⟩
  obtain ⟨g2, c2, rfl, hg2, hgl2, _⟩ := Kd.R_form ho2 (by rw [HML.out]; omega)
  have HO2 := Aside0.mk ho2
  have HB2 := Aside0.mk (below_then HB1.out (below_size HB1.out) hb2)
  have HR2 := Aside0.mk (Kd.C_below HR1.out hb2)
  clear ho2 hb2 HR1
  obtain ⟨M, hM⟩ : ∃ M, at_ % (F.length : Int) = M := ⟨_, rfl⟩
  have hM0 : 0 ≤ M := by rw [← hM]; exact Int.emod_nonneg _ d5
  have hM1 : M < (F.length : Int) := by rw [← hM]; exact Int.emod_lt_of_pos _ (by rw [HML.out]; omega)
  have hMt : Int.tmod at_ (F.length : Int) = M := by rw [Int.tmod_eq_emod_of_nonneg ha0, hM]
  have hcell := Kd.R_cell (d := (0 : Int)) HO2.out M hM0 hM1
  obtain ⟨hc, hfz⟩ := hcell
  have hne : ((F.length : Int) == 0) = false := d2
  go_upto_region 5 with (fail)
  go_still_tail 15, (by kernel_rfl)
  change wpList _ _ _ _ _ w2.drew
  have hc' : w2.drew.cell? ⟨g2, M.toNat, none⟩ = some (.int .u8 (rd F M)) := hc
  have hfz' : w2.drew.frozen? ⟨g2, M.toNat, none⟩ = false := hfz
  go_upto_region 6 with (fail)
  obtain ⟨hp1, hp2⟩ := Kd.R_put HO2.out M (Go.bits .xor .u8 (rdOf 0 F M) turn)
  have ho3 := Kd.R_drew hp1
  have hb3 := Below.drew (Below.grown HB2.out hp2 (below_size HB2.out) (fun k hk => by injection hk with hk; subst hk; exact Nat.le_trans (below_size HB1.out) hg2))
  generalize (w2.setCell ⟨g2, M.toNat, none⟩ (.int .u8 (Go.bits .xor .u8 (rdOf 0 F M) turn))).drew = w3 at ho3 hb3 ⊢
  obtain ⟨F', hF'⟩ : ∃ F', F' = F.set M.toNat (Go.bits .xor .u8 (rdOf 0 F M) turn) := ⟨_, rfl⟩
  rw [← hF'] at ho3
  have hFl : F.length = F'.length := by rw [hF', List.length_set]
  rw [hFl] at ho3 ⊢
  have HF' := Aside0.mk hF'
  have HFL := Aside0.mk hFl
  have HMM := Aside0.mk (And.intro hM0 hM1)
  clear hp1 hp2 hc hfz hc' hfz' HO2 HB2 HR2 hM hMt hM0 hM1 hF' hFl d2 d3 d4 d5 d6 d7 hne hg2 hgl2
  have hrd := Rd.new w3 w.heap.size hb3.size
  have hb4 := below_alloc hb3 (.cells #[.slice none 0 0, .int .i64 0] 32 (0, 0))
  have ho4 := Kd.R_alloc ho3 (.cells #[.slice none 0 0, .int .i64 0] 32 (0, 0))
  go_upto_region 7 with (fail)
  generalize w3.alloc (.cells #[.slice none 0 0, .int .i64 0] 32 (0, 0)) = w4 at hrd hb4 ho4 ⊢
  generalize w3.heap.size = g at hrd ⊢
  have HR4 := Aside0.mk hrd
  have HB4 := Aside0.mk hb4
  have HO4 := Aside0.mk ho4
  clear hrd hb4 ho4 ho3 hb3
  go_wp2_with fail
  refine (feed (fun _ => False) w.heap.size g [] 0 _ _ F' w4 HR4.out (Kd.R_reads' HO4.out).2.2 (by have := HML.out; have := HFL.out; simp; omega)).mono ?_
  rintro e w5 ⟨⟨_, rfl⟩, hr5, hk5⟩
  have HR5 := Aside0.mk (hr5.mono (ok' := fun _ => True) (fun _ _ => trivial))
  have HB5 := Aside0.mk (Kp.below HB4.out hk5 (fun i hi => hi.elim (fun h => h ▸ HR4.out.1) False.elim) HB4.out.size)
  clear hr5 hk5 HO4
  go_wp2_with fail
  have hlaw := turned_law l0 HBY.out M turn F' HMM.out.1 (by rw [← HFM.out]; exact HMM.out.2) ht0 ht1 (by rw [← HFM.out]; exact HF'.out)
  refine (drained_calls _ w.heap.size g _ 0 w5 HR5.out hlaw.1 (by omega) (by have := HML.out; have := HFL.out; simp; omega)).mono ?_
  rintro e w6 ⟨v6, rfl, hr6, _, hk6⟩
  have HB6 := Aside0.mk (Kp.below HB5.out hk6 (fun i hi => hi ▸ HR4.out.1) HB5.out.size)
  obtain ⟨A6, c6, rfl⟩ := Kd.R_slice hr6
  have HC6 := Aside0.mk (Kd.R_reads' hr6).2.2
  have HR6 := Aside0.mk (Kd.C_below HR0.out HB6.out)
  have hlaw2 := hlaw.2
  rw [show [] ++ F' = F' from rfl] at HC6 ⊢
  generalize (drn 4000 F').1 = xs at hlaw2 HC6 ⊢
  have HW := Aside0.mk hlaw2
  clear hr6 hk6 hlaw hlaw2 HR5 HB5 HR4 HB4 HF' HFL HMM HFM HML HF HR0 HBY HB1
  go_wp2_with fail
  go_loopw [12] (fun v12 wr => ∃ k : Nat, k ≤ xs.length ∧ v12 = .int .i64 k ∧ Drawn0 w6 wr) (fun v12 _ => xs.length - (intOf v12).toNat)
  case atStart => exact ⟨0, by omega, rfl, by repeat (first | exact Drawn0.refl _ | apply Drawn0.step)⟩
  case round =>
    obtain ⟨k, hk, rfl, ⟨m1, rfl⟩⟩ := hrel
    by_cases hkl : k < xs.length
    · have d0 : decide ((k : Int) < (xs.length : Int)) = true := decide_eq_true (by omega)
      have d1 : decide (k < xs.length) = true := decide_eq_true hkl
      obtain ⟨ad1, A1_, c1_, e1, hx1, hl1_, hi1⟩ := at_L1 HC6.out (k : Int) (by omega) (by omega)
      cases e1
      have em : rd_L1 xs (k : Int) ∈ xs := by
        have : rd_L1 xs (k : Int) = xs[k] := by simp [rd_L1, List.getD_eq_getElem?_getD, hkl]
        rw [this]; exact List.getElem_mem hkl
      have hne := HW.out _ em
      have HI1 := Aside0.mk hi1
      clear em hi1 hl1_
      simp only [Int.toNat_natCast] at hx1
      have hcv1 := fun m_ : Nat => Kd.C_string (P := Try.prog) (A := A1_) (c := c1_) Try.underlying22 Try.underlying5 Try.underlying9 (Kd.C_drewN HI1.out m_)
      have hcv2 := fun m_ : Nat => Kd.C_string (P := Try.prog) (A := A0) (c := c0) Try.underlying22 Try.underlying5 Try.underlying9 (Kd.C_drewN HR6.out m_)
      have p1 : (0 ≤ (k : Int)) = True := eq_true (by omega)
      have q1 : ((k : Int) < (xs.length : Int)) = True := eq_true (by omega)
      have p2 : decide (0 ≤ (k : Int)) = true := decide_eq_true (by omega)
      go_wp2_with fail
      go_quiet (fail)
      go_wp2_with fail
      have hwr : wrap64 ((k : Int) + 1) = ((k + 1 : Nat) : Int) := by rw [IntWalk.wrap64_in _ (by have := HC6.out.2.1; omega)]; rfl
      refine ⟨⟨k + 1, by omega, by rw [hwr], ⟨_, rfl⟩⟩, ?_⟩
      rw [hwr]
      simp only [intOf, Int.toNat_natCast]
      omega
    · have d0 : decide ((k : Int) < (xs.length : Int)) = false := decide_eq_false (by omega)
      have d1 : decide (k < xs.length) = false := decide_eq_false hkl
      go_wp2_with fail
      go_ret
      exact ⟨rfl, pw_below_drewN HB6.out _⟩

set_option maxHeartbeats 8000000 in
set_option maxRecDepth 100000 in
theorem turned_out (A0 : Option Addr) (c0 : Nat) (l0 : List Int) (at_ turn : Int) (w : World) (hr0 : Kd.C (Kd.int .u8) w A0 l0.length l0) (hc0 : l0.length ≤ c0) (F : List Int) (r : Int) (hf : frame_Frame.f 600 l0 = some (F, r))
    (he : r = 10 ∨ r = 4 ∨ (r = 0 ∧ at_ < 0) ∨ (r = 0 ∧ 0 ≤ at_ ∧ turn = 0)) :
    Calls Try.prog 7 #[.slice A0 l0.length c0, .int .i64 at_, .int .u8 turn] w fun e w' => e = .returned (.bool true) ∧ Below w.heap.size w w' := by
  have HR0 := Aside0.mk hr0
  have HC0 := Aside0.mk hc0
  have HF := Aside0.mk hf
  clear hr0 hc0 hf
  have d0 : decide (at_ < 0) = decide (at_ < 0) := rfl
  rcases he with rfl | rfl | ⟨rfl, h1⟩ | ⟨rfl, h1, rfl⟩
  all_goals first
    | (have d1 : decide (at_ < 0) = true := decide_eq_true h1)
    | (have d1 : decide (at_ < 0) = false := decide_eq_false (by omega))
    | skip
  all_goals
    clear d0
    go_enter Try.func7, Try.ntmps7
    go_wp2_with fail
    refine (awake_calls w).mono ?_
    rintro e w1 ⟨rfl, hb1⟩
    have HB1 := Aside0.mk hb1
    have HR1 := Aside0.mk (Kd.C_below HR0.out hb1)
    clear hb1
    go_wp2_with fail
    refine (frame_Frame.calls 600 A0 c0 l0 F _ w1 HR1.out HC0.out HF.out).mono ?_
    rintro e w2 ⟨v2, rfl, ho2, hb2⟩
    have HB2 := Aside0.mk (below_then HB1.out (below_size HB1.out) hb2)
    clear ho2 hb2
    go_wp2_with fail
    go_ret
    exact ⟨rfl, HB2.out⟩
theorem turned_all (A0 : Option Addr) (c0 : Nat) (l0 : List Int) (at_ turn : Int) (w : World) (hr0 : Kd.C (Kd.int .u8) w A0 l0.length l0) (hc0 : l0.length ≤ c0) (hb : Bytes l0) (ha1 : at_ ≤ 9223372036854775807) (ht0 : 0 ≤ turn) (ht1 : turn ≤ 255) :
    Calls Try.prog 7 #[.slice A0 l0.length c0, .int .i64 at_, .int .u8 turn] w fun e w' => e = .returned (.bool true) ∧ Below w.heap.size w w' := by
  have hf := frame_is l0 hb 600
  by_cases h0 : l0.length = 0
  · exact turned_out A0 c0 l0 at_ turn w hr0 hc0 _ _ (by rw [hf (.inr (by omega)), if_pos h0]) (.inl rfl)
  by_cases h1 : 512 < l0.length
  · exact turned_out A0 c0 l0 at_ turn w hr0 hc0 _ _ (by rw [hf (.inr (by omega)), if_neg h0, if_pos h1]) (.inr (.inl rfl))
  have hf' := hf (.inr (by omega))
  rw [if_neg h0, if_neg h1] at hf'
  by_cases h2 : at_ < 0
  · exact turned_out A0 c0 l0 at_ turn w hr0 hc0 _ _ hf' (.inr (.inr (.inl ⟨rfl, h2⟩)))
  by_cases h3 : turn = 0
  · exact turned_out A0 c0 l0 at_ turn w hr0 hc0 _ _ hf' (.inr (.inr (.inr ⟨rfl, by omega, h3⟩)))
  exact turned_main A0 c0 l0 at_ turn w hr0 hc0 hb (by omega) ha1 (by omega) ht1 (by omega) (by omega)

theorem turned_any (a0 : Option Addr) (len0 cap0 : Nat) (z0 : List Int) (a1 a2 : Int) (w : World)
    (w0 : (a0 = none ∧ len0 = 0 ∧ cap0 = 0 ∧ z0 = []) ∨ ∃ x, a0 = some x ∧ len0 ≤ cap0 ∧ cap0 ≤ maxLen ∧ z0.length = cap0 ∧ (∀ i, i < z0.length → w.cell? (x.add i) = some (.int .u8 (z0.getD i 0))) ∧ ∀ n ∈ z0, (Lit.int .u8 n).wf = true)
    (w1 : (Lit.int .i64 a1).wf = true) (w2 : (Lit.int .u8 a2).wf = true) :
    Calls Try.prog 7 #[.slice a0 len0 cap0, .int .i64 a1, .int .u8 a2] w fun e w' => e = .returned (.bool true) ∧ Below w.heap.size w w' := by
  obtain ⟨l0, rfl, hr0, hm0, hw0, hc0⟩ := ReadsInt.ofRowC w0
  have h1 := bounds_i64 w1
  have h2 := Pure.bytes_of (l := [a2]) (by intro n hn; rw [List.mem_singleton] at hn; rw [hn]; exact w2) a2 (by simp)
  exact turned_all a0 cap0 l0 a1 a2 w (Kd.C_of_reads (d := (0 : Int)) (h1 := fun _ => rfl) hr0) hc0 (Pure.bytes_of hw0) (by omega) h2.1 h2.2

end Go.Proofs.Ytpkgpapdmjapmaa.Fns
