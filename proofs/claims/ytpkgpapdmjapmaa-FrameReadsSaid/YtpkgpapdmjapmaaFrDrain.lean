/- drained: all bodies that are found. -/
import Derived.Test.YtpkgpapdmjapmaaFrAwake
namespace Go.Proofs.Ytpkgpapdmjapmaa.Pure
open Go.RowKit Go.Proofs.YtpkgpapdmjapmaaW.PrintWords Go.Proofs.YtpkgpapdmjapmaaW.PrintLast Go.Proofs.YtpkgpapdmjapmaaW.PrintMore Go.Proofs.Ytpkgpapdmjapmaa.SumMath Go.Proofs.Ytpkgpapdmjapmaa.Fns
set_option linter.unusedVariables false
set_option linter.unusedSimpArgs false

/-- all bodies that Next finds, one after the other; what is left; how many bytes are lost. -/
def drn : Nat → List Int → List (List Int) × List Int × Nat
  | 0, B => ([], B, 0)
  | f + 1, B => match nx B with
    | (none, R, c) => ([], R, c)
    | (some b, R, c) => (b :: (drn f R).1, (drn f R).2.1, c + (drn f R).2.2)
theorem drn_none (f : Nat) (B : List Int) (h : (nx B).1 = none) : drn (f + 1) B = ([], (nx B).2.1, (nx B).2.2) := by
  rw [drn]
  generalize nx B = x at h ⊢
  obtain ⟨a, R, c⟩ := x
  simp only at h
  subst h
  rfl
theorem drn_some (f : Nat) (B : List Int) (b : List Int) (h : (nx B).1 = some b) : drn (f + 1) B = (b :: (drn f (nx B).2.1).1, (drn f (nx B).2.1).2.1, (nx B).2.2 + (drn f (nx B).2.1).2.2) := by
  rw [drn]
  generalize nx B = x at h ⊢
  obtain ⟨a, R, c⟩ := x
  simp only at h
  subst h
  rfl
/-- what Next leaves is the end of what it had; a body costs eight bytes and its own. -/
theorem nx_rest : ∀ (B : List Int), Bytes B → (nx B).2.1 <:+ B ∧ (nx B).2.1.length + (nx B).2.2 + ((nx B).1.elim 0 (fun b => 8 + b.length)) = B.length
  | [], _ => ⟨by rw [nx]; exact List.suffix_refl _, by rw [nx]; rfl⟩
  | x :: B, hb => by
    have ih := nx_rest B (fun y hy => hb y (List.mem_cons_of_mem _ hy))
    by_cases hs : skips (x :: B)
    · rw [nx_skip x B hs]
      refine ⟨ih.1.trans (List.suffix_cons x B), ?_⟩
      have := ih.2
      simp only [List.length_cons]
      omega
    · have hg : bgn (x :: B) = true := by
        cases h : bgn (x :: B) with
        | true => rfl
        | false => exact absurd (.inl h) hs
      by_cases hw : (x :: B).length < 8 ∨ (x :: B).length < 8 + nn (x :: B)
      · rw [nx_wait _ (by simp) hg hw]
        exact ⟨List.suffix_refl _, by simp⟩
      · have hq : sumv (bodyAt (x :: B) (nn (x :: B))) = tS (x :: B) := by
          by_cases h : sumv (bodyAt (x :: B) (nn (x :: B))) = tS (x :: B)
          · exact h
          · exact absurd (.inr ⟨by omega, by omega, h⟩) hs
        rw [nx_found _ (by simp) hg (by omega) (by omega) hq]
        refine ⟨List.drop_suffix _ _, ?_⟩
        have hl := body_length (x :: B) (nn (x :: B)) (by omega)
        simp only [Option.elim_some, List.length_drop, hl]
        omega
end Go.Proofs.Ytpkgpapdmjapmaa.Pure

namespace Go.Proofs.Ytpkgpapdmjapmaa.Fns
open Go.RowKit Go.Proofs.YtpkgpapdmjapmaaW.PrintWords Go.Proofs.YtpkgpapdmjapmaaW.PrintLast Go.Proofs.YtpkgpapdmjapmaaW.PrintMore Go.Proofs.Ytpkgpapdmjapmaa.SumMath Go.Proofs.Ytpkgpapdmjapmaa.Pure
set_option linter.unusedVariables false
set_option linter.unusedSimpArgs false
theorem info22 : (Try.prog.info? 22).map (fun i => (i.zero, i.size, i.bytes)) = some (some (.slice none 0 0), 1, 24) := by kernel_rfl
theorem rows_types : ∀ q, q ∈ 22 :: (Kd.slice 5 (Kd.int .u8)).E → q ≠ 32 := fun q hq => by
  simp [Kd.slice, Kd.int, Kd.scalar] at hq
  rcases hq with rfl | rfl <;> decide
theorem Rd.rows_past {ok : Nat → Prop} {base base2 g : Nat} {w w' : World} {B : List Int} {xs : List (List Int)} {lost : Int} {v : Value} (hI : Rd ok base w g B lost) (hR : Kd.R (Kd.slice 5 (Kd.int .u8)) 22 w base2 (fun _ => True) v xs) (hk : Kp (fun k => k = g) w w') :
    Kd.R (Kd.slice 5 (Kd.int .u8)) 22 w' base2 (fun k => k < w.heap.size) v xs := by
  obtain ⟨A, c, hblk, _⟩ := hI.open_
  exact Kd.R_mono (Kd.R_step (Kd.R_bound (Kd.R_types hR hblk rows_types)) (fun k hk2 hlt => hk.block k hlt hk2.1.2)) (fun _ hk => hk.2.2.1)

set_option maxHeartbeats 8000000 in
set_option maxRecDepth 100000 in
theorem drained_main (ok : Nat → Prop) (base g : Nat) (B : List Int) (lost : Int) (w : World) (hI : Rd ok base w g B lost) (hok : ∀ k, ok k → k < w.heap.size) (hb : Bytes B) (hl0 : 0 ≤ lost) (hl1 : lost + B.length ≤ 1000000) :
    Calls Try.prog 18 #[.pointer (some ⟨g, 0, none⟩)] w fun e w' => ∃ v, e = .returned v ∧ Kd.R (Kd.slice 5 (Kd.int .u8)) 22 w' w.heap.size (fun _ => True) v (drn 4000 B).1 ∧ Rd ok base w' g (drn 4000 B).2.1 (lost + ((drn 4000 B).2.2 : Int)) ∧ Kp (fun k => k = g) w w' := by
  have HI := Aside0.mk hI
  have HB := Aside0.mk hb
  have HL := Aside0.mk (And.intro hl0 hl1)
  have hgw := Aside0.mk hI.lt
  have HOK := Aside0.mk hok
  clear hI hb hl0 hl1 hok
  go_enter Try.func18, Try.ntmps18
  go_wp2_with fail
  go_loopw [3, 4] (fun v3 v4 wr => ∃ (k : Nat) (B1 : List Int) (lost1 : Int) (xs : List (List Int)), k ≤ 4000 ∧ v4 = .int .i64 k ∧ Aside0 (Rd ok base wr g B1 lost1) ∧ Aside0 (Kp (fun k => k = g) w wr) ∧ Aside0 (Kd.R (Kd.slice 5 (Kd.int .u8)) 22 wr w.heap.size (fun _ => True) v3 xs) ∧ Aside0 (Bytes B1 ∧ 0 ≤ lost1 ∧ lost1 + B1.length ≤ 1000000 ∧ xs.length ≤ k) ∧
    Aside0 ((drn 4000 B).1 = xs ++ (drn (4000 - k) B1).1 ∧ (drn 4000 B).2.1 = (drn (4000 - k) B1).2.1 ∧ lost + ((drn 4000 B).2.2 : Int) = lost1 + ((drn (4000 - k) B1).2.2 : Int))) (fun _ v4 _ => 4000 - (intOf v4).toNat)
  case atStart => exact ⟨0, B, lost, [], by omega, rfl, HI, ⟨Kp.refl _ _⟩, ⟨Kd.R_nil _ _ _ _ _⟩, ⟨HB.out, HL.out.1, HL.out.2, by simp⟩, ⟨rfl, rfl, rfl⟩⟩
  case round =>
    obtain ⟨k, B1, lost1, xs, hk, rfl, HR, HK, HX, HN, HE⟩ := hrel
    obtain ⟨A3, c3, rfl⟩ := Kd.R_slice HX.out
    clear HI HB HL
    by_cases hkm : k < 4000
    · have d0 : decide ((k : Int) < 4000) = true := decide_eq_true (by omega)
      have d1 : decide (k < 4000) = true := decide_eq_true hkm
      cases hnx : (nx B1).1 with
      | none =>
        go_wp2_with fail
        refine (next_calls ok base g B1 lost1 wr HR.out HN.out.1 (by have := HN.out; omega) HN.out.2.1 (by have := HN.out; omega)).mono ?_
        rintro e w1 ⟨v1, rfl, hr1, hk1, hv1, _⟩
        rw [hnx]
        have HR1 := Aside0.mk hr1
        have HX1 := Aside0.mk (HR.out.rows_past HX.out hk1)
        have HK1 := Aside0.mk (HK.out.trans hk1 (fun _ h => .inl h))
        clear hr1 hk1 hv1
        go_wp2_with fail
        go_ret
        have e : drn (4000 - k) B1 = ([], (nx B1).2.1, (nx B1).2.2) := by
          rw [show 4000 - k = (4000 - k - 1) + 1 by omega]
          exact drn_none _ _ hnx
        refine ⟨_, rfl, ?_, ?_, HK1.out⟩
        · rw [HE.out.1, e]
          simpa using Kd.R_mono HX1.out (fun _ _ => trivial)
        · rw [HE.out.2.1, HE.out.2.2, e]
          exact HR1.out
      | some bd =>
        have hrest := nx_rest B1 HN.out.1
        rw [hnx] at hrest
        have HRest := Aside0.mk hrest
        clear hrest
        go_wp2_with fail
        refine (next_calls ok base g B1 lost1 wr HR.out HN.out.1 (by have := HN.out; omega) HN.out.2.1 (by have := HN.out; omega)).mono ?_
        rintro e w1 ⟨v1, rfl, hr1, hk1, _, hv1⟩
        rw [hnx]
        have hv := hv1 bd hnx
        obtain ⟨A5, c5, rfl⟩ := Kd.R_slice hv
        have HR1 := Aside0.mk hr1
        have HX1 := Aside0.mk (HR.out.rows_past HX.out hk1)
        have HK1 := Aside0.mk (HK.out.trans hk1 (fun _ h => .inl h))
        have HV1 := Aside0.mk (Kd.R_mono (ok' := fun k => wr.heap.size ≤ k) (Kd.R_lower (Kd.R_bound hv) HK.out.size) (fun _ h => h.2.1))
        have hsz := Aside0.mk HK1.out.size
        clear hr1 hk1 hv1 hv
        go_wp2_with (first
          | ((with_reducible refine gate_dst (N := 22) rfl ?_); refine Kd.R_append (Kd.slice 5 (Kd.int .u8)) (w0 := w1) (W := w1) w.heap.size rfl (.tmp 19) (.tmp 21) 28 22 (.slice none 0 0) 24 rfl Try.underlying28 info22 rfl (by decide) (by decide) (.slice A3 xs.length c3) xs bd [.slice A5 bd.length c5] (fun _ => True) (fun k => wr.heap.size ≤ k) rfl rfl ⟨_, rfl, HV1.out⟩ (fun k hk => ⟨trivial, fun he => by have := HX1.out.1 k he.symm; omega⟩) (fun _ _ => trivial) (Kd.R_mono HX1.out (fun _ _ => trivial)) (Below.refl _ _) hsz.out (by have := HN.out; omega) ?_; intro v6 w6 ho6 hb6 hg6 hat6; have HO6 := Aside0.mk ho6; have HB6 := Aside0.mk hb6; have HG6 := Aside0.mk hg6; clear ho6 hb6 hg6 hat6))
        have hown : ∀ j, some j = (Value.slice A3 xs.length c3).ownBlock → w.heap.size ≤ j := fun j hj => ((Kd.R_bound HX1.out).1 j hj.symm).2.1
        have hkg := Kp.of_grown HG6.out
        refine ⟨⟨k + 1, (nx B1).2.1, lost1 + ((nx B1).2.2 : Int), xs ++ [bd], by omega, by simp, ⟨HR1.out.move hkg (fun h => by have := hown g h; have := hgw.out; omega) (fun j hj h => by have := hown j h; have := HOK.out j hj; omega)⟩,
          ⟨HK1.out.trans hkg (fun j h => .inr (hown j h))⟩, HO6, ⟨fun x hx => HN.out.1 x (HRest.out.1.subset hx), by have := HN.out; omega, by have := HN.out; have := HRest.out.2; simp only [Option.elim_some] at this; omega, by have := HN.out; simp; omega⟩, ?_⟩, by simp [intOf]; omega⟩
        have e := drn_some (4000 - (k + 1)) B1 bd hnx
        rw [show 4000 - (k + 1) + 1 = 4000 - k by omega] at e
        have hE := HE.out
        rw [e] at hE
        refine ⟨⟨by rw [hE.1]; simp, hE.2.1, by rw [hE.2.2]; simp only; omega⟩⟩
    · have d0 : decide ((k : Int) < 4000) = false := decide_eq_false (by omega)
      have d1 : decide (k < 4000) = false := decide_eq_false hkm
      have e : drn (4000 - k) B1 = ([], B1, 0) := by
        rw [show 4000 - k = 0 by omega]
        rfl
      go_wp2_with fail
      go_ret
      refine ⟨_, rfl, ?_, ?_, HK.out⟩
      · rw [HE.out.1, e]
        simpa using HX.out
      · rw [HE.out.2.1, HE.out.2.2, e]
        simpa using HR.out
theorem drained_calls (ok : Nat → Prop) (base g : Nat) (B : List Int) (lost : Int) (w : World) (hI : Rd ok base w g B lost) (hb : Bytes B) (hl0 : 0 ≤ lost) (hl1 : lost + B.length ≤ 1000000) :
    Calls Try.prog 18 #[.pointer (some ⟨g, 0, none⟩)] w fun e w' => ∃ v, e = .returned v ∧ Kd.R (Kd.slice 5 (Kd.int .u8)) 22 w' w.heap.size (fun _ => True) v (drn 4000 B).1 ∧ Rd ok base w' g (drn 4000 B).2.1 (lost + ((drn 4000 B).2.2 : Int)) ∧ Kp (fun k => k = g) w w' := by
  refine (drained_main _ base g B lost w hI.bound (fun k hk => hk.2.2.1) hb hl0 hl1).mono ?_
  rintro e w' ⟨v, h1, h2, h3, h4⟩
  exact ⟨v, h1, h2, h3.mono (fun _ h => h.1), h4⟩
end Go.Proofs.Ytpkgpapdmjapmaa.Fns
