/- Bytes in pieces: the plain law. -/
import Derived.Test.YtpkgpapdmjapmaaFrBackP
namespace Go.Proofs.Ytpkgpapdmjapmaa.Pure
open Go.RowKit Go.Proofs.YtpkgpapdmjapmaaW.PrintWords Go.Proofs.YtpkgpapdmjapmaaW.PrintLast Go.Proofs.YtpkgpapdmjapmaaW.PrintMore Go.Proofs.Ytpkgpapdmjapmaa.SumMath Go.Proofs.Ytpkgpapdmjapmaa.Fns
set_option linter.unusedVariables false
set_option linter.unusedSimpArgs false

theorem bgn_mono : ∀ (l X : List Int), bgn (l ++ X) = true → bgn l = true
  | [], _, _ => rfl
  | [a], X, h => by
    match X, h with
    | [], h => exact h
    | [x], h => simp only [List.cons_append, List.nil_append, bgn, decide_eq_true_eq] at h ⊢; exact h.1
    | [x, y], h => simp only [List.cons_append, List.nil_append, bgn, decide_eq_true_eq] at h ⊢; exact h.1
    | x :: y :: z :: X, h => simp only [List.cons_append, List.nil_append, bgn, decide_eq_true_eq] at h ⊢; exact h.1
  | [a, b], X, h => by
    match X, h with
    | [], h => exact h
    | [x], h => simp only [List.cons_append, List.nil_append, bgn, decide_eq_true_eq] at h ⊢; exact ⟨h.1, h.2.1⟩
    | x :: y :: X, h => simp only [List.cons_append, List.nil_append, bgn, decide_eq_true_eq] at h ⊢; exact ⟨h.1, h.2.1⟩
  | [a, b, c], X, h => by
    match X, h with
    | [], h => exact h
    | x :: X, h => simp only [List.cons_append, List.nil_append, bgn, decide_eq_true_eq] at h ⊢; exact ⟨h.1, h.2.1, h.2.2.1⟩
  | a :: b :: c :: d :: l, X, h => h
theorem app_long (l X : List Int) (h : 8 ≤ l.length) : bgn (l ++ X) = bgn l ∧ nn (l ++ X) = nn l ∧ tS (l ++ X) = tS l := by
  match l, h with
  | a :: b :: c :: d :: e :: f :: g :: i :: l, _ => exact ⟨rfl, rfl, rfl⟩
theorem app_body (l X : List Int) (n : Nat) (h : 8 + n ≤ l.length) : bodyAt (l ++ X) n = bodyAt l n := by
  unfold bodyAt
  rw [List.take_append_of_le_length (by omega)]
/-- bytes behind: what Next finds stays; where it finds nothing it goes on. -/
theorem nx_app : ∀ (B X : List Int), (∀ b, (nx B).1 = some b → nx (B ++ X) = (some b, (nx B).2.1 ++ X, (nx B).2.2)) ∧
    ((nx B).1 = none → nx (B ++ X) = ((nx ((nx B).2.1 ++ X)).1, (nx ((nx B).2.1 ++ X)).2.1, (nx B).2.2 + (nx ((nx B).2.1 ++ X)).2.2))
  | [], X => ⟨fun b h => (by rw [nx] at h; cases h), fun _ => (by rw [nx]; simp)⟩
  | x :: B, X => by
    have ih := nx_app B X
    by_cases hs : skips (x :: B)
    · have hs2 : skips (x :: (B ++ X)) := by
        rcases hs with h | ⟨h1, h2, h3⟩
        · refine .inl ?_
          cases hb : bgn (x :: (B ++ X)) with
          | false => rfl
          | true => rw [bgn_mono (x :: B) X hb] at h; cases h
        · have ha := app_long (x :: B) X h1
          refine .inr ⟨by simp only [List.length_cons, List.length_append] at h1 ⊢; omega, ?_, ?_⟩
          · show 8 + nn ((x :: B) ++ X) ≤ ((x :: B) ++ X).length
            rw [ha.2.1, List.length_append]
            omega
          · show sumv (bodyAt ((x :: B) ++ X) (nn ((x :: B) ++ X))) ≠ tS ((x :: B) ++ X)
            rw [ha.2.1, ha.2.2, app_body _ _ _ h2]
            exact h3
      rw [List.cons_append, nx_skip x B hs, nx_skip x (B ++ X) hs2]
      refine ⟨fun b h => ?_, fun h => ?_⟩
      · rw [ih.1 b h]
      · rw [ih.2 h]
        simp only [Prod.mk.injEq, true_and]
        omega
    · have hg : bgn (x :: B) = true := by
        cases h : bgn (x :: B) with
        | true => rfl
        | false => exact absurd (.inl h) hs
      by_cases hw : (x :: B).length < 8 ∨ (x :: B).length < 8 + nn (x :: B)
      · rw [nx_wait (x :: B) (by simp) hg hw]
        exact ⟨fun b h => (by cases h), fun _ => (by simp)⟩
      · have hq : sumv (bodyAt (x :: B) (nn (x :: B))) = tS (x :: B) := by
          by_cases h : sumv (bodyAt (x :: B) (nn (x :: B))) = tS (x :: B)
          · exact h
          · exact absurd (.inr ⟨by omega, by omega, h⟩) hs
        have ha := app_long (x :: B) X (by omega)
        rw [nx_found (x :: B) (by simp) hg (by omega) (by omega) hq]
        refine ⟨fun b h => ?_, fun h => by cases h⟩
        rw [nx_found (x :: B ++ X) (by simp) (by rw [ha.1]; exact hg) (by rw [List.length_append]; omega) (by rw [ha.2.1, List.length_append]; omega) (by rw [ha.2.1, ha.2.2, app_body _ _ _ (by omega)]; exact hq)]
        rw [ha.2.1, app_body _ _ _ (by omega), List.drop_append_of_le_length (by omega)]
        injection h with h
        rw [h]
/-- more rounds than bytes: always the same. -/
theorem drn_fuel : ∀ (n f f' : Nat) (B : List Int), Bytes B → B.length ≤ n → B.length < f → B.length < f' → drn f B = drn f' B
  | n, f + 1, f' + 1, B, hb, hn, h1, h2 => by
    have hr := nx_rest B hb
    cases h : (nx B).1 with
    | none => rw [drn_none f B h, drn_none f' B h]
    | some b =>
      rw [h] at hr
      have hr2 := hr.2
      simp only [Option.elim_some] at hr2
      rw [drn_some f B b h, drn_some f' B b h]
      cases n with
      | zero => omega
      | succ n => rw [drn_fuel n f f' (nx B).2.1 (fun x hx => hb x (hr.1.subset hx)) (by omega) (by omega) (by omega)]
/-- what has been drained, and bytes behind. -/
theorem drn_app : ∀ (n f : Nat) (B X : List Int), Bytes B → Bytes X → B.length ≤ n → B.length + X.length < f →
    drn f (B ++ X) = ((drn f B).1 ++ (drn f ((drn f B).2.1 ++ X)).1, (drn f ((drn f B).2.1 ++ X)).2.1, (drn f B).2.2 + (drn f ((drn f B).2.1 ++ X)).2.2)
  | n, 0, B, X, _, _, _, h => by omega
  | n, f + 1, B, X, hb, hx, hn, hf => by
    have hr := nx_rest B hb
    have ha := nx_app B X
    cases h : (nx B).1 with
    | none =>
      have e := ha.2 h
      rw [drn_none f B h]
      simp only [List.nil_append]
      cases h2 : (nx ((nx B).2.1 ++ X)).1 with
      | none =>
        rw [drn_none f (B ++ X) (by rw [e]; exact h2), drn_none f _ h2, e]
      | some c =>
        rw [drn_some f (B ++ X) c (by rw [e]; exact h2), drn_some f _ c h2, e]
        simp only [Prod.mk.injEq, true_and]
        omega
    | some b =>
      have e := ha.1 b h
      rw [h] at hr
      have hr2 := hr.2
      simp only [Option.elim_some] at hr2
      have hb2 : Bytes (nx B).2.1 := fun x hx => hb x (hr.1.subset hx)
      rw [drn_some f B b h, drn_some f (B ++ X) b (by rw [e]), e]
      cases n with
      | zero => omega
      | succ n =>
        have ih := drn_app n f (nx B).2.1 X hb2 hx (by omega) (by omega)
        have hc := drn_costs f (nx B).2.1 hb2
        have hlen := hc.1
        have hfu := drn_fuel (f + 1) (f + 1) f ((drn f (nx B).2.1).2.1 ++ X) (bytes_append (fun x hx => hb2 x (hc.2.subset hx)) hx) (by rw [List.length_append]; omega) (by rw [List.length_append]; omega) (by rw [List.length_append]; omega)
        simp only
        rw [hfu, ih]
        simp only [List.cons_append, Prod.mk.injEq, true_and]
        omega
/-- ys has been found, B is left, c bytes are lost: W is all that came. -/
def Pieces (W B : List Int) (ys : List (List Int)) (c : Nat) : Prop :=
  ∀ X, Bytes X → W.length + X.length < 4000 → drn 4000 (W ++ X) = (ys ++ (drn 4000 (B ++ X)).1, (drn 4000 (B ++ X)).2.1, c + (drn 4000 (B ++ X)).2.2)
theorem Pieces.nil : Pieces [] [] [] 0 := fun X _ _ => by simp
theorem Pieces.feed {W B : List Int} {ys : List (List Int)} {c : Nat} (h : Pieces W B ys c) (b : List Int) (hb : Bytes b) : Pieces (W ++ b) (B ++ b) ys c := by
  intro X hX hl
  rw [List.append_assoc, List.append_assoc]
  exact h (b ++ X) (bytes_append hb hX) (by rw [List.length_append] at hl ⊢; omega)
theorem Pieces.drain {W B : List Int} {ys : List (List Int)} {c : Nat} (h : Pieces W B ys c) (hB : Bytes B) (hl : B.length ≤ W.length) : Pieces W (drn 4000 B).2.1 (ys ++ (drn 4000 B).1) (c + (drn 4000 B).2.2) := by
  intro X hX hlen
  rw [h X hX hlen, drn_app B.length 4000 B X hB hX (Nat.le_refl _) (by omega)]
  simp only [List.append_assoc, Prod.mk.injEq, true_and]
  omega
theorem Pieces.done {W B : List Int} {ys : List (List Int)} {c : Nat} (h : Pieces W B ys c) (hl : W.length < 4000) : (drn 4000 W).1 = ys ++ (drn 4000 B).1 ∧ (drn 4000 W).2.1 = (drn 4000 B).2.1 ∧ (drn 4000 W).2.2 = c + (drn 4000 B).2.2 := by
  have := h [] (fun x hx => by simp at hx) (by simpa using hl)
  rw [List.append_nil, List.append_nil] at this
  rw [this]
  exact ⟨rfl, rfl, rfl⟩
end Go.Proofs.Ytpkgpapdmjapmaa.Pure
