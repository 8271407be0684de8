/- The last place that is passed: the plain law. -/
import Derived.Test.YtioccjeiheejjaaTrPure
namespace Go.Proofs.Ytioccjeiheejjaa.Tree
open Go.RowKit Go.Proofs.YtioccjeiheejjaaW.PrintWords Go.Proofs.YtioccjeiheejjaaW.PrintLast Go.Proofs.YtioccjeiheejjaaW.PrintMore Go.Proofs.Ytioccjeiheejjaa.Fns
set_option linter.unusedVariables false
set_option linter.unusedSimpArgs false

theorem rises_step (l : List Int) : ∀ (d i : Nat), risesAt l d i = true → ∀ j, i ≤ j → j < i + d → 0 < j → rd l ((j : Int) - 1) < rd l (j : Int)
  | 0, i, _, j, h1, h2, _ => by omega
  | d + 1, i, h, j, h1, h2, h3 => by
    rw [risesAt] at h
    by_cases hc : 0 < i ∧ rd l (i : Int) ≤ rd l ((i : Int) - 1)
    · rw [if_pos hc] at h; cases h
    · rw [if_neg hc] at h
      by_cases e : j = i
      · subst e
        by_cases hle : rd l (j : Int) ≤ rd l ((j : Int) - 1)
        · exact absurd ⟨h3, hle⟩ hc
        · omega
      · exact rises_step l d (i + 1) h j (by omega) (by omega) h3
theorem rises_mono (l : List Int) (h : risesB l = true) : ∀ (d i : Nat), i + d < l.length → rd l (i : Int) ≤ rd l ((i + d : Nat) : Int)
  | 0, i, _ => Int.le_refl _
  | d + 1, i, hl => by
    have h1 := rises_mono l h d i (by omega)
    have h2 := rises_step l l.length 0 h (i + d + 1) (by omega) (by omega) (by omega)
    rw [show ((i + d + 1 : Nat) : Int) - 1 = ((i + d : Nat) : Int) by omega] at h2
    rw [show i + (d + 1) = i + d + 1 by omega]
    omega
/-- the last place whose number is at most n, among the first i; or the first. -/
def wantI (l : List Int) (n : Int) : Nat → Nat
  | 0 => 0
  | i + 1 => if rd l (i : Int) ≤ n then i else wantI l n i
theorem want_is (l : List Int) (n : Int) (h : risesB l = true) (p : Nat) (hp : p < l.length) (h1 : p = 0 ∨ rd l (p : Int) ≤ n) (h2 : ∀ j, p < j → j < l.length → n < rd l (j : Int)) : ∀ i, p < i → i ≤ l.length → wantI l n i = p
  | 0, hi, _ => by omega
  | i + 1, hi, hl => by
    rw [wantI]
    by_cases e : i = p
    · subst e
      by_cases hr : rd l (i : Int) ≤ n
      · rw [if_pos hr]
      · rw [if_neg hr]
        rcases h1 with h1 | h1
        · subst h1; rfl
        · exact absurd h1 hr
    · have := h2 i (by omega) (by omega)
      rw [if_neg (by omega)]
      exact want_is l n h p hp h1 h2 i (by omega) (by omega)
/-- where the path ends. -/
theorem path_last (l : List Int) (n : Int) (h : risesB l = true) : ∀ (d f t : Nat), t - f ≤ d + 1 → f < t → t ≤ l.length → (f = 0 ∨ rd l (f : Int) ≤ n) → (t = l.length ∨ n < rd l (t : Int)) →
    ∃ (p : Nat) (ps : List Int), pathL l n d f t = ps ++ [(p : Int)] ∧ f ≤ p ∧ p < t ∧ (p = 0 ∨ rd l (p : Int) ≤ n) ∧ (p + 1 = l.length ∨ n < rd l ((p + 1 : Nat) : Int))
  | 0, f, t, h1, h2, h3, hf, ht => ⟨f, [], by simp [pathL], Nat.le_refl _, h2, hf, by rw [show f + 1 = t by omega]; exact ht⟩
  | d + 1, f, t, h1, h2, h3, hf, ht => by
    rw [pathL]
    by_cases hm : 1 < t - f
    · rw [if_pos hm]
      obtain ⟨m, hmm⟩ : ∃ m, f + (t - f) / 2 = m := ⟨_, rfl⟩
      rw [hmm]
      by_cases hr : rd l (m : Int) ≤ n
      · rw [if_pos hr]
        obtain ⟨p, ps, e, a1, a2, a3, a4⟩ := path_last l n h d m t (by omega) (by omega) h3 (.inr hr) ht
        exact ⟨p, (m : Int) :: ps, by rw [e]; rfl, by omega, a2, a3, a4⟩
      · rw [if_neg hr]
        obtain ⟨p, ps, e, a1, a2, a3, a4⟩ := path_last l n h d f m (by omega) (by omega) (by omega) hf (.inr (by omega))
        exact ⟨p, (m : Int) :: ps, by rw [e]; rfl, a1, by omega, a3, a4⟩
    · rw [if_neg hm]
      exact ⟨f, [], rfl, Nat.le_refl _, h2, hf, by rw [show f + 1 = t by omega]; exact ht⟩
theorem path_short (l : List Int) (n : Int) : ∀ (d f t e : Nat), f < t → t - f ≤ 2 ^ e → (pathL l n d f t).length ≤ e + 1
  | 0, f, t, e, _, _ => by simp [pathL]
  | d + 1, f, t, e, h1, h2 => by
    rw [pathL]
    by_cases hm : 1 < t - f
    · rw [if_pos hm]
      cases e with
      | zero => simp at h2; omega
      | succ e =>
        have hp : 2 ^ (e + 1) = 2 ^ e * 2 := Nat.pow_succ 2 e
        rw [List.length_cons]
        split
        · have := path_short l n d (f + (t - f) / 2) t e (by omega) (by omega); omega
        · have := path_short l n d f (f + (t - f) / 2) e (by omega) (by omega); omega
    · rw [if_neg hm]; simp
theorem deep_pow (s : Nat) (hs : s ≤ 4096) : ∀ (d i : Nat), i + d = 62 → ∃ e : Nat, deepL (s : Int) d i = (e : Int) ∧ s ≤ 2 ^ e ∧ e ≤ 62
  | 0, i, hi => ⟨i, rfl, by have : 2 ^ 12 ≤ 2 ^ i := Nat.pow_le_pow_right (by omega) (by omega); have e : (2 : Nat) ^ 12 = 4096 := rfl; omega, by omega⟩
  | d + 1, i, hi => by
    rw [deepL]
    by_cases h : (2 : Int) ^ i < (s : Int)
    · rw [if_pos h]
      exact deep_pow s hs d (i + 1) (by omega)
    · rw [if_neg h]
      refine ⟨i, rfl, ?_, by omega⟩
      have e : ((2 ^ i : Nat) : Int) = (2 : Int) ^ i := by simp
      omega
/-- the law. -/
theorem finds_law (l : List Int) (n : Int) (h0 : 0 < l.length) (hl : l.length ≤ 4096) (h : risesB l = true) :
    ∃ (p e : Nat) (ps : List Int), pathB l n = ps ++ [(p : Int)] ∧ wantI l n l.length = p ∧ deepL (l.length : Int) 62 0 = (e : Int) ∧ ps.length ≤ e ∧ e ≤ 62 := by
  obtain ⟨p, ps, a0, a1, a2, a3, a4⟩ := path_last l n h l.length 0 l.length (by omega) h0 (Nat.le_refl _) (.inl rfl) (.inl rfl)
  obtain ⟨e, e1, e2, e3⟩ := deep_pow l.length hl 62 0 (by omega)
  have hp : pathB l n = ps ++ [(p : Int)] := by
    unfold pathB
    rw [if_neg (by omega), if_neg (by omega), if_pos h]
    exact a0
  have hlen := path_short l n l.length 0 l.length e h0 (by omega)
  rw [a0, List.length_append, List.length_singleton] at hlen
  refine ⟨p, e, ps, hp, want_is l n h p a2 a3 (fun j h1 h2 => ?_) l.length a2 (Nat.le_refl _), e1, by omega, e3⟩
  rcases a4 with a4 | a4
  · omega
  · have := rises_mono l h (j - (p + 1)) (p + 1) (by omega)
    rw [show p + 1 + (j - (p + 1)) = j by omega] at this
    omega
end Go.Proofs.Ytioccjeiheejjaa.Tree
