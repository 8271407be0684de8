/- The plain law of the two tables: what both tell is alike. -/
import Derived.Test.YtlohaefhigbdjaaFdsRef2
namespace Go.Proofs.Ytlohaefhigbdjaa.Fds
open Go.RowKit
set_option linter.unusedVariables false

/-- The two tables tell the same. -/
structure Like (V : List Int) (I : List Bool) (F L : List Int) : Prop where
  lv : V.length = 16
  li : I.length = 16
  len : F.length = L.length
  num : numOf I = F.length
  nd : F.Nodup
  rng : ∀ x ∈ F, 0 ≤ x ∧ x < 16
  mem : ∀ k : Nat, k < 16 → (I.getD k false = true ↔ (k : Int) ∈ F)
  val : ∀ j, j < F.length → ∀ k : Nat, F.getD j 0 = (k : Int) → L.getD j 0 = V.getD k 0

theorem rI_iff (F : List Int) (x : Int) : rI F x = true ↔ x ∈ F := by
  unfold rI at_
  induction F with
  | nil => simp
  | cons b F ih =>
    by_cases e : b = x
    · subst e; simp
    · have hb : (!(b == x)) = true := by simpa using e
      have e' : ¬ x = b := fun h => e h.symm
      simp only [List.takeWhile_cons, hb, if_true, List.length_cons, List.mem_cons, e', false_or]
      rw [← ih]
      simp
theorem rI_false (F : List Int) (x : Int) : rI F x = false ↔ ¬ x ∈ F := by
  rw [← rI_iff]; simp
theorem getD_mem {F : List Int} {j : Nat} (h : j < F.length) : F.getD j 0 ∈ F := by
  have : F.getD j 0 = F[j] := by simp [List.getD_eq_getElem?_getD, h]
  rw [this]; exact List.getElem_mem h

theorem Like.get {V : List Int} {I : List Bool} {F L : List Int} (h : Like V I F L) (k : Nat) (hk : k < 16) : rI F k = I.getD k false ∧ rV F L k = gv V I k := by
  have h1 : rI F k = I.getD k false := by
    rw [Bool.eq_iff_iff, rI_iff, h.mem k hk]
  refine ⟨h1, ?_⟩
  have hs := at_spec F k
  unfold rV gv
  by_cases hi : I.getD k false = true
  · have : at_ F k < F.length := by
      rw [hi] at h1
      simpa [rI] using h1
    rw [if_pos this, if_pos hi]
    exact h.val _ this k (hs.2.1 this)
  · have : ¬ at_ F k < F.length := by
      intro hc
      apply hi
      rw [← h1]
      simpa [rI] using hc
    rw [if_neg this, if_neg hi]
theorem Like.out {V : List Int} {I : List Bool} {F L : List Int} (h : Like V I F L) (x : Int) (hx : x < 0 ∨ 16 ≤ x) : rI F x = false ∧ rV F L x = 0 := by
  have h1 : rI F x = false := by
    rw [rI_false]
    intro hm
    have := h.rng x hm
    omega
  refine ⟨h1, ?_⟩
  unfold rV
  rw [if_neg]
  simpa [rI] using h1

theorem num_le16 {I : List Bool} (h : I.length = 16) : numOf I ≤ 16 := by
  unfold numOf
  have := List.countP_le_length (p := fun b => b) (l := I)
  omega

/-- An install, where there is room. -/
theorem Like.install {V : List Int} {I : List Bool} {F L : List Int} (h : Like V I F L) (val : Int) (hf : free I < 16) : Like (V.set (free I) val) (I.set (free I) true) (F ++ [(free I : Int)]) (L ++ [val]) := by
  have hs := free_spec I
  rw [h.li] at hs
  have hfr := hs.2.1 hf
  have hnm : ¬ ((free I : Nat) : Int) ∈ F := by
    rw [← h.mem _ hf, hfr]; simp
  generalize free I = f at *
  refine ⟨by rw [List.length_set]; exact h.lv, by rw [List.length_set]; exact h.li, by simp [h.len], ?_, ?_, ?_, ?_, ?_⟩
  · rw [set_num I f (by rw [h.li]; exact hf) hfr, h.num]; simp
  · rw [List.nodup_append]
    refine ⟨h.nd, by simp, ?_⟩
    intro a ha b hb e
    simp at hb
    subst hb
    subst e
    exact hnm ha
  · intro x hx
    rcases List.mem_append.1 hx with hx | hx
    · exact h.rng x hx
    · simp at hx; subst hx; omega
  · intro k hk
    rw [getD_set _ _ _ _ _ (by rw [h.li]; exact hf), List.mem_append]
    by_cases e : f = k
    · subst e; simp
    · rw [if_neg e, h.mem k hk]
      have : ¬ ((k : Int) = (f : Int)) := by omega
      simp [this]
  · intro j hj k hk
    by_cases hl : j < F.length
    · have e1 : (F ++ [(f : Int)]).getD j 0 = F.getD j 0 := by simp [List.getD_eq_getElem?_getD, List.getElem?_append, hl]
      have e2 : (L ++ [val]).getD j 0 = L.getD j 0 := by simp [List.getD_eq_getElem?_getD, List.getElem?_append, h.len ▸ hl]
      rw [e1] at hk
      rw [e2, h.val j hl k hk, getD_set _ _ _ _ _ (by rw [h.lv]; exact hf)]
      have : ¬ f = k := by
        intro e
        subst e
        apply hnm
        rw [← hk]
        exact getD_mem hl
      rw [if_neg this]
    · have hj' : j = F.length := by simp at hj; omega
      subst hj'
      have e1 : (F ++ [(f : Int)]).getD F.length 0 = (f : Int) := by simp [List.getD_eq_getElem?_getD]
      have e2 : (L ++ [val]).getD F.length 0 = val := by rw [h.len]; simp [List.getD_eq_getElem?_getD]
      rw [e1] at hk
      have : f = k := by omega
      subst this
      rw [e2, getD_set _ _ _ _ _ (by rw [h.lv]; exact hf), if_pos rfl]

/-- one true fewer -/
theorem unset_num (I : List Bool) (f : Nat) (hf : f < I.length) (h : I.getD f false = true) : numOf (I.set f false) + 1 = numOf I := by
  unfold numOf
  induction I generalizing f with
  | nil => simp at hf
  | cons b I ih =>
    cases f with
    | zero =>
      have : b = true := by simpa using h
      subst this
      simp
    | succ f =>
      simp only [List.set_cons_succ, List.countP_cons]
      have := ih f (by simpa using hf) (by simpa using h)
      omega
theorem cut_mem {F : List Int} (nd : F.Nodup) {m : Nat} (hm : m < F.length) (x : Int) : x ∈ F.take m ++ F.drop (m + 1) ↔ x ∈ F ∧ x ≠ F.getD m 0 := by
  have hF : F = F.take m ++ F[m] :: F.drop (m + 1) := by
    rw [← List.drop_eq_getElem_cons hm, List.take_append_drop]
  have hg : F.getD m 0 = F[m] := by simp [List.getD_eq_getElem?_getD, hm]
  rw [hg]
  generalize F[m] = y at hF
  generalize F.take m = A at hF ⊢
  generalize F.drop (m + 1) = B at hF ⊢
  subst hF
  rw [List.nodup_append] at nd
  have n2 := List.nodup_cons.1 nd.2.1
  simp only [List.mem_append, List.mem_cons]
  constructor
  · rintro (h | h)
    · exact ⟨.inl h, fun e => nd.2.2 x h y (by simp) e⟩
    · exact ⟨.inr (.inr h), fun e => n2.1 (e ▸ h)⟩
  · rintro ⟨h | h | h, hne⟩
    · exact .inl h
    · exact absurd h hne
    · exact .inr h
theorem cut_get (F : List Int) (m j : Nat) (hm : m < F.length) : (F.take m ++ F.drop (m + 1)).getD j 0 = F.getD (if j < m then j else j + 1) 0 := by
  simp only [List.getD_eq_getElem?_getD, List.getElem?_append, List.length_take]
  rw [Nat.min_eq_left (by omega)]
  by_cases h : j < m
  · rw [if_pos h, if_pos h]; simp [h]
  · have e : m + 1 + (j - m) = j + 1 := by omega
    rw [if_neg h, if_neg h, List.getElem?_drop, e]
/-- A close, where something lies. -/
theorem Like.close {V : List Int} {I : List Bool} {F L : List Int} (h : Like V I F L) (k : Nat) (hk : k < 16) (hi : I.getD k false = true) :
    Like (V.set k 0) (I.set k false) (F.take (at_ F k) ++ F.drop (at_ F k + 1)) (L.take (at_ F k) ++ L.drop (at_ F k + 1)) := by
  have hs := at_spec F k
  have hr : rI F k = true := by rw [(h.get k hk).1]; exact hi
  have hm : at_ F k < F.length := by simpa [rI] using hr
  have hg := hs.2.1 hm
  generalize at_ F k = m at *
  have hmL : m < L.length := by have := h.len; omega
  refine ⟨by rw [List.length_set]; exact h.lv, by rw [List.length_set]; exact h.li, by have := h.len; simp; omega, ?_, ?_, ?_, ?_, ?_⟩
  · have := unset_num I k (by rw [h.li]; exact hk) hi
    have := h.num
    simp
    omega
  · have hF : F = F.take m ++ F[m] :: F.drop (m + 1) := by rw [← List.drop_eq_getElem_cons hm, List.take_append_drop]
    have nd := h.nd
    rw [hF, List.nodup_append] at nd
    rw [List.nodup_append]
    exact ⟨nd.1, (List.nodup_cons.1 nd.2.1).2, fun a ha b hb => nd.2.2 a ha b (List.mem_cons_of_mem _ hb)⟩
  · intro x hx
    exact h.rng x ((cut_mem h.nd hm x).1 hx).1
  · intro j hj
    rw [getD_set _ _ _ _ _ (by rw [h.li]; exact hk), cut_mem h.nd hm, hg, ← h.mem j hj]
    by_cases e : k = j
    · subst e; simp
    · have : ¬ ((j : Int) = (k : Int)) := by omega
      rw [if_neg e]
      simp [this]
  · intro j hj n hn
    rw [cut_get F m j hm] at hn
    rw [cut_get L m j hmL]
    have hj2 : (if j < m then j else j + 1) < F.length := by
      simp at hj
      split <;> omega
    have hv := h.val _ hj2 n hn
    rw [hv, getD_set _ _ _ _ _ (by rw [h.lv]; exact hk)]
    have : ¬ k = n := by
      intro e
      subst e
      have hx : F.getD (if j < m then j else j + 1) 0 = F.getD m 0 := by rw [hn, hg]
      have hne : (if j < m then j else j + 1) ≠ m := by split <;> omega
      have n1 : F.getD (if j < m then j else j + 1) 0 = F[if j < m then j else j + 1] := by simp [List.getD_eq_getElem?_getD, hj2]
      have n2 : F.getD m 0 = F[m] := by simp [List.getD_eq_getElem?_getD, hm]
      rw [n1, n2] at hx
      exact hne ((List.getElem_inj h.nd).1 hx)
    rw [if_neg this]
theorem like0 : Like V0 I0 [0, 1, 2] [0, 1, 2] := by
  refine ⟨rfl, rfl, rfl, rfl, by decide, by decide, by decide, ?_⟩
  intro j hj k hk
  have hj3 : j = 0 ∨ j = 1 ∨ j = 2 := by simp at hj; omega
  rcases hj3 with rfl | rfl | rfl
  · obtain rfl : k = 0 := by have : (0 : Int) = k := hk; omega
    rfl
  · obtain rfl : k = 1 := by have : (1 : Int) = k := hk; omega
    rfl
  · obtain rfl : k = 2 := by have : (2 : Int) = k := hk; omega
    rfl
end Go.Proofs.Ytlohaefhigbdjaa.Fds
