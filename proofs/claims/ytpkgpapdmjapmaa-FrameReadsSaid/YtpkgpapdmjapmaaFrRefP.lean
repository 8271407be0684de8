/- The document's reader: what stands at the front, what might; the plain law. -/
import Derived.Test.YtpkgpapdmjapmaaFrPieceP
import Derived.Test.YtpkgpapdmjapmaaFrMight
import Derived.Test.YtpkgpapdmjapmaaFrTurned
namespace Go.Proofs.Ytpkgpapdmjapmaa.Pure
open Go.RowKit Go.Proofs.YtpkgpapdmjapmaaW.PrintWords Go.Proofs.YtpkgpapdmjapmaaW.PrintLast Go.Proofs.YtpkgpapdmjapmaaW.PrintMore Go.Proofs.Ytpkgpapdmjapmaa.SumMath Go.Proofs.Ytpkgpapdmjapmaa.Fns
set_option linter.unusedVariables false
set_option linter.unusedSimpArgs false

/-- a frame is found just here. -/
def hit (l : List Int) : Prop := bgn l = true ∧ 8 ≤ l.length ∧ 8 + nn l ≤ l.length ∧ sumv (bodyAt l (nn l)) = tS l
/-- one waits here. -/
def waits (l : List Int) : Prop := bgn l = true ∧ (l.length < 8 ∨ l.length < 8 + nn l)
theorem three (l : List Int) : hit l ∨ waits l ∨ skips l := by
  by_cases hg : bgn l = true
  · by_cases hw : l.length < 8 ∨ l.length < 8 + nn l
    · exact .inr (.inl ⟨hg, hw⟩)
    · by_cases hs : sumv (bodyAt l (nn l)) = tS l
      · exact .inl ⟨hg, by omega, by omega, hs⟩
      · exact .inr (.inr (.inr ⟨by omega, by omega, hs⟩))
  · exact .inr (.inr (.inl (by simpa using hg)))
theorem hit_take (l : List Int) (hb : Bytes l) (h : hit l) : l.take (8 + nn l) = mk (bodyAt l (nn l)) := by
  have e := head_mk l hb h.1 h.2.1 h.2.2.1 h.2.2.2
  have hl := body_length l (nn l) h.2.2.1
  have e2 := congrArg (List.take (8 + nn l)) e
  rw [List.take_append_of_le_length (by rw [mk_length]; omega), List.take_of_length_le (l := mk _) (by rw [mk_length]; omega)] at e2
  exact e2
theorem take_hit (l : List Int) (hb : Bytes l) (n : Nat) (hn1 : 1 ≤ n) (hn2 : n ≤ 512) (hl : 8 + n ≤ l.length) (e : l.take (8 + n) = mk ((l.take (8 + n)).drop 8)) : hit l := by
  obtain ⟨b, hbb⟩ : ∃ b, (l.take (8 + n)).drop 8 = b := ⟨_, rfl⟩
  rw [hbb] at e
  have hbl : b.length = n := by rw [← hbb]; simp; omega
  have hbB : Bytes b := by rw [← hbb]; exact fun x hx => hb x (List.mem_of_mem_take (List.mem_of_mem_drop hx))
  have hx := nx_mk b (l.drop (8 + n)) hbB (by unfold fits; simp; omega)
  rw [← e, List.take_append_drop] at hx
  have hne : l ≠ [] := by intro h; rw [h] at hl; simp at hl
  rcases three l with h | h | h
  · exact h
  · rw [nx_wait l hne h.1 h.2] at hx
    cases hx
  · cases l with
    | nil => exact absurd rfl hne
    | cons x B =>
      rw [nx_skip x B h] at hx
      have := congrArg (fun z => z.2.2) hx
      simp at this
theorem num23 (l : List Int) (hb : Bytes l) (h : 4 ≤ l.length) : ∃ c d : Int, rd l 2 = c ∧ rd l 3 = d ∧ 0 ≤ c ∧ c ≤ 255 ∧ 0 ≤ d ∧ d ≤ 255 ∧ wrap64 ((wrap64 ((wrap64 (rd l 2)) * 256)) + (wrap64 (rd l 3))) = c * 256 + d ∧ nn l = (c * 256 + d).toNat := by
  match l, hb, h with
  | a :: b :: c :: d :: l, hb, _ =>
    have hc := hb c (by simp)
    have hd := hb d (by simp)
    refine ⟨c, d, rfl, rfl, hc.1, hc.2, hd.1, hd.2, ?_, ?_⟩
    · rw [rd_2, rd_3, IntWalk.wrap64_in c (by omega), IntWalk.wrap64_in (c * 256) (by omega), IntWalk.wrap64_in d (by omega), IntWalk.wrap64_in _ (by omega)]
    · unfold nn
      rw [tN_is _ (by rw [rd_2]; omega) (by rw [rd_3]; omega)]
      rfl
theorem str_iff (a b : List Int) (ha : Bytes a) (hb : Bytes b) : (strOfNums a).toList = (strOfNums b).toList ↔ a = b := by
  refine ⟨fun h => ?_, fun h => by rw [h]⟩
  by_cases e : a = b
  · exact e
  · have := str_ne a b ha hb e
    rw [h] at this
    simp at this
theorem might_is (l : List Int) (hb : Bytes l) (hl : l.length ≤ 1000000) : fairleadref16_Might.f 2 l = some (decide (bgn l = true ∧ (l.length < 4 ∨ l.length < 8 + nn l))) := by
  unfold fairleadref16_Might.f
  match l, hb with
  | [], _ => simp [bgn, fairleadref16_Might.j0]
  | [a], _ =>
    rw [rd_0]
    by_cases ha : a = 102 <;> simp [bgn, ha, fairleadref16_Might.j0]
  | [a, b], _ =>
    rw [rd_0, rd_1]
    by_cases ha : a = 102 <;> by_cases hb2 : b = 76 <;> simp [bgn, ha, hb2, fairleadref16_Might.j0]
  | [a, b, c], hb =>
    rw [rd_0, rd_1, rd_2]
    by_cases ha : a = 102 <;> by_cases hb2 : b = 76 <;> by_cases h2 : c > 2 <;> simp [bgn, ha, hb2, h2, fairleadref16_Might.j0] <;> omega
  | a :: b :: c :: d :: l, hb =>
    obtain ⟨c', d', e2, e3, hc0, hc1, hd0, hd1, ew, en⟩ := num23 (a :: b :: c :: d :: l) hb (by simp)
    rw [rd_2] at e2
    rw [rd_3] at e3
    subst e2
    subst e3
    have ew9 : wrap64 ((c * 256 + d) + 8) = (c * 256 + d) + 8 := IntWalk.wrap64_in _ (by omega)
    simp only [fairleadref16_Might.j0, ew, ew9, rd_0, rd_1]
    rw [rd_2]
    rw [en]
    have hl4 : (((a :: b :: c :: d :: l).length : Nat) : Int) = (l.length : Int) + 4 := by simp only [List.length_cons]; omega
    rw [hl4]
    rw [if_pos (by omega), if_pos (by omega)]
    simp only [bgn, decide_eq_true_eq]
    by_cases ha : a = 102
    · rw [if_pos ha, if_pos (by omega), if_pos (by omega)]
      by_cases hb2 : b = 76
      · rw [if_pos hb2, if_pos (by omega), if_pos (by omega)]
        by_cases h2 : c > 2
        · rw [if_pos h2]
          congr 1
          exact (decide_eq_false (by omega)).symm
        · rw [if_neg h2, if_neg (by omega), if_pos (by omega), if_pos (by omega)]
          by_cases g1 : c * 256 + d ≥ 1
          · rw [if_pos g1]
            by_cases g2 : c * 256 + d ≤ 512
            · rw [if_pos g2]
              congr 1
              refine decide_eq_decide.2 ?_
              simp only [List.length_cons]
              omega
            · rw [if_neg g2]
              congr 1
              exact (decide_eq_false (by omega)).symm
          · rw [if_neg g1]
            congr 1
            exact (decide_eq_false (by omega)).symm
      · rw [if_neg hb2, if_pos trivial]
        congr 1
        exact (decide_eq_false (by omega)).symm
    · rw [if_neg ha, if_pos trivial]
      congr 1
      exact (decide_eq_false (by omega)).symm
theorem might_waits (l : List Int) (hb : Bytes l) (hl : l.length ≤ 1000000) (h : waits l) : fairleadref16_Might.f 2 l = some true := by
  rw [might_is l hb hl]
  congr 1
  refine decide_eq_true ⟨h.1, ?_⟩
  by_cases h4 : l.length < 4
  · exact .inl h4
  · obtain ⟨n1, n2, _, _, _⟩ := bgn_long l hb h.1 (by omega)
    have := h.2
    omega
theorem might_skips (l : List Int) (hb : Bytes l) (hl : l.length ≤ 1000000) (h : skips l) : fairleadref16_Might.f 2 l = some false := by
  rw [might_is l hb hl]
  congr 1
  refine decide_eq_false fun e => ?_
  rcases h with h | ⟨h1, h2, _⟩
  · rw [e.1] at h; cases h
  · omega
theorem waits_not_hit (l : List Int) (h : waits l) : ¬ hit l := fun e => by have := h.2; have := e.2; omega
theorem skips_not_hit (l : List Int) (h : skips l) : ¬ hit l := fun e => by
  rcases h with h | h
  · rw [e.1] at h; cases h
  · exact h.2.2 e.2.2.2
end Go.Proofs.Ytpkgpapdmjapmaa.Pure
