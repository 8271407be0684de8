/- light: what it answers. -/
import Derived.Test.YtpkgpapdmjapmaaFrCount
namespace Go.Proofs.Ytpkgpapdmjapmaa.Pure
open Go.RowKit Go.Proofs.YtpkgpapdmjapmaaW.PrintWords Go.Proofs.YtpkgpapdmjapmaaW.PrintLast Go.Proofs.YtpkgpapdmjapmaaW.PrintMore Go.Proofs.Ytpkgpapdmjapmaa.SumMath Go.Proofs.Ytpkgpapdmjapmaa.Fns

def tot : List (List Int) → Nat
  | [] => 0
  | b :: bs => b.length + tot bs
def totm : List (List Int) → Nat
  | [] => 0
  | b :: bs => min b.length 10000 + totm bs
theorem totm_tot : ∀ (l : List (List Int)), totm l ≤ 3000 → tot l = totm l
  | [], _ => rfl
  | b :: bs, h => by
    simp only [totm] at h
    have := totm_tot bs (by omega)
    simp only [tot, totm]
    omega
theorem light_loop (l : List (List Int)) : ∀ (d k : Nat) (n : Int) (i : Nat), i + d = min l.length 100 → d < k → 0 ≤ n → n ≤ 10000 * i →
    fairleadlaw16_light.l0 k l n (i : Int) = some (if l.length ≤ 100 then decide (n + (totm (l.drop i) : Int) ≤ 3000) else false)
  | 0, k + 1, n, i, hd, _, h0, h1 => by
    simp only [fairleadlaw16_light.l0]
    by_cases hl : l.length ≤ 100
    · rw [if_neg (by omega), if_pos (by omega), if_pos hl, List.drop_eq_nil_of_le (by omega)]
      simp [totm]
    · rw [if_pos (by omega), if_neg (by omega), if_neg (by omega), if_neg hl]
  | d + 1, k + 1, n, i, hd, hk, h0, h1 => by
    have hi : i < l.length := by omega
    have e : rd_L1 l (i : Int) = l[i] := by simp [rd_L1, List.getD_eq_getElem?_getD, hi]
    have em : mn ((rd_L1 l (i : Int)).length : Int) 10000 = ((min (l[i]).length 10000 : Nat) : Int) := by
      rw [e]; unfold mn; split <;> omega
    simp only [fairleadlaw16_light.l0]
    rw [if_pos (by omega), if_pos (by omega), if_pos (by omega), em, IntWalk.wrap64_in _ (by omega), IntWalk.wrap64_in ((i : Int) + 1) (by omega)]
    have := light_loop l d k (n + ((min (l[i]).length 10000 : Nat) : Int)) (i + 1) (by omega) (by omega) (by omega) (by omega)
    rw [show ((i : Int) + 1) = ((i + 1 : Nat) : Int) by omega, this, List.drop_eq_getElem_cons hi]
    have ec : n + ((min (l[i]).length 10000 : Nat) : Int) + (totm (l.drop (i + 1)) : Int) = n + ((totm (l[i] :: l.drop (i + 1)) : Nat) : Int) := by simp only [totm]; omega
    rw [ec]
def isLight (l : List (List Int)) : Bool := if l.length ≤ 100 then decide (totm l ≤ 3000) else false
theorem light_is (l : List (List Int)) (k : Nat) (hk : 100 < k) : fairleadlaw16_light.f k l = some (isLight l) := by
  unfold fairleadlaw16_light.f isLight
  have := light_loop l (min l.length 100) k 0 0 (by omega) (by omega) (by omega) (by omega)
  rw [show ((0 : Nat) : Int) = 0 from rfl] at this
  rw [this]
  have e : ((0 : Int) + (totm (l.drop 0) : Int) ≤ 3000) = (totm l ≤ 3000) := by rw [List.drop_zero]; exact propext ⟨fun h => by omega, fun h => by omega⟩
  simp only [e]
theorem light_tot (l : List (List Int)) (h : isLight l = true) : l.length ≤ 100 ∧ tot l ≤ 3000 := by
  unfold isLight at h
  by_cases hl : l.length ≤ 100
  · rw [if_pos hl] at h
    have h' : totm l ≤ 3000 := of_decide_eq_true h
    exact ⟨hl, by rw [totm_tot l h']; exact h'⟩
  · rw [if_neg hl] at h
    cases h
end Go.Proofs.Ytpkgpapdmjapmaa.Pure
