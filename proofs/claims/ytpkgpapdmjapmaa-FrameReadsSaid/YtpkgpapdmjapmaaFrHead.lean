/- Heads: what the first bytes tell. -/
import Derived.Test.YtpkgpapdmjapmaaFrMath
namespace Go.Proofs.Ytpkgpapdmjapmaa.Pure
open Go.RowKit Go.Proofs.YtpkgpapdmjapmaaW.PrintWords Go.Proofs.YtpkgpapdmjapmaaW.PrintLast Go.Proofs.YtpkgpapdmjapmaaW.PrintMore Go.Proofs.Ytpkgpapdmjapmaa.SumMath Go.Proofs.Ytpkgpapdmjapmaa.Fns
set_option linter.unusedVariables false
set_option linter.unusedSimpArgs false

theorem join8 (a b : Int) (a0 : 0 ≤ a) (a1 : a ≤ 255) (b0 : 0 ≤ b) (b1 : b ≤ 255) : Go.bits .or .i64 (a * 256) b = a * 256 + b :=
  bits_join .i64 63 (by decide) (fun n h0 h1 => by rw [IntKind.wrap_i64]; omega) 8 (a * 256) b (by omega) (by simp only [Int.reducePow]; omega) (by simp only [Int.reducePow]; omega) b0 (by simp only [Int.reducePow]; omega) (by simp only [Int.reducePow]; omega)
theorem join32 (i : Nat) (hi : i ≤ 32) (a b : Int) (a0 : 0 ≤ a) (a1 : a < 4294967296) (am : a % 2 ^ i = 0) (b0 : 0 ≤ b) (b1 : b < 2 ^ i) (bb : b < 4294967296) : Go.bits .or .u32 a b = a + b :=
  bits_join .u32 32 (by decide) (fun n h0 h1 => by rw [IntKind.wrap_u32]; omega) i a b a0 am (by simp only [Int.reducePow]; omega) b0 b1 (by simp only [Int.reducePow]; omega)
theorem i64_byte (a : Int) (a0 : 0 ≤ a) (a1 : a ≤ 65535) : IntKind.i64.wrap a = a := by rw [IntKind.wrap_i64]; omega
theorem u32_in (a : Int) (a0 : 0 ≤ a) (a1 : a < 4294967296) : IntKind.u32.wrap a = a := by rw [IntKind.wrap_u32]; omega

theorem tN_is (l : List Int) (h2 : 0 ≤ rd l 2 ∧ rd l 2 ≤ 255) (h3 : 0 ≤ rd l 3 ∧ rd l 3 ≤ 255) : tN l = rd l 2 * 256 + rd l 3 := by
  unfold tN
  rw [i64_byte (rd l 2) h2.1 (by omega), i64_byte _ (by omega) (by omega), i64_byte (rd l 3) h3.1 (by omega), join8 _ _ h2.1 h2.2 h3.1 h3.2]
theorem tS_is (l : List Int) (h4 : 0 ≤ rd l 4 ∧ rd l 4 ≤ 255) (h5 : 0 ≤ rd l 5 ∧ rd l 5 ≤ 255) (h6 : 0 ≤ rd l 6 ∧ rd l 6 ≤ 255) (h7 : 0 ≤ rd l 7 ∧ rd l 7 ≤ 255) :
    tS l = rd l 4 * 16777216 + rd l 5 * 65536 + rd l 6 * 256 + rd l 7 := by
  unfold tS
  rw [u32_in (rd l 4) (by omega) (by omega), u32_in (rd l 5) (by omega) (by omega), u32_in (rd l 6) (by omega) (by omega), u32_in (rd l 7) (by omega) (by omega),
    u32_in (rd l 4 * 16777216) (by omega) (by omega), u32_in (rd l 5 * 65536) (by omega) (by omega), u32_in (rd l 6 * 256) (by omega) (by omega)]
  rw [join32 24 (by decide) (rd l 4 * 16777216) (rd l 5 * 65536) (by omega) (by omega) (by simp only [Int.reducePow]; omega) (by omega) (by simp only [Int.reducePow]; omega) (by omega)]
  rw [join32 16 (by decide) _ (rd l 6 * 256) (by omega) (by omega) (by simp only [Int.reducePow]; omega) (by omega) (by simp only [Int.reducePow]; omega) (by omega)]
  rw [join32 8 (by decide) _ (rd l 7) (by omega) (by omega) (by simp only [Int.reducePow]; omega) (by omega) (by simp only [Int.reducePow]; omega) (by omega)]

/-- may these bytes begin a frame? -/
def bgn : List Int → Bool
  | [] => true
  | [a] => decide (a = 102)
  | [a, b] => decide (a = 102 ∧ b = 76)
  | [a, b, c] => decide (a = 102 ∧ b = 76 ∧ c ≤ 2)
  | a :: b :: c :: d :: _ => decide (a = 102 ∧ b = 76 ∧ c ≤ 2 ∧ 1 ≤ c * 256 + d ∧ c * 256 + d ≤ 512)

theorem rd_0 (a : Int) (l : List Int) : rd (a :: l) 0 = a := rfl
theorem rd_1 (a b : Int) (l : List Int) : rd (a :: b :: l) 1 = b := rfl
theorem rd_2 (a b c : Int) (l : List Int) : rd (a :: b :: c :: l) 2 = c := rfl
theorem rd_3 (a b c d : Int) (l : List Int) : rd (a :: b :: c :: d :: l) 3 = d := rfl

theorem j0_true (k : Nat) (l : List Int) : frame_begins.j0 (k + 1) l true = some false := by simp [frame_begins.j0]
theorem j0_short (k : Nat) (l : List Int) (h : l.length < 4) : frame_begins.j0 (k + 1) l false = some true := by
  simp only [frame_begins.j0]
  rw [if_neg (by simp), if_pos (by omega)]
theorem j0_long (k : Nat) (a b c d : Int) (l : List Int) (hc : 0 ≤ c ∧ c ≤ 255) (hd : 0 ≤ d ∧ d ≤ 255) : frame_begins.j0 (k + 1) (a :: b :: c :: d :: l) false = some (decide (1 ≤ c * 256 + d ∧ c * 256 + d ≤ 512)) := by
  have e : Go.bits .or .i64 (wrap64 ((wrap64 (rd (a :: b :: c :: d :: l) 2)) * 256)) (wrap64 (rd (a :: b :: c :: d :: l) 3)) = c * 256 + d := by
    rw [rd_2, rd_3, IntWalk.wrap64_in c (by omega), IntWalk.wrap64_in (c * 256) (by omega), IntWalk.wrap64_in d (by omega), join8 c d hc.1 hc.2 hd.1 hd.2]
  simp only [frame_begins.j0]
  rw [if_neg (by simp), if_neg (by simp only [List.length_cons]; omega), if_pos (by simp only [List.length_cons]; omega), if_pos (by simp only [List.length_cons]; omega), e]
  by_cases h1 : 1 ≤ c * 256 + d
  · rw [if_pos h1]; congr 1; simp [h1]
  · rw [if_neg h1]; congr 1; simp [h1]

theorem begins_is (l : List Int) (hb : Bytes l) (k : Nat) : frame_begins.f (k + 1) l = some (bgn l) := by
  unfold frame_begins.f
  match l, hb with
  | [], _ => simp [bgn, j0_short]
  | [a], _ =>
    rw [rd_0]
    by_cases ha : a = 102
    · simp [bgn, ha, j0_short]
    · simp [bgn, ha, j0_true]
  | [a, b], _ =>
    rw [rd_0, rd_1]
    by_cases ha : a = 102
    · by_cases hb2 : b = 76
      · simp [bgn, ha, hb2, j0_short]
      · simp [bgn, ha, hb2, j0_true]
    · simp [bgn, ha, j0_true]
  | [a, b, c], hb =>
    have hc := hb c (by simp)
    rw [rd_0, rd_1, rd_2, IntWalk.wrap64_in c (by omega)]
    by_cases ha : a = 102
    · by_cases hb2 : b = 76
      · by_cases h2 : c > 2
        · have : ¬ c ≤ 2 := by omega
          simp [bgn, ha, hb2, h2, this, j0_true]
        · have : c ≤ 2 := by omega
          simp [bgn, ha, hb2, h2, this, j0_short]
      · simp [bgn, ha, hb2, j0_true]
    · simp [bgn, ha, j0_true]
  | a :: b :: c :: d :: l, hb =>
    have hc := hb c (by simp)
    have hd := hb d (by simp)
    rw [rd_0, rd_1, rd_2, IntWalk.wrap64_in c (by omega)]
    have l0 : (((a :: b :: c :: d :: l).length : Nat) : Int) > 0 := by simp only [List.length_cons]; omega
    have l1 : (((a :: b :: c :: d :: l).length : Nat) : Int) > 1 := by simp only [List.length_cons]; omega
    have l2 : (((a :: b :: c :: d :: l).length : Nat) : Int) > 2 := by simp only [List.length_cons]; omega
    rw [if_pos l0, if_pos l0]
    by_cases ha : a = 102
    · rw [if_pos ha, if_pos l1, if_pos l1]
      by_cases hb2 : b = 76
      · rw [if_pos hb2, if_pos l2, if_pos l2]
        by_cases h2 : c > 2
        · have : ¬ c ≤ 2 := by omega
          rw [decide_eq_true h2, j0_true]
          simp [bgn, this]
        · have : c ≤ 2 := by omega
          rw [decide_eq_false h2, j0_long k a b c d l hc hd]
          simp [bgn, ha, hb2, this]
      · rw [if_neg hb2, j0_true]; simp [bgn, hb2]
    · rw [if_neg ha, j0_true]; simp [bgn, ha]

end Go.Proofs.Ytpkgpapdmjapmaa.Pure
