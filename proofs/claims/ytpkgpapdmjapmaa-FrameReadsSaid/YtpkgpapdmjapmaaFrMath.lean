/- Frames: the numbers of a head, the frame of a body. -/
import Derived.Test.YtpkgpapdmjapmaaFrSum
import Derived.Test.YtpkgpapdmjapmaaFrFront
namespace Go.Proofs.Ytpkgpapdmjapmaa.Pure
open Go.RowKit Go.Proofs.YtpkgpapdmjapmaaW.PrintWords Go.Proofs.YtpkgpapdmjapmaaW.PrintLast Go.Proofs.YtpkgpapdmjapmaaW.PrintMore Go.Proofs.Ytpkgpapdmjapmaa.SumMath Go.Proofs.Ytpkgpapdmjapmaa.Fns
set_option linter.unusedVariables false
set_option linter.unusedSimpArgs false

/-- the sum that a body's head tells. -/
def sumv (b : List Int) : Int := G 1 ([((b.length : Int) / 256) % 256, (b.length : Int) % 256] ++ b)
/-- the frame of a body. -/
def mk (b : List Int) : List Int := [102, 76, ((b.length : Int) / 256) % 256, (b.length : Int) % 256, (sumv b / 16777216) % 256, (sumv b / 65536) % 256, (sumv b / 256) % 256, (sumv b) % 256] ++ b

theorem sumv_range (b : List Int) : 0 ≤ sumv b ∧ sumv b < 4294967296 := G_range _ _
theorem head_bytes (b : List Int) : Bytes ([((b.length : Int) / 256) % 256, (b.length : Int) % 256]) := by
  intro x hx
  simp only [List.mem_cons, List.not_mem_nil, or_false] at hx
  rcases hx with rfl | rfl <;> omega
theorem mk_bytes (b : List Int) (h : Bytes b) : Bytes (mk b) := by
  unfold mk
  refine bytes_append ?_ h
  intro x hx
  simp only [List.mem_cons, List.not_mem_nil, or_false] at hx
  rcases hx with rfl | rfl | rfl | rfl | rfl | rfl | rfl | rfl <;> omega
theorem mk_length (b : List Int) : (mk b).length = 8 + b.length := by unfold mk; simp; omega

theorem frame_of_is (b : List Int) (hb : Bytes b) (hn : b.length ≤ 140737488351232) (k : Nat) (hk : b.length + 2 < k) : frame_of.f k b = some ((b.length : Int), sumv b) := by
  unfold frame_of.f
  rw [of_is _ (head_bytes b) (by simp) k (by simp; omega)]
  have hg := G_range 1 ([((b.length : Int) / 256) % 256, (b.length : Int) % 256])
  simp only [Option.bind_some]
  rw [go_is _ b hg.1 (by omega) hb hn k (by omega), G_append]
  rfl

theorem frame_is (b : List Int) (hb : Bytes b) (k : Nat) (hk : b.length + 2 < k ∨ 514 < k) :
    frame_Frame.f k b = some (if b.length = 0 then ([], 10) else if 512 < b.length then ([], 4) else (mk b, 0)) := by
  unfold frame_Frame.f
  by_cases h0 : b.length = 0
  · simp [h0]
  · by_cases h1 : 512 < b.length
    · rw [if_neg (by omega), if_pos (by omega), if_neg h0, if_pos h1]
    · rw [if_neg (by omega), if_neg (by omega), if_neg h0, if_neg h1, frame_of_is b hb (by omega) k (by omega)]
      simp only [Option.bind_some]
      rw [if_pos (by simp; omega)]
      rfl

theorem big_step (k : Nat) (n : Int) (xs : List Int) (i : Nat) (h0 : 0 ≤ n) (h1 : n < 4294967296) (hi : i < xs.length) (hx : xs.length ≤ 4) :
    fairleadref16_big.l0 (k + 1) n xs (i : Int) = fairleadref16_big.l0 k (n / 256) (xs.set i (n % 256)) ((i : Int) - 1) := by
  simp only [fairleadref16_big.l0]
  rw [if_pos (by omega), if_pos (by omega), if_pos (by omega), Int.tdiv_eq_ediv_of_nonneg h0, Int.tmod_eq_emod_of_nonneg h0, IntWalk.wrap64_in (n / 256) (by omega), IntWalk.wrap64_in ((i : Int) - 1) (by omega), Int.emod_emod, Int.toNat_natCast]
theorem big_end (k : Nat) (n : Int) (xs : List Int) : fairleadref16_big.l0 (k + 1) n xs (-1) = some xs := by
  simp only [fairleadref16_big.l0]
  rw [if_neg (by omega)]
theorem big_two (k : Nat) (n : Int) (h0 : 0 ≤ n) (h1 : n ≤ 512) : fairleadref16_big.f (k + 3) n 2 = some [(n / 256) % 256, n % 256] := by
  unfold fairleadref16_big.f
  rw [if_pos (by omega), if_pos (by decide)]
  have e1 := big_step (k + 2) n (List.replicate 2 0) 1 h0 (by omega) (by simp) (by simp)
  have e2 := big_step (k + 1) (n / 256) ((List.replicate 2 0).set 1 (n % 256)) 0 (by omega) (by omega) (by simp) (by simp)
  rw [IntWalk.wrap64_in (2 - 1) (by omega)]
  refine e1.trans (e2.trans ((big_end k _ _).trans ?_))
  simp
theorem big_four (k : Nat) (n : Int) (h0 : 0 ≤ n) (h1 : n < 4294967296) : fairleadref16_big.f (k + 5) n 4 = some [(n / 16777216) % 256, (n / 65536) % 256, (n / 256) % 256, n % 256] := by
  unfold fairleadref16_big.f
  rw [if_pos (by omega), if_pos (by decide)]
  have e1 := big_step (k + 4) n (List.replicate 4 0) 3 h0 (by omega) (by simp) (by simp)
  have e2 := big_step (k + 3) (n / 256) ((List.replicate 4 0).set 3 (n % 256)) 2 (by omega) (by omega) (by simp) (by simp)
  have e3 := big_step (k + 2) (n / 256 / 256) (((List.replicate 4 0).set 3 (n % 256)).set 2 (n / 256 % 256)) 1 (by omega) (by omega) (by simp) (by simp)
  have e4 := big_step (k + 1) (n / 256 / 256 / 256) ((((List.replicate 4 0).set 3 (n % 256)).set 2 (n / 256 % 256)).set 1 (n / 256 / 256 % 256)) 0 (by omega) (by omega) (by simp) (by simp)
  rw [IntWalk.wrap64_in (4 - 1) (by omega)]
  refine e1.trans (e2.trans (e3.trans (e4.trans ((big_end k _ _).trans ?_))))
  have d1 : n / 256 / 256 = n / 65536 := by omega
  have d2 : n / 256 / 256 / 256 = n / 16777216 := by omega
  rw [d2, d1]
  simp

theorem ref_frame_is (b : List Int) (hb : Bytes b) (k : Nat) (hk : b.length + 2 < k ∨ 514 < k) (hk5 : 4 < k) :
    fairleadref16_Frame.f k b = some (if b.length = 0 then ([], 10) else if 512 < b.length then ([], 4) else (mk b, 0)) := by
  unfold fairleadref16_Frame.f
  by_cases h0 : b.length = 0
  · simp [h0]
  · by_cases h1 : 512 < b.length
    · rw [if_neg (by omega), if_pos (by omega), if_neg h0, if_pos h1]
    · rw [if_neg (by omega), if_neg (by omega), if_neg h0, if_neg h1]
      obtain ⟨j, rfl⟩ : ∃ j, k = j + 5 := ⟨k - 5, by omega⟩
      have hs := sumv_range b
      rw [show j + 5 = (j + 2) + 3 from rfl, big_two (j + 2) _ (by omega) (by omega)]
      simp only [Option.bind_some, List.nil_append]
      rw [if_pos (by simp), if_pos (by simp; omega), ref_of_is _ (bytes_append (head_bytes b) hb) (by simp; omega) _ (by simp; omega)]
      simp only [Option.bind_some]
      rw [if_pos (by simp)]
      have hw : wrap64 (G 1 ([((b.length : Int) / 256) % 256, (b.length : Int) % 256] ++ b)) = sumv b := by
        show wrap64 (sumv b) = sumv b
        exact IntWalk.wrap64_in _ (by omega)
      rw [hw, show j + 2 + 3 = j + 5 from rfl, big_four j _ hs.1 hs.2]
      simp only [Option.bind_some]
      rw [if_pos (by simp), if_pos (by simp; omega)]
      rfl

end Go.Proofs.Ytpkgpapdmjapmaa.Pure
