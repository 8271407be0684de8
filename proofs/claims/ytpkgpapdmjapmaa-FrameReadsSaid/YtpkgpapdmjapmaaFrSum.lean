/- The pure statements of the Sum laws: what the printed functions answer is true. -/
import Derived.Test.YtpkgpapdmjapmaaFns1
import Derived.Test.YtpkgpapdmjapmaaSumMath
import Derived.OpenShut
namespace Go.Proofs.Ytpkgpapdmjapmaa.Pure
open Go.RowKit Go.Proofs.Ytpkgpapdmjapmaa.Fns Go.Proofs.YtpkgpapdmjapmaaW.PrintWords Go.Proofs.YtpkgpapdmjapmaaW.PrintLast Go.Proofs.Ytpkgpapdmjapmaa.SumMath

theorem bytes_of {l : List Int} (h : ∀ x ∈ l, (Lit.int .u8 x).wf = true) : Bytes l := fun x hx => bounds_u8 (h x hx)

theorem rd_drop (l : List Int) (i : Int) (h0 : 0 ≤ i) (h1 : i < l.length) : l.drop i.toNat = rd l i :: l.drop (i + 1).toNat := by
  have hi : i.toNat < l.length := by omega
  have e : (i + 1).toNat = i.toNat + 1 := by omega
  rw [List.drop_eq_getElem_cons hi, e]
  simp [rd, List.getD_eq_getElem?_getD, hi]

theorem rd_byte {l : List Int} (h : Bytes l) (i : Int) (h0 : 0 ≤ i) (h1 : i < l.length) : 0 ≤ rd l i ∧ rd l i ≤ 255 := by
  have hi : i.toNat < l.length := by omega
  have : rd l i = l[i.toNat] := by simp [rd, List.getD_eq_getElem?_getD, hi]
  rw [this]; exact h _ (List.getElem_mem hi)

theorem parts_is (a : Int) (h0 : 0 ≤ a) (h1 : a ≤ 4294967295) : sum_parts.f a = some (un a) := by
  unfold sum_parts.f un
  rw [and_low a h0 (by omega), Int.tmod_eq_emod_of_nonneg (by omega), Int.tmod_eq_emod_of_nonneg (by omega)]

theorem go_loop_is (l : List Int) (hb : Bytes l) (hn : l.length ≤ 140737488351232) : ∀ (d k : Nat) (i lo hi : Int), 0 ≤ i → i + d = l.length → d < k → Fine (lo, hi) →
    sum_Go.l0 k l lo hi (l.length : Int) i = some (pk (run (lo, hi) (l.drop i.toNat))) := by
  intro d
  induction d with
  | zero =>
    intro k i lo hi h0 h1 hk hf
    obtain ⟨k, rfl⟩ : ∃ m, k = m + 1 := ⟨k - 1, by omega⟩
    simp only [sum_Go.l0]
    rw [if_neg (by omega)]
    have e : l.drop i.toNat = [] := List.drop_eq_nil_of_le (by omega)
    rw [e]
    unfold Fine at hf; simp only at hf
    rw [Int.emod_eq_of_lt (by omega) (by omega), or_join hi lo (by omega) (by omega) (by omega) (by omega)]
    rfl
  | succ d ih =>
    intro k i lo hi h0 h1 hk hf
    obtain ⟨k, rfl⟩ : ∃ m, k = m + 1 := ⟨k - 1, by omega⟩
    have hlt : i < (l.length : Int) := by omega
    have hr := rd_byte hb i h0 hlt
    simp only [sum_Go.l0]
    rw [if_pos hlt, if_pos h0, if_pos hlt, IntWalk.wrap64_in (i + 1) (by omega), rd_drop l i h0 hlt, run_cons]
    unfold Fine at hf; simp only at hf
    have e1 : ((lo + rd l i % 4294967296) % 4294967296) % 65521 = (lo + rd l i) % 65521 := by omega
    rw [e1]
    have e2 : ((hi + (lo + rd l i) % 65521) % 4294967296) % 65521 = (hi + (lo + rd l i) % 65521) % 65521 := by omega
    rw [e2]
    exact ih k (i + 1) _ _ (by omega) (by omega) (by omega) (fine_st (p := (lo, hi)) (rd l i))

theorem go_is (a : Int) (l : List Int) (h0 : 0 ≤ a) (h1 : a ≤ 4294967295) (hb : Bytes l) (hn : l.length ≤ 140737488351232) (k : Nat) (hk : l.length < k) :
    sum_Go.f k a l = some (G a l) := by
  unfold sum_Go.f G
  rw [parts_is a h0 h1, Option.bind_some]
  exact go_loop_is l hb hn l.length k 0 _ _ (by omega) (by omega) hk (fine_un a)

theorem of_is (l : List Int) (hb : Bytes l) (hn : l.length ≤ 140737488351232) (k : Nat) (hk : l.length < k) : sum_Of.f k l = some (G 1 l) := by
  unfold sum_Of.f
  rw [go_is 1 l (by omega) (by omega) hb hn k hk]; rfl

theorem ref_loop_is (l : List Int) (hb : Bytes l) (hn : l.length ≤ 140737488351232) (lo hi : Int) (hf : Fine (lo, hi)) : ∀ (d k : Nat) (i al wo : Int), 0 ≤ i → i + d = l.length → d < k → 0 ≤ al → al < 65521 → 0 ≤ wo → wo < 65521 →
    fairleadref01_Go.l0 k l lo hi (l.length : Int) al wo i = some (pk ((lo + al + S (l.drop i.toNat)) % 65521, (hi + (l.length : Int) * lo + wo + W (l.drop i.toNat)) % 65521)) := by
  unfold Fine at hf; simp only at hf
  intro d
  induction d with
  | zero =>
    intro k i al wo h0 h1 hk a0 a1 w0 w1
    obtain ⟨k, rfl⟩ : ∃ m, k = m + 1 := ⟨k - 1, by omega⟩
    simp only [fairleadref01_Go.l0]
    rw [if_neg (by omega)]
    have e : l.drop i.toNat = [] := List.drop_eq_nil_of_le (by omega)
    rw [e]
    simp only [S, W, Int.add_zero]
    rw [Int.tmod_eq_emod_of_nonneg (by omega : (0 : Int) ≤ (l.length : Int))]
    have m0 : 0 ≤ (l.length : Int) % 65521 ∧ (l.length : Int) % 65521 < 65521 := by omega
    have p0 : 0 ≤ (l.length : Int) % 65521 * lo := Int.mul_nonneg m0.1 hf.1
    have p1 : (l.length : Int) % 65521 * lo ≤ 65521 * 65521 := Int.mul_le_mul (by omega) (by omega) hf.1 (by omega)
    have e3 : ((l.length : Int) % 65521 * lo) % 65521 = ((l.length : Int) * lo) % 65521 := by
      have := worth_step (l.length : Int) 0 lo
      simpa using this
    generalize (l.length : Int) * lo = nl at *
    generalize (l.length : Int) % 65521 * lo = ml at *
    rw [u64_in' ml p0 (by omega), u64_in' (hi + ml) (by omega) (by omega), u64_in' (hi + ml + wo) (by omega) (by omega), Int.tmod_eq_emod_of_nonneg (by omega), u64_in' (lo + al) (by omega) (by omega), Int.tmod_eq_emod_of_nonneg (by omega)]
    have e4 : (hi + ml + wo) % 65521 = (hi + nl + wo) % 65521 := by omega
    rw [e4]
    have q0 : 0 ≤ (hi + nl + wo) % 65521 ∧ (hi + nl + wo) % 65521 < 65521 := by omega
    have q1 : 0 ≤ (lo + al) % 65521 ∧ (lo + al) % 65521 < 65521 := by omega
    generalize (hi + nl + wo) % 65521 = A at *
    generalize (lo + al) % 65521 = B at *
    rw [u64_in' (A * 65536) (by omega) (by omega), u64_in' (A * 65536 + B) (by omega) (by omega)]
    unfold pk
    have : (A * 65536 + B) % 4294967296 = A * 65536 + B := by omega
    rw [this]
  | succ d ih =>
    intro k i al wo h0 h1 hk a0 a1 w0 w1
    obtain ⟨k, rfl⟩ : ∃ m, k = m + 1 := ⟨k - 1, by omega⟩
    have hlt : i < (l.length : Int) := by omega
    have hr := rd_byte hb i h0 hlt
    simp only [fairleadref01_Go.l0]
    rw [if_pos hlt, if_pos h0, IntWalk.wrap64_in (i + 1) (by omega), rd_drop l i h0 hlt]
    have ln : (l.drop (i + 1).toNat).length = d := by rw [List.length_drop]; omega
    simp only [S, W, ln]
    have hd : (l.length : Int) - i = (d : Int) + 1 := by omega
    rw [u64_in' i (by omega) (by omega), u64_in' (rd l i) (by omega) (by omega), u64_in' ((l.length : Int) - i) (by omega) (by omega), Int.tmod_eq_emod_of_nonneg (by omega : (0 : Int) ≤ (l.length : Int) - i)]
    have e5 := worth_step (l.length : Int) i (rd l i)
    rw [hd] at e5 ⊢
    have m0 : 0 ≤ ((d : Int) + 1) % 65521 ∧ ((d : Int) + 1) % 65521 < 65521 := by omega
    have p0 : 0 ≤ ((d : Int) + 1) % 65521 * rd l i := Int.mul_nonneg m0.1 hr.1
    have p1 : ((d : Int) + 1) % 65521 * rd l i ≤ 65521 * 255 := Int.mul_le_mul (by omega) (by omega) hr.1 (by omega)
    generalize ((d : Int) + 1) * rd l i = nb at *
    generalize ((d : Int) + 1) % 65521 * rd l i = mb at *
    rw [u64_in' (al + rd l i) (by omega) (by omega), u64_in' mb p0 (by omega), u64_in' (wo + mb) (by omega) (by omega), Int.tmod_eq_emod_of_nonneg (by omega), Int.tmod_eq_emod_of_nonneg (by omega)]
    rw [ih k (i + 1) ((al + rd l i) % 65521) ((wo + mb) % 65521) (by omega) (by omega) (by omega) (by omega) (by omega) (by omega) (by omega)]
    generalize S _ = s
    generalize W _ = w
    generalize (l.length : Int) * lo = nl
    congr 2
    rw [Prod.mk.injEq]; constructor <;> omega

theorem ref_go_is (a : Int) (l : List Int) (h0 : 0 ≤ a) (h1 : a ≤ 4294967295) (hb : Bytes l) (hn : l.length ≤ 140737488351232) (k : Nat) (hk : l.length < k) :
    fairleadref01_Go.f k a l = some (G a l) := by
  unfold fairleadref01_Go.f G
  rw [Int.tmod_eq_emod_of_nonneg h0, u64_in' _ (by omega) (by omega), Int.tmod_eq_emod_of_nonneg (by omega), Int.tdiv_eq_ediv_of_nonneg h0, u64_in' _ (by omega) (by omega)]
  have e : a / 65536 % 4294967296 % 65521 = a / 65536 % 65521 := by omega
  rw [e, ref_loop_is l hb hn _ _ (fine_un a) l.length k 0 0 0 (by omega) (by omega) hk (by omega) (by omega) (by omega) (by omega)]
  rw [run_closed _ _ (fine_un a)]
  simp [un]

theorem ref_of_is (l : List Int) (hb : Bytes l) (hn : l.length ≤ 140737488351232) (k : Nat) (hk : l.length < k) : fairleadref01_Of.f k l = some (G 1 l) := by
  unfold fairleadref01_Of.f
  rw [ref_go_is 1 l (by omega) (by omega) hb hn k hk]; rfl

theorem bytes_append {a b : List Int} (h : Bytes a) (k : Bytes b) : Bytes (a ++ b) := fun x hx => by
  rcases List.mem_append.1 hx with h' | h'
  · exact h x h'
  · exact k x h'

end Go.Proofs.Ytpkgpapdmjapmaa.Pure
