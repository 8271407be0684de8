/- The pure statements of the Sum laws: what the printed functions answer is true. -/
import Derived.Test.YtoffjdomigofhaaFns2
import Derived.Test.YtoffjdomigofhaaSumMath
import Derived.OpenShut
namespace Go.Proofs.Ytoffjdomigofhaa.Pure
open Go.RowKit Go.Proofs.Ytoffjdomigofhaa.Fns Go.Proofs.YtoffjdomigofhaaW.PrintWords Go.Proofs.YtoffjdomigofhaaW.PrintLast Go.Proofs.Ytoffjdomigofhaa.SumMath

theorem bytes_of {l : List Int} (h : ∀ x ∈ l, (Lit.int .u8 x).wf = true) : Bytes l := fun x hx => bounds_u8 (h x hx)
theorem rd_drop (l : List Int) (i : Int) (h0 : 0 ≤ i) (h1 : i < l.length) : l.drop i.toNat = rd l i :: l.drop (i + 1).toNat := by
  have hi : i.toNat < l.length := by omega
  have e : (i + 1).toNat = i.toNat + 1 := by omega
  rw [List.drop_eq_getElem_cons hi, e]
  simp [rd, List.getD_eq_getElem?_getD, hi]
theorem rd_byte {l : List Int} (h : Bytes l) (i : Int) (h0 : 0 ≤ i) (h1 : i < l.length) : 0 ≤ rd l i ∧ rd l i ≤ 255 := by
  have hi : i.toNat < l.length := by omega
  have : rd l i = l[i.toNat] := by simp [rd, List.getD_eq_getElem?_getD, hi]
  rw [this]; exact h _ (List.getElem_mem hi)

theorem parts_is (a : Int) (h0 : 0 ≤ a) (h1 : a ≤ 4294967295) : sum_parts.f a = some (un a) := by
  unfold sum_parts.f un
  rw [and_low a h0 (by omega), Int.tmod_eq_emod_of_nonneg (by omega), Int.tmod_eq_emod_of_nonneg (by omega)]

theorem go_loop_is (l : List Int) (hb : Bytes l) (hn : l.length ≤ 140737488351232) : ∀ (d k : Nat) (i lo hi : Int), 0 ≤ i → i + d = l.length → d < k → Fine (lo, hi) →
    sum_Go.l0 k l lo hi (l.length : Int) i = some (pk (run (lo, hi) (l.drop i.toNat))) := by
  intro d
  induction d with
  | zero =>
    intro k i lo hi h0 h1 hk hf
    obtain ⟨k, rfl⟩ : ∃ m, k = m + 1 := ⟨k - 1, by omega⟩
    simp only [sum_Go.l0]
    rw [if_neg (by omega)]
    have e : l.drop i.toNat = [] := List.drop_eq_nil_of_le (by omega)
    rw [e]
    unfold Fine at hf; simp only at hf
    rw [Int.emod_eq_of_lt (by omega) (by omega), or_join hi lo (by omega) (by omega) (by omega) (by omega)]
    rfl
  | succ d ih =>
    intro k i lo hi h0 h1 hk hf
    obtain ⟨k, rfl⟩ : ∃ m, k = m + 1 := ⟨k - 1, by omega⟩
    have hlt : i < (l.length : Int) := by omega
    have hr := rd_byte hb i h0 hlt
    simp only [sum_Go.l0]
    rw [if_pos hlt, if_pos h0, if_pos hlt, IntWalk.wrap64_in (i + 1) (by omega), rd_drop l i h0 hlt, run_cons]
    unfold Fine at hf; simp only at hf
    have e1 : ((lo + rd l i % 4294967296) % 4294967296) % 65521 = (lo + rd l i) % 65521 := by omega
    rw [e1]
    have e2 : ((hi + (lo + rd l i) % 65521) % 4294967296) % 65521 = (hi + (lo + rd l i) % 65521) % 65521 := by omega
    rw [e2]
    exact ih k (i + 1) _ _ (by omega) (by omega) (by omega) (fine_st (p := (lo, hi)) (rd l i))

theorem go_is (a : Int) (l : List Int) (h0 : 0 ≤ a) (h1 : a ≤ 4294967295) (hb : Bytes l) (hn : l.length ≤ 140737488351232) (k : Nat) (hk : l.length < k) :
    sum_Go.f k a l = some (G a l) := by
  unfold sum_Go.f G
  rw [parts_is a h0 h1, Option.bind_some]
  exact go_loop_is l hb hn l.length k 0 _ _ (by omega) (by omega) hk (fine_un a)
theorem of_is (l : List Int) (hb : Bytes l) (hn : l.length ≤ 140737488351232) (k : Nat) (hk : l.length < k) : sum_Of.f k l = some (G 1 l) := by
  unfold sum_Of.f
  rw [go_is 1 l (by omega) (by omega) hb hn k hk]; rfl
theorem awake_is (k : Nat) (hk : 9 < k) : fairleadlaw01_awake.f k = some true := by
  unfold fairleadlaw01_awake.f
  rw [of_is _ (by unfold Bytes; decide) (by decide) k (by simpa using hk)]
  rfl

theorem ref_loop_is (l : List Int) (hb : Bytes l) (hn : l.length ≤ 140737488351232) (lo hi : Int) (hf : Fine (lo, hi)) : ∀ (d k : Nat) (i al wo : Int), 0 ≤ i → i + d = l.length → d < k → 0 ≤ al → al < 65521 → 0 ≤ wo → wo < 65521 →
    fairleadref01_Go.l0 k l lo hi (l.length : Int) al wo i = some (pk ((lo + al + S (l.drop i.toNat)) % 65521, (hi + (l.length : Int) * lo + wo + W (l.drop i.toNat)) % 65521)) := by
  unfold Fine at hf; simp only at hf
  intro d
  induction d with
  | zero =>
    intro k i al wo h0 h1 hk a0 a1 w0 w1
    obtain ⟨k, rfl⟩ : ∃ m, k = m + 1 := ⟨k - 1, by omega⟩
    simp only [fairleadref01_Go.l0]
    rw [if_neg (by omega)]
    have e : l.drop i.toNat = [] := List.drop_eq_nil_of_le (by omega)
    rw [e]
    simp only [S, W, Int.add_zero]
    rw [Int.tmod_eq_emod_of_nonneg (by omega : (0 : Int) ≤ (l.length : Int))]
    have m0 : 0 ≤ (l.length : Int) % 65521 ∧ (l.length : Int) % 65521 < 65521 := by omega
    have p0 : 0 ≤ (l.length : Int) % 65521 * lo := Int.mul_nonneg m0.1 hf.1
    have p1 : (l.length : Int) % 65521 * lo ≤ 65521 * 65521 := Int.mul_le_mul (by omega) (by omega) hf.1 (by omega)
    have e3 : ((l.length : Int) % 65521 * lo) % 65521 = ((l.length : Int) * lo) % 65521 := by
      have := worth_step (l.length : Int) 0 lo
      simpa using this
    generalize (l.length : Int) * lo = nl at *
    generalize (l.length : Int) % 65521 * lo = ml at *
    rw [u64_in' ml p0 (by omega), u64_in' (hi + ml) (by omega) (by omega), u64_in' (hi + ml + wo) (by omega) (by omega), Int.tmod_eq_emod_of_nonneg (by omega), u64_in' (lo + al) (by omega) (by omega), Int.tmod_eq_emod_of_nonneg (by omega)]
    have e4 : (hi + ml + wo) % 65521 = (hi + nl + wo) % 65521 := by omega
    rw [e4]
    have q0 : 0 ≤ (hi + nl + wo) % 65521 ∧ (hi + nl + wo) % 65521 < 65521 := by omega
    have q1 : 0 ≤ (lo + al) % 65521 ∧ (lo + al) % 65521 < 65521 := by omega
    generalize (hi + nl + wo) % 65521 = A at *
    generalize (lo + al) % 65521 = B at *
    rw [u64_in' (A * 65536) (by omega) (by omega), u64_in' (A * 65536 + B) (by omega) (by omega)]
    unfold pk
    have : (A * 65536 + B) % 4294967296 = A * 65536 + B := by omega
    rw [this]
  | succ d ih =>
    intro k i al wo h0 h1 hk a0 a1 w0 w1
    obtain ⟨k, rfl⟩ : ∃ m, k = m + 1 := ⟨k - 1, by omega⟩
    have hlt : i < (l.length : Int) := by omega
    have hr := rd_byte hb i h0 hlt
    simp only [fairleadref01_Go.l0]
    rw [if_pos hlt, if_pos h0, IntWalk.wrap64_in (i + 1) (by omega), rd_drop l i h0 hlt]
    have ln : (l.drop (i + 1).toNat).length = d := by rw [List.length_drop]; omega
    simp only [S, W, ln]
    have hd : (l.length : Int) - i = (d : Int) + 1 := by omega
    rw [u64_in' i (by omega) (by omega), u64_in' (rd l i) (by omega) (by omega), u64_in' ((l.length : Int) - i) (by omega) (by omega), Int.tmod_eq_emod_of_nonneg (by omega : (0 : Int) ≤ (l.length : Int) - i)]
    have e5 := worth_step (l.length : Int) i (rd l i)
    rw [hd] at e5 ⊢
    have m0 : 0 ≤ ((d : Int) + 1) % 65521 ∧ ((d : Int) + 1) % 65521 < 65521 := by omega
    have p0 : 0 ≤ ((d : Int) + 1) % 65521 * rd l i := Int.mul_nonneg m0.1 hr.1
    have p1 : ((d : Int) + 1) % 65521 * rd l i ≤ 65521 * 255 := Int.mul_le_mul (by omega) (by omega) hr.1 (by omega)
    generalize ((d : Int) + 1) * rd l i = nb at *
    generalize ((d : Int) + 1) % 65521 * rd l i = mb at *
    rw [u64_in' (al + rd l i) (by omega) (by omega), u64_in' mb p0 (by omega), u64_in' (wo + mb) (by omega) (by omega), Int.tmod_eq_emod_of_nonneg (by omega), Int.tmod_eq_emod_of_nonneg (by omega)]
    rw [ih k (i + 1) ((al + rd l i) % 65521) ((wo + mb) % 65521) (by omega) (by omega) (by omega) (by omega) (by omega) (by omega) (by omega)]
    generalize S _ = s
    generalize W _ = w
    generalize (l.length : Int) * lo = nl
    congr 2
    rw [Prod.mk.injEq]; constructor <;> omega

theorem ref_go_is (a : Int) (l : List Int) (h0 : 0 ≤ a) (h1 : a ≤ 4294967295) (hb : Bytes l) (hn : l.length ≤ 140737488351232) (k : Nat) (hk : l.length < k) :
    fairleadref01_Go.f k a l = some (G a l) := by
  unfold fairleadref01_Go.f G
  rw [Int.tmod_eq_emod_of_nonneg h0, u64_in' _ (by omega) (by omega), Int.tmod_eq_emod_of_nonneg (by omega), Int.tdiv_eq_ediv_of_nonneg h0, u64_in' _ (by omega) (by omega)]
  have e : a / 65536 % 4294967296 % 65521 = a / 65536 % 65521 := by omega
  rw [e, ref_loop_is l hb hn _ _ (fine_un a) l.length k 0 0 0 (by omega) (by omega) hk (by omega) (by omega) (by omega) (by omega)]
  rw [run_closed _ _ (fine_un a)]
  simp [un]
theorem ref_of_is (l : List Int) (hb : Bytes l) (hn : l.length ≤ 140737488351232) (k : Nat) (hk : l.length < k) : fairleadref01_Of.f k l = some (G 1 l) := by
  unfold fairleadref01_Of.f
  rw [ref_go_is 1 l (by omega) (by omega) hb hn k hk]; rfl

theorem SumTexts : fairleadlaw01_SumTexts.Pure := by
  intro l hm hn hw
  have hb := bytes_of hw
  refine ⟨l.length + 10, ?_⟩
  unfold fairleadlaw01_SumTexts.f
  rw [awake_is _ (by omega), Option.bind_some]
  split
  · rfl
  · rw [if_pos rfl, of_is l hb (by omega) _ (by omega), ref_of_is l hb (by omega) _ (by omega)]
    simp
theorem SumGoes : fairleadlaw01_SumGoes.Pure := by
  intro a l ha hm hn hw
  have hb := bytes_of hw
  have ha' := bounds_u32 ha
  refine ⟨l.length + 10, ?_⟩
  unfold fairleadlaw01_SumGoes.f
  rw [awake_is _ (by omega), Option.bind_some]
  split
  · rfl
  · rw [if_pos rfl, go_is a l ha'.1 ha'.2 hb (by omega) _ (by omega), ref_go_is a l ha'.1 ha'.2 hb (by omega) _ (by omega)]
    simp
theorem bytes_append {a b : List Int} (h : Bytes a) (k : Bytes b) : Bytes (a ++ b) := fun x hx => by
  rcases List.mem_append.1 hx with h' | h'
  · exact h x h'
  · exact k x h'
theorem SumParts : fairleadlaw01_SumParts.Pure := by
  intro a b hma hna hwa hmb hnb hwb
  have ha := bytes_of hwa
  have hb := bytes_of hwb
  refine ⟨a.length + b.length + 10 + 1, ?_⟩
  unfold fairleadlaw01_SumParts.f
  rw [awake_is _ (by omega), Option.bind_some]
  have key : a.length ≤ 20000 → b.length ≤ 20000 → fairleadlaw01_SumParts.j0 (a.length + b.length + 10 + 1) a b true false = some true := by
    intro h1 h2
    simp only [fairleadlaw01_SumParts.j0, Option.bind_some, List.nil_append, List.length_nil, Nat.zero_add]
    rw [if_neg (by simp), if_pos (by omega), if_pos (by omega), if_pos trivial, of_is a ha (by omega) _ (by omega), Option.bind_some,
      go_is (G 1 a) b (G_range 1 a).1 (by have := (G_range 1 a).2; omega) hb (by omega) _ (by omega), Option.bind_some,
      of_is (a ++ b) (bytes_append ha hb) (by rw [List.length_append]; omega) _ (by rw [List.length_append]; omega), Option.bind_some, G_append]
    simp
  by_cases h1 : (a.length : Int) > 20000
  · rw [if_pos h1]; rfl
  · rw [if_neg h1]
    by_cases h2 : (b.length : Int) > 20000
    · rw [decide_eq_true h2]; rfl
    · rw [decide_eq_false h2]
      exact key (by omega) (by omega)

theorem roll_is (s n o i : Int) (s0 : 0 ≤ s) (s1 : s ≤ 4294967295) (o0 : 0 ≤ o) (o1 : o ≤ 255) (i0 : 0 ≤ i) (i1 : i ≤ 255) :
    sum_Roll.f s n o i = some (pk (((un s).1 + i + 65521 - o) % 65521, ((un s).2 + ((un s).1 + i + 65521 - o) % 65521 + 131042 - 1 - ((if n < 0 ∨ 65521 ≤ n then 0 else n) * o) % 65521) % 65521)) := by
  have hf := fine_un s
  unfold Fine at hf
  unfold sum_Roll.f
  rw [parts_is s s0 s1]
  simp only [Option.bind_some]
  generalize (un s).1 = lo at *
  generalize (un s).2 = hi at *
  have e1 : ((((lo + i % 4294967296) % 4294967296 + 65521) % 4294967296 - o % 4294967296) % 4294967296) % 65521 = (lo + i + 65521 - o) % 65521 := by omega
  rw [e1]
  have hl : 0 ≤ (lo + i + 65521 - o) % 65521 ∧ (lo + i + 65521 - o) % 65521 < 65521 := by omega
  generalize (lo + i + 65521 - o) % 65521 = L at *
  have fin : ∀ g g' : Int, 0 ≤ g → g ≤ 65521 * 255 → g' = g % 65521 →
      Go.bits .or .u32 (((((((hi + L) % 4294967296 + 131042) % 4294967296 - 1) % 4294967296 - g') % 4294967296) % 65521) * 65536) L = pk (L, (hi + L + 131042 - 1 - g % 65521) % 65521) := by
    intro g g' g0 g1 hg
    subst hg
    rw [or_join _ L (by omega) (by omega) (by omega) (by omega)]
    unfold pk
    simp only
    omega
  by_cases h1 : n < 0
  · rw [if_pos h1, if_pos (.inl h1)]
    rw [fin 0 _ (by omega) (by omega) (by simp)]
    simp
  · rw [if_neg h1]
    by_cases h2 : n ≥ 65521
    · rw [if_pos h2, if_pos (.inr h2)]
      rw [fin 0 _ (by omega) (by omega) (by simp)]
      simp
    · rw [if_neg h2, if_neg (by omega)]
      have p0 : 0 ≤ n * o := Int.mul_nonneg (by omega) o0
      have p1 : n * o ≤ 65521 * 255 := Int.mul_le_mul (by omega) (by omega) o0 (by omega)
      have en : n % 4294967296 = n := by omega
      have eo : o % 4294967296 = o := by omega
      rw [fin (n * o) _ p0 p1 (by rw [en, eo]; omega)]

theorem SumWindow : fairleadlaw01_SumWindow.Pure := by
  intro l c hm hn hw hc
  have hb := bytes_of hw
  have hc' := bounds_u8 hc
  refine ⟨l.length + 10 + 1, ?_⟩
  unfold fairleadlaw01_SumWindow.f
  rw [awake_is _ (by omega), Option.bind_some]
  have key : 1 ≤ l.length → l.length ≤ 20000 → fairleadlaw01_SumWindow.j0 (l.length + 10 + 1) l c true false = some true := by
    intro h1 h2
    obtain ⟨x, t, rfl⟩ : ∃ x t, l = x :: t := by
      cases l with
      | nil => simp at h1
      | cons x t => exact ⟨x, t, rfl⟩
    have hx := hb x (by simp)
    have ht : Bytes t := fun y hy => hb y (by simp [hy])
    simp only [List.length_cons] at h1 h2
    simp only [fairleadlaw01_SumWindow.j0, Option.bind_some, List.nil_append, List.length_nil, Nat.zero_add, List.drop_succ_cons, List.drop_zero]
    rw [if_neg (by simp), if_pos (by simp only [List.length_cons]; omega), if_pos (by omega), if_pos (by omega), if_pos trivial, of_is (x :: t) hb (by simp only [List.length_cons]; omega) _ (by omega), Option.bind_some, if_pos (by simp only [List.length_cons]; omega)]
    have er : rd (x :: t) 0 = x := rfl
    have gr := G_range 1 (x :: t)
    rw [er, roll_is _ _ x c gr.1 (by omega) hx.1 hx.2 hc'.1 hc'.2, Option.bind_some,
      of_is (t ++ [c]) (bytes_append ht (fun y hy => by simp at hy; subst hy; exact hc')) (by rw [List.length_append]; simp; omega) _ (by rw [List.length_append]; simp), Option.bind_some]
    have e1 : un (G 1 (x :: t)) = run (1, 0) (x :: t) := un_pk (fine_run _ _ (fine_un _))
    have e2 : G 1 (t ++ [c]) = pk (run (1, 0) (t ++ [c])) := rfl
    rw [e1, e2, G_roll x t c]
    rw [if_neg (by simp only [List.length_cons]; omega)]
    simp
  by_cases h1 : (l.length : Int) = 0
  · rw [if_pos h1]; rfl
  · rw [if_neg h1]
    by_cases h2 : (l.length : Int) > 20000
    · rw [decide_eq_true h2]; rfl
    · rw [decide_eq_false h2]
      exact key (by omega) (by omega)

theorem ref_fin (hi L : Int) (h0 : 0 ≤ hi) (h1 : hi < 65521) (l0 : 0 ≤ L) (l1 : L < 65521) (g : Int) (g0 : 0 ≤ g) (g1 : g ≤ 65521 * 255) :
    IntKind.u64.wrap (IntKind.u64.wrap (Int.tmod (IntKind.u64.wrap (hi + L + 65521 - 1 + 65521 - Int.tmod (IntKind.u64.wrap g) 65521)) 65521 * 65536) + L) % 4294967296 = pk (L, (hi + L + 131042 - 1 - g % 65521) % 65521) := by
  rw [u64_in' g g0 (by omega), Int.tmod_eq_emod_of_nonneg g0, u64_in' (hi + L + 65521 - 1 + 65521 - g % 65521) (by omega) (by omega), Int.tmod_eq_emod_of_nonneg (by omega)]
  have eA : (hi + L + 65521 - 1 + 65521 - g % 65521) % 65521 = (hi + L + 131042 - 1 - g % 65521) % 65521 := by omega
  rw [eA]
  have qA : 0 ≤ (hi + L + 131042 - 1 - g % 65521) % 65521 ∧ (hi + L + 131042 - 1 - g % 65521) % 65521 < 65521 := by omega
  clear eA
  generalize (hi + L + 131042 - 1 - g % 65521) % 65521 = A at *
  rw [u64_in' (A * 65536) (by omega) (by omega), u64_in' (A * 65536 + L) (by omega) (by omega)]
  unfold pk
  simp only
  omega

set_option maxHeartbeats 1000000 in
theorem ref_roll_is (s n o i : Int) (s0 : 0 ≤ s) (s1 : s ≤ 4294967295) (o0 : 0 ≤ o) (o1 : o ≤ 255) (i0 : 0 ≤ i) (i1 : i ≤ 255) :
    fairleadref01_Roll.f s n o i = some (pk (((un s).1 + i + 65521 - o) % 65521, ((un s).2 + ((un s).1 + i + 65521 - o) % 65521 + 131042 - 1 - ((if n < 0 ∨ 65521 ≤ n then 0 else n) * o) % 65521) % 65521)) := by
  have hf := fine_un s
  unfold Fine at hf
  unfold fairleadref01_Roll.f
  rw [Int.tmod_eq_emod_of_nonneg s0, u64_in' (s % 65536) (by omega) (by omega), Int.tmod_eq_emod_of_nonneg (by omega : 0 ≤ s % 65536), Int.tdiv_eq_ediv_of_nonneg s0]
  have e : s / 65536 % 4294967296 % 65521 = s / 65536 % 65521 := by omega
  rw [e]
  have ea : s % 65536 % 65521 = (un s).1 := rfl
  have eb : s / 65536 % 65521 = (un s).2 := rfl
  rw [ea, eb]
  generalize (un s).1 = lo at *
  generalize (un s).2 = hi at *
  rw [u64_in' i i0 (by omega), u64_in' o o0 (by omega), u64_in' (lo + i) (by omega) (by omega), u64_in' (lo + i + 65521) (by omega) (by omega), u64_in' (lo + i + 65521 - o) (by omega) (by omega), Int.tmod_eq_emod_of_nonneg (by omega : 0 ≤ lo + i + 65521 - o)]
  have hl : 0 ≤ (lo + i + 65521 - o) % 65521 ∧ (lo + i + 65521 - o) % 65521 < 65521 := by omega
  generalize (lo + i + 65521 - o) % 65521 = L at *
  rw [u64_in' (hi + L) (by omega) (by omega), u64_in' (hi + L + 65521) (by omega) (by omega), u64_in' (hi + L + 65521 - 1) (by omega) (by omega), u64_in' (hi + L + 65521 - 1 + 65521) (by omega) (by omega)]
  have fin := ref_fin hi L (by omega) (by omega) hl.1 hl.2
  by_cases h1 : n < 0
  · rw [if_pos h1, if_pos (.inl h1)]
    have z : (0 : Int) * o = 0 := Int.zero_mul o
    rw [z]
    have := fin 0 (by omega) (by omega)
    rw [this]
  · rw [if_neg h1]
    by_cases h2 : n ≥ 65521
    · rw [if_pos h2, if_pos (.inr h2)]
      have z : (0 : Int) * o = 0 := Int.zero_mul o
      rw [z, fin 0 (by omega) (by omega)]
    · rw [if_neg h2, if_neg (by omega)]
      have p0 : 0 ≤ n * o := Int.mul_nonneg (by omega) o0
      have p1 : n * o ≤ 65521 * 255 := Int.mul_le_mul (by omega) (by omega) o0 (by omega)
      rw [u64_in' n (by omega) (by omega), fin (n * o) p0 p1]
end Go.Proofs.Ytoffjdomigofhaa.Pure
