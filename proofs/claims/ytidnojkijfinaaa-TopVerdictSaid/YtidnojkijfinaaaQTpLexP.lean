/- Part of the proof of TopVerdictSaid. -/
import Derived.Test.YtidnojkijfinaaaQTpParse
namespace Go.Proofs.Ytidnojkijfinaaa.Fns
open Go.RowKit Go.Proofs.YtidnojkijfinaaaW.PrintWords Go.Proofs.YtidnojkijfinaaaW.PrintLast Go.Proofs.YtidnojkijfinaaaW.PrintMore
set_option linter.unusedVariables false
set_option linter.unusedSimpArgs false
theorem lengthAt_le (s : ByteArray) : ∀ d pos, lengthAt s d pos ≤ s.size
  | 0, _ => Nat.le_refl _
  | d + 1, pos => by
    unfold lengthAt
    split
    · split
      · exact lengthAt_le s d _
      · omega
    · exact Nat.le_refl _
theorem lengthAt_ge (s : ByteArray) : ∀ d pos, min pos s.size ≤ lengthAt s d pos
  | 0, pos => Nat.min_le_right _ _
  | d + 1, pos => by
    unfold lengthAt
    split
    · split
      · have := lengthAt_ge s d (pos + (Utf8.decode s pos).2)
        omega
      · omega
    · omega
theorem blankAt_le (s : ByteArray) : ∀ d pos note, blankAt s d pos note ≤ s.size
  | 0, _, _ => Nat.le_refl _
  | d + 1, pos, note => by
    unfold blankAt
    split
    · split
      · exact blankAt_le s d _ _
      · split
        · exact blankAt_le s d _ _
        · split
          · exact blankAt_le s d _ _
          · omega
    · exact Nat.le_refl _
theorem bt_zero (s : ByteArray) (h : 0 < s.size) : bt s 0 = ((s[0]'h).toNat : Int) := by simp [bt, h]
theorem length_pos (s : ByteArray) (h : 0 < s.size) (hl : bt s 0 < 128) (hg : goesB (bt s 0) = true) : 1 ≤ lengthAt s s.size 0 := by
  obtain ⟨d, hd⟩ : ∃ d, s.size = d + 1 := ⟨s.size - 1, by omega⟩
  have hdec := decode_ascii s 0 h (by rw [bt_zero s h] at hl; omega)
  rw [show lengthAt s s.size 0 = lengthAt s (d + 1) 0 by rw [← hd]]
  unfold lengthAt
  rw [if_pos h, hdec]
  simp only
  rw [← bt_zero s h, if_pos hg]
  have := lengthAt_ge s d (0 + 1)
  omega
theorem sign_total (s : ByteArray) (h : 0 < s.size) : ∃ r, lex_sign.f 2 s = some r ∧ r ≤ s.size := by
  have hi : (0 : Int) < (s.size : Int) := by omega
  have hj : ∀ b, ∃ r, lex_sign.j1 1 s b = some r ∧ (b = false → r ≤ 1) ∧ r ≤ 2 := by
    intro b
    cases b with
    | true => exact ⟨2, by simp [lex_sign.j1], by simp, by omega⟩
    | false =>
      simp only [lex_sign.j1, Bool.false_eq_true, if_false, if_pos hi]
      split
      · exact ⟨0, rfl, by omega, by omega⟩
      · split
        · exact ⟨0, rfl, by omega, by omega⟩
        · exact ⟨1, rfl, by omega, by omega⟩
  have hk : ∀ x b, ∃ r, lex_sign.j0 2 s x b = some r ∧ r ≤ s.size := by
    intro x b
    simp only [lex_sign.j0]
    split
    · split
      · rename_i h1
        obtain ⟨r, h1, h2, h3⟩ := hj (bt s 1 == 61)
        exact ⟨r, h1, by omega⟩
      · obtain ⟨r, h1, h2, h3⟩ := hj false
        exact ⟨r, h1, by have := h2 rfl; omega⟩
    · split
      · exact ⟨1, rfl, by omega⟩
      · split
        · exact ⟨1, rfl, by omega⟩
        · split
          · exact ⟨1, rfl, by omega⟩
          · exact ⟨0, rfl, by omega⟩
  unfold lex_sign.f
  rw [if_pos hi]
  split
  · exact hk _ _
  · split
    · exact hk _ _
    · split
      · exact hk _ _
      · exact hk _ _
theorem number_total (s : ByteArray) : ∃ n b, lex_number.f s = some (n, b) := by
  have h : ∀ o, ∃ n b, numR o = some (n, b) := fun o => by cases o <;> exact ⟨_, _, rfl⟩
  unfold lex_number.f
  split
  · split
    · exact ⟨_, _, rfl⟩
    · exact h _
  · exact h _
theorem extract_size (s : ByteArray) (n : Nat) (h : n ≤ s.size) : (s.extract 0 n).size = n := by
  simp [ByteArray.size_extract]; omega
theorem one_total (s : ByteArray) (h : 0 < s.size) : ∃ o1 o2 o3 o4 o5, lex_one.f 2 s = some (o1, o2, o3, o4, o5) ∧ (o5 = 0 → 1 ≤ o3.size ∧ o3.size ≤ s.size ∧ (o1 = 1 ∨ o1 = 2 ∨ o1 = 3)) ∧ (o5 = 0 ∨ o5 = 5 ∨ o5 = 6) := by
  have hi : (0 : Int) < (s.size : Int) := by omega
  have hr := bt_range s 0
  have hw : wrap32 (bt s 0) = bt s 0 := by rw [IntWalk.wrap32_in _ (by omega)]
  have hle := lengthAt_le s s.size 0
  have hsm : lex_small.f (bt s 0) = some (smallB (bt s 0)) := by
    unfold lex_small.f smallB
    split
    · rename_i h1; simp [h1]
    · rename_i h1; simp; omega
  have hdg : lex_digit.f (bt s 0) = some (digitB (bt s 0)) := by
    unfold lex_digit.f digitB
    split
    · rename_i h1; simp [h1]
    · rename_i h1; simp; omega
  unfold lex_one.f
  rw [if_pos hi, hw, hsm, hdg]
  unfold lex_length.f
  simp only [Option.bind_some]
  cases c1 : smallB (bt s 0) with
  | true =>
    rw [if_pos rfl, if_pos (by omega), if_pos (by omega)]
    have hp := length_pos s h (by simp [smallB] at c1; omega) (by simp [goesB, c1])
    exact ⟨_, _, _, _, _, rfl, fun _ => ⟨by rw [Int.toNat_natCast, extract_size _ _ hle]; exact hp, by rw [Int.toNat_natCast, extract_size _ _ hle]; exact hle, .inl rfl⟩, .inl rfl⟩
  | false =>
    rw [if_neg (by simp)]
    cases c2 : digitB (bt s 0) with
    | true =>
      rw [if_pos rfl, if_pos (by omega), if_pos (by omega)]
      have hp := length_pos s h (by simp [digitB] at c2; omega) (by simp [goesB, c2])
      obtain ⟨n, b, hn⟩ := number_total (s.extract 0 ((lengthAt s s.size 0 : Nat) : Int).toNat)
      rw [hn]
      simp only [Option.bind_some]
      cases b with
      | true =>
        rw [if_pos rfl]
        exact ⟨_, _, _, _, _, rfl, fun _ => ⟨by rw [Int.toNat_natCast, extract_size _ _ hle]; exact hp, by rw [Int.toNat_natCast, extract_size _ _ hle]; exact hle, .inr (.inl rfl)⟩, .inl rfl⟩
      | false =>
        rw [if_neg (by simp)]
        exact ⟨_, _, _, _, _, rfl, fun h => by omega, .inr (.inr rfl)⟩
    | false =>
      rw [if_neg (by simp)]
      obtain ⟨r, hr, hr2⟩ := sign_total s h
      rw [hr]
      simp only [Option.bind_some]
      by_cases c3 : r > 0
      · rw [if_pos c3, if_pos (by omega), if_pos hr2]
        exact ⟨_, _, _, _, _, rfl, fun _ => ⟨by rw [extract_size _ _ (by omega)]; omega, by rw [extract_size _ _ (by omega)]; omega, .inr (.inr rfl)⟩, .inl rfl⟩
      · rw [if_neg c3]
        exact ⟨_, _, _, _, _, rfl, fun h => by omega, .inr (.inl rfl)⟩
theorem one_ge (s : ByteArray) {r : Int × Int × ByteArray × Int × Int} (h : lex_one.f 2 s = some r) : ∀ k, lex_one.f (k + 2) s = some r
  | 0 => h
  | k + 1 => lex_one.mono s (k + 2) r (one_ge s h k)
theorem blank_some (s : ByteArray) (a : Nat) : ∃ t : Nat, lex_blank.f (s.extract a s.size) = some (t : Int) ∧ t ≤ s.size - a := by
  refine ⟨_, rfl, ?_⟩
  have h := blankAt_le (s.extract a s.size) (s.extract a s.size).size 0 false
  have hs : (s.extract a s.size).size = s.size - a := by rw [ByteArray.size_extract, Nat.min_self]
  exact Nat.le_trans h (Nat.le_of_eq hs)
theorem all_yes (k : Nat) (s : ByteArray) (xs : List S68) (x t : Nat) (o1 o2 : Int) (o3 : ByteArray) (o4 : Int) (hs : s.size ≤ 8192) (hx : x < s.size) (ho : lex_one.f k (s.extract x s.size) = some (o1, o2, o3, o4, 0)) (h3 : x + o3.size ≤ s.size)
    (hb : lex_blank.f (s.extract (x + o3.size) s.size) = some (t : Int)) (ht : x + o3.size + t ≤ s.size) (hl : xs.length ≤ 9000) :
    lex_All.l0 (k + 1) s xs (x : Int) = lex_All.l0 k s (xs ++ [(⟨o1, (x : Int), o3, o4⟩ : S68)]) ((x + o3.size + t : Nat) : Int) := by
  have hw : wrap64 ((x : Int) + (o3.size : Int)) = ((x + o3.size : Nat) : Int) := by rw [IntWalk.wrap64_in _ (by omega)]; omega
  have hw2 : wrap64 (((x + o3.size : Nat) : Int) + (t : Int)) = ((x + o3.size + t : Nat) : Int) := by rw [IntWalk.wrap64_in _ (by omega)]; omega
  rw [lex_All.l0, if_pos (show (x : Int) < (s.size : Int) by omega), if_pos (show (0 : Int) ≤ (x : Int) by omega), if_pos (show (x : Int) ≤ (s.size : Int) by omega), Int.toNat_natCast, ho, Option.bind_some]
  dsimp only
  rw [if_pos rfl, if_pos (show xs.length < 3518437208883 by omega), hw, if_pos (show (0 : Int) ≤ ((x + o3.size : Nat) : Int) by omega), if_pos (show ((x + o3.size : Nat) : Int) ≤ (s.size : Int) by omega), Int.toNat_natCast, hb, Option.bind_some, hw2]
theorem all_no (k : Nat) (s : ByteArray) (xs : List S68) (x : Nat) (o1 o2 : Int) (o3 : ByteArray) (o4 o5 : Int) (hx : x < s.size) (ho : lex_one.f k (s.extract x s.size) = some (o1, o2, o3, o4, o5)) (h5 : o5 ≠ 0) :
    lex_All.l0 (k + 1) s xs (x : Int) = some ([], o5, (x : Int)) := by
  rw [lex_All.l0, if_pos (show (x : Int) < (s.size : Int) by omega), if_pos (show (0 : Int) ≤ (x : Int) by omega), if_pos (show (x : Int) ≤ (s.size : Int) by omega), Int.toNat_natCast, ho, Option.bind_some]
  dsimp only
  rw [if_neg h5]
theorem all_end (k : Nat) (s : ByteArray) (xs : List S68) (x : Nat) (hx : ¬ x < s.size) (hl : xs.length ≤ 9000) :
    lex_All.l0 (k + 1) s xs (x : Int) = some (xs ++ [(⟨4, (s.size : Int), (⟨#[]⟩ : ByteArray), 0⟩ : S68)], 0, (-1)) := by
  rw [lex_All.l0, if_neg (show ¬ (x : Int) < (s.size : Int) by omega), if_pos (show xs.length < 3518437208883 by omega)]
theorem end_ok (s : ByteArray) (xs : List S68) (hl : xs.length ≤ 8192) : TokOk (xs ++ [(⟨4, (s.size : Int), (⟨#[]⟩ : ByteArray), 0⟩ : S68)]) := ⟨by simp, by simp; omega, fun h => by simp⟩
theorem all_total (s : ByteArray) (hs : s.size ≤ 8192) : ∀ (m x : Nat) (xs : List S68), s.size - x ≤ m → x ≤ s.size → xs.length ≤ x →
    ∃ toks er at_, lex_All.l0 (m + 3) s xs (x : Int) = some (toks, er, at_) ∧ (er = 0 → TokOk toks) ∧ (er = 0 ∨ er = 5 ∨ er = 6) := by
  intro m
  induction m with
  | zero =>
    intro x xs hm hx hl
    exact ⟨_, _, _, all_end 2 s xs x (by omega) (by omega), fun _ => end_ok s xs (by omega), .inl rfl⟩
  | succ m ih =>
    intro x xs hm hx hl
    by_cases c1 : x < s.size
    · have hsz : (s.extract x s.size).size = s.size - x := by rw [ByteArray.size_extract, Nat.min_self]
      obtain ⟨o1, o2, o3, o4, o5, ho, hok, he⟩ := one_total _ (show 0 < (s.extract x s.size).size by omega)
      have h2 := one_ge _ ho (m + 1)
      by_cases c5 : o5 = 0
      · obtain ⟨k1, k2, k3⟩ := hok c5
        subst c5
        rw [hsz] at k2
        obtain ⟨t, hb, ht⟩ := blank_some s (x + o3.size)
        have := all_yes (m + 3) s xs x t o1 o2 o3 o4 hs c1 h2 (by omega) hb (by omega) (by omega)
        obtain ⟨toks, er, at_, q1, q2, q3⟩ := ih (x + o3.size + t) (xs ++ [(⟨o1, (x : Int), o3, o4⟩ : S68)]) (by omega) (by omega) (by rw [List.length_append, List.length_singleton]; omega)
        exact ⟨toks, er, at_, this.trans q1, q2, q3⟩
      · exact ⟨_, _, _, all_no (m + 3) s xs x o1 o2 o3 o4 o5 c1 h2 c5, fun h => absurd h c5, he⟩
    · exact ⟨_, _, _, all_end (m + 3) s xs x c1 (by omega), fun _ => end_ok s xs (by omega), .inl rfl⟩
theorem lex_total (s : ByteArray) : ∃ k toks er at_, lex_All.f k s = some (toks, er, at_) ∧ (er = 0 → TokOk toks) := by
  unfold lex_All.f
  by_cases c : (s.size : Int) > 8192
  · exact ⟨0, [], 4, 0, by rw [if_pos c], fun h => by omega⟩
  · have hb := blankAt_le s s.size 0 false
    obtain ⟨toks, er, at_, h1, h2, _⟩ := all_total s (by omega) s.size (blankAt s s.size 0 false) [] (by omega) hb (by simp)
    refine ⟨s.size + 3, toks, er, at_, ?_, h2⟩
    rw [if_neg c]
    unfold lex_blank.f
    simp only [Option.bind_some]
    exact h1
end Go.Proofs.Ytidnojkijfinaaa.Fns
