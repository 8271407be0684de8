/- Rising lists, the path of a number, how deep: closed forms. -/
import Derived.Test.YtioccjeiheejjaaTrAwake
namespace Go.Proofs.Ytioccjeiheejjaa.Tree
open Go.RowKit Go.Proofs.YtioccjeiheejjaaW.PrintWords Go.Proofs.YtioccjeiheejjaaW.PrintLast Go.Proofs.YtioccjeiheejjaaW.PrintMore Go.Proofs.Ytioccjeiheejjaa.Fns
set_option linter.unusedVariables false
set_option linter.unusedSimpArgs false

def risesAt (l : List Int) : Nat → Nat → Bool
  | 0, _ => true
  | d + 1, i => if 0 < i ∧ rd l (i : Int) ≤ rd l ((i : Int) - 1) then false else risesAt l d (i + 1)
def risesB (l : List Int) : Bool := risesAt l l.length 0
theorem tree_loop (l : List Int) (hl : l.length ≤ 1000000) : ∀ (d k i : Nat), i + d = l.length → d < k → tree_rises.l0 k l (l.length : Int) (i : Int) = some (risesAt l d i)
  | 0, k + 1, i, hd, _ => by
    simp only [tree_rises.l0, risesAt]
    rw [if_neg (by omega)]
  | d + 1, k + 1, i, hd, hk => by
    have ih := tree_loop l hl d k (i + 1) (by omega) (by omega)
    rw [show ((i + 1 : Nat) : Int) = (i : Int) + 1 by omega] at ih
    simp only [tree_rises.l0, risesAt]
    rw [if_pos (by omega), IntWalk.wrap64_in ((i : Int) + 1) (by omega), ih]
    by_cases h0 : 0 < i
    · rw [if_pos (by omega), if_pos (by omega), if_pos (by omega), IntWalk.wrap64_in ((i : Int) - 1) (by omega), if_pos (by omega), if_pos (by omega)]
      by_cases h1 : rd l (i : Int) ≤ rd l ((i : Int) - 1)
      · rw [if_pos h1, if_pos ⟨h0, h1⟩]
      · rw [if_neg h1, if_neg (fun h => h1 h.2)]
    · rw [if_neg (by omega), if_neg (fun h => h0 h.1)]
theorem tree_rises_is (l : List Int) (hl : l.length ≤ 1000000) (k : Nat) (hk : l.length < k) : tree_rises.f k l = some (risesB l) := by
  unfold tree_rises.f risesB
  exact tree_loop l hl l.length k 0 (by omega) hk
theorem ref_loop (l : List Int) (hl : l.length ≤ 1000000) : ∀ (d k i : Nat), 0 < i → i + d = l.length → d < k → fairleadref13_Rises.l0 k l (i : Int) = some (risesAt l d i)
  | 0, k + 1, i, _, hd, _ => by
    simp only [fairleadref13_Rises.l0, risesAt]
    rw [if_neg (by omega)]
  | d + 1, k + 1, i, h0, hd, hk => by
    have ih := ref_loop l hl d k (i + 1) (by omega) (by omega) (by omega)
    rw [show ((i + 1 : Nat) : Int) = (i : Int) + 1 by omega] at ih
    simp only [fairleadref13_Rises.l0, risesAt]
    rw [if_pos (by omega), IntWalk.wrap64_in ((i : Int) + 1) (by omega), ih, if_pos (by omega), IntWalk.wrap64_in ((i : Int) - 1) (by omega), if_pos (by omega), if_pos (by omega)]
    by_cases h1 : rd l (i : Int) ≤ rd l ((i : Int) - 1)
    · rw [if_pos h1, if_pos ⟨h0, h1⟩]
    · rw [if_neg h1, if_neg (fun h => h1 h.2)]
theorem ref_rises_is (l : List Int) (hl : l.length ≤ 1000000) (k : Nat) (hk : l.length < k) : fairleadref13_Rises.f k l = some (risesB l) := by
  unfold fairleadref13_Rises.f risesB
  cases hn : l.length with
  | zero =>
    obtain ⟨k, rfl⟩ : ∃ m, k = m + 1 := ⟨k - 1, by omega⟩
    simp only [fairleadref13_Rises.l0, risesAt]
    rw [if_neg (by omega)]
  | succ n =>
    have := ref_loop l hl n k 1 (by omega) (by omega) (by omega)
    rw [show ((1 : Nat) : Int) = 1 from rfl] at this
    rw [this, risesAt, if_neg (by omega)]

def pathL (l : List Int) (n : Int) : Nat → Nat → Nat → List Int
  | 0, f, _ => [(f : Int)]
  | d + 1, f, t => if 1 < t - f then ((f + (t - f) / 2 : Nat) : Int) :: (if rd l ((f + (t - f) / 2 : Nat) : Int) ≤ n then pathL l n d (f + (t - f) / 2) t else pathL l n d f (f + (t - f) / 2)) else [(f : Int)]
def pathB (l : List Int) (n : Int) : List Int := if l.length = 0 then [] else if 4096 < l.length then [] else if risesB l then pathL l n l.length 0 l.length else []
theorem mid_is (f t : Nat) (h : f ≤ t) (ht : t ≤ 1000000) : wrap64 ((f : Int) + (wrap64 (Int.tdiv (wrap64 ((t : Int) - (f : Int))) 2))) = ((f + (t - f) / 2 : Nat) : Int) := by
  rw [IntWalk.wrap64_in ((t : Int) - (f : Int)) (by omega), Int.tdiv_eq_ediv_of_nonneg (by omega), IntWalk.wrap64_in (((t : Int) - (f : Int)) / 2) (by omega), IntWalk.wrap64_in _ (by omega)]
  omega
theorem path_loop (l : List Int) (n : Int) (hl : l.length ≤ 5000) : ∀ (d k f t : Nat) (acc : List Int), t - f ≤ d + 1 → f < t → t ≤ l.length → d < k → acc.length + d ≤ 10000 →
    tree_Path.l0 k l n acc (f : Int) (t : Int) = some (acc ++ pathL l n d f t) ∧ fairleadref13_Path.l0 k l n acc (f : Int) (t : Int) = some (acc ++ pathL l n d f t)
  | 0, k + 1, f, t, acc, h1, h2, h3, _, h4 => by
    have e : wrap64 ((t : Int) - (f : Int)) = (t : Int) - (f : Int) := IntWalk.wrap64_in _ (by omega)
    simp only [tree_Path.l0, fairleadref13_Path.l0, pathL]
    rw [e]
    refine ⟨?_, ?_⟩
    · rw [if_neg (by omega), if_pos (by omega)]
    · rw [if_neg (by omega), if_pos (by omega)]
  | d + 1, k + 1, f, t, acc, h1, h2, h3, hk, h4 => by
    have e : wrap64 ((t : Int) - (f : Int)) = (t : Int) - (f : Int) := IntWalk.wrap64_in _ (by omega)
    have em := mid_is f t (by omega) (by omega)
    simp only [tree_Path.l0, fairleadref13_Path.l0, pathL, tree_middle.f, Option.bind_some]
    rw [em, e]
    by_cases hm : 1 < t - f
    · obtain ⟨m, hmm⟩ : ∃ m, f + (t - f) / 2 = m := ⟨_, rfl⟩
      have hm1 : f < m := by omega
      have hm2 : m < t := by omega
      rw [hmm, if_pos hm]
      by_cases hr : rd l (m : Int) ≤ n
      · have := path_loop l n hl d k m t (acc ++ [(m : Int)]) (by omega) (by omega) h3 (by omega) (by simp; omega)
        rw [List.append_assoc] at this
        refine ⟨?_, ?_⟩
        · rw [if_pos (by omega), if_pos (by omega), if_pos (by omega), if_pos (by omega), if_pos hr, if_pos hr]
          exact this.1
        · rw [if_pos (by omega), if_pos (by omega), if_pos (by omega), if_pos (by omega), if_pos hr, if_pos hr]
          exact this.2
      · have := path_loop l n hl d k f m (acc ++ [(m : Int)]) (by omega) (by omega) (by omega) (by omega) (by simp; omega)
        rw [List.append_assoc] at this
        refine ⟨?_, ?_⟩
        · rw [if_pos (by omega), if_pos (by omega), if_pos (by omega), if_pos (by omega), if_neg hr, if_neg hr]
          exact this.1
        · rw [if_pos (by omega), if_pos (by omega), if_pos (by omega), if_pos (by omega), if_neg hr, if_neg hr]
          exact this.2
    · rw [if_neg hm]
      refine ⟨?_, ?_⟩
      · rw [if_neg (by omega), if_pos (by omega)]
      · rw [if_neg (by omega), if_pos (by omega)]
theorem path_is (l : List Int) (n : Int) (k : Nat) (hk : 5010 < k) : tree_Path.f k l n = some (pathB l n) ∧ fairleadref13_Path.f k l n = some (pathB l n) := by
  obtain ⟨k, rfl⟩ : ∃ m, k = m + 1 := ⟨k - 1, by omega⟩
  unfold tree_Path.f fairleadref13_Path.f pathB
  by_cases h0 : l.length = 0
  · rw [if_pos h0]
    simp only [tree_Path.j0, fairleadref13_Path.j0]
    refine ⟨?_, ?_⟩
    · rw [if_pos (by omega)]; rfl
    · rw [if_pos (by omega)]; rfl
  · rw [if_neg h0]
    by_cases h1 : 4096 < l.length
    · rw [if_pos h1]
      simp only [tree_Path.j0, fairleadref13_Path.j0]
      refine ⟨?_, ?_⟩
      · rw [if_neg (by omega), if_pos (by omega)]; rfl
      · rw [if_neg (by omega), if_pos (by omega)]; rfl
    · rw [if_neg h1, tree_rises_is l (by omega) (k + 1) (by omega), ref_rises_is l (by omega) (k + 1) (by omega)]
      simp only [Option.bind_some]
      cases hr : risesB l with
      | false =>
        simp only [tree_Path.j0, fairleadref13_Path.j0]
        refine ⟨?_, ?_⟩
        · rw [if_neg (by omega), if_neg (by omega)]; rfl
        · rw [if_neg (by omega), if_neg (by omega)]; rfl
      | true =>
        have := path_loop l n (by omega) l.length k 0 l.length [] (by omega) (by omega) (by omega) (by omega) (by simp; omega)
        simp only [tree_Path.j0, fairleadref13_Path.j0]
        refine ⟨?_, ?_⟩
        · rw [if_neg (by omega), if_neg (by omega)]; exact this.1
        · rw [if_neg (by omega), if_neg (by omega)]; exact this.2
def deepL (s : Int) : Nat → Nat → Int
  | 0, i => (i : Int)
  | d + 1, i => if (2 : Int) ^ i < s then deepL s d (i + 1) else (i : Int)
theorem shl_pow : ∀ i : Fin 62, shl .i64 1 ((i.val : Nat) : Int) = (2 : Int) ^ i.val := by decide
theorem pow_bound : ∀ i : Fin 62, (0 : Int) ≤ (2 : Int) ^ i.val * 2 ∧ (2 : Int) ^ i.val * 2 ≤ 9223372036854775807 := by decide
theorem pow_wrap (i : Nat) (h : i < 62) : wrap64 ((2 : Int) ^ i * 2) = (2 : Int) ^ (i + 1) := by
  have := pow_bound ⟨i, h⟩
  simp only at this
  rw [IntWalk.wrap64_in _ (by omega), Int.pow_succ]
theorem deep_loop (s : Int) : ∀ (d k i : Nat), i + d = 62 → d < k → tree_Deep.l0 k s (i : Int) = some (deepL s d i) ∧ fairleadref13_Deep.l0 k s ((2 : Int) ^ i) (i : Int) = some (deepL s d i)
  | 0, k + 1, i, hd, _ => by
    simp only [tree_Deep.l0, fairleadref13_Deep.l0, deepL]
    rw [if_neg (by omega), if_neg (by omega)]
    exact ⟨rfl, by congr 1; omega⟩
  | d + 1, k + 1, i, hd, hk => by
    have ih := deep_loop s d k (i + 1) (by omega) (by omega)
    rw [show ((i + 1 : Nat) : Int) = (i : Int) + 1 by omega] at ih
    simp only [tree_Deep.l0, fairleadref13_Deep.l0, deepL]
    have e1 : shl .i64 1 (i : Int) = (2 : Int) ^ i := shl_pow ⟨i, by omega⟩
    rw [e1, pow_wrap i (by omega), IntWalk.wrap64_in ((i : Int) + 1) (by omega)]
    by_cases h : (2 : Int) ^ i < s
    · refine ⟨?_, ?_⟩
      · rw [if_pos (by omega), if_pos (by omega), if_pos h, if_pos h]; exact ih.1
      · rw [if_pos (by omega), if_neg (by omega), if_pos h]; exact ih.2
    · refine ⟨?_, ?_⟩
      · rw [if_pos (by omega), if_pos (by omega), if_neg h, if_neg h]
      · rw [if_pos (by omega), if_pos (by omega), if_neg h]
theorem deep_is (s : Int) : tree_Deep.f 100 s = some (deepL s 62 0) ∧ fairleadref13_Deep.f 100 s = some (deepL s 62 0) := deep_loop s 62 100 0 (by omega) (by omega)
theorem same_loop (l : List Int) (hl : l.length ≤ 1000000) : ∀ (d k i : Nat), i + d = l.length → d < k → fairleadlaw13_same.l0 k l l (i : Int) = some true
  | 0, k + 1, i, hd, _ => by
    simp only [fairleadlaw13_same.l0]
    rw [if_neg (by omega)]
  | d + 1, k + 1, i, hd, hk => by
    simp only [fairleadlaw13_same.l0]
    rw [if_pos (by omega), if_pos (by omega), if_pos (by omega), if_pos trivial, IntWalk.wrap64_in _ (by omega)]
    exact same_loop l hl d k (i + 1) (by omega) (by omega)
theorem same_is (l : List Int) (hl : l.length ≤ 1000000) (k : Nat) (hk : l.length < k) : fairleadlaw13_same.f k l l = some true := by
  unfold fairleadlaw13_same.f
  rw [if_pos rfl]
  exact same_loop l hl l.length k 0 (by omega) hk
theorem pathL_len (l : List Int) (n : Int) : ∀ (d f t : Nat), (pathL l n d f t).length ≤ d + 1
  | 0, f, t => by simp [pathL]
  | d + 1, f, t => by
    rw [pathL]
    split
    · rw [List.length_cons]
      split
      · have := pathL_len l n d (f + (t - f) / 2) t; omega
      · have := pathL_len l n d f (f + (t - f) / 2); omega
    · simp
theorem pathB_len (l : List Int) (n : Int) : (pathB l n).length ≤ 4097 := by
  unfold pathB
  split
  · simp
  · split
    · simp
    · split
      · have := pathL_len l n l.length 0 l.length; omega
      · simp
end Go.Proofs.Ytioccjeiheejjaa.Tree
