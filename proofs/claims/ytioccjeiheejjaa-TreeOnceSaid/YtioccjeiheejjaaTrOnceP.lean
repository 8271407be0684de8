/- Each place but the first is a middle just once: the plain law. -/
import Derived.Test.YtioccjeiheejjaaTrPure
namespace Go.Proofs.Ytioccjeiheejjaa.Tree
open Go.RowKit Go.Proofs.YtioccjeiheejjaaW.PrintWords Go.Proofs.YtioccjeiheejjaaW.PrintLast Go.Proofs.YtioccjeiheejjaaW.PrintMore Go.Proofs.Ytioccjeiheejjaa.Fns
set_option linter.unusedVariables false
set_option linter.unusedSimpArgs false

theorem mids_app (a b : List (Int × Int)) : mids (a ++ b) = mids a ++ mids b := by unfold mids; rw [List.filter_append, List.map_append]
theorem mids_one (f t : Nat) (h : t - f = 1) : mids [((f : Int), (t : Int))] = [] := by
  have : decide ((1 : Int) < (t : Int) - (f : Int)) = false := decide_eq_false (by omega)
  simp [mids, this]
theorem mids_cons (f t : Nat) (h : 1 < t - f) (ps : List (Int × Int)) : mids (((f : Int), (t : Int)) :: ps) = ((f + (t - f) / 2 : Nat) : Int) :: mids ps := by
  have hd : decide ((1 : Int) < (t : Int) - (f : Int)) = true := decide_eq_true (by omega)
  unfold mids
  rw [List.filter_cons, if_pos hd, List.map_cons]
  congr 1
  simp only
  omega
theorem mids_once : ∀ (d f t : Nat), t - f ≤ d → f < t → (∀ x ∈ mids (parts d f t), (f : Int) < x ∧ x < (t : Int)) ∧ (mids (parts d f t)).Nodup ∧ (mids (parts d f t)).length = t - f - 1
  | 0, f, t, h1, h2 => by omega
  | d + 1, f, t, h1, h2 => by
    rw [parts, if_neg (by omega)]
    by_cases h : t - f = 1
    · rw [if_pos h, mids_one f t h]
      exact ⟨fun x hx => by simp at hx, List.nodup_nil, by simp; omega⟩
    · rw [if_neg h, mids_cons f t (by omega), mids_app]
      obtain ⟨m, hm⟩ : ∃ m, f + (t - f) / 2 = m := ⟨_, rfl⟩
      rw [hm]
      obtain ⟨a1, a2, a3⟩ := mids_once d f m (by omega) (by omega)
      obtain ⟨b1, b2, b3⟩ := mids_once d m t (by omega) (by omega)
      refine ⟨fun x hx => ?_, ?_, ?_⟩
      · rcases List.mem_cons.1 hx with rfl | hx
        · omega
        · rcases List.mem_append.1 hx with hx | hx
          · have := a1 x hx; omega
          · have := b1 x hx; omega
      · rw [List.nodup_cons]
        refine ⟨fun hx => ?_, List.nodup_append.2 ⟨a2, b2, fun x hx y hy e => ?_⟩⟩
        · rcases List.mem_append.1 hx with hx | hx
          · have := a1 _ hx; omega
          · have := b1 _ hx; omega
        · have := a1 x hx
          have := b1 y hy
          omega
      · rw [List.length_cons, List.length_append, a3, b3]
        omega
/-- which places have been seen when k middles have been read. -/
def seenL (n : Nat) (M : List Int) (k : Nat) : List Bool := (List.range n).map (fun (j : Nat) => decide ((j : Int) ∈ M.take k))
theorem seenL_len (n : Nat) (M : List Int) (k : Nat) : (seenL n M k).length = n := by simp [seenL]
theorem seenL_zero (n : Nat) (M : List Int) : seenL n M 0 = List.replicate n false := by
  unfold seenL
  refine List.ext_getElem (by simp) (fun i h1 h2 => ?_)
  simp
theorem rd_mem (M : List Int) (k : Nat) (h : k < M.length) : rd M (k : Int) = M[k] := by simp [rd, List.getD_eq_getElem?_getD, h]
theorem seenL_not (n : Nat) (M : List Int) (hM : M.Nodup) (k : Nat) (hk : k < M.length) (x : Int) (hx : rd M (k : Int) = x) (h0 : 0 ≤ x) (h1 : x < (n : Int)) : rdOf false (seenL n M k) x = false := by
  rw [rd_mem M k hk] at hx
  have hi : x.toNat < n := by omega
  have e : ((x.toNat : Nat) : Int) = x := by omega
  simp only [rdOf, List.getD_eq_getElem?_getD, seenL, List.getElem?_map, List.getElem?_range hi, Option.map_some, Option.getD_some, e]
  refine decide_eq_false fun hm => ?_
  obtain ⟨j, hj, hj2⟩ := List.mem_iff_getElem.1 hm
  rw [List.length_take] at hj
  rw [List.getElem_take] at hj2
  rw [← hx] at hj2
  exact List.pairwise_iff_getElem.1 hM j k (by omega) hk (by omega) hj2
theorem seenL_set (n : Nat) (M : List Int) (k : Nat) (hk : k < M.length) (x : Int) (hx : rd M (k : Int) = x) (h0 : 0 ≤ x) (h1 : x < (n : Int)) : (seenL n M k).set x.toNat true = seenL n M (k + 1) := by
  rw [rd_mem M k hk] at hx
  refine List.ext_getElem (by simp [seenL]) (fun i h1 h2 => ?_)
  simp only [seenL, List.length_set, List.length_map, List.length_range] at h1
  rw [List.getElem_set]
  by_cases e : x.toNat = i
  · rw [if_pos e]
    simp only [seenL, List.getElem_map, List.getElem_range]
    symm
    refine decide_eq_true ?_
    rw [List.take_succ_eq_append_getElem hk, hx, List.mem_append]
    exact .inr (by simp; omega)
  · rw [if_neg e]
    simp only [seenL, List.getElem_map, List.getElem_range]
    refine decide_eq_decide.2 ?_
    rw [List.take_succ_eq_append_getElem hk, hx, List.mem_append]
    constructor
    · exact fun h => .inl h
    · rintro (h | h)
      · exact h
      · simp at h; omega
end Go.Proofs.Ytioccjeiheejjaa.Tree
