/- Part of the proof of TopVerdictSaid. -/
import Derived.Test.YtidnojkijfinaaaQTpLawC
namespace Go.Proofs.Ytidnojkijfinaaa.Fns
open Go.RowKit Go.Proofs.YtidnojkijfinaaaW.PrintWords Go.Proofs.YtidnojkijfinaaaW.PrintLast Go.Proofs.YtidnojkijfinaaaW.PrintMore
set_option linter.unusedVariables false
set_option linter.unusedSimpArgs false
theorem act_right_total (a b : Int) : ∃ r, act_Right.f a b = some r := by
  have h : ∀ k, ∃ r, act_bears.f k = some r := by
    intro k
    unfold act_bears.f
    repeat' split
    all_goals exact ⟨_, rfl⟩
  unfold act_Right.f
  repeat' split
  all_goals first
    | exact ⟨_, rfl⟩
    | (obtain ⟨r, hr⟩ := h a; exact ⟨r, by rw [hr]; rfl⟩)
theorem lex_is_total (s : ByteArray) : ∃ r, lex_Is.f s = some r := by
  have h : ∀ k, ∃ r, lex_small.f k = some r := by
    intro k
    unfold lex_small.f
    split <;> exact ⟨_, rfl⟩
  have hsz : s.toList = [] ∨ 0 < s.size := by
    by_cases h : s.size = 0
    · left
      have := ByteArray.size_eq_zero_iff.1 h
      rw [this, toList_data]
      rfl
    · right; omega
  unfold lex_Is.f
  split
  · exact ⟨_, rfl⟩
  · rename_i hn
    have : 0 < s.size := hsz.resolve_left hn
    rw [if_pos (by omega)]
    obtain ⟨r, hr⟩ := h (wrap32 (bt s 0))
    rw [hr, Option.bind_some]
    split
    · exact ⟨_, rfl⟩
    · exact ⟨_, rfl⟩
theorem right_dec (c : S98) : cond_Right.f c.f0 c.f1 c.f2 c.f3 = some (decide (0 ≤ c.f0 ∧ c.f0 ≤ 5 ∧ 1 ≤ c.f1 ∧ c.f1 ≤ 6)) := by
  unfold cond_Right.f
  repeat' split
  all_goals (congr 1; rw [eq_comm]; first | (apply decide_eq_false; omega) | (rw [decide_eq_decide]; omega))
theorem fine_l1 (cs : List S98) (hm : cs.length ≤ 100) : ∀ (d i k : Nat), i + d = cs.length → d < k → ∃ r, show_fine.l1 k cs (cs.length : Int) (i : Int) = some r ∧ (r = true → ∀ c ∈ cs.drop i, 0 ≤ c.f0 ∧ c.f0 ≤ 5 ∧ 1 ≤ c.f1 ∧ c.f1 ≤ 6)
  | 0, i, k, h, hk => by
    obtain ⟨k, rfl⟩ : ∃ m, k = m + 1 := ⟨k - 1, by omega⟩
    refine ⟨true, by rw [show_fine.l1, if_neg (by omega)], fun _ c hc => ?_⟩
    rw [List.drop_eq_nil_of_le (by omega)] at hc
    cases hc
  | d + 1, i, k, h, hk => by
    obtain ⟨k, rfl⟩ : ∃ m, k = m + 1 := ⟨k - 1, by omega⟩
    have hlt : i < cs.length := by omega
    obtain ⟨r, h1, h2⟩ := fine_l1 cs hm d (i + 1) k (by omega) (by omega)
    have e1 : rd_T98 cs (i : Int) = cs[i] := by simp [rd_T98, List.getD_eq_getElem?_getD, hlt]
    rw [show_fine.l1, if_pos (by omega), if_pos (by omega), if_pos (by omega), e1, right_dec, Option.bind_some, show wrap64 ((i : Int) + 1) = ((i + 1 : Nat) : Int) by rw [IntWalk.wrap64_in _ (by omega)]; rfl]
    by_cases hc : 0 ≤ cs[i].f0 ∧ cs[i].f0 ≤ 5 ∧ 1 ≤ cs[i].f1 ∧ cs[i].f1 ≤ 6
    · rw [if_pos (decide_eq_true hc)]
      refine ⟨r, h1, fun hr c hcm => ?_⟩
      rw [List.drop_eq_getElem_cons hlt] at hcm
      rcases List.mem_cons.1 hcm with rfl | hcm
      · exact hc
      · exact h2 hr c hcm
    · rw [if_neg (by rw [decide_eq_true_iff]; exact hc)]
      exact ⟨false, rfl, fun h => by cases h⟩
theorem fine_l0 (ns : List ByteArray) (cs : List S98) (a b : Int) (hm : ns.length ≤ 100) (hm2 : cs.length ≤ 100) : ∀ (d i k : Nat), i + d = ns.length → d + cs.length + 1 < k → ∃ r, show_fine.l0 k ns (ns.length : Int) (i : Int) a b ns cs = some r ∧ (r = true → ∀ c ∈ cs, 0 ≤ c.f0 ∧ c.f0 ≤ 5 ∧ 1 ≤ c.f1 ∧ c.f1 ≤ 6)
  | 0, i, k, h, hk => by
    obtain ⟨k, rfl⟩ : ∃ m, k = m + 1 := ⟨k - 1, by omega⟩
    obtain ⟨r, h1, h2⟩ := fine_l1 cs hm2 cs.length 0 k (by omega) (by omega)
    rw [show_fine.l0, if_neg (by omega)]
    exact ⟨r, h1, fun hr c hc => h2 hr c (by simpa using hc)⟩
  | d + 1, i, k, h, hk => by
    obtain ⟨k, rfl⟩ : ∃ m, k = m + 1 := ⟨k - 1, by omega⟩
    obtain ⟨r, h1, h2⟩ := fine_l0 ns cs a b hm hm2 d (i + 1) k (by omega) (by omega)
    obtain ⟨q, hq⟩ := lex_is_total (rdOf ByteArray.empty ns (i : Int))
    rw [show_fine.l0, if_pos (by omega), if_pos (by omega), if_pos (by omega), hq, Option.bind_some, show wrap64 ((i : Int) + 1) = ((i + 1 : Nat) : Int) by rw [IntWalk.wrap64_in _ (by omega)]; rfl]
    cases q with
    | true => rw [if_pos rfl]; exact ⟨r, h1, h2⟩
    | false => rw [if_neg Bool.false_ne_true]; exact ⟨false, rfl, fun h => by cases h⟩
theorem fine_total (a b : Int) (ns : List ByteArray) (cs : List S98) (hm : ns.length ≤ 20) (hm2 : cs.length ≤ 20) (k : Nat) (hk : 50 ≤ k) :
    ∃ r, show_fine.f k a b ns cs = some r ∧ (r = true → act_Right.f a b = some true ∧ ns.length ≤ 16 ∧ cs.length ≤ 8 ∧ ∀ c ∈ cs, 0 ≤ c.f0 ∧ c.f0 ≤ 5 ∧ 1 ≤ c.f1 ∧ c.f1 ≤ 6) := by
  obtain ⟨k, rfl⟩ : ∃ m, k = m + 1 := ⟨k - 1, by omega⟩
  obtain ⟨q, hq⟩ := act_right_total a b
  have hj : show_fine.j0 (k + 1) true a b ns cs = some false := by rw [show_fine.j0, if_pos rfl]
  unfold show_fine.f
  rw [hq, Option.bind_some]
  cases q with
  | false => rw [if_neg Bool.false_ne_true]; exact ⟨false, hj, fun h => by cases h⟩
  | true =>
    rw [if_pos rfl]
    split
    · exact ⟨false, hj, fun h => by cases h⟩
    · split
      · exact ⟨false, hj, fun h => by cases h⟩
      · by_cases h8 : (cs.length : Int) > 8
        · rw [decide_eq_true h8]
          exact ⟨false, hj, fun h => by cases h⟩
        · rw [decide_eq_false h8, show_fine.j0, if_neg Bool.false_ne_true]
          obtain ⟨r, h1, h2⟩ := fine_l0 ns cs a b (by omega) (by omega) ns.length 0 k (by omega) (by omega)
          exact ⟨r, h1, fun hr => ⟨rfl, by omega, by omega, h2 hr⟩⟩
structure RulesIn (rs : List S72) : Prop where
  few : rs.length ≤ 65
  names : ∀ r ∈ rs, r.f1.length ≤ 20
  conds : ∀ r ∈ rs, r.f2.length ≤ 20
  vals : ∀ r ∈ rs, ∀ c ∈ r.f2, U64 c.f2 ∧ U64 c.f3
theorem right_loop (rs : List S72) (hi : RulesIn rs) (dk da : Int) : ∀ (d i k : Nat), i + d = rs.length → d + 51 < k → ∃ r, show_Right.l0 k rs (rs.length : Int) (i : Int) dk da rs = some r ∧
    (r = true → act_Right.f dk da = some true ∧ rs.length ≤ 64 ∧ ∀ r ∈ rs.drop i, act_Right.f r.f0.f0 r.f0.f1 = some true ∧ r.f1.length ≤ 16 ∧ r.f2.length ≤ 8 ∧ ∀ c ∈ r.f2, 0 ≤ c.f0 ∧ c.f0 ≤ 5 ∧ 1 ≤ c.f1 ∧ c.f1 ≤ 6)
  | 0, i, k, h, hk => by
    obtain ⟨k, rfl⟩ : ∃ m, k = m + 1 := ⟨k - 1, by omega⟩
    obtain ⟨q, hq⟩ := act_right_total dk da
    rw [show_Right.l0, if_neg (by omega), hq, Option.bind_some]
    cases q with
    | false => rw [if_neg Bool.false_ne_true]; exact ⟨false, rfl, fun h => by cases h⟩
    | true =>
      rw [if_pos rfl]
      refine ⟨_, rfl, fun hr => ⟨rfl, by rw [decide_eq_true_iff] at hr; omega, fun r hc => ?_⟩⟩
      rw [List.drop_eq_nil_of_le (by omega)] at hc
      cases hc
  | d + 1, i, k, h, hk => by
    obtain ⟨k, rfl⟩ : ∃ m, k = m + 1 := ⟨k - 1, by omega⟩
    have hlt : i < rs.length := by omega
    have hf := hi.few
    obtain ⟨r, h1, h2⟩ := right_loop rs hi dk da d (i + 1) k (by omega) (by omega)
    have e1 : rd_T72 rs (i : Int) = rs[i] := by simp [rd_T72, List.getD_eq_getElem?_getD, hlt]
    have hm := List.getElem_mem hlt
    obtain ⟨q, hq, hq2⟩ := fine_total rs[i].f0.f0 rs[i].f0.f1 rs[i].f1 rs[i].f2 (hi.names _ hm) (hi.conds _ hm) k (by omega)
    rw [show_Right.l0, if_pos (by omega), if_pos (by omega), if_pos (by omega), e1, hq, Option.bind_some, show wrap64 ((i : Int) + 1) = ((i + 1 : Nat) : Int) by rw [IntWalk.wrap64_in _ (by omega)]; rfl]
    cases q with
    | true =>
      rw [if_pos rfl]
      refine ⟨r, h1, fun hr => ?_⟩
      obtain ⟨a1, a2, a3⟩ := h2 hr
      refine ⟨a1, a2, fun c hcm => ?_⟩
      rw [List.drop_eq_getElem_cons hlt] at hcm
      rcases List.mem_cons.1 hcm with rfl | hcm
      · exact hq2 rfl
      · exact a3 c hcm
    | false => rw [if_neg Bool.false_ne_true]; exact ⟨false, rfl, fun h => by cases h⟩
theorem check_loop (rs : List S72) (hf : rs.length ≤ 65) : ∀ (d i k : Nat), i + d = rs.length → d < k → ∃ ce at_, mean_Check.l0 k rs (rs.length : Int) (i : Int) = some (ce, at_) ∧ (ce = 0 → at_ = -1)
  | 0, i, k, h, hk => by
    obtain ⟨k, rfl⟩ : ∃ m, k = m + 1 := ⟨k - 1, by omega⟩
    exact ⟨0, -1, by rw [mean_Check.l0, if_neg (by omega)], fun _ => rfl⟩
  | d + 1, i, k, h, hk => by
    obtain ⟨k, rfl⟩ : ∃ m, k = m + 1 := ⟨k - 1, by omega⟩
    have hlt : i < rs.length := by omega
    obtain ⟨ce, at_, h1, h2⟩ := check_loop rs hf d (i + 1) k (by omega) (by omega)
    have e1 : rd_T72 rs (i : Int) = rs[i] := by simp [rd_T72, List.getD_eq_getElem?_getD, hlt]
    rw [mean_Check.l0, if_pos (by omega), if_pos (by omega), if_pos (by omega), e1, show mean_wrong.f rs[i].f1 = some (wrongL rs[i].f1 [] 0) from rfl, Option.bind_some, show wrap64 ((i : Int) + 1) = ((i + 1 : Nat) : Int) by rw [IntWalk.wrap64_in _ (by omega)]; rfl]
    by_cases h0 : wrongL rs[i].f1 [] 0 = 0
    · rw [if_pos h0]
      exact ⟨ce, at_, h1, h2⟩
    · rw [if_neg h0]
      exact ⟨_, _, rfl, fun h => absurd h h0⟩
structure RulesOk (dk da : Int) (rs : List S72) : Prop where
  dflt : ActOk ⟨dk, da⟩
  few : rs.length ≤ 64
  rule : ∀ r ∈ rs, RuleOk r
theorem check_total (dk da : Int) (rs : List S72) (hi : RulesIn rs) : ∃ ce at_, mean_Check.f 150 dk da rs = some (ce, at_) ∧ (ce = 0 → at_ = -1 ∧ RulesOk dk da rs) := by
  have hf := hi.few
  obtain ⟨r, h1, h2⟩ := right_loop rs hi dk da rs.length 0 150 (by omega) (by omega)
  unfold mean_Check.f
  rw [show show_Right.f 150 dk da rs = some r from h1, Option.bind_some]
  cases r with
  | false => rw [if_neg Bool.false_ne_true]; exact ⟨1, -1, rfl, fun h => by cases h⟩
  | true =>
    rw [if_pos rfl]
    obtain ⟨ce, at_, c1, c2⟩ := check_loop rs hf rs.length 0 150 (by omega) (by omega)
    obtain ⟨a1, a2, a3⟩ := h2 rfl
    refine ⟨ce, at_, c1, fun h => ⟨c2 h, a1, a2, fun r hr => ?_⟩⟩
    obtain ⟨b1, b2, b3, b4⟩ := a3 r (by simpa using hr)
    refine ⟨b1, b2, b3, fun c hc => ?_⟩
    obtain ⟨q1, q2, q3, q4⟩ := b4 c hc
    obtain ⟨v1, v2⟩ := hi.vals r hr c hc
    exact ⟨q1, q2, q3, q4, v1, v2⟩
section
variable {nrs : List Int} {ls : List (List S84)} {other : Int} (H : PlanOk nrs ls other)
include H
theorem leaf_is (i : Nat) (hi : i < nrs.length) : compile_plan_leaf.f nrs ls (i : Int) = some (leafC (nrs.getD i 0) (ls.getD i [])) := by
  obtain ⟨b1, b2, b3, c, hc⟩ := H.leaf _ (getD_mem ls i [] (by rw [H.len]; omega))
  have e1 : rd_L17 ls (i : Int) = ls.getD i [] := by unfold rd_L17; rw [Int.toNat_natCast]
  have e2 : rd nrs (i : Int) = nrs.getD i 0 := by unfold rd; rw [Int.toNat_natCast]
  have hl := H.len
  unfold compile_plan_leaf.f
  rw [e1, e2]
  generalize ls.getD i [] = b at *
  subst hc
  simp only [List.length_append, List.length_singleton] at b1 b2
  have e3 : wrap64 (((c ++ [(⟨6, 0, 0, other⟩ : S84)]).length : Int) - 1) = (c.length : Int) := by
    rw [IntWalk.wrap64_in _ (by simp only [List.length_append, List.length_singleton]; omega)]
    simp only [List.length_append, List.length_singleton]
    omega
  have e4 : (c.length : Int) % 4294967296 = (c.length : Int) := by omega
  have e5 : (c ++ [(⟨6, 0, 0, other⟩ : S84)]).length = c.length + 1 := by simp
  have e6 : rd_T84 (c ++ [(⟨6, 0, 0, other⟩ : S84)]) (c.length : Int) = ⟨6, 0, 0, other⟩ := by simp [rd_T84, List.getD_eq_getElem?_getD]
  have e7 : (c ++ [(⟨6, 0, 0, other⟩ : S84)]).take (c.length : Int).toNat = c := by simp
  rw [e3, e4, e6, e7]
  rw [if_pos (show (0 : Int) ≤ (i : Int) by omega), if_pos (show (i : Int) < (ls.length : Int) by omega), if_pos (show (0 : Int) ≤ (c.length : Int) by omega), if_pos (show (c.length : Int) < ((c ++ [(⟨6, 0, 0, other⟩ : S84)]).length : Int) by rw [e5]; omega),
    if_pos (show (i : Int) < (nrs.length : Int) by omega), Option.bind_some, if_pos (show (c.length : Int) ≤ ((c ++ [(⟨6, 0, 0, other⟩ : S84)]).length : Int) by rw [e5]; omega), Option.bind_some,
    if_pos (show [(⟨21, 1, 0, nrs.getD i 0⟩ : S84), ⟨5, 0, 0, (c.length : Int)⟩].length + c.length < 17592186044416 by simp only [List.length_cons, List.length_nil]; omega), Option.bind_some, Option.bind_some]
  rw [if_pos (by simp only [List.length_append, List.length_cons, List.length_nil]; omega)]
  unfold leafC
  rw [e5]
  simp
theorem part_is : ∀ k i j K, i < j → j ≤ nrs.length → j - i ≤ k → k + 4 ≤ K → compile_plan_part.f K nrs ls (i : Int) (j : Int) = some (partC nrs ls k i j) := by
  intro k
  induction k with
  | zero => intro i j K h1 h2 h3; omega
  | succ k ih =>
    intro i j K h1 h2 h3 hK
    have hf := H.few
    obtain ⟨K, rfl⟩ : ∃ m, K = m + 3 + 1 := ⟨K - 4, by omega⟩
    have e1 : wrap64 ((j : Int) - (i : Int)) = ((j - i : Nat) : Int) := by rw [IntWalk.wrap64_in _ (by omega)]; omega
    have e2 : wrap64 (Int.tdiv ((j - i : Nat) : Int) 2) = (((j - i) / 2 : Nat) : Int) := by
      rw [Int.tdiv_eq_ediv_of_nonneg (by omega), IntWalk.wrap64_in _ (by omega)]; omega
    have e3 : wrap64 ((i : Int) + (((j - i) / 2 : Nat) : Int)) = ((i + (j - i) / 2 : Nat) : Int) := by rw [IntWalk.wrap64_in _ (by omega)]; omega
    rw [compile_plan_part.f, e1]
    unfold partC
    by_cases h1' : j - i = 1
    · rw [if_pos (by omega), if_pos h1', leaf_is H i (by omega)]
      rfl
    · rw [if_neg (by omega), if_neg h1', e2, e3]
      have a1 := part_len H k i (i + (j - i) / 2) (by omega) (by omega) (by omega)
      have a2 := part_len H k (i + (j - i) / 2) j (by omega) (by omega) (by omega)
      rw [ih i (i + (j - i) / 2) (K + 3) (by omega) (by omega) (by omega) (by omega), Option.bind_some, ih (i + (j - i) / 2) j (K + 3) (by omega) (by omega) (by omega) (by omega), Option.bind_some, Option.bind_some]
      have e5 : rd nrs ((i + (j - i) / 2 : Nat) : Int) = nrs.getD (i + (j - i) / 2) 0 := by unfold rd; rw [Int.toNat_natCast]
      rw [if_pos (by omega), if_pos (by omega), e5]
      generalize partC nrs ls k i (i + (j - i) / 2) = x at a1 ⊢
      generalize partC nrs ls k (i + (j - i) / 2) j = y at a2 ⊢
      have e6 : rd_L17 [x, y] 0 = x := rfl
      have e7 : rd_L17 [x, y] 1 = y := rfl
      have e8 : (x.length : Int) % 4294967296 = (x.length : Int) := by omega
      rw [if_pos (show (0 : Int) < (([x, y] : List (List S84)).length : Int) by simp only [List.length_cons, List.length_nil]; omega), e6, e8]
      rw [compile_plan_part.l0, if_pos (show (0 : Int) < (([x, y] : List (List S84)).length : Int) by simp only [List.length_cons, List.length_nil]; omega), if_pos (Int.le_refl 0), if_pos (show (0 : Int) < (([x, y] : List (List S84)).length : Int) by simp only [List.length_cons, List.length_nil]; omega), e6, if_pos (by simp only [List.length_cons, List.length_nil]; omega)]
      rw [show wrap64 (0 + 1) = 1 from IntWalk.wrap64_in _ (by decide)]
      rw [compile_plan_part.l0, if_pos (show (1 : Int) < (([x, y] : List (List S84)).length : Int) by simp only [List.length_cons, List.length_nil]; omega), if_pos (show (0 : Int) ≤ 1 by decide), if_pos (show (1 : Int) < (([x, y] : List (List S84)).length : Int) by simp only [List.length_cons, List.length_nil]; omega), e7, if_pos (by simp only [List.length_append, List.length_cons, List.length_nil]; omega)]
      rw [show wrap64 (1 + 1) = 2 from IntWalk.wrap64_in _ (by decide)]
      rw [compile_plan_part.l0, if_neg (show ¬ (2 : Int) < (([x, y] : List (List S84)).length : Int) by simp only [List.length_cons, List.length_nil]; omega)]
      simp
end
end Go.Proofs.Ytidnojkijfinaaa.Fns
