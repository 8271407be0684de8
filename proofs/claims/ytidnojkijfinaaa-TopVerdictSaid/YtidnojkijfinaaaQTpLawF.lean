/- Part of the proof of TopVerdictSaid. -/
import Derived.Test.YtidnojkijfinaaaQTpLexP
import Derived.Test.YtidnojkijfinaaaQTpLawE
namespace Go.Proofs.Ytidnojkijfinaaa.Fns
open Go.RowKit Go.Proofs.YtidnojkijfinaaaW.PrintWords Go.Proofs.YtidnojkijfinaaaW.PrintLast Go.Proofs.YtidnojkijfinaaaW.PrintMore
set_option linter.unusedVariables false
set_option linter.unusedSimpArgs false
theorem numAt_u64 (s : ByteArray) (base : Int) (hb : 2 ≤ base) : ∀ (d pos : Nat) (n r : Int), U64 n → numAt s base d pos n = some r → U64 r
  | 0, _, n, r, hn, h => by
    unfold numAt at h
    injection h with h
    rw [← h]; exact hn
  | d + 1, pos, n, r, hn, h => by
    unfold numAt at h
    have hw := worthI_range ((Utf8.decode s pos).1 : Int) (by omega)
    generalize worthI ((Utf8.decode s pos).1 : Int) = x at hw h
    split at h
    · split at h
      · cases h
      · rename_i hc
        refine numAt_u64 s base hb d _ _ r ?_ h
        have h1 : n ≤ (18446744073709551615 - x) / base := by omega
        have h2 : n * base ≤ (18446744073709551615 - x) / base * base := Int.mul_le_mul_of_nonneg_right h1 (by omega)
        have h3 : (18446744073709551615 - x) / base * base ≤ 18446744073709551615 - x := Int.ediv_mul_le _ (by omega)
        have h4 : 0 ≤ n * base := Int.mul_nonneg hn.1 (by omega)
        unfold U64
        omega
    · injection h with h
      rw [← h]; exact hn
theorem numR_u64 {o : Option Int} (ho : ∀ r, o = some r → U64 r) {n : Int} {b : Bool} (h : numR o = some (n, b)) : U64 n := by
  cases o with
  | none => injection h with h; injection h with h _; rw [← h]; exact ⟨by decide, by decide⟩
  | some x => injection h with h; injection h with h _; rw [← h]; exact ho x rfl
theorem number_u64 {s : ByteArray} {n : Int} {b : Bool} (h : lex_number.f s = some (n, b)) : U64 n := by
  unfold lex_number.f at h
  split at h
  · split at h
    · injection h with h; injection h with h _; rw [← h]; exact ⟨by decide, by decide⟩
    · exact numR_u64 (fun r hr => numAt_u64 _ 16 (by decide) _ _ 0 r ⟨by decide, by decide⟩ hr) h
  · exact numR_u64 (fun r hr => numAt_u64 _ 10 (by decide) _ _ 0 r ⟨by decide, by decide⟩ hr) h
theorem zero_u64 : U64 0 := ⟨by decide, by decide⟩
theorem one_u64 {k : Nat} {s : ByteArray} {r : Int × Int × ByteArray × Int × Int} (h : lex_one.f k s = some r) : U64 r.2.2.2.1 := by
  unfold lex_one.f at h
  split at h
  · obtain ⟨t, h1, h⟩ := Option.bind_eq_some_iff.1 h
    split at h
    · obtain ⟨u, h2, h⟩ := Option.bind_eq_some_iff.1 h
      repeat' split at h
      all_goals first
        | cases h; done
        | (injection h with h; rw [← h]; exact zero_u64)
    · obtain ⟨u, h2, h⟩ := Option.bind_eq_some_iff.1 h
      split at h
      · obtain ⟨v, h3, h⟩ := Option.bind_eq_some_iff.1 h
        split at h
        · split at h
          · obtain ⟨⟨n, b⟩, h4, h⟩ := Option.bind_eq_some_iff.1 h
            split at h
            · injection h with h; rw [← h]; exact number_u64 h4
            · injection h with h; rw [← h]; exact zero_u64
          · cases h
        · cases h
      · obtain ⟨v, h3, h⟩ := Option.bind_eq_some_iff.1 h
        repeat' split at h
        all_goals first
          | cases h; done
          | (injection h with h; rw [← h]; exact zero_u64)
  · cases h
theorem all_u64 (s : ByteArray) : ∀ (k : Nat) (xs : List S68) (x : Int) (r : List S68 × Int × Int), (∀ t ∈ xs, U64 t.f3) → lex_All.l0 k s xs x = some r → ∀ t ∈ r.1, U64 t.f3
  | 0, _, _, _, _, h => by rw [lex_All.l0] at h; cases h
  | k + 1, xs, x, r, hx, h => by
    rw [lex_All.l0] at h
    split at h
    · split at h
      · split at h
        · obtain ⟨o, h1, h⟩ := Option.bind_eq_some_iff.1 h
          have ho := one_u64 h1
          split at h
          · split at h
            · split at h
              · split at h
                · obtain ⟨b, h2, h⟩ := Option.bind_eq_some_iff.1 h
                  refine all_u64 s k _ _ r (fun t ht => ?_) h
                  rcases List.mem_append.1 ht with ht | ht
                  · exact hx t ht
                  · rw [List.mem_singleton.1 ht]; exact ho
                · cases h
              · cases h
            · cases h
          · injection h with h; rw [← h]; exact fun t ht => by cases ht
        · cases h
      · cases h
    · split at h
      · injection h with h
        rw [← h]
        intro t ht
        rcases List.mem_append.1 ht with ht | ht
        · exact hx t ht
        · rw [List.mem_singleton.1 ht]; exact zero_u64
      · cases h
theorem lex_u64 {k : Nat} {s : ByteArray} {toks : List S68} {er at_ : Int} (h : lex_All.f k s = some (toks, er, at_)) : ∀ t ∈ toks, U64 t.f3 := by
  unfold lex_All.f at h
  split at h
  · injection h with h; injection h with h _; rw [← h]; exact fun t ht => by cases ht
  · obtain ⟨b, h2, h⟩ := Option.bind_eq_some_iff.1 h
    exact all_u64 s k [] b _ (fun t ht => by cases ht) h
section
variable {l : List S68} (hl : ∀ t ∈ l, U64 t.f3)
include hl
theorem tok_u64 (n : Nat) : U64 (l.getD n z68).f3 := by
  rw [List.getD_eq_getElem?_getD]
  cases h : l[n]? with
  | none => exact zero_u64
  | some t => exact hl t (List.mem_of_getElem? h)
theorem must_u64 {k : Int} {n : Nat} {t : S68} {n2 : Nat} (h : mustR l k n = .ok (t, n2)) : U64 t.f3 := by
  unfold mustR at h
  split at h
  · injection h with h; injection h with h _; rw [← h]; exact tok_u64 hl n
  · cases h
theorem tail_u64 {a m : Int} {n n2 : Nat} {c : S98} (hm : U64 m) (h : condTail l a m n = .ok (c, n2)) : U64 c.f2 ∧ U64 c.f3 := by
  unfold condTail at h
  split at h
  · cases h
  · split at h
    · cases h
    · rename_i hv
      injection h with h; injection h with h _; rw [← h]
      exact ⟨hm, must_u64 hl hv⟩
theorem cond_u64 {room : Bool} {n n2 : Nat} {c : S98} (h : condR l room n = .ok (c, n2)) : U64 c.f2 ∧ U64 c.f3 := by
  unfold condR at h
  split at h
  · split at h
    · split at h
      · split at h
        · cases h
        · rename_i hu
          exact tail_u64 hl (must_u64 hl hu) h
      · exact tail_u64 hl ⟨by decide, by decide⟩ h
    · cases h
  · cases h
theorem conds_in : ∀ (d : Nat) (cs : List S98) (n n2 : Nat) (r : List S98), (∀ c ∈ cs, U64 c.f2 ∧ U64 c.f3) → condsR l d cs n = .ok (r, n2) → r.length ≤ cs.length + d ∧ ∀ c ∈ r, U64 c.f2 ∧ U64 c.f3
  | 0, _, _, _, _, _, h => by unfold condsR at h; cases h
  | d + 1, cs, n, n2, r, hc, h => by
    unfold condsR at h
    split at h
    · cases h
    · rename_i c k hu
      have hcu := cond_u64 hl hu
      have hc2 : ∀ x ∈ cs ++ [c], U64 x.f2 ∧ U64 x.f3 := fun x hx => by
        rcases List.mem_append.1 hx with hx | hx
        · exact hc x hx
        · rw [List.mem_singleton.1 hx]; exact hcu
      split at h
      · obtain ⟨h1, h2⟩ := conds_in d _ _ _ _ hc2 h
        rw [List.length_append, List.length_singleton] at h1
        exact ⟨by omega, h2⟩
      · injection h with h; injection h with h _; rw [← h]
        exact ⟨by rw [List.length_append, List.length_singleton]; omega, hc2⟩
end
theorem names_in {l : List S68} : ∀ (d : Nat) (ns : List ByteArray) (n n2 : Nat) (r : List ByteArray), namesR l d ns n = .ok (r, n2) → r.length ≤ ns.length + d
  | 0, _, _, _, _, h => by unfold namesR at h; cases h
  | d + 1, ns, n, n2, r, h => by
    unfold namesR at h
    split at h
    · cases h
    · split at h
      · cases h
      · split at h
        · have := names_in d _ _ _ _ h
          rw [List.length_append, List.length_singleton] at this
          omega
        · injection h with h; injection h with h _; rw [← h]
          rw [List.length_append, List.length_singleton]
          omega
def RuleIn (r : S72) : Prop := r.f1.length ≤ 20 ∧ r.f2.length ≤ 20 ∧ ∀ c ∈ r.f2, U64 c.f2 ∧ U64 c.f3
theorem end_is {l : List S68} {r x : S72} {n n2 : Nat} (h : endR l r n = .ok (x, n2)) : x = r := by
  unfold endR at h
  split at h
  · injection h with h; injection h with h _; exact h.symm
  · cases h
theorem rule_in {l : List S68} (hl : ∀ t ∈ l, U64 t.f3) {room : Bool} {n n2 : Nat} {r : S72} (h : ruleR l room n = .ok (r, n2)) : RuleIn r := by
  unfold ruleR at h
  split at h
  · cases h
  · rename_i a n1 ha
    unfold namesK at h
    split at h
    · cases h
    · rename_i ns k2 hns
      have h1 := names_in _ _ _ _ _ hns
      split at h
      · unfold condsK at h
        split at h
        · cases h
        · rename_i cs k3 hcs
          obtain ⟨h2, h3⟩ := conds_in hl _ _ _ _ _ (fun c hc => by cases hc) hcs
          rw [end_is h]
          simp only [List.length_nil] at h1 h2
          exact ⟨by show ns.length ≤ 20; omega, by show cs.length ≤ 20; omega, h3⟩
      · rw [end_is h]
        simp only [List.length_nil] at h1
        exact ⟨by show ns.length ≤ 20; omega, Nat.zero_le _, fun c hc => by cases hc⟩
theorem rules_in {l : List S68} (hl : ∀ t ∈ l, U64 t.f3) : ∀ (d : Nat) (rs : List S72) (n n2 : Nat) (r : List S72), (∀ x ∈ rs, RuleIn x) → rulesR l d rs n = .ok (r, n2) → r.length ≤ rs.length + d ∧ ∀ x ∈ r, RuleIn x
  | 0, _, _, _, _, _, h => by unfold rulesR at h; cases h
  | d + 1, rs, n, n2, r, hr, h => by
    unfold rulesR at h
    split at h
    · injection h with h; injection h with h _; rw [← h]
      exact ⟨by omega, hr⟩
    · split at h
      · cases h
      · rename_i x k hx
        have hx2 := rule_in hl hx
        obtain ⟨h1, h2⟩ := rules_in hl d _ _ _ _ (fun y hy => by
          rcases List.mem_append.1 hy with hy | hy
          · exact hr y hy
          · rw [List.mem_singleton.1 hy]; exact hx2) h
        rw [List.length_append, List.length_singleton] at h1
        exact ⟨by omega, h2⟩
theorem body_in {l : List S68} (hl : ∀ t ∈ l, U64 t.f3) {a : S35} {rs : List S72} (h : bodyR l = .ok (a, rs)) : RulesIn rs := by
  unfold bodyR at h
  split at h
  · split at h
    · cases h
    · split at h
      · unfold bodyK at h
        split at h
        · cases h
        · rename_i hr
          injection h with h
          injection h with _ h
          obtain ⟨h1, h2⟩ := rules_in hl _ _ _ _ _ (fun c hc => by cases hc) hr
          subst h
          simp only [List.length_nil] at h1
          exact ⟨by omega, fun r hr => (h2 r hr).1, fun r hr => (h2 r hr).2.1, fun r hr => (h2 r hr).2.2⟩
      · cases h
  · cases h
section
variable {l : List S68}
theorem must_err {k : Int} {n : Nat} {er at_ : Int} (h : mustR l k n = .error (er, at_)) : er ≠ 0 := by
  unfold mustR at h
  split at h
  · cases h
  · injection h with h; injection h with h _; omega
theorem op_err {n : Nat} {er at_ : Int} (h : opR l n = .error (er, at_)) : er ≠ 0 := by
  unfold opR at h
  split at h
  · cases h
  · injection h with h; injection h with h _; omega
theorem tail_err {a m : Int} {n : Nat} {er at_ : Int} (h : condTail l a m n = .error (er, at_)) : er ≠ 0 := by
  unfold condTail at h
  split at h
  · rename_i ho
    injection h with h; subst h; exact op_err ho
  · split at h
    · rename_i ho
      injection h with h; subst h; exact must_err ho
    · cases h
theorem cond_err {room : Bool} {n : Nat} {er at_ : Int} (h : condR l room n = .error (er, at_)) : er ≠ 0 := by
  unfold condR at h
  split at h
  · split at h
    · split at h
      · split at h
        · rename_i ho
          injection h with h; subst h; exact must_err ho
        · exact tail_err h
      · exact tail_err h
    · injection h with h; injection h with h _; omega
  · injection h with h; injection h with h _; omega
theorem cond_full2 {n n2 : Nat} {c : S98} (h : condR l false n = .ok (c, n2)) : False := by
  unfold condR at h
  rw [if_neg Bool.false_ne_true] at h
  split at h <;> cases h
theorem conds_err : ∀ (d : Nat) (cs : List S98) (n : Nat) (er at_ : Int), cs.length ≤ 8 → cs.length + d = 9 → condsR l d cs n = .error (er, at_) → er ≠ 0
  | 0, cs, _, _, _, h1, h2, _ => by omega
  | d + 1, cs, n, er, at_, h1, h2, h => by
    unfold condsR at h
    split at h
    · rename_i ho
      injection h with h; subst h; exact cond_err ho
    · rename_i c k hc
      split at h
      · by_cases h8 : cs.length < 8
        · exact conds_err d _ _ _ _ (by rw [List.length_append, List.length_singleton]; omega) (by rw [List.length_append, List.length_singleton]; omega) h
        · rw [decide_eq_false h8] at hc
          exact (cond_full2 hc).elim
      · cases h
theorem names_err : ∀ (d : Nat) (ns : List ByteArray) (n : Nat) (er at_ : Int), ns.length ≤ 16 → ns.length + d = 17 → namesR l d ns n = .error (er, at_) → er ≠ 0
  | 0, ns, _, _, _, h1, h2, _ => by omega
  | d + 1, ns, n, er, at_, h1, h2, h => by
    unfold namesR at h
    split at h
    · injection h with h; injection h with h _; omega
    · rename_i hn
      split at h
      · rename_i ho
        injection h with h; subst h; exact must_err ho
      · rename_i t k hm
        split at h
        · by_cases h16 : ns.length = 16
          · exfalso
            unfold mustR at hm
            split at hm
            · rename_i h0
              exact hn ⟨h0, h16⟩
            · cases hm
          · exact names_err d _ _ _ _ (by rw [List.length_append, List.length_singleton]; omega) (by rw [List.length_append, List.length_singleton]; omega) h
        · cases h
theorem act_err {room : Bool} {n : Nat} {er at_ : Int} (h : actR l room n = .error (er, at_)) : er ≠ 0 := by
  unfold actR at h
  repeat' split at h
  all_goals first
    | cases h; done
    | (injection h with h; injection h with h _; omega)
theorem end_err {r : S72} {n : Nat} {er at_ : Int} (h : endR l r n = .error (er, at_)) : er ≠ 0 := by
  unfold endR at h
  split at h
  · cases h
  · injection h with h; injection h with h _; omega
theorem rule_err {room : Bool} {n : Nat} {er at_ : Int} (h : ruleR l room n = .error (er, at_)) : er ≠ 0 := by
  unfold ruleR at h
  split at h
  · rename_i ho
    injection h with h; subst h; exact act_err ho
  · unfold namesK at h
    split at h
    · rename_i ho
      injection h with h; subst h; exact names_err _ _ _ _ _ (Nat.zero_le _) rfl ho
    · split at h
      · unfold condsK at h
        split at h
        · rename_i ho
          injection h with h; subst h; exact conds_err _ _ _ _ _ (Nat.zero_le _) rfl ho
        · exact end_err h
      · exact end_err h
theorem rules_err : ∀ (d : Nat) (rs : List S72) (n : Nat) (er at_ : Int), rs.length ≤ 64 → rs.length + d = 65 → rulesR l d rs n = .error (er, at_) → er ≠ 0
  | 0, rs, _, _, _, h1, h2, _ => by omega
  | d + 1, rs, n, er, at_, h1, h2, h => by
    unfold rulesR at h
    split at h
    · cases h
    · split at h
      · rename_i ho
        injection h with h; subst h; exact rule_err ho
      · rename_i x k hx
        by_cases h64 : rs.length < 64
        · exact rules_err d _ _ _ _ (by rw [List.length_append, List.length_singleton]; omega) (by rw [List.length_append, List.length_singleton]; omega) h
        · rw [decide_eq_false h64] at hx
          obtain ⟨e, he⟩ := rule_full l n
          rw [he] at hx
          cases hx
theorem body_err {er at_ : Int} (h : bodyR l = .error (er, at_)) : er ≠ 0 := by
  unfold bodyR at h
  split at h
  · split at h
    · rename_i ho
      injection h with h; subst h; exact act_err ho
    · split at h
      · unfold bodyK at h
        split at h
        · rename_i ho
          injection h with h; subst h; exact rules_err _ _ _ _ _ (Nat.zero_le _) rfl ho
        · cases h
      · injection h with h; injection h with h _; omega
  · injection h with h; injection h with h _; omega
end
theorem parse_any (s : ByteArray) : ∃ r, (∀ w, Calls Try.prog 5 #[.string s] w fun e w' => ParseAns w r e w') ∧ (∀ a rs, r = .ok (a, rs) → RulesIn rs) ∧ (∀ er at_, r = .error (er, at_) → er ≠ 0) := by
  obtain ⟨k, toks, er, at_, h1, h2⟩ := lex_total s
  refine ⟨_, fun w => parse_calls k s toks er at_ w h1 h2, fun a rs h => ?_, fun er2 at2 h => ?_⟩
  · split at h
    · exact body_in (lex_u64 h1) h
    · cases h
  · split at h
    · exact body_err h
    · rename_i he
      injection h with h; injection h with h _
      rw [← h]; exact he
end Go.Proofs.Ytidnojkijfinaaa.Fns
