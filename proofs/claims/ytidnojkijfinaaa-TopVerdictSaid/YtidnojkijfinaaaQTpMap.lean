/- Part of the proof of TopVerdictSaid. -/
import Derived.Test.YtidnojkijfinaaaQTpBase
import Derived.Maps.OwnSet
import Derived.Maps.Views
namespace Go.Proofs.Ytidnojkijfinaaa.Fns
open Go.RowKit Go.Maps Go.Proofs.YtidnojkijfinaaaW.PrintWords Go.Proofs.YtidnojkijfinaaaW.PrintLast Go.Proofs.YtidnojkijfinaaaW.PrintMore
attribute [local go_sem] max2_int min2_int max_two min_two max_three min_three max_four min_four
set_option linter.unusedVariables false
set_option linter.unusedSimpArgs false
theorem plainElem_bool_inv {H : Type} {P : Program} {e : TypeId} (he : P.underlying e = some .bool) {v : Value} {z : DataW H × List MemPlace} (h : plainElem P e v = some z) : ∃ x, v = .bool x ∧ z = (.lit (.bool x), []) := by
  unfold plainElem at h
  rw [he] at h
  cases v <;> simp at h
  exact ⟨_, rfl, h.symm⟩
section
variable {H : Type} {P : Program} {k e t : TypeId} {w : World} {b n : Nat} {D : DataW H}
theorem lookup_bool (h : w.ownsMap P k (plainElem P e) b n D) (K : Keyed P k) (ht : P.underlying t = some (.map k e)) (he : P.underlying e = some .bool) (hz : (zeroValue e).run P w = .ok (.bool false) w)
    {key : Value} {kl : Lit} (hkey : keyOf P k key = some kl) : ∃ c, (Instr.lookup t (.map (some b)) key false).run P w = .ok (.bool c) w ∧ D.atKey kl (.lit (.bool false)) = .lit (.bool c) := by
  obtain ⟨v, ps, hrun, hv⟩ := h.lookup K ht hz (plainElem_bool he false) hkey
  obtain ⟨c, rfl, hc⟩ := plainElem_bool_inv he hv
  simp only [Prod.mk.injEq] at hc
  exact ⟨c, hrun, hc.1⟩
theorem wpList_lookup_own_bool {ops : Array Oper} {rest : List Oper} {o : Oper} {a : Act} {Q : Exit → Act → World → Prop}
    (hg : o.guard = none) (m x : Operand) (t : TypeId) (hop : o.op = Op.lookup t m x false)
    (k e : TypeId) (K : Keyed P k) (ht : P.underlying t = some (.map k e)) (he : P.underlying e = some .bool) (hz : (zeroValue e).run P w = .ok (.bool false) w) (b n : Nat) (D : DataW H)
    (hm : a.eval m = .map (some b)) (hown : w.ownsMap P k (plainElem P e) b n D) (key : Value) (kl : Lit) (hx : a.eval x = key) (hkey : keyOf P k key = some kl)
    (hK : ∀ c : Bool, D.atKey kl (.lit (.bool false)) = .lit (.bool c) → wpList P ops Q rest (a.put o.dst (.bool c)) w) :
    wpList P ops Q (o :: rest) a w := by
  refine wpList_plain hg fun K' hK' => ?_
  obtain ⟨c, hrun, hat⟩ := lookup_bool hown K ht he hz hkey
  unfold Oper.wp
  simp [execOp, hop, hm, hx, hrun, Result.andThen]
  exact hK' _ _ (hK c hat)
end
def Marks (D : DataW Unit) (S : Lit → Prop) : Prop := IsMap D ∧ ∀ k, (S k ∧ D.atKey k (.lit (.bool false)) = .lit (.bool true)) ∨ (¬ S k ∧ D.atKey k (.lit (.bool false)) = .lit (.bool false))
theorem Marks.empty : Marks (.map []) (fun _ => False) := ⟨isMap_empty, fun k => .inr ⟨fun h => h, rfl⟩⟩
theorem Marks.put {D : DataW Unit} {S : Lit → Prop} (h : Marks D S) {k : Lit} (hk : WideAt.IsKeyLit k) : Marks (D.put k (.lit (.bool true))) (fun j => j = k ∨ S j) := by
  refine ⟨h.1.put _ _, fun j => ?_⟩
  by_cases e : j = k
  · subst e
    exact .inl ⟨.inl rfl, atKey_put_same h.1 hk _ _⟩
  · rw [atKey_put_other e]
    rcases h.2 j with ⟨h1, h2⟩ | ⟨h1, h2⟩
    · exact .inl ⟨.inr h1, h2⟩
    · exact .inr ⟨fun h => h.elim e h1, h2⟩
theorem Marks.at_ {D : DataW Unit} {S : Lit → Prop} (h : Marks D S) {k : Lit} {c : Bool} (hc : D.atKey k (.lit (.bool false)) = .lit (.bool c)) : c = true ↔ S k := by
  rcases h.2 k with ⟨h1, h2⟩ | ⟨h1, h2⟩ <;> rw [h2] at hc <;> injection hc with hc <;> injection hc with hc <;> subst hc <;> simp [h1]
end Go.Proofs.Ytidnojkijfinaaa.Fns
