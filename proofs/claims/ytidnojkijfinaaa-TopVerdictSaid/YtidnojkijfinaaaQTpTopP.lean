/- Part of the proof of TopVerdictSaid. -/
import Derived.Test.YtidnojkijfinaaaQTpLawF
import Derived.Test.YtidnojkijfinaaaQTpMost
namespace Go.Proofs.Ytidnojkijfinaaa.Fns
open Go.RowKit Go.Proofs.YtidnojkijfinaaaW.PrintWords Go.Proofs.YtidnojkijfinaaaW.PrintLast Go.Proofs.YtidnojkijfinaaaW.PrintMore
set_option linter.unusedVariables false
set_option linter.unusedSimpArgs false
theorem bears_total (n : Int) : ∃ r, act_bears.f n = some r := by
  unfold act_bears.f
  split
  · exact ⟨_, rfl⟩
  · split
    · exact ⟨_, rfl⟩
    · exact ⟨_, rfl⟩
theorem of_total (a : Int) : ∀ (d n K : Nat), n + d = 9 → 1 ≤ n → d < K → ∃ r, act_Of.l0 K a (n : Int) = some r := by
  intro d
  induction d with
  | zero =>
    intro n K h1 h2 h3
    obtain ⟨K, rfl⟩ : ∃ m, K = m + 1 := ⟨K - 1, by omega⟩
    rw [act_Of.l0, if_neg (by omega)]
    exact ⟨_, rfl⟩
  | succ d ih =>
    intro n K h1 h2 h3
    obtain ⟨K, rfl⟩ : ∃ m, K = m + 1 := ⟨K - 1, by omega⟩
    have hn : act_number.f (n : Int) = some (rd actTab ((n : Int) - 1)) := by unfold act_number.f; rw [if_pos ⟨by omega, by omega⟩]
    have hw : wrap64 ((n : Int) + 1) = ((n + 1 : Nat) : Int) := by rw [IntWalk.wrap64_in _ (by omega)]; rfl
    obtain ⟨b, hb⟩ := bears_total (n : Int)
    rw [act_Of.l0, if_pos (by omega), hn, Option.bind_some, hb, Option.bind_some, hw]
    split
    · split
      · exact ⟨_, rfl⟩
      · exact ⟨_, rfl⟩
    · exact ih (n + 1) K (by omega) (by omega) (by omega)
theorem most_loop (l : List Int) (hl : l.length ≤ 1000) : ∀ (d j K : Nat) (x : Int), j + d = l.length → d + 20 < K → ∃ m, act_Most.l0 K x l (l.length : Int) (j : Int) = some m := by
  intro d
  induction d with
  | zero =>
    intro j K x h1 h2
    obtain ⟨K, rfl⟩ : ∃ m, K = m + 1 := ⟨K - 1, by omega⟩
    rw [act_Most.l0, if_neg (by omega)]
    exact ⟨_, rfl⟩
  | succ d ih =>
    intro j K x h1 h2
    obtain ⟨K, rfl⟩ : ∃ m, K = m + 1 := ⟨K - 1, by omega⟩
    have hw : wrap64 ((j : Int) + 1) = ((j + 1 : Nat) : Int) := by rw [IntWalk.wrap64_in _ (by omega)]; rfl
    obtain ⟨r1, q1⟩ : ∃ r, act_Of.f K (rd l (j : Int)) = some r := of_total _ 8 1 K rfl (by omega) (by omega)
    obtain ⟨r2, q2⟩ : ∃ r, act_Of.f K x = some r := of_total _ 8 1 K rfl (by omega) (by omega)
    rw [act_Most.l0, if_pos (by omega), if_pos (by omega), if_pos (by omega), q1, q2, Option.bind_some, Option.bind_some, hw]
    split
    · exact ih (j + 1) K _ (by omega) (by omega)
    · split
      · exact ih (j + 1) K _ (by omega) (by omega)
      · exact ih (j + 1) K _ (by omega) (by omega)
theorem most_total (l : List Int) (hl : l.length ≤ 1000) : ∃ m, act_Most.f 2000 l = some m := by
  unfold act_Most.f
  rw [show act_number.f 8 = some 2147418112 from rfl, Option.bind_some]
  exact most_loop l hl l.length 0 2000 _ (by omega) (by omega)
def textA : ByteArray := ⟨#[100, 101, 102, 97, 117, 108, 116, 32, 107, 105, 108, 108, 59, 32, 108, 111, 103, 32, 119, 114, 105, 116, 101, 59]⟩
def toksA : List S68 := match lex_All.f 100 textA with | some r => r.1 | none => []
def rulesA : List S72 := match bodyR toksA with | .ok (_, rs) => rs | .error _ => []
def actA : S35 := match bodyR toksA with | .ok (a, _) => a | .error _ => ⟨0, 0⟩
def dataA : DT := ⟨1, 3221225534, 0, 0, 0, 0, 0, 0, 0⟩
theorem lexA : ∃ at_, lex_All.f 100 textA = some (toksA, 0, at_) := ⟨(match lex_All.f 100 textA with | some r => r.2.2 | none => 0), by kernel_rfl⟩
theorem bodyA : bodyR toksA = .ok (actA, rulesA) := by kernel_rfl
theorem checkA : mean_Check.f 150 actA.f0 actA.f1 rulesA = some (0, -1) := by kernel_rfl
theorem lenA : (progR actA.f0 actA.f1 rulesA).length ≤ 4096 := of_decide_eq_true (by kernel_rfl)
theorem decA : actV (decideB actA.f0 actA.f1 rulesA dataA) = 2147221504 := by kernel_rfl
theorem mostA : act_Most.f 2000 [2147221504] = some 2147221504 := by kernel_rfl
end Go.Proofs.Ytidnojkijfinaaa.Fns
