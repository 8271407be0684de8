/- Lengths over all bodies that are found. -/
import Derived.Test.YtpkgpapdmjapmaaFrDrain
namespace Go.Proofs.Ytpkgpapdmjapmaa.Pure
open Go.RowKit Go.Proofs.YtpkgpapdmjapmaaW.PrintWords Go.Proofs.Ytpkgpapdmjapmaa.SumMath Go.Proofs.Ytpkgpapdmjapmaa.Fns

def costs : List (List Int) → Nat
  | [] => 0
  | b :: bs => 8 + b.length + costs bs
theorem drn_costs : ∀ (f : Nat) (B : List Int), Bytes B → (drn f B).2.1.length + (drn f B).2.2 + costs (drn f B).1 = B.length ∧ (drn f B).2.1 <:+ B
  | 0, B, _ => ⟨by simp [drn, costs], List.suffix_refl _⟩
  | f + 1, B, hb => by
    have hr := nx_rest B hb
    cases h : (nx B).1 with
    | none =>
      rw [drn_none f B h]
      rw [h] at hr
      exact ⟨by have := hr.2; simp only [Option.elim_none] at this; simp only [costs]; omega, hr.1⟩
    | some b =>
      rw [h] at hr
      have ih := drn_costs f (nx B).2.1 (fun x hx => hb x (hr.1.subset hx))
      rw [drn_some f B b h]
      refine ⟨?_, ih.2.trans hr.1⟩
      have := hr.2
      simp only [Option.elim_some] at this
      simp only [costs]
      have := ih.1
      omega
end Go.Proofs.Ytpkgpapdmjapmaa.Pure
