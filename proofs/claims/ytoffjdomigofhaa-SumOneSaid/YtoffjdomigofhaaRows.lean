/-
  No cell of these rows narrows 'for every input' (looked for: loops, veiled, ifaces, maps, wideKeys, modest, calm, conditions, laid).
  DERIVED. THE GIVEN ROWS OF THIS SEAT. 6 by the template 'for every input the law returns true; each argument reads behind the call as it read before'; 0 by the template 'total and deterministic' (their statements: YtoffjdomigofhaaTotals.lean).
  GIVEN WITH THE SEED: the statements are not yours to turn. If you find one false, say at which input.
  Laid BY PROGRAM, IN A SANDBOX (cutbox-rows.mjs): the forced cells as the released guide's own fill.sh prints them over the translation ac277fd7ccb22404… (all of the seat's roots in one cut). By AI agents, Wed Nov 11 2026. No macro, syntax, notation, axiom, sorry.
-/
import Derived.Test.YtoffjdomigofhaaChecked
import GoSem.Claim
import GoSem.ClaimJoined
import GoSem.ClaimMapViews
import Derived.JoinedTies
import Derived.KernelRfl
namespace Go.Proofs.Ytoffjdomigofhaa
/- THE CELL 'sum', in the pinned program and in every row, IS THE sha256 OF THE DUMP (.gsa) THAT YtoffjdomigofhaaProg.lean LOADS. Nothing in Lean hashes anything: it is a label: what it is worth is what the hold of that sum in a sandbox is worth. -/
noncomputable def Try.pinned : Pinned := { name := "ytoffjdomigofhaa", sum := "ac277fd7ccb2240465dcf9db2a8150e6956b3f970b84b23976b46323256453e1", checked := Try.checked }
namespace Rows
def none {H : Type} : Left H := { results := [], args := [] }

/-- 'fairleadlaw01.SumTexts': WHATEVER THE INPUT: true; the input reads as it did. -/
def sumTextsSpec : ChangeSpec := { name := "sumTexts", fn := fun _ => fun
  | [d] => { results := [.lit (.bool true)], args := [d] }
  | _ => none }
def sumTextsRow : OpenClaim := { program := "ytoffjdomigofhaa", sum := "ac277fd7ccb2240465dcf9db2a8150e6956b3f970b84b23976b46323256453e1", func := "fairlead/fairleadlaw01.SumTexts", spec := "sumTexts", apart := false }
def SumTextsSaid : Prop := sumTextsRow.holds Try.pinned (OpenSpec.ofChange sumTextsSpec)

/-- ITS FALSE NEIGHBOUR: 'it returns false'. Refute it at one input. -/
def sumTextsWrong : ChangeSpec := { name := "sumTexts", fn := fun _ => fun
  | [d] => { results := [.lit (.bool false)], args := [d] }
  | _ => none }
def SumTextsWrongFalsely : Prop := sumTextsRow.holds Try.pinned (OpenSpec.ofChange sumTextsWrong)

/-- 'fairleadlaw01.SumGoes': WHATEVER THE INPUT: true; the input reads as it did. -/
def sumGoesSpec : ChangeSpec := { name := "sumGoes", fn := fun _ => fun
  | [d1, d2] => { results := [.lit (.bool true)], args := [d1, d2] }
  | _ => none }
def sumGoesRow : OpenClaim := { program := "ytoffjdomigofhaa", sum := "ac277fd7ccb2240465dcf9db2a8150e6956b3f970b84b23976b46323256453e1", func := "fairlead/fairleadlaw01.SumGoes", spec := "sumGoes", apart := false }
def SumGoesSaid : Prop := sumGoesRow.holds Try.pinned (OpenSpec.ofChange sumGoesSpec)

/-- ITS FALSE NEIGHBOUR: 'it returns false'. Refute it at one input. -/
def sumGoesWrong : ChangeSpec := { name := "sumGoes", fn := fun _ => fun
  | [d1, d2] => { results := [.lit (.bool false)], args := [d1, d2] }
  | _ => none }
def SumGoesWrongFalsely : Prop := sumGoesRow.holds Try.pinned (OpenSpec.ofChange sumGoesWrong)

/-- 'fairleadlaw01.SumParts': WHATEVER THE INPUT: true; the input reads as it did. -/
def sumPartsSpec : ChangeSpec := { name := "sumParts", fn := fun _ => fun
  | [d1, d2] => { results := [.lit (.bool true)], args := [d1, d2] }
  | _ => none }
def sumPartsRow : OpenClaim := { program := "ytoffjdomigofhaa", sum := "ac277fd7ccb2240465dcf9db2a8150e6956b3f970b84b23976b46323256453e1", func := "fairlead/fairleadlaw01.SumParts", spec := "sumParts", apart := false }
def SumPartsSaid : Prop := sumPartsRow.holds Try.pinned (OpenSpec.ofChange sumPartsSpec)

/-- ITS FALSE NEIGHBOUR: 'it returns false'. Refute it at one input. -/
def sumPartsWrong : ChangeSpec := { name := "sumParts", fn := fun _ => fun
  | [d1, d2] => { results := [.lit (.bool false)], args := [d1, d2] }
  | _ => none }
def SumPartsWrongFalsely : Prop := sumPartsRow.holds Try.pinned (OpenSpec.ofChange sumPartsWrong)

/-- 'fairleadlaw01.SumOne': WHATEVER THE INPUT: true; the input reads as it did. -/
def sumOneSpec : ChangeSpec := { name := "sumOne", fn := fun _ => fun
  | [d1, d2, d3] => { results := [.lit (.bool true)], args := [d1, d2, d3] }
  | _ => none }
def sumOneRow : OpenClaim := { program := "ytoffjdomigofhaa", sum := "ac277fd7ccb2240465dcf9db2a8150e6956b3f970b84b23976b46323256453e1", func := "fairlead/fairleadlaw01.SumOne", spec := "sumOne", apart := false }
def SumOneSaid : Prop := sumOneRow.holds Try.pinned (OpenSpec.ofChange sumOneSpec)

/-- ITS FALSE NEIGHBOUR: 'it returns false'. Refute it at one input. -/
def sumOneWrong : ChangeSpec := { name := "sumOne", fn := fun _ => fun
  | [d1, d2, d3] => { results := [.lit (.bool false)], args := [d1, d2, d3] }
  | _ => none }
def SumOneWrongFalsely : Prop := sumOneRow.holds Try.pinned (OpenSpec.ofChange sumOneWrong)

/-- 'fairleadlaw01.SumRolls': WHATEVER THE INPUT: true; the input reads as it did. -/
def sumRollsSpec : ChangeSpec := { name := "sumRolls", fn := fun _ => fun
  | [d1, d2, d3] => { results := [.lit (.bool true)], args := [d1, d2, d3] }
  | _ => none }
def sumRollsRow : OpenClaim := { program := "ytoffjdomigofhaa", sum := "ac277fd7ccb2240465dcf9db2a8150e6956b3f970b84b23976b46323256453e1", func := "fairlead/fairleadlaw01.SumRolls", spec := "sumRolls", apart := false }
def SumRollsSaid : Prop := sumRollsRow.holds Try.pinned (OpenSpec.ofChange sumRollsSpec)

/-- ITS FALSE NEIGHBOUR: 'it returns false'. Refute it at one input. -/
def sumRollsWrong : ChangeSpec := { name := "sumRolls", fn := fun _ => fun
  | [d1, d2, d3] => { results := [.lit (.bool false)], args := [d1, d2, d3] }
  | _ => none }
def SumRollsWrongFalsely : Prop := sumRollsRow.holds Try.pinned (OpenSpec.ofChange sumRollsWrong)

/-- 'fairleadlaw01.SumWindow': WHATEVER THE INPUT: true; the input reads as it did. -/
def sumWindowSpec : ChangeSpec := { name := "sumWindow", fn := fun _ => fun
  | [d1, d2] => { results := [.lit (.bool true)], args := [d1, d2] }
  | _ => none }
def sumWindowRow : OpenClaim := { program := "ytoffjdomigofhaa", sum := "ac277fd7ccb2240465dcf9db2a8150e6956b3f970b84b23976b46323256453e1", func := "fairlead/fairleadlaw01.SumWindow", spec := "sumWindow", apart := false }
def SumWindowSaid : Prop := sumWindowRow.holds Try.pinned (OpenSpec.ofChange sumWindowSpec)

/-- ITS FALSE NEIGHBOUR: 'it returns false'. Refute it at one input. -/
def sumWindowWrong : ChangeSpec := { name := "sumWindow", fn := fun _ => fun
  | [d1, d2] => { results := [.lit (.bool false)], args := [d1, d2] }
  | _ => none }
def SumWindowWrongFalsely : Prop := sumWindowRow.holds Try.pinned (OpenSpec.ofChange sumWindowWrong)

/- THE SECOND FORM. 'bulk': how many values and letters a reading holds, each counted each time it is reached (what is shared counts as often as it is met; a slice's spare places count too). A statement '..UptoSaid' is the law's where the arguments, and the package variables that the reading takes, are together of bulk at most 1048576: NARROWER than '..Said'. Prove '..Said' where nothing that the law and all that it calls make is longer than what came in: it says more and counts as full. Else prove '..UptoSaid'. A law counts once. -/
mutual
def uptoBulk {H : Type} : DataW H → Nat
  | .lit (.string bytes) => bytes.length + 1
  | .lit _ => 1
  | .nil => 1
  | .ptr d => uptoBulk d + 1
  | .slice elems spare => uptoBulkAll elems + uptoBulkAll spare + 1
  | .agg parts => uptoBulkAll parts + 1
  | .iface _ d => uptoBulk d + 1
  | .map entries => uptoBulkEntries entries + 1
  | .held _ => 1
def uptoBulkAll {H : Type} : List (DataW H) → Nat
  | [] => 0
  | d :: r => uptoBulk d + uptoBulkAll r
def uptoBulkEntries {H : Type} : List (Lit × DataW H) → Nat
  | [] => 0
  | x :: r => uptoBulkEntry x + uptoBulkEntries r
def uptoBulkEntry {H : Type} : Lit × DataW H → Nat
  | (.string bytes, d) => bytes.length + uptoBulk d + 1
  | (_, d) => uptoBulk d + 1
 end
def uptoSmall : (H : Type) → List (DataW H) → Bool := fun _ ds => decide (uptoBulkAll ds ≤ 1048576)
def OpenSpec.upto (s : _root_.Go.ChangeSpec) : _root_.Go.OpenSpec := { _root_.Go.OpenSpec.ofChange s with cond := some uptoSmall }

/-- 'fairleadlaw01.SumTexts', WHERE WHAT IT READS IS OF BULK AT MOST 1048576: true; the input reads as it did. -/
def sumTextsUptoRow : OpenClaim := { program := "ytoffjdomigofhaa", sum := "ac277fd7ccb2240465dcf9db2a8150e6956b3f970b84b23976b46323256453e1", func := "fairlead/fairleadlaw01.SumTexts", spec := "sumTexts", apart := false, narrowed := true }
def SumTextsUptoSaid : Prop := sumTextsUptoRow.holds Try.pinned (OpenSpec.upto sumTextsSpec)

/-- 'fairleadlaw01.SumGoes', WHERE WHAT IT READS IS OF BULK AT MOST 1048576: true; the input reads as it did. -/
def sumGoesUptoRow : OpenClaim := { program := "ytoffjdomigofhaa", sum := "ac277fd7ccb2240465dcf9db2a8150e6956b3f970b84b23976b46323256453e1", func := "fairlead/fairleadlaw01.SumGoes", spec := "sumGoes", apart := false, narrowed := true }
def SumGoesUptoSaid : Prop := sumGoesUptoRow.holds Try.pinned (OpenSpec.upto sumGoesSpec)

/-- 'fairleadlaw01.SumParts', WHERE WHAT IT READS IS OF BULK AT MOST 1048576: true; the input reads as it did. -/
def sumPartsUptoRow : OpenClaim := { program := "ytoffjdomigofhaa", sum := "ac277fd7ccb2240465dcf9db2a8150e6956b3f970b84b23976b46323256453e1", func := "fairlead/fairleadlaw01.SumParts", spec := "sumParts", apart := false, narrowed := true }
def SumPartsUptoSaid : Prop := sumPartsUptoRow.holds Try.pinned (OpenSpec.upto sumPartsSpec)

/-- 'fairleadlaw01.SumOne', WHERE WHAT IT READS IS OF BULK AT MOST 1048576: true; the input reads as it did. -/
def sumOneUptoRow : OpenClaim := { program := "ytoffjdomigofhaa", sum := "ac277fd7ccb2240465dcf9db2a8150e6956b3f970b84b23976b46323256453e1", func := "fairlead/fairleadlaw01.SumOne", spec := "sumOne", apart := false, narrowed := true }
def SumOneUptoSaid : Prop := sumOneUptoRow.holds Try.pinned (OpenSpec.upto sumOneSpec)

/-- 'fairleadlaw01.SumRolls', WHERE WHAT IT READS IS OF BULK AT MOST 1048576: true; the input reads as it did. -/
def sumRollsUptoRow : OpenClaim := { program := "ytoffjdomigofhaa", sum := "ac277fd7ccb2240465dcf9db2a8150e6956b3f970b84b23976b46323256453e1", func := "fairlead/fairleadlaw01.SumRolls", spec := "sumRolls", apart := false, narrowed := true }
def SumRollsUptoSaid : Prop := sumRollsUptoRow.holds Try.pinned (OpenSpec.upto sumRollsSpec)

/-- 'fairleadlaw01.SumWindow', WHERE WHAT IT READS IS OF BULK AT MOST 1048576: true; the input reads as it did. -/
def sumWindowUptoRow : OpenClaim := { program := "ytoffjdomigofhaa", sum := "ac277fd7ccb2240465dcf9db2a8150e6956b3f970b84b23976b46323256453e1", func := "fairlead/fairleadlaw01.SumWindow", spec := "sumWindow", apart := false, narrowed := true }
def SumWindowUptoSaid : Prop := sumWindowUptoRow.holds Try.pinned (OpenSpec.upto sumWindowSpec)

end Rows
end Go.Proofs.Ytoffjdomigofhaa
