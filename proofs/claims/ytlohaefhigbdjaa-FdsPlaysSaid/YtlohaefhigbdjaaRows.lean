/-
  No cell of these rows narrows 'for every input' (looked for: loops, veiled, ifaces, maps, wideKeys, modest, calm, conditions, laid).
  DERIVED. THE GIVEN ROWS OF THIS SEAT. 4 by the template 'for every input the law returns true; each argument reads behind the call as it read before'; 0 by the template 'total and deterministic' (their statements: YtlohaefhigbdjaaTotals.lean).
  GIVEN WITH THE SEED: the statements are not yours to turn. If you find one false, say at which input.
  Laid BY PROGRAM, IN A SANDBOX (cutbox-rows.mjs): the forced cells as the released guide's own fill.sh prints them over the translation 86a922c1ee161d75… (all of the seat's roots in one cut). By AI agents, Wed Nov 11 2026. No macro, syntax, notation, axiom, sorry.
-/
import Derived.Test.YtlohaefhigbdjaaChecked
import GoSem.Claim
import GoSem.ClaimJoined
import GoSem.ClaimMapViews
import Derived.JoinedTies
import Derived.KernelRfl
namespace Go.Proofs.Ytlohaefhigbdjaa
/- THE CELL 'sum', in the pinned program and in every row, IS THE sha256 OF THE DUMP (.gsa) THAT YtlohaefhigbdjaaProg.lean LOADS. Nothing in Lean hashes anything: it is a label: what it is worth is what the hold of that sum in a sandbox is worth. -/
noncomputable def Try.pinned : Pinned := { name := "ytlohaefhigbdjaa", sum := "86a922c1ee161d75e69ef9d66423c865d9f7dbcbac29898504ef2c0e571f3bb3", checked := Try.checked }
namespace Rows
def none {H : Type} : Left H := { results := [], args := [] }

/-- 'fairleadlaw20.FdsFull': WHATEVER THE INPUT: true; the input reads as it did. -/
def fdsFullSpec : ChangeSpec := { name := "fdsFull", fn := fun _ => fun
  | [d] => { results := [.lit (.bool true)], args := [d] }
  | _ => none }
def fdsFullRow : OpenClaim := { program := "ytlohaefhigbdjaa", sum := "86a922c1ee161d75e69ef9d66423c865d9f7dbcbac29898504ef2c0e571f3bb3", func := "fairlead/fairleadlaw20.FdsFull", spec := "fdsFull", apart := false }
def FdsFullSaid : Prop := fdsFullRow.holds Try.pinned (OpenSpec.ofChange fdsFullSpec)

/-- ITS FALSE NEIGHBOUR: 'it returns false'. Refute it at one input. -/
def fdsFullWrong : ChangeSpec := { name := "fdsFull", fn := fun _ => fun
  | [d] => { results := [.lit (.bool false)], args := [d] }
  | _ => none }
def FdsFullWrongFalsely : Prop := fdsFullRow.holds Try.pinned (OpenSpec.ofChange fdsFullWrong)

/-- 'fairleadlaw20.FdsPlays': WHATEVER THE INPUT: true; the input reads as it did. -/
def fdsPlaysSpec : ChangeSpec := { name := "fdsPlays", fn := fun _ => fun
  | [d] => { results := [.lit (.bool true)], args := [d] }
  | _ => none }
def fdsPlaysRow : OpenClaim := { program := "ytlohaefhigbdjaa", sum := "86a922c1ee161d75e69ef9d66423c865d9f7dbcbac29898504ef2c0e571f3bb3", func := "fairlead/fairleadlaw20.FdsPlays", spec := "fdsPlays", apart := false }
def FdsPlaysSaid : Prop := fdsPlaysRow.holds Try.pinned (OpenSpec.ofChange fdsPlaysSpec)

/-- ITS FALSE NEIGHBOUR: 'it returns false'. Refute it at one input. -/
def fdsPlaysWrong : ChangeSpec := { name := "fdsPlays", fn := fun _ => fun
  | [d] => { results := [.lit (.bool false)], args := [d] }
  | _ => none }
def FdsPlaysWrongFalsely : Prop := fdsPlaysRow.holds Try.pinned (OpenSpec.ofChange fdsPlaysWrong)

/-- 'fairleadlaw20.FdsLowest': WHATEVER THE INPUT: true; the input reads as it did. -/
def fdsLowestSpec : ChangeSpec := { name := "fdsLowest", fn := fun _ => fun
  | [d1, d2] => { results := [.lit (.bool true)], args := [d1, d2] }
  | _ => none }
def fdsLowestRow : OpenClaim := { program := "ytlohaefhigbdjaa", sum := "86a922c1ee161d75e69ef9d66423c865d9f7dbcbac29898504ef2c0e571f3bb3", func := "fairlead/fairleadlaw20.FdsLowest", spec := "fdsLowest", apart := false }
def FdsLowestSaid : Prop := fdsLowestRow.holds Try.pinned (OpenSpec.ofChange fdsLowestSpec)

/-- ITS FALSE NEIGHBOUR: 'it returns false'. Refute it at one input. -/
def fdsLowestWrong : ChangeSpec := { name := "fdsLowest", fn := fun _ => fun
  | [d1, d2] => { results := [.lit (.bool false)], args := [d1, d2] }
  | _ => none }
def FdsLowestWrongFalsely : Prop := fdsLowestRow.holds Try.pinned (OpenSpec.ofChange fdsLowestWrong)

/-- 'fairleadlaw20.FdsBack': WHATEVER THE INPUT: true; the input reads as it did. -/
def fdsBackSpec : ChangeSpec := { name := "fdsBack", fn := fun _ => fun
  | [d1, d2] => { results := [.lit (.bool true)], args := [d1, d2] }
  | _ => none }
def fdsBackRow : OpenClaim := { program := "ytlohaefhigbdjaa", sum := "86a922c1ee161d75e69ef9d66423c865d9f7dbcbac29898504ef2c0e571f3bb3", func := "fairlead/fairleadlaw20.FdsBack", spec := "fdsBack", apart := false }
def FdsBackSaid : Prop := fdsBackRow.holds Try.pinned (OpenSpec.ofChange fdsBackSpec)

/-- ITS FALSE NEIGHBOUR: 'it returns false'. Refute it at one input. -/
def fdsBackWrong : ChangeSpec := { name := "fdsBack", fn := fun _ => fun
  | [d1, d2] => { results := [.lit (.bool false)], args := [d1, d2] }
  | _ => none }
def FdsBackWrongFalsely : Prop := fdsBackRow.holds Try.pinned (OpenSpec.ofChange fdsBackWrong)

/- THE SECOND FORM. 'bulk': how many values and letters a reading holds, each counted each time it is reached (what is shared counts as often as it is met; a slice's spare places count too). A statement '..UptoSaid' is the law's where the arguments, and the package variables that the reading takes, are together of bulk at most 1048576: NARROWER than '..Said'. Prove '..Said' where nothing that the law and all that it calls make is longer than what came in: it says more and counts as full. Else prove '..UptoSaid'. A law counts once. -/
mutual
def uptoBulk {H : Type} : DataW H → Nat
  | .lit (.string bytes) => bytes.length + 1
  | .lit _ => 1
  | .nil => 1
  | .ptr d => uptoBulk d + 1
  | .slice elems spare => uptoBulkAll elems + uptoBulkAll spare + 1
  | .agg parts => uptoBulkAll parts + 1
  | .iface _ d => uptoBulk d + 1
  | .map entries => uptoBulkEntries entries + 1
  | .held _ => 1
def uptoBulkAll {H : Type} : List (DataW H) → Nat
  | [] => 0
  | d :: r => uptoBulk d + uptoBulkAll r
def uptoBulkEntries {H : Type} : List (Lit × DataW H) → Nat
  | [] => 0
  | x :: r => uptoBulkEntry x + uptoBulkEntries r
def uptoBulkEntry {H : Type} : Lit × DataW H → Nat
  | (.string bytes, d) => bytes.length + uptoBulk d + 1
  | (_, d) => uptoBulk d + 1
 end
def uptoSmall : (H : Type) → List (DataW H) → Bool := fun _ ds => decide (uptoBulkAll ds ≤ 1048576)
def OpenSpec.upto (s : _root_.Go.ChangeSpec) : _root_.Go.OpenSpec := { _root_.Go.OpenSpec.ofChange s with cond := some uptoSmall }

/-- 'fairleadlaw20.FdsFull', WHERE WHAT IT READS IS OF BULK AT MOST 1048576: true; the input reads as it did. -/
def fdsFullUptoRow : OpenClaim := { program := "ytlohaefhigbdjaa", sum := "86a922c1ee161d75e69ef9d66423c865d9f7dbcbac29898504ef2c0e571f3bb3", func := "fairlead/fairleadlaw20.FdsFull", spec := "fdsFull", apart := false, narrowed := true }
def FdsFullUptoSaid : Prop := fdsFullUptoRow.holds Try.pinned (OpenSpec.upto fdsFullSpec)

/-- 'fairleadlaw20.FdsPlays', WHERE WHAT IT READS IS OF BULK AT MOST 1048576: true; the input reads as it did. -/
def fdsPlaysUptoRow : OpenClaim := { program := "ytlohaefhigbdjaa", sum := "86a922c1ee161d75e69ef9d66423c865d9f7dbcbac29898504ef2c0e571f3bb3", func := "fairlead/fairleadlaw20.FdsPlays", spec := "fdsPlays", apart := false, narrowed := true }
def FdsPlaysUptoSaid : Prop := fdsPlaysUptoRow.holds Try.pinned (OpenSpec.upto fdsPlaysSpec)

/-- 'fairleadlaw20.FdsLowest', WHERE WHAT IT READS IS OF BULK AT MOST 1048576: true; the input reads as it did. -/
def fdsLowestUptoRow : OpenClaim := { program := "ytlohaefhigbdjaa", sum := "86a922c1ee161d75e69ef9d66423c865d9f7dbcbac29898504ef2c0e571f3bb3", func := "fairlead/fairleadlaw20.FdsLowest", spec := "fdsLowest", apart := false, narrowed := true }
def FdsLowestUptoSaid : Prop := fdsLowestUptoRow.holds Try.pinned (OpenSpec.upto fdsLowestSpec)

/-- 'fairleadlaw20.FdsBack', WHERE WHAT IT READS IS OF BULK AT MOST 1048576: true; the input reads as it did. -/
def fdsBackUptoRow : OpenClaim := { program := "ytlohaefhigbdjaa", sum := "86a922c1ee161d75e69ef9d66423c865d9f7dbcbac29898504ef2c0e571f3bb3", func := "fairlead/fairleadlaw20.FdsBack", spec := "fdsBack", apart := false, narrowed := true }
def FdsBackUptoSaid : Prop := fdsBackUptoRow.holds Try.pinned (OpenSpec.upto fdsBackSpec)

end Rows
end Go.Proofs.Ytlohaefhigbdjaa
