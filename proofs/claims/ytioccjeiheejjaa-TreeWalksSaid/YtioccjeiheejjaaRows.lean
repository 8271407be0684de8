/-
  No cell of these rows narrows 'for every input' (looked for: loops, veiled, ifaces, maps, wideKeys, modest, calm, conditions, laid).
  DERIVED. THE GIVEN ROWS OF THIS SEAT. 6 by the template 'for every input the law returns true; each argument reads behind the call as it read before'; 0 by the template 'total and deterministic' (their statements: YtioccjeiheejjaaTotals.lean).
  GIVEN WITH THE SEED: the statements are not yours to turn. If you find one false, say at which input.
  Laid BY PROGRAM, IN A SANDBOX (cutbox-rows.mjs): the forced cells as the released guide's own fill.sh prints them over the translation 9a27ed8936d1dd41… (all of the seat's roots in one cut). By AI agents, Wed Nov 11 2026. No macro, syntax, notation, axiom, sorry.
-/
import Derived.Test.YtioccjeiheejjaaChecked
import GoSem.Claim
import GoSem.ClaimJoined
import GoSem.ClaimMapViews
import Derived.JoinedTies
import Derived.KernelRfl
namespace Go.Proofs.Ytioccjeiheejjaa
/- THE CELL 'sum', in the pinned program and in every row, IS THE sha256 OF THE DUMP (.gsa) THAT YtioccjeiheejjaaProg.lean LOADS. Nothing in Lean hashes anything: it is a label: what it is worth is what the hold of that sum in a sandbox is worth. -/
noncomputable def Try.pinned : Pinned := { name := "ytioccjeiheejjaa", sum := "9a27ed8936d1dd41ca20a2dbee337ea1e5e07d00806208587885999b3cae5020", checked := Try.checked }
namespace Rows
def none {H : Type} : Left H := { results := [], args := [] }

/-- 'fairleadlaw13.TreeBuilds': WHATEVER THE INPUT: true; the input reads as it did. -/
def treeBuildsSpec : ChangeSpec := { name := "treeBuilds", fn := fun _ => fun
  | [d] => { results := [.lit (.bool true)], args := [d] }
  | _ => none }
def treeBuildsRow : OpenClaim := { program := "ytioccjeiheejjaa", sum := "9a27ed8936d1dd41ca20a2dbee337ea1e5e07d00806208587885999b3cae5020", func := "fairlead/fairleadlaw13.TreeBuilds", spec := "treeBuilds", unfollowed := true, recurses := true, apart := false }
def TreeBuildsSaid : Prop := treeBuildsRow.holds Try.pinned (OpenSpec.ofChange treeBuildsSpec)

/-- ITS FALSE NEIGHBOUR: 'it returns false'. Refute it at one input. -/
def treeBuildsWrong : ChangeSpec := { name := "treeBuilds", fn := fun _ => fun
  | [d] => { results := [.lit (.bool false)], args := [d] }
  | _ => none }
def TreeBuildsWrongFalsely : Prop := treeBuildsRow.holds Try.pinned (OpenSpec.ofChange treeBuildsWrong)

/-- 'fairleadlaw13.TreeWalks': WHATEVER THE INPUT: true; the input reads as it did. -/
def treeWalksSpec : ChangeSpec := { name := "treeWalks", fn := fun _ => fun
  | [d1, d2] => { results := [.lit (.bool true)], args := [d1, d2] }
  | _ => none }
def treeWalksRow : OpenClaim := { program := "ytioccjeiheejjaa", sum := "9a27ed8936d1dd41ca20a2dbee337ea1e5e07d00806208587885999b3cae5020", func := "fairlead/fairleadlaw13.TreeWalks", spec := "treeWalks", unfollowed := true, recurses := true, apart := false }
def TreeWalksSaid : Prop := treeWalksRow.holds Try.pinned (OpenSpec.ofChange treeWalksSpec)

/-- ITS FALSE NEIGHBOUR: 'it returns false'. Refute it at one input. -/
def treeWalksWrong : ChangeSpec := { name := "treeWalks", fn := fun _ => fun
  | [d1, d2] => { results := [.lit (.bool false)], args := [d1, d2] }
  | _ => none }
def TreeWalksWrongFalsely : Prop := treeWalksRow.holds Try.pinned (OpenSpec.ofChange treeWalksWrong)

/-- 'fairleadlaw13.TreeOnce': WHATEVER THE INPUT: true; the input reads as it did. -/
def treeOnceSpec : ChangeSpec := { name := "treeOnce", fn := fun _ => fun
  | [d] => { results := [.lit (.bool true)], args := [d] }
  | _ => none }
def treeOnceRow : OpenClaim := { program := "ytioccjeiheejjaa", sum := "9a27ed8936d1dd41ca20a2dbee337ea1e5e07d00806208587885999b3cae5020", func := "fairlead/fairleadlaw13.TreeOnce", spec := "treeOnce", unfollowed := true, recurses := true, apart := false }
def TreeOnceSaid : Prop := treeOnceRow.holds Try.pinned (OpenSpec.ofChange treeOnceSpec)

/-- ITS FALSE NEIGHBOUR: 'it returns false'. Refute it at one input. -/
def treeOnceWrong : ChangeSpec := { name := "treeOnce", fn := fun _ => fun
  | [d] => { results := [.lit (.bool false)], args := [d] }
  | _ => none }
def TreeOnceWrongFalsely : Prop := treeOnceRow.holds Try.pinned (OpenSpec.ofChange treeOnceWrong)

/-- 'fairleadlaw13.TreeHalves': WHATEVER THE INPUT: true; the input reads as it did. -/
def treeHalvesSpec : ChangeSpec := { name := "treeHalves", fn := fun _ => fun
  | [d] => { results := [.lit (.bool true)], args := [d] }
  | _ => none }
def treeHalvesRow : OpenClaim := { program := "ytioccjeiheejjaa", sum := "9a27ed8936d1dd41ca20a2dbee337ea1e5e07d00806208587885999b3cae5020", func := "fairlead/fairleadlaw13.TreeHalves", spec := "treeHalves", unfollowed := true, recurses := true, apart := false }
def TreeHalvesSaid : Prop := treeHalvesRow.holds Try.pinned (OpenSpec.ofChange treeHalvesSpec)

/-- ITS FALSE NEIGHBOUR: 'it returns false'. Refute it at one input. -/
def treeHalvesWrong : ChangeSpec := { name := "treeHalves", fn := fun _ => fun
  | [d] => { results := [.lit (.bool false)], args := [d] }
  | _ => none }
def TreeHalvesWrongFalsely : Prop := treeHalvesRow.holds Try.pinned (OpenSpec.ofChange treeHalvesWrong)

/-- 'fairleadlaw13.TreePaths': WHATEVER THE INPUT: true; the input reads as it did. -/
def treePathsSpec : ChangeSpec := { name := "treePaths", fn := fun _ => fun
  | [d1, d2, d3] => { results := [.lit (.bool true)], args := [d1, d2, d3] }
  | _ => none }
def treePathsRow : OpenClaim := { program := "ytioccjeiheejjaa", sum := "9a27ed8936d1dd41ca20a2dbee337ea1e5e07d00806208587885999b3cae5020", func := "fairlead/fairleadlaw13.TreePaths", spec := "treePaths", unfollowed := true, recurses := true, apart := false }
def TreePathsSaid : Prop := treePathsRow.holds Try.pinned (OpenSpec.ofChange treePathsSpec)

/-- ITS FALSE NEIGHBOUR: 'it returns false'. Refute it at one input. -/
def treePathsWrong : ChangeSpec := { name := "treePaths", fn := fun _ => fun
  | [d1, d2, d3] => { results := [.lit (.bool false)], args := [d1, d2, d3] }
  | _ => none }
def TreePathsWrongFalsely : Prop := treePathsRow.holds Try.pinned (OpenSpec.ofChange treePathsWrong)

/-- 'fairleadlaw13.TreeFinds': WHATEVER THE INPUT: true; the input reads as it did. -/
def treeFindsSpec : ChangeSpec := { name := "treeFinds", fn := fun _ => fun
  | [d1, d2] => { results := [.lit (.bool true)], args := [d1, d2] }
  | _ => none }
def treeFindsRow : OpenClaim := { program := "ytioccjeiheejjaa", sum := "9a27ed8936d1dd41ca20a2dbee337ea1e5e07d00806208587885999b3cae5020", func := "fairlead/fairleadlaw13.TreeFinds", spec := "treeFinds", unfollowed := true, recurses := true, apart := false }
def TreeFindsSaid : Prop := treeFindsRow.holds Try.pinned (OpenSpec.ofChange treeFindsSpec)

/-- ITS FALSE NEIGHBOUR: 'it returns false'. Refute it at one input. -/
def treeFindsWrong : ChangeSpec := { name := "treeFinds", fn := fun _ => fun
  | [d1, d2] => { results := [.lit (.bool false)], args := [d1, d2] }
  | _ => none }
def TreeFindsWrongFalsely : Prop := treeFindsRow.holds Try.pinned (OpenSpec.ofChange treeFindsWrong)

/- THE SECOND FORM. 'bulk': how many values and letters a reading holds, each counted each time it is reached (what is shared counts as often as it is met; a slice's spare places count too). A statement '..UptoSaid' is the law's where the arguments, and the package variables that the reading takes, are together of bulk at most 1048576: NARROWER than '..Said'. Prove '..Said' where nothing that the law and all that it calls make is longer than what came in: it says more and counts as full. Else prove '..UptoSaid'. A law counts once. -/
mutual
def uptoBulk {H : Type} : DataW H → Nat
  | .lit (.string bytes) => bytes.length + 1
  | .lit _ => 1
  | .nil => 1
  | .ptr d => uptoBulk d + 1
  | .slice elems spare => uptoBulkAll elems + uptoBulkAll spare + 1
  | .agg parts => uptoBulkAll parts + 1
  | .iface _ d => uptoBulk d + 1
  | .map entries => uptoBulkEntries entries + 1
  | .held _ => 1
def uptoBulkAll {H : Type} : List (DataW H) → Nat
  | [] => 0
  | d :: r => uptoBulk d + uptoBulkAll r
def uptoBulkEntries {H : Type} : List (Lit × DataW H) → Nat
  | [] => 0
  | x :: r => uptoBulkEntry x + uptoBulkEntries r
def uptoBulkEntry {H : Type} : Lit × DataW H → Nat
  | (.string bytes, d) => bytes.length + uptoBulk d + 1
  | (_, d) => uptoBulk d + 1
 end
def uptoSmall : (H : Type) → List (DataW H) → Bool := fun _ ds => decide (uptoBulkAll ds ≤ 1048576)
def OpenSpec.upto (s : _root_.Go.ChangeSpec) : _root_.Go.OpenSpec := { _root_.Go.OpenSpec.ofChange s with cond := some uptoSmall }

/-- 'fairleadlaw13.TreeBuilds', WHERE WHAT IT READS IS OF BULK AT MOST 1048576: true; the input reads as it did. -/
def treeBuildsUptoRow : OpenClaim := { program := "ytioccjeiheejjaa", sum := "9a27ed8936d1dd41ca20a2dbee337ea1e5e07d00806208587885999b3cae5020", func := "fairlead/fairleadlaw13.TreeBuilds", spec := "treeBuilds", unfollowed := true, recurses := true, apart := false, narrowed := true }
def TreeBuildsUptoSaid : Prop := treeBuildsUptoRow.holds Try.pinned (OpenSpec.upto treeBuildsSpec)

/-- 'fairleadlaw13.TreeWalks', WHERE WHAT IT READS IS OF BULK AT MOST 1048576: true; the input reads as it did. -/
def treeWalksUptoRow : OpenClaim := { program := "ytioccjeiheejjaa", sum := "9a27ed8936d1dd41ca20a2dbee337ea1e5e07d00806208587885999b3cae5020", func := "fairlead/fairleadlaw13.TreeWalks", spec := "treeWalks", unfollowed := true, recurses := true, apart := false, narrowed := true }
def TreeWalksUptoSaid : Prop := treeWalksUptoRow.holds Try.pinned (OpenSpec.upto treeWalksSpec)

/-- 'fairleadlaw13.TreeOnce', WHERE WHAT IT READS IS OF BULK AT MOST 1048576: true; the input reads as it did. -/
def treeOnceUptoRow : OpenClaim := { program := "ytioccjeiheejjaa", sum := "9a27ed8936d1dd41ca20a2dbee337ea1e5e07d00806208587885999b3cae5020", func := "fairlead/fairleadlaw13.TreeOnce", spec := "treeOnce", unfollowed := true, recurses := true, apart := false, narrowed := true }
def TreeOnceUptoSaid : Prop := treeOnceUptoRow.holds Try.pinned (OpenSpec.upto treeOnceSpec)

/-- 'fairleadlaw13.TreeHalves', WHERE WHAT IT READS IS OF BULK AT MOST 1048576: true; the input reads as it did. -/
def treeHalvesUptoRow : OpenClaim := { program := "ytioccjeiheejjaa", sum := "9a27ed8936d1dd41ca20a2dbee337ea1e5e07d00806208587885999b3cae5020", func := "fairlead/fairleadlaw13.TreeHalves", spec := "treeHalves", unfollowed := true, recurses := true, apart := false, narrowed := true }
def TreeHalvesUptoSaid : Prop := treeHalvesUptoRow.holds Try.pinned (OpenSpec.upto treeHalvesSpec)

/-- 'fairleadlaw13.TreePaths', WHERE WHAT IT READS IS OF BULK AT MOST 1048576: true; the input reads as it did. -/
def treePathsUptoRow : OpenClaim := { program := "ytioccjeiheejjaa", sum := "9a27ed8936d1dd41ca20a2dbee337ea1e5e07d00806208587885999b3cae5020", func := "fairlead/fairleadlaw13.TreePaths", spec := "treePaths", unfollowed := true, recurses := true, apart := false, narrowed := true }
def TreePathsUptoSaid : Prop := treePathsUptoRow.holds Try.pinned (OpenSpec.upto treePathsSpec)

/-- 'fairleadlaw13.TreeFinds', WHERE WHAT IT READS IS OF BULK AT MOST 1048576: true; the input reads as it did. -/
def treeFindsUptoRow : OpenClaim := { program := "ytioccjeiheejjaa", sum := "9a27ed8936d1dd41ca20a2dbee337ea1e5e07d00806208587885999b3cae5020", func := "fairlead/fairleadlaw13.TreeFinds", spec := "treeFinds", unfollowed := true, recurses := true, apart := false, narrowed := true }
def TreeFindsUptoSaid : Prop := treeFindsUptoRow.holds Try.pinned (OpenSpec.upto treeFindsSpec)

end Rows
end Go.Proofs.Ytioccjeiheejjaa
