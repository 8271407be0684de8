/- The words that all texts of this family share. -/
import Derived.Test.YtoffjdomigofhaaProg
import Derived.Below
import Derived.Deep.Draws
import Derived.Deep.AppendLies
import Derived.Maps.AppendAt
import Derived.OwnWalk
import Derived.Laws.BytesArg
import Derived.Laws.MakeOwn
import Derived.Laws.OwnMore
import Derived.Deep.OwnRows
import Derived.Tactics
import Derived.Lib.ConvBytes
import Derived.Laws.Slices
import Derived.WalkKit
import Derived.KernelRfl
import Derived.RowKit3
import Derived.Deep.LoopGhost
import Derived.Deep.QuietTactic
import Derived.BigQuiet
import Derived.WideLaws
import Derived.Deep.DeepCutAuto
import Derived.Deep.CutBlock
import Derived.Deep.RegionHeld3
import Derived.Laws.Rows
import Derived.Lib.AppendStr
import Derived.ArgAppend
import Derived.Laws.IdiomCopy
import Derived.OrdersHeld
import Derived.Laws.BitsLemmas
import Derived.RowKit
import Derived.Test.YtoffjdomigofhaaWWords
import Derived.Test.YtoffjdomigofhaaWLast
import Derived.Test.YtoffjdomigofhaaWTab
import Derived.Test.YtoffjdomigofhaaWFour
import Derived.Test.YtoffjdomigofhaaWQPut
import Derived.Test.YtoffjdomigofhaaWApart
import Derived.Test.YtoffjdomigofhaaWArr
import Derived.Test.YtoffjdomigofhaaWZeros
import Derived.Test.YtoffjdomigofhaaWFoot
import Derived.Test.YtoffjdomigofhaaWKept
import Derived.Test.YtoffjdomigofhaaWShare
import Derived.Test.YtoffjdomigofhaaWN
import Derived.Test.YtoffjdomigofhaaWFootNe
import Derived.Test.YtoffjdomigofhaaWAt
import Derived.Test.YtoffjdomigofhaaWEqStruct
import Derived.Test.YtoffjdomigofhaaWRepsOne
import Derived.Test.YtoffjdomigofhaaWInv
import Derived.Test.YtoffjdomigofhaaWInvWords
import Derived.Test.YtoffjdomigofhaaWGuard
import Derived.Test.YtoffjdomigofhaaWNEv
import Derived.Test.YtoffjdomigofhaaWMore
import Derived.Lib.SlBytesConst
namespace Go.Proofs.Ytoffjdomigofhaa.Fns
open Go.RowKit Go.Proofs.YtoffjdomigofhaaW.PrintWords Go.Proofs.YtoffjdomigofhaaW.PrintLast Go.Proofs.YtoffjdomigofhaaW.PrintMore
attribute [local go_sem] max2_int min2_int max_two min_two max_three min_three max_four min_four
set_option linter.unusedVariables false
set_option linter.unusedSimpArgs false

def errW : Option Int → Value
  | none => .nilIface
  | some c => .iface 0 (.int .i64 c)

theorem errW_none : errW none = .nilIface := rfl

theorem errW_some (c : Int) : errW (some c) = .iface 0 (.int .i64 c) := rfl

theorem info5 : (Try.prog.info? 5).map (fun i => (i.zero, i.size, i.bytes)) = some (some (.int .u8 0), 1, 1) := by kernel_rfl
-- the values' own types

/-- The row of a constant string's bytes, as it lies behind its conversion: it reads as these bytes. -/
theorem const_reads (w : World) (e : TypeId) (l : List Int) (c d : Nat) (hm : l.length ≤ 9223372036854775807) :
    Kd.C (Kd.int .u8) (w.alloc (.cells (l.map (Value.int .u8)).toArray e (c, d))) (some ⟨w.heap.size, 0, none⟩) l.length l := by
  refine Kd.C_of_reads (d := (0 : Int)) (h1 := fun _ => rfl) ⟨rfl, hm, fun _ => ⟨_, rfl, fun j hj => ?_⟩⟩
  rw [add_plain, World.cell?_alloc_mark]
  simp [List.getD_eq_getElem?_getD, hj]


end Go.Proofs.Ytoffjdomigofhaa.Fns
