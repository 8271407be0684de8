/- The words that all texts of this family share. -/
import Derived.Test.YtioccjeiheejjaaProg
import Derived.Below
import Derived.Deep.Draws
import Derived.Deep.AppendLies
import Derived.Maps.AppendAt
import Derived.OwnWalk
import Derived.Laws.BytesArg
import Derived.Laws.MakeOwn
import Derived.Laws.OwnMore
import Derived.Deep.OwnRows
import Derived.Tactics
import Derived.Lib.ConvBytes
import Derived.Laws.Slices
import Derived.WalkKit
import Derived.KernelRfl
import Derived.RowKit3
import Derived.Deep.LoopGhost
import Derived.Deep.QuietTactic
import Derived.BigQuiet
import Derived.WideLaws
import Derived.Deep.DeepCutAuto
import Derived.Deep.CutBlock
import Derived.Deep.RegionHeld3
import Derived.Laws.Rows
import Derived.Lib.AppendStr
import Derived.ArgAppend
import Derived.Laws.IdiomCopy
import Derived.OrdersHeld
import Derived.Laws.BitsLemmas
import Derived.RowKit
import Derived.Test.YtioccjeiheejjaaWWords
import Derived.Test.YtioccjeiheejjaaWLast
import Derived.Test.YtioccjeiheejjaaWTab
import Derived.Test.YtioccjeiheejjaaWFour
import Derived.Test.YtioccjeiheejjaaWQPut
import Derived.Test.YtioccjeiheejjaaWApart
import Derived.Test.YtioccjeiheejjaaWArr
import Derived.Test.YtioccjeiheejjaaWZeros
import Derived.Test.YtioccjeiheejjaaWFoot
import Derived.Test.YtioccjeiheejjaaWKept
import Derived.Test.YtioccjeiheejjaaWShare
import Derived.Test.YtioccjeiheejjaaWN
import Derived.Test.YtioccjeiheejjaaWFootNe
import Derived.Test.YtioccjeiheejjaaWAt
import Derived.Test.YtioccjeiheejjaaWEqStruct
import Derived.Test.YtioccjeiheejjaaWRepsOne
import Derived.Test.YtioccjeiheejjaaWInv
import Derived.Test.YtioccjeiheejjaaWInvWords
import Derived.Test.YtioccjeiheejjaaWGuard
import Derived.Test.YtioccjeiheejjaaWNEv
import Derived.Test.YtioccjeiheejjaaWMore
namespace Go.Proofs.Ytioccjeiheejjaa.Fns
open Go.RowKit Go.Proofs.YtioccjeiheejjaaW.PrintWords Go.Proofs.YtioccjeiheejjaaW.PrintLast Go.Proofs.YtioccjeiheejjaaW.PrintMore
attribute [local go_sem] max2_int min2_int max_two min_two max_three min_three max_four min_four
set_option linter.unusedVariables false
set_option linter.unusedSimpArgs false

def errW : Option Int → Value
  | none => .nilIface
  | some c => .iface 0 (.int .i64 c)

theorem errW_none : errW none = .nilIface := rfl

theorem errW_some (c : Int) : errW (some c) = .iface 0 (.int .i64 c) := rfl

theorem info3 : (Try.prog.info? 3).map (fun i => (i.zero, i.size, i.bytes)) = some (some (.int .i64 0), 1, 8) := by kernel_rfl
-- the values' own types

end Go.Proofs.Ytioccjeiheejjaa.Fns
