/- Lean functions that say what functions of the given program compute, and proofs by walking the code that each call does just that; no condition but those that each statement names. -/
import Derived.Test.YtablikjahajkkaaProg
import Derived.Below
import Derived.Deep.Draws
import Derived.Deep.AppendLies
import Derived.Maps.AppendAt
import Derived.OwnWalk
import Derived.Laws.BytesArg
import Derived.Laws.MakeOwn
import Derived.Laws.OwnMore
import Derived.Deep.OwnRows
import Derived.Tactics
import Derived.Lib.ConvBytes
import Derived.Laws.Slices
import Derived.WalkKit
import Derived.KernelRfl
import Derived.RowKit3
import Derived.Deep.LoopGhost
import Derived.Deep.QuietTactic
import Derived.BigQuiet
import Derived.WideLaws
import Derived.Deep.DeepCutAuto
import Derived.Deep.CutBlock
import Derived.Deep.RegionHeld3
import Derived.Laws.Rows
import Derived.Lib.AppendStr
import Derived.ArgAppend
import Derived.Laws.IdiomCopy
import Derived.OrdersHeld
import Derived.Laws.BitsLemmas
import Derived.RowKit
import Derived.Deep.RegionLaw
import Derived.Lib.SliceRun
import Derived.Test.YtablikjahajkkaaWWords
import Derived.Test.YtablikjahajkkaaWLast
import Derived.Test.YtablikjahajkkaaWTab
import Derived.Test.YtablikjahajkkaaWFour
import Derived.Test.YtablikjahajkkaaWQPut
import Derived.Test.YtablikjahajkkaaWApart
import Derived.Test.YtablikjahajkkaaWArr
import Derived.Test.YtablikjahajkkaaWZeros
import Derived.Test.YtablikjahajkkaaWFoot
import Derived.Test.YtablikjahajkkaaWKept
import Derived.Test.YtablikjahajkkaaWShare
import Derived.Test.YtablikjahajkkaaWN
import Derived.Test.YtablikjahajkkaaWFootNe
import Derived.Test.YtablikjahajkkaaWAt
import Derived.Test.YtablikjahajkkaaWEqStruct
import Derived.Test.YtablikjahajkkaaWRepsOne
import Derived.Test.YtablikjahajkkaaWInv
import Derived.Test.YtablikjahajkkaaWInvWords
import Derived.Test.YtablikjahajkkaaWGuard
import Derived.Test.YtablikjahajkkaaWNEv
import Derived.Test.YtablikjahajkkaaWMore
import Derived.Test.YtablikjahajkkaaGWords
namespace Go.Proofs.Ytablikjahajkkaa.PGateLast
open Go.RowKit Go.Proofs.YtablikjahajkkaaW.PrintWords Go.Proofs.YtablikjahajkkaaW.PrintLast Go.Proofs.YtablikjahajkkaaW.PrintMore
attribute [local go_sem] max2_int min2_int max_two min_two max_three min_three max_four min_four   -- for this text's walks alone
set_option linter.unusedVariables false
set_option linter.unusedSimpArgs false



def errW : Option Int → Value
  | none => .nilIface
  | some c => .iface 0 (.int .i64 c)
theorem errW_none : errW none = .nilIface := rfl
theorem errW_some (c : Int) : errW (some c) = .iface 0 (.int .i64 c) := rfl

theorem info3 : (Try.prog.info? 3).map (fun i => (i.zero, i.size, i.bytes)) = some (some (.int .i64 0), 1, 8) := by kernel_rfl
-- the values' own types

end Go.Proofs.Ytablikjahajkkaa.PGateLast
