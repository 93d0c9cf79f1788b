-- WRITTEN FOR THIS CLAIM by a program of this session (a copy of the print with given functions)
import Derived.Test.YtgldbbgcdpgbcaaProg
import Derived.Below
import Derived.Deep.Draws
import Derived.Deep.AppendLies
import Derived.Maps.AppendAt
import Derived.OwnWalk
import Derived.Laws.BytesArg
import Derived.Laws.MakeOwn
import Derived.Laws.OwnMore
import Derived.Deep.OwnRows
import Derived.Tactics
import Derived.Lib.ConvBytes
import Derived.Laws.Slices
import Derived.WalkKit
import Derived.KernelRfl
import Derived.RowKit3
import Derived.Deep.LoopGhost
import Derived.Deep.QuietTactic
import Derived.BigQuiet
import Derived.WideLaws
import Derived.Deep.DeepCutAuto
import Derived.Deep.CutBlock
import Derived.Deep.RegionHeld3
import Derived.Laws.Rows
import Derived.Lib.AppendStr
import Derived.ArgAppend
import Derived.Laws.IdiomCopy
import Derived.OrdersHeld
import Derived.Laws.BitsLemmas
import Derived.RowKit
import Derived.Test.YtgldbbgcdpgbcaaWWords
import Derived.Test.YtgldbbgcdpgbcaaWLast
import Derived.Test.YtgldbbgcdpgbcaaWTab
import Derived.Test.YtgldbbgcdpgbcaaWFour
import Derived.Test.YtgldbbgcdpgbcaaWQPut
import Derived.Test.YtgldbbgcdpgbcaaWApart
import Derived.Test.YtgldbbgcdpgbcaaWArr
import Derived.Test.YtgldbbgcdpgbcaaWZeros
import Derived.Test.YtgldbbgcdpgbcaaWFoot
import Derived.Test.YtgldbbgcdpgbcaaWKept
import Derived.Test.YtgldbbgcdpgbcaaWShare
import Derived.Test.YtgldbbgcdpgbcaaWN
import Derived.Test.YtgldbbgcdpgbcaaWFootNe
import Derived.Test.YtgldbbgcdpgbcaaWAt
import Derived.Test.YtgldbbgcdpgbcaaWEqStruct
import Derived.Test.YtgldbbgcdpgbcaaWRepsOne
import Derived.Test.YtgldbbgcdpgbcaaWInv
import Derived.Test.YtgldbbgcdpgbcaaWInvWords
import Derived.Test.YtgldbbgcdpgbcaaWGuard
import Derived.Test.YtgldbbgcdpgbcaaWNEv
import Derived.Test.YtgldbbgcdpgbcaaWMore
import Derived.Test.YtgldbbgcdpgbcaaOct
import Derived.Test.YtgldbbgcdpgbcaaCs
import Derived.Test.YtgldbbgcdpgbcaaNx
import Derived.Test.YtgldbbgcdpgbcaaVal
namespace Go.Proofs.Ytgldbbgcdpgbcaa.PAll
open Go.RowKit Go.Proofs.YtgldbbgcdpgbcaaW.PrintWords Go.Proofs.YtgldbbgcdpgbcaaW.PrintLast Go.Proofs.YtgldbbgcdpgbcaaW.PrintMore
attribute [local go_sem] max2_int min2_int max_two min_two max_three min_three max_four min_four   -- for this text's walks alone
set_option linter.unusedVariables false
set_option linter.unusedSimpArgs false



def errW : Option Int → Value
  | none => .nilIface
  | some c => .iface 0 (.int .i64 c)
theorem errW_none : errW none = .nilIface := rfl
theorem errW_some (c : Int) : errW (some c) = .iface 0 (.int .i64 c) := rfl

theorem info3 : (Try.prog.info? 3).map (fun i => (i.zero, i.size, i.bytes)) = some (some (.int .i64 0), 1, 8) := by kernel_rfl
theorem info5 : (Try.prog.info? 5).map (fun i => (i.zero, i.size, i.bytes)) = some (some (.int .u8 0), 1, 1) := by kernel_rfl
-- the values' own types

end Go.Proofs.Ytgldbbgcdpgbcaa.PAll
