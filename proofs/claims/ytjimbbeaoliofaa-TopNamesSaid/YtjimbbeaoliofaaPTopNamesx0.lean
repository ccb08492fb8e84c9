-- PRINTED BY print.sh 35421559b90ae4d0a3588c463048766b98c2df88dd9212a6774a882060cdf62d: not written by this session
import Derived.Test.YtjimbbeaoliofaaProg
import Derived.Below
import Derived.Deep.Draws
import Derived.Deep.AppendLies
import Derived.Maps.AppendAt
import Derived.OwnWalk
import Derived.Laws.BytesArg
import Derived.Laws.MakeOwn
import Derived.Laws.OwnMore
import Derived.Deep.OwnRows
import Derived.Tactics
import Derived.Lib.ConvBytes
import Derived.Laws.Slices
import Derived.WalkKit
import Derived.KernelRfl
import Derived.RowKit3
import Derived.Deep.LoopGhost
import Derived.Deep.QuietTactic
import Derived.BigQuiet
import Derived.WideLaws
import Derived.Deep.DeepCutAuto
import Derived.Deep.CutBlock
import Derived.Deep.RegionHeld3
import Derived.Laws.Rows
import Derived.Lib.AppendStr
import Derived.ArgAppend
import Derived.Laws.IdiomCopy
import Derived.OrdersHeld
import Derived.Laws.BitsLemmas
import Derived.RowKit
import Derived.Test.YtjimbbeaoliofaaWWords
import Derived.Test.YtjimbbeaoliofaaWLast
import Derived.Test.YtjimbbeaoliofaaWTab
import Derived.Test.YtjimbbeaoliofaaWFour
import Derived.Test.YtjimbbeaoliofaaWQPut
import Derived.Test.YtjimbbeaoliofaaWApart
import Derived.Test.YtjimbbeaoliofaaWArr
import Derived.Test.YtjimbbeaoliofaaWZeros
import Derived.Test.YtjimbbeaoliofaaWFoot
import Derived.Test.YtjimbbeaoliofaaWKept
import Derived.Test.YtjimbbeaoliofaaWShare
import Derived.Test.YtjimbbeaoliofaaWN
import Derived.Test.YtjimbbeaoliofaaWFootNe
import Derived.Test.YtjimbbeaoliofaaWAt
import Derived.Test.YtjimbbeaoliofaaWEqStruct
import Derived.Test.YtjimbbeaoliofaaWRepsOne
import Derived.Test.YtjimbbeaoliofaaWInv
import Derived.Test.YtjimbbeaoliofaaWInvWords
import Derived.Test.YtjimbbeaoliofaaWGuard
import Derived.Test.YtjimbbeaoliofaaWNEv
import Derived.Test.YtjimbbeaoliofaaWMore
namespace Go.Proofs.Ytjimbbeaoliofaa.PTopNames
open Go.RowKit Go.Proofs.YtjimbbeaoliofaaW.PrintWords Go.Proofs.YtjimbbeaoliofaaW.PrintLast Go.Proofs.YtjimbbeaoliofaaW.PrintMore
attribute [local go_sem] max2_int min2_int max_two min_two max_three min_three max_four min_four   -- for this text's walks alone
set_option linter.unusedVariables false
set_option linter.unusedSimpArgs false



def errW : Option Int → Value
  | none => .nilIface
  | some c => .iface 0 (.int .i64 c)
theorem errW_none : errW none = .nilIface := rfl
theorem errW_some (c : Int) : errW (some c) = .iface 0 (.int .i64 c) := rfl

theorem info22 : (Try.prog.info? 22).map (fun i => (i.zero, i.size, i.bytes)) = some (some (.int .i64 0), 1, 8) := by kernel_rfl
-- the values' own types

end Go.Proofs.Ytjimbbeaoliofaa.PTopNames
