-- PRINTED BY print.sh 35421559b90ae4d0a3588c463048766b98c2df88dd9212a6774a882060cdf62d: not written by this session
import Derived.Test.YtmkfeanggmjhmaaProg
import Derived.Below
import Derived.Deep.Draws
import Derived.Deep.AppendLies
import Derived.Maps.AppendAt
import Derived.OwnWalk
import Derived.Laws.BytesArg
import Derived.Laws.MakeOwn
import Derived.Laws.OwnMore
import Derived.Deep.OwnRows
import Derived.Tactics
import Derived.Lib.ConvBytes
import Derived.Laws.Slices
import Derived.WalkKit
import Derived.KernelRfl
import Derived.RowKit3
import Derived.Deep.LoopGhost
import Derived.Deep.QuietTactic
import Derived.BigQuiet
import Derived.WideLaws
import Derived.Deep.DeepCutAuto
import Derived.Deep.CutBlock
import Derived.Deep.RegionHeld3
import Derived.Laws.Rows
import Derived.Lib.AppendStr
import Derived.ArgAppend
import Derived.Laws.IdiomCopy
import Derived.OrdersHeld
import Derived.Laws.BitsLemmas
import Derived.RowKit
import Derived.Test.YtmkfeanggmjhmaaWWords
import Derived.Test.YtmkfeanggmjhmaaWLast
import Derived.Test.YtmkfeanggmjhmaaWTab
import Derived.Test.YtmkfeanggmjhmaaWFour
import Derived.Test.YtmkfeanggmjhmaaWQPut
import Derived.Test.YtmkfeanggmjhmaaWApart
import Derived.Test.YtmkfeanggmjhmaaWArr
import Derived.Test.YtmkfeanggmjhmaaWZeros
import Derived.Test.YtmkfeanggmjhmaaWFoot
import Derived.Test.YtmkfeanggmjhmaaWKept
import Derived.Test.YtmkfeanggmjhmaaWShare
import Derived.Test.YtmkfeanggmjhmaaWN
import Derived.Test.YtmkfeanggmjhmaaWFootNe
import Derived.Test.YtmkfeanggmjhmaaWAt
import Derived.Test.YtmkfeanggmjhmaaWEqStruct
import Derived.Test.YtmkfeanggmjhmaaWRepsOne
import Derived.Test.YtmkfeanggmjhmaaWInv
import Derived.Test.YtmkfeanggmjhmaaWInvWords
import Derived.Test.YtmkfeanggmjhmaaWGuard
import Derived.Test.YtmkfeanggmjhmaaWNEv
import Derived.Test.YtmkfeanggmjhmaaWMore
namespace Go.Proofs.Ytmkfeanggmjhmaa.PTokenSymbols
open Go.RowKit Go.Proofs.YtmkfeanggmjhmaaW.PrintWords Go.Proofs.YtmkfeanggmjhmaaW.PrintLast Go.Proofs.YtmkfeanggmjhmaaW.PrintMore
attribute [local go_sem] max2_int min2_int max_two min_two max_three min_three max_four min_four   -- for this text's walks alone
set_option linter.unusedVariables false
set_option linter.unusedSimpArgs false



def errW : Option Int → Value
  | none => .nilIface
  | some c => .iface 0 (.int .i64 c)
theorem errW_none : errW none = .nilIface := rfl
theorem errW_some (c : Int) : errW (some c) = .iface 0 (.int .i64 c) := rfl

theorem info9 : (Try.prog.info? 9).map (fun i => (i.zero, i.size, i.bytes)) = some (some (.string ⟨#[]⟩), 1, 16) := by kernel_rfl
-- the values' own types

end Go.Proofs.Ytmkfeanggmjhmaa.PTokenSymbols
