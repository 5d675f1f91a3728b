-- PRINTED BY print.sh 35421559b90ae4d0a3588c463048766b98c2df88dd9212a6774a882060cdf62d: not written by this session
import Derived.Test.YtnbelpndlkbepaaProg
import Derived.Below
import Derived.Deep.Draws
import Derived.Deep.AppendLies
import Derived.Maps.AppendAt
import Derived.OwnWalk
import Derived.Laws.BytesArg
import Derived.Laws.MakeOwn
import Derived.Laws.OwnMore
import Derived.Deep.OwnRows
import Derived.Tactics
import Derived.Lib.ConvBytes
import Derived.Laws.Slices
import Derived.WalkKit
import Derived.KernelRfl
import Derived.RowKit3
import Derived.Deep.LoopGhost
import Derived.Deep.QuietTactic
import Derived.BigQuiet
import Derived.WideLaws
import Derived.Deep.DeepCutAuto
import Derived.Deep.CutBlock
import Derived.Deep.RegionHeld3
import Derived.Laws.Rows
import Derived.Lib.AppendStr
import Derived.ArgAppend
import Derived.Laws.IdiomCopy
import Derived.OrdersHeld
import Derived.Laws.BitsLemmas
import Derived.RowKit
import Derived.Test.YtnbelpndlkbepaaWWords
import Derived.Test.YtnbelpndlkbepaaWLast
import Derived.Test.YtnbelpndlkbepaaWTab
import Derived.Test.YtnbelpndlkbepaaWFour
import Derived.Test.YtnbelpndlkbepaaWQPut
import Derived.Test.YtnbelpndlkbepaaWApart
import Derived.Test.YtnbelpndlkbepaaWArr
import Derived.Test.YtnbelpndlkbepaaWZeros
import Derived.Test.YtnbelpndlkbepaaWFoot
import Derived.Test.YtnbelpndlkbepaaWKept
import Derived.Test.YtnbelpndlkbepaaWShare
import Derived.Test.YtnbelpndlkbepaaWN
import Derived.Test.YtnbelpndlkbepaaWFootNe
import Derived.Test.YtnbelpndlkbepaaWAt
import Derived.Test.YtnbelpndlkbepaaWEqStruct
import Derived.Test.YtnbelpndlkbepaaWRepsOne
import Derived.Test.YtnbelpndlkbepaaWInv
import Derived.Test.YtnbelpndlkbepaaWInvWords
import Derived.Test.YtnbelpndlkbepaaWGuard
import Derived.Test.YtnbelpndlkbepaaWNEv
import Derived.Test.YtnbelpndlkbepaaWMore
namespace Go.Proofs.Ytnbelpndlkbepaa.PPackFits
open Go.RowKit Go.Proofs.YtnbelpndlkbepaaW.PrintWords Go.Proofs.YtnbelpndlkbepaaW.PrintLast Go.Proofs.YtnbelpndlkbepaaW.PrintMore
attribute [local go_sem] max2_int min2_int max_two min_two max_three min_three max_four min_four   -- for this text's walks alone
set_option linter.unusedVariables false
set_option linter.unusedSimpArgs false



def errW : Option Int → Value
  | none => .nilIface
  | some c => .iface 0 (.int .i64 c)
theorem errW_none : errW none = .nilIface := rfl
theorem errW_some (c : Int) : errW (some c) = .iface 0 (.int .i64 c) := rfl

-- the values' own types

end Go.Proofs.Ytnbelpndlkbepaa.PPackFits
