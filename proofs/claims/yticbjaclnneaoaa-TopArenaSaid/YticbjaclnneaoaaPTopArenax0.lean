-- PRINTED BY print.sh 35421559b90ae4d0a3588c463048766b98c2df88dd9212a6774a882060cdf62d: not written by this session
import Derived.Test.YticbjaclnneaoaaProg
import Derived.Below
import Derived.Deep.Draws
import Derived.Deep.AppendLies
import Derived.Maps.AppendAt
import Derived.OwnWalk
import Derived.Laws.BytesArg
import Derived.Laws.MakeOwn
import Derived.Laws.OwnMore
import Derived.Deep.OwnRows
import Derived.Tactics
import Derived.Lib.ConvBytes
import Derived.Laws.Slices
import Derived.WalkKit
import Derived.KernelRfl
import Derived.RowKit3
import Derived.Deep.LoopGhost
import Derived.Deep.QuietTactic
import Derived.BigQuiet
import Derived.WideLaws
import Derived.Deep.DeepCutAuto
import Derived.Deep.CutBlock
import Derived.Deep.RegionHeld3
import Derived.Laws.Rows
import Derived.Lib.AppendStr
import Derived.ArgAppend
import Derived.Laws.IdiomCopy
import Derived.OrdersHeld
import Derived.Laws.BitsLemmas
import Derived.RowKit
import Derived.Test.YticbjaclnneaoaaWWords
import Derived.Test.YticbjaclnneaoaaWLast
import Derived.Test.YticbjaclnneaoaaWTab
import Derived.Test.YticbjaclnneaoaaWFour
import Derived.Test.YticbjaclnneaoaaWQPut
import Derived.Test.YticbjaclnneaoaaWApart
import Derived.Test.YticbjaclnneaoaaWArr
import Derived.Test.YticbjaclnneaoaaWZeros
import Derived.Test.YticbjaclnneaoaaWFoot
import Derived.Test.YticbjaclnneaoaaWKept
import Derived.Test.YticbjaclnneaoaaWShare
import Derived.Test.YticbjaclnneaoaaWN
import Derived.Test.YticbjaclnneaoaaWFootNe
import Derived.Test.YticbjaclnneaoaaWAt
import Derived.Test.YticbjaclnneaoaaWEqStruct
import Derived.Test.YticbjaclnneaoaaWRepsOne
import Derived.Test.YticbjaclnneaoaaWInv
import Derived.Test.YticbjaclnneaoaaWInvWords
import Derived.Test.YticbjaclnneaoaaWGuard
import Derived.Test.YticbjaclnneaoaaWNEv
import Derived.Test.YticbjaclnneaoaaWMore
namespace Go.Proofs.Yticbjaclnneaoaa.PTopArena
open Go.RowKit Go.Proofs.YticbjaclnneaoaaW.PrintWords Go.Proofs.YticbjaclnneaoaaW.PrintLast Go.Proofs.YticbjaclnneaoaaW.PrintMore
attribute [local go_sem] max2_int min2_int max_two min_two max_three min_three max_four min_four   -- for this text's walks alone
set_option linter.unusedVariables false
set_option linter.unusedSimpArgs false



def errW : Option Int → Value
  | none => .nilIface
  | some c => .iface 0 (.int .i64 c)
theorem errW_none : errW none = .nilIface := rfl
theorem errW_some (c : Int) : errW (some c) = .iface 0 (.int .i64 c) := rfl

theorem info3 : (Try.prog.info? 3).map (fun i => (i.zero, i.size, i.bytes)) = some (some (.int .i64 0), 1, 8) := by kernel_rfl
-- the values' own types

end Go.Proofs.Yticbjaclnneaoaa.PTopArena
