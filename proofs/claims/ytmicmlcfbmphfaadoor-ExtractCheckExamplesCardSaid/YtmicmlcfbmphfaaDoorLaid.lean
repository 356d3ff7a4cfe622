/- A world in which the seat's laid variables read as the program lays them (a witness), and what all cards of the seat need.
   No conditions: closed facts of the given program. -/
import Derived.Test.YtmicmlcfbmphfaaDoorAeArgs
import Derived.Test.YtmicmlcfbmphfaaDoorCards
import Derived.Test.YtmicmlcfbmphfaaDoorTie
import Derived.Deep.DeepHandedRow
import Derived.SevenTiedAt
import Derived.LaidLaws
import Derived.WalkKit
import Derived.ProofKit
import Derived.OpenShut
import Derived.ShutString
import Derived.ChangeOld
import Derived.Below
import Derived.SizedLaws
import Derived.KernelRfl
set_option linter.unusedSimpArgs false
set_option linter.unusedVariables false
set_option linter.unnecessarySimpa false
namespace Go.Proofs.YtmicmlcfbmphfaaDoor
open Go.ChangeShapes Go.WideShapes Go.ChangeAt Go.RowKit Go.Proofs.YtmicmlcfbmphfaaDoor.Ae
theorem mixed : Tryd.prog.follows .mixedOrders = true := by kernel_rfl
theorem laidOut : laidOutB Tryd.prog = true := by kernel_rfl
theorem own : ownKnob Tryd.prog.godebug = none := by kernel_rfl
def cellsOfData : DataW Unit → Array Value
  | .agg l => (l.map fun | .lit (.int k n) => Value.int k n | _ => Value.bool false).toArray
  | _ => #[]
noncomputable def laidWorld (os : Os) : World :=
  let put (h : Array Obj) (g : Nat) (cs : Array Value) : Array Obj := h.modify g fun
    | .cells _ t frozen => .cells cs t frozen
    | o => o
  let w0 := World.holding Tryd.prog os ⟨#[], #[], []⟩
  { w0 with heap := put (put (put w0.heap 0 (cellsOfData Rows.laid_internal_strconv_uint64pow10)) 1 (cellsOfData Rows.laid_math_bits_deBruijn32tab)) 2 (cellsOfData Rows.laid_math_bits_deBruijn64tab) }
end Go.Proofs.YtmicmlcfbmphfaaDoor
