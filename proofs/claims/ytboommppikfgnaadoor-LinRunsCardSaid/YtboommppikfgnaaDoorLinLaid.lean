/- A world in which the tables lie as the row lists them; what the condition gives a walk.
   Conditions: none. -/
import Derived.Test.YtboommppikfgnaaDoorLinKey
import Derived.Test.YtboommppikfgnaaDoorWrap
import Derived.Test.YtboommppikfgnaaDoorCards
import Derived.LaidLaws
import Derived.Lib.LaidTab
import Derived.Lib.SmallJoins
import Derived.Shelf.Vars
namespace Go.Proofs.YtboommppikfgnaaDoor
open Go

def flatLits : Nat → DataW Unit → List Value
  | 0, _ => []
  | _ + 1, .lit (.int k z) => [.int k z]
  | n + 1, .agg l => l.flatMap (flatLits n)
  | _, _ => []
def putRow (d : DataW Unit) : Obj → Obj
  | .cells _ t fz => .cells (flatLits 3 d).toArray t fz
  | o => o
noncomputable def laidWorld (os : Os) (args : Array Value) : World :=
  let w0 := World.holding Tryd.prog os ⟨#[], args, []⟩
  { w0 with heap := ((w0.heap.modify 1 (putRow Rows.laid_math_bits_deBruijn32tab)).modify 2 (putRow Rows.laid_math_bits_deBruijn64tab)).modify 0 (putRow Rows.laid_internal_strconv_uint64pow10) }
theorem g_pow10 : Tryd.prog.globalNamed "internal/strconv.uint64pow10" = some 0 := by kernel_rfl
theorem g_32 : Tryd.prog.globalNamed "math/bits.deBruijn32tab" = some 1 := by kernel_rfl
set_option maxRecDepth 100000 in
theorem laid_met (os : Os) (args : Array Value) : laidMet Tryd.prog Rows.linLongRow.laid ((laidWorld os #[.int .u8 0, .int .u8 0]).forCall (fun _ _ => 0) ⟨#[], args, []⟩).memory :=
  laidMet_of_run' 8 (by kernel_rfl) (by kernel_rfl)
end Go.Proofs.YtboommppikfgnaaDoor
