/- A world in which the tables lie as the row lists them; what the condition gives a walk.
   Conditions: none. -/
import Derived.Test.YtiihhpmgfmiacaaDoorSchText
import Derived.Test.YtiihhpmgfmiacaaDoorWrap
import Derived.Test.YtiihhpmgfmiacaaDoorCards
import Derived.LaidLaws
import Derived.Lib.LaidTab
import Derived.Lib.SmallJoins
import Derived.Shelf.Vars
namespace Go.Proofs.YtiihhpmgfmiacaaDoor
open Go

def flatLits : Nat → DataW Unit → List Value
  | 0, _ => []
  | _ + 1, .lit (.int k z) => [.int k z]
  | n + 1, .agg l => l.flatMap (flatLits n)
  | _, _ => []
def putRow (d : DataW Unit) : Obj → Obj
  | .cells _ t fz => .cells (flatLits 3 d).toArray t fz
  | o => o
noncomputable def laidWorld (os : Os) (args : Array Value) : World :=
  let w0 := World.holding Tryd.prog os ⟨#[], args, []⟩
  { w0 with heap := ((((w0.heap.modify 4 (putRow Rows.laid_math_bits_deBruijn32tab)).modify 5 (putRow Rows.laid_math_bits_deBruijn64tab)).modify 1 (putRow Rows.laid_internal_strconv_uint64pow10)).modify 3 (putRow Rows.laid_unicode_utf8_acceptRanges)).modify 2 (putRow Rows.laid_unicode_utf8_first) }
theorem g_pow10 : Tryd.prog.globalNamed "internal/strconv.uint64pow10" = some 1 := by kernel_rfl
theorem g_max : Tryd.prog.globalNamed "internal/bytealg.MaxLen" = some 0 := by kernel_rfl
set_option maxRecDepth 100000 in
theorem laid_met (os : Os) (args : Array Value) : laidMet Tryd.prog Rows.schedParsesRow.laid ((laidWorld os #[.string ⟨#[]⟩]).forCall (fun _ _ => 0) ⟨#[], args, []⟩).memory :=
  laidMet_of_run' 8 (by kernel_rfl) (by kernel_rfl)
end Go.Proofs.YtiihhpmgfmiacaaDoor
