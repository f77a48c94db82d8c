import Derived.Test.YtnpkkcbgfnnfmaaDoorKa
import Derived.Test.YtnpkkcbgfnnfmaaDoorRows
import Derived.LaidSub
import Derived.LaidHandle
import Derived.Handed
import Derived.ChangeSame
import Derived.ChangeVars
/- What a row's listed tables give a walk; a world that meets the condition. -/
namespace Go.Proofs.YtnpkkcbgfnnfmaaDoor
open Go.RowKit
set_option linter.unusedVariables false
set_option maxRecDepth 100000

def laidL : List (String × DataW Unit) := [("math/bits.deBruijn32tab", Rows.laid_math_bits_deBruijn32tab), ("math/bits.deBruijn64tab", Rows.laid_math_bits_deBruijn64tab), ("internal/strconv.uint64pow10", Rows.laid_internal_strconv_uint64pow10)]
theorem laidL_pow : ((laidL.filter fun x => x.2.handleName?.isNone).filter fun x => x.1 == "internal/strconv.uint64pow10") = [("internal/strconv.uint64pow10", Lib.tabData .u64 Lib.pow10Tab)] := by kernel_rfl
theorem tab_of_laid {W : World} (h : laidMetH Tryd.prog laidL W) : Tab W := by
  have h2 := ((laidMetH_iff.1 h).1).filter (fun x => x.1 == "internal/strconv.uint64pow10")
  rw [laidL_pow] at h2
  exact Lib.tabIs_of_head (g := 0) (t := 94) (e := 77) (n := 20) (by kernel_rfl) (by kernel_rfl) Tryd.underlying94 Tryd.underlying77 (by kernel_rfl) (by kernel_rfl) h2

/-- A whole table as the cells of a variable. -/
def litCells : DataW Unit → Array Value
  | .agg xs => (xs.map fun d => match d with | .lit (.int k z) => Value.int k z | _ => Value.bool false).toArray
  | _ => #[]
/-- A world that meets the condition: the settled one, the tables laid. -/
noncomputable def laidWorld (os : Os) : World :=
  let w0 := World.holding Tryd.prog os ⟨#[], #[], []⟩
  let put := fun (i : Nat) (cs : Array Value) (h : Array Obj) => h.modify i fun
    | .cells _ t frozen => .cells cs t frozen
    | o => o
  { w0 with heap := put 2 (litCells Rows.laid_math_bits_deBruijn64tab) (put 1 (litCells Rows.laid_math_bits_deBruijn32tab) (put 0 (litCells Rows.laid_internal_strconv_uint64pow10) w0.heap)) }
theorem laidWorld_met (os : Os) (args : Array Value) : laidMetH Tryd.prog laidL ((laidWorld os).forCall (fun _ _ => 0) ⟨#[], args, []⟩).memory :=
  laidMetH_of_parts (laidMet_of_run' 8 (by kernel_rfl) (by kernel_rfl)) (by kernel_rfl)
end Go.Proofs.YtnpkkcbgfnnfmaaDoor
