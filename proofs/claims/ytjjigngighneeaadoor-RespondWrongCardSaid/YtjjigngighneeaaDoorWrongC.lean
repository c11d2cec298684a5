/- What the rows list, in the walks' words. -/
import Derived.Test.YtjjigngighneeaaDoorDec
import Derived.Test.YtjjigngighneeaaDoorCard
import Derived.Test.YtjjigngighneeaaDoorRows
import Derived.Stop.LaidErr
import Derived.Lib.LaidTab
namespace Go.Proofs.YtjjigngighneeaaDoor
open Go Go.ChangeShapes Go.WideShapes Go.ChangeAt Go.RowKit Go.Proofs
set_option linter.unusedVariables false

theorem lw_resp {W : World} (hL : laidMetH Tryd.prog Rows.respondWrongRow.laid W) (hsh : W.ShapedOpen Tryd.prog) : Lw W := by
  refine ⟨ml_of_shape hsh, ?_⟩
  rw [MakeChecks.laidMetH_plain _ _ _ (by kernel_rfl)] at hL
  first
  | exact Lib.tabIs_of_head (g := 0) (by kernel_rfl) (by kernel_rfl) Tryd.underlying172 Tryd.underlying143 (by kernel_rfl) (by kernel_rfl) hL
  | exact Lib.tabIs_of_head (g := 0) (by kernel_rfl) (by kernel_rfl) Tryd.underlying172 Tryd.underlying143 (by kernel_rfl) (by kernel_rfl) (laidMet.tail hL)
  | exact Lib.tabIs_of_head (g := 0) (by kernel_rfl) (by kernel_rfl) Tryd.underlying172 Tryd.underlying143 (by kernel_rfl) (by kernel_rfl) (laidMet.tail (laidMet.tail hL))
  | exact Lib.tabIs_of_head (g := 0) (by kernel_rfl) (by kernel_rfl) Tryd.underlying172 Tryd.underlying143 (by kernel_rfl) (by kernel_rfl) (laidMet.tail (laidMet.tail (laidMet.tail hL)))
end Go.Proofs.YtjjigngighneeaaDoor
