/- What the rows list, in the walks' words. -/
import Derived.Test.YtcbmiidffcbikaaDoorDec
import Derived.Test.YtcbmiidffcbikaaDoorCard
import Derived.Test.YtcbmiidffcbikaaDoorRows
import Derived.Stop.LaidErr
import Derived.Lib.LaidTab
namespace Go.Proofs.YtcbmiidffcbikaaDoor
open Go Go.ChangeShapes Go.WideShapes Go.ChangeAt Go.RowKit Go.Proofs
set_option linter.unusedVariables false

theorem lw_with {W : World} (hL : laidMetH Tryd.prog Rows.rangesWithinRow.laid W) (hsh : W.ShapedOpen Tryd.prog) : Lw W := by
  refine ⟨ml_of_shape hsh, ?_⟩
  rw [MakeChecks.laidMetH_plain _ _ _ (by kernel_rfl)] at hL
  have h2 := (laidMet.tail (laidMet.tail hL))
  exact Lib.tabIs_of_head (g := 1) (by kernel_rfl) (by kernel_rfl) Tryd.underlying143 Tryd.underlying100 (by kernel_rfl) (by kernel_rfl) h2
theorem lw_tells {W : World} (hL : laidMetH Tryd.prog Rows.rangesTellsRow.laid W) (hsh : W.ShapedOpen Tryd.prog) : Lw W := by
  refine ⟨ml_of_shape hsh, ?_⟩
  rw [MakeChecks.laidMetH_plain _ _ _ (by kernel_rfl)] at hL
  have h2 := (laidMet.tail (laidMet.tail hL))
  exact Lib.tabIs_of_head (g := 1) (by kernel_rfl) (by kernel_rfl) Tryd.underlying143 Tryd.underlying100 (by kernel_rfl) (by kernel_rfl) h2
theorem lw_cond {W : World} (hL : laidMetH Tryd.prog Rows.condMatchesRow.laid W) (hsh : W.ShapedOpen Tryd.prog) : Lw W := by
  refine ⟨ml_of_shape hsh, ?_⟩
  rw [MakeChecks.laidMetH_plain _ _ _ (by kernel_rfl)] at hL
  have h2 := (laidMet.tail (laidMet.tail hL))
  exact Lib.tabIs_of_head (g := 1) (by kernel_rfl) (by kernel_rfl) Tryd.underlying143 Tryd.underlying100 (by kernel_rfl) (by kernel_rfl) h2
end Go.Proofs.YtcbmiidffcbikaaDoor
