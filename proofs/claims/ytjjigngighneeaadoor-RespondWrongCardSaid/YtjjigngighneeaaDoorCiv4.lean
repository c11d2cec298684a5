/- Package civil: the names of days and months. -/
import Derived.Test.YtjjigngighneeaaDoorCiv3
namespace Go.Proofs.YtjjigngighneeaaDoor
open Go.RowKit
set_option linter.unusedVariables false
set_option linter.unusedSimpArgs false
set_option maxRecDepth 100000

def wdN : List (List UInt8) := [[83, 117, 110], [77, 111, 110], [84, 117, 101], [87, 101, 100], [84, 104, 117], [70, 114, 105], [83, 97, 116]]
def moN : List (List UInt8) := [[74, 97, 110], [70, 101, 98], [77, 97, 114], [65, 112, 114], [77, 97, 121], [74, 117, 110], [74, 117, 108], [65, 117, 103], [83, 101, 112], [79, 99, 116], [78, 111, 118], [68, 101, 99]]
theorem wd_any {R : Ending → World → Prop} (w : World) (h : ∀ w', Kp [] w w' → R (.returned (.agg (wdN.map fun x => .string (S x)).toArray)) w') : Calls Tryd.prog 61 #[] w R := by
  have H := Lib.hid h
  clear h
  go_enter Tryd.func61, Tryd.ntmps61
  go_wp2
  exact bodyPost_ret (v := .agg (wdN.map fun x => .string (S x)).toArray) (by simp [results, Tryd.results61, go_sem, wdN]; exact ⟨rfl, rfl, rfl, rfl, rfl, rfl, rfl⟩) rfl (H.out _ ((Kp.refl _ _).alloc _))
theorem mo_any {R : Ending → World → Prop} (w : World) (h : ∀ w', Kp [] w w' → R (.returned (.agg (moN.map fun x => .string (S x)).toArray)) w') : Calls Tryd.prog 62 #[] w R := by
  have H := Lib.hid h
  clear h
  go_enter Tryd.func62, Tryd.ntmps62
  go_wp2
  exact bodyPost_ret (v := .agg (moN.map fun x => .string (S x)).toArray) (by simp [results, Tryd.results62, go_sem, moN]; exact ⟨rfl, rfl, rfl, rfl, rfl, rfl, rfl, rfl, rfl, rfl, rfl, rfl⟩) rfl (H.out _ ((Kp.refl _ _).alloc _))
end Go.Proofs.YtjjigngighneeaaDoor
