/- CondMatches walked. -/
import Derived.Test.YtjjigngighneeaaDoorCond2
namespace Go.Proofs.YtjjigngighneeaaDoor
open Go.RowKit Go.Shelf
set_option linter.unusedVariables false
set_option linter.unusedSimpArgs false
set_option maxRecDepth 100000

theorem tag15 : tagL 1 5 = [34, 118, 49, 45, 53, 34] := by
  unfold tagL
  have h1 : itoaL (1 : Int) = [49] := (itoaL_nat 1).trans (decL_small (by decide))
  have h5 : itoaL (5 : Int) = [53] := (itoaL_nat 5).trans (decL_small (by decide))
  rw [h1, h5]; rfl
theorem m1 : matchM [32, 42] [120] false = true := by
  unfold matchM
  rw [show (trimL [32, 42] == [42]) = true by decide +kernel]; rfl
theorem m2 : matchM [] [120] true = false := by
  unfold matchM
  rw [show (trimL [] == [42]) = false by decide +kernel, show itemsL [] = [] by decide +kernel]; rfl
theorem tag_lit {R : Ending → World → Prop} (w : World) (hw : Lw w) (h : ∀ w', Kp [] w w' → R (.returned (.string (S [34, 118, 49, 45, 53, 34]))) w') : Calls Tryd.prog 20 #[.int .i64 1, .int .i64 5] w R :=
  tag_any 1 5 w (by decide) (by decide) hw (by rw [tag15]; exact h)
theorem match_1 {R : Ending → World → Prop} (w : World) (hm : Ml w) (h : ∀ w', Kp [] w w' → R (.returned (.bool true)) w') : Calls Tryd.prog 34 #[.string ⟨#[32, 42]⟩, .string ⟨#[120]⟩, .bool false] w R :=
  match_any [32, 42] [120] false w (by decide) (by decide) hm (by rw [m1]; exact h)
theorem match_2 {R : Ending → World → Prop} (w : World) (hm : Ml w) (h : ∀ w', Kp [] w w' → R (.returned (.bool false)) w') : Calls Tryd.prog 34 #[.string ⟨#[]⟩, .string ⟨#[120]⟩, .bool true] w R :=
  match_any [] [120] true w (by decide) (by decide) hm (by rw [m2]; exact h)
theorem alive26_any {R : Ending → World → Prop} (w : World) (hw : Lw w) (h : ∀ w', Kp [] w w' → R (.returned (.bool true)) w') : Calls Tryd.prog 19 #[] w R := by
  have H := Lib.hid h
  have kk := Kp.refl [] w
  clear h
  go_enter Tryd.func19, Tryd.ntmps19
  go_wp2_with (first | (go_at_call 20; ((with_reducible refine tag_lit _ (hw.kp kk) ?_); intro w1 k1; have kk := kk.trans k1)) | (go_at_call 34; ((with_reducible refine match_1 _ (hw.kp kk).ml ?_); intro w2 k2; have kk := kk.trans k2)) | (go_at_call 34; ((with_reducible refine match_2 _ (hw.kp kk).ml ?_); intro w3 k3; have kk := kk.trans k3)))
  exact H.out _ kk
end Go.Proofs.YtjjigngighneeaaDoor
