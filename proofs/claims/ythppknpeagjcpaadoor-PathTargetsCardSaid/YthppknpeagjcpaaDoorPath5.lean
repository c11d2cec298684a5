/- The law's examples; PathKinds, PathBack, PathHex walked. -/
import Derived.Test.YthppknpeagjcpaaDoorPath4
namespace Go.Proofs.YthppknpeagjcpaaDoor
open Go.RowKit
set_option linter.unusedVariables false
set_option maxRecDepth 100000

theorem of1 : ofL [47, 97, 37, 50, 69, 116, 120, 116, 63, 120] = ([97, 46, 116, 120, 116], 0) := by decide +kernel
theorem of2 : ofL [47, 97, 47, 46, 46, 47, 98] = ([], 70) := by decide +kernel
theorem of3 : ofL [47] = (indexS, 0) := by decide +kernel
theorem of_lit {R : Ending → World → Prop} (l : List UInt8) (v : List UInt8 × Int) (w : World) (e : ofL l = v) (hm : Ml w)
    (h : ∀ w', Kp [] w w' → R (.returned (.tuple #[.string (S v.1), .int .i64 v.2])) w') : Calls Tryd.prog 15 #[.string ⟨l.toArray⟩] w R :=
  of_any l w hm fun w' k => by rw [e]; exact h w' k
set_option maxHeartbeats 1000000 in
theorem alive_any {R : Ending → World → Prop} (w : World) (hm : Ml w) (h : ∀ w', Kp [] w w' → R (.returned (.bool true)) w') : Calls Tryd.prog 14 #[] w R := by
  have H := Lib.hid h
  clear h
  go_enter Tryd.func14, Tryd.ntmps14
  go_wp2_with (go_at_call 15; first | ((with_reducible refine of_lit [47, 97, 37, 50, 69, 116, 120, 116, 63, 120] _ w of1 hm ?_); intro w1 k1; have m1 := hm.kp k1) | ((with_reducible refine of_lit [47, 97, 47, 46, 46, 47, 98] _ w1 of2 m1 ?_); intro w2 k2; have m2 := m1.kp k2; have k2' := k1.trans k2) | ((with_reducible refine of_lit [47] _ w2 of3 m2 ?_); intro w3 k3; have k3' := k2'.trans k3))
  exact H.out _ k3'
end Go.Proofs.YthppknpeagjcpaaDoor
