/- PathTargets walked. -/
import Derived.Test.YthppknpeagjcpaaDoorRef10c
namespace Go.Proofs.YthppknpeagjcpaaDoor
open Go.RowKit
set_option linter.unusedVariables false
set_option maxRecDepth 100000
set_option maxHeartbeats 2000000 in
theorem targets_walk {R : Ending → World → Prop} (s : List UInt8) (w : World) (hd : s.length ≤ 140737488355328) (hm : Ml w) (h : ∀ w', Kp [] w w' → R (.returned (.bool true)) w') :
    Calls Tryd.prog 3 #[.string (S s)] w R := by
  have H := Lib.hid h
  clear h
  by_cases hl : s.length ≤ 2000
  · obtain ⟨⟨n, e⟩, hv⟩ : ∃ v, ofL s = v := ⟨_, rfl⟩
    have HV : Hid (ofV (ofL s) = .tuple #[.string (S n), .int .i64 e]) := by rw [hv]; exact Lib.hid rfl
    clear hv
    go_enter Tryd.func3, Tryd.ntmps3
    go_wp2_with (first | (go_at_call 14; refine alive_any _ hm ?_; intro w1 kk; have mm := hm.kp kk) | (go_at_call 15; ((with_reducible refine of_any s _ (by assumption) ?_); intro w2 k2; rw [HV.out]; have kk := Kp.trans (a := w) (by assumption) k2; have mm := hm.kp kk)) | (go_at_call 16; ((with_reducible refine rof_any s _ ?_); intro w2 k2; rw [HV.out]; have kk := Kp.trans (a := w) (by assumption) k2; have mm := hm.kp kk)))
    exact H.out _ (by assumption)
  · go_enter Tryd.func3, Tryd.ntmps3
    go_wp2_with (go_at_call 14; refine alive_any _ hm ?_; intro w1 k1)
    exact H.out _ k1
end Go.Proofs.YthppknpeagjcpaaDoor
