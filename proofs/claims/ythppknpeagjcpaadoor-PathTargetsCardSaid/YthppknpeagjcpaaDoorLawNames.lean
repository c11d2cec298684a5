/- PathNames walked. -/
import Derived.Test.YthppknpeagjcpaaDoorRef10b
namespace Go.Proofs.YthppknpeagjcpaaDoor
open Go.RowKit
set_option linter.unusedVariables false
set_option maxRecDepth 100000
set_option maxHeartbeats 2000000 in
theorem names_walk {R : Ending → World → Prop} (s : List UInt8) (w : World) (hd : s.length ≤ 140737488355328) (hm : Ml w) (h : ∀ w', Kp [] w w' → R (.returned (.bool true)) w') :
    Calls Tryd.prog 7 #[.string (S s)] w R := by
  have H := Lib.hid h
  clear h
  by_cases hl : s.length ≤ 1000
  · cases hn : nameB s
    · have HN := Lib.hid hn
      have HT : Hid ((.tuple #[.string (S (if nameB s then 47 :: s else [])), .int .i64 (if nameB s then 0 else 70)] : Value) = .tuple #[.string (S []), .int .i64 70]) := by rw [hn]; exact Lib.hid rfl
      clear hn
      generalize kindL s = kd at *
      go_enter Tryd.func7, Tryd.ntmps7
      go_wp2_with (first | (go_at_call 14; refine alive_any _ hm ?_; intro w1 kk; have mm := hm.kp kk) | (go_at_call 20; ((with_reducible refine rname_any s _ ?_); rw [HN.out])) | (go_at_call 18; ((with_reducible refine target_any s _ (by assumption) ?_); intro w2 k2; rw [HT.out]; have kk := Kp.trans (a := w) (by assumption) k2; have mm := hm.kp kk)) | (go_at_call 17; ((with_reducible refine name_any s _ (by assumption) ?_); intro w2 k2; rw [HN.out]; have kk := Kp.trans (a := w) (by assumption) k2; have mm := hm.kp kk)) | (go_at_call 19; ((with_reducible refine kind_any s _ (by omega) ?_))) | (go_at_call 21; ((with_reducible refine rkind_any s _ (by omega) ?_))))
      exact H.out _ (by assumption)
    · have HN := Lib.hid hn
      have HT : Hid ((.tuple #[.string (S (if nameB s then 47 :: s else [])), .int .i64 (if nameB s then 0 else 70)] : Value) = .tuple #[.string (S (47 :: s)), .int .i64 0]) := by rw [hn]; exact Lib.hid rfl
      clear hn
      generalize kindL s = kd at *
      go_enter Tryd.func7, Tryd.ntmps7
      go_wp2_with (first | (go_at_call 14; refine alive_any _ hm ?_; intro w1 kk; have mm := hm.kp kk) | (go_at_call 20; ((with_reducible refine rname_any s _ ?_); rw [HN.out])) | (go_at_call 18; ((with_reducible refine target_any s _ (by assumption) ?_); intro w2 k2; rw [HT.out]; have kk := Kp.trans (a := w) (by assumption) k2; have mm := hm.kp kk)) | (go_at_call 17; ((with_reducible refine name_any s _ (by assumption) ?_); intro w2 k2; rw [HN.out]; have kk := Kp.trans (a := w) (by assumption) k2; have mm := hm.kp kk)) | (go_at_call 19; ((with_reducible refine kind_any s _ (by omega) ?_))) | (go_at_call 21; ((with_reducible refine rkind_any s _ (by omega) ?_))))
      exact H.out _ (by assumption)
  · go_enter Tryd.func7, Tryd.ntmps7
    go_wp2_with (go_at_call 14; refine alive_any _ hm ?_; intro w1 k1)
    exact H.out _ k1
end Go.Proofs.YthppknpeagjcpaaDoor
