/- CondMatches walked. -/
import Derived.Test.YtcbmiidffcbikaaDoorCond2
namespace Go.Proofs.YtcbmiidffcbikaaDoor
open Go.RowKit Go.Shelf
set_option linter.unusedVariables false
set_option linter.unusedSimpArgs false
set_option maxRecDepth 100000

theorem tag15 : tagL 1 5 = [34, 118, 49, 45, 53, 34] := by
  unfold tagL
  have h1 : itoaL (1 : Int) = [49] := (itoaL_nat 1).trans (decL_small (by decide))
  have h5 : itoaL (5 : Int) = [53] := (itoaL_nat 5).trans (decL_small (by decide))
  rw [h1, h5]; rfl
theorem m1 : matchM [32, 42] [120] false = true := by
  unfold matchM
  rw [show (trimL [32, 42] == [42]) = true by decide +kernel]; rfl
theorem m2 : matchM [] [120] true = false := by
  unfold matchM
  rw [show (trimL [] == [42]) = false by decide +kernel, show itemsL [] = [] by decide +kernel]; rfl
theorem tag_lit {R : Ending → World → Prop} (w : World) (hw : Lw w) (h : ∀ w', Kp [] w w' → R (.returned (.string (S [34, 118, 49, 45, 53, 34]))) w') : Calls Tryd.prog 23 #[.int .i64 1, .int .i64 5] w R :=
  tag_any 1 5 w (by decide) (by decide) hw (by rw [tag15]; exact h)
theorem match_1 {R : Ending → World → Prop} (w : World) (hm : Ml w) (h : ∀ w', Kp [] w w' → R (.returned (.bool true)) w') : Calls Tryd.prog 25 #[.string ⟨#[32, 42]⟩, .string ⟨#[120]⟩, .bool false] w R :=
  match_any [32, 42] [120] false w (by decide) (by decide) hm (by rw [m1]; exact h)
theorem match_2 {R : Ending → World → Prop} (w : World) (hm : Ml w) (h : ∀ w', Kp [] w w' → R (.returned (.bool false)) w') : Calls Tryd.prog 25 #[.string ⟨#[]⟩, .string ⟨#[120]⟩, .bool true] w R :=
  match_any [] [120] true w (by decide) (by decide) hm (by rw [m2]; exact h)
theorem alive26_any {R : Ending → World → Prop} (w : World) (hw : Lw w) (h : ∀ w', Kp [] w w' → R (.returned (.bool true)) w') : Calls Tryd.prog 22 #[] w R := by
  have H := Lib.hid h
  have kk := Kp.refl [] w
  clear h
  go_enter Tryd.func22, Tryd.ntmps22
  go_wp2_with (first | (go_at_call 23; ((with_reducible refine tag_lit _ (hw.kp kk) ?_); intro w1 k1; have kk := kk.trans k1)) | (go_at_call 25; ((with_reducible refine match_1 _ (hw.kp kk).ml ?_); intro w2 k2; have kk := kk.trans k2)) | (go_at_call 25; ((with_reducible refine match_2 _ (hw.kp kk).ml ?_); intro w3 k3; have kk := kk.trans k3)))
  exact H.out _ kk
set_option maxHeartbeats 4000000 in
theorem cond_walk {R : Ending → World → Prop} (s : List UInt8) (v m : Int) (weak : Bool) (w : World) (v0 : 0 ≤ v) (v1 : v ≤ 4294967295) (m0 : 0 ≤ m) (m1 : m ≤ 4294967295) (hs : s.length ≤ 9223372036854775807) (hw : Lw w) (h : ∀ w', Kp [] w w' → R (.returned (.bool true)) w') :
    Calls Tryd.prog 7 #[.string (S s), .int .u32 v, .int .u32 m, .bool weak] w R := by
  have H := Lib.hid h
  clear h
  by_cases hs2 : s.length ≤ 2000
  · have e1 := itoaL_len v (by omega) (by omega)
    have e2 := itoaL_len m (by omega) (by omega)
    obtain ⟨t, ht⟩ : ∃ t, tagL v m = t := ⟨_, rfl⟩
    have htl : t.length ≤ 100 := by rw [← ht]; unfold tagL; simp; omega
    have HT1 : Hid (∀ (R : Ending → World → Prop) (w1 : World), Lw w1 → (∀ w', Kp [] w1 w' → R (.returned (.string (S t))) w') → Calls Tryd.prog 23 #[.int .i64 v, .int .i64 m] w1 R) := Lib.hid (fun R w1 h1 h => tag_any v m w1 ⟨v0, v1⟩ ⟨m0, m1⟩ h1 (by rw [ht]; exact h))
    have HT2 : Hid (∀ (R : Ending → World → Prop) (w1 : World), (∀ w', Kp [] w1 w' → R (.returned (.string (S t))) w') → Calls Tryd.prog 24 #[.int .i64 v, .int .i64 m] w1 R) := Lib.hid (fun R w1 h => rtag_any v m w1 ⟨v0, v1⟩ ⟨m0, m1⟩ (by rw [ht]; exact h))
    have wv : IntKind.i64.wrap v = v := wrap_ok (by omega) (by omega)
    have wm : IntKind.i64.wrap m = m := wrap_ok (by omega) (by omega)
    have kk := Kp.refl [] w
    clear ht e1 e2
    go_enter Tryd.func7, Tryd.ntmps7
    go_wp2_with (first | (go_at_call 22; ((refine alive26_any _ hw ?_); intro w1 k1; have kk := kk.trans k1)) | (go_at_call 23; ((refine HT1.out _ _ (hw.kp kk) ?_); intro w2 k2; have kk := kk.trans k2)) | (go_at_call 24; ((refine HT2.out _ _ ?_); intro w3 k3; have kk := kk.trans k3)) | (go_at_call 25; ((with_reducible refine match_any s t weak _ (by omega) (by omega) (hw.kp kk).ml ?_); intro w4 k4; have kk := kk.trans k4)) | (go_at_call 25; ((with_reducible refine match_any s s weak _ (by omega) (by omega) (hw.kp kk).ml ?_); intro w5 k5; have kk := kk.trans k5)) | (go_at_call 26; ((with_reducible refine rmatch_any s t weak _ (by omega) (by omega) ?_); intro w6 k6; have kk := kk.trans k6)) | (go_at_call 26; ((with_reducible refine rmatch_any s s weak _ (by omega) (by omega) ?_); intro w7 k7; have kk := kk.trans k7)))
    exact H.out _ kk
  · have h2 : 2000 < s.length := by omega
    clear hs2
    go_enter Tryd.func7, Tryd.ntmps7
    go_wp2_with (go_at_call 22; ((refine alive26_any _ hw ?_); intro w1 k1))
    exact H.out _ k1
end Go.Proofs.YtcbmiidffcbikaaDoor
