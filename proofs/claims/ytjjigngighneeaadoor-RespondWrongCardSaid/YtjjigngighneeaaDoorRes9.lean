/- Package respond: Wrong, walked. -/
import Derived.Test.YtjjigngighneeaaDoorRes6
namespace Go.Proofs.YtjjigngighneeaaDoor
open Go.RowKit
set_option linter.unusedVariables false
set_option linter.unusedSimpArgs false
set_option maxRecDepth 100000

set_option maxHeartbeats 4000000 in
theorem wrong_any {R : Ending → World → Prop} (s now : Int) (w : World) (hw : Lw w)
    (h : ∀ D A c w', Kp [] w w' → Rd w' [] A (partC (bodyT (nrmS s))) → (mayB now = true → Told now D) → (mayB now = false → D = []) → R (.returned (.agg #[.int .i64 (nrmS s), .string (S (headL (nrmS s) now D)), .slice A 1 c, .bool true])) w') : Calls Tryd.prog 9 #[.int .i64 s, .int .i64 now] w R := by
  have H := Lib.hid h
  have HP : Hid (∀ (R : Ending → World → Prop) (W w1 : World) (g : Nat), Kp [] w W → Kp [] W w1 → W.heap.size ≤ g → Bk w1 g 63 (ansC (nrmS s) now none 0 0) → (∀ D A c w', Kp [] W w' → Rd w' [] A (partC (bodyT (nrmS s))) → (mayB now = true → Told now D) → (mayB now = false → D = []) → R (.returned (.agg #[.int .i64 (nrmS s), .string (S (headL (nrmS s) now D)), .slice A 1 c, .bool true])) w') → Calls Tryd.prog 23 #[.pointer (some ⟨g, 0, none⟩), .bool false] w1 R) := Lib.hid (fun R W w1 g k0 k hg b h => plan_any _ now g W w1 (nrm_ok s) (hw.kp k0) k hg b (fun D A c w' a r ht hf => h D A c w' a r ht hf))
  clear h
  have hs : (nrmS s = s ∧ (s = 414 ∨ s = 431 ∨ s = 501 ∨ s = 505)) ∨ (nrmS s = 400 ∧ ¬ s = 414 ∧ ¬ s = 431 ∧ ¬ s = 501 ∧ ¬ s = 505) := by unfold nrmS; split <;> omega
  generalize bodyT (nrmS s) = T at H HP
  generalize headL (nrmS s) now = LF at H HP
  generalize nrmS s = z at H HP hs
  rcases hs with ⟨rfl, rfl | rfl | rfl | rfl⟩ | ⟨rfl, h1, h2, h3, h4⟩
  all_goals
    go_enter Tryd.func9, Tryd.ntmps9
    go_wp2_with (go_at_call 23; ((refine HP.out _ (w.alloc (.cells #[.int .i64 0, .string ⟨#[]⟩, .slice none 0 0, .bool false] 30)) _ _ ((Kp.refl _ _).alloc _) ((Kp.refl _ _).alloc _) (by simp) ((Bk.newAt (by simp) _ _).cast rfl) ?_); intro D A c w2 k2 r2 ht hf; have br : Bk w2 w.heap.size 30 [.int .i64 0, .string ⟨#[]⟩, .slice none 0 0, .bool false] := ((Bk.new' w _ _).kp k2 (by simp)).cast rfl; obtain ⟨⟨s0, s1, s2, s3⟩, ⟨t0, t1, t2, t3⟩⟩ := bk4 br))
    obtain ⟨W', hW', kF, bF, rF⟩ := plan_fin2 (L := S (LF D)) (A := A) (c := c) (((Kp.refl [] w).alloc _).trans k2) (Nat.le_refl _) br r2
    rw [hW']
    obtain ⟨⟨f0, f1, f2, f3⟩, _⟩ := bk4 bF
    exact bodyPost_ret (v := .agg #[.int .i64 _, .string (S (LF D)), .slice A 1 c, .bool true]) (by simp [results, Tryd.results9, go_sem, f0, f1, f2, f3]; try rfl) rfl (H.out D A c _ kF rF ht hf)
end Go.Proofs.YtjjigngighneeaaDoor
