/- pantlerlaw08.GatherNil: no table. -/
import Derived.Test.YtilhjohoahgefaaLawSizes
namespace Go.Proofs.Ytilhjohoahgefaa
open Go.RowKit
set_option linter.unusedVariables false
set_option linter.unusedSimpArgs false
set_option maxRecDepth 100000
section
variable {R : Ending → World → Prop} {w : World}
set_option maxHeartbeats 400000 in
theorem fetch_nil (A : Option Addr) (n c : Nat) (h : R (.returned (.tuple #[.slice none 0 0, .int .i64 3])) w) : Calls Try.prog 31 #[.pointer none, .slice A n c] w R := by
  go_enter Try.func31, Try.ntmps31
  go_wp2
  exact h
set_option maxHeartbeats 400000 in
theorem check_nil (env : Int) (A : Option Addr) (n c : Nat) (h : R (.returned (.int .i64 3)) w) : Calls Try.prog 32 #[.pointer none, .int .i64 env, .slice A n c] w R := by
  go_enter Try.func32, Try.ntmps32
  go_wp2
  exact h
set_option maxHeartbeats 400000 in
theorem hold_nil (env : Int) (A : Option Addr) (n c : Nat) (h : R (.returned (.int .i64 3)) w) : Calls Try.prog 33 #[.pointer none, .int .i64 env, .slice A n c] w R := by
  go_enter Try.func33, Try.ntmps33
  go_wp2_with (go_at_call 32; refine check_nil _ _ _ _ ?_)
  exact h
set_option maxHeartbeats 400000 in
theorem drop_nil (A : Option Addr) (n c : Nat) (h : ∀ w', Kp [] w w' → R (.returned (.int .i64 3)) w') : Calls Try.prog 34 #[.pointer none, .slice A n c] w R := by
  go_enter Try.func34, Try.ntmps34
  go_wp2
  refine bodyPost_ret (v := .int .i64 3) (by simp [results, Try.results34, go_sem]) rfl (h _ ((((Kp.refl [] w).alloc _).alloc _).alloc _))

set_option maxHeartbeats 1000000 in
theorem gnil_walk (a : Sin Pc) (ha : a.ok w Pc.vals Pc.ok) (h : ∀ w', Kp [] w w' → R (.returned (.bool true)) w') :
    Calls Try.prog 8 #[.slice a.A a.n a.c] w R := by
  have H := Lib.hid h
  obtain ⟨A, n, c, l⟩ := a
  obtain ⟨hl, hcap, hmax, hall, hrd, _⟩ := ha
  simp only at hl hcap hmax hall hrd
  unfold maxLen at hmax
  have HL := Lib.hid hl
  clear h hl
  by_cases h100 : 100 < n
  · go_enter Try.func8, Try.ntmps8
    go_wp2_with (go_at_call 11; refine alive08 (fun w1 k1 => ?_))
    exact H.out _ k1
  · have hr2 : ∀ {w1 : World}, Kp [] w w1 → Rd w1 [] A (l.flatMap Pc.vals) := fun k => hrd.to k (by simp) (by simp)
    go_enter Try.func8, Try.ntmps8
    go_wp2_with (go_at_call 11; refine alive08 (fun w1 k1 => ?_))
    refine of_any (hr2 k1) HL.out (by omega) (fun A2 c2 w2 k2 o2 b2 => ?_)
    go_wp2_with (go_at_call 31; refine fetch_nil _ _ _ ?_)
    refine of_any (hr2 (k1.trans k2)) HL.out (by omega) (fun A3 c3 w3 k3 o3 b3 => ?_)
    go_wp2_with (go_at_call 32; refine check_nil _ _ _ _ ?_)
    refine of_any (hr2 ((k1.trans k2).trans k3)) HL.out (by omega) (fun A4 c4 w4 k4 o4 b4 => ?_)
    go_wp2_with (go_at_call 33; refine hold_nil _ _ _ _ ?_)
    refine of_any (hr2 (((k1.trans k2).trans k3).trans k4)) HL.out (by omega) (fun A5 c5 w5 k5 o5 b5 => ?_)
    go_wp2_with (go_at_call 34; refine drop_nil _ _ _ (fun w6 k6 => ?_))
    exact H.out _ (((((k1.trans k2).trans k3).trans k4).trans k5).trans k6)
end
end Go.Proofs.Ytilhjohoahgefaa
