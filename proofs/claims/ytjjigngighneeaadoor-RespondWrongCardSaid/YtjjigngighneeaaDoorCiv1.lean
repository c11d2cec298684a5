/- Package civil: years, months, the date of a second. -/
import Derived.Test.YtjjigngighneeaaDoorStr
import Derived.Test.YtjjigngighneeaaDoorOpen
import Derived.IntWalk
namespace Go.Proofs.YtjjigngighneeaaDoor
open Go.RowKit
set_option linter.unusedVariables false
set_option linter.unusedSimpArgs false
set_option maxRecDepth 100000

def leapB (y : Int) : Bool := decide (y % 4 = 0) && (!decide (y % 100 = 0) || decide (y % 400 = 0))
def oneI1 (b : Bool) : Int := if b then 1 else 0
def lenM (y m : Int) : Int := if m = 2 then 28 + oneI1 (leapB y) else if m = 4 ∨ m = 6 ∨ m = 9 ∨ m = 11 then 30 else 31
theorem leap_any {R : Ending → World → Prop} (y : Int) (w : World) (h0 : 0 ≤ y) (h1 : y ≤ 1000000) (h : R (.returned (.bool (leapB y))) w) : Calls Tryd.prog 91 #[.int .i64 y] w R := by
  have H := Lib.hid h
  clear h
  go_enter Tryd.func91, Tryd.ntmps91
  go_wp2
  all_goals (refine rcast H.out (congrArg Value.bool ?_); unfold leapB; rw [Bool.eq_iff_iff]; simp <;> omega)
theorem one_any {R : Ending → World → Prop} (b : Bool) (w : World) (h : R (.returned (.int .i64 (oneI1 b))) w) : Calls Tryd.prog 90 #[.bool b] w R := by
  have H := Lib.hid h
  clear h
  cases b
  all_goals
    go_enter Tryd.func90, Tryd.ntmps90
    go_wp2
    exact H.out
set_option maxHeartbeats 1000000 in
theorem length_any {R : Ending → World → Prop} (y m : Int) (w : World) (h0 : 0 ≤ y) (h1 : y ≤ 1000000) (m0 : 0 ≤ m) (m1 : m ≤ 100) (h : R (.returned (.int .i64 (lenM y m))) w) : Calls Tryd.prog 92 #[.int .i64 y, .int .i64 m] w R := by
  have H := Lib.hid h
  clear h
  have hb : oneI1 (leapB y) = 0 ∨ oneI1 (leapB y) = 1 := by unfold oneI1; split <;> simp
  obtain ⟨o, ho⟩ : ∃ o, oneI1 (leapB y) = o := ⟨_, rfl⟩
  have HO : Hid (lenM y m = if m = 2 then 28 + o else if m = 4 ∨ m = 6 ∨ m = 9 ∨ m = 11 then 30 else 31) := Lib.hid (by unfold lenM; rw [ho])
  have H1 : Hid (∀ (R : Ending → World → Prop) (w1 : World), R (.returned (.int .i64 o)) w1 → Calls Tryd.prog 90 #[.bool (leapB y)] w1 R) := Lib.hid (fun R w1 h => one_any _ w1 (by rw [ho]; exact h))
  rw [ho] at hb
  clear ho
  have o0 : 0 ≤ o := by omega
  have o1 : o ≤ 1 := by omega
  clear hb
  go_enter Tryd.func92, Tryd.ntmps92
  go_wp2_with (first | (go_at_call 91; (refine leap_any y _ h0 h1 ?_)) | (go_at_call 90; (refine H1.out _ _ ?_)))
  all_goals
    refine rcast H.out (congrArg (Value.int .i64) ?_)
    rw [HO.out]
    clear HO H H1
    simp_all
end Go.Proofs.YtjjigngighneeaaDoor
