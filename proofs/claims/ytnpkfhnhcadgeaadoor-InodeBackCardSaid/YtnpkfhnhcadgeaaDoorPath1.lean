/- The walks of package path's small functions. -/
import Derived.Test.YtnpkfhnhcadgeaaDoorStr
namespace Go.Proofs.YtnpkfhnhcadgeaaDoor
open Go.RowKit
set_option linter.unusedVariables false

/-- May a byte stand in a segment? -/
def plainB (c : UInt8) : Bool := (decide (97 ≤ c.toNat) && decide (c.toNat ≤ 122)) || (decide (65 ≤ c.toNat) && decide (c.toNat ≤ 90)) || (decide (48 ≤ c.toNat) && decide (c.toNat ≤ 57)) || decide (c.toNat = 46) || decide (c.toNat = 45) || decide (c.toNat = 95)
def segB (l : List UInt8) : Bool := !(l == []) && !(l == [46]) && !(l == [46, 46]) && l.all plainB
/-- A digit of base 16. -/
def digI (c : UInt8) : Int :=
  if 48 ≤ c.toNat ∧ c.toNat ≤ 57 then c.toNat - 48 else if 97 ≤ c.toNat ∧ c.toNat ≤ 102 then c.toNat - 87 else if 65 ≤ c.toNat ∧ c.toNat ≤ 70 then c.toNat - 55 else -1

set_option maxHeartbeats 400000 in
theorem plain_any {R : Ending → World → Prop} (c : UInt8) (w : World) (h : R (.returned (.bool (plainB c))) w) : Calls Tryd.prog 53 #[.int .u8 c.toNat] w R := by
  go_enter Tryd.func53, Tryd.ntmps53
  go_wp2
  all_goals (refine rcast h (congrArg Value.bool ?_); rw [Bool.eq_iff_iff]; simp [plainB] <;> omega)

theorem all_snoc (l : List UInt8) (p : UInt8 → Bool) (k : Nat) (h : k < l.length) : (l.take (k + 1)).all p = ((l.take k).all p && p l[k]) := by
  rw [List.take_succ_eq_append_getElem h, List.all_append]; simp
theorem all_stop {l : List UInt8} {p : UInt8 → Bool} {k : Nat} {h : k < l.length} (hn : p l[k] = false) : l.all p = false := by
  rw [List.all_eq_false]; exact ⟨_, List.getElem_mem h, by simp [hn]⟩
set_option maxHeartbeats 800000 in
theorem seg_any {R : Ending → World → Prop} (l : List UInt8) (w : World) (h0 : l.length ≤ 1000000) (h : R (.returned (.bool (segB l))) w) : Calls Tryd.prog 46 #[.string (S l)] w R := by
  have H := Lib.hid h
  clear h
  by_cases e1 : l = []
  · subst e1
    go_enter Tryd.func46, Tryd.ntmps46
    go_wp2
    exact H.out
  by_cases e2 : l = [46]
  · subst e2
    go_enter Tryd.func46, Tryd.ntmps46
    go_wp2
    exact H.out
  by_cases e3 : l = [46, 46]
  · subst e3
    go_enter Tryd.func46, Tryd.ntmps46
    go_wp2
    exact H.out
  have b1 : l.isEmpty = false := by simpa using e1
  have b2 : (l == [46]) = false := by simpa using e2
  have b3 : (l == [46, 46]) = false := by simpa using e3
  have E1 := Lib.hid e1
  clear e1 e2 e3
  go_enter Tryd.func46, Tryd.ntmps46
  go_wp2
  have G2 := Lib.hid b2
  have G3 := Lib.hid b3
  clear b1 b2 b3
  go_loop [16] (fun k => ∃ n : Nat, n ≤ l.length ∧ k = .int .i64 n ∧ (l.take n).all plainB = true) (fun k => l.length - (intOf k).toNat)
  case atStart => exact ⟨0, Nat.zero_le _, rfl, by simp⟩
  case round =>
    obtain ⟨n, hn, rfl, ha⟩ := hrel
    have HA := Lib.hid ha
    clear ha
    by_cases hlt : n < l.length
    · cases hp : plainB l[n]
      · have HP := Lib.hid hp
        clear hp
        go_wp2_with (go_at_call 53; refine plain_any _ _ ?_; rw [HP.out])
        refine rcast H.out (congrArg Value.bool ?_)
        rw [segB, all_stop HP.out, Bool.and_false]
      · have HP := Lib.hid hp
        clear hp
        go_wp2_with (go_at_call 53; refine plain_any _ _ ?_; rw [HP.out])
        go_round
        case rel => exact ⟨n + 1, by omega, by go_num, by rw [all_snoc l _ n hlt, HA.out, HP.out]; rfl⟩
        case measure => simp [intOf]; omega
    · go_wp2
      refine rcast H.out (congrArg Value.bool ?_)
      have e : n = l.length := by omega
      subst e
      have := HA.out
      rw [List.take_length] at this
      rw [segB, G2.out, G3.out, this]
      have := E1.out
      simp [this]
end Go.Proofs.YtnpkfhnhcadgeaaDoor
