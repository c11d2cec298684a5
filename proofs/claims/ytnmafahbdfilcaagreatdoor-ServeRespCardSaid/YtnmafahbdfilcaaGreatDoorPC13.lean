/- civil.Seconds. -/
import Derived.Test.YtnmafahbdfilcaaGreatDoorPC12
import Derived.Deep.QuietTactic
namespace Go.Proofs.YtnmafahbdfilcaaGreatDoor
/-! ### civil.Seconds. -/
section
open Go.RowKit
set_option linter.unusedVariables false
set_option linter.unusedSimpArgs false
set_option maxRecDepth 100000
/-- A date's fields in their bounds. -/
def dBd (y m d h mi s : Int) : Prop := 1970 ≤ y ∧ y ≤ 9999 ∧ 1 ≤ m ∧ m ≤ 12 ∧ 1 ≤ d ∧ d ≤ 31 ∧ 0 ≤ h ∧ h ≤ 23 ∧ 0 ≤ mi ∧ mi ≤ 59 ∧ 0 ≤ s ∧ s ≤ 59
/-- The second of a date. -/
def secN (y m d h mi s : Int) : Int := (befY y - befY 1970 + d - 1 + cumM y (m.toNat - 1)) * 86400 + (3600 * h + 60 * mi + s)
/-- Is it the date of its second? -/
def isDt (y m d h mi s wd : Int) : Prop := dBd y m d h mi s ∧ 0 ≤ wd ∧ CivN (secN y m d h mi s) y.toNat m.toNat d.toNat h.toNat mi.toNat s.toNat wd.toNat
theorem secN_bd {y m d h mi s : Int} (b : dBd y m d h mi s) : 0 ≤ secN y m d h mi s ∧ secN y m d h mi s ≤ 253402300799 ∧ 0 ≤ cumM y (m.toNat - 1) ∧ cumM y (m.toNat - 1) ≤ 335 := by
  obtain ⟨b1, b2, b3, b4, b5, b6, b7, b8, b9, b10, b11, b12⟩ := b
  have h1 := cumM_le y 11 (m.toNat - 1) (by omega)
  have h2 := cumM_le y (m.toNat - 1) 0 (by omega)
  have h4 : cumM y 0 = 0 := rfl
  have h5 : cumM y 12 = cumM y 11 + lenM y 12 := rfl
  have h6 : lenM y 12 = 31 := by unfold lenM; simp
  have h7 := cumM_12 y
  have h8 : yLen y ≤ 366 := by unfold yLen; have := leap_01 y; omega
  have h9 : befY y ≤ befY 9999 := by unfold befY; omega
  have h10 : befY 1970 ≤ befY y := by unfold befY; omega
  have h11 : befY 9999 - befY 1970 = 2932532 := by decide
  have h12 : y = 9999 → yLen y = 365 := by rintro rfl; decide
  have h13 : y ≤ 9998 → befY y ≤ befY 9998 := by intro h; unfold befY; omega
  have h14 : befY 9998 - befY 1970 = 2932167 := by decide
  unfold secN
  refine ⟨by omega, ?_, by omega, by omega⟩
  by_cases e : y = 9999
  · have := h12 e
    omega
  · have := h13 (by omega)
    omega
section
variable {R : Ending → World → Prop} {w : World}
set_option maxHeartbeats 8000000 in
theorem seconds_bad {y m d h mi s wd : Int} (hb : ¬ dBd y m d h mi s) (hk : ∀ w', Kp [] w w' → R (.returned (.tuple #[.int .i64 0, .int .i64 60])) w') :
    Calls Tryz.prog 139 #[.agg #[.int .i64 y, .int .i64 m, .int .i64 d, .int .i64 h, .int .i64 mi, .int .i64 s, .int .i64 wd]] w R := by
  have H := Lib.hid hk
  clear hk
  unfold dBd at hb
  rcases (by omega : y < 1970 ∨ (1970 ≤ y ∧ (9999 < y ∨ (y ≤ 9999 ∧ (m < 1 ∨ (1 ≤ m ∧ (12 < m ∨ (m ≤ 12 ∧ (d < 1 ∨ (1 ≤ d ∧ (31 < d ∨ (d ≤ 31 ∧ (h < 0 ∨ (0 ≤ h ∧ (23 < h ∨ (h ≤ 23 ∧ (mi < 0 ∨ (0 ≤ mi ∧ (59 < mi ∨ (mi ≤ 59 ∧ (s < 0 ∨ (0 ≤ s ∧ 59 < s))))))))))))))))))))))
    with h1 | ⟨h1, h2 | ⟨h2, h3 | ⟨h3, h4 | ⟨h4, h5 | ⟨h5, h6 | ⟨h6, h7 | ⟨h7, h8 | ⟨h8, h9 | ⟨h9, h10 | ⟨h10, h11 | ⟨h11, h12⟩⟩⟩⟩⟩⟩⟩⟩⟩⟩⟩
  all_goals
    clear hb
    go_enter Tryz.func139, Tryz.ntmps139
    go_wp2
    exact H.out _ ((Kp.refl _ _).alloc _)
end
end
end Go.Proofs.YtnmafahbdfilcaaGreatDoor
