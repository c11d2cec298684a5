/- The document's calendar, by the days since March 1 of the year 0: the plain law. -/
import Derived.Test.YtjjigngighneeaaDoorCiv5
namespace Go.Proofs.YtjjigngighneeaaDoor
open Go.RowKit
set_option linter.unusedVariables false
set_option linter.unusedSimpArgs false
set_option maxRecDepth 100000

def allB (f : Nat → Bool) : Nat → Bool
  | 0 => true
  | n + 1 => f n && allB f n
theorem allB_at {f : Nat → Bool} : ∀ {n : Nat}, allB f n = true → ∀ i, i < n → f i = true
  | n + 1, h, i, hi => by
    rw [allB, Bool.and_eq_true] at h
    rcases Nat.lt_or_ge i n with h1 | h1
    · exact allB_at h.2 i h1
    · rw [show i = n by omega]; exact h.1
def yoeN (doe : Nat) : Nat := (doe - doe / 1460 + doe / 36524 - doe / 146096) / 365
def marL (y : Nat) : Nat := if (y + 1) % 4 = 0 ∧ ((y + 1) % 100 ≠ 0 ∨ (y + 1) % 400 = 0) then 366 else 365
theorem yoe_all : allB (fun y => allB (fun d => Nat.beq (yoeN (365 * y + y / 4 - y / 100 + d)) y) (marL y)) 400 = true := by decide +kernel
theorem yoe_ok {y d : Nat} (hy : y < 400) (hd : d < marL y) : yoeN (365 * y + y / 4 - y / 100 + d) = y :=
  Nat.eq_of_beq_eq_true (allB_at (allB_at yoe_all y hy) d hd)
theorem leap_eq (y : Int) : oneI1 (leapB y) = if y % 4 = 0 ∧ (y % 100 ≠ 0 ∨ y % 400 = 0) then 1 else 0 := by
  unfold oneI1 leapB
  by_cases h4 : y % 4 = 0 <;> by_cases h1 : y % 100 = 0 <;> by_cases h0 : y % 400 = 0 <;> simp [h4, h1, h0]
theorem marL_eq {y : Int} {k : Nat} {e : Int} (h : y = 400 * e + k + 1) : (marL k : Int) = 365 + oneI1 (leapB y) := by
  rw [leap_eq]
  unfold marL
  by_cases c : y % 4 = 0 ∧ (y % 100 ≠ 0 ∨ y % 400 = 0)
  · rw [if_pos c, if_pos (by omega)]; rfl
  · rw [if_neg c, if_neg (by omega)]; rfl
theorem civ_y {n : Int} {y m d hh mi s wd : Nat} (c : CivN n y m d hh mi s wd) (h1 : n ≤ 253402300799) : y ≤ 9999 := by
  obtain ⟨y0, y1, m0, m1, d0, d1, he, -⟩ := c
  have hc : 0 ≤ cumM y (m - 1) := by
    generalize m - 1 = k
    induction k with
    | zero => simp [cumM]
    | succ k ih => have := (lenM_pos y (k + 1)).1; simp only [cumM]; omega
  have hb : befY 1970 = 719527 := by decide
  rw [hb] at he
  unfold befY at he
  rcases (by omega : y ≤ 9999 ∨ y = 10000 ∨ 10001 ≤ y) with h | h | h
  · exact h
  · subst h; omega
  · omega
/-- The document's numbers of a date. -/
structure RefC (n : Int) (y m d : Nat) (era yoe mp : Nat) : Prop where
  e1 : era ≤ 30
  y1 : yoe < 400
  p1 : mp ≤ 11
  days : n / 86400 + 719468 = 146097 * (era : Int) + ((365 * yoe + yoe / 4 - yoe / 100 + ((153 * mp + 2) / 5 + d - 1) : Nat) : Int)
  len : (153 * mp + 2) / 5 + d - 1 < marL yoe
  mon : (5 * ((153 * mp + 2) / 5 + d - 1) + 2) / 153 = mp
  fin : (3 ≤ m ∧ mp + 3 = m ∧ yoe + era * 400 = y) ∨ (m ≤ 2 ∧ mp = m + 9 ∧ yoe + era * 400 + 1 = y)
theorem ref_c {n : Int} {y m d hh mi s wd : Nat} (c : CivN n y m d hh mi s wd) : ∃ era yoe mp : Nat, RefC n y m d era yoe mp := by
  obtain ⟨y0, y1, m0, m1, d0, d1, he, -⟩ := c
  have hb : befY 1970 = 719527 := by decide
  have hs := befY_succ y
  have hl := leap_01 (y : Int)
  unfold yLen at hs
  rw [hb] at he
  rcases (by omega : m ≤ 2 ∨ 3 ≤ m) with hm | hm
  · have hL := marL_eq (y := y) (k := (y - 1) % 400) (e := ((y - 1) / 400 : Nat)) (by omega)
    have hcase : m = 1 ∨ m = 2 := by omega
    have hq : (y - 1) % 400 < 400 := Nat.mod_lt _ (by omega)
    unfold befY at he
    refine ⟨(y - 1) / 400, (y - 1) % 400, m + 9, by omega, hq, by omega, ?_, ?_, ?_, .inr ⟨hm, rfl, by omega⟩⟩
    · rcases hcase with rfl | rfl <;> simp [cumM, lenM] at he <;> omega
    · rcases hcase with rfl | rfl <;> simp [lenM] at d1 <;> omega
    · rcases hcase with rfl | rfl <;> simp [lenM] at d1 <;> omega
  · have hq : y % 400 < 400 := Nat.mod_lt _ (by omega)
    have hg : 365 ≤ marL (y % 400) := by unfold marL; split <;> omega
    generalize hbs : befY (y + 1) = bs at hs
    generalize befY (y : Int) = b0 at hs he
    unfold befY at hbs
    have hcase : m = 3 ∨ m = 4 ∨ m = 5 ∨ m = 6 ∨ m = 7 ∨ m = 8 ∨ m = 9 ∨ m = 10 ∨ m = 11 ∨ m = 12 := by omega
    refine ⟨y / 400, y % 400, m - 3, by omega, hq, by omega, ?_, ?_, ?_, .inl ⟨hm, by omega, by omega⟩⟩
    · rcases hcase with rfl | rfl | rfl | rfl | rfl | rfl | rfl | rfl | rfl | rfl <;> simp [cumM, lenM] at he <;> omega
    · rcases hcase with rfl | rfl | rfl | rfl | rfl | rfl | rfl | rfl | rfl | rfl <;> simp [lenM] at d1 <;> omega
    · rcases hcase with rfl | rfl | rfl | rfl | rfl | rfl | rfl | rfl | rfl | rfl <;> simp [lenM] at d1 <;> omega
end Go.Proofs.YtjjigngighneeaaDoor
