/- Doubles of any int64: which are a part's word. -/
import Derived.Test.YtnpkfhnhcadgeaaDoorIn10
namespace Go.Proofs.YtnpkfhnhcadgeaaDoor
open Go.RowKit
set_option linter.unusedVariables false
set_option linter.unusedSimpArgs false
set_option maxRecDepth 100000
theorem big_read {n : Nat} (h1 : 2 ^ 53 ≤ n) (h2 : n < 2 ^ 64) : ∃ m p : Nat, 2 ^ 52 ≤ m ∧ 1 ≤ p ∧ Ieee.double.read (fl n) = .number false m (p : Int) := by
  obtain ⟨L, hL⟩ : ∃ L, n.log2 = L := ⟨_, rfl⟩
  have hn0 : n ≠ 0 := by omega
  have l1 : 53 ≤ L := by
    rw [← hL]
    exact (Nat.le_log2 hn0).2 h1
  have l2 : L < 64 := by
    rw [← hL]
    exact (Nat.log2_lt hn0).2 h2
  obtain ⟨d, hd⟩ : ∃ d, L = 52 + d := ⟨L - 52, by omega⟩
  have b1 : 2 ^ 52 * 2 ^ d ≤ n := by
    have := Nat.log2_self_le hn0
    rw [hL, hd, Nat.pow_add] at this
    exact this
  have b2 : n < 2 ^ 53 * 2 ^ d := by
    have := Nat.lt_log2_self (n := n)
    rw [hL, hd, show 52 + d + 1 = 53 + d by omega, Nat.pow_add] at this
    exact this
  have hp : 0 < 2 ^ d := Nat.two_pow_pos d
  have c1 : 2 ^ 52 ≤ n / 2 ^ d := (Nat.le_div_iff_mul_le hp).2 b1
  have c2 : n / 2 ^ d < 2 ^ 53 := (Nat.div_lt_iff_lt_mul hp).2 b2
  obtain ⟨q, hq, q1, q2⟩ : ∃ q, Ieee.Toward.even.cut false n d = q ∧ 2 ^ 52 ≤ q ∧ q ≤ 2 ^ 53 := by
    refine ⟨_, rfl, ?_, ?_⟩ <;> unfold Ieee.Toward.cut <;> rw [Nat.min_eq_left (show d ≤ n.log2 + 2 by omega), Nat.shiftLeft_eq, Nat.one_mul]
    · exact Nat.le_trans c1 (Nat.le_add_right _ _)
    · have : ∀ b : Bool, b.toNat ≤ 1 := by decide
      exact Nat.le_trans (Nat.add_le_add_left (this _) _) c2
  have hf : Ieee.double.fractionBits = 52 := rfl
  have hbi : Ieee.double.binade = 2 ^ 52 := rfl
  have hI : Ieee.double.infRung = 2047 * 2 ^ 52 := by decide
  have hsw : Ieee.double.signWeight = 2 ^ 63 := by decide
  have e : fl n = (d + 1074) * 2 ^ 52 + q := by
    rw [fl_near]
    unfold Ieee.Format.nearest
    rw [if_neg hn0, lp, hf, hbi, hI, hL]
    have hlast : max ((0 : Int) + (L : Nat) - (52 : Nat)) (-1074) = (d : Int) := by omega
    simp only [hlast]
    rw [show ((0 : Int) - (d : Int)).toNat = 0 by omega, show ((d : Int) - 0).toNat = d by omega, Nat.shiftLeft_zero, hq, show ((d : Int) - -1074).toNat = d + 1074 by omega]
    have hw : ∀ r, Ieee.double.word false r = r := fun _ => rfl
    rw [hw]
    exact Nat.min_eq_left (by omega)
  rw [e]
  unfold Ieee.Format.read
  rw [hsw, hbi, hI, lp]
  obtain ⟨x, hx⟩ : ∃ x, (d + 1074) * 2 ^ 52 + q = x := ⟨_, rfl⟩
  rw [hx]
  have x1 : x / 2 ^ 63 = 0 := by omega
  have x2 : x % 2 ^ 63 = x := by omega
  simp only [x1, x2]
  rw [if_neg (by omega), if_pos (by omega)]
  refine ⟨2 ^ 52 + x % 2 ^ 52, x / 2 ^ 52 - 1 - 1074, Nat.le_add_right _ _, by omega, ?_⟩
  congr 1
  omega
theorem cmp_int_lt {a b : Int} (h : a < b) : compare a b = .lt := by simp only [compare, compareOfLessAndEq, if_pos h]
theorem cmp_int_gt {a b : Int} (h : b < a) : compare a b = .gt := by
  simp only [compare, compareOfLessAndEq]
  rw [if_neg (by omega), if_neg (by omega)]
theorem big_ord {n k : Nat} (h1 : 2 ^ 53 ≤ n) (h2 : n < 2 ^ 64) (hk : k < 2 ^ 53) : Ieee.double.order (fl n) (fl k) = some .gt := by
  obtain ⟨m, p, hm, hp, hr⟩ := big_read h1 h2
  obtain ⟨j, hj, hr2⟩ := read_fl hk
  unfold Ieee.Format.order
  rw [hr, hr2]
  show some (compare (Ieee.signed false m _) (Ieee.signed false (k * 2 ^ j) _)) = _
  have ei : ((p : Int) - min (p : Int) (-(j : Int))).toNat = p + j := by omega
  have ej : (-(j : Int) - min (p : Int) (-(j : Int))).toNat = 0 := by omega
  rw [ei, ej]
  show some (compare (((m <<< (p + j) : Nat)) : Int) (((k * 2 ^ j) <<< 0 : Nat) : Int)) = _
  rw [Nat.shiftLeft_eq, Nat.shiftLeft_zero, cmp_int_gt]
  have h3 : k * 2 ^ j < m * 2 ^ (p + j) := by
    rw [Nat.pow_add, ← Nat.mul_assoc]
    refine Nat.mul_lt_mul_of_pos_right ?_ (Nat.two_pow_pos _)
    have h4 : 2 ^ 1 ≤ 2 ^ p := Nat.pow_le_pow_right (by decide) hp
    have h5 : m * 2 ^ 1 ≤ m * 2 ^ p := Nat.mul_le_mul_left _ h4
    omega
  omega
theorem neg_ord {n : Nat} (h1 : 0 < n) : Ieee.double.order (floatOfInt .f64 (-(n : Int))) 0 = some .lt := by
  have hI : Ieee.double.infRung = 2047 * 2 ^ 52 := by decide
  have hsw : Ieee.double.signWeight = 2 ^ 63 := by decide
  have hbi : Ieee.double.binade = 2 ^ 52 := rfl
  obtain ⟨r, hr, r1⟩ : ∃ r, floatOfInt .f64 (-(n : Int)) = 2 ^ 63 + r ∧ 0 < r ∧ r ≤ 2047 * 2 ^ 52 := by
    have e : floatOfInt .f64 (-(n : Int)) = Ieee.double.nearest true n 0 := by
      show Ieee.double.nearest (decide (-(n : Int) < 0)) (-(n : Int)).natAbs 0 = _
      rw [show decide (-(n : Int) < 0) = true by simp; omega, Int.natAbs_neg, Int.natAbs_natCast]
    rw [e]
    unfold Ieee.Format.nearest
    rw [if_neg (by omega)]
    refine ⟨_, by unfold Ieee.Format.word; rw [if_pos rfl, hsw], ?_⟩
    rw [hI, lp]
    have hf : Ieee.double.fractionBits = 52 := rfl
    rw [hf, hbi]
    refine ⟨?_, Nat.min_le_right _ _⟩
    refine Nat.lt_min.2 ⟨?_, by decide⟩
    have h2 : 0 < (max ((0 : Int) + (n.log2 : Nat) - (52 : Nat)) (-1074) - -1074).toNat := by omega
    exact Nat.lt_of_lt_of_le (Nat.mul_pos h2 (by decide)) (Nat.le_add_right _ _)
  have hz : Ieee.double.read 0 = .number false 0 (-1074) := by decide
  have hrd : (∃ m p, 0 < m ∧ Ieee.double.read (2 ^ 63 + r) = .number true m p) ∨ Ieee.double.read (2 ^ 63 + r) = .infinity true := by
    unfold Ieee.Format.read
    rw [hsw, hbi, hI, lp]
    have x1 : (2 ^ 63 + r) / 2 ^ 63 = 1 := by omega
    have x2 : (2 ^ 63 + r) % 2 ^ 63 = r := by omega
    simp only [x1, x2]
    split
    · exact .inl ⟨_, _, r1.1, rfl⟩
    · split
      · exact .inl ⟨_, _, by omega, rfl⟩
      · rw [if_pos (by omega)]
        exact .inr rfl
  unfold Ieee.Format.order
  rw [hr, hz]
  rcases hrd with ⟨m, p, hm, h⟩ | h <;> rw [h]
  · show some (compare (Ieee.signed true m _) (Ieee.signed false 0 _)) = _
    generalize (p - min p (-1074)).toNat = i
    generalize ((-1074 : Int) - min p (-1074)).toNat = j
    show some (compare (-((m <<< i : Nat) : Int)) ((0 <<< j : Nat) : Int)) = _
    rw [cmp_int_lt]
    have : 0 < m <<< i := by rw [Nat.shiftLeft_eq]; exact Nat.mul_pos hm (Nat.two_pow_pos _)
    rw [Nat.zero_shiftLeft]
    omega
  · rfl
section
variable {R : Ending → World → Prop} {w : World}
set_option maxHeartbeats 1000000 in
theorem word_neg {x : Nat} (h0 : (FloatKind.f64.format.order x 0 == some .gt || FloatKind.f64.format.order x 0 == some .eq) = false) : WordAt x false := by
  intro R w h
  have H := Lib.hid h
  clear h
  go_enter Tryd.func49, Tryd.ntmps49
  go_wp2
  exact H.out
set_option maxHeartbeats 1000000 in
theorem word_big {x : Nat} (h0 : (FloatKind.f64.format.order x 0 == some .gt || FloatKind.f64.format.order x 0 == some .eq) = true)
    (h1 : (FloatKind.f64.format.order x 4679239875398991872 == some .lt || FloatKind.f64.format.order x 4679239875398991872 == some .eq) = false) : WordAt x false := by
  intro R w h
  have H := Lib.hid h
  clear h
  go_enter Tryd.func49, Tryd.ntmps49
  go_wp2
  exact H.out
end
/-- Any whole number of an int64 as a double is a word where it is one. -/
theorem word_int (z : Int) (h1 : -9223372036854775808 ≤ z) (h2 : z ≤ 9223372036854775807) : WordAt (floatOfInt .f64 z) (decide (0 ≤ z ∧ z ≤ 65535)) := by
  rcases Int.lt_or_le z 0 with hz | hz
  · obtain ⟨n, rfl⟩ : ∃ n : Nat, z = -(n : Int) := ⟨z.natAbs, by omega⟩
    rw [decide_eq_false (by omega)]
    have h : FloatKind.f64.format.order (floatOfInt .f64 (-(n : Int))) 0 = some .lt := neg_ord (by omega)
    exact word_neg (by rw [h]; rfl)
  · obtain ⟨n, rfl⟩ : ∃ n : Nat, z = (n : Int) := ⟨z.toNat, by omega⟩
    rcases Nat.lt_or_ge n (2 ^ 53) with hn | hn
    · have := word_fl hn
      rw [show decide (0 ≤ (n : Int) ∧ (n : Int) ≤ 65535) = decide (n ≤ 65535) by simp; omega]
      exact this
    · rw [decide_eq_false (by omega)]
      have h3 : FloatKind.f64.format.order (fl n) 0 = some .gt := by
        have := big_ord hn (by omega) (show 0 < 2 ^ 53 by decide)
        rw [fl_zero] at this
        exact this
      have h4 : FloatKind.f64.format.order (fl n) 4679239875398991872 = some .gt := by
        have := big_ord hn (by omega) (show 65535 < 2 ^ 53 by decide)
        rw [fl_word] at this
        exact this
      exact word_big (x := fl n) (by rw [h3]; rfl) (by rw [h4]; rfl)
end Go.Proofs.YtnpkfhnhcadgeaaDoor
