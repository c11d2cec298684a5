/- Sums of whole numbers as doubles are exact below 2^53. -/
import Derived.Test.YtnpkfhnhcadgeaaDoorSm1
import Derived.Laws.Externs
namespace Go.Proofs.YtnpkfhnhcadgeaaDoor
open Go.RowKit
set_option linter.unusedVariables false
set_option linter.unusedSimpArgs false
/-- A whole number as a double. -/
def fl (n : Nat) : Nat := floatOfInt .f64 (n : Int)
theorem lp : Ieee.double.leastPlace = -1074 := by decide
theorem cut_z (n : Nat) : Ieee.Toward.even.cut false n 0 = n := by
  unfold Ieee.Toward.cut
  simp [Nat.mod_one]
theorem cut_pow (n d : Nat) (hd : d ≤ (n * 2 ^ d).log2 + 2) : Ieee.Toward.even.cut false (n * 2 ^ d) d = n := by
  unfold Ieee.Toward.cut
  have h2 : 0 < 2 ^ d := Nat.two_pow_pos d
  have e : 1 <<< min d ((n * 2 ^ d).log2 + 2) = 2 ^ d := by rw [Nat.min_eq_left hd, Nat.shiftLeft_eq, Nat.one_mul]
  rw [e]
  simp only [Nat.mul_div_cancel _ h2, Nat.mul_mod_left]
  have : ¬ 2 ^ d < 2 * 0 := by omega
  have h3 : (2 ^ d == 2 * 0) = false := by simp
  simp [h3]
/-- The significand and the rung of a whole number. -/
theorem near_pow {N k : Nat} (hN : 0 < N) (hb : N < 2 ^ 53) (hk : k ≤ 1100) : Ieee.double.nearest false (N * 2 ^ k) (-(k : Int)) = (N.log2 + 1022) * 2 ^ 52 + N * 2 ^ (52 - N.log2) := by
  have hL : N.log2 < 53 := (Nat.log2_lt (by omega)).2 hb
  have hlog : (N * 2 ^ k).log2 = N.log2 + k := by
    rw [Nat.log2_eq_iff (by have := Nat.two_pow_pos k; exact Nat.ne_of_gt (Nat.mul_pos hN this))]
    have h1 := Nat.log2_self_le (n := N) (by omega)
    have h2 := Nat.lt_log2_self (n := N)
    constructor
    · rw [Nat.pow_add]; exact Nat.mul_le_mul_right _ h1
    · rw [show N.log2 + k + 1 = (N.log2 + 1) + k by omega, Nat.pow_add]; exact Nat.mul_lt_mul_of_pos_right h2 (Nat.two_pow_pos k)
  have hne : N * 2 ^ k ≠ 0 := by have := Nat.two_pow_pos k; exact Nat.ne_of_gt (Nat.mul_pos hN this)
  have hf : Ieee.double.fractionBits = 52 := rfl
  have hbi : Ieee.double.binade = 2 ^ 52 := rfl
  have hI : Ieee.double.infRung = 2047 * 2 ^ 52 := by decide
  have hlast : max (-(k : Int) + ((N * 2 ^ k).log2 : Nat) - (52 : Nat)) (-1074) = (N.log2 : Int) - 52 := by rw [hlog]; omega
  have hup : N * 2 ^ (52 - N.log2) < 2 ^ 53 := by
    have h2 := Nat.lt_log2_self (n := N)
    calc N * 2 ^ (52 - N.log2) < 2 ^ (N.log2 + 1) * 2 ^ (52 - N.log2) := Nat.mul_lt_mul_of_pos_right h2 (Nat.two_pow_pos _)
      _ = 2 ^ 53 := by rw [← Nat.pow_add]; congr 1; omega
  unfold Ieee.Format.nearest
  rw [if_neg hne, lp, hf, hbi, hI]
  simp only [hlast]
  have hc : Ieee.Toward.even.cut false ((N * 2 ^ k) <<< (-(k : Int) - ((N.log2 : Int) - 52)).toNat) (((N.log2 : Int) - 52) - -(k : Int)).toNat = N * 2 ^ (52 - N.log2) := by
    by_cases hkl : k ≤ 52 - N.log2
    · have e1 : (-(k : Int) - ((N.log2 : Int) - 52)).toNat = 52 - N.log2 - k := by omega
      have e2 : (((N.log2 : Int) - 52) - -(k : Int)).toNat = 0 := by omega
      rw [e1, e2, cut_z, Nat.shiftLeft_eq, Nat.mul_assoc, ← Nat.pow_add]
      congr 2; omega
    · obtain ⟨d, hd⟩ : ∃ d, k = (52 - N.log2) + d := ⟨k - (52 - N.log2), by omega⟩
      have e1 : (-(k : Int) - ((N.log2 : Int) - 52)).toNat = 0 := by omega
      have e2 : (((N.log2 : Int) - 52) - -(k : Int)).toNat = d := by omega
      rw [e1, e2, Nat.shiftLeft_zero]
      have e3 : N * 2 ^ k = (N * 2 ^ (52 - N.log2)) * 2 ^ d := by rw [Nat.mul_assoc, ← Nat.pow_add, hd]
      rw [e3]
      refine cut_pow _ d ?_
      rw [← e3, hlog]; omega
  rw [hc]
  have e4 : (((N.log2 : Int) - 52) - -1074).toNat = N.log2 + 1022 := by omega
  rw [e4]
  have hw : ∀ r, Ieee.double.word false r = r := fun _ => rfl
  rw [hw]
  exact Nat.min_eq_left (by omega)
theorem near_zero (k : Int) : Ieee.double.nearest false 0 k = 0 := by unfold Ieee.Format.nearest; rw [if_pos rfl]; rfl
theorem fl_near (n : Nat) : fl n = Ieee.double.nearest false n 0 := by
  have h : (decide ((n : Int) < 0)) = false := by simp
  show Ieee.double.nearest (decide ((n : Int) < 0)) (n : Int).natAbs 0 = _
  rw [h, Int.natAbs_natCast]
theorem fl_rung {N : Nat} (hN : 0 < N) (hb : N < 2 ^ 53) : fl N = (N.log2 + 1022) * 2 ^ 52 + N * 2 ^ (52 - N.log2) := by
  rw [fl_near]
  have := near_pow hN hb (k := 0) (by omega)
  simpa using this
/-- What stands for the whole number n. -/
def Vl (d : Ieee.Datum) (n : Nat) : Prop := ∃ k : Nat, k ≤ 1074 ∧ d = .number false (n * 2 ^ k) (-(k : Int))
theorem read_fl {n : Nat} (hb : n < 2 ^ 53) : Vl (Ieee.double.read (fl n)) n := by
  by_cases hN : n = 0
  · subst hN
    obtain ⟨q, hq⟩ : ∃ q : Nat, q = 1074 := ⟨_, rfl⟩
    refine ⟨q, by omega, ?_⟩
    rw [fl_near, near_zero, Nat.zero_mul, hq]
    decide
  · have hN : 0 < n := by omega
    have hL : n.log2 < 53 := (Nat.log2_lt (by omega)).2 hb
    have hlo : 2 ^ 52 ≤ n * 2 ^ (52 - n.log2) := by
      have h1 := Nat.log2_self_le (n := n) (by omega)
      calc 2 ^ 52 = 2 ^ n.log2 * 2 ^ (52 - n.log2) := by rw [← Nat.pow_add]; congr 1; omega
        _ ≤ _ := Nat.mul_le_mul_right _ h1
    have hup : n * 2 ^ (52 - n.log2) < 2 ^ 53 := by
      have h2 := Nat.lt_log2_self (n := n)
      calc n * 2 ^ (52 - n.log2) < 2 ^ (n.log2 + 1) * 2 ^ (52 - n.log2) := Nat.mul_lt_mul_of_pos_right h2 (Nat.two_pow_pos _)
        _ = 2 ^ 53 := by rw [← Nat.pow_add]; congr 1; omega
    refine ⟨52 - n.log2, by omega, ?_⟩
    rw [fl_rung hN hb]
    obtain ⟨r, hr⟩ : ∃ r, n * 2 ^ (52 - n.log2) = 2 ^ 52 + r := ⟨n * 2 ^ (52 - n.log2) - 2 ^ 52, by omega⟩
    rw [hr] at hlo hup ⊢
    obtain ⟨L, hl⟩ : ∃ L, n.log2 = L := ⟨_, rfl⟩
    rw [hl] at hL ⊢
    have hsw : Ieee.double.signWeight = 2 ^ 63 := by decide
    have hbi : Ieee.double.binade = 2 ^ 52 := rfl
    have hI : Ieee.double.infRung = 2047 * 2 ^ 52 := by decide
    unfold Ieee.Format.read
    rw [hsw, hbi, hI, lp]
    obtain ⟨x, hx⟩ : ∃ x, (L + 1022) * 2 ^ 52 + (2 ^ 52 + r) = x := ⟨_, rfl⟩
    rw [hx]
    have x1 : x / 2 ^ 63 = 0 := by omega
    have x2 : x % 2 ^ 63 = x := by omega
    simp only [x1, x2]
    rw [if_neg (by omega), if_pos (by omega)]
    have x3 : x % 2 ^ 52 = r := by omega
    have x4 : x / 2 ^ 52 = L + 1023 := by omega
    rw [x3, x4]
    have e : (-1074 : Int) + ((L + 1023 - 1 : Nat) : Int) = -((52 - L : Nat) : Int) := by omega
    rw [e]
    rfl
theorem sum_vl {a b : Ieee.Datum} {m n : Nat} (ha : Vl a m) (hb : Vl b n) : ∃ c, a.sum b = some c ∧ Vl c (m + n) := by
  obtain ⟨i, hi, rfl⟩ := ha
  obtain ⟨j, hj, rfl⟩ := hb
  refine ⟨_, rfl, max i j, by omega, ?_⟩
  have hbase : min (-(i : Int)) (-(j : Int)) = -((max i j : Nat) : Int) := by omega
  have ei : (-(i : Int) - min (-(i : Int)) (-(j : Int))).toNat = max i j - i := by omega
  have ej : (-(j : Int) - min (-(i : Int)) (-(j : Int))).toNat = max i j - j := by omega
  have t1 : (m * 2 ^ i) <<< (max i j - i) = m * 2 ^ (max i j) := by rw [Nat.shiftLeft_eq, Nat.mul_assoc, ← Nat.pow_add]; congr 2; omega
  have t2 : (n * 2 ^ j) <<< (max i j - j) = n * 2 ^ (max i j) := by rw [Nat.shiftLeft_eq, Nat.mul_assoc, ← Nat.pow_add]; congr 2; omega
  have ht : Ieee.signed false (m * 2 ^ i) (max i j - i) + Ieee.signed false (n * 2 ^ j) (max i j - j) = (((m + n) * 2 ^ (max i j) : Nat) : Int) := by
    show ((((m * 2 ^ i) <<< (max i j - i) : Nat)) : Int) + (((n * 2 ^ j) <<< (max i j - j) : Nat) : Int) = _
    rw [t1, t2, Nat.add_mul]; simp
  show Ieee.Datum.number _ _ _ = _
  rw [ei, ej, ht, hbase]
  have hneg : ∀ t : Int, 0 ≤ t → (if t = 0 then false && false else decide (t < 0)) = false := by
    intro t h0
    split
    · rfl
    · simp; omega
  rw [hneg _ (Int.natCast_nonneg _), Int.natAbs_natCast]
theorem write_vl {d : Ieee.Datum} {n : Nat} (h : Vl d n) (hb : n < 2 ^ 53) : Ieee.double.write d = fl n := by
  obtain ⟨k, hk, rfl⟩ := h
  show Ieee.double.nearest false (n * 2 ^ k) (-(k : Int)) = _
  by_cases hN : n = 0
  · subst hN
    rw [fl_near, Nat.zero_mul, near_zero, near_zero]
  · rw [near_pow (by omega) hb (by omega), fl_rung (by omega) hb]
theorem add_fl {m n : Nat} (hm : m < 2 ^ 53) (hn : n < 2 ^ 53) (hs : m + n < 2 ^ 53) : Ieee.double.add (fl m) (fl n) = some (fl (m + n)) := by
  obtain ⟨c, h1, h2⟩ := sum_vl (read_fl hm) (read_fl hn)
  unfold Ieee.Format.add
  rw [h1]
  show some (Ieee.double.write c) = _
  rw [write_vl h2 hs]
theorem addD_fl {m n : Nat} (hs : m + n < 2 ^ 53) : addD (fl m) (fl n) = fl (m + n) := by unfold addD; rw [add_fl (by omega) (by omega) hs]; rfl
theorem order_fl {m n : Nat} (hm : m < 2 ^ 53) (hn : n < 2 ^ 53) : Ieee.double.order (fl m) (fl n) = some (compare m n) := by
  obtain ⟨i, hi, h1⟩ := read_fl hm
  obtain ⟨j, hj, h2⟩ := read_fl hn
  unfold Ieee.Format.order
  rw [h1, h2]
  have ei : (-(i : Int) - min (-(i : Int)) (-(j : Int))).toNat = max i j - i := by omega
  have ej : (-(j : Int) - min (-(i : Int)) (-(j : Int))).toNat = max i j - j := by omega
  have t1 : (m * 2 ^ i) <<< (max i j - i) = m * 2 ^ (max i j) := by rw [Nat.shiftLeft_eq, Nat.mul_assoc, ← Nat.pow_add]; congr 2; omega
  have t2 : (n * 2 ^ j) <<< (max i j - j) = n * 2 ^ (max i j) := by rw [Nat.shiftLeft_eq, Nat.mul_assoc, ← Nat.pow_add]; congr 2; omega
  show some (compare (Ieee.signed false (m * 2 ^ i) _) (Ieee.signed false (n * 2 ^ j) _)) = _
  rw [ei, ej]
  show some (compare ((((m * 2 ^ i) <<< (max i j - i) : Nat)) : Int) ((((n * 2 ^ j) <<< (max i j - j) : Nat)) : Int)) = _
  rw [t1, t2]
  obtain ⟨q, hq⟩ : ∃ q, 2 ^ max i j = q := ⟨_, rfl⟩
  have hq0 : 0 < q := by rw [← hq]; exact Nat.two_pow_pos _
  rw [hq]
  have hcmp : ∀ a b : Nat, compare (a : Int) (b : Int) = compare a b := by
    intro a b
    simp only [compare, compareOfLessAndEq]
    have e1 : ((a : Int) < b) = (a < b) := propext (by omega)
    have e2 : ((a : Int) = b) = (a = b) := propext (by omega)
    simp only [e1, e2]
  rw [hcmp]
  congr 1
  simp only [compare, compareOfLessAndEq]
  rcases Nat.lt_trichotomy m n with h | h | h
  · have : m * q < n * q := Nat.mul_lt_mul_of_pos_right h hq0
    rw [if_pos h, if_pos this]
  · subst h; simp
  · have : n * q < m * q := Nat.mul_lt_mul_of_pos_right h hq0
    rw [if_neg (by omega), if_neg (by omega), if_neg (by omega), if_neg (by omega)]
/-! ### Whole doubles: Trunc, whole, may, Join. -/
section
open Go.RowKit
set_option linter.unusedVariables false
set_option linter.unusedSimpArgs false
set_option maxRecDepth 100000
theorem cut_zero_pow (n d : Nat) (hd : n = 0 ∨ d ≤ (n * 2 ^ d).log2 + 2) : Ieee.Toward.zero.cut false (n * 2 ^ d) d = n := by
  unfold Ieee.Toward.cut
  have h2 : 0 < 2 ^ d := Nat.two_pow_pos d
  rcases hd with rfl | hd
  · simp
  · have e : 1 <<< min d ((n * 2 ^ d).log2 + 2) = 2 ^ d := by rw [Nat.min_eq_left hd, Nat.shiftLeft_eq, Nat.one_mul]
    rw [e]
    simp [Nat.mul_div_cancel _ h2]
theorem trunc_vl {n : Nat} (hn : n < 2 ^ 53) : FloatKind.f64.encode ((FloatKind.f64.decode (fl n)).integral .zero) = fl n := by
  obtain ⟨k, hk, h⟩ := read_fl hn
  have hd : FloatKind.f64.decode (fl n) = .number false (n * 2 ^ k) (-(k : Int)) := h
  rw [hd]
  unfold Ieee.Datum.integral
  have e1 : (-(k : Int)).toNat = 0 := by omega
  have e2 : (-(-(k : Int))).toNat = k := by omega
  simp only [e1, e2, Nat.shiftLeft_zero]
  have hlog : n = 0 ∨ k ≤ (n * 2 ^ k).log2 + 2 := by
    by_cases h0 : n = 0
    · exact .inl h0
    · right
      have h1 : 2 ^ k ≤ n * 2 ^ k := Nat.le_mul_of_pos_left _ (by omega)
      have := (Nat.le_log2 (by have := Nat.two_pow_pos k; omega)).2 h1
      omega
  rw [cut_zero_pow n k hlog]
  exact (fl_near n).symm
theorem arch_run {x : Nat} {s : Bool} {m : Nat} {p : Int} (h : FloatKind.f64.decode x = .number s m p) : Extern.MathFloor.toIntegral "math.archTrunc" .zero #[.float .f64 x] = pure (.float .f64 (FloatKind.f64.encode ((Ieee.Datum.number s m p).integral .zero))) := by
  obtain ⟨a, ha⟩ : ∃ a : Bool → Nat → Sem Value, Extern.MathFloor.toIntegral "math.archTrunc" .zero #[.float .f64 x] = (match FloatKind.f64.decode x with | .nan s t => a s t | d => pure (.float .f64 (FloatKind.f64.encode (d.integral .zero)))) := ⟨_, rfl⟩
  rw [ha, h]
theorem run_trunc {n : Nat} (hn : n < 2 ^ 53) (W : World) : (callFunc 59 #[.float .f64 (fl n)]).run Tryd.prog W = .ok (.value (.float .f64 (fl n))) W := by
  rw [run_callFunc_extern Tryd.func59 (by kernel_rfl) (by kernel_rfl) (by kernel_rfl) (e := Extern.MathFloor.toIntegral "math.archTrunc" .zero) (by kernel_rfl)]
  obtain ⟨k, hk, h⟩ := read_fl hn
  have hd : FloatKind.f64.decode (fl n) = .number false (n * 2 ^ k) (-(k : Int)) := h
  have ht := trunc_vl hn
  rw [hd] at ht
  rw [arch_run hd, ht]
  rfl
section
variable {R : Ending → World → Prop} {w : World}
theorem trunc_any {n : Nat} (hn : n < 2 ^ 53) (h : R (.returned (.float .f64 (fl n))) w) : Calls Tryd.prog 54 #[.float .f64 (fl n)] w R := by
  have H := Lib.hid h
  have hc := run_trunc hn
  obtain ⟨x, hx⟩ : ∃ x, fl n = x := ⟨_, rfl⟩
  rw [hx] at H hc ⊢
  clear h
  go_enter Tryd.func54, Tryd.ntmps54
  go_wp2
  exact H.out
theorem ord_self {n : Nat} (hn : n < 2 ^ 53) : FloatKind.f64.format.order (fl n) (fl n) = some .eq := by
  show Ieee.double.order _ _ = _
  rw [order_fl hn hn, Nat.compare_eq_eq.2 rfl]
theorem fl_zero : fl 0 = 0 := by kernel_rfl
theorem fl_most : fl 1099511627776 = 4787326403894837248 := by kernel_rfl
theorem ord_zero {n : Nat} (hn : n < 2 ^ 53) : (FloatKind.f64.format.order (fl n) 0 == some .gt || FloatKind.f64.format.order (fl n) 0 == some .eq) = true := by
  have h : FloatKind.f64.format.order (fl n) 0 = some (compare n 0) := by
    have := order_fl hn (show 0 < 2 ^ 53 by decide)
    rw [fl_zero] at this
    exact this
  rw [h]
  rcases Nat.eq_zero_or_pos n with rfl | h0
  · rfl
  · rw [Nat.compare_eq_gt.2 h0]; rfl
theorem ord_most {n : Nat} (hn : n < 2 ^ 53) : (FloatKind.f64.format.order (fl n) 4787326403894837248 == some .lt || FloatKind.f64.format.order (fl n) 4787326403894837248 == some .eq) = decide (n ≤ 1099511627776) := by
  have h : FloatKind.f64.format.order (fl n) 4787326403894837248 = some (compare n 1099511627776) := by
    have := order_fl hn (show 1099511627776 < 2 ^ 53 by decide)
    rw [fl_most] at this
    exact this
  rw [h]
  rcases Nat.lt_trichotomy n 1099511627776 with h0 | h0 | h0
  · rw [Nat.compare_eq_lt.2 h0, decide_eq_true (by omega)]; rfl
  · rw [Nat.compare_eq_eq.2 h0, decide_eq_true (by omega)]; rfl
  · rw [Nat.compare_eq_gt.2 h0, decide_eq_false (by omega)]; rfl
set_option maxHeartbeats 1000000 in
theorem whole_any {n : Nat} (hn : n < 2 ^ 53) (h : R (.returned (.bool (decide (n ≤ 1099511627776)))) w) : Calls Tryd.prog 61 #[.float .f64 (fl n)] w R := by
  have H := Lib.hid h
  have hT : Hid (∀ (R : Ending → World → Prop) (w : World), R (.returned (.float .f64 (fl n))) w → Calls Tryd.prog 54 #[.float .f64 (fl n)] w R) := Lib.hid (fun R w h => trunc_any hn h)
  have h0 := ord_zero hn
  have h1 := ord_most hn
  have h2 := ord_self hn
  obtain ⟨x, hx⟩ : ∃ x, fl n = x := ⟨_, rfl⟩
  rw [hx] at h0 h1 h2 hT ⊢
  clear h hx
  by_cases hm : n ≤ 1099511627776
  · rw [decide_eq_true hm] at h1 H
    go_enter Tryd.func61, Tryd.ntmps61
    go_wp2_with (go_at_call 54; refine hT.out _ _ ?_)
    exact H.out
  · rw [decide_eq_false hm] at h1 H
    go_enter Tryd.func61, Tryd.ntmps61
    go_wp2
    exact H.out
set_option maxHeartbeats 1000000 in
theorem smay_any {a b : Nat} (ha : a < 2 ^ 53) (hb : b < 2 ^ 53) (h : R (.returned (.bool (decide (a ≤ 1099511627776) && decide (b ≤ 1099511627776)))) w) : Calls Tryd.prog 55 #[.complex .f64 (fl a) (fl b)] w R := by
  have H := Lib.hid h
  have HA : Hid (∀ (R : Ending → World → Prop) (w : World), R (.returned (.bool (decide (a ≤ 1099511627776)))) w → Calls Tryd.prog 61 #[.float .f64 (fl a)] w R) := Lib.hid (fun R w h => whole_any ha h)
  have HB : Hid (∀ (R : Ending → World → Prop) (w : World), R (.returned (.bool (decide (b ≤ 1099511627776)))) w → Calls Tryd.prog 61 #[.float .f64 (fl b)] w R) := Lib.hid (fun R w h => whole_any hb h)
  obtain ⟨x, hx⟩ : ∃ x, fl a = x := ⟨_, rfl⟩
  obtain ⟨y, hy⟩ : ∃ x, fl b = x := ⟨_, rfl⟩
  rw [hx] at HA ⊢
  rw [hy] at HB ⊢
  clear h hx hy
  by_cases hm : a ≤ 1099511627776
  · rw [decide_eq_true hm] at HA H
    go_enter Tryd.func55, Tryd.ntmps55
    go_wp2_with (first | (go_at_call 61; with_reducible refine HA.out _ _ ?_) | (go_at_call 61; with_reducible refine HB.out _ _ ?_))
    exact H.out
  · rw [decide_eq_false hm] at HA H
    go_enter Tryd.func55, Tryd.ntmps55
    go_wp2_with (first | (go_at_call 61; with_reducible refine HA.out _ _ ?_) | (go_at_call 61; with_reducible refine HB.out _ _ ?_))
    exact H.out
theorem csum_fl {a b c d : Nat} (h1 : a + c < 2 ^ 53) (h2 : b + d < 2 ^ 53) : cSumBits .add .f64 (fl a) (fl b) (fl c) (fl d) = some (fl (a + c), fl (b + d)) := by
  obtain ⟨h, _, _⟩ := csum_D (floatOfInt_nn a) (floatOfInt_nn b) (floatOfInt_nn c) (floatOfInt_nn d)
  rw [show addD (floatOfInt .f64 (a : Int)) (floatOfInt .f64 (c : Int)) = fl (a + c) from addD_fl h1, show addD (floatOfInt .f64 (b : Int)) (floatOfInt .f64 (d : Int)) = fl (b + d) from addD_fl h2] at h
  exact h
end
end
/-- The sums of the bytes at even and at odd places. -/
def pr : List UInt8 → Nat × Nat
  | [] => (0, 0)
  | c :: l => (c.toNat + (pr l).2, (pr l).1)
theorem pr_app (a b : List UInt8) : pr (a ++ b) = if a.length % 2 = 0 then ((pr a).1 + (pr b).1, (pr a).2 + (pr b).2) else ((pr a).1 + (pr b).2, (pr a).2 + (pr b).1) := by
  induction a with
  | nil => simp [pr]
  | cons c a ih =>
    rw [List.cons_append]
    simp only [pr, ih, List.length_cons]
    by_cases h : a.length % 2 = 0
    · rw [if_pos h, if_neg (by omega)]
      exact Prod.ext (by show _ + (_ + _) = _ + _ + _; omega) rfl
    · rw [if_neg h, if_pos (by omega)]
      exact Prod.ext (by show _ + (_ + _) = _ + _ + _; omega) rfl
theorem pr_bd (l : List UInt8) : (pr l).1 + (pr l).2 ≤ 255 * l.length := by
  induction l with
  | nil => simp [pr]
  | cons c l ih =>
    have := c.toNat_lt
    simp only [pr, List.length_cons]; omega
theorem partN_pr (l : List UInt8) (hl : l.length ≤ 65536) : ∀ k, k ≤ l.length → partN l k = (fl (pr (l.take k)).1, fl (pr (l.take k)).2)
  | 0, _ => by simp [partN, pr, fl_zero]
  | k + 1, hk => by
    have ih := partN_pr l hl k (by omega)
    have hg : l.getD k 0 = l[k]'(by omega) := by rw [List.getD_eq_getElem?_getD, List.getElem?_eq_getElem (by omega)]; rfl
    have ht : l.take (k + 1) = l.take k ++ [l[k]'(by omega)] := List.take_succ_eq_append_getElem (by omega)
    have hb := pr_bd (l.take k)
    have hlen : (l.take k).length = k := by simp; omega
    rw [hlen] at hb
    have hc := (l[k]'(by omega)).toNat_lt
    rw [partN, ih, hg, ht, pr_app, hlen]
    have hz : ∀ m : Nat, m < 2 ^ 52 → addD (fl m) 0 = fl m := fun m hm => by
      have := addD_fl (m := m) (n := 0) (by omega)
      rw [fl_zero] at this
      simpa using this
    have ha : ∀ m : Nat, m < 2 ^ 52 → addD (fl m) (floatOfInt .f64 (((l[k]'(by omega)).toNat : Nat) : Int)) = fl (m + (l[k]'(by omega)).toNat) := fun m hm => addD_fl (by omega)
    by_cases h : k % 2 = 1
    · rw [if_pos h, if_neg (by omega)]
      simp only [pr]
      rw [hz _ (by omega), ha _ (by omega)]
      simp
    · rw [if_neg h, if_pos (by omega)]
      simp only [pr]
      rw [hz _ (by omega), ha _ (by omega)]
      simp
theorem part_pr {l : List UInt8} {n : Nat} (hn : l.length = n) (hl : n ≤ 65536) : partN l n = (fl (pr l).1, fl (pr l).2) := by
  have := partN_pr l (by omega) n (by omega)
  rwa [List.take_of_length_le (by omega)] at this
end Go.Proofs.YtnpkfhnhcadgeaaDoor
