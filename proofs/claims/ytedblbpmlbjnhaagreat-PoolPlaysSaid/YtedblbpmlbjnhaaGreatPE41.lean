/- Sums of whole numbers as doubles are exact below 2^53. A pool writes to a slot's frame; it forgets blocks. A pool gets a block. -/
import Derived.Test.YtedblbpmlbjnhaaGreatPE37
import Derived.Laws.Externs
import Derived.Test.YtedblbpmlbjnhaaGreatPE38
import Derived.Deep.RegionHeldLaw
namespace Go.Proofs.YtedblbpmlbjnhaaGreat
/-! ### Sums of whole numbers as doubles are exact below 2^53. -/
section
open Go.RowKit
set_option linter.unusedVariables false
set_option linter.unusedSimpArgs false
/-- A whole number as a double. -/
def fl (n : Nat) : Nat := floatOfInt .f64 (n : Int)
theorem lp : Ieee.double.leastPlace = -1074 := by decide
theorem cut_z (n : Nat) : Ieee.Toward.even.cut false n 0 = n := by
  unfold Ieee.Toward.cut
  simp [Nat.mod_one]
theorem cut_pow (n d : Nat) (hd : d ≤ (n * 2 ^ d).log2 + 2) : Ieee.Toward.even.cut false (n * 2 ^ d) d = n := by
  unfold Ieee.Toward.cut
  have h2 : 0 < 2 ^ d := Nat.two_pow_pos d
  have e : 1 <<< min d ((n * 2 ^ d).log2 + 2) = 2 ^ d := by rw [Nat.min_eq_left hd, Nat.shiftLeft_eq, Nat.one_mul]
  rw [e]
  simp only [Nat.mul_div_cancel _ h2, Nat.mul_mod_left]
  have : ¬ 2 ^ d < 2 * 0 := by omega
  have h3 : (2 ^ d == 2 * 0) = false := by simp
  simp [h3]
/-- The significand and the rung of a whole number. -/
theorem near_pow {N k : Nat} (hN : 0 < N) (hb : N < 2 ^ 53) (hk : k ≤ 1100) : Ieee.double.nearest false (N * 2 ^ k) (-(k : Int)) = (N.log2 + 1022) * 2 ^ 52 + N * 2 ^ (52 - N.log2) := by
  have hL : N.log2 < 53 := (Nat.log2_lt (by omega)).2 hb
  have hlog : (N * 2 ^ k).log2 = N.log2 + k := by
    rw [Nat.log2_eq_iff (by have := Nat.two_pow_pos k; exact Nat.ne_of_gt (Nat.mul_pos hN this))]
    have h1 := Nat.log2_self_le (n := N) (by omega)
    have h2 := Nat.lt_log2_self (n := N)
    constructor
    · rw [Nat.pow_add]; exact Nat.mul_le_mul_right _ h1
    · rw [show N.log2 + k + 1 = (N.log2 + 1) + k by omega, Nat.pow_add]; exact Nat.mul_lt_mul_of_pos_right h2 (Nat.two_pow_pos k)
  have hne : N * 2 ^ k ≠ 0 := by have := Nat.two_pow_pos k; exact Nat.ne_of_gt (Nat.mul_pos hN this)
  have hf : Ieee.double.fractionBits = 52 := rfl
  have hbi : Ieee.double.binade = 2 ^ 52 := rfl
  have hI : Ieee.double.infRung = 2047 * 2 ^ 52 := by decide
  have hlast : max (-(k : Int) + ((N * 2 ^ k).log2 : Nat) - (52 : Nat)) (-1074) = (N.log2 : Int) - 52 := by rw [hlog]; omega
  have hup : N * 2 ^ (52 - N.log2) < 2 ^ 53 := by
    have h2 := Nat.lt_log2_self (n := N)
    calc N * 2 ^ (52 - N.log2) < 2 ^ (N.log2 + 1) * 2 ^ (52 - N.log2) := Nat.mul_lt_mul_of_pos_right h2 (Nat.two_pow_pos _)
      _ = 2 ^ 53 := by rw [← Nat.pow_add]; congr 1; omega
  unfold Ieee.Format.nearest
  rw [if_neg hne, lp, hf, hbi, hI]
  simp only [hlast]
  have hc : Ieee.Toward.even.cut false ((N * 2 ^ k) <<< (-(k : Int) - ((N.log2 : Int) - 52)).toNat) (((N.log2 : Int) - 52) - -(k : Int)).toNat = N * 2 ^ (52 - N.log2) := by
    by_cases hkl : k ≤ 52 - N.log2
    · have e1 : (-(k : Int) - ((N.log2 : Int) - 52)).toNat = 52 - N.log2 - k := by omega
      have e2 : (((N.log2 : Int) - 52) - -(k : Int)).toNat = 0 := by omega
      rw [e1, e2, cut_z, Nat.shiftLeft_eq, Nat.mul_assoc, ← Nat.pow_add]
      congr 2; omega
    · obtain ⟨d, hd⟩ : ∃ d, k = (52 - N.log2) + d := ⟨k - (52 - N.log2), by omega⟩
      have e1 : (-(k : Int) - ((N.log2 : Int) - 52)).toNat = 0 := by omega
      have e2 : (((N.log2 : Int) - 52) - -(k : Int)).toNat = d := by omega
      rw [e1, e2, Nat.shiftLeft_zero]
      have e3 : N * 2 ^ k = (N * 2 ^ (52 - N.log2)) * 2 ^ d := by rw [Nat.mul_assoc, ← Nat.pow_add, hd]
      rw [e3]
      refine cut_pow _ d ?_
      rw [← e3, hlog]; omega
  rw [hc]
  have e4 : (((N.log2 : Int) - 52) - -1074).toNat = N.log2 + 1022 := by omega
  rw [e4]
  have hw : ∀ r, Ieee.double.word false r = r := fun _ => rfl
  rw [hw]
  exact Nat.min_eq_left (by omega)
theorem near_zero (k : Int) : Ieee.double.nearest false 0 k = 0 := by unfold Ieee.Format.nearest; rw [if_pos rfl]; rfl
theorem fl_near (n : Nat) : fl n = Ieee.double.nearest false n 0 := by
  have h : (decide ((n : Int) < 0)) = false := by simp
  show Ieee.double.nearest (decide ((n : Int) < 0)) (n : Int).natAbs 0 = _
  rw [h, Int.natAbs_natCast]
theorem fl_rung {N : Nat} (hN : 0 < N) (hb : N < 2 ^ 53) : fl N = (N.log2 + 1022) * 2 ^ 52 + N * 2 ^ (52 - N.log2) := by
  rw [fl_near]
  have := near_pow hN hb (k := 0) (by omega)
  simpa using this
/-- What stands for the whole number n. -/
def Vl (d : Ieee.Datum) (n : Nat) : Prop := ∃ k : Nat, k ≤ 1074 ∧ d = .number false (n * 2 ^ k) (-(k : Int))
theorem read_fl {n : Nat} (hb : n < 2 ^ 53) : Vl (Ieee.double.read (fl n)) n := by
  by_cases hN : n = 0
  · subst hN
    obtain ⟨q, hq⟩ : ∃ q : Nat, q = 1074 := ⟨_, rfl⟩
    refine ⟨q, by omega, ?_⟩
    rw [fl_near, near_zero, Nat.zero_mul, hq]
    decide
  · have hN : 0 < n := by omega
    have hL : n.log2 < 53 := (Nat.log2_lt (by omega)).2 hb
    have hlo : 2 ^ 52 ≤ n * 2 ^ (52 - n.log2) := by
      have h1 := Nat.log2_self_le (n := n) (by omega)
      calc 2 ^ 52 = 2 ^ n.log2 * 2 ^ (52 - n.log2) := by rw [← Nat.pow_add]; congr 1; omega
        _ ≤ _ := Nat.mul_le_mul_right _ h1
    have hup : n * 2 ^ (52 - n.log2) < 2 ^ 53 := by
      have h2 := Nat.lt_log2_self (n := n)
      calc n * 2 ^ (52 - n.log2) < 2 ^ (n.log2 + 1) * 2 ^ (52 - n.log2) := Nat.mul_lt_mul_of_pos_right h2 (Nat.two_pow_pos _)
        _ = 2 ^ 53 := by rw [← Nat.pow_add]; congr 1; omega
    refine ⟨52 - n.log2, by omega, ?_⟩
    rw [fl_rung hN hb]
    obtain ⟨r, hr⟩ : ∃ r, n * 2 ^ (52 - n.log2) = 2 ^ 52 + r := ⟨n * 2 ^ (52 - n.log2) - 2 ^ 52, by omega⟩
    rw [hr] at hlo hup ⊢
    obtain ⟨L, hl⟩ : ∃ L, n.log2 = L := ⟨_, rfl⟩
    rw [hl] at hL ⊢
    have hsw : Ieee.double.signWeight = 2 ^ 63 := by decide
    have hbi : Ieee.double.binade = 2 ^ 52 := rfl
    have hI : Ieee.double.infRung = 2047 * 2 ^ 52 := by decide
    unfold Ieee.Format.read
    rw [hsw, hbi, hI, lp]
    obtain ⟨x, hx⟩ : ∃ x, (L + 1022) * 2 ^ 52 + (2 ^ 52 + r) = x := ⟨_, rfl⟩
    rw [hx]
    have x1 : x / 2 ^ 63 = 0 := by omega
    have x2 : x % 2 ^ 63 = x := by omega
    simp only [x1, x2]
    rw [if_neg (by omega), if_pos (by omega)]
    have x3 : x % 2 ^ 52 = r := by omega
    have x4 : x / 2 ^ 52 = L + 1023 := by omega
    rw [x3, x4]
    have e : (-1074 : Int) + ((L + 1023 - 1 : Nat) : Int) = -((52 - L : Nat) : Int) := by omega
    rw [e]
    rfl
theorem sum_vl {a b : Ieee.Datum} {m n : Nat} (ha : Vl a m) (hb : Vl b n) : ∃ c, a.sum b = some c ∧ Vl c (m + n) := by
  obtain ⟨i, hi, rfl⟩ := ha
  obtain ⟨j, hj, rfl⟩ := hb
  refine ⟨_, rfl, max i j, by omega, ?_⟩
  have hbase : min (-(i : Int)) (-(j : Int)) = -((max i j : Nat) : Int) := by omega
  have ei : (-(i : Int) - min (-(i : Int)) (-(j : Int))).toNat = max i j - i := by omega
  have ej : (-(j : Int) - min (-(i : Int)) (-(j : Int))).toNat = max i j - j := by omega
  have t1 : (m * 2 ^ i) <<< (max i j - i) = m * 2 ^ (max i j) := by rw [Nat.shiftLeft_eq, Nat.mul_assoc, ← Nat.pow_add]; congr 2; omega
  have t2 : (n * 2 ^ j) <<< (max i j - j) = n * 2 ^ (max i j) := by rw [Nat.shiftLeft_eq, Nat.mul_assoc, ← Nat.pow_add]; congr 2; omega
  have ht : Ieee.signed false (m * 2 ^ i) (max i j - i) + Ieee.signed false (n * 2 ^ j) (max i j - j) = (((m + n) * 2 ^ (max i j) : Nat) : Int) := by
    show ((((m * 2 ^ i) <<< (max i j - i) : Nat)) : Int) + (((n * 2 ^ j) <<< (max i j - j) : Nat) : Int) = _
    rw [t1, t2, Nat.add_mul]; simp
  show Ieee.Datum.number _ _ _ = _
  rw [ei, ej, ht, hbase]
  have hneg : ∀ t : Int, 0 ≤ t → (if t = 0 then false && false else decide (t < 0)) = false := by
    intro t h0
    split
    · rfl
    · simp; omega
  rw [hneg _ (Int.natCast_nonneg _), Int.natAbs_natCast]
theorem write_vl {d : Ieee.Datum} {n : Nat} (h : Vl d n) (hb : n < 2 ^ 53) : Ieee.double.write d = fl n := by
  obtain ⟨k, hk, rfl⟩ := h
  show Ieee.double.nearest false (n * 2 ^ k) (-(k : Int)) = _
  by_cases hN : n = 0
  · subst hN
    rw [fl_near, Nat.zero_mul, near_zero, near_zero]
  · rw [near_pow (by omega) hb (by omega), fl_rung (by omega) hb]
theorem add_fl {m n : Nat} (hm : m < 2 ^ 53) (hn : n < 2 ^ 53) (hs : m + n < 2 ^ 53) : Ieee.double.add (fl m) (fl n) = some (fl (m + n)) := by
  obtain ⟨c, h1, h2⟩ := sum_vl (read_fl hm) (read_fl hn)
  unfold Ieee.Format.add
  rw [h1]
  show some (Ieee.double.write c) = _
  rw [write_vl h2 hs]
theorem addD_fl {m n : Nat} (hs : m + n < 2 ^ 53) : addD (fl m) (fl n) = fl (m + n) := by unfold addD; rw [add_fl (by omega) (by omega) hs]; rfl
theorem order_fl {m n : Nat} (hm : m < 2 ^ 53) (hn : n < 2 ^ 53) : Ieee.double.order (fl m) (fl n) = some (compare m n) := by
  obtain ⟨i, hi, h1⟩ := read_fl hm
  obtain ⟨j, hj, h2⟩ := read_fl hn
  unfold Ieee.Format.order
  rw [h1, h2]
  have ei : (-(i : Int) - min (-(i : Int)) (-(j : Int))).toNat = max i j - i := by omega
  have ej : (-(j : Int) - min (-(i : Int)) (-(j : Int))).toNat = max i j - j := by omega
  have t1 : (m * 2 ^ i) <<< (max i j - i) = m * 2 ^ (max i j) := by rw [Nat.shiftLeft_eq, Nat.mul_assoc, ← Nat.pow_add]; congr 2; omega
  have t2 : (n * 2 ^ j) <<< (max i j - j) = n * 2 ^ (max i j) := by rw [Nat.shiftLeft_eq, Nat.mul_assoc, ← Nat.pow_add]; congr 2; omega
  show some (compare (Ieee.signed false (m * 2 ^ i) _) (Ieee.signed false (n * 2 ^ j) _)) = _
  rw [ei, ej]
  show some (compare ((((m * 2 ^ i) <<< (max i j - i) : Nat)) : Int) ((((n * 2 ^ j) <<< (max i j - j) : Nat)) : Int)) = _
  rw [t1, t2]
  obtain ⟨q, hq⟩ : ∃ q, 2 ^ max i j = q := ⟨_, rfl⟩
  have hq0 : 0 < q := by rw [← hq]; exact Nat.two_pow_pos _
  rw [hq]
  have hcmp : ∀ a b : Nat, compare (a : Int) (b : Int) = compare a b := by
    intro a b
    simp only [compare, compareOfLessAndEq]
    have e1 : ((a : Int) < b) = (a < b) := propext (by omega)
    have e2 : ((a : Int) = b) = (a = b) := propext (by omega)
    simp only [e1, e2]
  rw [hcmp]
  congr 1
  simp only [compare, compareOfLessAndEq]
  rcases Nat.lt_trichotomy m n with h | h | h
  · have : m * q < n * q := Nat.mul_lt_mul_of_pos_right h hq0
    rw [if_pos h, if_pos this]
  · subst h; simp
  · have : n * q < m * q := Nat.mul_lt_mul_of_pos_right h hq0
    rw [if_neg (by omega), if_neg (by omega), if_neg (by omega), if_neg (by omega)]
/-! ### Whole doubles: Trunc, whole, may, Join. -/
section
open Go.RowKit
set_option linter.unusedVariables false
set_option linter.unusedSimpArgs false
set_option maxRecDepth 100000
theorem cut_zero_pow (n d : Nat) (hd : n = 0 ∨ d ≤ (n * 2 ^ d).log2 + 2) : Ieee.Toward.zero.cut false (n * 2 ^ d) d = n := by
  unfold Ieee.Toward.cut
  have h2 : 0 < 2 ^ d := Nat.two_pow_pos d
  rcases hd with rfl | hd
  · simp
  · have e : 1 <<< min d ((n * 2 ^ d).log2 + 2) = 2 ^ d := by rw [Nat.min_eq_left hd, Nat.shiftLeft_eq, Nat.one_mul]
    rw [e]
    simp [Nat.mul_div_cancel _ h2]
theorem trunc_vl {n : Nat} (hn : n < 2 ^ 53) : FloatKind.f64.encode ((FloatKind.f64.decode (fl n)).integral .zero) = fl n := by
  obtain ⟨k, hk, h⟩ := read_fl hn
  have hd : FloatKind.f64.decode (fl n) = .number false (n * 2 ^ k) (-(k : Int)) := h
  rw [hd]
  unfold Ieee.Datum.integral
  have e1 : (-(k : Int)).toNat = 0 := by omega
  have e2 : (-(-(k : Int))).toNat = k := by omega
  simp only [e1, e2, Nat.shiftLeft_zero]
  have hlog : n = 0 ∨ k ≤ (n * 2 ^ k).log2 + 2 := by
    by_cases h0 : n = 0
    · exact .inl h0
    · right
      have h1 : 2 ^ k ≤ n * 2 ^ k := Nat.le_mul_of_pos_left _ (by omega)
      have := (Nat.le_log2 (by have := Nat.two_pow_pos k; omega)).2 h1
      omega
  rw [cut_zero_pow n k hlog]
  exact (fl_near n).symm
theorem arch_run {x : Nat} {s : Bool} {m : Nat} {p : Int} (h : FloatKind.f64.decode x = .number s m p) : Extern.MathFloor.toIntegral "math.archTrunc" .zero #[.float .f64 x] = pure (.float .f64 (FloatKind.f64.encode ((Ieee.Datum.number s m p).integral .zero))) := by
  obtain ⟨a, ha⟩ : ∃ a : Bool → Nat → Sem Value, Extern.MathFloor.toIntegral "math.archTrunc" .zero #[.float .f64 x] = (match FloatKind.f64.decode x with | .nan s t => a s t | d => pure (.float .f64 (FloatKind.f64.encode (d.integral .zero)))) := ⟨_, rfl⟩
  rw [ha, h]
theorem run_trunc {n : Nat} (hn : n < 2 ^ 53) (W : World) : (callFunc 155 #[.float .f64 (fl n)]).run Tryz.prog W = .ok (.value (.float .f64 (fl n))) W := by
  rw [run_callFunc_extern Tryz.func155 (by kernel_rfl) (by kernel_rfl) (by kernel_rfl) (e := Extern.MathFloor.toIntegral "math.archTrunc" .zero) (by kernel_rfl)]
  obtain ⟨k, hk, h⟩ := read_fl hn
  have hd : FloatKind.f64.decode (fl n) = .number false (n * 2 ^ k) (-(k : Int)) := h
  have ht := trunc_vl hn
  rw [hd] at ht
  rw [arch_run hd, ht]
  rfl
section
variable {R : Ending → World → Prop} {w : World}
theorem trunc_any {n : Nat} (hn : n < 2 ^ 53) (h : R (.returned (.float .f64 (fl n))) w) : Calls Tryz.prog 154 #[.float .f64 (fl n)] w R := by
  have H := Lib.hid h
  have hc := run_trunc hn
  obtain ⟨x, hx⟩ : ∃ x, fl n = x := ⟨_, rfl⟩
  rw [hx] at H hc ⊢
  clear h
  go_enter Tryz.func154, Tryz.ntmps154
  go_wp2
  exact H.out
theorem ord_self {n : Nat} (hn : n < 2 ^ 53) : FloatKind.f64.format.order (fl n) (fl n) = some .eq := by
  show Ieee.double.order _ _ = _
  rw [order_fl hn hn, Nat.compare_eq_eq.2 rfl]
theorem fl_zero : fl 0 = 0 := by kernel_rfl
theorem fl_most : fl 1099511627776 = 4787326403894837248 := by kernel_rfl
theorem ord_zero {n : Nat} (hn : n < 2 ^ 53) : (FloatKind.f64.format.order (fl n) 0 == some .gt || FloatKind.f64.format.order (fl n) 0 == some .eq) = true := by
  have h : FloatKind.f64.format.order (fl n) 0 = some (compare n 0) := by
    have := order_fl hn (show 0 < 2 ^ 53 by decide)
    rw [fl_zero] at this
    exact this
  rw [h]
  rcases Nat.eq_zero_or_pos n with rfl | h0
  · rfl
  · rw [Nat.compare_eq_gt.2 h0]; rfl
theorem ord_most {n : Nat} (hn : n < 2 ^ 53) : (FloatKind.f64.format.order (fl n) 4787326403894837248 == some .lt || FloatKind.f64.format.order (fl n) 4787326403894837248 == some .eq) = decide (n ≤ 1099511627776) := by
  have h : FloatKind.f64.format.order (fl n) 4787326403894837248 = some (compare n 1099511627776) := by
    have := order_fl hn (show 1099511627776 < 2 ^ 53 by decide)
    rw [fl_most] at this
    exact this
  rw [h]
  rcases Nat.lt_trichotomy n 1099511627776 with h0 | h0 | h0
  · rw [Nat.compare_eq_lt.2 h0, decide_eq_true (by omega)]; rfl
  · rw [Nat.compare_eq_eq.2 h0, decide_eq_true (by omega)]; rfl
  · rw [Nat.compare_eq_gt.2 h0, decide_eq_false (by omega)]; rfl
set_option maxHeartbeats 1000000 in
theorem whole_any {n : Nat} (hn : n < 2 ^ 53) (h : R (.returned (.bool (decide (n ≤ 1099511627776)))) w) : Calls Tryz.prog 151 #[.float .f64 (fl n)] w R := by
  have H := Lib.hid h
  have hT : Hid (∀ (R : Ending → World → Prop) (w : World), R (.returned (.float .f64 (fl n))) w → Calls Tryz.prog 154 #[.float .f64 (fl n)] w R) := Lib.hid (fun R w h => trunc_any hn h)
  have h0 := ord_zero hn
  have h1 := ord_most hn
  have h2 := ord_self hn
  obtain ⟨x, hx⟩ : ∃ x, fl n = x := ⟨_, rfl⟩
  rw [hx] at h0 h1 h2 hT ⊢
  clear h hx
  by_cases hm : n ≤ 1099511627776
  · rw [decide_eq_true hm] at h1 H
    go_enter Tryz.func151, Tryz.ntmps151
    go_wp2_with (go_at_call 154; refine hT.out _ _ ?_)
    exact H.out
  · rw [decide_eq_false hm] at h1 H
    go_enter Tryz.func151, Tryz.ntmps151
    go_wp2
    exact H.out
set_option maxHeartbeats 1000000 in
theorem smay_any {a b : Nat} (ha : a < 2 ^ 53) (hb : b < 2 ^ 53) (h : R (.returned (.bool (decide (a ≤ 1099511627776) && decide (b ≤ 1099511627776)))) w) : Calls Tryz.prog 136 #[.complex .f64 (fl a) (fl b)] w R := by
  have H := Lib.hid h
  have HA : Hid (∀ (R : Ending → World → Prop) (w : World), R (.returned (.bool (decide (a ≤ 1099511627776)))) w → Calls Tryz.prog 151 #[.float .f64 (fl a)] w R) := Lib.hid (fun R w h => whole_any ha h)
  have HB : Hid (∀ (R : Ending → World → Prop) (w : World), R (.returned (.bool (decide (b ≤ 1099511627776)))) w → Calls Tryz.prog 151 #[.float .f64 (fl b)] w R) := Lib.hid (fun R w h => whole_any hb h)
  obtain ⟨x, hx⟩ : ∃ x, fl a = x := ⟨_, rfl⟩
  obtain ⟨y, hy⟩ : ∃ x, fl b = x := ⟨_, rfl⟩
  rw [hx] at HA ⊢
  rw [hy] at HB ⊢
  clear h hx hy
  by_cases hm : a ≤ 1099511627776
  · rw [decide_eq_true hm] at HA H
    go_enter Tryz.func136, Tryz.ntmps136
    go_wp2_with (first | (go_at_call 151; with_reducible refine HA.out _ _ ?_) | (go_at_call 151; with_reducible refine HB.out _ _ ?_))
    exact H.out
  · rw [decide_eq_false hm] at HA H
    go_enter Tryz.func136, Tryz.ntmps136
    go_wp2_with (first | (go_at_call 151; with_reducible refine HA.out _ _ ?_) | (go_at_call 151; with_reducible refine HB.out _ _ ?_))
    exact H.out
theorem csum_fl {a b c d : Nat} (h1 : a + c < 2 ^ 53) (h2 : b + d < 2 ^ 53) : cSumBits .add .f64 (fl a) (fl b) (fl c) (fl d) = some (fl (a + c), fl (b + d)) := by
  obtain ⟨h, _, _⟩ := csum_D (floatOfInt_nn a) (floatOfInt_nn b) (floatOfInt_nn c) (floatOfInt_nn d)
  rw [show addD (floatOfInt .f64 (a : Int)) (floatOfInt .f64 (c : Int)) = fl (a + c) from addD_fl h1, show addD (floatOfInt .f64 (b : Int)) (floatOfInt .f64 (d : Int)) = fl (b + d) from addD_fl h2] at h
  exact h
end
end
/-- The sums of the bytes at even and at odd places. -/
def pr : List UInt8 → Nat × Nat
  | [] => (0, 0)
  | c :: l => (c.toNat + (pr l).2, (pr l).1)
theorem pr_app (a b : List UInt8) : pr (a ++ b) = if a.length % 2 = 0 then ((pr a).1 + (pr b).1, (pr a).2 + (pr b).2) else ((pr a).1 + (pr b).2, (pr a).2 + (pr b).1) := by
  induction a with
  | nil => simp [pr]
  | cons c a ih =>
    rw [List.cons_append]
    simp only [pr, ih, List.length_cons]
    by_cases h : a.length % 2 = 0
    · rw [if_pos h, if_neg (by omega)]
      exact Prod.ext (by show _ + (_ + _) = _ + _ + _; omega) rfl
    · rw [if_neg h, if_pos (by omega)]
      exact Prod.ext (by show _ + (_ + _) = _ + _ + _; omega) rfl
theorem pr_bd (l : List UInt8) : (pr l).1 + (pr l).2 ≤ 255 * l.length := by
  induction l with
  | nil => simp [pr]
  | cons c l ih =>
    have := c.toNat_lt
    simp only [pr, List.length_cons]; omega
theorem partN_pr (l : List UInt8) (hl : l.length ≤ 65536) : ∀ k, k ≤ l.length → partN l k = (fl (pr (l.take k)).1, fl (pr (l.take k)).2)
  | 0, _ => by simp [partN, pr, fl_zero]
  | k + 1, hk => by
    have ih := partN_pr l hl k (by omega)
    have hg : l.getD k 0 = l[k]'(by omega) := by rw [List.getD_eq_getElem?_getD, List.getElem?_eq_getElem (by omega)]; rfl
    have ht : l.take (k + 1) = l.take k ++ [l[k]'(by omega)] := List.take_succ_eq_append_getElem (by omega)
    have hb := pr_bd (l.take k)
    have hlen : (l.take k).length = k := by simp; omega
    rw [hlen] at hb
    have hc := (l[k]'(by omega)).toNat_lt
    rw [partN, ih, hg, ht, pr_app, hlen]
    have hz : ∀ m : Nat, m < 2 ^ 52 → addD (fl m) 0 = fl m := fun m hm => by
      have := addD_fl (m := m) (n := 0) (by omega)
      rw [fl_zero] at this
      simpa using this
    have ha : ∀ m : Nat, m < 2 ^ 52 → addD (fl m) (floatOfInt .f64 (((l[k]'(by omega)).toNat : Nat) : Int)) = fl (m + (l[k]'(by omega)).toNat) := fun m hm => addD_fl (by omega)
    by_cases h : k % 2 = 1
    · rw [if_pos h, if_neg (by omega)]
      simp only [pr]
      rw [hz _ (by omega), ha _ (by omega)]
      simp
    · rw [if_neg h, if_pos (by omega)]
      simp only [pr]
      rw [hz _ (by omega), ha _ (by omega)]
      simp
theorem part_pr {l : List UInt8} {n : Nat} (hn : l.length = n) (hl : n ≤ 65536) : partN l n = (fl (pr l).1, fl (pr l).2) := by
  have := partN_pr l (by omega) n (by omega)
  rwa [List.take_of_length_le (by omega)] at this
end
/-! ### A pool writes to a slot's frame; it forgets blocks. -/
section
open Go.RowKit Go.Shelf
set_option linter.unusedVariables false
set_option linter.unusedSimpArgs false
set_option maxRecDepth 100000
section
variable {R : Ending → World → Prop} {w w' : World} {B m : Nat} {ka ka' : KA} {k k' : KS} {pa : PA} {p : PS}
theorem KPl.kcall (h : KPl w B ka k pa p) (q : Kq B w w') (n9 : Kn w' B ka' k' ∧ ka'.g = ka.g ∧ ka'.bT = ka.bT) : KPl w' B ka' k' pa p := ⟨n9.1, by rw [n9.2.1]; exact h.pl.kq q, h.gB, h.lB⟩
set_option maxHeartbeats 2000000 in
theorem pwrite_any (h0 : KPl w B ka k pa p) (hm : k.cnt m) (hm2 : m ≤ 10000) {i : Nat} {x : PSl} (hx : p.sl[i]? = some x) {A : Option Addr} {n c : Nat} {l : List UInt8} (hr : Tb w 5 A (bts l)) (hl : l.length = n) (hn : n ≤ 1000000) (hA : A = none → n = 0 ∧ c = 0)
    (h : ∀ ka' w', Kq B w w' → KPl w' B ka' { k with fs := (tWrite k.fs 1 x.f 0 l).2 } pa p → ka'.g = ka.g → ka'.bT = ka.bT → R (.returned (.tuple #[])) w') :
    Calls Tryz.prog 78 #[.pointer (some ⟨pa.g, 0, none⟩), .pointer (some ⟨pa.l, i * 7, none⟩), .slice A n c] w R := by
  have H := Lib.hid h
  obtain ⟨c0, _, _, _, _, _, _⟩ := h0.pl.cells hx
  have g0 : w.cell? ⟨pa.g, 0, none⟩ = some (.pointer (some ⟨ka.g, 0, none⟩)) := h0.pl.g.cell 0
  have HC : Hid (∀ (R : Ending → World → Prop) (w1 : World), Kp [] w w1 → (∀ v w', Hid (∃ ka', Kq B w w' ∧ KPl w' B ka' { k with fs := (tWrite k.fs 1 x.f 0 l).2 } pa p ∧ ka'.g = ka.g ∧ ka'.bT = ka.bT) → R (.returned v) w') → Calls Tryz.prog 9 #[.pointer (some ⟨ka.g, 0, none⟩), .agg #[.int .i64 5, .int .i64 1, .int .i64 x.f, .int .i64 0, .int .i64 0, .slice A n c, .slice none 0 0, .slice none 0 0]] w1 R) := Lib.hid (fun R w1 k1 h => by
    refine kcall_any (x := ⟨5, 1, x.f, 0, 0, A, n, c, l, none, 0, 0, [], none, 0, 0, []⟩) (h0.kn.off0 k1) hm hm2 ⟨hr.kp k1 (Off.nil _ _), hl, hn, hA, Tb.nil, rfl, by show 0 ≤ _; omega, fun _ => ⟨rfl, rfl⟩, by simp, Tb.nil, rfl, by show 0 ≤ _; omega, fun _ => ⟨rfl, rfl⟩, by simp⟩ (fun nn AA len c2 l' e k' a' w2 hst q n9 hl ht => ?_)
    have h1 := hst.out
    unfold kStep at h1
    rw [if_neg (by simp), if_pos (by simp)] at h1
    unfold kFB at h1
    rw [if_neg (by simp), if_neg (by simp), if_neg (by simp), if_neg (by simp), if_pos rfl] at h1
    injection h1 with e1 e2 e3 e4
    subst e1; subst e2; subst e3; subst e4
    exact h _ w2 (Lib.hid ⟨a', (Kq.of0 k1).trans q, (h0.off0 k1).kcall q n9, n9.2.1, n9.2.2⟩))
  clear h h0 hx hr hl hn hA hm
  go_enter Tryz.func78, Tryz.ntmps78
  go_region_law (first | (go_simp; go_at_call 9; ((refine HC.out _ _ (Kp.refl [] w).drew ?_); intro v w5 h5)))
  all_goals
    go_wp2
    obtain ⟨ka', z1, z2, z3, z4⟩ := h5.out
    exact bodyPost_end (v := .tuple #[]) (by simp [results, Tryz.results78, go_sem]) rfl (H.out ka' _ z1 z2 z3 z4)
set_option maxHeartbeats 1000000 in
theorem sidx_any {A : Option Addr} {n c : Nat} {bl : List Int} (hr : Rd w [] A (ints bl)) (hl : bl.length = n) (hn : n ≤ 1000000) (v : Int) (h : ∀ r w', Kp [] w w' → (decide (r ≥ 0)) = bl.contains v → R (.returned (.int .i64 r)) w') : Calls Tryz.prog 135 #[.slice A n c, .int .i64 v] w R := by
  have H := Lib.hid h
  have HR := Lib.hid hr
  have HL := Lib.hid hl
  clear h hr hl
  go_enter Tryz.func135, Tryz.ntmps135
  go_wp2
  go_loopw [5, 8] (fun _ iv wr => ∃ k : Nat, k ≤ n ∧ iv = .int .i64 k ∧ Hid (Kp [] w wr) ∧ Hid (∀ j x, j < k → bl[j]? = some x → v ≠ x)) (fun _ iv _ => n - (intOf iv).toNat)
  case atStart => exact ⟨0, Nat.zero_le _, rfl, Lib.hid (Kp.refl _ _), Lib.hid (by omega)⟩
  case round =>
    obtain ⟨k, hk, rfl, kr, hgd⟩ := hrel
    by_cases hlt : k < n
    · obtain ⟨x, hx⟩ : ∃ x, bl[k]? = some x := ⟨_, List.getElem?_eq_getElem (by have := HL.out; omega)⟩
      have hne : bl ≠ [] := by intro e; rw [e] at hx; simp at hx
      obtain ⟨b, off, rfl, _, _, hc⟩ := HR.out.kp kr.out (S := []) (by simp) (by intro e; unfold ints at e; simp at e; exact hne e)
      have g0 := hc k _ (ints_at hx)
      have HX := Lib.hid hx
      clear hc hx hne
      cases hb : (v == x) with
      | true =>
        have hcon : bl.contains v = true := by
          rw [List.contains_iff_mem]; rw [show v = x by simpa using hb]; exact List.mem_of_getElem? HX.out
        have HH := Lib.hid (fun w' k' => H.out (k : Int) w' k' (by rw [hcon]; simp))
        clear H hcon
        go_wp2
        exact HH.out _ kr.out
      | false =>
        go_wp2
        exact ⟨⟨k + 1, by omega, by go_num, kr, Lib.hid (fun j y hj hy => by
          rcases Nat.lt_or_ge j k with h | h
          · exact hgd.out j y h hy
          · obtain rfl : j = k := by omega
            rw [HX.out] at hy; injection hy with hy; subst hy; simpa using hb)⟩, by simp [intOf]; omega⟩
    · obtain rfl : k = n := by omega
      have hcon : bl.contains v = false := by
        rw [Bool.eq_false_iff]; intro hc
        rw [List.contains_iff_mem] at hc
        obtain ⟨j, hj⟩ := List.getElem?_of_mem hc
        exact hgd.out j v (by rw [← HL.out]; exact (List.getElem?_eq_some_iff.1 hj).1) hj rfl
      have HH := Lib.hid (fun w' k' => H.out (-1) w' k' (by rw [hcon]; simp))
      clear H hcon
      go_wp2
      exact HH.out _ kr.out
theorem scon_any {A : Option Addr} {n c : Nat} {bl : List Int} (hr : Rd w [] A (ints bl)) (hl : bl.length = n) (hn : n ≤ 1000000) (v : Int) (h : ∀ w', Kp [] w w' → R (.returned (.bool (bl.contains v))) w') : Calls Tryz.prog 85 #[.slice A n c, .int .i64 v] w R := by
  have H := Lib.hid h
  have HR := Lib.hid hr
  clear h hr
  go_enter Tryz.func85, Tryz.ntmps85
  go_wp2_with (go_at_call 135; ((refine sidx_any HR.out hl hn v ?_); intro r w2 k2 hd0; have hd := Lib.hid hd0; clear hd0))
  exact rcast (H.out _ k2) (by rw [← hd.out]; first | rfl | simp)
end
def fgt (bl : List Int) (x : PSl) : PSl := if x.kd = 1 ∧ bl.contains x.bl = true then (if 0 < x.pi then { x with kd := 3 } else PSl.e x.f) else x
def pForget (p : PS) (bl : List Int) : PS := { p with sl := p.sl.map (fgt bl) }
/-- After j rounds of Forget. -/
structure FgI (p p1 : PS) (bl : List Int) (j : Nat) : Prop where
  len : p1.sl.length = p.sl.length
  at_ : ∀ i x, p.sl[i]? = some x → p1.sl[i]? = some (if i < j then fgt bl x else x)
  hand : p1.hand = p.hand
  fills : p1.fills = p.fills
theorem FgI.fin {p p1 : PS} {bl : List Int} {j : Nat} (h : FgI p p1 bl j) (hj : p.sl.length ≤ j) : p1 = pForget p bl := by
  obtain ⟨sl, hand, fills⟩ := p1
  obtain ⟨h1, h2, h3, h4⟩ := h
  simp only at h1 h2 h3 h4
  subst h3; subst h4
  unfold pForget
  congr 1
  apply List.ext_getElem?
  intro i
  rw [List.getElem?_map]
  cases hx : p.sl[i]? with
  | none =>
    have hx2 := List.getElem?_eq_none_iff.1 hx
    exact List.getElem?_eq_none (by omega)
  | some x =>
    have hi := (List.getElem?_eq_some_iff.1 hx).1
    rw [h2 i x hx, if_pos (by omega)]; rfl
theorem FgI.set {p p1 : PS} {bl : List Int} {j : Nat} {x y : PSl} (h : FgI p p1 bl j) (hx : p.sl[j]? = some x) (hy : fgt bl x = y) : FgI p { p1 with sl := p1.sl.set j y } bl (j + 1) := by
  have hj := (List.getElem?_eq_some_iff.1 hx).1
  refine ⟨by simpa using h.len, fun i z hz => ?_, h.hand, h.fills⟩
  show (p1.sl.set j y)[i]? = _
  by_cases hij : j = i
  · subst hij
    rw [hx] at hz; injection hz with hz; subst hz
    rw [List.getElem?_set_self (by rw [h.len]; exact hj), if_pos (by omega), hy]
  · rw [List.getElem?_set_ne hij, h.at_ i z hz]
    by_cases hlt : i < j
    · rw [if_pos hlt, if_pos (by omega)]
    · rw [if_neg hlt, if_neg (by omega)]
theorem FgI.stay {p p1 : PS} {bl : List Int} {j : Nat} {x : PSl} (h : FgI p p1 bl j) (hx : p.sl[j]? = some x) (hy : fgt bl x = x) : FgI p p1 bl (j + 1) := by
  refine ⟨h.len, fun i z hz => ?_, h.hand, h.fills⟩
  rw [h.at_ i z hz]
  by_cases hij : j = i
  · subst hij
    rw [hx] at hz; injection hz with hz; subst hz
    rw [if_neg (by omega), if_pos (by omega), hy]
  · by_cases hlt : i < j
    · rw [if_pos hlt, if_pos (by omega)]
    · rw [if_neg hlt, if_neg (by omega)]
section
variable {R : Ending → World → Prop} {w w' : World} {B m : Nat} {ka ka' : KA} {k k' : KS} {pa : PA} {p : PS}
set_option maxHeartbeats 2000000 in
theorem pfgt_any (h0 : KPl w B ka k pa p) {A : Option Addr} {n c : Nat} {bl : List Int} (hr : Tb w 3 A (ints bl)) (hl : bl.length = n) (hn : n ≤ 1000000)
    (h : ∀ w', Pq B w w' → KPl w' B ka k pa (pForget p bl) → R (.returned (.tuple #[])) w') : Calls Tryz.prog 32 #[.pointer (some ⟨pa.g, 0, none⟩), .slice A n c] w R := by
  have H := Lib.hid h
  have HT := Lib.hid hr
  have HL := Lib.hid hl
  have HK := Lib.hid h0
  have hn0 := h0.pl.hn
  obtain ⟨N, hN⟩ : ∃ N, p.sl.length = N := ⟨_, rfl⟩
  have g1 : w.cell? ⟨pa.g, 1, none⟩ = some (.slice (some ⟨pa.l, 0, none⟩) p.sl.length pa.lc) := h0.pl.g.cell 1
  rw [hN] at g1 hn0
  have HN := Lib.hid hN
  clear h h0 hr hl hN
  go_enter Tryz.func32, Tryz.ntmps32
  go_wp2
  go_loopw [4, 5, 13] (fun _ _ iv wr => ∃ (j : Nat) (p1 : PS), j ≤ N ∧ iv = .int .i64 j ∧ Hid (KPl wr B ka k pa p1 ∧ Pq B w wr) ∧ Hid (FgI p p1 bl j)) (fun _ _ iv _ => N - (intOf iv).toNat)
  case atStart => exact ⟨0, p, Nat.zero_le _, rfl, Lib.hid ⟨HK.out, Pq.refl _ _⟩, Lib.hid ⟨rfl, fun i x hx => by rw [if_neg (by omega)]; exact hx, rfl, rfl⟩⟩
  case round =>
    obtain ⟨j, p1, hj, rfl, hw, hp⟩ := hrel
    by_cases hlt : j < N
    · obtain ⟨x, hx⟩ : ∃ x, p.sl[j]? = some x := ⟨_, List.getElem?_eq_getElem (by have := HN.out; omega)⟩
      have HX := Lib.hid hx
      have HX1 := Lib.hid (show p1.sl[j]? = some x by rw [hp.out.at_ j x hx, if_neg (by omega)])
      clear hx g1
      have g1' : wr.cell? ⟨pa.g, 1, none⟩ = some (.slice (some ⟨pa.l, 0, none⟩) p1.sl.length pa.lc) := hw.out.1.pl.g.cell 1
      rw [hp.out.len, HN.out] at g1'
      obtain ⟨c0, c1, c2, c3, _, _, _⟩ := hw.out.1.pl.cells HX1.out
      by_cases hkd : x.kd = 1
      · have b1 : (x.kd != 1) = false := by simp [hkd]
        have HCon : Hid (∀ (R : Ending → World → Prop), (∀ w', Kp [] wr w' → R (.returned (.bool (bl.contains x.bl))) w') → Calls Tryz.prog 85 #[.slice A n c, .int .i64 x.bl] wr R) := Lib.hid (fun R h => scon_any (hw.out.2.tb HT.out (by decide)).rd0 HL.out hn x.bl h)
        cases hcon : bl.contains x.bl with
        | false =>
          have hf : fgt bl x = x := by unfold fgt; rw [hcon, if_neg (by simp)]
          rw [hcon] at HCon
          have HS := Lib.hid (hp.out.stay HX.out hf)
          clear hf hcon hkd
          go_wp2_with (go_at_call 85; ((refine HCon.out _ ?_); intro w2 k2))
          exact ⟨⟨j + 1, p1, by omega, by go_num, Lib.hid ⟨hw.out.1.off0 k2, hw.out.2.trans (Pq.of0 k2)⟩, HS⟩, by simp [intOf]; omega⟩
        | true =>
          rw [hcon] at HCon
          by_cases hpi : 0 < x.pi
          · have hf : fgt bl x = { x with kd := 3 } := by unfold fgt; rw [if_pos ⟨hkd, hcon⟩, if_pos hpi]
            have HS := Lib.hid (hp.out.set HX.out hf)
            clear hf hcon hkd
            go_wp2_with (go_at_call 85; ((refine HCon.out _ ?_); intro w2 k2; obtain ⟨d0, d1, d2, d3, _, _, _⟩ := (hw.out.1.off0 k2).pl.cells HX1.out; have f2 := (hw.out.1.off0 k2).pl.free))
            obtain ⟨z1, z2⟩ := (hw.out.1.off0 k2).put HX1.out (x' := { x with kd := 3 }) (j := 1) (v := .int .i64 3) (by omega) rfl
            exact ⟨⟨j + 1, _, by omega, by go_num, Lib.hid ⟨z1, (hw.out.2.trans (Pq.of0 k2)).trans z2⟩, HS⟩, by simp [intOf]; omega⟩
          · have hf : fgt bl x = PSl.e x.f := by unfold fgt; rw [if_pos ⟨hkd, hcon⟩, if_neg hpi]
            have HS := Lib.hid (hp.out.set HX.out hf)
            clear hf hcon hkd
            go_wp2_with (go_at_call 85; ((refine HCon.out _ ?_); intro w2 k2; obtain ⟨d0, d1, d2, d3, _, _, _⟩ := (hw.out.1.off0 k2).pl.cells HX1.out; have f2 := (hw.out.1.off0 k2).pl.free; have Y := Lib.hid ((hw.out.1.off0 k2).clr7 HX1.out)))
            exact ⟨⟨j + 1, _, by omega, by go_num, Lib.hid ⟨Y.out.1, (hw.out.2.trans (Pq.of0 k2)).trans Y.out.2⟩, HS⟩, by simp [intOf]; omega⟩
      · have b1 : (x.kd != 1) = true := by simp [hkd]
        have hf : fgt bl x = x := by unfold fgt; rw [if_neg (by simp [hkd])]
        have HS := Lib.hid (hp.out.stay HX.out hf)
        clear hf hkd
        go_wp2
        exact ⟨⟨j + 1, p1, by omega, by go_num, hw, HS⟩, by simp [intOf]; omega⟩
    · obtain rfl : j = N := by omega
      have hfin := hp.out.fin (by rw [HN.out]; exact Nat.le_refl _)
      subst hfin
      go_wp2
      exact bodyPost_end (v := .tuple #[]) (by simp [results, Tryz.results32, go_sem]) rfl (H.out _ hw.out.2 hw.out.1)
end
end
/-! ### A pool gets a block. -/
section
open Go.RowKit Go.Shelf
set_option linter.unusedVariables false
set_option linter.unusedSimpArgs false
set_option maxRecDepth 100000
/-- What Get tells and turns. -/
def GetR (k : KS) (p : PS) (b n : Int) (re im : Nat) (f e : Int) (p' : PS) (k' : KS) : Prop :=
  (¬ (0 ≤ n ∧ n ≤ 256) ∧ f = 0 ∧ e = 1 ∧ p' = p ∧ k' = k) ∨
  ((0 ≤ n ∧ n ≤ 256) ∧ ∃ i x, p.sl.findIdx? (hasB b) = some i ∧ p.sl[i]? = some x ∧ f = x.f ∧ e = 0 ∧ p' = { p with sl := p.sl.set i { x with pi := x.pi + 1, ma := true } } ∧ k' = k) ∨
  ((0 ≤ n ∧ n ≤ 256) ∧ p.sl.findIdx? (hasB b) = none ∧ (pTake k p).1 = none ∧ f = 0 ∧ e = 80 ∧ p' = (pTake k p).2 ∧ k' = k) ∨
  ((0 ≤ n ∧ n ≤ 256) ∧ p.sl.findIdx? (hasB b) = none ∧ ∃ i x, (pTake k p).1 = some i ∧ (pTake k p).2.sl[i]? = some x ∧
    (((dRead k.d 1 b).1 ≠ 0 ∧ f = 0 ∧ e = (dRead k.d 1 b).1 ∧ p' = (pTake k p).2 ∧ k' = k) ∨
     ((dRead k.d 1 b).1 = 0 ∧ f = x.f ∧ e = 0 ∧ p' = { (pTake k p).2 with sl := (pTake k p).2.sl.set i ⟨x.f, 1, b, x.pi + 1, n, re, im, true⟩, fills := (pTake k p).2.fills + 1 } ∧
        k' = { k with fs := (tWrite k.fs 1 x.f 0 (dRead k.d 1 b).2).2 })))
section
variable {R : Ending → World → Prop} {w w' : World} {B m : Nat} {ka ka' : KA} {k k' : KS} {pa : PA} {p : PS}
theorem ptake_at (k : KS) (p : PS) (hh : p.hand < p.sl.length) {i : Nat} (h : (pTake k p).1 = some i) : ∃ x, (pTake k p).2.sl[i]? = some x := by
  unfold pTake at h ⊢
  cases hf : p.sl.findIdx? (tkB k) with
  | some j =>
    rw [hf] at h
    simp only [Option.some.injEq] at h ⊢
    subst h
    obtain ⟨x, hx, _⟩ := idx_at hf
    exact ⟨x, hx⟩
  | none =>
    rw [hf] at h
    simp only at h ⊢
    have key : ∀ (n : Nat) (p : PS), p.hand < p.sl.length → (pRnd k n p).1 = some i → ∃ x, (pRnd k n p).2.sl[i]? = some x := by
      intro n
      induction n with
      | zero => intro p _ h; simp [pRnd] at h
      | succ n ih =>
        intro p hh h
        unfold pRnd at h ⊢
        rw [List.getElem?_eq_getElem hh] at h ⊢
        simp only at h ⊢
        split
        · rename_i hc
          rw [if_pos hc] at h
          simp only [Option.some.injEq] at h
          subst h
          exact ⟨_, List.getElem?_set_self hh⟩
        · rename_i hc
          rw [if_neg hc] at h
          exact ih _ (by simp; exact Nat.mod_lt _ (by omega)) h
    exact key _ _ hh h
set_option maxHeartbeats 2000000 in
theorem pget_bad (h0 : KPl w B ka k pa p) (b n : Int) (re im : Nat) (hn : ¬ (0 ≤ n ∧ n ≤ 256)) (h : ∀ w', Kp [] w w' → R (.returned (.tuple #[.int .i64 0, .int .i64 1])) w') :
    Calls Tryz.prog 24 #[.pointer (some ⟨pa.g, 0, none⟩), .int .i64 b, .int .i64 n, .complex .f64 re im] w R := by
  have H := Lib.hid h
  clear h h0
  by_cases h1 : n < 0
  · go_enter Tryz.func24, Tryz.ntmps24
    go_wp2
    exact H.out _ ((Kp.refl _ _).alloc _)
  · have h2 : 256 < n := by omega
    clear hn
    go_enter Tryz.func24, Tryz.ntmps24
    go_wp2
    exact H.out _ ((Kp.refl _ _).alloc _)
theorem pgf_any (h0 : KPl w B ka k pa p) (b : Int) : Hid (∀ (R : Ending → World → Prop) (w1 : World) (cb : Nat), Kp [] w w1 → w1.cell? ⟨cb, 0, none⟩ = some (.int .i64 b) → (∀ w', Kp [] w1 w' → R (.returned (.pointer (pfind p pa.l (hasB b)))) w') → Calls Tryz.prog 75 #[.pointer (some ⟨pa.g, 0, none⟩), .func (.func 76) #[] #[.pointer (some ⟨cb, 0, none⟩)]] w1 R) := Lib.hid (fun R w1 cb k1 hc h => by
  have he : ∀ (args : Array Value) (w : World), (callFunc 76 args).run Tryz.prog w = .ok (.enter 76 args) w := enters_of Tryz.func76 (by kernel_rfl) rfl
  refine pfind_any (h0.off0 k1) 76 cb (hasB b) he (fun R i x w2 k2 hx h => ?_) h
  refine pgt1_any (h0.off0 (k1.trans k2)) b ?_ hx h
  rw [k2.cell (World.block_lt_of_cell? w1 _ hc) (by simp)]; exact hc)
/-- One pin more, and a mark. -/
theorem KPl.pinned (h : KPl w B ka k pa p) {i : Nat} {x : PSl} (hx : p.sl[i]? = some x) :
    KPl ((w.setCell ⟨pa.l, i * 7 + 3, none⟩ (.int .i64 (x.pi + 1))).setCell ⟨pa.l, i * 7 + 6, none⟩ (.bool true)) B ka k pa { p with sl := p.sl.set i { x with pi := x.pi + 1, ma := true } } ∧
    Pq B w ((w.setCell ⟨pa.l, i * 7 + 3, none⟩ (.int .i64 (x.pi + 1))).setCell ⟨pa.l, i * 7 + 6, none⟩ (.bool true)) := by
  have hi := (List.getElem?_eq_some_iff.1 hx).1
  have at_ : ∀ y : PSl, (p.sl.set i y)[i]? = some y := fun y => by simp [hi]
  obtain ⟨h1, q1⟩ := h.put hx (x' := { x with pi := x.pi + 1 }) (j := 3) (v := .int .i64 (x.pi + 1)) (by omega) rfl
  obtain ⟨h2, q2⟩ := h1.put (at_ _) (x' := { x with pi := x.pi + 1, ma := true }) (j := 6) (v := .bool true) (by omega) rfl
  simp only [List.set_set] at h2
  exact ⟨h2, q1.trans q2⟩
set_option maxHeartbeats 2000000 in
theorem pget_hit (h0 : KPl w B ka k pa p) (hbd : p.bd m) (hm : m ≤ 1000000) (b n : Int) (re im : Nat) (hn0 : 0 ≤ n) (hn1 : n ≤ 256) {i : Nat} {x : PSl} (hf : p.sl.findIdx? (hasB b) = some i) (hx : p.sl[i]? = some x)
    (h : ∀ w', Pq B w w' → KPl w' B ka k pa { p with sl := p.sl.set i { x with pi := x.pi + 1, ma := true } } → R (.returned (.tuple #[.int .i64 x.f, .int .i64 0])) w') :
    Calls Tryz.prog 24 #[.pointer (some ⟨pa.g, 0, none⟩), .int .i64 b, .int .i64 n, .complex .f64 re im] w R := by
  have H := Lib.hid h
  have HK := Lib.hid h0
  have HF := pgf_any h0 b
  have e : pfind p pa.l (hasB b) = some ⟨pa.l, i * 7, none⟩ := by unfold pfind; rw [hf]
  rw [e] at HF
  have HX := Lib.hid hx
  obtain ⟨hp0, hp1⟩ := hbd.pi x (List.mem_of_getElem? hx)
  clear h h0 hf hx hbd
  go_enter Tryz.func24, Tryz.ntmps24
  go_wp2_with (go_at_call 75; (refine HF.out _ _ _ ((Kp.refl _ _).alloc _) ((Bk.new' _ _ _).cell 0) ?_; intro w2 k2; have hw2 := Lib.hid (HK.out.off0 (((Kp.refl [] w).alloc _).trans k2)); have hq2 := Lib.hid (((Kp.refl [] w).alloc _).trans k2); obtain ⟨c0, _, _, c3, _, _, c6⟩ := hw2.out.pl.cells HX.out; have f2 := hw2.out.pl.free))
  obtain ⟨z1, z2⟩ := hw2.out.pinned HX.out
  exact H.out _ ((Pq.of0 hq2.out).trans z2) z1
set_option maxHeartbeats 2000000 in
theorem pget_none (h0 : KPl w B ka k pa p) (b n : Int) (re im : Nat) (hn0 : 0 ≤ n) (hn1 : n ≤ 256) (hf : p.sl.findIdx? (hasB b) = none) (ht : (pTake k p).1 = none)
    (h : ∀ w', Pq B w w' → KPl w' B ka k pa (pTake k p).2 → R (.returned (.tuple #[.int .i64 0, .int .i64 80])) w') :
    Calls Tryz.prog 24 #[.pointer (some ⟨pa.g, 0, none⟩), .int .i64 b, .int .i64 n, .complex .f64 re im] w R := by
  have H := Lib.hid h
  have HF := pgf_any h0 b
  have e : pfind p pa.l (hasB b) = none := by unfold pfind; rw [hf]
  rw [e] at HF
  have HT : Hid (∀ (R : Ending → World → Prop) (w1 : World), Kp [] w w1 → (∀ w', Pq B w w' → KPl w' B ka k pa (pTake k p).2 → R (.returned (.pointer none)) w') → Calls Tryz.prog 77 #[.pointer (some ⟨pa.g, 0, none⟩)] w1 R) := Lib.hid (fun R w1 k1 h => ptake_any (h0.off0 k1) (fun w' q z => by rw [ht]; exact h w' ((Pq.of0 k1).trans q) z))
  clear h h0 hf ht
  go_enter Tryz.func24, Tryz.ntmps24
  go_wp2_with (first | (go_at_call 75; (refine HF.out _ _ _ ((Kp.refl _ _).alloc _) ((Bk.new' _ _ _).cell 0) ?_; intro w2 k2)) | (go_at_call 77; (refine HT.out _ _ (((Kp.refl [] w).alloc _).trans k2) ?_; intro w3 q3 z3)))
  exact H.out _ q3 z3
end
end
end Go.Proofs.YtedblbpmlbjnhaaGreat
