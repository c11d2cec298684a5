/- sums.Fold, Sum, Good. -/
import Derived.Test.YtnpkfhnhcadgeaaDoorIn0
import Derived.Laws.FloatArith
import Derived.Laws.BitsAllLaws
namespace Go.Proofs.YtnpkfhnhcadgeaaDoor
open Go.RowKit
set_option linter.unusedVariables false
set_option linter.unusedSimpArgs false
set_option maxRecDepth 100000
theorem toInt_fl {n : Nat} (hn : n < 2 ^ 53) : (FloatKind.f64.decode (fl n)).toInt .zero = some (n : Int) := by
  obtain ⟨k, hk, h⟩ := read_fl hn
  have hd : FloatKind.f64.decode (fl n) = .number false (n * 2 ^ k) (-(k : Int)) := h
  have e1 : (-(k : Int)).toNat = 0 := by omega
  have e2 : (-(-(k : Int))).toNat = k := by omega
  have hlog : n = 0 ∨ k ≤ (n * 2 ^ k).log2 + 2 := by
    by_cases h0 : n = 0
    · exact .inl h0
    · right
      have h1 : 2 ^ k ≤ n * 2 ^ k := Nat.le_mul_of_pos_left _ (by omega)
      have := (Nat.le_log2 (by have := Nat.two_pow_pos k; omega)).2 h1
      omega
  rw [hd]
  unfold Ieee.Datum.toInt Ieee.Datum.integral
  simp only [e1, e2, Nat.shiftLeft_zero, cut_zero_pow n k hlog]
  simp [Ieee.signed]
theorem conv_fl {n : Nat} (hn : n < 2 ^ 53) (W : World) : (convert 67 61 (.float .f64 (fl n))).run Tryd.prog W = .ok (.int .u64 n) W := by
  refine run_convert_float_int (P := Tryd.prog) W 67 61 .f64 .u64 (fl n) n (by rw [Tryd.underlying67]; rfl) Tryd.underlying61 ?_
  unfold floatToIntVal
  rw [toInt_fl hn]
  simp only
  rw [if_pos ⟨Int.natCast_nonneg _, by show (n : Int) ≤ 18446744073709551615; omega⟩]
theorem and16 (m : Nat) (hm : m < 18446744073709551616) : bits .and .u64 (m : Int) 65535 = ((m % 65536 : Nat) : Int) := by
  have e2 : (65535 : Int) = ((2 ^ 16 - 1 : Nat) : Int) := by decide
  rw [e2, u64_and_nat _ _ hm (by decide), Nat.and_two_pow_sub_one_eq_mod]
theorem not16 (m : Nat) (hm : m ≤ 65535) : bits .xor .u16 IntKind.u16.max (m : Int) = ((65535 - m : Nat) : Int) := by
  have e2 : IntKind.u16.max = ((65535 : Nat) : Int) := by decide
  rw [e2, u16_xor_nat _ _ (by decide) (by omega)]
  have h := congrArg BitVec.toNat (BitVec.allOnes_xor (x := BitVec.ofNat 16 m))
  rw [BitVec.toNat_xor, BitVec.toNat_allOnes, BitVec.toNat_not, BitVec.toNat_ofNat, Nat.mod_eq_of_lt (by omega)] at h
  have h2 : 65535 ^^^ m = 65535 - m := h
  rw [h2]
section
variable {R : Ending → World → Prop} {w : World}
set_option maxHeartbeats 1000000 in
theorem fold_any {E O : Nat} (hE : E ≤ 1099511627776) (hO : O ≤ 1099511627776) (h : R (.returned (.tuple #[.int .u16 (fo (256 * E + O)), .int .i64 0])) w) : Calls Tryd.prog 50 #[.complex .f64 (fl E) (fl O)] w R := by
  have H := Lib.hid h
  have HM : Hid (∀ (R : Ending → World → Prop) (w : World), R (.returned (.bool true)) w → Calls Tryd.prog 55 #[.complex .f64 (fl E) (fl O)] w R) := Lib.hid (fun R w h => smay_any (by omega) (by omega) (by rw [decide_eq_true hE, decide_eq_true hO]; exact h))
  have h1 := conv_fl (n := E) (by omega)
  have h2 := conv_fl (n := O) (by omega)
  obtain ⟨x, hx⟩ : ∃ x, fl E = x := ⟨_, rfl⟩
  obtain ⟨y, hy⟩ : ∃ x, fl O = x := ⟨_, rfl⟩
  rw [hx] at HM h1 ⊢
  rw [hy] at HM h2 ⊢
  clear h hx hy
  go_enter Tryd.func50, Tryd.ntmps50
  go_wp2_with (go_at_call 55; refine HM.out _ _ ?_)
  go_loopw [4] (fun iv wr => ∃ m : Nat, iv = .int .u64 m ∧ wr = w ∧ m ≤ 2 ^ 60 ∧ Hid (fo m = fo (256 * E + O))) (fun iv _ => (intOf iv).toNat)
  case atStart => exact ⟨256 * E + O, by go_num, rfl, by omega, Lib.hid rfl⟩
  case round =>
    obtain ⟨m, rfl, rfl, hm, hf⟩ := hrel
    by_cases hlt : 65535 < m
    · have HF2 : Hid (fo (m % 65536 + m / 65536) = fo (256 * E + O)) := Lib.hid ((fo_step hlt).trans hf.out)
      have hw : IntKind.u64.wrap (bits .and .u64 (m : Int) 65535 + (m : Int) / 65536) = ((m % 65536 + m / 65536 : Nat) : Int) := by
        rw [and16 m (by omega)]
        simp [IntKind.wrap, IntKind.signed, IntKind.bits]; omega
      go_wp2
      exact ⟨⟨m % 65536 + m / 65536, rfl, trivial, by omega, HF2⟩, by simp [intOf]; omega⟩
    · have hv : fo (256 * E + O) = m := by rw [← hf.out]; exact fo_small (by omega)
      rw [hv] at H
      go_wp2
      exact H.out
set_option maxHeartbeats 1000000 in
theorem sumw_any {E O : Nat} (hE : E ≤ 1099511627776) (hO : O ≤ 1099511627776) (h : R (.returned (.tuple #[.int .u16 (65535 - fo (256 * E + O) : Nat), .int .i64 0])) w) : Calls Tryd.prog 44 #[.complex .f64 (fl E) (fl O)] w R := by
  have H := Lib.hid h
  have HF : Hid (∀ (R : Ending → World → Prop) (w : World), R (.returned (.tuple #[.int .u16 (fo (256 * E + O)), .int .i64 0])) w → Calls Tryd.prog 50 #[.complex .f64 (fl E) (fl O)] w R) := Lib.hid (fun R w h => fold_any hE hO h)
  have hb := fo_le (256 * E + O)
  obtain ⟨x, hx⟩ : ∃ x, fl E = x := ⟨_, rfl⟩
  obtain ⟨y, hy⟩ : ∃ x, fl O = x := ⟨_, rfl⟩
  obtain ⟨m, hm⟩ : ∃ m, fo (256 * E + O) = m := ⟨_, rfl⟩
  rw [hx, hy, hm] at HF
  rw [hx, hy]
  rw [hm] at hb H
  clear h hx hy hm
  have hx := not16 m hb
  go_enter Tryd.func44, Tryd.ntmps44
  go_wp2_with (go_at_call 50; refine HF.out _ _ ?_)
  all_goals exact H.out
set_option maxHeartbeats 1000000 in
theorem good_any {A : Option Addr} {n c : Nat} {l : List UInt8} (hr : Rd w [] A (bts l)) (hl : l.length = n) (hn : n ≤ 65536) (h : ∀ w', Kp [] w w' → R (.returned (.bool (goodB l))) w') : Calls Tryd.prog 35 #[.slice A n c] w R := by
  have H := Lib.hid h
  have hb := pr_bd l
  have HP : Hid (∀ (R : Ending → World → Prop), (∀ w', Kp [] w w' → R (.returned (.tuple #[.complex .f64 (fl (pr l).1) (fl (pr l).2), .int .i64 0])) w') → Calls Tryd.prog 43 #[.slice A n c] w R) := Lib.hid (fun R h => spart_any hr hl hn (fun w' _ _ k => by rw [part_pr hl hn]; exact h w' k))
  have HF : Hid (∀ (R : Ending → World → Prop) (w : World), R (.returned (.tuple #[.int .u16 (fo (sm l)), .int .i64 0])) w → Calls Tryd.prog 50 #[.complex .f64 (fl (pr l).1) (fl (pr l).2)] w R) := Lib.hid (fun R w h => fold_any (by omega) (by omega) h)
  have hg : goodB l = (fo (sm l) == 65535) := rfl
  obtain ⟨x, hx⟩ : ∃ x, fl (pr l).1 = x := ⟨_, rfl⟩
  obtain ⟨y, hy⟩ : ∃ x, fl (pr l).2 = x := ⟨_, rfl⟩
  obtain ⟨m, hm⟩ : ∃ m, fo (sm l) = m := ⟨_, rfl⟩
  rw [hx, hy] at HP HF
  rw [hm] at HF hg
  rw [hg] at H
  clear h hr hx hy hm hg
  by_cases h5 : m = 65535
  · subst h5
    go_enter Tryd.func35, Tryd.ntmps35
    go_wp2_with (first | (go_at_call 43; refine HP.out _ ?_; intro w2 k2) | (go_at_call 50; refine HF.out _ _ ?_))
    exact H.out _ k2
  · have e : ((m : Int) == 65535) = false := by simp; omega
    have e2 : (m == 65535) = false := by simpa using h5
    rw [e2] at H
    go_enter Tryd.func35, Tryd.ntmps35
    go_wp2_with (first | (go_at_call 43; refine HP.out _ ?_; intro w2 k2) | (go_at_call 50; refine HF.out _ _ ?_))
    exact H.out _ k2
end
end Go.Proofs.YtnpkfhnhcadgeaaDoor
