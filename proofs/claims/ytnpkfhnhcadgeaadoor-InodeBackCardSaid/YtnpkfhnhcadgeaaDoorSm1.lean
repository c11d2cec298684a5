/- sums.Part of any bytes: it comes to an end, and no part of it is a NaN. -/
import Derived.Test.YtnpkfhnhcadgeaaDoorOpen
import Derived.WalkLawsBesides
namespace Go.Proofs.YtnpkfhnhcadgeaaDoor
open Go.RowKit
set_option linter.unusedVariables false
set_option linter.unusedSimpArgs false

section
variable {f : Ieee.Format}
theorem read_nn {x : Nat} (hf : f.infRung < f.signWeight) (h : x ≤ f.infRung) : (∃ m p, f.read x = .number false m p) ∨ f.read x = .infinity false := by
  have h1 : x / f.signWeight = 0 := Nat.div_eq_of_lt (by omega)
  have h2 : x % f.signWeight = x := Nat.mod_eq_of_lt (by omega)
  unfold Ieee.Format.read
  simp only [h1, h2]
  split
  · exact .inl ⟨_, _, rfl⟩
  · split
    · exact .inl ⟨_, _, rfl⟩
    · rw [if_pos (by omega)]
      exact .inr rfl
theorem write_nn (m : Nat) (p : Int) : f.write (.number false m p) ≤ f.infRung := by
  show f.nearest false m p ≤ _
  unfold Ieee.Format.nearest
  split
  · simp [Ieee.Format.word]
  · simp only [Ieee.Format.word, Bool.false_eq_true, if_false]
    exact Nat.min_le_right _ _
theorem write_inf : f.write (.infinity false) ≤ f.infRung := Nat.le_refl _
theorem shl_nn (m : Nat) (k : Nat) : Ieee.signed false m k = ((m <<< k : Nat) : Int) := rfl
theorem add_nn {x y : Nat} (hf : f.infRung < f.signWeight) (hx : x ≤ f.infRung) (hy : y ≤ f.infRung) : ∃ r, f.add x y = some r ∧ r ≤ f.infRung := by
  unfold Ieee.Format.add
  rcases read_nn hf hx with ⟨m, p, h1⟩ | h1 <;> rcases read_nn hf hy with ⟨n, q, h2⟩ | h2 <;> rw [h1, h2]
  · refine ⟨_, rfl, ?_⟩
    have e : ∀ (t b : Int), 0 ≤ t → f.write (.number (if t = 0 then false && false else decide (t < 0)) t.natAbs b) ≤ f.infRung := by
      intro t b ht
      have e : (if t = 0 then false && false else decide (t < 0)) = false := by
        split
        · rfl
        · simp; omega
      rw [e]
      exact write_nn _ _
    exact e _ _ (by rw [shl_nn, shl_nn]; exact Int.add_nonneg (Int.natCast_nonneg _) (Int.natCast_nonneg _))
  · exact ⟨_, rfl, write_inf⟩
  · exact ⟨_, rfl, write_inf⟩
  · exact ⟨_, rfl, write_inf⟩
end
/-- No NaN, nothing below zero. -/
def NN (x : Nat) : Prop := x ≤ Ieee.double.infRung
theorem dbl : Ieee.double.infRung < Ieee.double.signWeight := by decide
theorem nn_zero : NN 0 := Nat.zero_le _
theorem floatOfInt_nn (n : Nat) : NN (floatOfInt .f64 (n : Int)) := by
  show Ieee.double.write (.number (decide ((n : Int) < 0)) (n : Int).natAbs 0) ≤ _
  rw [show decide ((n : Int) < 0) = false by simp]
  exact write_nn _ _
theorem csum_nn {a b c d : Nat} (ha : NN a) (hb : NN b) (hc : NN c) (hd : NN d) : ∃ re im, cSumBits .add .f64 a b c d = some (re, im) ∧ NN re ∧ NN im := by
  obtain ⟨r, h1, h2⟩ := add_nn dbl ha hc
  obtain ⟨s, h3, h4⟩ := add_nn dbl hb hd
  refine ⟨r, s, ?_, h2, h4⟩
  unfold cSumBits
  show (Ieee.double.add a c).bind _ = _
  rw [h1]
  show (Ieee.double.add b d).bind _ = _
  rw [h3]
  rfl
@[go_sem] theorem run_store_cx {P : Program} {w : World} {a : Addr} {m : Mode} (k : FloatKind) (x y : Nat) : (store a (.complex k x y) m).run P w = stored P w a (.complex k x y) m := run_store P w a _ m rfl
theorem turn_any {R : Ending → World → Prop} {w : World} (a b : Nat) (h : R (.returned (.complex .f64 b a)) w) : Calls Tryd.prog 51 #[.complex .f64 a b] w R := by
  have H := Lib.hid h
  clear h
  go_enter Tryd.func51, Tryd.ntmps51
  go_wp2
  exact H.out
theorem rd_byte {w : World} {A : Option Addr} {l : List UInt8} (hr : Rd w [] A (bts l)) {k : Nat} (hk : k < l.length) : ∃ b off, A = some ⟨b, off, none⟩ ∧ w.cell? ⟨b, off + k, none⟩ = some (.int .u8 (l[k]'hk).toNat) := by
  obtain ⟨b, off, hA, _, _, hc⟩ := hr (by intro e; have h9 := bts_len l; rw [e] at h9; simp at h9; omega)
  exact ⟨b, off, hA, hc k _ (by rw [bts_get, List.getElem?_eq_getElem hk]; rfl)⟩
/-- A sum of doubles. -/
def addD (x y : Nat) : Nat := (Ieee.double.add x y).getD 0
/-- The part of the first k bytes, as the code sums it. -/
def partN (l : List UInt8) : Nat → Nat × Nat
  | 0 => (0, 0)
  | k + 1 => if k % 2 = 1 then (addD (partN l k).1 0, addD (partN l k).2 (floatOfInt .f64 ((l.getD k 0).toNat : Int))) else (addD (partN l k).1 (floatOfInt .f64 ((l.getD k 0).toNat : Int)), addD (partN l k).2 0)
theorem csum_D {a b c d : Nat} (ha : NN a) (hb : NN b) (hc : NN c) (hd : NN d) : cSumBits .add .f64 a b c d = some (addD a c, addD b d) ∧ NN (addD a c) ∧ NN (addD b d) := by
  obtain ⟨r, h1, h2⟩ := add_nn dbl ha hc
  obtain ⟨s, h3, h4⟩ := add_nn dbl hb hd
  have e1 : addD a c = r := by unfold addD; rw [h1]; rfl
  have e2 : addD b d = s := by unfold addD; rw [h3]; rfl
  rw [e1, e2]
  refine ⟨?_, h2, h4⟩
  unfold cSumBits
  show (Ieee.double.add a c).bind _ = _
  rw [h1]
  show (Ieee.double.add b d).bind _ = _
  rw [h3]
  rfl
set_option maxHeartbeats 1000000 in
theorem spart_any {R : Ending → World → Prop} {w : World} {A : Option Addr} {n c : Nat} {l : List UInt8} (hr : Rd w [] A (bts l)) (hl : l.length = n) (hn : n ≤ 65536)
    (h : ∀ w', NN (partN l n).1 → NN (partN l n).2 → Kp [] w w' → R (.returned (.tuple #[.complex .f64 (partN l n).1 (partN l n).2, .int .i64 0])) w') : Calls Tryd.prog 43 #[.slice A n c] w R := by
  have H := Lib.hid h
  have HR := Lib.hid hr
  have HL := Lib.hid hl
  have hcv : ∀ (W : World) (m : Nat), (convert 5 67 (.int .u8 (m : Int))).run Tryd.prog W = .ok (.float .f64 (floatOfInt .f64 (m : Int))) W := fun W m => run_convert_int_float (P := Tryd.prog) W 5 67 .u8 .f64 m (by rw [Tryd.underlying5]; rfl) Tryd.underlying67
  clear h hr hl
  go_enter Tryd.func43, Tryd.ntmps43
  go_wp2
  go_loopw [4, 13] (fun zv iv wr => ∃ k re im : Nat, k ≤ n ∧ iv = .int .i64 k ∧ zv = .complex .f64 re im ∧ Hid (NN re ∧ NN im ∧ partN l k = (re, im)) ∧ Hid (Kp [] w wr)) (fun _ iv _ => n - (intOf iv).toNat)
  case atStart => exact ⟨0, 0, 0, Nat.zero_le _, rfl, rfl, Lib.hid ⟨nn_zero, nn_zero, rfl⟩, Lib.hid (Kp.refl _ _)⟩
  case round =>
    obtain ⟨k, re, im, hk, rfl, rfl, hnn, kr⟩ := hrel
    by_cases hlt : k < n
    · obtain ⟨b, off, rfl, hc⟩ := rd_byte (HR.out.kp kr.out (by simp)) (k := k) (by have := HL.out; omega)
      obtain ⟨m, hm⟩ : ∃ m : Nat, (l[k]'(by have := HL.out; omega)).toNat = m := ⟨_, rfl⟩
      have hmD : (l.getD k 0).toNat = m := by rw [← hm, List.getD_eq_getElem?_getD, List.getElem?_eq_getElem (by have := HL.out; omega)]; rfl
      rw [hm] at hc
      have hcm := hcv wr m
      have hfm := floatOfInt_nn m
      have hst : partN l (k + 1) = if k % 2 = 1 then (addD re 0, addD im (floatOfInt .f64 (m : Int))) else (addD re (floatOfInt .f64 (m : Int)), addD im 0) := by
        rw [partN, hnn.out.2.2, hmD]
      obtain ⟨f, hf⟩ : ∃ f : Nat, floatOfInt .f64 (m : Int) = f := ⟨_, rfl⟩
      rw [hf] at hcm hfm hst
      have HST := Lib.hid hst
      clear hcv hf hm hmD hst
      by_cases hp : k % 2 = 1
      · obtain ⟨hs, hr1, hr2⟩ := csum_D hnn.out.1 hnn.out.2.1 nn_zero hfm
        have hsum := fun W => run_complex_sum (P := Tryd.prog) W .add (Or.inl rfl) 68 .f64 re im 0 f _ _ hs
        have hq : (k : Int).tmod 2 = 1 := by rw [Int.tmod_eq_emod_of_nonneg (by omega)]; omega
        have HS2 : Hid (partN l (k + 1) = (addD re 0, addD im f)) := Lib.hid (by rw [HST.out, if_pos hp])
        clear hs HST
        go_wp2_with (go_at_call 51; refine turn_any _ _ ?_)
        exact ⟨⟨k + 1, _, _, by omega, by go_num, rfl, Lib.hid ⟨hr1, hr2, HS2.out⟩, kr⟩, by simp [intOf]; omega⟩
      · obtain ⟨hs, hr1, hr2⟩ := csum_D hnn.out.1 hnn.out.2.1 hfm nn_zero
        have hsum := fun W => run_complex_sum (P := Tryd.prog) W .add (Or.inl rfl) 68 .f64 re im f 0 _ _ hs
        have hq : (k : Int).tmod 2 = 0 := by rw [Int.tmod_eq_emod_of_nonneg (by omega)]; omega
        have HS2 : Hid (partN l (k + 1) = (addD re f, addD im 0)) := Lib.hid (by rw [HST.out, if_neg hp])
        clear hs HST
        go_wp2
        exact ⟨⟨k + 1, _, _, by omega, by go_num, rfl, Lib.hid ⟨hr1, hr2, HS2.out⟩, kr⟩, by simp [intOf]; omega⟩
    · obtain rfl : k = n := by omega
      have e1 := hnn.out.2.2
      rw [e1] at H
      have H2 := Lib.hid (H.out wr hnn.out.1 hnn.out.2.1 kr.out)
      clear H e1
      go_wp2
      exact H2.out
end Go.Proofs.YtnpkfhnhcadgeaaDoor
