/- inode: the parts of a file: word, may, all; the blocks' count. -/
import Derived.Test.YtnpkfhnhcadgeaaDoorIn9
namespace Go.Proofs.YtnpkfhnhcadgeaaDoor
open Go.RowKit
set_option linter.unusedVariables false
set_option linter.unusedSimpArgs false
set_option maxRecDepth 100000
/-- What word answers at a number. -/
def WordAt (x : Nat) (t : Bool) : Prop := ∀ (R : Ending → World → Prop) (w : World), R (.returned (.bool t)) w → Calls Tryd.prog 49 #[.float .f64 x] w R
def cV (p : Nat × Nat) : List Value := [.complex .f64 p.1 p.2]
section
variable {R : Ending → World → Prop} {w w' w0 : World}
theorem fl_word : fl 65535 = 4679239875398991872 := by kernel_rfl
theorem ord_word {n : Nat} (hn : n < 2 ^ 53) : (FloatKind.f64.format.order (fl n) 4679239875398991872 == some .lt || FloatKind.f64.format.order (fl n) 4679239875398991872 == some .eq) = decide (n ≤ 65535) := by
  have h : FloatKind.f64.format.order (fl n) 4679239875398991872 = some (compare n 65535) := by
    have := order_fl hn (show 65535 < 2 ^ 53 by decide)
    rw [fl_word] at this
    exact this
  rw [h]
  rcases Nat.lt_trichotomy n 65535 with h0 | h0 | h0
  · rw [Nat.compare_eq_lt.2 h0, decide_eq_true (by omega)]; rfl
  · rw [Nat.compare_eq_eq.2 h0, decide_eq_true (by omega)]; rfl
  · rw [Nat.compare_eq_gt.2 h0, decide_eq_false (by omega)]; rfl
set_option maxHeartbeats 1000000 in
theorem word_fl {n : Nat} (hn : n < 2 ^ 53) : WordAt (fl n) (decide (n ≤ 65535)) := by
  intro R w h
  have H := Lib.hid h
  have hT : Hid (∀ (R : Ending → World → Prop) (w : World), R (.returned (.float .f64 (fl n))) w → Calls Tryd.prog 54 #[.float .f64 (fl n)] w R) := Lib.hid (fun R w h => trunc_any hn h)
  have h0 := ord_zero hn
  have h1 := ord_word hn
  have h2 := ord_self hn
  obtain ⟨x, hx⟩ : ∃ x, fl n = x := ⟨_, rfl⟩
  rw [hx] at h0 h1 h2 hT ⊢
  clear h hx
  by_cases hm : n ≤ 65535
  · rw [decide_eq_true hm] at h1 H
    go_enter Tryd.func49, Tryd.ntmps49
    go_wp2_with (go_at_call 54; refine hT.out _ _ ?_)
    exact H.out
  · rw [decide_eq_false hm] at h1 H
    go_enter Tryd.func49, Tryd.ntmps49
    go_wp2
    exact H.out
set_option maxHeartbeats 1000000 in
theorem cword_any {x y : Nat} {a b : Bool} (ha : WordAt x a) (hb : WordAt y b) (h : R (.returned (.bool (a && b))) w) : Calls Tryd.prog 48 #[.complex .f64 x y] w R := by
  have H := Lib.hid h
  have HA : Hid (∀ (R : Ending → World → Prop) (w : World), R (.returned (.bool a)) w → Calls Tryd.prog 49 #[.float .f64 x] w R) := Lib.hid ha
  have HB : Hid (∀ (R : Ending → World → Prop) (w : World), R (.returned (.bool b)) w → Calls Tryd.prog 49 #[.float .f64 y] w R) := Lib.hid hb
  clear h ha hb
  cases a with
  | true =>
    go_enter Tryd.func48, Tryd.ntmps48
    go_wp2_with (first | (go_at_call 49; with_reducible refine HA.out _ _ ?_) | (go_at_call 49; with_reducible refine HB.out _ _ ?_))
    exact H.out
  | false =>
    go_enter Tryd.func48, Tryd.ntmps48
    go_wp2_with (first | (go_at_call 49; with_reducible refine HA.out _ _ ?_) | (go_at_call 49; with_reducible refine HB.out _ _ ?_))
    exact H.out
set_option maxHeartbeats 2000000 in
theorem allc_any (W : Nat → Bool) {A : Option Addr} {n c : Nat} {l : List (Nat × Nat)} (hW : ∀ p ∈ l, WordAt p.1 (W p.1) ∧ WordAt p.2 (W p.2)) (hr : Rd w [] A (l.flatMap cV)) (hl : l.length = n) (hn : n ≤ 1000000) (h : ∀ w', Kp [] w w' → R (.returned (.bool (l.all fun p => W p.1 && W p.2))) w') :
    Calls Tryd.prog 47 #[.slice A n c, .func (.func 48) #[] #[]] w R := by
  have H := Lib.hid h
  have HL := Lib.hid hl
  have HR := Lib.hid hr
  have HWW := Lib.hid hW
  clear h hl hr hW
  generalize hF : (fun p : Nat × Nat => W p.1 && W p.2) = F at H
  have HF := Lib.hid hF
  clear hF
  go_enter Tryd.func47, Tryd.ntmps47
  go_wp2
  go_loopw [9] (fun jv wr => ∃ k : Nat, k ≤ n ∧ jv = .int .i64 k ∧ Hid (Kp [] w wr) ∧ Hid ((l.take k).all F = true)) (fun jv _ => n - (intOf jv).toNat)
  case atStart => exact ⟨0, Nat.zero_le _, rfl, Lib.hid (Kp.refl _ _), Lib.hid (by simp)⟩
  case round =>
    obtain ⟨k, hk, rfl, kr, hg⟩ := hrel
    by_cases hlt : k < n
    · obtain ⟨x, hx, hmx⟩ := get_ltI (l := l) (k := k) (by have := HL.out; omega)
      obtain ⟨b, off, rfl, _, hbl, hc⟩ := rd_at (F := cV) (K := 1) (HR.out.kp kr.out (by simp)) (fun _ => rfl) (by omega) hx
      have c0 := hc 0 _ rfl
      rw [Nat.add_zero, Nat.mul_one] at c0
      have HX := Lib.hid hx
      have HM := Lib.hid hmx
      obtain ⟨t, ht⟩ : ∃ t, F x = t := ⟨_, rfl⟩
      have HE : Hid (∀ (R : Ending → World → Prop), R (.returned (.bool t)) wr → Calls Tryd.prog 48 #[.complex .f64 x.1 x.2] wr R) := Lib.hid (fun R h => cword_any (HWW.out x hmx).1 (HWW.out x hmx).2 (by rw [← ht, ← HF.out] at h; exact h))
      have HT := Lib.hid ht
      obtain ⟨xa, xb⟩ := x
      simp only at HE c0
      clear hc hx hmx ht
      cases t with
      | true =>
        have HN : Hid ((l.take (k + 1)).all F = true) := Lib.hid (by rw [take_snocI HX.out, List.all_append, hg.out]; simp [HT.out])
        go_wp2_with (go_at_call 48; (refine HE.out _ ?_))
        exact ⟨⟨k + 1, by omega, by go_num, kr, HN⟩, by simp [intOf]; omega⟩
      | false =>
        have hv : l.all F = false := by
          cases h : l.all F with
          | false => rfl
          | true => have := List.all_eq_true.1 h _ HM.out; rw [HT.out] at this; cases this
        rw [hv] at H
        clear hv
        go_wp2_with (go_at_call 48; (refine HE.out _ ?_))
        exact H.out _ kr.out
    · obtain rfl : k = n := by omega
      have hv : l.all F = true := by have := hg.out; rwa [List.take_of_length_le (by have := HL.out; omega)] at this
      rw [hv] at H
      clear hv
      go_wp2
      exact H.out _ kr.out
def cntF (n : Nat) : Nat := (n + 255) / 256
theorem count_any (n : Nat) (hn : n ≤ 1000000) (h : R (.returned (.int .i64 (cntF n))) w) : Calls Tryd.prog 24 #[.int .i64 n] w R := by
  have H := Lib.hid h
  clear h
  go_enter Tryd.func24, Tryd.ntmps24
  go_wp2
  exact rcast H.out (by unfold cntF; congr 1; omega)
end
end Go.Proofs.YtnpkfhnhcadgeaaDoor
