/- The walks of package octet: numbers. -/
import Derived.Test.YtnpkfhnhcadgeaaDoorLib
import Derived.Test.YtnpkfhnhcadgeaaDoorBytes
import Derived.Handy
import Derived.BigQuiet
import Derived.IntWalk
import Derived.Deep.QuietTactic
namespace Go.Proofs.YtnpkfhnhcadgeaaDoor
open Go.RowKit Go.Shelf
set_option linter.unusedVariables false
set_option linter.unusedSimpArgs false
set_option maxRecDepth 100000

def wideB (w : Int) : Bool := decide (1 ≤ w ∧ w ≤ 8)
/-- The last w bytes of n, the greatest first. -/
def putL (n : Nat) : Nat → List UInt8
  | 0 => []
  | w + 1 => UInt8.ofNat (n / 256 ^ w) :: putL n w
theorem putL_len (n w : Nat) : (putL n w).length = w := by
  induction w with
  | zero => rfl
  | succ w ih => simp [putL, ih]
set_option maxHeartbeats 400000 in
theorem wide_any {R : Ending → World → Prop} (a : Int) (w : World) (h : R (.returned (.bool (wideB a))) w) : Calls Tryd.prog 39 #[.int .i64 a] w R := by
  go_enter Tryd.func39, Tryd.ntmps39
  go_wp2
  all_goals (refine rcast h (congrArg Value.bool ?_); rw [Bool.eq_iff_iff]; simp [wideB] <;> omega)
def hexD (k : Nat) : UInt8 := UInt8.ofNat (if k < 10 then 48 + k else 87 + k)
def hexL (c : UInt8) : List UInt8 := [hexD (c.toNat / 16), hexD (c.toNat % 16)]
theorem hexD_at (k : Nat) (h : k < 16) : List.drop k (48 :: List.take k [49, 50, 51, 52, 53, 54, 55, 56, 57, 97, 98, 99, 100, 101, 102]) = [hexD k] := by
  have : ∀ k : Fin 16, List.drop k.1 ((48 : UInt8) :: List.take k.1 [49, 50, 51, 52, 53, 54, 55, 56, 57, 97, 98, 99, 100, 101, 102]) = [hexD k.1] := by decide +kernel
  exact this ⟨k, h⟩
set_option maxHeartbeats 400000 in
theorem clone_any {R : Ending → World → Prop} {w : World} {N : List Nat} {A : Option Addr} {n c : Nat} {l : List UInt8} (hr : Rd w N A (bts l)) (hl : l.length = n) (hn : n ≤ 1000000)
    (h : ∀ A' c' w', (∀ x ∈ bks A', w.heap.size ≤ x) → Ow w' 5 1 A' n c' (bts l) → Kp [] w w' → R (.returned (.slice A' n c')) w') :
    Calls Tryd.prog 37 #[.slice A n c] w R := by
  rcases A with _ | ad
  · have e : l = [] := by
      cases l with
      | nil => rfl
      | cons x l => obtain ⟨_, _, h, _⟩ := hr (by simp [bts]); cases h
    subst e
    simp at hl
    subst hl
    refine (Tryd.bytes_Clone_nil 0 c w).mono fun e w' ⟨he, hw⟩ => ?_
    subst he; subst hw
    exact h none 0 _ (by simp [bks]) Ow.nil (Kp.refl _ _)
  · exact clone_some hr (bts_one l) (by rw [bts_len, hl]) hn (fun g c' w' hg ho hk => h _ _ _ (by intro x hx; simp [bks] at hx; omega) ho hk)
set_option maxHeartbeats 1000000 in
theorem put_good {R : Ending → World → Prop} {w : World} {A : Option Addr} {n c : Nat} {b : List UInt8} (N k : Nat) (hr : Rd w [] A (bts b)) (hl : b.length = n) (hn : n ≤ 100000) (hN : N < 18446744073709551616) (hk1 : 1 ≤ k) (hk8 : k ≤ 8) (hf : k = 8 ∨ N < 256 ^ k)
    (h : ∀ A' c' w', (∀ x ∈ bks A', w.heap.size ≤ x) → Ow w' 5 1 A' (n + k) c' (bts (b ++ putL N k)) → Kp [] w w' → R (.returned (.tuple #[.slice A' (n + k) c', .int .i64 0])) w') :
    Calls Tryd.prog 42 #[.slice A n c, .int .u64 N, .int .i64 k] w R := by
  have H := Lib.hid h
  clear h
  have HW : Hid (wideB k = true) := Lib.hid (by unfold wideB; rw [decide_eq_true_iff]; omega)
  have hp : ∀ j : Nat, (256 : Nat) ^ j = 2 ^ (8 * j) := fun j => by rw [Nat.pow_mul]
  have hsh : k < 8 → ((N : Int) / 2 ^ (8 * k) != 0) = false := by
    intro h8
    have h2 : N < 256 ^ k := hf.elim (fun e => by omega) id
    have e : ((N : Int) / 2 ^ (8 * k)) = ((N / 2 ^ (8 * k) : Nat) : Int) := by simp
    rw [e, Nat.div_eq_of_lt (by rw [← hp]; exact h2)]; try rfl
  have HE : Hid (∀ i : Nat, (N : Int) / 2 ^ (8 * i) % 256 = ((UInt8.ofNat (N / 256 ^ i)).toNat : Int)) := by
    refine Lib.hid fun i => ?_
    rw [UInt8.toNat_ofNat', hp]
    simp
  have HS := Lib.hid hsh
  clear hsh hf hp
  by_cases h8 : k < 8
  · have hb := HS.out h8
    clear HS
    go_enter Tryd.func42, Tryd.ntmps42
    go_wp2_with (first | (go_at_call 39; refine wide_any _ _ ?_; rw [HW.out]) | (go_at_call 37; ((with_reducible refine clone_any hr hl (by omega) ?_); intro A1 c1 w1 hA1 ho1 hk1')))
    go_loopw [8, 9] (fun ov wv wr => ∃ (j : Nat) (q : Int) (out : List UInt8) (A' : Option Addr) (c' m : Nat), q = (j : Int) - 1 ∧ wv = .int .i64 q ∧ j ≤ k ∧ m + j = n + k ∧ n ≤ m ∧ ov = .slice A' m c' ∧ Hid (out ++ putL N j = b ++ putL N k) ∧ Kp [] w wr ∧ Ow wr 5 1 A' m c' (bts out) ∧ (∀ x ∈ bks A', w.heap.size ≤ x)) (fun _ wv _ => (intOf wv + 1).toNat)
    case atStart => exact ⟨k, (k : Int) - 1, b, A1, c1, n, rfl, rfl, Nat.le_refl _, rfl, Nat.le_refl _, rfl, Lib.hid rfl, hk1', ho1, hA1⟩
    case round =>
      obtain ⟨j, q, out, A', c', m, hq, rfl, hj, hmj, hnm, rfl, hd, kr, ho, hA⟩ := hrel
      rcases j with _ | i
      · obtain rfl : q = -1 := by omega
        have HO : Hid (out = b ++ putL N k) := Lib.hid (by have := hd.out; simpa [putL] using this)
        obtain rfl : m = n + k := by omega
        clear hd hq
        go_wp2
        exact H.out _ _ _ hA (ho.cast rfl (by rw [HO.out])) kr
      · obtain rfl : q = (i : Int) := by omega
        have hE := HE.out i
        have HD : Hid ((out ++ [UInt8.ofNat (N / 256 ^ i)]) ++ putL N i = b ++ putL N k) := Lib.hid (by have := hd.out; rw [← this]; simp [putL])
        generalize UInt8.ofNat (N / 256 ^ i) = x at *
        clear hd hq
        go_wp2_with (at_builtin; refine wpList_app _ rfl (.tmp 32) (.tmp 38) _ rfl elt_u8 A' m c' _ rfl (ho.alloc _) [] (some ⟨wr.heap.size, 0, none⟩) 1 1 (bts [x]) rfl (Rd.of_bk (Bk.newAt rfl _ _) (by simp)) rfl (bts_one _) (by omega) ?_; intro A2 c2 w2 ho2 hk2 hA2)
        exact ⟨⟨i, (i : Int) - 1, out ++ [x], A2, c2, m + 1, rfl, by go_num, by omega, by omega, by omega, rfl, HD, (kr.alloc _).thn hk2 (fun s hs => .inr (hA s hs)), ho2.cast rfl (bts_append _ _).symm, bks_app hA2 hA (by have := kr.size; simp; omega)⟩, by simp [intOf]⟩
  · clear HS
    go_enter Tryd.func42, Tryd.ntmps42
    go_wp2_with (first | (go_at_call 39; refine wide_any _ _ ?_; rw [HW.out]) | (go_at_call 37; ((with_reducible refine clone_any hr hl (by omega) ?_); intro A1 c1 w1 hA1 ho1 hk1')))
    go_loopw [8, 9] (fun ov wv wr => ∃ (j : Nat) (q : Int) (out : List UInt8) (A' : Option Addr) (c' m : Nat), q = (j : Int) - 1 ∧ wv = .int .i64 q ∧ j ≤ k ∧ m + j = n + k ∧ n ≤ m ∧ ov = .slice A' m c' ∧ Hid (out ++ putL N j = b ++ putL N k) ∧ Kp [] w wr ∧ Ow wr 5 1 A' m c' (bts out) ∧ (∀ x ∈ bks A', w.heap.size ≤ x)) (fun _ wv _ => (intOf wv + 1).toNat)
    case atStart => exact ⟨k, (k : Int) - 1, b, A1, c1, n, rfl, rfl, Nat.le_refl _, rfl, Nat.le_refl _, rfl, Lib.hid rfl, hk1', ho1, hA1⟩
    case round =>
      obtain ⟨j, q, out, A', c', m, hq, rfl, hj, hmj, hnm, rfl, hd, kr, ho, hA⟩ := hrel
      rcases j with _ | i
      · obtain rfl : q = -1 := by omega
        have HO : Hid (out = b ++ putL N k) := Lib.hid (by have := hd.out; simpa [putL] using this)
        obtain rfl : m = n + k := by omega
        clear hd hq
        go_wp2
        exact H.out _ _ _ hA (ho.cast rfl (by rw [HO.out])) kr
      · obtain rfl : q = (i : Int) := by omega
        have hE := HE.out i
        have HD : Hid ((out ++ [UInt8.ofNat (N / 256 ^ i)]) ++ putL N i = b ++ putL N k) := Lib.hid (by have := hd.out; rw [← this]; simp [putL])
        generalize UInt8.ofNat (N / 256 ^ i) = x at *
        clear hd hq
        go_wp2_with (at_builtin; refine wpList_app _ rfl (.tmp 32) (.tmp 38) _ rfl elt_u8 A' m c' _ rfl (ho.alloc _) [] (some ⟨wr.heap.size, 0, none⟩) 1 1 (bts [x]) rfl (Rd.of_bk (Bk.newAt rfl _ _) (by simp)) rfl (bts_one _) (by omega) ?_; intro A2 c2 w2 ho2 hk2 hA2)
        exact ⟨⟨i, (i : Int) - 1, out ++ [x], A2, c2, m + 1, rfl, by go_num, by omega, by omega, by omega, rfl, HD, (kr.alloc _).thn hk2 (fun s hs => .inr (hA s hs)), ho2.cast rfl (bts_append _ _).symm, bks_app hA2 hA (by have := kr.size; simp; omega)⟩, by simp [intOf]⟩
def putOk (N : Nat) (width : Int) : Bool := wideB width && (decide (width = 8) || decide (N < 256 ^ width.toNat))
set_option maxHeartbeats 1000000 in
theorem put_bad {R : Ending → World → Prop} {w : World} {A : Option Addr} {n c : Nat} (N : Nat) (width : Int) (hN : N < 18446744073709551616) (hf : putOk N width = false)
    (h : R (.returned (.tuple #[.slice none 0 0, .int .i64 1])) w) :
    Calls Tryd.prog 42 #[.slice A n c, .int .u64 N, .int .i64 width] w R := by
  have H := Lib.hid h
  clear h
  cases hw : wideB width
  · have HW := Lib.hid hw
    clear hw hf
    go_enter Tryd.func42, Tryd.ntmps42
    go_wp2_with (go_at_call 39; refine wide_any _ _ ?_; rw [HW.out])
    exact H.out
  · have hw' : 1 ≤ width ∧ width ≤ 8 := by unfold wideB at hw; exact of_decide_eq_true hw
    have HW := Lib.hid hw
    obtain ⟨k, rfl⟩ : ∃ k : Nat, width = k := ⟨width.toNat, by omega⟩
    unfold putOk at hf
    rw [hw, Bool.true_and, Bool.or_eq_false_iff, decide_eq_false_iff_not, decide_eq_false_iff_not] at hf
    obtain ⟨h8, hbig⟩ := hf
    simp only [Int.toNat_natCast] at hbig
    have h8' : k < 8 := by omega
    have hb : ((N : Int) / 2 ^ (8 * k) != 0) = true := by
      have e : ((N : Int) / 2 ^ (8 * k)) = ((N / 2 ^ (8 * k) : Nat) : Int) := by simp
      have hp : (256 : Nat) ^ k = 2 ^ (8 * k) := by rw [Nat.pow_mul]
      have : 0 < N / 2 ^ (8 * k) := Nat.div_pos (by rw [← hp]; omega) (Nat.pow_pos (by decide))
      rw [e]; simp only [bne_iff_ne, ne_eq]; omega
    clear hw h8 hbig
    go_enter Tryd.func42, Tryd.ntmps42
    go_wp2_with (go_at_call 39; refine wide_any _ _ ?_; rw [HW.out])
    exact H.out
end Go.Proofs.YtnpkfhnhcadgeaaDoor
