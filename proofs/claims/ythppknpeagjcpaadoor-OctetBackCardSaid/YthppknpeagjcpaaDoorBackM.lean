/- ParseMAC walked. -/
import Derived.Test.YthppknpeagjcpaaDoorBackO
import Derived.Test.YthppknpeagjcpaaDoorLex1
namespace Go.Proofs.YthppknpeagjcpaaDoor
open Go.RowKit Go.Shelf
set_option linter.unusedVariables false
set_option linter.unusedSimpArgs false
set_option maxRecDepth 100000

def hexK : List UInt8 := [48, 49, 50, 51, 52, 53, 54, 55, 56, 57, 97, 98, 99, 100, 101, 102]
def pmF (a : Nat) (c : UInt8) : Nat := if 0 ≤ Lib.indexByte hexK c then a * 16 % 281474976710656 + (Lib.indexByte hexK c).toNat else a
def pmA (s : List UInt8) : Nat := s.foldl pmF 0
def pmV (s : List UInt8) : Nat × Int := if macL (pmA s) = s then (pmA s, 0) else (0, 50)
theorem idx_lt (c : UInt8) : -1 ≤ Lib.indexByte hexK c ∧ Lib.indexByte hexK c < 16 := by
  have : ∀ n : Fin 256, -1 ≤ Lib.indexByte hexK (UInt8.ofNat n.1) ∧ Lib.indexByte hexK (UInt8.ofNat n.1) < 16 := by decide +kernel
  have h := this ⟨c.toNat, c.toNat_lt⟩
  simpa using h
theorem hexi_any {R : Ending → World → Prop} (c : UInt8) (w : World) (h : R (.returned (.int .i64 (Lib.indexByte hexK c))) w) : Calls Tryd.prog 69 #[.string ⟨#[48, 49, 50, 51, 52, 53, 54, 55, 56, 57, 97, 98, 99, 100, 101, 102]⟩, .int .u8 c.toNat] w R := index_any hexK c w h
theorem macv (a j : Nat) (ha : a < 281474976710656) (hj : j < 16) : bits .or .u64 (bits .and .u64 ((a : Int) * 16) 281474976710655) (j : Int) = ((a * 16 % 281474976710656 + j : Nat) : Int) := by
  have e0 : (a : Int) * 16 = ((a * 16 : Nat) : Int) := by omega
  have e2 : (281474976710655 : Int) = ((2 ^ 48 - 1 : Nat) : Int) := by decide
  rw [e0, e2, u64_and_nat _ _ (by omega) (by decide), Nat.and_two_pow_sub_one_eq_mod]
  have e1 : a * 16 % 2 ^ 48 = 2 ^ 4 * (a % 17592186044416) := by omega
  rw [e1, u64_or_nat _ _ (by omega) (by omega), ← Nat.two_pow_add_eq_or_of_lt (by omega)]
set_option maxHeartbeats 2000000 in
theorem pm_any {R : Ending → World → Prop} (l : List UInt8) (w : World) (hl : l.length ≤ 1000000) (h : ∀ w', Kp [] w w' → R (.returned (.tuple #[.int .u64 (pmV l).1, .int .i64 (pmV l).2])) w') : Calls Tryd.prog 47 #[.string (S l)] w R := by
  have H := Lib.hid h
  clear h
  have HV : Hid (pmV l = if macL (pmA l) = l then (pmA l, 0) else (0, 50)) := Lib.hid rfl
  have HP : Hid (pmA l = l.foldl pmF 0) := Lib.hid rfl
  generalize pmV l = v at *
  go_enter Tryd.func47, Tryd.ntmps47
  go_wp2
  go_loop [4, 11] (fun av iv => ∃ (k a : Nat), k ≤ l.length ∧ iv = .int .i64 k ∧ av = .int .u64 a ∧ a < 281474976710656 ∧ Hid ((l.take k).foldl pmF 0 = a)) (fun _ iv => l.length - (intOf iv).toNat)
  case atStart => exact ⟨0, 0, Nat.zero_le _, rfl, rfl, by omega, Lib.hid rfl⟩
  case round =>
    obtain ⟨k, a, hk, rfl, rfl, ha, hf⟩ := hrel
    by_cases hlt : k < l.length
    · obtain ⟨x, hx⟩ : ∃ x, l[k]'hlt = x := ⟨_, rfl⟩
      obtain ⟨i1, i2⟩ := idx_lt x
      have HF : Hid ((l.take (k + 1)).foldl pmF 0 = if 0 ≤ Lib.indexByte hexK x then a * 16 % 281474976710656 + (Lib.indexByte hexK x).toNat else a) := Lib.hid (by rw [foldl_take _ _ (List.getElem?_eq_some_iff.2 ⟨hlt, hx⟩), hf.out]; rfl)
      have HI : Hid (∀ (w : World) (R : Ending → World → Prop), R (.returned (.int .i64 (Lib.indexByte hexK x))) w → Calls Tryd.prog 69 #[.string ⟨#[48, 49, 50, 51, 52, 53, 54, 55, 56, 57, 97, 98, 99, 100, 101, 102]⟩, .int .u8 x.toNat] w R) := Lib.hid fun w R h => hexi_any x w h
      clear hf
      generalize Lib.indexByte hexK x = d at *
      by_cases hd : 0 ≤ d
      · obtain ⟨j, rfl⟩ : ∃ j : Nat, d = j := ⟨d.toNat, by omega⟩
        go_wp2_with (go_at_call 69; (with_reducible refine HI.out _ _ ?_))
        refine ⟨⟨k + 1, a * 16 % 281474976710656 + j, by omega, by go_num, ?_, ?_, ?_⟩, ?_⟩
        · rw [macv a j ha (by omega)]
        · omega
        · rw [if_pos hd] at HF; simpa using HF
        · simp [intOf]; omega
      · have HF2 := Lib.hid (show (l.take (k + 1)).foldl pmF 0 = a by rw [HF.out, if_neg hd])
        clear HF
        go_wp2_with (go_at_call 69; (with_reducible refine HI.out _ _ ?_))
        go_round
        case rel => exact ⟨k + 1, a, by omega, by go_num, rfl, ha, HF2⟩
        case measure => simp [intOf]; omega
    · have e : l.take k = l := List.take_of_length_le (by omega)
      have hP : pmA l = a := by rw [HP.out, ← hf.out, e]
      rw [hP] at HV
      clear HP hf e
      by_cases heq : macL a = l
      · have HR := Lib.hid (show v = (a, 0) by rw [HV.out, if_pos heq])
        have HE := Lib.hid heq
        clear heq hP
        go_wp2_with (go_at_call 46; ((with_reducible refine mac_good a _ ha ?_); intro w2 k2; rw [HE.out]))
        exact rcast (H.out _ k2) (by rw [HR.out]; rfl)
      · have HR := Lib.hid (show v = (0, 50) by rw [HV.out, if_neg heq])
        have b1 : (macL a == l) = false := by simpa using heq
        have b2 : (macL a != l) = true := by simpa using heq
        clear heq hP
        go_wp2_with (go_at_call 46; ((with_reducible refine mac_good a _ ha ?_); intro w2 k2))
        exact rcast (H.out _ k2) (by rw [HR.out]; rfl)
end Go.Proofs.YthppknpeagjcpaaDoor
