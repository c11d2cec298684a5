/- civil: number, before, Seconds. -/
import Derived.Test.YtnmafahbdfilcaaGreatDoorPC9
import Derived.Test.YtnmafahbdfilcaaGreatDoorPC4
import Derived.BigQuiet
namespace Go.Proofs.YtnmafahbdfilcaaGreatDoor
/-! ### civil: number, before, Seconds. -/
section
open Go.RowKit
set_option linter.unusedVariables false
set_option linter.unusedSimpArgs false
set_option maxRecDepth 100000
/-- A number of digits; -1: it is none. -/
def numF (l : List UInt8) : Int := if l.all digB then (numN l : Int) else -1
theorem numN_bd (l : List UInt8) (h : l.all digB = true) : numN l < 10 ^ l.length := by
  have : ∀ k ≤ l.length, numN (l.take k) < 10 ^ k := by
    intro k
    induction k with
    | zero => intro _; simp [numN]
    | succ k ih =>
      intro hk
      have h1 := ih (by omega)
      rw [List.take_succ_eq_append_getElem (by omega), numN_snoc, Nat.pow_succ]
      have hd := List.all_eq_true.1 h _ (List.getElem_mem (show k < l.length by omega))
      simp [digB] at hd
      omega
  have h2 := this l.length (Nat.le_refl _)
  rwa [List.take_length] at h2
set_option maxHeartbeats 2000000 in
theorem number3_any {R : Ending → World → Prop} (l : List UInt8) (w : World) (hl : l.length ≤ 9) (h : R (.returned (.int .i64 (numF l))) w) : Calls Tryz.prog 138 #[.string (S l)] w R := by
  have H := Lib.hid h
  clear h
  go_enter Tryz.func138, Tryz.ntmps138
  go_wp2
  go_loop [3, 7] (fun v i => ∃ k : Nat, k ≤ l.length ∧ i = .int .i64 k ∧ v = .int .i64 (numN (l.take k) : Nat) ∧ Hid ((l.take k).all digB = true)) (fun _ i => l.length - (intOf i).toNat)
  case atStart => exact ⟨0, Nat.zero_le _, rfl, rfl, Lib.hid rfl⟩
  case round =>
    obtain ⟨k, hk, rfl, rfl, hd⟩ := hrel
    by_cases hlt : k < l.length
    · obtain ⟨c, hc⟩ : ∃ c, l[k]'hlt = c := ⟨_, rfl⟩
      have hcl := c.toNat_lt
      have hb := numN_bd _ hd.out
      have hp : 10 ^ (l.take k).length ≤ 10 ^ 9 := Nat.pow_le_pow_right (by decide) (by simp; omega)
      have hp9 : (10 : Nat) ^ 9 = 1000000000 := by decide
      have ht : l.take (k + 1) = l.take k ++ [c] := by rw [List.take_succ_eq_append_getElem hlt, hc]
      obtain ⟨N, hN⟩ : ∃ N, numN (l.take k) = N := ⟨_, rfl⟩
      have hNb : N < 1000000000 := by omega
      by_cases hdg : digB c = true
      · have hdg2 : 48 ≤ c.toNat ∧ c.toNat ≤ 57 := by simpa [digB] using hdg
        have hA : Hid ((l.take (k + 1)).all digB = true) := Lib.hid (by rw [ht, List.all_append, hd.out]; simp [hdg])
        have hS : Hid (numN (l.take (k + 1)) = 10 * N + (c.toNat - 48)) := Lib.hid (by rw [ht, numN_snoc, hN])
        rw [hN]
        have hs1 : IntKind.u8.wrap ((c.toNat : Int) - 48) = ((c.toNat - 48 : Nat) : Int) := by simp [IntKind.wrap, IntKind.signed, IntKind.bits]; omega
        have hq : decide ((c.toNat : Int) < 48) = false := by simp; omega
        have hq2 : decide ((57 : Int) < c.toNat) = false := by simp; omega
        clear hd hb hp ht hN hdg
        go_wp2
        exact ⟨⟨k + 1, by omega, by go_num, congrArg (Value.int .i64) (by rw [hS.out]; omega), hA⟩, by simp [intOf]; omega⟩
      · have hF : Hid (numF l = -1) := Lib.hid (by
          unfold numF
          rw [if_neg]
          intro h
          exact hdg (List.all_eq_true.1 h c (hc ▸ List.getElem_mem hlt)))
        rw [hF.out] at H
        have hdg2 : c.toNat < 48 ∨ 57 < c.toNat := by simp [digB] at hdg; omega
        clear hd hb hp ht hN hdg
        rcases hdg2 with h1 | h1
        · have hq : decide ((c.toNat : Int) < 48) = true := by simp; omega
          go_wp2
          exact H.out
        · have hq : decide ((c.toNat : Int) < 48) = false := by simp; omega
          have hq2 : decide ((57 : Int) < c.toNat) = true := by simp; omega
          go_wp2
          exact H.out
    · have hF : Hid (numF l = numN (l.take k)) := Lib.hid (by
        have h1 := hd.out
        rw [List.take_of_length_le (by omega)] at h1 ⊢
        unfold numF
        rw [if_pos h1])
      rw [hF.out] at H
      clear hd
      go_wp2
      exact H.out
set_option maxHeartbeats 1000000 in
theorem before_any {R : Ending → World → Prop} (y : Int) (w : World) (h0 : 1970 ≤ y) (h1 : y ≤ 9999) (h : R (.returned (.int .i64 (befY y))) w) : Calls Tryz.prog 162 #[.int .i64 y] w R := by
  have H := Lib.hid h
  clear h
  obtain ⟨k, rfl⟩ : ∃ k : Nat, y = k := ⟨y.toNat, by omega⟩
  go_enter Tryz.func162, Tryz.ntmps162
  go_wp2
  refine rcast H.out (congrArg (Value.int .i64) ?_)
  unfold befY
  omega
end
end Go.Proofs.YtnmafahbdfilcaaGreatDoor
