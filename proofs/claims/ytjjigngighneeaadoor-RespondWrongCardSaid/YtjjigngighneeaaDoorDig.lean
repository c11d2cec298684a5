/- pantlerref25.Digits at numbers that are not below 0. -/
import Derived.Test.YtjjigngighneeaaDoorDec
namespace Go.Proofs.YtjjigngighneeaaDoor
open Go.RowKit Go.Shelf
set_option linter.unusedVariables false
set_option linter.unusedSimpArgs false
set_option maxRecDepth 100000
set_option maxHeartbeats 1000000 in
theorem rdigits_any {R : Ending → World → Prop} (N : Nat) (w : World) (hN : N ≤ 9223372036854775807) (h : ∀ w', Kp [] w w' → R (.returned (.string (S (decL N)))) w') : Calls Tryd.prog 41 #[.int .i64 N] w R := by
  have H := Lib.hid h
  clear h
  go_enter Tryd.func41, Tryd.ntmps41
  go_wp2
  go_loopw [0, 3] (fun nv s wr => ∃ (k : Nat) (q : List UInt8), nv = .int .i64 k ∧ s = .string (S q) ∧ k ≤ N ∧ Hid (decL N = decL k ++ q) ∧ Kp [] w wr) (fun nv _ _ => (intOf nv).toNat)
  case atStart => exact ⟨N, [], rfl, rfl, Nat.le_refl _, Lib.hid (by simp), Kp.refl _ _⟩
  case round =>
    obtain ⟨k, q, rfl, rfl, hk, hq, kr⟩ := hrel
    obtain ⟨c, hc⟩ : ∃ c : UInt8, c = UInt8.ofNat (48 + k % 10) := ⟨_, rfl⟩
    have hcn : c.toNat = 48 + k % 10 := by rw [hc, UInt8.toNat_ofNat']; omega
    have hE : 48 + (k : Int) % 10 = (c.toNat : Int) := by omega
    have hcl := c.toNat_lt
    have hcv : (convert 73 9 (.slice (some ⟨wr.heap.size, 0, none⟩) 1 1)).run Tryd.prog (wr.alloc (.cells #[.int .u8 c.toNat] 5)) = .ok (.string (S [c])) (wr.alloc (.cells #[.int .u8 c.toNat] 5)) :=
      conv_bs (N := []) (l := [c]) (Rd.of_bk (Bk.newAt rfl _ _) (by simp)) rfl
    have hql : q.length ≤ 20 := by
      have h1 := decL_len20 hN
      have h2 := congrArg List.length hq.out
      rw [List.length_append] at h2
      omega
    by_cases h10 : 10 ≤ k
    · have HQ : Hid (decL N = decL (k / 10) ++ (c :: q)) := Lib.hid (by rw [hq.out, decL_big (by omega), hc, List.append_assoc]; rfl)
      clear hc hcn hq
      go_wp2
      exact ⟨⟨k / 10, c :: q, congrArg (Value.int .i64) (by omega), rfl, by omega, HQ, kr.alloc _⟩, by simp [intOf]; omega⟩
    · have HQ : Hid (decL N = c :: q) := Lib.hid (by rw [hq.out, decL_small (by omega), hc, show k % 10 = k by omega]; rfl)
      clear hc hcn hq
      have k2 := kr.alloc (.cells #[.int .u8 (c.toNat : Int)] 5)
      go_wp2
      exact rcast (H.out _ k2) (congrArg (fun l => Value.string (S l)) HQ.out)
end Go.Proofs.YtjjigngighneeaaDoor
