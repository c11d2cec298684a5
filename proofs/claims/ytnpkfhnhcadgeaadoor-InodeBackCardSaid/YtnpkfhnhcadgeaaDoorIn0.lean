/- Sealed blocks in plain words: the fold of a sum, the seal, and what a turned byte does. -/
import Derived.Test.YtnpkfhnhcadgeaaDoorFx
namespace Go.Proofs.YtnpkfhnhcadgeaaDoor
open Go.RowKit
set_option linter.unusedVariables false
set_option linter.unusedSimpArgs false
set_option maxRecDepth 100000
/-- What a sum folds to. -/
def fo (n : Nat) : Nat := if n = 0 then 0 else (n - 1) % 65535 + 1
theorem fo_le (n : Nat) : fo n ≤ 65535 := by unfold fo; split <;> omega
theorem fo_step {n : Nat} (h : 65535 < n) : fo (n % 65536 + n / 65536) = fo n := by
  unfold fo
  rw [if_neg (by omega), if_neg (by omega)]
  omega
theorem fo_small {n : Nat} (h : n ≤ 65535) : fo n = n := by unfold fo; split <;> omega
/-- The bytes' sum. -/
def sm (l : List UInt8) : Nat := 256 * (pr l).1 + (pr l).2
theorem sm_bd (l : List UInt8) : sm l ≤ 65280 * l.length := by
  have := pr_bd l
  unfold sm; omega
theorem pr_zero : ∀ n : Nat, pr (List.replicate n 0) = (0, 0)
  | 0 => rfl
  | n + 1 => by rw [List.replicate_succ]; simp only [pr, pr_zero n]; rfl
theorem pr_pad (l : List UInt8) (n : Nat) : pr (l ++ List.replicate n 0) = pr l := by
  rw [pr_app, pr_zero]; split <;> simp
/-- A text of 254 bytes at most, padded. -/
def padB (t : List UInt8) : List UInt8 := t ++ List.replicate (254 - t.length) 0
theorem padB_len {t : List UInt8} (h : t.length ≤ 254) : (padB t).length = 254 := by unfold padB; simp; omega
/-- The sum of a text. -/
def smW (t : List UInt8) : Nat := 65535 - fo (sm t)
/-- A sealed block. -/
def sealB (t : List UInt8) : List UInt8 := padB t ++ [UInt8.ofNat (smW t / 256), UInt8.ofNat (smW t % 256)]
theorem smW_le (t : List UInt8) : smW t ≤ 65535 := by unfold smW; omega
theorem sealB_len {t : List UInt8} (h : t.length ≤ 254) : (sealB t).length = 256 := by unfold sealB; rw [List.length_append, padB_len h]; rfl
theorem sm_seal {t : List UInt8} (h : t.length ≤ 254) : sm (sealB t) = sm t + smW t := by
  have h1 : pr (padB t) = pr t := pr_pad t _
  have hw := smW_le t
  have e1 : (UInt8.ofNat (smW t / 256)).toNat = smW t / 256 := by simp; omega
  have e2 : (UInt8.ofNat (smW t % 256)).toNat = smW t % 256 := by simp
  have h2 : pr [UInt8.ofNat (smW t / 256), UInt8.ofNat (smW t % 256)] = (smW t / 256, smW t % 256) := by
    simp only [pr, e1, e2, Nat.add_zero]
  unfold sm sealB
  rw [pr_app, padB_len h, if_pos (by decide), h1, h2]
  simp only
  omega
/-- Do bytes fit their sum? -/
def goodB (b : List UInt8) : Bool := fo (sm b) == 65535
theorem seal_good {t : List UInt8} (h : t.length ≤ 254) : goodB (sealB t) = true := by
  unfold goodB
  rw [sm_seal h]
  have h1 := fo_le (sm t)
  unfold smW
  rw [beq_iff_eq]
  unfold fo at h1 ⊢
  by_cases h0 : sm t = 0
  · rw [if_pos h0] at h1 ⊢; rw [h0]; simp
  · rw [if_neg h0] at h1 ⊢
    rw [if_neg (by omega)]
    omega
theorem seal_head {t : List UInt8} {c : UInt8} {r : List UInt8} (h : t = c :: r) : (sealB t).head? = some c := by subst h; rfl
end Go.Proofs.YtnpkfhnhcadgeaaDoor
