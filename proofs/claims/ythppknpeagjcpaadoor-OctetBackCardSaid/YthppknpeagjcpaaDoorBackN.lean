/- Plain law: a MAC comes back from how it is told. -/
import Derived.Test.YthppknpeagjcpaaDoorBackM
namespace Go.Proofs.YthppknpeagjcpaaDoor
open Go.RowKit Go.Shelf
set_option linter.unusedVariables false
set_option maxRecDepth 100000

theorem pmF_hex (a k : Nat) (h : k < 16) : pmF a (hexD k) = a * 16 % 281474976710656 + k := by
  have : ∀ n : Fin 16, Lib.indexByte hexK (hexD n.1) = n.1 := by decide +kernel
  have e := this ⟨k, h⟩
  simp only at e
  unfold pmF
  rw [e, if_pos (by omega)]; simp
theorem pmF_colon (a : Nat) : pmF a 58 = a := by
  have : Lib.indexByte hexK 58 = -1 := by decide +kernel
  unfold pmF
  rw [this, if_neg (by omega)]
theorem pmF_two (a : Nat) (c : UInt8) (r : List UInt8) (ha : a < 1099511627776) : ((hexL c ++ r).foldl pmF a) = r.foldl pmF (a * 256 + c.toNat) := by
  have := c.toNat_lt
  unfold hexL
  simp only [List.cons_append, List.nil_append, List.foldl_cons]
  rw [pmF_hex _ _ (by omega), pmF_hex _ _ (by omega)]
  congr 1
  omega
theorem pm_mac (n : Nat) (hn : n < 281474976710656) : pmV (macL n) = (n, 0) := by
  have hp : pmA (macL n) = n := by
    unfold pmA macL macP Lib.join
    have e : ∀ a b c d e f : UInt8, [58].intercalate (List.map hexL [a, b, c, d, e, f]) = hexL a ++ (58 :: (hexL b ++ (58 :: (hexL c ++ (58 :: (hexL d ++ (58 :: (hexL e ++ (58 :: (hexL f ++ [])))))))))) := by
      intros; simp [List.intercalate]
    simp only [putL]
    rw [e]
    have ht : ∀ x : Nat, (UInt8.ofNat x).toNat = x % 256 := by intro x; simp
    rw [pmF_two _ _ _ (by omega), List.foldl_cons, pmF_colon, pmF_two _ _ _ (by simp only [ht]; omega), List.foldl_cons, pmF_colon, pmF_two _ _ _ (by simp only [ht]; omega), List.foldl_cons, pmF_colon, pmF_two _ _ _ (by simp only [ht]; omega), List.foldl_cons, pmF_colon, pmF_two _ _ _ (by simp only [ht]; omega), List.foldl_cons, pmF_colon, pmF_two _ _ _ (by simp only [ht]; omega), List.foldl_nil]
    simp only [ht]
    omega
  unfold pmV
  rw [hp, if_pos rfl]
end Go.Proofs.YthppknpeagjcpaaDoor
