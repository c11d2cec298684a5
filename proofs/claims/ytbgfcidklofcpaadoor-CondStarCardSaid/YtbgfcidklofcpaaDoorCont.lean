/- How a span is told: ranges.Content, None; the document's. -/
import Derived.Test.YtbgfcidklofcpaaDoorDig
import Derived.Test.YtbgfcidklofcpaaDoorQuiet
import Derived.BigQuiet
namespace Go.Proofs.YtbgfcidklofcpaaDoor
open Go.RowKit Go.Shelf
set_option linter.unusedVariables false
set_option linter.unusedSimpArgs false
set_option maxRecDepth 100000

def itoaL (v : Int) : List UInt8 := Lib.itoa v
theorem itoaL_nat (n : Nat) : itoaL n = decL n := by unfold itoaL Lib.itoa decL; rw [if_neg (by omega), Int.toNat_natCast]
theorem itoaL_neg (n : Nat) (h : 0 < n) : itoaL (-(n : Int)) = 45 :: decL n := by unfold itoaL Lib.itoa decL; rw [if_pos (by omega)]; simp
theorem itoaL_len (v : Int) (h0 : -9223372036854775807 ≤ v) (h1 : v ≤ 9223372036854775807) : (itoaL v).length ≤ 21 := by
  by_cases h : 0 ≤ v
  · obtain ⟨n, rfl⟩ : ∃ n : Nat, v = n := ⟨v.toNat, by omega⟩
    rw [itoaL_nat]; have := decL_len20 (n := n) (by omega); omega
  · obtain ⟨n, rfl⟩ : ∃ n : Nat, v = -(n : Int) := ⟨(-v).toNat, by omega⟩
    rw [itoaL_neg n (by omega)]; have := decL_len20 (n := n) (by omega); simp; omega
theorem itoa_all {R : Ending → World → Prop} (v : Int) (w : World) (h0 : -9223372036854775808 ≤ v) (h1 : v ≤ 9223372036854775807) (hw : Lw w) (h : ∀ w', Kp [] w w' → R (.returned (.string (S (itoaL v)))) w') : Calls Tryd.prog 36 #[.int .i64 v] w R := by
  refine (Tryd.strconv_Itoa v h0 h1 w hw.pw).mono fun e w' ⟨he, k, os, hw'⟩ => ?_
  subst he; subst hw'
  exact h _ (((Kp.refl _ _).drewN _).grow _)
theorem wrap_ok {v : Int} (h0 : -9223372036854775808 ≤ v) (h1 : v ≤ 9223372036854775807) : IntKind.i64.wrap v = v := by
  first | (simp only [IntKind.wrap, wrap64]; omega) | (simp [IntKind.wrap, IntKind.signed, IntKind.bits]; omega) | (unfold IntKind.wrap; simp; omega)
def contL (f l n : Int) : List UInt8 := 98 :: 121 :: 116 :: 101 :: 115 :: 32 :: (itoaL f ++ 45 :: (itoaL (f + l - 1) ++ 47 :: itoaL n))
end Go.Proofs.YtbgfcidklofcpaaDoor
