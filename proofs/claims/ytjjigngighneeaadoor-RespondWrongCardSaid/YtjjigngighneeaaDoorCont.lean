/- How a span is told: ranges.Content, None; the document's. -/
import Derived.Test.YtjjigngighneeaaDoorDig
import Derived.Test.YtjjigngighneeaaDoorQuiet
import Derived.BigQuiet
namespace Go.Proofs.YtjjigngighneeaaDoor
open Go.RowKit Go.Shelf
set_option linter.unusedVariables false
set_option linter.unusedSimpArgs false
set_option maxRecDepth 100000

def itoaL (v : Int) : List UInt8 := Lib.itoa v
theorem itoaL_nat (n : Nat) : itoaL n = decL n := by unfold itoaL Lib.itoa decL; rw [if_neg (by omega), Int.toNat_natCast]
theorem itoaL_neg (n : Nat) (h : 0 < n) : itoaL (-(n : Int)) = 45 :: decL n := by unfold itoaL Lib.itoa decL; rw [if_pos (by omega)]; simp
theorem itoaL_len (v : Int) (h0 : -9223372036854775807 ≤ v) (h1 : v ≤ 9223372036854775807) : (itoaL v).length ≤ 21 := by
  by_cases h : 0 ≤ v
  · obtain ⟨n, rfl⟩ : ∃ n : Nat, v = n := ⟨v.toNat, by omega⟩
    rw [itoaL_nat]; have := decL_len20 (n := n) (by omega); omega
  · obtain ⟨n, rfl⟩ : ∃ n : Nat, v = -(n : Int) := ⟨(-v).toNat, by omega⟩
    rw [itoaL_neg n (by omega)]; have := decL_len20 (n := n) (by omega); simp; omega
theorem itoa_all {R : Ending → World → Prop} (v : Int) (w : World) (h0 : -9223372036854775808 ≤ v) (h1 : v ≤ 9223372036854775807) (hw : Lw w) (h : ∀ w', Kp [] w w' → R (.returned (.string (S (itoaL v)))) w') : Calls Tryd.prog 35 #[.int .i64 v] w R := by
  refine (Tryd.strconv_Itoa v h0 h1 w hw.pw).mono fun e w' ⟨he, k, os, hw'⟩ => ?_
  subst he; subst hw'
  exact h _ (((Kp.refl _ _).drewN _).grow _)
theorem rdigits_sgn {R : Ending → World → Prop} (v : Int) (w : World) (h0 : -9223372036854775807 ≤ v) (h1 : v ≤ 9223372036854775807) (h : ∀ w', Kp [] w w' → R (.returned (.string (S (itoaL v)))) w') : Calls Tryd.prog 41 #[.int .i64 v] w R := by
  by_cases hv : 0 ≤ v
  · obtain ⟨n, rfl⟩ : ∃ n : Nat, v = n := ⟨v.toNat, by omega⟩
    rw [itoaL_nat] at h
    exact rdigits_any n w (by omega) h
  · obtain ⟨n, rfl⟩ : ∃ n : Nat, v = -(n : Int) := ⟨(-v).toNat, by omega⟩
    rw [itoaL_neg n (by omega)] at h
    have hn : 0 < n := by omega
    have hn2 : n ≤ 9223372036854775807 := by omega
    have hl := decL_len20 hn2
    have H := Lib.hid h
    clear h
    go_enter Tryd.func41, Tryd.ntmps41
    go_wp2_with (go_at_call 41; ((refine rdigits_any n _ hn2 ?_); intro w1 k1))
    exact H.out _ k1
theorem wrap_ok {v : Int} (h0 : -9223372036854775808 ≤ v) (h1 : v ≤ 9223372036854775807) : IntKind.i64.wrap v = v := by
  first | (simp only [IntKind.wrap, wrap64]; omega) | (simp [IntKind.wrap, IntKind.signed, IntKind.bits]; omega) | (unfold IntKind.wrap; simp; omega)
def contL (f l n : Int) : List UInt8 := 98 :: 121 :: 116 :: 101 :: 115 :: 32 :: (itoaL f ++ 45 :: (itoaL (f + l - 1) ++ 47 :: itoaL n))
theorem content_any {R : Ending → World → Prop} (f l n : Int) (w : World) (hf : 0 ≤ f ∧ f ≤ 4294967295) (hl : 0 ≤ l ∧ l ≤ 4294967295) (hn : 0 ≤ n ∧ n ≤ 4294967295) (hw : Lw w)
    (h : ∀ w', Kp [] w w' → R (.returned (.string (S (contL f l n)))) w') : Calls Tryd.prog 67 #[.agg #[.int .i64 f, .int .i64 l], .int .i64 n] w R := by
  have H := Lib.hid h
  obtain ⟨f1, f2⟩ := hf
  obtain ⟨l1, l2⟩ := hl
  obtain ⟨n1, n2⟩ := hn
  have e1 := itoaL_len f (by omega) (by omega)
  have e2 := itoaL_len (f + l - 1) (by omega) (by omega)
  have e3 := itoaL_len n (by omega) (by omega)
  clear h
  have w1 : IntKind.i64.wrap (f + l) = f + l := wrap_ok (by omega) (by omega)
  have w2 : IntKind.i64.wrap (f + l - 1) = f + l - 1 := wrap_ok (by omega) (by omega)
  have HW := Lib.hid (fun o => hw.kp ((Kp.refl [] w).alloc o))
  go_enter Tryd.func67, Tryd.ntmps67
  go_wp2_with fail
  refine wp_region_kp (by kernel_rfl) (by kernel_rfl) ?_
  repeat (quiet_step (first | (go_at_call 35; ((refine itoa_all _ _ (by omega) (by omega) ((HW.out _).kp (kpw_kp _ _)) ?_); intro w' k'; exact kpx_mk k')) | (rw [if_neg (by simp only [List.length_append, List.length_cons, List.length_nil]; omega)]; exact ⟨rfl, rfl⟩) | (rw [if_neg (by omega)]; exact ⟨rfl, rfl⟩)))
  refine wpQuiet_nil ?_
  intro w6 k6
  go_wp2
  exact H.out _ (((Kp.refl _ _).alloc _).trans k6)
end Go.Proofs.YtjjigngighneeaaDoor
