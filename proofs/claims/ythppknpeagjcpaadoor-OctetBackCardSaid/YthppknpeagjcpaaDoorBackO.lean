/- Plain law: an address comes back from how it is told. -/
import Derived.Test.YthppknpeagjcpaaDoorOct4
namespace Go.Proofs.YthppknpeagjcpaaDoor
open Go.RowKit Go.Shelf
set_option linter.unusedVariables false
set_option maxRecDepth 100000

theorem spl_cons_app {c : UInt8} {p r : List UInt8} (h : p.contains c = false) : spl c (p ++ c :: r) = p :: spl c r := by
  induction p with
  | nil => simp [spl]
  | cons x p ih =>
    rw [List.contains_cons, Bool.or_eq_false_iff] at h
    have e : ¬ x = c := by have := h.1; simp at this; exact Ne.symm this
    rw [List.cons_append, spl, if_neg e, ih h.2]; rfl
theorem spl_alone {c : UInt8} {p : List UInt8} (h : p.contains c = false) : spl c p = [p] := by
  rw [spl_eq, h]; rfl
theorem d3_facts (n : Nat) (h : n < 256) : (d3 n).contains 46 = false ∧ wn ((d3 n).take 4) = n := by
  have : ∀ n : Fin 256, (d3 n.1).contains 46 = false ∧ wn ((d3 n.1).take 4) = (n.1 : Int) := by decide +kernel
  exact this ⟨n, h⟩
theorem pip_ip (a : Nat) (ha : a < 4294967296) : pipV (ipL a) = (a, 0) := by
  have h3 := d3_facts (a / 16777216 % 256) (by omega)
  have h2 := d3_facts (a / 65536 % 256) (by omega)
  have h1 := d3_facts (a / 256 % 256) (by omega)
  have h0 := d3_facts (a % 256) (by omega)
  have hp : pipA (ipL a) = a := by
    unfold pipA ipL ipP Lib.join
    have e : [46].intercalate [d3 (a / 16777216 % 256), d3 (a / 65536 % 256), d3 (a / 256 % 256), d3 (a % 256)] = d3 (a / 16777216 % 256) ++ 46 :: (d3 (a / 65536 % 256) ++ 46 :: (d3 (a / 256 % 256) ++ 46 :: d3 (a % 256))) := by
      simp [List.intercalate]
    rw [e, spl_cons_app h3.1, spl_cons_app h2.1, spl_cons_app h1.1, spl_alone h0.1]
    simp only [List.foldl_cons, List.foldl_nil, stepA, h3.2, h2.2, h1.2, h0.2]
    omega
  unfold pipV
  rw [hp, if_pos rfl]
end Go.Proofs.YthppknpeagjcpaaDoor
