/- The library's contracts in the words of these texts. -/
import Derived.Test.YtnpkfhnhcadgeaaDoorPlain
import Derived.Test.YtnpkfhnhcadgeaaDoorShelf
import Derived.Shelf.Vars
namespace Go.Proofs.YtnpkfhnhcadgeaaDoor
open Go.RowKit
set_option linter.unusedVariables false

/-- The library's variable MaxLen holds some number. -/
def Ml (w : World) : Prop := ∃ m, w.cell? ⟨1, 0, none⟩ = some (.int .i64 m)
theorem ml_of_shape {w : World} (h : w.ShapedOpen Tryd.prog) : Ml w :=
  Go.Proofs.cell_of_shapedOpen_int (zero := #[.int .i64 0]) (t := 3) h (of_decide_eq_true (by kernel_rfl)) (by kernel_rfl) rfl (by kernel_rfl) (by kernel_rfl) Tryd.underlying3
theorem Ml.kp {w w' : World} (h : Ml w) (hk : Kp [] w w') : Ml w' := by
  obtain ⟨m, hm⟩ := h
  exact ⟨m, by rw [hk.cell (World.block_lt_of_cell? w _ hm) (by simp)]; exact hm⟩
theorem Ml.kpS {S : List Nat} {w w' : World} (h : Ml w) (hk : Kp S w w') (hS : 1 ∉ S) : Ml w' := by
  obtain ⟨m, hm⟩ := h
  exact ⟨m, by rw [hk.cell (World.block_lt_of_cell? w _ hm) hS]; exact hm⟩
theorem Ml.drewN {w : World} (h : Ml w) (n : Nat) : Ml (w.drewN n) := h
section
variable {R : Ending → World → Prop} {w : World}
/-- A row of strings, as a slice's cells. -/
def strs (ps : List (List UInt8)) : List Value := ps.map fun p => .string (S p)
theorem split_any (l : List UInt8) (c : UInt8) (hm : Ml w) (hl : l.length ≤ 1000000)
    (h : ∀ g w', w.heap.size ≤ g → Bk w' g 9 (strs (spl c l)) → Kp [] w w' → R (.returned (.slice (some ⟨g, 0, none⟩) (spl c l).length (spl c l).length)) w') :
    Calls Tryd.prog 45 #[.string (S l), .string ⟨#[c]⟩] w R := by
  obtain ⟨m, hm⟩ := hm
  refine (Tryd.strings_Split (S l) (S [c]) m w (by rw [S_size]; omega) hm (by rw [S_size]; exact Nat.le_refl 1)).mono fun e w' ⟨he, hw⟩ => ?_
  have hk : Lib.countB (S l) (S [c]) = l.count c := by
    show Lib.count (S l).data.toList (S [c]).data.toList = _
    rw [S_data, S_data, Lib.count_one]
  rw [splitB_spl] at hw
  rw [hk, ← spl_len] at he
  subst he; subst hw
  refine h _ _ (Nat.le_refl _) ?_ ((Kp.refl _ _).alloc _)
  have e : ((spl c l).map S).map Value.string = strs (spl c l) := by simp [strs]
  rw [e]
  exact Bk.new w _ _
end
end Go.Proofs.YtnpkfhnhcadgeaaDoor
