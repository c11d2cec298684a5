/- Drawn regions whose callees write nowhere but in blocks of their own: the class of worlds that keep all there was. -/
import Derived.Test.YtnpkfhnhcadgeaaDoorBase
import Derived.Deep.QuietTactic
namespace Go.Proofs.YtnpkfhnhcadgeaaDoor
open Go.RowKit
set_option linter.unusedVariables false

def KpX (w : World) : Type := {w' : World // Kp [] w w'}
instance (w : World) : Nonempty (KpX w) := ⟨⟨w, Kp.refl [] w⟩⟩
def kpw (w : World) (x : KpX w) : World := x.1
theorem kpw_kp (w : World) (x : KpX w) : Kp [] w (kpw w x) := x.2
@[go_sem] theorem kpw_cell {w : World} {x : KpX w} {p : Addr} (h : (w.cell? p).isSome = true) : (kpw w x).cell? p = w.cell? p := by
  obtain ⟨u, hu⟩ := Option.isSome_iff_exists.1 h
  exact (kpw_kp w x).cell (World.block_lt_of_cell? w p hu) (by simp)

theorem wp_region_kp {P : Program} {id : Nat} {Q : Exit → Act → World → Prop} {a : Act} {w : World} {l : List Oper} (hm : P.follows .mixedOrders = true) (hB : Region.lexB .any l.toArray = true)
    (h : wpQuiet P l.toArray (fun w' => ∃ x : KpX w, w' = kpw w x) (fun a' => ∀ w', Kp [] w w' → Q .normal a' w') l a) : (Code.region id l.toArray true).wp P Q a w :=
  wp_region_quiet (C := fun w' => ∃ x : KpX w, w' = kpw w x) hm hB ⟨⟨_, (Kp.refl [] w).drew⟩, rfl⟩ (by
    have e : (fun a' : Act => ∀ w', Kp [] w w' → Q .normal a' w') = (fun a' => ∀ w', (∃ x : KpX w, w' = kpw w x) → Q .normal a' w') := by
      funext a'; apply propext
      exact ⟨fun h w' ⟨x, hx⟩ => by rw [hx]; exact h _ x.2, fun h w' hw => h w' ⟨⟨w', hw⟩, rfl⟩⟩
    rw [← e]; simpa using h)
theorem kpx_mk {w w' : World} {x : KpX w} {v : Value} (h : Kp [] (kpw w x) w') : (Ending.returned v = Ending.returned v) ∧ ∃ y : KpX w, w' = kpw w y := ⟨rfl, ⟨w', (kpw_kp w x).trans h⟩, rfl⟩
end Go.Proofs.YtnpkfhnhcadgeaaDoor
