/- Package ranges: a spec is read, a span is made of it. -/
import Derived.Test.YtjjigngighneeaaDoorItems
import Derived.Test.YtjjigngighneeaaDoorLex2
import Derived.Deep.CutBlock
import Derived.BigQuiet
import Derived.BigRegion
namespace Go.Proofs.YtjjigngighneeaaDoor
open Go.RowKit Go.Shelf
set_option linter.unusedVariables false
set_option linter.unusedSimpArgs false
set_option maxRecDepth 100000

def mostR : Int := 1099511627776
/-- The places of a spec's two texts, -1 where none is told. -/
def readPQ (p q : List UInt8) : Option (Int × Int) :=
  if p = [] ∧ q = [] then none else
  if p ≠ [] ∧ (numR p mostR).2 = false then none else
  if q ≠ [] ∧ (numR q mostR).2 = false then none else
  if p = [] then some (-1, (numR q mostR).1) else
  if q = [] then some ((numR p mostR).1, -1) else
  if (numR p mostR).1 ≤ (numR q mostR).1 then some ((numR p mostR).1, (numR q mostR).1) else none
def readM (l : List UInt8) : Option (Int × Int) := if l.contains 45 then readPQ (bef 45 l) (aft 45 l) else none
theorem numR_bd (l : List UInt8) : 0 ≤ (numR l mostR).1 ∧ (numR l mostR).1 ≤ mostR := by
  unfold numR
  split
  · rename_i h; simp only [Bool.and_eq_true, decide_eq_true_eq] at h; exact ⟨by omega, h.2⟩
  · unfold mostR; simp
theorem numR_nil : numR [] mostR = (0, false) := rfl
/-- The span of a spec in a file of n bytes. -/
def spanM (x : Int × Int) (n : Int) : Int × Int :=
  if x.1 < 0 then (max (n - x.2) 0, max (n - max (n - x.2) 0) 0)
  else if 0 ≤ x.2 then (x.1, max (min (x.2 + 1) n - x.1) 0) else (x.1, max (n - x.1) 0)
theorem number_m {R : Ending → World → Prop} (l : List UInt8) (v : Int) (b : Bool) (w : World) (hl : l.length ≤ 1000000) (hv : numR l mostR = (v, b)) (h : R (.returned (.tuple #[.int .i64 v, .bool b])) w) : Calls Tryd.prog 75 #[.string (S l), .int .i64 1099511627776] w R := by
  have h2 : R (.returned (numV (numR l mostR))) w := by rw [hv]; exact h
  exact number_any l mostR w hl (by decide) (by decide) h2
def specV (a b : Int) : Value := .agg #[.int .i64 a, .int .i64 b]
theorem gen_world {P : Program} {c : Code} {Q : Exit → Act → World → Prop} {a : Act} {W : World} (Pr : World → Prop) (h : Pr W) (hk : ∀ W', Pr W' → Code.wp P c Q a W') : Code.wp P c Q a W := hk W h
theorem pq0 : readPQ [] [] = none := by unfold readPQ; simp
theorem pq1 {q : List UInt8} {y : Int} (hq : q ≠ []) (h : numR q mostR = (y, false)) : readPQ [] q = none := by unfold readPQ; simp [hq, h]
theorem pq2 {q : List UInt8} {y : Int} (hq : q ≠ []) (h : numR q mostR = (y, true)) : readPQ [] q = some (-1, y) := by unfold readPQ; simp [hq, h]
theorem pq3 {p q : List UInt8} {x : Int} (hp : p ≠ []) (h : numR p mostR = (x, false)) : readPQ p q = none := by unfold readPQ; simp [hp, h]
theorem pq4 {p : List UInt8} {x : Int} (hp : p ≠ []) (h : numR p mostR = (x, true)) : readPQ p [] = some (x, -1) := by unfold readPQ; simp [hp, h]
theorem pq5 {p q : List UInt8} {x y : Int} (hp : p ≠ []) (hq : q ≠ []) (h : numR p mostR = (x, true)) (h2 : numR q mostR = (y, false)) : readPQ p q = none := by unfold readPQ; simp [hp, h, hq, h2]
theorem pq6 {p q : List UInt8} {x y : Int} (hp : p ≠ []) (hq : q ≠ []) (h : numR p mostR = (x, true)) (h2 : numR q mostR = (y, true)) : readPQ p q = if x ≤ y then some (x, y) else none := by unfold readPQ; simp [hp, h, hq, h2]
end Go.Proofs.YtjjigngighneeaaDoor
