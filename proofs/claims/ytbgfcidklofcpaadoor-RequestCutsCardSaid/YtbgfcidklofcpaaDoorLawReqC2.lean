/- RequestCuts: the slice as it came in. -/
import Derived.Test.YtbgfcidklofcpaaDoorLawReqC
import Derived.Test.YtbgfcidklofcpaaDoorOpen
namespace Go.Proofs.YtbgfcidklofcpaaDoor
open Go.RowKit Go.Shelf
set_option linter.unusedVariables false
set_option linter.unusedSimpArgs false
set_option maxRecDepth 100000

theorem flat_u16 (l : List Int) : l.flatMap (fun n => [Value.int .u16 n]) = l.map fun n => Value.int .u16 n := by
  induction l with
  | nil => rfl
  | cons n l ih => rw [List.flatMap_cons, ih]; rfl
theorem cuts_walk2 {R : Ending → World → Prop} (s : List UInt8) (cs : List Int) {A0 : Option Addr} {n0 c0 : Nat} (w : World) (hm : Ml w) (hr : Rd w [] A0 (cs.map fun n => .int .u16 n)) (e : cs.length = n0) (hcs : ∀ n ∈ cs, 0 ≤ n ∧ n ≤ 65535)
    (hs : s.length ≤ 9223372036854775807) (hcl : n0 ≤ 9223372036854775807) (h : ∀ w', Kp [] w w' → R (.returned (.bool true)) w') :
    Calls Tryd.prog 4 #[.string (S s), .slice A0 n0 c0] w R := by
  subst e
  exact cuts_walk s cs w hm hr hcs hs hcl h
end Go.Proofs.YtbgfcidklofcpaaDoor
