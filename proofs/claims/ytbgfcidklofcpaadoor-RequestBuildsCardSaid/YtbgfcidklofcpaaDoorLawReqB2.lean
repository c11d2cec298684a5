/- RequestBuilds: the slices as they came in. -/
import Derived.Test.YtbgfcidklofcpaaDoorLawReqB
namespace Go.Proofs.YtbgfcidklofcpaaDoor
open Go.RowKit Go.Shelf
set_option linter.unusedVariables false
set_option linter.unusedSimpArgs false
set_option maxRecDepth 100000

/-- The same, the slices as they came in. -/
theorem flat_strs (l : List ByteArray) : l.flatMap (fun s => [Value.string s]) = strs (l.map (fun s => s.data.toList)) := by
  induction l with
  | nil => rfl
  | cons s l ih =>
    rw [List.flatMap_cons, ih]
    show Value.string s :: _ = Value.string (S s.data.toList) :: _
    rw [← S_eta s]; rfl
theorem builds_walk2 {R : Ending → World → Prop} (head : Bool) (t : List UInt8) (ns vs : List (List UInt8)) {A1 A2 : Option Addr} {n1 n2 c1 c2 : Nat} (w : World) (hm : Ml w) (r1 : Rd w [] A1 (strs ns)) (r2 : Rd w [] A2 (strs vs)) (e1 : ns.length = n1) (e2 : vs.length = n2)
    (ht : t.length ≤ 9223372036854775807) (h1 : n1 ≤ 9223372036854775807) (h2 : n2 ≤ 9223372036854775807) (hb1 : ∀ x ∈ ns, x.length ≤ 9223372036854775807) (hb2 : ∀ x ∈ vs, x.length ≤ 9223372036854775807)
    (h : ∀ w', Kp [] w w' → R (.returned (.bool true)) w') :
    Calls Tryd.prog 5 #[.bool head, .string (S t), .slice A1 n1 c1, .slice A2 n2 c2] w R := by
  subst e1; subst e2
  exact builds_walk head t ns vs w hm r1 r2 ht h1 h2 hb1 hb2 h
theorem bound_strs {l : List ByteArray} (h : ∀ s ∈ l, s.size ≤ maxLen) : ∀ x ∈ l.map (fun s => s.data.toList), x.length ≤ 9223372036854775807 := by
  intro x hx
  obtain ⟨s, hs, rfl⟩ := List.mem_map.1 hx
  have := h s hs
  unfold maxLen at this
  have e : s.data.toList.length = s.size := by rw [Array.length_toList]; rfl
  omega
end Go.Proofs.YtbgfcidklofcpaaDoor
