/- Kernel.Arrive where the first filter takes all; Depart; the kernel's own. -/
import Derived.Test.YthlmfjfkkndboaaKp
namespace Go.Proofs.Ythlmfjfkkndboaa
open Go.RowKit Go.Shelf
set_option linter.unusedVariables false
set_option linter.unusedSimpArgs false
set_option maxRecDepth 100000
section
variable {R : Ending → World → Prop} {w : World} {B m : Nat} {a : KA} {k : KS}
set_option maxHeartbeats 1000000 in
theorem ktab_any (hK : Kn w B a k) (h : R (.returned (.pointer (some ⟨a.bT, 0, none⟩))) w) : Calls Try.prog 31 #[.pointer (some ⟨a.g, 0, none⟩)] w R := by
  have c0 : w.cell? ⟨a.g, 0, none⟩ = some (.pointer (some ⟨a.bT, 0, none⟩)) := hK.cell 0
  clear hK
  go_enter Try.func31, Try.ntmps31
  go_wp2
  exact h
end
end Go.Proofs.Ythlmfjfkkndboaa
