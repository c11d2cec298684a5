/- Kernel.Arrive where the first filter takes all; Depart; the kernel's own. -/
import Derived.Test.YtogipajanbgenaaKp
namespace Go.Proofs.Ytogipajanbgenaa
open Go.RowKit Go.Shelf
set_option linter.unusedVariables false
set_option linter.unusedSimpArgs false
set_option maxRecDepth 100000
section
variable {R : Ending → World → Prop} {w : World} {B m : Nat} {a : KA} {k : KS}
set_option maxHeartbeats 1000000 in
theorem ktab_any (hK : Kn w B a k) (h : R (.returned (.pointer (some ⟨a.bT, 0, none⟩))) w) : Calls Try.prog 36 #[.pointer (some ⟨a.g, 0, none⟩)] w R := by
  have c0 : w.cell? ⟨a.g, 0, none⟩ = some (.pointer (some ⟨a.bT, 0, none⟩)) := hK.cell 0
  clear hK
  go_enter Try.func36, Try.ntmps36
  go_wp2
  exact h
set_option maxHeartbeats 1000000 in
theorem kown_any (hK : Kn w B a k) (env f : Int) (he : env ≠ 0) (h : R (.returned (.bool (tOwner k.fs f == env))) w) : Calls Try.prog 38 #[.pointer (some ⟨a.g, 0, none⟩), .int .i64 env, .int .i64 f] w R := by
  have hb : (env != 0) = true := by simp [he]
  have HK := Lib.hid hK
  have H := Lib.hid h
  clear hK he h
  cases ho : (tOwner k.fs f == env) with
  | false =>
    go_enter Try.func38, Try.ntmps38
    go_wp2_with (first | (go_at_call 36; refine ktab_any HK.out ?_) | (go_at_call 72; ((refine owner_any HK.out.t f ?_); intro n hn; have hon : (n == env) = false := by rw [← hn.out]; exact ho)))
    exact rcast H.out (by rw [ho]; rfl)
  | true =>
    go_enter Try.func38, Try.ntmps38
    go_wp2_with (first | (go_at_call 36; refine ktab_any HK.out ?_) | (go_at_call 72; ((refine owner_any HK.out.t f ?_); intro n hn; have hon : (n == env) = true := by rw [← hn.out]; exact ho)))
    exact rcast H.out (by rw [ho]; rfl)
end
end Go.Proofs.Ytogipajanbgenaa
