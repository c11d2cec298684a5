/- A scope whose one label is jumped to from ahead: the rest behind the label is walked at each jump. -/
import Derived.Test.YtnpkfhnhcadgeaaDoorBase
import Derived.ScopeJumps
import Derived.WalkMore
namespace Go.Proofs.YtnpkfhnhcadgeaaDoor
open Go.RowKit
set_option linter.unusedVariables false

theorem wp_scope_fwd {P : Program} {a : Act} {w : World} {fn : Func} {R : Ending → World → Prop} {c rest : Code} (l : Nat) (hf : findLabel c l = some rest)
    (h : ∀ J : Act → World → Prop, Hid (∀ a w, rest.wp P (bodyPost P fn R) a w → J a w) → c.wp P (Exit.jump l J (bodyPost P fn R)) a w) : (Code.scope c).wp P (bodyPost P fn R) a w :=
  wp_scope_jumps l (fun a w => rest.wp P (bodyPost P fn R) a w) (fun _ _ => 0) hf (h _ (Lib.hid fun _ _ h => h)) (fun a w hJ => wp_mono hJ (fun e a' w' hq => by
    cases e with
    | goto l' => exact hq.elim
    | _ => exact hq))
end Go.Proofs.YtnpkfhnhcadgeaaDoor
