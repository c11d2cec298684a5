/- Calls to a reader that come in. -/
import Derived.Test.YthppknpeagjcpaaDoorOctC
import Derived.Test.YthppknpeagjcpaaDoorOpen
namespace Go.Proofs.YthppknpeagjcpaaDoor
open Go Go.ChangeShapes Go.WideShapes Go.ChangeAt Go.RowKit Go.Deep
set_option linter.unusedVariables false
set_option maxRecDepth 100000

/-- One call. -/
structure EAct where
  n : Int
  num : Bool
def EAct.vals (a : EAct) : List Value := [.int .i64 a.n, .bool a.num]
section
variable {H : Type} {enc : TypeId × Value → H} {W : World}
theorem opn_act : Opn enc Tryd.prog W 53 EAct.vals (fun _ => True) := ⟨fun fuel cs x h => by
  obtain ⟨xs, n, _, _, hlen, hxl, hg⟩ := DataW.trod_struct Tryd.underlying53 h
  have hK : Tryd.prog.cellsOf 53 = 2 := by kernel_rfl
  have hI : Tryd.prog.cellsOf 3 = 1 := by kernel_rfl
  have hB : Tryd.prog.cellsOf 4 = 1 := by kernel_rfl
  rw [hK] at hlen
  match cs, hlen with
  | [c0, c1], _ =>
    obtain ⟨m0, rfl, h0⟩ := fld_int hg hxl 0 rfl hI Tryd.underlying3 rfl
    obtain ⟨y, hy⟩ := fld hg hxl 1 rfl hB (c := c1) rfl
    obtain ⟨b, hb, _⟩ := DataW.trod_bool Tryd.underlying4 hy
    injection hb with hb
    subst hb
    exact ⟨⟨m0, b⟩, rfl, trivial⟩⟩
end
end Go.Proofs.YthppknpeagjcpaaDoor
