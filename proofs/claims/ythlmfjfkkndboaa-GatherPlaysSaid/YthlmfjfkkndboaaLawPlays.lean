/- FramePlays walked. -/
import Derived.Test.YthlmfjfkkndboaaRDoA
import Derived.Test.YthlmfjfkkndboaaShows
namespace Go.Proofs.Ythlmfjfkkndboaa
open Go.RowKit Go.ChangeShapes Go.WideShapes Go.ChangeAt Go.Deep
set_option linter.unusedVariables false
set_option linter.unusedSimpArgs false
set_option maxRecDepth 100000
section
variable {H : Type} {enc : TypeId × Value → H} {W : World}
def okA (a : Ac) : Prop := a.s.size ≤ maxLen ∧ -9223372036854775808 ≤ a.o ∧ a.o ≤ 9223372036854775807
theorem opn_act2 : Opn enc Try.prog W 33 Ac.vals okA := ⟨fun fuel cs x h => by
  obtain ⟨xs, n, _, _, hlen, hxl, hg⟩ := DataW.trod_struct Try.underlying33 h
  have hK : Try.prog.cellsOf 33 = 6 := by kernel_rfl
  have hI : Try.prog.cellsOf 3 = 1 := by kernel_rfl
  have hS : Try.prog.cellsOf 9 = 1 := by kernel_rfl
  rw [hK] at hlen
  match cs, hlen with
  | [c0, c1, c2, c3, c4, c5], _ =>
    obtain ⟨m0, rfl, _⟩ := fld_int hg hxl 0 rfl hI Try.underlying3 rfl
    obtain ⟨m1, rfl, _⟩ := fld_int hg hxl 1 rfl hI Try.underlying3 rfl
    obtain ⟨m2, rfl, _⟩ := fld_int hg hxl 2 rfl hI Try.underlying3 rfl
    obtain ⟨m3, rfl, w3⟩ := fld_int hg hxl 3 rfl hI Try.underlying3 rfl
    obtain ⟨m4, rfl, _⟩ := fld_int hg hxl 4 rfl hI Try.underlying3 rfl
    obtain ⟨m5, rfl, hm⟩ := fld_string hg hxl 5 rfl hS Try.underlying9 rfl
    have b3 := bounds_i64 w3
    exact ⟨⟨m0, m1, m2, m3, m4, m5⟩, rfl, hm, b3.1, b3.2⟩⟩
theorem opn_acts2 : Opn enc Try.prog W 22 (Sin.vals (α := Ac)) (Sin.ok W Ac.vals okA) :=
  opn_slice (K := 6) Try.underlying22 (by kernel_rfl) (fun _ => rfl) opn_act2
end
section
variable {R : Ending → World → Prop} {w : World}
/-- Every frame is nobody's or an environment's. -/
def Own2 (fs : List Fr) : Prop := ∀ x ∈ fs, x.ow = 0 ∨ envB x.ow = true
theorem Own2.turn {fs fs' : List Fr} {a : Ac} (h : Own2 fs) (t : Turn fs a fs') : Own2 fs' := by
  rcases t with rfl | ⟨i, x, x', hx, rfl, _, t⟩
  · exact h
  · intro y hy
    rcases mem_set hy with rfl | hy
    · have hxo := h x (List.mem_of_getElem? hx)
      rcases t with ⟨_, _, he, rfl⟩ | ⟨_, _, _, ho, he, ⟨_, _, rfl⟩ | ⟨_, _, hn, rfl⟩ | ⟨_, _, rfl⟩ | ⟨_, rfl⟩⟩ | ⟨_, _, _, _, _, rfl⟩
      · exact .inr he
      · exact .inl rfl
      · exact .inr hn
      · exact hxo
      · exact hxo
      · exact hxo
    · exact h y hy
end
end Go.Proofs.Ythlmfjfkkndboaa
