/- bytes.Clone, over slices of bytes. -/
import Derived.Test.YtjjigngighneeaaDoorBase
import Derived.Test.YtjjigngighneeaaDoorRows
import Derived.Lib.SliceRun
import Derived.Lib.ConvBytes
import Derived.Lib.BufferRead
namespace Go.Proofs.YtjjigngighneeaaDoor
open Go.RowKit
set_option linter.unusedVariables false
set_option maxRecDepth 100000

theorem elt_u8 : Elt Tryd.prog 73 5 (.int .u8 0) 1 1 := ⟨Tryd.underlying73, by kernel_rfl, rfl, by decide, by decide⟩

theorem Elt.one {P : Program} {t e : Nat} {z : Value} {sz by_ : Nat} (h : Elt P t e z sz by_) : (P.info? e).map (·.size) = some sz := by
  obtain ⟨_, hi, _⟩ := h
  obtain ⟨i, hi, _, hs, _⟩ := info_parts hi
  simp [hi, hs]

/-! ### strings and bytes -/
section
variable {w w' a : World} {S N : List Nat}
theorem conv_sb (W : World) (s : ByteArray) : (convert 9 73 (.string s)).run Tryd.prog W = .ok (.slice (some ⟨W.heap.size, 0, none⟩) s.size (grownCap W s.size 0 5)) (Lib.bytesWorld W 5 s) :=
  Lib.run_convert_string_bytes W _ _ _ s Tryd.underlying9 Tryd.underlying73 Tryd.underlying5
theorem Kp.bytesWorld (h : Kp S a w) (e : Nat) (s : ByteArray) : Kp S a (Lib.bytesWorld w e s) :=
  ⟨h.os, h.tape, h.output, by rw [Lib.bytesWorld_size]; have := h.size; omega, fun k hk hn => (Lib.bytesWorld_at_old w e s k (Nat.lt_of_lt_of_le hk h.size)).trans (h.block k hk hn)⟩
theorem rd_bytesWorld (w : World) (e : Nat) (s : ByteArray) {g : Nat} (hg : g = w.heap.size) (hN : g ∉ N) : Rd (Lib.bytesWorld w e s) N (some ⟨g, 0, none⟩) (bts s.data.toList) := fun _ =>
  ⟨g, 0, rfl, hN, by rw [Lib.bytesWorld_size]; omega, fun j u hu => by
    subst hg
    rw [bts_get] at hu
    have hj : j < s.size := by
      rcases Nat.lt_or_ge j s.size with h | h
      · exact h
      · rw [List.getElem?_eq_none (by simpa using h)] at hu; cases hu
    rw [Nat.zero_add, Lib.bytesWorld_cell w e s j hj]
    have hj' : j < s.data.toList.length := by simpa using hj
    rw [List.getElem?_eq_getElem hj'] at hu
    rw [← hu]
    have e2 : s.data[j]? = some s.data[j] := Array.getElem?_eq_getElem hj
    simp [List.getD, e2]⟩
theorem conv_bs {A : Option Addr} {n c : Nat} {l : List UInt8} (hr : Rd w N A (bts l)) (hl : l.length = n) : (convert 73 9 (.slice A n c)).run Tryd.prog w = .ok (.string ⟨l.toArray⟩) w := by
  subst hl
  rcases A with _ | ad
  · have e : l = [] := by
      cases l with
      | nil => rfl
      | cons x l => obtain ⟨_, _, h, _⟩ := hr (by simp [bts]); cases h
    subst e
    exact Lib.run_convert_nil_bytes w _ _ _ c Tryd.underlying73 Tryd.underlying5 Tryd.underlying9
  · refine run_convert_bytes_back w _ _ _ ad c l Tryd.underlying73 Tryd.underlying5 Tryd.underlying9 fun j hj => ?_
    obtain ⟨ad', h, hc⟩ := hr.src (by intro e; simp [bts] at e; subst e; simp at hj)
    cases h
    exact hc j _ (by rw [bts_get, List.getElem?_eq_getElem hj]; rfl)
end
end Go.Proofs.YtjjigngighneeaaDoor
