/- bytes.Clone, over slices of bytes. -/
import Derived.Test.YtnpkfhnhcadgeaaDoorBase
import Derived.Test.YtnpkfhnhcadgeaaDoorRows
import Derived.Lib.SliceRun
import Derived.Lib.ConvBytes
import Derived.Lib.BufferRead
namespace Go.Proofs.YtnpkfhnhcadgeaaDoor
open Go.RowKit
set_option linter.unusedVariables false
set_option maxRecDepth 100000

theorem elt_u8 : Elt Tryd.prog 29 5 (.int .u8 0) 1 1 := ⟨Tryd.underlying29, by kernel_rfl, rfl, by decide, by decide⟩

theorem Elt.one {P : Program} {t e : Nat} {z : Value} {sz by_ : Nat} (h : Elt P t e z sz by_) : (P.info? e).map (·.size) = some sz := by
  obtain ⟨_, hi, _⟩ := h
  obtain ⟨i, hi, _, hs, _⟩ := info_parts hi
  simp [hi, hs]

set_option maxHeartbeats 400000 in
theorem clone_some {R : Ending → World → Prop} {w : World} {N : List Nat} {ad : Addr} {n c : Nat} {xs : List Value} (hr : Rd w N (some ad) xs) (h1 : ∀ u ∈ xs, u.oneCell' = true) (hl : xs.length = n) (hn : n ≤ 1000000)
    (h : ∀ g c' w', w.heap.size ≤ g → Ow w' 5 1 (some ⟨g, 0, none⟩) n c' xs → Kp [] w w' → R (.returned (.slice (some ⟨g, 0, none⟩) n c')) w') :
    Calls Tryd.prog 37 #[.slice (some ad) n c] w R := by
  have hq := fun W => Lib.run_eql_slice_nil (P := Tryd.prog) W 29 5 (some ad) n c 0 0 Tryd.underlying29
  have H := Lib.hid h
  have HL := Lib.hid hl
  clear h hl
  go_enter Tryd.func37, Tryd.ntmps37
  go_wp2_with (at_builtin; refine wpList_app _ rfl (.tmp 5) (.tmp 6) _ rfl elt_u8 _ 0 0 [] rfl (Ow.lit w _ 1 #[] 0 (by decide) rfl) N (some ad) n c xs rfl (hr.below (Kp.below_nil ((Kp.refl _ _).alloc _))) (by rw [HL.out, Nat.mul_one]) h1 (by omega) ?_; intro A' c' w' ho hk hA)
  rcases hA with rfl | rfl
  · exact H.out _ _ _ (Nat.le_refl _) (ho.cast (Nat.zero_add n) (List.nil_append xs)) (((Kp.refl [] w).alloc _).thn hk (by simp [bks]))
  · exact H.out _ _ _ (by simp) (ho.cast (Nat.zero_add n) (List.nil_append xs)) (((Kp.refl [] w).alloc _).thn hk (by simp [bks]))

/-! ### strings and bytes -/
section
variable {w w' a : World} {S N : List Nat}
theorem conv_sb (W : World) (s : ByteArray) : (convert 9 29 (.string s)).run Tryd.prog W = .ok (.slice (some ⟨W.heap.size, 0, none⟩) s.size (grownCap W s.size 0 5)) (Lib.bytesWorld W 5 s) :=
  Lib.run_convert_string_bytes W _ _ _ s Tryd.underlying9 Tryd.underlying29 Tryd.underlying5
theorem Kp.bytesWorld (h : Kp S a w) (e : Nat) (s : ByteArray) : Kp S a (Lib.bytesWorld w e s) :=
  ⟨h.os, h.tape, h.output, by rw [Lib.bytesWorld_size]; have := h.size; omega, fun k hk hn => (Lib.bytesWorld_at_old w e s k (Nat.lt_of_lt_of_le hk h.size)).trans (h.block k hk hn)⟩
theorem rd_bytesWorld (w : World) (e : Nat) (s : ByteArray) {g : Nat} (hg : g = w.heap.size) (hN : g ∉ N) : Rd (Lib.bytesWorld w e s) N (some ⟨g, 0, none⟩) (bts s.data.toList) := fun _ =>
  ⟨g, 0, rfl, hN, by rw [Lib.bytesWorld_size]; omega, fun j u hu => by
    subst hg
    rw [bts_get] at hu
    have hj : j < s.size := by
      rcases Nat.lt_or_ge j s.size with h | h
      · exact h
      · rw [List.getElem?_eq_none (by simpa using h)] at hu; cases hu
    rw [Nat.zero_add, Lib.bytesWorld_cell w e s j hj]
    have hj' : j < s.data.toList.length := by simpa using hj
    rw [List.getElem?_eq_getElem hj'] at hu
    rw [← hu]
    have e2 : s.data[j]? = some s.data[j] := Array.getElem?_eq_getElem hj
    simp [List.getD, e2]⟩
theorem conv_bs {A : Option Addr} {n c : Nat} {l : List UInt8} (hr : Rd w N A (bts l)) (hl : l.length = n) : (convert 29 9 (.slice A n c)).run Tryd.prog w = .ok (.string ⟨l.toArray⟩) w := by
  subst hl
  rcases A with _ | ad
  · have e : l = [] := by
      cases l with
      | nil => rfl
      | cons x l => obtain ⟨_, _, h, _⟩ := hr (by simp [bts]); cases h
    subst e
    exact Lib.run_convert_nil_bytes w _ _ _ c Tryd.underlying29 Tryd.underlying5 Tryd.underlying9
  · refine run_convert_bytes_back w _ _ _ ad c l Tryd.underlying29 Tryd.underlying5 Tryd.underlying9 fun j hj => ?_
    obtain ⟨ad', h, hc⟩ := hr.src (by intro e; simp [bts] at e; subst e; simp at hj)
    cases h
    exact hc j _ (by rw [bts_get, List.getElem?_eq_getElem hj]; rfl)
end
end Go.Proofs.YtnpkfhnhcadgeaaDoor
