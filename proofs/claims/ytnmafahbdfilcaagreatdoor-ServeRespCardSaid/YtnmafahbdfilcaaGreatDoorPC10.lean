/- respond: lengths of parts; a line that is added; the tag of any version. -/
import Derived.Test.YtnmafahbdfilcaaGreatDoorPC9
import Derived.Test.YtnmafahbdfilcaaGreatDoorPC7
import Derived.Deep.RegionHeldLaw
namespace Go.Proofs.YtnmafahbdfilcaaGreatDoor
/-! ### respond: lengths of parts; a line that is added; the tag of any version. -/
section
open Go.RowKit Go.Shelf
set_option linter.unusedVariables false
set_option linter.unusedSimpArgs false
set_option maxRecDepth 100000
theorem Bl.cast {w0 W : World} {b : Nat} {l l' : List UInt8} (h : Bl w0 W b l) (e : l = l') : Bl w0 W b l' := e ▸ h
def okPt (p : Pt) : Prop := p.1.length ≤ 1000 ∧ 0 ≤ p.2.2 ∧ p.2.2 ≤ 35184372088832
theorem sum_take {l : List Pt} {k : Nat} {x : Pt} (hx : l[k]? = some x) : sumG (l.take (k + 1)) = sumG (l.take k) + ((x.1.length : Int) + x.2.2) := by
  rw [List.take_add_one, hx]; simp [sumG]
theorem sum_bd : ∀ (l : List Pt), (∀ p ∈ l, okPt p) → 0 ≤ sumG l ∧ sumG l ≤ l.length * 35184372089832
  | [], _ => by simp [sumG]
  | p :: l, h => by
    have h1 := sum_bd l (fun q hq => h q (by simp [hq]))
    have h2 := h p (by simp)
    unfold okPt at h2
    have e : sumG (p :: l) = ((p.1.length : Int) + p.2.2) + sumG l := by simp [sumG]
    rw [e]
    simp only [List.length_cons]
    omega
section
variable {R : Ending → World → Prop} {w : World}
set_option maxHeartbeats 2000000 in
theorem glen_any (l : List Pt) {A : Option Addr} {n c : Nat} (hr : Rd w [] A (l.flatMap ptV)) (hl : l.length = n) (hn : n ≤ 100) (hok : ∀ p ∈ l, okPt p)
    (h : ∀ w', Kp [] w w' → R (.returned (.int .i64 (sumG l))) w') : Calls Tryz.prog 83 #[.slice A n c] w R := by
  have H := Lib.hid h
  have HR := Lib.hid hr
  have HO := Lib.hid hok
  have HL := Lib.hid hl
  clear h hr hok hl
  go_enter Tryz.func83, Tryz.ntmps83
  go_wp2
  go_loopw [3, 8] (fun sv iv wr => ∃ (k : Nat) (s : Int), k ≤ n ∧ iv = .int .i64 k ∧ sv = .int .i64 s ∧ 0 ≤ s ∧ s ≤ k * 35184372089832 ∧ Hid (s = sumG (l.take k)) ∧ Kp [] w wr) (fun _ iv _ => n - (intOf iv).toNat)
  case atStart => exact ⟨0, 0, Nat.zero_le _, rfl, rfl, by omega, by omega, Lib.hid (by simp [sumG]), Kp.refl _ _⟩
  case round =>
    obtain ⟨k, s, hk, rfl, rfl, s0, s1, hs, kr⟩ := hrel
    by_cases hlt : k < n
    · obtain ⟨⟨pt, pf, pl⟩, hp⟩ : ∃ p, l[k]? = some p := ⟨_, List.getElem?_eq_getElem (by have := HL.out; omega)⟩
      obtain ⟨b, off, rfl, _, _, hc⟩ := rd_at (HR.out.kp kr (by simp)) ptV_len (by omega) hp
      have y0 : wr.cell? ⟨b, off + k * 3, none⟩ = some (.string (S pt)) := hc 0 _ rfl
      have y1 : wr.cell? ⟨b, off + k * 3 + 1, none⟩ = some (.int .i64 pf) := hc 1 _ rfl
      have y2 : wr.cell? ⟨b, off + k * 3 + 2, none⟩ = some (.int .i64 pl) := hc 2 _ rfl
      have hop := HO.out _ (List.mem_of_getElem? hp)
      unfold okPt at hop
      obtain ⟨o1, o2, o3⟩ := hop
      simp only at o1 o2 o3
      have x1 : IntKind.i64.wrap ((pt.length : Int) + pl) = pt.length + pl := by first | (simp only [IntKind.wrap, wrap64]; omega) | (simp [IntKind.wrap, IntKind.signed, IntKind.bits]; omega)
      have x2 : IntKind.i64.wrap (s + ((pt.length : Int) + pl)) = s + (pt.length + pl) := by first | (simp only [IntKind.wrap, wrap64]; omega) | (simp [IntKind.wrap, IntKind.signed, IntKind.bits]; omega)
      have HS : Hid (s + ((pt.length : Int) + pl) = sumG (l.take (k + 1))) := Lib.hid (by rw [sum_take hp, hs.out])
      clear hc hp hs
      go_wp2
      exact ⟨⟨k + 1, _, by omega, by go_num, rfl, by omega, by omega, HS, kr.alloc _⟩, by simp [intOf]; omega⟩
    · obtain rfl : k = n := by omega
      have e : sumG (l.take k) = sumG l := by rw [List.take_of_length_le (by have := HL.out; omega)]
      rw [e] at hs
      have HS := hs.out
      clear e hs
      subst HS
      go_wp2
      exact H.out _ kr
/-- A line is added, if it is so. -/
theorem add2_any {w0 W : World} {b : Nat} {l n v : List UInt8} (is : Bool) (h : Bl w0 W b l) (hl : l.length ≤ 50000) (hn : n.length ≤ 1000) (hv : v.length ≤ 1000)
    (hk : ∀ W' l', Bl w0 W' b l' → Hid (l' = l ++ hdrB is n v) → l'.length ≤ l.length + n.length + v.length + 4 → R (.returned (.tuple #[])) W') :
    Calls Tryz.prog 79 #[.pointer (some ⟨b, 0, none⟩), .bool is, .string (S n), .string (S v)] W R := by
  refine add_any is h (by omega) (by omega) (by omega) (fun W' b' => ?_)
  refine hk W' _ b' (Lib.hid (by cases is <;> simp [hdrB, hdr])) ?_
  cases is <;> simp <;> omega
theorem tag_wide (v m : Int) (w : World) (hv : 0 ≤ v ∧ v ≤ 9223372036854775807) (hm : 0 ≤ m ∧ m ≤ 9223372036854775807) (hw : Lw w) (h : ∀ w', Kp [] w w' → R (.returned (.string (S (tagL v m)))) w') : Calls Tryz.prog 63 #[.int .i64 v, .int .i64 m] w R := by
  have H := Lib.hid h
  obtain ⟨v0, v1⟩ := hv
  obtain ⟨m0, m1⟩ := hm
  have e1 := itoaL_len v (by omega) (by omega)
  have e2 := itoaL_len m (by omega) (by omega)
  clear h
  go_enter Tryz.func63, Tryz.ntmps63
  go_wp2_with (first | (go_at_call 77; ((refine itoa_all _ _ (by omega) (by omega) hw ?_); intro w1 k1)) | (go_at_call 109; ((refine fmt_any _ _ (by omega) (by omega) (hw.kp k1) ?_); intro w2 k2)))
  exact H.out _ (k1.trans k2)
end
end
end Go.Proofs.YtnmafahbdfilcaaGreatDoor
