/- inode: all, block, Root.may, PackRoot. -/
import Derived.Test.YtnpkfhnhcadgeaaDoorIn2
namespace Go.Proofs.YtnpkfhnhcadgeaaDoor
open Go.RowKit
set_option linter.unusedVariables false
set_option linter.unusedSimpArgs false
set_option maxRecDepth 100000
theorem gen_worldI {P : Program} {c : Code} {Q : Exit → Act → World → Prop} {a : Act} {W : World} (Pr : World → Prop) (h : Pr W) (hk : ∀ W', Pr W' → Code.wp P c Q a W') : Code.wp P c Q a W := hk W h
theorem get_ltI {α : Type} {l : List α} {k : Nat} (hk : k < l.length) : ∃ x, l[k]? = some x ∧ x ∈ l := ⟨l[k], List.getElem?_eq_getElem hk, List.getElem_mem hk⟩
theorem take_snocI {α : Type} {l : List α} {i : Nat} {x : α} (hx : l[i]? = some x) : l.take (i + 1) = l.take i ++ [x] := by rw [List.take_add_one, hx]; rfl
def iv (v : Int) : List Value := [.int .i64 v]
def blkB (v : Int) : Bool := decide (2 ≤ v ∧ v < 512)
section
variable {R : Ending → World → Prop} {w w' : World}
set_option maxHeartbeats 1000000 in
theorem block_any (v : Int) (h : R (.returned (.bool (blkB v))) w) : Calls Tryd.prog 32 #[.int .i64 v] w R := by
  have H := Lib.hid h
  clear h
  by_cases h2 : 2 ≤ v
  · by_cases h5 : v < 512
    · have e : blkB v = true := by simp [blkB, h2, h5]
      rw [e] at H
      go_enter Tryd.func32, Tryd.ntmps32
      go_wp2
      exact H.out
    · have e : blkB v = false := by simp [blkB, h2, h5]
      rw [e] at H
      go_enter Tryd.func32, Tryd.ntmps32
      go_wp2
      exact H.out
  · have e : blkB v = false := by simp [blkB, h2]
    rw [e] at H
    go_enter Tryd.func32, Tryd.ntmps32
    go_wp2
    exact H.out
set_option maxHeartbeats 2000000 in
theorem alli_any {A : Option Addr} {n c : Nat} {l : List Int} (hr : Rd w [] A (l.flatMap iv)) (hl : l.length = n) (hn : n ≤ 1000000) (h : ∀ w', Kp [] w w' → R (.returned (.bool (l.all blkB))) w') :
    Calls Tryd.prog 41 #[.slice A n c, .func (.func 32) #[] #[]] w R := by
  have H := Lib.hid h
  have HL := Lib.hid hl
  have HR := Lib.hid hr
  clear h hl hr
  go_enter Tryd.func41, Tryd.ntmps41
  go_wp2
  go_loopw [9] (fun jv wr => ∃ k : Nat, k ≤ n ∧ jv = .int .i64 k ∧ Hid (Kp [] w wr) ∧ Hid ((l.take k).all blkB = true)) (fun jv _ => n - (intOf jv).toNat)
  case atStart => exact ⟨0, Nat.zero_le _, rfl, Lib.hid (Kp.refl _ _), Lib.hid (by simp)⟩
  case round =>
    obtain ⟨k, hk, rfl, kr, hg⟩ := hrel
    by_cases hlt : k < n
    · obtain ⟨x, hx, hm⟩ := get_ltI (l := l) (k := k) (by have := HL.out; omega)
      obtain ⟨b, off, rfl, _, hbl, hc⟩ := rd_at (F := iv) (K := 1) (HR.out.kp kr.out (by simp)) (fun _ => rfl) (by omega) hx
      have c0 := hc 0 _ rfl
      rw [Nat.add_zero, Nat.mul_one] at c0
      have HX := Lib.hid hx
      have HM := Lib.hid hm
      clear hc hx hm
      cases hb : blkB x with
      | true =>
        have HN : Hid ((l.take (k + 1)).all blkB = true) := Lib.hid (by rw [take_snocI HX.out, List.all_append, hg.out]; simp [hb])
        go_wp2_with (go_at_call 32; (refine block_any _ ?_; rw [hb]))
        exact ⟨⟨k + 1, by omega, by go_num, kr, HN⟩, by simp [intOf]; omega⟩
      | false =>
        have hv : l.all blkB = false := by
          cases h : l.all blkB with
          | false => rfl
          | true => have := List.all_eq_true.1 h x HM.out; rw [hb] at this; cases this
        rw [hv] at H
        clear hv
        go_wp2_with (go_at_call 32; (refine block_any _ ?_; rw [hb]))
        exact H.out _ kr.out
    · obtain rfl : k = n := by omega
      have hv : l.all blkB = true := by have := hg.out; rwa [List.take_of_length_le (by have := HL.out; omega)] at this
      rw [hv] at H
      clear hv
      go_wp2
      exact H.out _ kr.out
def rootB (gen : Int) (l : List Int) : Bool := decide (1 ≤ gen ∧ gen ≤ 1073741824 ∧ l.length ≤ 4) && l.all blkB
set_option maxHeartbeats 2000000 in
theorem rmay_any (gen : Int) {A : Option Addr} {n c : Nat} {l : List Int} (hr : Rd w [] A (l.flatMap iv)) (hl : l.length = n) (h : ∀ w', Kp [] w w' → R (.returned (.bool (rootB gen l))) w') :
    Calls Tryd.prog 25 #[.agg #[.int .i64 gen, .slice A n c]] w R := by
  have H := Lib.hid h
  have hk := fun o => (Kp.refl [] w).alloc o
  have HAll : Hid (n ≤ 4 → ∀ (R : Ending → World → Prop) (w1 : World), Kp [] w w1 → (∀ w', Kp [] w1 w' → R (.returned (.bool (l.all blkB))) w') → Calls Tryd.prog 41 #[.slice A n c, .func (.func 32) #[] #[]] w1 R) := Lib.hid (fun hn R w1 k1 h => alli_any (hr.kp k1 (by simp)) hl (by omega) h)
  have HL := Lib.hid hl
  clear h hr hl
  by_cases h1 : 1 ≤ gen
  · by_cases h2 : gen ≤ 1073741824
    · by_cases h4 : n ≤ 4
      · have e : rootB gen l = l.all blkB := by simp [rootB, h1, h2, HL.out, h4]
        rw [e] at H
        clear e
        obtain ⟨t, ht⟩ : ∃ t, l.all blkB = t := ⟨_, rfl⟩
        rw [ht] at H HAll
        go_enter Tryd.func25, Tryd.ntmps25
        go_wp2_with (go_at_call 41; (refine HAll.out h4 _ _ ((Kp.refl _ _).alloc _) ?_; intro w2 k2))
        exact H.out _ ((hk _).trans k2)
      · have e : rootB gen l = false := by simp [rootB, HL.out, h4]
        rw [e] at H
        go_enter Tryd.func25, Tryd.ntmps25
        go_wp2
        exact H.out _ (hk _)
    · have e : rootB gen l = false := by simp [rootB, h2]
      rw [e] at H
      go_enter Tryd.func25, Tryd.ntmps25
      go_wp2
      exact H.out _ (hk _)
  · have e : rootB gen l = false := by simp [rootB, h1]
    rw [e] at H
    go_enter Tryd.func25, Tryd.ntmps25
    go_wp2
    exact H.out _ (hk _)
end
end Go.Proofs.YtnpkfhnhcadgeaaDoor
