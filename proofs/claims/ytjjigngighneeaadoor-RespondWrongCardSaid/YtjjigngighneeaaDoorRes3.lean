/- The document's Reason; lengths of parts; None. -/
import Derived.Test.YtjjigngighneeaaDoorRes1
import Derived.Deep.QuietTactic
namespace Go.Proofs.YtjjigngighneeaaDoor
open Go.RowKit
set_option linter.unusedVariables false
set_option linter.unusedSimpArgs false
set_option maxRecDepth 100000

theorem rsn_at {n : Int} {k : Nat} {c : Int} (hc : rCodes[k]? = some c) (h : n = c) : rTexts[k]? = some (rsnL n) := by
  have hk : k < 12 := (List.getElem?_eq_some_iff.1 hc).1
  rcases (by omega : k = 0 ∨ k = 1 ∨ k = 2 ∨ k = 3 ∨ k = 4 ∨ k = 5 ∨ k = 6 ∨ k = 7 ∨ k = 8 ∨ k = 9 ∨ k = 10 ∨ k = 11) with rfl | rfl | rfl | rfl | rfl | rfl | rfl | rfl | rfl | rfl | rfl | rfl <;> (simp [rCodes] at hc; subst hc; subst h; rfl)
theorem rsn_none {n : Int} (h : ∀ (k : Nat) (c : Int), rCodes[k]? = some c → ¬ n = c) : rsnL n = unkL := by
  have a0 := h 0 _ rfl
  have a1 := h 1 _ rfl
  have a2 := h 2 _ rfl
  have a3 := h 3 _ rfl
  have a4 := h 4 _ rfl
  have a5 := h 5 _ rfl
  have a6 := h 6 _ rfl
  have a7 := h 7 _ rfl
  have a8 := h 8 _ rfl
  have a9 := h 9 _ rfl
  have a10 := h 10 _ rfl
  have a11 := h 11 _ rfl
  simp only [rsnL, a0, a1, a2, a3, a4, a5, a6, a7, a8, a9, a10, a11, if_false]
set_option maxHeartbeats 4000000 in
theorem rreason_any {R : Ending → World → Prop} (n : Int) (w : World) (h : ∀ w', Kp [] w w' → R (.returned (.string (S (rsnL n)))) w') : Calls Tryd.prog 12 #[.int .i64 n] w R := by
  have H := Lib.hid h
  clear h
  go_enter Tryd.func12, Tryd.ntmps12
  go_upto_region 3 with (fail)
  refine gen_worldC (fun W => ∃ g, w.heap.size = g ∧ Kp [] w W ∧ Bk W g 3 (rCodes.map (Value.int .i64 ·)) ∧ Bk W (g + 1) 9 (rTexts.map fun t => Value.string (S t))) ⟨_, rfl, ((Kp.refl _ _).alloc _).alloc _, ((Bk.new' _ _ _).alloc _).cast rfl, (Bk.newAt (by simp) _ _).cast rfl⟩ ?_
  rintro W ⟨g, hg, kW, b1, b2⟩
  rw [hg]
  clear hg
  have KW := Lib.hid kW
  have B1 := Lib.hid b1
  have B2 := Lib.hid b2
  clear kW b1 b2
  go_wp2
  go_loopw [5] (fun dv wr => ∃ k : Nat, dv = .int .i64 k ∧ k ≤ 12 ∧ wr = W ∧ Hid (∀ (j : Nat) (c : Int), j < k → rCodes[j]? = some c → ¬ n = c)) (fun dv _ => (12 - intOf dv).toNat)
  case atStart => exact ⟨0, rfl, by omega, rfl, Lib.hid (by intro j c hj; omega)⟩
  case round =>
    obtain ⟨k, rfl, hk, rfl, hno⟩ := hrel
    by_cases hk2 : k < 12
    · obtain ⟨c, hc⟩ : ∃ c, rCodes[k]? = some c := ⟨_, List.getElem?_eq_getElem (by simp [rCodes]; omega)⟩
      have hcell : wr.cell? ⟨g, k, none⟩ = some (.int .i64 c) := by rw [B1.out.cell, List.getElem?_map, hc]; rfl
      by_cases hq : n = c
      · have ht := rsn_at hc hq
        have hcell2 : wr.cell? ⟨g + 1, k, none⟩ = some (.string (S (rsnL n))) := by rw [B2.out.cell, List.getElem?_map, ht]; rfl
        have hqb : (c == n) = true := by simp [hq]
        clear hc ht hno
        obtain ⟨rs, hrs⟩ : ∃ rs, rsnL n = rs := ⟨_, rfl⟩
        rw [hrs] at hcell2
        have HRS := Lib.hid hrs
        clear hrs
        subst hq
        go_wp2
        exact rcast (H.out _ KW.out) (by rw [HRS.out]; rfl)
      · have HN : Hid (∀ (j : Nat) (c : Int), j < k + 1 → rCodes[j]? = some c → ¬ n = c) := Lib.hid (by
          intro j c' hj hj2
          rcases (by omega : j < k ∨ j = k) with h1 | rfl
          · exact hno.out j c' h1 hj2
          · rw [hc] at hj2; injection hj2 with hj2; rw [← hj2]; exact hq)
        have hqb : (c == n) = false := by simp; omega
        have hqc : ¬ c = n := fun e => hq e.symm
        clear hc hno hq
        go_wp2
        exact ⟨⟨k + 1, by first | rfl | (congr 1), by omega, by first | rfl | trivial, HN⟩, by simp [intOf]; omega⟩
    · have hk3 : k = 12 := by omega
      subst hk3
      have HR : Hid (rsnL n = unkL) := Lib.hid (rsn_none (fun k c hc => hno.out k c (List.getElem?_eq_some_iff.1 hc).1 hc))
      clear hno
      go_wp2
      exact rcast (H.out _ KW.out) (by rw [HR.out]; rfl)
set_option maxHeartbeats 1000000 in
theorem rnone_any {R : Ending → World → Prop} (n : Nat) (w : World) (hn : n ≤ 1000000000) (hw : Lw w) (h : ∀ w', Kp [] w w' → R (.returned (.string (S ([98, 121, 116, 101, 115, 32, 42, 47] ++ decL n)))) w') : Calls Tryd.prog 68 #[.int .i64 n] w R := by
  have H := Lib.hid h
  clear h
  have hl := decL_len20 (n := n) (by omega)
  go_enter Tryd.func68, Tryd.ntmps68
  go_wp2_with (go_at_call 35; ((refine itoa_any n _ (by omega) hw ?_); intro w1 k1))
  exact H.out _ k1
def partC (t : List UInt8) : List Value := [.string (S t), .int .i64 0, .int .i64 0]
set_option maxHeartbeats 1000000 in
theorem plen_any {R : Ending → World → Prop} (t : List UInt8) (c : Nat) {A : Option Addr} (w : World) (hr : Rd w [] A (partC t)) (ht : t.length ≤ 100000) (h : ∀ w', Kp [] w w' → R (.returned (.int .i64 t.length)) w') : Calls Tryd.prog 69 #[.slice A 1 c] w R := by
  have H := Lib.hid h
  obtain ⟨b, o, rfl, hn, hb, hc⟩ := hr (by simp [partC])
  have c0 : w.cell? ⟨b, o, none⟩ = some (.string (S t)) := hc 0 _ rfl
  have c1 := hc 1 _ rfl
  have c2 := hc 2 _ rfl
  clear h hc
  go_enter Tryd.func69, Tryd.ntmps69
  go_wp2
  refine wp_loop_rounds 2 ?_
  rw [rounds_succ]
  go_wp2
  rw [rounds_succ]
  go_wp2
  exact rcast (H.out _ ((Kp.refl _ _).alloc _)) rfl
set_option maxHeartbeats 1000000 in
theorem rplen_any {R : Ending → World → Prop} (t : List UInt8) (c : Nat) {A : Option Addr} (w : World) (hr : Rd w [] A (partC t)) (ht : t.length ≤ 100000) (h : ∀ w', Kp [] w w' → R (.returned (.int .i64 t.length)) w') : Calls Tryd.prog 47 #[.slice A 1 c] w R := by
  have H := Lib.hid h
  obtain ⟨b, o, rfl, hn, hb, hc⟩ := hr (by simp [partC])
  have c0 : w.cell? ⟨b, o, none⟩ = some (.string (S t)) := hc 0 _ rfl
  have c1 := hc 1 _ rfl
  have hs1 : IntKind.i64.wrap (t.length : Int) = t.length := wrap_ok (by omega) (by omega)
  have c2 := hc 2 _ rfl
  clear h hc
  go_enter Tryd.func47, Tryd.ntmps47
  go_wp2
  refine wp_loop_rounds 2 ?_
  rw [rounds_succ]
  go_wp2
  go_quiet (fail)
  go_wp2
  rw [rounds_succ]
  go_wp2
  exact rcast (H.out _ (by first | exact Kp.refl _ _ | exact (Kp.refl _ _).alloc _ | exact (Kp.refl _ _).drew | exact (Kp.refl _ _).drewN _)) rfl
end Go.Proofs.YtjjigngighneeaaDoor
