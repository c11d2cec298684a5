/- Package respond: reasons; dates that are none; the document's Print. The document's Reason; lengths of parts; None. append as a step of a drawn region. -/
import Derived.Test.YtnmafahbdfilcaaGreatDoorPC3
import Derived.Test.YtnmafahbdfilcaaGreatDoorPC6
import Derived.Deep.QuietTactic
import Derived.Test.YtnmafahbdfilcaaGreatDoorPC1
namespace Go.Proofs.YtnmafahbdfilcaaGreatDoor
/-! ### Package respond: reasons; dates that are none; the document's Print. -/
section
open Go.RowKit
set_option linter.unusedVariables false
set_option linter.unusedSimpArgs false
set_option maxRecDepth 100000

def rCodes : List Int := [200, 206, 304, 400, 404, 405, 412, 414, 416, 431, 501, 505]
def rTexts : List (List UInt8) := [[79, 75], [80, 97, 114, 116, 105, 97, 108, 32, 67, 111, 110, 116, 101, 110, 116], [78, 111, 116, 32, 77, 111, 100, 105, 102, 105, 101, 100], [66, 97, 100, 32, 82, 101, 113, 117, 101, 115, 116], [78, 111, 116, 32, 70, 111, 117, 110, 100], [77, 101, 116, 104, 111, 100, 32, 78, 111, 116, 32, 65, 108, 108, 111, 119, 101, 100], [80, 114, 101, 99, 111, 110, 100, 105, 116, 105, 111, 110, 32, 70, 97, 105, 108, 101, 100], [85, 82, 73, 32, 84, 111, 111, 32, 76, 111, 110, 103], [82, 97, 110, 103, 101, 32, 78, 111, 116, 32, 83, 97, 116, 105, 115, 102, 105, 97, 98, 108, 101], [82, 101, 113, 117, 101, 115, 116, 32, 72, 101, 97, 100, 101, 114, 32, 70, 105, 101, 108, 100, 115, 32, 84, 111, 111, 32, 76, 97, 114, 103, 101], [78, 111, 116, 32, 73, 109, 112, 108, 101, 109, 101, 110, 116, 101, 100], [72, 84, 84, 80, 32, 86, 101, 114, 115, 105, 111, 110, 32, 78, 111, 116, 32, 83, 117, 112, 112, 111, 114, 116, 101, 100]]
def unkL : List UInt8 := [85, 110, 107, 110, 111, 119, 110]
def rsnL (n : Int) : List UInt8 := if n = 200 then rTexts[0] else if n = 206 then rTexts[1] else if n = 304 then rTexts[2] else if n = 400 then rTexts[3] else if n = 404 then rTexts[4] else if n = 405 then rTexts[5] else if n = 412 then rTexts[6] else if n = 414 then rTexts[7] else if n = 416 then rTexts[8] else if n = 431 then rTexts[9] else if n = 501 then rTexts[10] else if n = 505 then rTexts[11] else unkL
theorem rsn_cases (n : Int) : (n = 200 ∨ n = 206 ∨ n = 304 ∨ n = 400 ∨ n = 404 ∨ n = 405 ∨ n = 412 ∨ n = 414 ∨ n = 416 ∨ n = 431 ∨ n = 501 ∨ n = 505) ∨ (¬ n = 200 ∧ ¬ n = 206 ∧ ¬ n = 304 ∧ ¬ n = 400 ∧ ¬ n = 404 ∧ ¬ n = 405 ∧ ¬ n = 412 ∧ ¬ n = 414 ∧ ¬ n = 416 ∧ ¬ n = 431 ∧ ¬ n = 501 ∧ ¬ n = 505) := by omega
theorem rsn_len (n : Int) : (rsnL n).length ≤ 40 := by
  rcases rsn_cases n with (rfl | rfl | rfl | rfl | rfl | rfl | rfl | rfl | rfl | rfl | rfl | rfl) | ⟨h0, h1, h2, h3, h4, h5, h6, h7, h8, h9, h10, h11⟩
  all_goals first | decide | (simp only [rsnL, h0, h1, h2, h3, h4, h5, h6, h7, h8, h9, h10, h11, if_false]; decide)
set_option maxHeartbeats 2000000 in
theorem reason_any {R : Ending → World → Prop} (n : Int) (w : World) (h : R (.returned (.string (S (rsnL n)))) w) : Calls Tryz.prog 16 #[.int .i64 n] w R := by
  have H := Lib.hid h
  clear h
  rcases rsn_cases n with (rfl | rfl | rfl | rfl | rfl | rfl | rfl | rfl | rfl | rfl | rfl | rfl) | ⟨h0, h1, h2, h3, h4, h5, h6, h7, h8, h9, h10, h11⟩
  all_goals
    go_enter Tryz.func16, Tryz.ntmps16
    go_wp2
    first | exact H.out | exact rcast H.out (by simp only [rsnL, h0, h1, h2, h3, h4, h5, h6, h7, h8, h9, h10, h11, if_false]; rfl)
theorem maybad_any {R : Ending → World → Prop} (n : Int) (w : World) (hn : n < 0 ∨ 253402300799 < n) (h : R (.returned (.bool false)) w) : Calls Tryz.prog 142 #[.int .i64 n] w R := by
  have H := Lib.hid h
  clear h
  rcases hn with hn | hn
  · go_enter Tryz.func142, Tryz.ntmps142
    go_wp2
    exact H.out
  · have hb : decide (n ≤ 253402300799) = false := by simp; omega
    go_enter Tryz.func142, Tryz.ntmps142
    go_wp2
    exact H.out
theorem cofbad_any {R : Ending → World → Prop} (n : Int) (w : World) (hn : n < 0 ∨ 253402300799 < n) (h : ∀ w', Kp [] w w' → R (.returned (.tuple #[.agg #[.int .i64 0, .int .i64 0, .int .i64 0, .int .i64 0, .int .i64 0, .int .i64 0, .int .i64 0], .int .i64 1])) w') : Calls Tryz.prog 115 #[.int .i64 n] w R := by
  have H := Lib.hid h
  clear h
  go_enter Tryz.func115, Tryz.ntmps115
  go_wp2_with (go_at_call 142; (refine maybad_any n _ hn ?_))
  exact bodyPost_ret (v := .tuple #[.agg #[.int .i64 0, .int .i64 0, .int .i64 0, .int .i64 0, .int .i64 0, .int .i64 0, .int .i64 0], .int .i64 1]) (by simp [results, Tryz.results115, go_sem]; try rfl) rfl (H.out _ ((Kp.refl _ _).alloc _))
set_option maxHeartbeats 1000000 in
theorem printbad_any {R : Ending → World → Prop} (n : Int) (w : World) (hn : n < 0 ∨ 253402300799 < n) (h : ∀ w', Kp [] w w' → R (.returned (.tuple #[.string (S []), .int .i64 1])) w') : Calls Tryz.prog 67 #[.int .i64 n] w R := by
  have H := Lib.hid h
  clear h
  go_enter Tryz.func67, Tryz.ntmps67
  go_wp2_with (go_at_call 115; ((refine cofbad_any n _ hn ?_); intro w1 k1))
  exact H.out _ (by repeat first | exact k1 | refine Kp.alloc ?_ _)
/-- What is told of a second. -/
def mayB (n : Int) : Bool := decide (0 ≤ n) && decide (n ≤ 253402300799)
def Told (n : Int) (D : List UInt8) : Prop := ∃ (y m d hh mi s wd : Nat) (a b : List UInt8), CivN n y m d hh mi s wd ∧ wdN[wd]? = some a ∧ moN[m - 1]? = some b ∧ D = prL y m d hh mi s a b
theorem told_len {n : Int} {D : List UInt8} (h : Told n D) (h0 : 0 ≤ n) (h1 : n ≤ 253402300799) : D.length ≤ 200 := by
  obtain ⟨y, m, d, hh, mi, s, wd, a, b, c, ha, hb, rfl⟩ := h
  have ld := digL_len d 2 (by have := c.d1; have := lenM_31 y m; omega) (by omega)
  have ly := digL_len y 4 (by have := c.y1; omega) (by omega)
  have lh := digL_len hh 2 (by have := c.eh; omega) (by omega)
  have lm := digL_len mi 2 (by have := c.emi; omega) (by omega)
  have ls := digL_len s 2 (by have := c.es; omega) (by omega)
  have la : a.length ≤ 3 := by
    have := List.mem_of_getElem? ha
    simp only [wdN, List.mem_cons, List.not_mem_nil, or_false] at this
    rcases this with rfl | rfl | rfl | rfl | rfl | rfl | rfl <;> simp
  have lb : b.length ≤ 3 := by
    have := List.mem_of_getElem? hb
    simp only [moN, List.mem_cons, List.not_mem_nil, or_false] at this
    rcases this with rfl | rfl | rfl | rfl | rfl | rfl | rfl | rfl | rfl | rfl | rfl | rfl <;> simp
  unfold prL
  simp only [List.length_append, List.length_cons, List.length_nil]
  omega
/-- The program's Print, either way: the text D is told, or none. -/
theorem print_both {R : Ending → World → Prop} (n : Int) (w : World) (hw : Lw w) (h : ∀ D e w', Kp [] w w' → (mayB n = true → Told n D ∧ e = 0) → (mayB n = false → D = [] ∧ e = 1) → R (.returned (.tuple #[.string (S D), .int .i64 e])) w') : Calls Tryz.prog 67 #[.int .i64 n] w R := by
  by_cases hm : 0 ≤ n ∧ n ≤ 253402300799
  · refine print_any n w hm.1 hm.2 hw ?_
    intro y m d hh mi s wd a b c ha hb w' k
    exact h _ _ _ k (fun _ => ⟨⟨y, m, d, hh, mi, s, wd, a, b, c, ha, hb, rfl⟩, rfl⟩) (fun h2 => by simp [mayB, hm] at h2)
  · refine printbad_any n w (by omega) ?_
    intro w' k
    exact h _ _ _ k (fun h2 => by simp [mayB] at h2; omega) (fun _ => ⟨rfl, rfl⟩)
end
/-! ### The document's Reason; lengths of parts; None. -/
section
open Go.RowKit
set_option linter.unusedVariables false
set_option linter.unusedSimpArgs false
set_option maxRecDepth 100000

theorem rsn_at {n : Int} {k : Nat} {c : Int} (hc : rCodes[k]? = some c) (h : n = c) : rTexts[k]? = some (rsnL n) := by
  have hk : k < 12 := (List.getElem?_eq_some_iff.1 hc).1
  rcases (by omega : k = 0 ∨ k = 1 ∨ k = 2 ∨ k = 3 ∨ k = 4 ∨ k = 5 ∨ k = 6 ∨ k = 7 ∨ k = 8 ∨ k = 9 ∨ k = 10 ∨ k = 11) with rfl | rfl | rfl | rfl | rfl | rfl | rfl | rfl | rfl | rfl | rfl | rfl <;> (simp [rCodes] at hc; subst hc; subst h; rfl)
theorem rsn_none {n : Int} (h : ∀ (k : Nat) (c : Int), rCodes[k]? = some c → ¬ n = c) : rsnL n = unkL := by
  have a0 := h 0 _ rfl
  have a1 := h 1 _ rfl
  have a2 := h 2 _ rfl
  have a3 := h 3 _ rfl
  have a4 := h 4 _ rfl
  have a5 := h 5 _ rfl
  have a6 := h 6 _ rfl
  have a7 := h 7 _ rfl
  have a8 := h 8 _ rfl
  have a9 := h 9 _ rfl
  have a10 := h 10 _ rfl
  have a11 := h 11 _ rfl
  simp only [rsnL, a0, a1, a2, a3, a4, a5, a6, a7, a8, a9, a10, a11, if_false]
set_option maxHeartbeats 4000000 in
theorem rreason_any {R : Ending → World → Prop} (n : Int) (w : World) (h : ∀ w', Kp [] w w' → R (.returned (.string (S (rsnL n)))) w') : Calls Tryz.prog 93 #[.int .i64 n] w R := by
  have H := Lib.hid h
  clear h
  go_enter Tryz.func93, Tryz.ntmps93
  go_upto_region 3 with (fail)
  refine gen_worldC (fun W => ∃ g, w.heap.size = g ∧ Kp [] w W ∧ Bk W g 3 (rCodes.map (Value.int .i64 ·)) ∧ Bk W (g + 1) 9 (rTexts.map fun t => Value.string (S t))) ⟨_, rfl, ((Kp.refl _ _).alloc _).alloc _, ((Bk.new' _ _ _).alloc _).cast rfl, (Bk.newAt (by simp) _ _).cast rfl⟩ ?_
  rintro W ⟨g, hg, kW, b1, b2⟩
  rw [hg]
  clear hg
  have KW := Lib.hid kW
  have B1 := Lib.hid b1
  have B2 := Lib.hid b2
  clear kW b1 b2
  go_wp2
  go_loopw [5] (fun dv wr => ∃ k : Nat, dv = .int .i64 k ∧ k ≤ 12 ∧ wr = W ∧ Hid (∀ (j : Nat) (c : Int), j < k → rCodes[j]? = some c → ¬ n = c)) (fun dv _ => (12 - intOf dv).toNat)
  case atStart => exact ⟨0, rfl, by omega, rfl, Lib.hid (by intro j c hj; omega)⟩
  case round =>
    obtain ⟨k, rfl, hk, rfl, hno⟩ := hrel
    by_cases hk2 : k < 12
    · obtain ⟨c, hc⟩ : ∃ c, rCodes[k]? = some c := ⟨_, List.getElem?_eq_getElem (by simp [rCodes]; omega)⟩
      have hcell : wr.cell? ⟨g, k, none⟩ = some (.int .i64 c) := by rw [B1.out.cell, List.getElem?_map, hc]; rfl
      by_cases hq : n = c
      · have ht := rsn_at hc hq
        have hcell2 : wr.cell? ⟨g + 1, k, none⟩ = some (.string (S (rsnL n))) := by rw [B2.out.cell, List.getElem?_map, ht]; rfl
        have hqb : (c == n) = true := by simp [hq]
        clear hc ht hno
        obtain ⟨rs, hrs⟩ : ∃ rs, rsnL n = rs := ⟨_, rfl⟩
        rw [hrs] at hcell2
        have HRS := Lib.hid hrs
        clear hrs
        subst hq
        go_wp2
        exact rcast (H.out _ KW.out) (by rw [HRS.out]; rfl)
      · have HN : Hid (∀ (j : Nat) (c : Int), j < k + 1 → rCodes[j]? = some c → ¬ n = c) := Lib.hid (by
          intro j c' hj hj2
          rcases (by omega : j < k ∨ j = k) with h1 | rfl
          · exact hno.out j c' h1 hj2
          · rw [hc] at hj2; injection hj2 with hj2; rw [← hj2]; exact hq)
        have hqb : (c == n) = false := by simp; omega
        have hqc : ¬ c = n := fun e => hq e.symm
        clear hc hno hq
        go_wp2
        exact ⟨⟨k + 1, by first | rfl | (congr 1), by omega, by first | rfl | trivial, HN⟩, by simp [intOf]; omega⟩
    · have hk3 : k = 12 := by omega
      subst hk3
      have HR : Hid (rsnL n = unkL) := Lib.hid (rsn_none (fun k c hc => hno.out k c (List.getElem?_eq_some_iff.1 hc).1 hc))
      clear hno
      go_wp2
      exact rcast (H.out _ KW.out) (by rw [HR.out]; rfl)
set_option maxHeartbeats 1000000 in
theorem rnone_any {R : Ending → World → Prop} (n : Nat) (w : World) (hn : n ≤ 1000000000) (hw : Lw w) (h : ∀ w', Kp [] w w' → R (.returned (.string (S ([98, 121, 116, 101, 115, 32, 42, 47] ++ decL n)))) w') : Calls Tryz.prog 82 #[.int .i64 n] w R := by
  have H := Lib.hid h
  clear h
  have hl := decL_len20 (n := n) (by omega)
  go_enter Tryz.func82, Tryz.ntmps82
  go_wp2_with (go_at_call 77; ((refine itoa_any n _ (by omega) hw ?_); intro w1 k1))
  exact H.out _ k1
def partC (t : List UInt8) : List Value := [.string (S t), .int .i64 0, .int .i64 0]
set_option maxHeartbeats 1000000 in
theorem plen_any {R : Ending → World → Prop} (t : List UInt8) (c : Nat) {A : Option Addr} (w : World) (hr : Rd w [] A (partC t)) (ht : t.length ≤ 100000) (h : ∀ w', Kp [] w w' → R (.returned (.int .i64 t.length)) w') : Calls Tryz.prog 83 #[.slice A 1 c] w R := by
  have H := Lib.hid h
  obtain ⟨b, o, rfl, hn, hb, hc⟩ := hr (by simp [partC])
  have c0 : w.cell? ⟨b, o, none⟩ = some (.string (S t)) := hc 0 _ rfl
  have c1 := hc 1 _ rfl
  have c2 := hc 2 _ rfl
  clear h hc
  go_enter Tryz.func83, Tryz.ntmps83
  go_wp2
  refine wp_loop_rounds 2 ?_
  rw [rounds_succ]
  go_wp2
  rw [rounds_succ]
  go_wp2
  exact rcast (H.out _ ((Kp.refl _ _).alloc _)) rfl
set_option maxHeartbeats 1000000 in
theorem rplen_any {R : Ending → World → Prop} (t : List UInt8) (c : Nat) {A : Option Addr} (w : World) (hr : Rd w [] A (partC t)) (ht : t.length ≤ 100000) (h : ∀ w', Kp [] w w' → R (.returned (.int .i64 t.length)) w') : Calls Tryz.prog 99 #[.slice A 1 c] w R := by
  have H := Lib.hid h
  obtain ⟨b, o, rfl, hn, hb, hc⟩ := hr (by simp [partC])
  have c0 : w.cell? ⟨b, o, none⟩ = some (.string (S t)) := hc 0 _ rfl
  have c1 := hc 1 _ rfl
  have hs1 : IntKind.i64.wrap (t.length : Int) = t.length := wrap_ok (by omega) (by omega)
  have c2 := hc 2 _ rfl
  clear h hc
  go_enter Tryz.func99, Tryz.ntmps99
  go_wp2
  refine wp_loop_rounds 2 ?_
  rw [rounds_succ]
  go_wp2
  go_quiet (fail)
  go_wp2
  rw [rounds_succ]
  go_wp2
  exact rcast (H.out _ (by first | exact Kp.refl _ _ | exact (Kp.refl _ _).alloc _ | exact (Kp.refl _ _).drew | exact (Kp.refl _ _).drewN _)) rfl
end
/-! ### append as a step of a drawn region. -/
section
open Go.RowKit
set_option linter.unusedVariables false
set_option linter.unusedSimpArgs false
set_option maxRecDepth 100000

theorem step_app {P : Program} {ops : Array Oper} {o : Oper} {a : Act} {w : World} {K : Act → World → Prop} {Q : Exit → Act → World → Prop} {E : Prop} (hg : o.guard = none) (s x : Operand) (t : Nat)
    (ho : o.op = .call { callee := .builtin .append, args := #[s, x], argTypes := #[t, t] })
    {e : Nat} {z : Value} {sz by_ : Nat} (hE : Elt P t e z sz by_) (A : Option Addr) (n c : Nat) (xs : List Value) (hs : a.eval s = .slice A n c) (hown : Ow w e sz A n c xs)
    (N : List Nat) (A2 : Option Addr) (m c2 : Nat) (news : List Value) (hx : a.eval x = .slice A2 m c2) (hr : Rd w N A2 news) (hl : news.length = m * sz) (h1 : ∀ u ∈ news, u.oneCell' = true) (hb : n + m ≤ 4294967296)
    (h : ∀ A' c' w', Ow w' e sz A' (n + m) c' (xs ++ news) → Kp (bks A) w w' → (A' = A ∨ A' = some ⟨w.heap.size, 0, none⟩) → K (a.put o.dst (.slice A' (n + m) c')) w') :
    if Region.wanted o (yielded ops a.tmps) = true then Oper.wp P o a w K Q else E := by
  have hw : Region.wanted o (yielded ops a.tmps) = true := by simp [Region.wanted, hg]
  rw [if_pos hw]
  exact wp_app w s x t ho hE A n c xs hs hown N A2 m c2 news hx hr hl h1 hb h
end
end Go.Proofs.YtnmafahbdfilcaaGreatDoor
