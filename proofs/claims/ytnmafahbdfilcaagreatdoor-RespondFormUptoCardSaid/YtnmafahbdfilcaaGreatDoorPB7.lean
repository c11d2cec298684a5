/- Package respond: reasons; dates that are none; the document's Print. A second has one date, and one text. civil: number, before, Seconds. -/
import Derived.Test.YtnmafahbdfilcaaGreatDoorPB3
import Derived.Test.YtnmafahbdfilcaaGreatDoorPB6
import Derived.Test.YtnmafahbdfilcaaGreatDoorPB4
import Derived.BigQuiet
namespace Go.Proofs.YtnmafahbdfilcaaGreatDoor
/-! ### Package respond: reasons; dates that are none; the document's Print. -/
section
open Go.RowKit
set_option linter.unusedVariables false
set_option linter.unusedSimpArgs false
set_option maxRecDepth 100000

def rCodes : List Int := [200, 206, 304, 400, 404, 405, 412, 414, 416, 431, 501, 505]
def rTexts : List (List UInt8) := [[79, 75], [80, 97, 114, 116, 105, 97, 108, 32, 67, 111, 110, 116, 101, 110, 116], [78, 111, 116, 32, 77, 111, 100, 105, 102, 105, 101, 100], [66, 97, 100, 32, 82, 101, 113, 117, 101, 115, 116], [78, 111, 116, 32, 70, 111, 117, 110, 100], [77, 101, 116, 104, 111, 100, 32, 78, 111, 116, 32, 65, 108, 108, 111, 119, 101, 100], [80, 114, 101, 99, 111, 110, 100, 105, 116, 105, 111, 110, 32, 70, 97, 105, 108, 101, 100], [85, 82, 73, 32, 84, 111, 111, 32, 76, 111, 110, 103], [82, 97, 110, 103, 101, 32, 78, 111, 116, 32, 83, 97, 116, 105, 115, 102, 105, 97, 98, 108, 101], [82, 101, 113, 117, 101, 115, 116, 32, 72, 101, 97, 100, 101, 114, 32, 70, 105, 101, 108, 100, 115, 32, 84, 111, 111, 32, 76, 97, 114, 103, 101], [78, 111, 116, 32, 73, 109, 112, 108, 101, 109, 101, 110, 116, 101, 100], [72, 84, 84, 80, 32, 86, 101, 114, 115, 105, 111, 110, 32, 78, 111, 116, 32, 83, 117, 112, 112, 111, 114, 116, 101, 100]]
def unkL : List UInt8 := [85, 110, 107, 110, 111, 119, 110]
def rsnL (n : Int) : List UInt8 := if n = 200 then rTexts[0] else if n = 206 then rTexts[1] else if n = 304 then rTexts[2] else if n = 400 then rTexts[3] else if n = 404 then rTexts[4] else if n = 405 then rTexts[5] else if n = 412 then rTexts[6] else if n = 414 then rTexts[7] else if n = 416 then rTexts[8] else if n = 431 then rTexts[9] else if n = 501 then rTexts[10] else if n = 505 then rTexts[11] else unkL
theorem rsn_cases (n : Int) : (n = 200 ∨ n = 206 ∨ n = 304 ∨ n = 400 ∨ n = 404 ∨ n = 405 ∨ n = 412 ∨ n = 414 ∨ n = 416 ∨ n = 431 ∨ n = 501 ∨ n = 505) ∨ (¬ n = 200 ∧ ¬ n = 206 ∧ ¬ n = 304 ∧ ¬ n = 400 ∧ ¬ n = 404 ∧ ¬ n = 405 ∧ ¬ n = 412 ∧ ¬ n = 414 ∧ ¬ n = 416 ∧ ¬ n = 431 ∧ ¬ n = 501 ∧ ¬ n = 505) := by omega
theorem rsn_len (n : Int) : (rsnL n).length ≤ 40 := by
  rcases rsn_cases n with (rfl | rfl | rfl | rfl | rfl | rfl | rfl | rfl | rfl | rfl | rfl | rfl) | ⟨h0, h1, h2, h3, h4, h5, h6, h7, h8, h9, h10, h11⟩
  all_goals first | decide | (simp only [rsnL, h0, h1, h2, h3, h4, h5, h6, h7, h8, h9, h10, h11, if_false]; decide)
set_option maxHeartbeats 2000000 in
theorem reason_any {R : Ending → World → Prop} (n : Int) (w : World) (h : R (.returned (.string (S (rsnL n)))) w) : Calls Tryz.prog 16 #[.int .i64 n] w R := by
  have H := Lib.hid h
  clear h
  rcases rsn_cases n with (rfl | rfl | rfl | rfl | rfl | rfl | rfl | rfl | rfl | rfl | rfl | rfl) | ⟨h0, h1, h2, h3, h4, h5, h6, h7, h8, h9, h10, h11⟩
  all_goals
    go_enter Tryz.func16, Tryz.ntmps16
    go_wp2
    first | exact H.out | exact rcast H.out (by simp only [rsnL, h0, h1, h2, h3, h4, h5, h6, h7, h8, h9, h10, h11, if_false]; rfl)
theorem maybad_any {R : Ending → World → Prop} (n : Int) (w : World) (hn : n < 0 ∨ 253402300799 < n) (h : R (.returned (.bool false)) w) : Calls Tryz.prog 142 #[.int .i64 n] w R := by
  have H := Lib.hid h
  clear h
  rcases hn with hn | hn
  · go_enter Tryz.func142, Tryz.ntmps142
    go_wp2
    exact H.out
  · have hb : decide (n ≤ 253402300799) = false := by simp; omega
    go_enter Tryz.func142, Tryz.ntmps142
    go_wp2
    exact H.out
theorem cofbad_any {R : Ending → World → Prop} (n : Int) (w : World) (hn : n < 0 ∨ 253402300799 < n) (h : ∀ w', Kp [] w w' → R (.returned (.tuple #[.agg #[.int .i64 0, .int .i64 0, .int .i64 0, .int .i64 0, .int .i64 0, .int .i64 0, .int .i64 0], .int .i64 1])) w') : Calls Tryz.prog 115 #[.int .i64 n] w R := by
  have H := Lib.hid h
  clear h
  go_enter Tryz.func115, Tryz.ntmps115
  go_wp2_with (go_at_call 142; (refine maybad_any n _ hn ?_))
  exact bodyPost_ret (v := .tuple #[.agg #[.int .i64 0, .int .i64 0, .int .i64 0, .int .i64 0, .int .i64 0, .int .i64 0, .int .i64 0], .int .i64 1]) (by simp [results, Tryz.results115, go_sem]; try rfl) rfl (H.out _ ((Kp.refl _ _).alloc _))
set_option maxHeartbeats 1000000 in
theorem printbad_any {R : Ending → World → Prop} (n : Int) (w : World) (hn : n < 0 ∨ 253402300799 < n) (h : ∀ w', Kp [] w w' → R (.returned (.tuple #[.string (S []), .int .i64 1])) w') : Calls Tryz.prog 67 #[.int .i64 n] w R := by
  have H := Lib.hid h
  clear h
  go_enter Tryz.func67, Tryz.ntmps67
  go_wp2_with (go_at_call 115; ((refine cofbad_any n _ hn ?_); intro w1 k1))
  exact H.out _ (by repeat first | exact k1 | refine Kp.alloc ?_ _)
/-- What is told of a second. -/
def mayB (n : Int) : Bool := decide (0 ≤ n) && decide (n ≤ 253402300799)
def Told (n : Int) (D : List UInt8) : Prop := ∃ (y m d hh mi s wd : Nat) (a b : List UInt8), CivN n y m d hh mi s wd ∧ wdN[wd]? = some a ∧ moN[m - 1]? = some b ∧ D = prL y m d hh mi s a b
theorem told_len {n : Int} {D : List UInt8} (h : Told n D) (h0 : 0 ≤ n) (h1 : n ≤ 253402300799) : D.length ≤ 200 := by
  obtain ⟨y, m, d, hh, mi, s, wd, a, b, c, ha, hb, rfl⟩ := h
  have ld := digL_len d 2 (by have := c.d1; have := lenM_31 y m; omega) (by omega)
  have ly := digL_len y 4 (by have := c.y1; omega) (by omega)
  have lh := digL_len hh 2 (by have := c.eh; omega) (by omega)
  have lm := digL_len mi 2 (by have := c.emi; omega) (by omega)
  have ls := digL_len s 2 (by have := c.es; omega) (by omega)
  have la : a.length ≤ 3 := by
    have := List.mem_of_getElem? ha
    simp only [wdN, List.mem_cons, List.not_mem_nil, or_false] at this
    rcases this with rfl | rfl | rfl | rfl | rfl | rfl | rfl <;> simp
  have lb : b.length ≤ 3 := by
    have := List.mem_of_getElem? hb
    simp only [moN, List.mem_cons, List.not_mem_nil, or_false] at this
    rcases this with rfl | rfl | rfl | rfl | rfl | rfl | rfl | rfl | rfl | rfl | rfl | rfl <;> simp
  unfold prL
  simp only [List.length_append, List.length_cons, List.length_nil]
  omega
/-- The program's Print, either way: the text D is told, or none. -/
theorem print_both {R : Ending → World → Prop} (n : Int) (w : World) (hw : Lw w) (h : ∀ D e w', Kp [] w w' → (mayB n = true → Told n D ∧ e = 0) → (mayB n = false → D = [] ∧ e = 1) → R (.returned (.tuple #[.string (S D), .int .i64 e])) w') : Calls Tryz.prog 67 #[.int .i64 n] w R := by
  by_cases hm : 0 ≤ n ∧ n ≤ 253402300799
  · refine print_any n w hm.1 hm.2 hw ?_
    intro y m d hh mi s wd a b c ha hb w' k
    exact h _ _ _ k (fun _ => ⟨⟨y, m, d, hh, mi, s, wd, a, b, c, ha, hb, rfl⟩, rfl⟩) (fun h2 => by simp [mayB, hm] at h2)
  · refine printbad_any n w (by omega) ?_
    intro w' k
    exact h _ _ _ k (fun h2 => by simp [mayB] at h2; omega) (fun _ => ⟨rfl, rfl⟩)
end
/-! ### A second has one date, and one text. -/
section
open Go.RowKit
set_option linter.unusedVariables false
set_option linter.unusedSimpArgs false
theorem befY_le {y y' : Int} (h : y + 1 ≤ y') : befY (y + 1) ≤ befY y' := by unfold befY; omega
theorem cumM_le (y : Int) : ∀ (b a : Nat), a ≤ b → cumM y a ≤ cumM y b
  | 0, a, h => by rw [show a = 0 by omega]; exact Int.le_refl _
  | b + 1, a, h => by
    by_cases e : a = b + 1
    · rw [e]; exact Int.le_refl _
    · have h1 := cumM_le y b a (by omega)
      have h2 : cumM y (b + 1) = cumM y b + lenM y (b + 1) := rfl
      have h3 := (lenM_pos y (b + 1)).1
      omega
theorem civ_fit {n : Int} {y m d hh mi s wd : Nat} (c : CivN n y m d hh mi s wd) : befY y ≤ befY 1970 + n / 86400 ∧ befY 1970 + n / 86400 < befY ((y : Int) + 1) ∧ cumM y (m - 1) ≤ befY 1970 + n / 86400 - befY y ∧ befY 1970 + n / 86400 - befY y < cumM y m := by
  have e := c.he
  have m0 := c.m0
  have m1 := c.m1
  have d0 := c.d0
  have d1 := c.d1
  have h1 := cumM_le y 12 m (by omega)
  have h2 : cumM y m = cumM y (m - 1) + lenM y m := by
    obtain ⟨k, rfl⟩ : ∃ k, m = k + 1 := ⟨m - 1, by omega⟩
    rfl
  have h3 := cumM_le y (m - 1) 0 (by omega)
  have h4 : cumM (y : Int) 0 = 0 := rfl
  have h5 := cumM_12 y
  have h6 := befY_succ y
  refine ⟨by omega, by omega, by omega, by omega⟩
theorem civ_uniq {n : Int} {y m d hh mi s wd y' m' d' hh' mi' s' wd' : Nat} (c : CivN n y m d hh mi s wd) (c' : CivN n y' m' d' hh' mi' s' wd') : y = y' ∧ m = m' ∧ d = d' ∧ hh = hh' ∧ mi = mi' ∧ s = s' ∧ wd = wd' := by
  obtain ⟨a1, a2, a3, a4⟩ := civ_fit c
  obtain ⟨b1, b2, b3, b4⟩ := civ_fit c'
  have hy : y = y' := by
    rcases Nat.lt_trichotomy y y' with h | h | h
    · have := befY_le (y := y) (y' := y') (by omega); omega
    · exact h
    · have := befY_le (y := y') (y' := y) (by omega); omega
  subst hy
  have hm : m = m' := by
    rcases Nat.lt_trichotomy m m' with h | h | h
    · have := cumM_le y (m' - 1) m (by have := c'.m0; omega); omega
    · exact h
    · have := cumM_le y (m - 1) m' (by have := c.m0; omega); omega
  subst hm
  have e := c.he
  have e' := c'.he
  have := c.eh
  have := c'.eh
  have := c.emi
  have := c'.emi
  have := c.es
  have := c'.es
  have := c.ew
  have := c'.ew
  refine ⟨rfl, rfl, by omega, by omega, by omega, by omega, by omega⟩
theorem told_uniq {n : Int} {D D' : List UInt8} (h : Told n D) (h' : Told n D') : D = D' := by
  obtain ⟨y, m, d, hh, mi, s, wd, a, b, c, ha, hb, rfl⟩ := h
  obtain ⟨y', m', d', hh', mi', s', wd', a', b', c', ha', hb', rfl⟩ := h'
  obtain ⟨rfl, rfl, rfl, rfl, rfl, rfl, rfl⟩ := civ_uniq c c'
  rw [ha] at ha'; rw [hb] at hb'
  injection ha' with ha'; injection hb' with hb'
  rw [ha', hb']
end
/-! ### civil: number, before, Seconds. -/
section
open Go.RowKit
set_option linter.unusedVariables false
set_option linter.unusedSimpArgs false
set_option maxRecDepth 100000
/-- A number of digits; -1: it is none. -/
def numF (l : List UInt8) : Int := if l.all digB then (numN l : Int) else -1
theorem numN_bd (l : List UInt8) (h : l.all digB = true) : numN l < 10 ^ l.length := by
  have : ∀ k ≤ l.length, numN (l.take k) < 10 ^ k := by
    intro k
    induction k with
    | zero => intro _; simp [numN]
    | succ k ih =>
      intro hk
      have h1 := ih (by omega)
      rw [List.take_succ_eq_append_getElem (by omega), numN_snoc, Nat.pow_succ]
      have hd := List.all_eq_true.1 h _ (List.getElem_mem (show k < l.length by omega))
      simp [digB] at hd
      omega
  have h2 := this l.length (Nat.le_refl _)
  rwa [List.take_length] at h2
set_option maxHeartbeats 2000000 in
theorem number3_any {R : Ending → World → Prop} (l : List UInt8) (w : World) (hl : l.length ≤ 9) (h : R (.returned (.int .i64 (numF l))) w) : Calls Tryz.prog 138 #[.string (S l)] w R := by
  have H := Lib.hid h
  clear h
  go_enter Tryz.func138, Tryz.ntmps138
  go_wp2
  go_loop [3, 7] (fun v i => ∃ k : Nat, k ≤ l.length ∧ i = .int .i64 k ∧ v = .int .i64 (numN (l.take k) : Nat) ∧ Hid ((l.take k).all digB = true)) (fun _ i => l.length - (intOf i).toNat)
  case atStart => exact ⟨0, Nat.zero_le _, rfl, rfl, Lib.hid rfl⟩
  case round =>
    obtain ⟨k, hk, rfl, rfl, hd⟩ := hrel
    by_cases hlt : k < l.length
    · obtain ⟨c, hc⟩ : ∃ c, l[k]'hlt = c := ⟨_, rfl⟩
      have hcl := c.toNat_lt
      have hb := numN_bd _ hd.out
      have hp : 10 ^ (l.take k).length ≤ 10 ^ 9 := Nat.pow_le_pow_right (by decide) (by simp; omega)
      have hp9 : (10 : Nat) ^ 9 = 1000000000 := by decide
      have ht : l.take (k + 1) = l.take k ++ [c] := by rw [List.take_succ_eq_append_getElem hlt, hc]
      obtain ⟨N, hN⟩ : ∃ N, numN (l.take k) = N := ⟨_, rfl⟩
      have hNb : N < 1000000000 := by omega
      by_cases hdg : digB c = true
      · have hdg2 : 48 ≤ c.toNat ∧ c.toNat ≤ 57 := by simpa [digB] using hdg
        have hA : Hid ((l.take (k + 1)).all digB = true) := Lib.hid (by rw [ht, List.all_append, hd.out]; simp [hdg])
        have hS : Hid (numN (l.take (k + 1)) = 10 * N + (c.toNat - 48)) := Lib.hid (by rw [ht, numN_snoc, hN])
        rw [hN]
        have hs1 : IntKind.u8.wrap ((c.toNat : Int) - 48) = ((c.toNat - 48 : Nat) : Int) := by simp [IntKind.wrap, IntKind.signed, IntKind.bits]; omega
        have hq : decide ((c.toNat : Int) < 48) = false := by simp; omega
        have hq2 : decide ((57 : Int) < c.toNat) = false := by simp; omega
        clear hd hb hp ht hN hdg
        go_wp2
        exact ⟨⟨k + 1, by omega, by go_num, congrArg (Value.int .i64) (by rw [hS.out]; omega), hA⟩, by simp [intOf]; omega⟩
      · have hF : Hid (numF l = -1) := Lib.hid (by
          unfold numF
          rw [if_neg]
          intro h
          exact hdg (List.all_eq_true.1 h c (hc ▸ List.getElem_mem hlt)))
        rw [hF.out] at H
        have hdg2 : c.toNat < 48 ∨ 57 < c.toNat := by simp [digB] at hdg; omega
        clear hd hb hp ht hN hdg
        rcases hdg2 with h1 | h1
        · have hq : decide ((c.toNat : Int) < 48) = true := by simp; omega
          go_wp2
          exact H.out
        · have hq : decide ((c.toNat : Int) < 48) = false := by simp; omega
          have hq2 : decide ((57 : Int) < c.toNat) = true := by simp; omega
          go_wp2
          exact H.out
    · have hF : Hid (numF l = numN (l.take k)) := Lib.hid (by
        have h1 := hd.out
        rw [List.take_of_length_le (by omega)] at h1 ⊢
        unfold numF
        rw [if_pos h1])
      rw [hF.out] at H
      clear hd
      go_wp2
      exact H.out
set_option maxHeartbeats 1000000 in
theorem before_any {R : Ending → World → Prop} (y : Int) (w : World) (h0 : 1970 ≤ y) (h1 : y ≤ 9999) (h : R (.returned (.int .i64 (befY y))) w) : Calls Tryz.prog 162 #[.int .i64 y] w R := by
  have H := Lib.hid h
  clear h
  obtain ⟨k, rfl⟩ : ∃ k : Nat, y = k := ⟨y.toNat, by omega⟩
  go_enter Tryz.func162, Tryz.ntmps162
  go_wp2
  refine rcast H.out (congrArg (Value.int .i64) ?_)
  unfold befY
  omega
end
end Go.Proofs.YtnmafahbdfilcaaGreatDoor
