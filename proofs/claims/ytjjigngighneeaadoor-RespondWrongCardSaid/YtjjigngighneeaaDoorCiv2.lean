/- Package civil: the date of a second. -/
import Derived.Test.YtjjigngighneeaaDoorCiv1
import Derived.Test.YtjjigngighneeaaDoorQuiet
import Derived.BigQuiet
import Derived.BigRegion
import Derived.Deep.Cut
namespace Go.Proofs.YtjjigngighneeaaDoor
open Go.RowKit
set_option linter.unusedVariables false
set_option linter.unusedSimpArgs false
set_option maxRecDepth 100000

/-- Days ahead of a year, from the year 0 on. -/
def befY (y : Int) : Int := 365 * y + (y - 1) / 4 - (y - 1) / 100 + (y - 1) / 400
def yLen (y : Int) : Int := 365 + oneI1 (leapB y)
/-- Days of the months ahead. -/
def cumM (y : Int) : Nat → Int
  | 0 => 0
  | k + 1 => cumM y k + lenM y (k + 1)
theorem leap_01 (y : Int) : oneI1 (leapB y) = 0 ∨ oneI1 (leapB y) = 1 := by unfold oneI1; split <;> simp
theorem befY_succ (y : Int) : befY (y + 1) = befY y + yLen y := by
  unfold befY yLen oneI1 leapB
  by_cases h4 : y % 4 = 0 <;> by_cases h1 : y % 100 = 0 <;> by_cases h0 : y % 400 = 0 <;> simp [h4, h1, h0] <;> omega
theorem befY_400 (q : Int) : befY (1970 + q * 400) = befY 1970 + 146097 * q := by unfold befY; omega
theorem cumM_12 (y : Int) : cumM y 12 = yLen y := by
  unfold yLen
  simp only [cumM, lenM]
  simp
  omega
theorem lenM_pos (y m : Int) : 28 ≤ lenM y m ∧ lenM y m ≤ 31 := by
  have := leap_01 y
  unfold lenM
  split
  · omega
  · split <;> omega
theorem gen_worldC {P : Program} {c : Code} {Q : Exit → Act → World → Prop} {a : Act} {W : World} (Pr : World → Prop) (h : Pr W) (hk : ∀ W', Pr W' → Code.wp P c Q a W') : Code.wp P c Q a W := hk W h
theorem may_any {R : Ending → World → Prop} (n : Int) (w : World) (h0 : 0 ≤ n) (h1 : n ≤ 253402300799) (h : R (.returned (.bool true)) w) : Calls Tryd.prog 89 #[.int .i64 n] w R := by
  have H := Lib.hid h
  clear h
  go_enter Tryd.func89, Tryd.ntmps89
  go_wp2
  exact H.out
def dC (y m d h mi s wd : Int) : List Value := [.int .i64 y, .int .i64 m, .int .i64 d, .int .i64 h, .int .i64 mi, .int .i64 s, .int .i64 wd]
/-- The function's two structs. -/
structure CivS (w W : World) (g2 g6 : Nat) (y m d h mi s wd : Int) : Prop where
  kp : Kp [] w W
  hg : w.heap.size ≤ g2
  n6 : g2 < g6
  b2 : Bk W g2 115 (dC 0 0 0 0 0 0 0)
  b6 : Bk W g6 115 (dC y m d h mi s wd)
theorem CivS.setY {w W : World} {g2 g6 : Nat} {y m d h mi s wd : Int} (c : CivS w W g2 g6 y m d h mi s wd) (y' : Int) : CivS w (W.setCell ⟨g6, 0, none⟩ (.int .i64 y')) g2 g6 y' m d h mi s wd := by
  have h0 := c.hg; have h1 := c.n6
  exact ⟨c.kp.setCell (.inr (by simp; omega)) _, h0, h1, c.b2.far (by simp; omega) _, (c.b6.set_ 0 _).cast rfl⟩
theorem CivS.setM {w W : World} {g2 g6 : Nat} {y m d h mi s wd : Int} (c : CivS w W g2 g6 y m d h mi s wd) (m' : Int) : CivS w (W.setCell ⟨g6, 1, none⟩ (.int .i64 m')) g2 g6 y m' d h mi s wd := by
  have h0 := c.hg; have h1 := c.n6
  exact ⟨c.kp.setCell (.inr (by simp; omega)) _, h0, h1, c.b2.far (by simp; omega) _, (c.b6.set_ 1 _).cast rfl⟩
theorem CivS.setD {w W : World} {g2 g6 : Nat} {y m d h mi s wd : Int} (c : CivS w W g2 g6 y m d h mi s wd) (d' : Int) : CivS w (W.setCell ⟨g6, 2, none⟩ (.int .i64 d')) g2 g6 y m d' h mi s wd := by
  have h0 := c.hg; have h1 := c.n6
  exact ⟨c.kp.setCell (.inr (by simp; omega)) _, h0, h1, c.b2.far (by simp; omega) _, (c.b6.set_ 2 _).cast rfl⟩
theorem bk7 {w : World} {g tt : Nat} {a b c d e f k : Value} (h : Bk w g tt [a, b, c, d, e, f, k]) : (w.cell? ⟨g, 0, none⟩ = some a ∧ w.cell? ⟨g, 1, none⟩ = some b ∧ w.cell? ⟨g, 2, none⟩ = some c ∧ w.cell? ⟨g, 3, none⟩ = some d ∧ w.cell? ⟨g, 4, none⟩ = some e ∧ w.cell? ⟨g, 5, none⟩ = some f ∧ w.cell? ⟨g, 6, none⟩ = some k) ∧
    (w.frozen? ⟨g, 0, none⟩ = false ∧ w.frozen? ⟨g, 1, none⟩ = false ∧ w.frozen? ⟨g, 2, none⟩ = false ∧ w.frozen? ⟨g, 3, none⟩ = false ∧ w.frozen? ⟨g, 4, none⟩ = false ∧ w.frozen? ⟨g, 5, none⟩ = false ∧ w.frozen? ⟨g, 6, none⟩ = false) :=
  ⟨⟨h.cell 0, h.cell 1, h.cell 2, h.cell 3, h.cell 4, h.cell 5, h.cell 6⟩, h.frozen 0, h.frozen 1, h.frozen 2, h.frozen 3, h.frozen 4, h.frozen 5, h.frozen 6⟩
theorem CivS.fin {w W : World} {g2 g6 : Nat} {y m d h mi s wd : Int} (c : CivS w W g2 g6 y m d h mi s wd) :
    ∃ W', ((((((W.setCell ⟨g2, 0, none⟩ (.int .i64 y)).setCell ⟨g2, 1, none⟩ (.int .i64 m)).setCell ⟨g2, 2, none⟩ (.int .i64 d)).setCell ⟨g2, 3, none⟩ (.int .i64 h)).setCell ⟨g2, 4, none⟩ (.int .i64 mi)).setCell ⟨g2, 5, none⟩ (.int .i64 s)).setCell ⟨g2, 6, none⟩ (.int .i64 wd) = W' ∧ Kp [] w W' ∧ Bk W' g2 115 (dC y m d h mi s wd) := by
  have h0 := c.hg
  refine ⟨_, rfl, ((((((c.kp.setCell (.inr (by simp; omega)) _).setCell (.inr (by simp; omega)) _).setCell (.inr (by simp; omega)) _).setCell (.inr (by simp; omega)) _).setCell (.inr (by simp; omega)) _).setCell (.inr (by simp; omega)) _).setCell (.inr (by simp; omega)) _, ?_⟩
  exact (((((((c.b2.set_ 0 _).set_ 1 _).set_ 2 _).set_ 3 _).set_ 4 _).set_ 5 _).set_ 6 _).cast rfl
set_option maxHeartbeats 8000000 in
theorem cof_any {R : Ending → World → Prop} (n : Int) (w : World) (h0 : 0 ≤ n) (h1 : n ≤ 253402300799)
    (h : ∀ (Y : Int) (m : Nat) (d : Int), 1970 ≤ Y → Y ≤ 10400 → 1 ≤ m → m ≤ 12 → 0 ≤ d → d < lenM Y m → befY Y + cumM Y (m - 1) + d = befY 1970 + n / 86400 → ∀ w', Kp [] w w' →
      R (.returned (.tuple #[.agg #[.int .i64 Y, .int .i64 m, .int .i64 (d + 1), .int .i64 (n % 86400 / 3600), .int .i64 (n % 86400 / 60 % 60), .int .i64 (n % 60), .int .i64 ((n / 86400 + 4) % 7)], .int .i64 0])) w') :
    Calls Tryd.prog 59 #[.int .i64 n] w R := by
  have H := Lib.hid h
  clear h
  have q0 : 0 ≤ n / 86400 := by omega
  have q1 : n / 86400 ≤ 2932896 := by omega
  have r0 : 0 ≤ n % 86400 := by omega
  have r1 : n % 86400 < 86400 := by omega
  go_enter Tryd.func59, Tryd.ntmps59
  go_upto_region 5 with (go_at_call 89; (refine may_any n _ h0 h1 ?_))
  refine gen_worldC (fun W => CivS w W w.heap.size (w.heap.size + 1) 1970 1 0 (n % 86400 / 3600) (n % 86400 / 60 % 60) (n % 60) ((n / 86400 + 4) % 7)) ⟨((Kp.refl _ _).alloc _).alloc _, Nat.le_refl _, Nat.lt_succ_self _, ((Bk.new' _ _ _).alloc _).cast rfl, (Bk.newAt (by simp) _ _).cast rfl⟩ ?_
  intro W hs
  generalize n % 86400 / 3600 = hh at hs H ⊢
  generalize n % 86400 / 60 % 60 = mi at hs H ⊢
  have e6 : n % 86400 % 60 = n % 60 := by omega
  simp only [e6]
  clear e6
  generalize n % 60 = ss at hs H ⊢
  generalize (n / 86400 + 4) % 7 = wd at hs H ⊢
  generalize n / 86400 = dd at H q0 q1 ⊢
  generalize n % 86400 = sd at r0 r1 ⊢
  obtain ⟨g2, hg2⟩ : ∃ g2, w.heap.size = g2 := ⟨_, rfl⟩
  obtain ⟨g6, hg6⟩ : ∃ g6, w.heap.size + 1 = g6 := ⟨_, rfl⟩
  rw [hg6, hg2] at hs ⊢
  have hc0 := hs.b6.cell 0
  have hf0 := hs.b6.frozen 0
  simp only [dC, List.getElem?_cons_zero] at hc0
  have HS := Lib.hid hs
  clear hs hg2 hg6
  have hq : 0 ≤ dd / 146097 ∧ dd / 146097 ≤ 20 := by omega
  obtain ⟨qa, qb⟩ := hq
  have hr : 0 ≤ dd % 146097 ∧ dd % 146097 < 146097 := by omega
  obtain ⟨ra, rb⟩ := hr
  go_upto_region 6 with (fail)
  refine gen_worldC (fun W => Hid (CivS w W g2 g6 (1970 + dd / 146097 * 400) 1 0 hh mi ss wd)) (Lib.hid (HS.out.setY _)) ?_
  intro W2 HS2
  clear HS hc0 hf0
  have HB0 : Hid (befY (1970 + dd / 146097 * 400) + dd % 146097 = befY 1970 + dd) := Lib.hid (by rw [befY_400]; omega)
  have hy0 : 1970 ≤ 1970 + dd / 146097 * 400 := by omega
  have hy1 : 365 * (1970 + dd / 146097 * 400) + dd % 146097 ≤ 3796000 := by omega
  go_wp2
  go_loopw [4] (fun dv wr => ∃ (d y : Int), dv = .int .i64 d ∧ 0 ≤ d ∧ d ≤ 150000 ∧ 1970 ≤ y ∧ 365 * y + d ≤ 3796000 ∧ Hid (befY y + d = befY 1970 + dd) ∧ Hid (CivS w wr g2 g6 y 1 0 hh mi ss wd)) (fun dv _ => (intOf dv).toNat)
  case atStart => exact ⟨_, _, rfl, ra, by omega, hy0, hy1, HB0, HS2⟩
  case round =>
    obtain ⟨d, y, rfl, d0, d1, y0, y1, hB, hS⟩ := hrel
    clear hy0 hy1 ra rb qa qb
    have hc0 := hS.out.b6.cell 0
    have hf0 := hS.out.b6.frozen 0
    simp only [dC, List.getElem?_cons_zero] at hc0
    have hlo := leap_01 y
    obtain ⟨o, ho⟩ : ∃ o, oneI1 (leapB y) = o := ⟨_, rfl⟩
    have HYL : Hid (yLen y = 365 + o) := Lib.hid (by unfold yLen; rw [ho])
    have HOne : Hid (∀ (R : Ending → World → Prop) (w1 : World), R (.returned (.int .i64 o)) w1 → Calls Tryd.prog 90 #[.bool (leapB y)] w1 R) := Lib.hid (fun R w1 h => one_any _ w1 (by rw [ho]; exact h))
    rw [ho] at hlo
    have o0 : 0 ≤ o := by omega
    have o1 : o ≤ 1 := by omega
    clear hlo ho
    by_cases hge : 365 + o ≤ d
    · have HS3 := Lib.hid (hS.out.setY (y + 1))
      have HB3 : Hid (befY (y + 1) + (d - (365 + o)) = befY 1970 + dd) := Lib.hid (by rw [befY_succ, HYL.out]; have := hB.out; omega)
      go_wp2_with (first | (go_at_call 91; (refine leap_any y _ (by omega) (by omega) ?_)) | (go_at_call 90; (refine HOne.out _ _ ?_)))
      refine ⟨?_, by simp [intOf]; omega⟩
      exact ⟨d - (365 + o), y + 1, rfl, by omega, by omega, by omega, by omega, HB3, HS3⟩
    · have HD : Hid (d < yLen y) := Lib.hid (by rw [HYL.out]; omega)
      go_wp2_with (first | (go_at_call 91; (refine leap_any y _ (by omega) (by omega) ?_)) | (go_at_call 90; (refine HOne.out _ _ ?_)))
      clear hc0 hf0 hge
      go_loopw [4] (fun dv wr => ∃ (e : Int) (m : Nat), dv = .int .i64 e ∧ 0 ≤ e ∧ e ≤ 400 ∧ 1 ≤ m ∧ m ≤ 12 ∧ Hid (cumM y (m - 1) + e = d) ∧ Hid (CivS w wr g2 g6 y m 0 hh mi ss wd)) (fun dv _ => (intOf dv).toNat)
      case atStart => exact ⟨d, 1, rfl, d0, by have := HD.out; rw [HYL.out] at this; omega, by omega, by omega, Lib.hid (by simp [cumM]), hS⟩
      case round =>
        obtain ⟨e, m, rfl, e0, e1, m0, m1, hM, hS4⟩ := hrel
        have hc0 := hS4.out.b6.cell 0
        have hc1 := hS4.out.b6.cell 1
        have hf1 := hS4.out.b6.frozen 1
        have hf2 := hS4.out.b6.frozen 2
        have hc2 := hS4.out.b6.cell 2
        simp only [dC, List.getElem?_cons_zero, List.getElem?_cons_succ] at hc0 hc1 hc2
        have hlp := lenM_pos y m
        obtain ⟨L, hL⟩ : ∃ L, lenM y m = L := ⟨_, rfl⟩
        have HLc : Hid (∀ (R : Ending → World → Prop) (w1 : World), R (.returned (.int .i64 L)) w1 → Calls Tryd.prog 92 #[.int .i64 y, .int .i64 m] w1 R) := Lib.hid (fun R w1 h => length_any y m w1 (by omega) (by omega) (by omega) (by omega) (by rw [hL]; exact h))
        have HLL := Lib.hid hL
        rw [hL] at hlp
        obtain ⟨l0, l1⟩ := hlp
        have HCS : Hid (cumM y m = cumM y (m - 1) + L) := Lib.hid (by
          obtain ⟨j, rfl⟩ : ∃ j, m = j + 1 := ⟨m - 1, by omega⟩
          rw [← hL]; simp [cumM])
        clear hL
        by_cases hge : L ≤ e
        · have hm12 : m < 12 := by
            rcases Nat.lt_or_ge m 12 with h | h
            · exact h
            · exfalso
              have : m = 12 := by omega
              subst this
              have h1 := HCS.out
              rw [cumM_12] at h1
              have h2 := hM.out
              have h3 := HD.out
              omega
          have HS5 := Lib.hid (hS4.out.setM ((m : Int) + 1))
          have HM5 : Hid (cumM y (m + 1 - 1) + (e - L) = d) := Lib.hid (by
            rw [Nat.add_sub_cancel, HCS.out]; have := hM.out; omega)
          go_wp2_with (go_at_call 92; (refine HLc.out _ _ ?_))
          refine ⟨?_, by simp [intOf]; omega⟩
          exact ⟨e - L, m + 1, rfl, by omega, by omega, by omega, by omega, HM5, HS5⟩
        · have HF := Lib.hid (hS4.out.setD (e + 1))
          go_upto_region 14 with (go_at_call 92; (refine HLc.out _ _ ?_))
          refine gen_worldC (fun W => Hid (CivS w W g2 g6 y m (e + 1) hh mi ss wd)) HF ?_
          intro W5 HS5
          obtain ⟨⟨p0, p1, p2, p3, p4, p5, p6⟩, _⟩ := bk7 HS5.out.b6
          obtain ⟨⟨z0, z1, z2, z3, z4, z5, z6⟩, ⟨f0, f1, f2, f3, f4, f5, f6⟩⟩ := bk7 HS5.out.b2
          have hne : g2 ≠ g6 := by have := HS5.out.n6; omega
          clear hc0 hc1 hc2 hf1 hf2
          go_wp2
          obtain ⟨W6, hW6, k6, b6⟩ := HS5.out.fin
          obtain ⟨⟨x0, x1, x2, x3, x4, x5, x6⟩, _⟩ := bk7 b6
          rw [hW6]
          have hBB := hB.out
          have hMM := hM.out
          exact bodyPost_ret (v := .tuple #[.agg #[.int .i64 y, .int .i64 m, .int .i64 (e + 1), .int .i64 hh, .int .i64 mi, .int .i64 ss, .int .i64 wd], .int .i64 0]) (by simp [results, Tryd.results59, go_sem, x0, x1, x2, x3, x4, x5, x6]) rfl (H.out y m e y0 (by omega) m0 m1 e0 (by rw [HLL.out]; omega) (by omega) W6 k6)
end Go.Proofs.YtjjigngighneeaaDoor
