/- The document's calendar walked: Of. -/
import Derived.Test.YtjjigngighneeaaDoorRefC
import Derived.Test.YtjjigngighneeaaDoorBytes
namespace Go.Proofs.YtjjigngighneeaaDoor
open Go.RowKit
set_option linter.unusedVariables false
set_option linter.unusedSimpArgs false
set_option maxRecDepth 100000

theorem yoe_int {doe yoe : Nat} (h : yoeN doe = yoe) : ((doe : Int) - (doe : Int) / 1460 + (doe : Int) / 36524 - (doe : Int) / 146096) / 365 = yoe := by
  unfold yoeN at h; omega
structure RefI (n : Int) (y m d : Int) (D E O Y L M : Int) : Prop where
  hD : n / 86400 = D
  b : 0 ≤ D ∧ D ≤ 2932896
  q1 : (D + 719468) / 146097 = E
  q2 : (D + 719468) % 146097 = O
  q3 : (O - O / 1460 + O / 36524 - O / 146096) / 365 = Y
  q4 : O - (365 * Y + Y / 4 - Y / 100) = L
  q5 : (5 * L + 2) / 153 = M
  q6 : L - (153 * M + 2) / 5 + 1 = d
  bE : 0 ≤ E ∧ E ≤ 30
  bO : 0 ≤ O ∧ O ≤ 146096
  bY : 0 ≤ Y ∧ Y ≤ 399
  bL : 0 ≤ L ∧ L ≤ 366
  bM : 0 ≤ M ∧ M ≤ 11
  fin : (M < 10 ∧ M + 3 = m ∧ Y + E * 400 = y) ∨ (10 ≤ M ∧ M - 9 = m ∧ Y + E * 400 + 1 = y)
theorem ref_i {n : Int} {y m d hh mi s wd : Nat} (c : CivN n y m d hh mi s wd) (h0 : 0 ≤ n) (h1 : n ≤ 253402300799) : ∃ D E O Y L M : Int, RefI n y m d D E O Y L M := by
  obtain ⟨era, yoe, mp, e1, y1, p1, days, len, mon, fin⟩ := ref_c c
  have hy := yoe_ok y1 len
  have hi := yoe_int hy
  have hm : marL yoe ≤ 366 := by unfold marL; split <;> omega
  have d0 := c.d0
  have m0 := c.m0
  have m1 := c.m1
  obtain ⟨doy, hd⟩ : ∃ x, (153 * mp + 2) / 5 + d - 1 = x := ⟨_, rfl⟩
  rw [hd] at days len mon hi
  obtain ⟨doe, hdo⟩ : ∃ x, 365 * yoe + yoe / 4 - yoe / 100 + doy = x := ⟨_, rfl⟩
  rw [hdo] at days hi
  have hdo2 : doe ≤ 146096 := by
    have : yoe = 399 ∨ yoe ≤ 398 := by omega
    rcases this with rfl | h
    · have : marL 399 = 366 := by decide
      omega
    · omega
  refine ⟨n / 86400, era, doe, yoe, doy, mp, rfl, by omega, by omega, by omega, hi, by omega, by omega, by omega, by omega, by omega, by omega, by omega, by omega, ?_⟩
  rcases fin with ⟨f1, f2, f3⟩ | ⟨f1, f2, f3⟩
  · left; omega
  · right; omega
set_option maxHeartbeats 2000000 in
theorem rof_any {R : Ending → World → Prop} (n : Int) (w : World) (h0 : 0 ≤ n) (h1 : n ≤ 253402300799) {y m d hh mi s wd : Nat} (c : CivN n y m d hh mi s wd) (h : ∀ w', Kp [] w w' → R (.returned (.agg #[.int .i64 y, .int .i64 m, .int .i64 d, .int .i64 hh, .int .i64 mi, .int .i64 s, .int .i64 wd])) w') : Calls Tryd.prog 70 #[.int .i64 n] w R := by
  have H := Lib.hid h
  obtain ⟨D, E, O, Y, L, M, hD, b, q1, q2, q3, q4, q5, q6, bE, bO, bY, bL, bM, fin⟩ := ref_i c h0 h1
  obtain ⟨c0, c1, c2, c3, c4, c5, c6, eh, emi, es, ew⟩ := c
  clear c2 c3 c4 c5 c6 c0 c1 h
  obtain ⟨sd, hsd⟩ : ∃ sd, n % 86400 = sd := ⟨_, rfl⟩
  have bsd : 0 ≤ sd ∧ sd < 86400 := by omega
  have r1 : sd / 3600 = hh := by omega
  have r2 : sd % 3600 / 60 = mi := by omega
  have r3 : sd % 60 = s := by omega
  have r4 : (D + 4) % 7 = wd := by omega
  generalize (y : Int) = yy at *
  generalize (m : Int) = mm at *
  generalize (d : Int) = dd at *
  generalize (hh : Int) = hh at *
  generalize (mi : Int) = mi at *
  generalize (s : Int) = ss at *
  generalize (wd : Int) = ww at *
  clear eh emi es ew
  obtain ⟨b0, b1⟩ := b
  obtain ⟨bE0, bE1⟩ := bE
  obtain ⟨bO0, bO1⟩ := bO
  obtain ⟨bY0, bY1⟩ := bY
  obtain ⟨bL0, bL1⟩ := bL
  obtain ⟨bM0, bM1⟩ := bM
  obtain ⟨bs0, bs1⟩ := bsd
  go_enter Tryd.func70, Tryd.ntmps70
  rcases fin with ⟨f1, f2, f3⟩ | ⟨f1, f2, f3⟩
  all_goals
    go_wp2
    exact bodyPost_ret (v := .agg #[.int .i64 yy, .int .i64 mm, .int .i64 dd, .int .i64 hh, .int .i64 mi, .int .i64 ss, .int .i64 ww]) (by simp [results, Tryd.results70, go_sem]; try rfl) rfl (H.out _ (((Kp.refl _ _).alloc _).alloc _))
theorem may3_any {R : Ending → World → Prop} (n : Int) (w : World) (h : R (.returned (.bool (decide (0 ≤ n) && decide (n ≤ 253402300799)))) w) : Calls Tryd.prog 43 #[.int .i64 n] w R := by
  have H := Lib.hid h
  clear h
  by_cases h0 : 0 ≤ n <;> by_cases h1 : n ≤ 253402300799
  all_goals
    go_enter Tryd.func43, Tryd.ntmps43
    go_wp2
    first | exact rcast H.out (by simp [h0, h1]) | (simp [h0, h1] at H; exact H.out)
def twoL (n : Nat) : List UInt8 := [UInt8.ofNat (48 + n / 10 % 10), UInt8.ofNat (48 + n % 10)]
set_option maxHeartbeats 1000000 in
theorem two_any {R : Ending → World → Prop} (n : Nat) (w : World) (hn : n ≤ 999) (h : ∀ w', Kp [] w w' → R (.returned (.string (S (twoL n)))) w') : Calls Tryd.prog 71 #[.int .i64 n] w R := by
  have H := Lib.hid h
  clear h
  obtain ⟨c, hc⟩ : ∃ c : UInt8, c = UInt8.ofNat (48 + n / 10 % 10) := ⟨_, rfl⟩
  obtain ⟨e, he⟩ : ∃ e : UInt8, e = UInt8.ofNat (48 + n % 10) := ⟨_, rfl⟩
  have hcn : c.toNat = 48 + n / 10 % 10 := by rw [hc, UInt8.toNat_ofNat']; omega
  have hen : e.toNat = 48 + n % 10 := by rw [he, UInt8.toNat_ofNat']; omega
  have hE1 : 48 + (n : Int) / 10 % 10 = (c.toNat : Int) := by omega
  have hE2 : 48 + (n : Int) % 10 = (e.toNat : Int) := by omega
  have hcl := c.toNat_lt
  have hel := e.toNat_lt
  have hcv : (convert 73 9 (.slice (some ⟨w.heap.size, 0, none⟩) 2 2)).run Tryd.prog (w.alloc (.cells #[.int .u8 c.toNat, .int .u8 e.toNat] 5)) = .ok (.string (S [c, e])) (w.alloc (.cells #[.int .u8 c.toNat, .int .u8 e.toNat] 5)) :=
    conv_bs (N := []) (l := [c, e]) (Rd.of_bk (Bk.newAt rfl _ _) (by simp)) rfl
  have HT : Hid (twoL n = [c, e]) := Lib.hid (by unfold twoL; rw [← hc, ← he])
  clear hc he hcn hen
  go_enter Tryd.func71, Tryd.ntmps71
  go_wp2
  exact rcast (H.out _ ((Kp.refl _ _).alloc _)) (congrArg (fun l => Value.string (S l)) HT.out)
theorem digL2 (n : Nat) (h : n ≤ 99) : digL n 2 = twoL n := by
  unfold digL twoL
  by_cases h1 : n < 10
  · rw [decL_small h1, show n / 10 % 10 = 0 by omega, show n % 10 = n by omega]; rfl
  · rw [decL_big h1, decL_small (by omega), show n / 10 % 10 = n / 10 by omega]; rfl
theorem digL4 (n : Nat) (h0 : 1000 ≤ n) (h : n ≤ 9999) : digL n 4 = twoL (n / 100) ++ twoL (n % 100) := by
  unfold digL twoL
  rw [decL_big (by omega), decL_big (n := n / 10) (by omega), decL_big (n := n / 10 / 10) (by omega), decL_small (by omega)]
  rw [show n / 100 / 10 % 10 = n / 10 / 10 / 10 by omega, show n / 100 % 10 = n / 10 / 10 % 10 by omega, show n % 100 / 10 % 10 = n / 10 % 10 by omega, show n % 100 % 10 = n % 10 by omega]
  rfl
end Go.Proofs.YtjjigngighneeaaDoor
