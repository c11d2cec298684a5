/- Package civil: digits. Package civil: the names of days and months. Package civil: Print. The document's calendar, by the days since March 1 of the year 0: the plain law. The document's calendar walked: Of. A strings.Builder embedded in a struct of one field: copyCheck, WriteString, String (lines of the kit's template, turned). -/
import Derived.Test.YtnmafahbdfilcaaGreatDoorPC1
import Derived.Test.YtnmafahbdfilcaaGreatDoorPC2
import Derived.Lib.Builder
import Derived.Lib.AppendStr
import Derived.Shelf.Strings.Builder1
import Derived.BigQuiet
import Derived.BigRegion
import Derived.Deep.DeepBigQuietO
namespace Go.Proofs.YtnmafahbdfilcaaGreatDoor
/-! ### Package civil: digits. -/
section
open Go.RowKit
set_option linter.unusedVariables false
set_option linter.unusedSimpArgs false
set_option maxRecDepth 100000

def digL (n wd : Nat) : List UInt8 := List.replicate (wd - (decL n).length) 48 ++ decL n
theorem rep_any {R : Ending → World → Prop} (c : Nat) (w : World) (hc : c ≤ 1) (h : R (.returned (.string (S (List.replicate c 48)))) w) : Calls Tryz.prog 146 #[.string (S [48]), .int .i64 c] w R := by
  have H := Lib.hid h
  clear h
  rcases (by omega : c = 0 ∨ c = 1) with rfl | rfl
  all_goals
    go_enter Tryz.func146, Tryz.ntmps146
    go_wp2
    exact H.out
set_option maxHeartbeats 1000000 in
theorem digits_any {R : Ending → World → Prop} (n wd : Nat) (w : World) (hn : n ≤ 99999) (hd : wd ≤ 10) (hl : wd ≤ (decL n).length + 1) (hw : Lw w) (h : ∀ w', Kp [] w w' → R (.returned (.string (S (digL n wd)))) w') : Calls Tryz.prog 116 #[.int .i64 n, .int .i64 wd] w R := by
  have H := Lib.hid h
  clear h
  have hlen : (decL n).length ≤ 21 := by have := itoaL_len n (by omega) (by omega); rw [itoaL_nat] at this; exact this
  have HE : Hid (∀ (R : Ending → World → Prop) (w : World), Lw w → (∀ w', Kp [] w w' → R (.returned (.string (S (decL n)))) w') → Calls Tryz.prog 77 #[.int .i64 n] w R) := Lib.hid (fun R w a b => itoa_any n w (by omega) a b)
  obtain ⟨o, ho⟩ : ∃ o, wd - (decL n).length = o := ⟨_, rfl⟩
  have ho1 : o ≤ 1 := by omega
  have hmax : max ((wd : Int) - ((decL n).length : Int)) 0 = (o : Int) := by omega
  go_enter Tryz.func116, Tryz.ntmps116
  go_wp2_with (first | (go_at_call 77; ((refine HE.out _ _ hw ?_); intro w1 k1)) | (go_at_call 146; (refine rep_any o _ ho1 ?_)))
  exact rcast (H.out _ k1) (by unfold digL; rw [ho]; simp [S_append])
end
/-! ### Package civil: the names of days and months. -/
section
open Go.RowKit
set_option linter.unusedVariables false
set_option linter.unusedSimpArgs false
set_option maxRecDepth 100000

def wdN : List (List UInt8) := [[83, 117, 110], [77, 111, 110], [84, 117, 101], [87, 101, 100], [84, 104, 117], [70, 114, 105], [83, 97, 116]]
def moN : List (List UInt8) := [[74, 97, 110], [70, 101, 98], [77, 97, 114], [65, 112, 114], [77, 97, 121], [74, 117, 110], [74, 117, 108], [65, 117, 103], [83, 101, 112], [79, 99, 116], [78, 111, 118], [68, 101, 99]]
theorem wd_any {R : Ending → World → Prop} (w : World) (h : ∀ w', Kp [] w w' → R (.returned (.agg (wdN.map fun x => .string (S x)).toArray)) w') : Calls Tryz.prog 117 #[] w R := by
  have H := Lib.hid h
  clear h
  go_enter Tryz.func117, Tryz.ntmps117
  go_wp2
  exact bodyPost_ret (v := .agg (wdN.map fun x => .string (S x)).toArray) (by simp [results, Tryz.results117, go_sem, wdN]; exact ⟨rfl, rfl, rfl, rfl, rfl, rfl, rfl⟩) rfl (H.out _ ((Kp.refl _ _).alloc _))
theorem mo_any {R : Ending → World → Prop} (w : World) (h : ∀ w', Kp [] w w' → R (.returned (.agg (moN.map fun x => .string (S x)).toArray)) w') : Calls Tryz.prog 118 #[] w R := by
  have H := Lib.hid h
  clear h
  go_enter Tryz.func118, Tryz.ntmps118
  go_wp2
  exact bodyPost_ret (v := .agg (moN.map fun x => .string (S x)).toArray) (by simp [results, Tryz.results118, go_sem, moN]; exact ⟨rfl, rfl, rfl, rfl, rfl, rfl, rfl, rfl, rfl, rfl, rfl, rfl⟩) rfl (H.out _ ((Kp.refl _ _).alloc _))
end
/-! ### Package civil: Print. -/
section
open Go.RowKit
set_option linter.unusedVariables false
set_option linter.unusedSimpArgs false
set_option maxRecDepth 100000

def prL (y m d h mi s : Nat) (a b : List UInt8) : List UInt8 := a ++ [44, 32] ++ digL d 2 ++ [32] ++ b ++ [32] ++ digL y 4 ++ [32] ++ (digL h 2 ++ [58] ++ digL mi 2 ++ [58] ++ digL s 2) ++ [32, 71, 77, 84]
theorem decL_1 (n : Nat) : 1 ≤ (decL n).length := by
  by_cases h : n < 10
  · rw [decL_small h]; simp
  · rw [decL_big h]; simp
theorem decL_3 (n : Nat) (h : 1000 ≤ n) : 3 ≤ (decL n).length := by
  rw [decL_big (by omega), decL_big (n := n / 10) (by omega)]
  have := decL_1 (n / 10 / 10)
  simp; omega
theorem digL_len (n wd : Nat) (hn : n ≤ 99999) (hw : wd ≤ 4) : (digL n wd).length ≤ 25 := by
  have := decL_len20 (n := n) (by omega)
  unfold digL; simp; omega
theorem lenM_31 (y : Int) (m : Int) : lenM y m ≤ 31 := (lenM_pos y m).2
/-- The date of a second, in numbers. -/
structure CivN (n : Int) (y m d hh mi s wd : Nat) : Prop where
  y0 : 1970 ≤ y
  y1 : y ≤ 10400
  m0 : 1 ≤ m
  m1 : m ≤ 12
  d0 : 1 ≤ d
  d1 : (d : Int) ≤ lenM y m
  he : befY y + cumM y (m - 1) + ((d : Int) - 1) = befY 1970 + n / 86400
  eh : (hh : Int) = n % 86400 / 3600
  emi : (mi : Int) = n % 86400 / 60 % 60
  es : (s : Int) = n % 60
  ew : (wd : Int) = (n / 86400 + 4) % 7
/-- civil.Of, its numbers as numbers. -/
theorem cof_nat {R : Ending → World → Prop} (n : Int) (w : World) (h0 : 0 ≤ n) (h1 : n ≤ 253402300799)
    (h : ∀ (y m d hh mi s wd : Nat), CivN n y m d hh mi s wd → ∀ w', Kp [] w w' →
      R (.returned (.tuple #[.agg #[.int .i64 y, .int .i64 m, .int .i64 d, .int .i64 hh, .int .i64 mi, .int .i64 s, .int .i64 wd], .int .i64 0])) w') :
    Calls Tryz.prog 115 #[.int .i64 n] w R := by
  refine cof_any n w h0 h1 ?_
  intro Y m d y0 y1 m0 m1 d0 d1 he w' k
  have hl := lenM_31 Y m
  obtain ⟨y, rfl⟩ := Int.eq_ofNat_of_zero_le (show 0 ≤ Y by omega)
  obtain ⟨e, he'⟩ := Int.eq_ofNat_of_zero_le (show 0 ≤ d + 1 by omega)
  obtain ⟨a, ea⟩ := Int.eq_ofNat_of_zero_le (show 0 ≤ n % 86400 / 3600 by omega)
  obtain ⟨b, eb⟩ := Int.eq_ofNat_of_zero_le (show 0 ≤ n % 86400 / 60 % 60 by omega)
  obtain ⟨c, ec⟩ := Int.eq_ofNat_of_zero_le (show 0 ≤ n % 60 by omega)
  obtain ⟨f, ef⟩ := Int.eq_ofNat_of_zero_le (show 0 ≤ (n / 86400 + 4) % 7 by omega)
  rw [he', ea, eb, ec, ef]
  exact h y m e a b c f ⟨by omega, by omega, m0, m1, by omega, by omega, by omega, ea.symm, eb.symm, ec.symm, ef.symm⟩ w' k
set_option maxHeartbeats 4000000 in
theorem print_any {R : Ending → World → Prop} (n : Int) (w : World) (h0 : 0 ≤ n) (h1 : n ≤ 253402300799) (hw : Lw w)
    (h : ∀ (y m d hh mi s wd : Nat) (a b : List UInt8), CivN n y m d hh mi s wd → wdN[wd]? = some a → moN[m - 1]? = some b → ∀ w', Kp [] w w' → R (.returned (.tuple #[.string (S (prL y m d hh mi s a b)), .int .i64 0])) w') : Calls Tryz.prog 67 #[.int .i64 n] w R := by
  have H := Lib.hid h
  clear h
  go_enter Tryz.func67, Tryz.ntmps67
  go_upto_region 4 with (go_at_call 115; ((refine cof_nat n _ h0 h1 ?_); intro y m d hh mi s wd cv W0 k0))
  have CV := Lib.hid cv
  obtain ⟨y0, y1, m0, m1, d0, d1, he, eh, emi, es, ew⟩ := cv
  have dm := lenM_31 y m
  have hh1 : hh ≤ 23 := by omega
  have mi1 : mi ≤ 59 := by omega
  have s1 : s ≤ 59 := by omega
  have wd1 : wd ≤ 6 := by omega
  have d31 : d ≤ 31 := by omega
  clear he eh emi es ew d1 dm
  refine gen_worldC (fun W => ∃ g, W0.heap.size = g ∧ Kp [] w W ∧ Bk W g 180 (dC y m d hh mi s wd)) ⟨_, rfl, k0.trans ((Kp.refl _ _).alloc _), (Bk.new' _ _ _).cast rfl⟩ ?_
  intro W ⟨g, hg, kW, bW⟩
  rw [hg]
  clear hg k0
  have HL : Hid (∀ {W' : World}, Kp [] W W' → Lw W') := Lib.hid (fun k => hw.kp (kW.trans k))
  have DD : Hid (∀ (R : Ending → World → Prop) (x : Nat) (k : Int) (w : World), (k = 2 ∧ x ≤ 99 ∨ k = 4 ∧ 1000 ≤ x ∧ x ≤ 99999) → Lw w → (∀ w', Kp [] w w' → R (.returned (.string (S (digL x k.toNat)))) w') → Calls Tryz.prog 116 #[.int .i64 x, .int .i64 k] w R) :=
    Lib.hid (fun R x k w hx a b => by
      rcases hx with ⟨rfl, hx⟩ | ⟨rfl, hx, hy⟩
      · exact digits_any x 2 w (by omega) (by omega) (by have := decL_1 x; omega) a b
      · exact digits_any x 4 w (by omega) (by omega) (by have := decL_3 x hx; omega) a b)
  obtain ⟨⟨p0, p1, p2, p3, p4, p5, p6⟩, ⟨z0, z1, z2, z3, z4, z5, z6⟩⟩ := bk7 bW
  have q1 := digL_len hh 2 (by omega) (by omega)
  have q2 := digL_len mi 2 (by omega) (by omega)
  have q3 := digL_len s 2 (by omega) (by omega)
  have q4 := digL_len d 2 (by omega) (by omega)
  have q5 := digL_len y 4 (by omega) (by omega)
  refine wp_region_kp (by kernel_rfl) (by kernel_rfl) ?_
  repeat (quiet_step (first | (go_at_call 116; ((refine DD.out _ _ _ _ (by omega) (HL.out (kpw_kp _ _)) ?_); intro w' k'; exact kpx_mk k')) | (rw [if_neg (by simp only [List.length_append, List.length_cons, List.length_nil]; omega)]; exact ⟨rfl, rfl⟩) | (rw [if_neg (by omega)]; exact ⟨rfl, rfl⟩)))
  refine wpQuiet_nil ?_
  intro W3 k3
  have q6 : (digL hh 2 ++ 58 :: (digL mi 2 ++ 58 :: digL s 2)).length ≤ 100 := by simp; omega
  obtain ⟨clk, hclk⟩ : ∃ clk, digL hh 2 ++ 58 :: (digL mi 2 ++ 58 :: digL s 2) = clk := ⟨_, rfl⟩
  rw [hclk] at q6 ⊢
  have HCK := Lib.hid hclk
  clear hclk
  clear p0 p1 p2 p3 p4 p5 p6 z0 z1 z2 z3 z4 z5 z6
  have bW3 := bW.kp k3 (by simp)
  have kW3 := kW.trans k3
  have HL3 : Hid (∀ {W' : World}, Kp [] W3 W' → Lw W') := Lib.hid (fun k => hw.kp (kW3.trans k))
  obtain ⟨⟨p0, p1, p2, p3, p4, p5, p6⟩, ⟨z0, z1, z2, z3, z4, z5, z6⟩⟩ := bk7 bW3
  obtain ⟨a, ea⟩ : ∃ a, wdN[wd]? = some a := ⟨_, List.getElem?_eq_getElem (by simp [wdN]; omega)⟩
  obtain ⟨j, rfl⟩ : ∃ j, m = j + 1 := ⟨m - 1, by omega⟩
  obtain ⟨b, eb⟩ : ∃ b, moN[j]? = some b := ⟨_, List.getElem?_eq_getElem (by simp [moN]; omega)⟩
  have HW7 : Hid (∀ (R : Ending → World → Prop) (w : World), (∀ w', Kp [] w w' → R (.returned (.agg (wdN.map fun x => .string (S x)).toArray)) w') → Calls Tryz.prog 117 #[] w R) := Lib.hid (fun R w h => wd_any w h)
  have HM12 : Hid (∀ (R : Ending → World → Prop) (w : World), (∀ w', Kp [] w w' → R (.returned (.agg (moN.map fun x => .string (S x)).toArray)) w') → Calls Tryz.prog 118 #[] w R) := Lib.hid (fun R w h => mo_any w h)
  obtain ⟨WA, eWA⟩ : ∃ WA, (wdN.map fun x => Value.string (S x)).toArray = WA := ⟨_, rfl⟩
  obtain ⟨MA, eMA⟩ : ∃ MA, (moN.map fun x => Value.string (S x)).toArray = MA := ⟨_, rfl⟩
  have wa1 : WA[wd]? = some (.string (S a)) := by rw [← eWA]; simp [ea]
  have ma1 : MA[j]? = some (.string (S b)) := by rw [← eMA]; simp [eb]
  have wa2 : WA.size = 7 := by rw [← eWA]; simp [wdN]
  have ma2 : MA.size = 12 := by rw [← eMA]; simp [moN]
  have la : a.length ≤ 3 := by
    have := List.mem_of_getElem? ea
    simp only [wdN, List.mem_cons, List.not_mem_nil, or_false] at this
    rcases this with rfl | rfl | rfl | rfl | rfl | rfl | rfl <;> simp
  have lb : b.length ≤ 3 := by
    have := List.mem_of_getElem? eb
    simp only [moN, List.mem_cons, List.not_mem_nil, or_false] at this
    rcases this with rfl | rfl | rfl | rfl | rfl | rfl | rfl | rfl | rfl | rfl | rfl | rfl <;> simp
  have HX7 : Hid (∀ W' : World, Sem.run Tryz.prog (Instr.index 184 (.agg WA) (.int .i64 wd)) W' = .ok (.string (S a)) W') := Lib.hid (by
    intro W'
    rw [← eWA]
    rcases (by omega : wd = 0 ∨ wd = 1 ∨ wd = 2 ∨ wd = 3 ∨ wd = 4 ∨ wd = 5 ∨ wd = 6) with rfl | rfl | rfl | rfl | rfl | rfl | rfl <;> (simp [wdN] at ea; subst ea; rfl))
  have HX12 : Hid (∀ W' : World, Sem.run Tryz.prog (Instr.index 186 (.agg MA) (.int .i64 j)) W' = .ok (.string (S b)) W') := Lib.hid (by
    intro W'
    rw [← eMA]
    rcases (by omega : j = 0 ∨ j = 1 ∨ j = 2 ∨ j = 3 ∨ j = 4 ∨ j = 5 ∨ j = 6 ∨ j = 7 ∨ j = 8 ∨ j = 9 ∨ j = 10 ∨ j = 11) with rfl | rfl | rfl | rfl | rfl | rfl | rfl | rfl | rfl | rfl | rfl | rfl <;> (simp [moN] at eb; subst eb; rfl))
  have HWR : Hid (IntKind.i64.wrap (j : Int) = j) := Lib.hid (wrap_ok (by omega) (by omega))
  rw [eWA] at HW7
  rw [eMA] at HM12
  have hjj : ((j + 1 : Nat) : Int) = (j : Int) + 1 := by omega
  rw [hjj] at p1
  rw [hjj]
  go_upto_region 5 with (fail)
  refine wp_region_kp (by kernel_rfl) (by kernel_rfl) ?_
  repeat (quiet_step (first | (rw [HX7.out]; exact ⟨rfl, rfl⟩) | (rw [HWR.out, HX12.out]; exact ⟨rfl, rfl⟩) | (rw [HX12.out]; exact ⟨rfl, rfl⟩) | (go_at_call 117; ((refine HW7.out _ _ ?_); intro w' k'; exact kpx_mk k')) | (go_at_call 118; ((refine HM12.out _ _ ?_); intro w' k'; exact kpx_mk k')) | (go_at_call 116; ((refine DD.out _ _ _ _ (by omega) (HL3.out (kpw_kp _ _)) ?_); intro w' k'; exact kpx_mk k')) | (rw [if_neg (by simp only [List.length_append, List.length_cons, List.length_nil]; omega)]; exact ⟨rfl, rfl⟩) | (rw [if_neg (by omega)]; exact ⟨rfl, rfl⟩)))
  refine wpQuiet_nil ?_
  intro W4 k4
  go_wp2
  exact rcast (H.out y (j + 1) d hh mi s wd a b CV.out ea eb _ (kW3.trans k4)) (by unfold prL; rw [← HCK.out]; simp [S_append])
end
/-! ### The document's calendar, by the days since March 1 of the year 0: the plain law. -/
section
open Go.RowKit
set_option linter.unusedVariables false
set_option linter.unusedSimpArgs false
set_option maxRecDepth 100000

def allB (f : Nat → Bool) : Nat → Bool
  | 0 => true
  | n + 1 => f n && allB f n
theorem allB_at {f : Nat → Bool} : ∀ {n : Nat}, allB f n = true → ∀ i, i < n → f i = true
  | n + 1, h, i, hi => by
    rw [allB, Bool.and_eq_true] at h
    rcases Nat.lt_or_ge i n with h1 | h1
    · exact allB_at h.2 i h1
    · rw [show i = n by omega]; exact h.1
def yoeN (doe : Nat) : Nat := (doe - doe / 1460 + doe / 36524 - doe / 146096) / 365
def marL (y : Nat) : Nat := if (y + 1) % 4 = 0 ∧ ((y + 1) % 100 ≠ 0 ∨ (y + 1) % 400 = 0) then 366 else 365
theorem yoe_all : allB (fun y => allB (fun d => Nat.beq (yoeN (365 * y + y / 4 - y / 100 + d)) y) (marL y)) 400 = true := by decide +kernel
theorem yoe_ok {y d : Nat} (hy : y < 400) (hd : d < marL y) : yoeN (365 * y + y / 4 - y / 100 + d) = y :=
  Nat.eq_of_beq_eq_true (allB_at (allB_at yoe_all y hy) d hd)
theorem leap_eq (y : Int) : oneI1 (leapB y) = if y % 4 = 0 ∧ (y % 100 ≠ 0 ∨ y % 400 = 0) then 1 else 0 := by
  unfold oneI1 leapB
  by_cases h4 : y % 4 = 0 <;> by_cases h1 : y % 100 = 0 <;> by_cases h0 : y % 400 = 0 <;> simp [h4, h1, h0]
theorem marL_eq {y : Int} {k : Nat} {e : Int} (h : y = 400 * e + k + 1) : (marL k : Int) = 365 + oneI1 (leapB y) := by
  rw [leap_eq]
  unfold marL
  by_cases c : y % 4 = 0 ∧ (y % 100 ≠ 0 ∨ y % 400 = 0)
  · rw [if_pos c, if_pos (by omega)]; rfl
  · rw [if_neg c, if_neg (by omega)]; rfl
theorem civ_y {n : Int} {y m d hh mi s wd : Nat} (c : CivN n y m d hh mi s wd) (h1 : n ≤ 253402300799) : y ≤ 9999 := by
  obtain ⟨y0, y1, m0, m1, d0, d1, he, -⟩ := c
  have hc : 0 ≤ cumM y (m - 1) := by
    generalize m - 1 = k
    induction k with
    | zero => simp [cumM]
    | succ k ih => have := (lenM_pos y (k + 1)).1; simp only [cumM]; omega
  have hb : befY 1970 = 719527 := by decide
  rw [hb] at he
  unfold befY at he
  rcases (by omega : y ≤ 9999 ∨ y = 10000 ∨ 10001 ≤ y) with h | h | h
  · exact h
  · subst h; omega
  · omega
/-- The document's numbers of a date. -/
structure RefC (n : Int) (y m d : Nat) (era yoe mp : Nat) : Prop where
  e1 : era ≤ 30
  y1 : yoe < 400
  p1 : mp ≤ 11
  days : n / 86400 + 719468 = 146097 * (era : Int) + ((365 * yoe + yoe / 4 - yoe / 100 + ((153 * mp + 2) / 5 + d - 1) : Nat) : Int)
  len : (153 * mp + 2) / 5 + d - 1 < marL yoe
  mon : (5 * ((153 * mp + 2) / 5 + d - 1) + 2) / 153 = mp
  fin : (3 ≤ m ∧ mp + 3 = m ∧ yoe + era * 400 = y) ∨ (m ≤ 2 ∧ mp = m + 9 ∧ yoe + era * 400 + 1 = y)
theorem ref_c {n : Int} {y m d hh mi s wd : Nat} (c : CivN n y m d hh mi s wd) : ∃ era yoe mp : Nat, RefC n y m d era yoe mp := by
  obtain ⟨y0, y1, m0, m1, d0, d1, he, -⟩ := c
  have hb : befY 1970 = 719527 := by decide
  have hs := befY_succ y
  have hl := leap_01 (y : Int)
  unfold yLen at hs
  rw [hb] at he
  rcases (by omega : m ≤ 2 ∨ 3 ≤ m) with hm | hm
  · have hL := marL_eq (y := y) (k := (y - 1) % 400) (e := ((y - 1) / 400 : Nat)) (by omega)
    have hcase : m = 1 ∨ m = 2 := by omega
    have hq : (y - 1) % 400 < 400 := Nat.mod_lt _ (by omega)
    unfold befY at he
    refine ⟨(y - 1) / 400, (y - 1) % 400, m + 9, by omega, hq, by omega, ?_, ?_, ?_, .inr ⟨hm, rfl, by omega⟩⟩
    · rcases hcase with rfl | rfl <;> simp [cumM, lenM] at he <;> omega
    · rcases hcase with rfl | rfl <;> simp [lenM] at d1 <;> omega
    · rcases hcase with rfl | rfl <;> simp [lenM] at d1 <;> omega
  · have hq : y % 400 < 400 := Nat.mod_lt _ (by omega)
    have hg : 365 ≤ marL (y % 400) := by unfold marL; split <;> omega
    generalize hbs : befY (y + 1) = bs at hs
    generalize befY (y : Int) = b0 at hs he
    unfold befY at hbs
    have hcase : m = 3 ∨ m = 4 ∨ m = 5 ∨ m = 6 ∨ m = 7 ∨ m = 8 ∨ m = 9 ∨ m = 10 ∨ m = 11 ∨ m = 12 := by omega
    refine ⟨y / 400, y % 400, m - 3, by omega, hq, by omega, ?_, ?_, ?_, .inl ⟨hm, by omega, by omega⟩⟩
    · rcases hcase with rfl | rfl | rfl | rfl | rfl | rfl | rfl | rfl | rfl | rfl <;> simp [cumM, lenM] at he <;> omega
    · rcases hcase with rfl | rfl | rfl | rfl | rfl | rfl | rfl | rfl | rfl | rfl <;> simp [lenM] at d1 <;> omega
    · rcases hcase with rfl | rfl | rfl | rfl | rfl | rfl | rfl | rfl | rfl | rfl <;> simp [lenM] at d1 <;> omega
end
/-! ### The document's calendar walked: Of. -/
section
open Go.RowKit
set_option linter.unusedVariables false
set_option linter.unusedSimpArgs false
set_option maxRecDepth 100000

theorem yoe_int {doe yoe : Nat} (h : yoeN doe = yoe) : ((doe : Int) - (doe : Int) / 1460 + (doe : Int) / 36524 - (doe : Int) / 146096) / 365 = yoe := by
  unfold yoeN at h; omega
structure RefI (n : Int) (y m d : Int) (D E O Y L M : Int) : Prop where
  hD : n / 86400 = D
  b : 0 ≤ D ∧ D ≤ 2932896
  q1 : (D + 719468) / 146097 = E
  q2 : (D + 719468) % 146097 = O
  q3 : (O - O / 1460 + O / 36524 - O / 146096) / 365 = Y
  q4 : O - (365 * Y + Y / 4 - Y / 100) = L
  q5 : (5 * L + 2) / 153 = M
  q6 : L - (153 * M + 2) / 5 + 1 = d
  bE : 0 ≤ E ∧ E ≤ 30
  bO : 0 ≤ O ∧ O ≤ 146096
  bY : 0 ≤ Y ∧ Y ≤ 399
  bL : 0 ≤ L ∧ L ≤ 366
  bM : 0 ≤ M ∧ M ≤ 11
  fin : (M < 10 ∧ M + 3 = m ∧ Y + E * 400 = y) ∨ (10 ≤ M ∧ M - 9 = m ∧ Y + E * 400 + 1 = y)
theorem ref_i {n : Int} {y m d hh mi s wd : Nat} (c : CivN n y m d hh mi s wd) (h0 : 0 ≤ n) (h1 : n ≤ 253402300799) : ∃ D E O Y L M : Int, RefI n y m d D E O Y L M := by
  obtain ⟨era, yoe, mp, e1, y1, p1, days, len, mon, fin⟩ := ref_c c
  have hy := yoe_ok y1 len
  have hi := yoe_int hy
  have hm : marL yoe ≤ 366 := by unfold marL; split <;> omega
  have d0 := c.d0
  have m0 := c.m0
  have m1 := c.m1
  obtain ⟨doy, hd⟩ : ∃ x, (153 * mp + 2) / 5 + d - 1 = x := ⟨_, rfl⟩
  rw [hd] at days len mon hi
  obtain ⟨doe, hdo⟩ : ∃ x, 365 * yoe + yoe / 4 - yoe / 100 + doy = x := ⟨_, rfl⟩
  rw [hdo] at days hi
  have hdo2 : doe ≤ 146096 := by
    have : yoe = 399 ∨ yoe ≤ 398 := by omega
    rcases this with rfl | h
    · have : marL 399 = 366 := by decide
      omega
    · omega
  refine ⟨n / 86400, era, doe, yoe, doy, mp, rfl, by omega, by omega, by omega, hi, by omega, by omega, by omega, by omega, by omega, by omega, by omega, by omega, ?_⟩
  rcases fin with ⟨f1, f2, f3⟩ | ⟨f1, f2, f3⟩
  · left; omega
  · right; omega
set_option maxHeartbeats 2000000 in
theorem rof_any {R : Ending → World → Prop} (n : Int) (w : World) (h0 : 0 ≤ n) (h1 : n ≤ 253402300799) {y m d hh mi s wd : Nat} (c : CivN n y m d hh mi s wd) (h : ∀ w', Kp [] w w' → R (.returned (.agg #[.int .i64 y, .int .i64 m, .int .i64 d, .int .i64 hh, .int .i64 mi, .int .i64 s, .int .i64 wd])) w') : Calls Tryz.prog 126 #[.int .i64 n] w R := by
  have H := Lib.hid h
  obtain ⟨D, E, O, Y, L, M, hD, b, q1, q2, q3, q4, q5, q6, bE, bO, bY, bL, bM, fin⟩ := ref_i c h0 h1
  obtain ⟨c0, c1, c2, c3, c4, c5, c6, eh, emi, es, ew⟩ := c
  clear c2 c3 c4 c5 c6 c0 c1 h
  obtain ⟨sd, hsd⟩ : ∃ sd, n % 86400 = sd := ⟨_, rfl⟩
  have bsd : 0 ≤ sd ∧ sd < 86400 := by omega
  have r1 : sd / 3600 = hh := by omega
  have r2 : sd % 3600 / 60 = mi := by omega
  have r3 : sd % 60 = s := by omega
  have r4 : (D + 4) % 7 = wd := by omega
  generalize (y : Int) = yy at *
  generalize (m : Int) = mm at *
  generalize (d : Int) = dd at *
  generalize (hh : Int) = hh at *
  generalize (mi : Int) = mi at *
  generalize (s : Int) = ss at *
  generalize (wd : Int) = ww at *
  clear eh emi es ew
  obtain ⟨b0, b1⟩ := b
  obtain ⟨bE0, bE1⟩ := bE
  obtain ⟨bO0, bO1⟩ := bO
  obtain ⟨bY0, bY1⟩ := bY
  obtain ⟨bL0, bL1⟩ := bL
  obtain ⟨bM0, bM1⟩ := bM
  obtain ⟨bs0, bs1⟩ := bsd
  go_enter Tryz.func126, Tryz.ntmps126
  rcases fin with ⟨f1, f2, f3⟩ | ⟨f1, f2, f3⟩
  all_goals
    go_wp2
    exact bodyPost_ret (v := .agg #[.int .i64 yy, .int .i64 mm, .int .i64 dd, .int .i64 hh, .int .i64 mi, .int .i64 ss, .int .i64 ww]) (by simp [results, Tryz.results126, go_sem]; try rfl) rfl (H.out _ (((Kp.refl _ _).alloc _).alloc _))
theorem may3_any {R : Ending → World → Prop} (n : Int) (w : World) (h : R (.returned (.bool (decide (0 ≤ n) && decide (n ≤ 253402300799)))) w) : Calls Tryz.prog 95 #[.int .i64 n] w R := by
  have H := Lib.hid h
  clear h
  by_cases h0 : 0 ≤ n <;> by_cases h1 : n ≤ 253402300799
  all_goals
    go_enter Tryz.func95, Tryz.ntmps95
    go_wp2
    first | exact rcast H.out (by simp [h0, h1]) | (simp [h0, h1] at H; exact H.out)
def twoL (n : Nat) : List UInt8 := [UInt8.ofNat (48 + n / 10 % 10), UInt8.ofNat (48 + n % 10)]
set_option maxHeartbeats 1000000 in
theorem two_any {R : Ending → World → Prop} (n : Nat) (w : World) (hn : n ≤ 999) (h : ∀ w', Kp [] w w' → R (.returned (.string (S (twoL n)))) w') : Calls Tryz.prog 127 #[.int .i64 n] w R := by
  have H := Lib.hid h
  clear h
  obtain ⟨c, hc⟩ : ∃ c : UInt8, c = UInt8.ofNat (48 + n / 10 % 10) := ⟨_, rfl⟩
  obtain ⟨e, he⟩ : ∃ e : UInt8, e = UInt8.ofNat (48 + n % 10) := ⟨_, rfl⟩
  have hcn : c.toNat = 48 + n / 10 % 10 := by rw [hc, UInt8.toNat_ofNat']; omega
  have hen : e.toNat = 48 + n % 10 := by rw [he, UInt8.toNat_ofNat']; omega
  have hE1 : 48 + (n : Int) / 10 % 10 = (c.toNat : Int) := by omega
  have hE2 : 48 + (n : Int) % 10 = (e.toNat : Int) := by omega
  have hcl := c.toNat_lt
  have hel := e.toNat_lt
  have hcv : (convert 52 9 (.slice (some ⟨w.heap.size, 0, none⟩) 2 2)).run Tryz.prog (w.alloc (.cells #[.int .u8 c.toNat, .int .u8 e.toNat] 5)) = .ok (.string (S [c, e])) (w.alloc (.cells #[.int .u8 c.toNat, .int .u8 e.toNat] 5)) :=
    conv_bs (N := []) (l := [c, e]) (Rd.of_bk (Bk.newAt rfl _ _) (by simp)) rfl
  have HT : Hid (twoL n = [c, e]) := Lib.hid (by unfold twoL; rw [← hc, ← he])
  clear hc he hcn hen
  go_enter Tryz.func127, Tryz.ntmps127
  go_wp2
  exact rcast (H.out _ ((Kp.refl _ _).alloc _)) (congrArg (fun l => Value.string (S l)) HT.out)
theorem digL2 (n : Nat) (h : n ≤ 99) : digL n 2 = twoL n := by
  unfold digL twoL
  by_cases h1 : n < 10
  · rw [decL_small h1, show n / 10 % 10 = 0 by omega, show n % 10 = n by omega]; rfl
  · rw [decL_big h1, decL_small (by omega), show n / 10 % 10 = n / 10 by omega]; rfl
theorem digL4 (n : Nat) (h0 : 1000 ≤ n) (h : n ≤ 9999) : digL n 4 = twoL (n / 100) ++ twoL (n % 100) := by
  unfold digL twoL
  rw [decL_big (by omega), decL_big (n := n / 10) (by omega), decL_big (n := n / 10 / 10) (by omega), decL_small (by omega)]
  rw [show n / 100 / 10 % 10 = n / 10 / 10 / 10 by omega, show n / 100 % 10 = n / 10 / 10 % 10 by omega, show n % 100 / 10 % 10 = n / 10 % 10 by omega, show n % 100 % 10 = n % 10 by omega]
  rfl
end
/-! ### A strings.Builder embedded in a struct of one field: copyCheck, WriteString, String (lines of the kit's template, turned). -/
section
open Go.RowKit
set_option linter.unusedVariables false
set_option linter.unusedSimpArgs false
set_option maxRecDepth 100000

theorem bsize : ∃ j : TypeInfo, Tryz.prog.info? 146 = some j ∧ j.size ≠ 0 := by
  have h : (Tryz.prog.info? 146).map (fun j => decide (j.size ≠ 0)) = some true := by kernel_rfl
  obtain ⟨j, hj, hs⟩ := Option.map_eq_some_iff.1 h
  exact ⟨j, hj, by simpa using hs⟩
theorem blies : liesAt Tryz.prog Tryz.prog.depth 148 (2 / Tryz.prog.cellsOf 146) 0 146 1 = true := by kernel_rfl
theorem bbyte : (Tryz.prog.info? 5).map (fun i => (i.zero, i.size, i.bytes)) = some (some (.int .u8 0), 1, 1) := by kernel_rfl
def BlA (B b : Nat) (p : Value) (bs : List Value) (w : World) : Prop := Lib.BuilderAt 148 5 B b p bs w
def BlI (B b : Nat) (bs : List Value) (w : World) : Prop := Lib.IsBuilder 148 5 B b bs w
set_option maxHeartbeats 1000000 in
theorem ccheck_used (b : Nat) (w : World) (h0 : w.cell? ⟨b, 0, none⟩ = some (.pointer (some ⟨b, 0, none⟩))) :
    Calls Tryz.prog 123 #[.pointer (some ⟨b, 0, none⟩)] w fun e w' => e = .returned (.tuple #[]) ∧ w' = w := by
  obtain ⟨j, hj, _⟩ := bsize
  go_enter Tryz.func123, Tryz.ntmps123
  go_wp2
  rw [Lib.run_neq_ptr_same w _ Tryz.underlying144 hj]
  go_wp2
  go_end0
  exact ⟨rfl, rfl⟩
set_option maxHeartbeats 1000000 in
theorem ccheck_fresh (b : Nat) (w : World) (h0 : w.cell? ⟨b, 0, none⟩ = some (.pointer none)) (hsh : w.shape? b = some (148, 2)) (hfz : w.frozen? ⟨b, 0, none⟩ = false) :
    Calls Tryz.prog 123 #[.pointer (some ⟨b, 0, none⟩)] w fun e w' => e = .returned (.tuple #[]) ∧ w' = w.setCell ⟨b, 0, none⟩ (.pointer (some ⟨b, 0, none⟩)) := by
  obtain ⟨j, hj, hjs⟩ := bsize
  go_enter Tryz.func123, Tryz.ntmps123
  go_wp2
  rw [Lib.run_to_unsafe w ⟨b, 0, none⟩ Tryz.underlying144 Tryz.underlying211 hj hjs hsh (Nat.zero_lt_succ 1)]
  simp only [Result.andThen]
  rw [Oper.upon_value]
  go_wp2
  rw [run_callFunc_extern Tryz.func150 (by kernel_rfl) (by kernel_rfl) (by kernel_rfl) (e := Extern.AbiNoEscape.same) (by kernel_rfl)]
  rw [Lib.run_noEscape]
  simp only [Result.andThen]
  rw [Oper.upon_value]
  go_wp2
  rw [Lib.run_from_unsafe w ⟨b, 0, none⟩ Tryz.underlying211 Tryz.underlying144 hj hsh blies]
  simp only [Result.andThen]
  rw [Oper.upon_value]
  go_wp2
  go_end0
  exact ⟨rfl, rfl⟩
theorem ccheck_any (B b : Nat) (bs : List Value) (w : World) (h : BlI B b bs w) :
    Calls Tryz.prog 123 #[.pointer (some ⟨b, 0, none⟩)] w fun e w' => e = .returned (.tuple #[]) ∧ (BlA B b (.pointer (some ⟨b, 0, none⟩)) bs w' ∧ Below B w w') := by
  rcases h with h | h
  · refine (ccheck_fresh b w h.cell0 h.shape h.frozen0).mono ?_
    rintro e w' ⟨rfl, rfl⟩
    exact ⟨rfl, h.used _, (Below.refl B w).setCell (p := ⟨b, 0, none⟩) h.1 _⟩
  · refine (ccheck_used b w h.cell0).mono ?_
    rintro e w' ⟨rfl, rfl⟩
    exact ⟨rfl, h, Below.refl B _⟩
set_option maxHeartbeats 2000000 in
theorem bwrite_any (B b : Nat) (bs : List Value) (s : ByteArray) (w : World) (h : BlI B b bs w) (hlen : bs.length + s.size ≤ 140737488355328) (hBw : B ≤ w.heap.size) :
    Calls Tryz.prog 78 #[.pointer (some ⟨b, 0, none⟩), .string s] w fun e w' => e = .returned (.tuple #[.int .i64 s.size, .nilIface]) ∧ (BlA B b (.pointer (some ⟨b, 0, none⟩)) (bs ++ Lib.strCells s) w' ∧ Below B w w') := by
  obtain ⟨i0, hi, hz0, hz1, hz2⟩ := info_parts bbyte
  go_enter Tryz.func78, Tryz.ntmps78
  go_wp2_with (go_at_call 123; (refine (ccheck_any B b bs _ h).mono ?_))
  rintro e w1 ⟨rfl, h1, hb1⟩
  obtain ⟨hB, v, hbk, hown, hne⟩ := h1
  have c0 : w1.cell? ⟨b, 0, none⟩ = some (.pointer (some ⟨b, 0, none⟩)) := by rw [Lib.cell_of_heap hbk]; rfl
  have c1 : w1.cell? ⟨b, 1, none⟩ = some v := by rw [Lib.cell_of_heap hbk]; rfl
  go_wp2_with (at_builtin; refine Lib.wpList_append_own_string _ rfl _ _ 52 9 rfl B 5 i0 Tryz.underlying52 Tryz.underlying9 hi hz0 hz1 hz2 _ _ _ rfl hown s rfl ?c3 ?c4 ?c5 ?_)
  case c3 => unfold maxLen; omega
  case c4 => omega
  case c5 => have := hb1.size; omega
  intro v' w2 hown' hgrow _
  have hlt : b < w1.heap.size := by
    rcases Nat.lt_or_ge b w1.heap.size with h' | h'
    · exact h'
    · simp [Array.getElem?_eq_none h'] at hbk
  have hb2 : w2.heap[b]? = some (.cells #[.pointer (some ⟨b, 0, none⟩), v] 148 (0, 0)) := by
    rw [hgrow.block b hlt (fun e => hne e.symm)]
    exact hbk
  have d0 : w2.cell? ⟨b, 0, none⟩ = some (.pointer (some ⟨b, 0, none⟩)) := by rw [Lib.cell_of_heap hb2]; rfl
  have d1 : w2.cell? ⟨b, 1, none⟩ = some v := by rw [Lib.cell_of_heap hb2]; rfl
  have f1 : w2.frozen? ⟨b, 1, none⟩ = false := Lib.frozen_of_heap hb2 1
  obtain ⟨ao, n', cap, rfl⟩ : ∃ ao n' cap, v' = .slice ao n' cap := by
    rcases hown'.2 with ⟨hv, _⟩ | ⟨g, cap, cur, hv, _⟩
    · exact ⟨_, _, _, hv⟩
    · exact ⟨_, _, _, hv⟩
  go_wp2
  go_ret2
  refine ⟨rfl, ?_, ?_⟩
  · exact Lib.BuilderAt.put (T := 148) (e := 5) hB hb2 (bs' := bs ++ Lib.strCells s) (by simpa [Lib.strCells_length] using hown') (by decide)
  · exact (hb1.grown hgrow (by have := hb1.size; omega) (fun k hk => (hown.lt k hk).1)).setCell (p := ⟨b, 1, none⟩) hB _
set_option maxHeartbeats 1000000 in
theorem bstring_any (B b : Nat) (l : List UInt8) (w : World) (h : BlI B b (Lib.byteCells l) w) (h0 : l ≠ []) :
    Calls Tryz.prog 84 #[.pointer (some ⟨b, 0, none⟩)] w fun e w' => e = .returned (.string ⟨l.toArray⟩) ∧ Below B w w' := by
  obtain ⟨p, hB, v, hbk, hown, hne⟩ : ∃ p, BlA B b p (Lib.byteCells l) w := by
    rcases h with h | h
    · exact ⟨_, h⟩
    · exact ⟨_, h⟩
  have hl0 : l.length ≠ 0 := by simpa using h0
  rw [Lib.byteCells_length] at hown
  obtain ⟨g, cap, cur, rfl, hbg, hg, hnc, hcm, hcs, htake⟩ : ∃ g cap cur, v = .slice (some ⟨g, 0, none⟩) l.length cap ∧ B ≤ g ∧ w.heap[g]? = some (.cells cur 5 (0, 0)) ∧ l.length ≤ cap ∧ cap ≤ maxLen ∧ cur.size = cap * 1 ∧ cur.toList.take (l.length * 1) = Lib.byteCells l := by
    rcases hown.2 with ⟨_, hz⟩ | ⟨g, cap, cur, hv, r⟩
    · exact absurd hz hl0
    · exact ⟨g, cap, cur, hv, r⟩
  have c1 : w.drew.cell? ⟨b, 1, none⟩ = some (.slice (some ⟨g, 0, none⟩) l.length cap) := by
    have : w.drew.heap[b]? = some (.cells #[p, .slice (some ⟨g, 0, none⟩) l.length cap] 148 (0, 0)) := hbk
    rw [Lib.cell_of_heap this]; rfl
  have hSD : (Builtin.unsafeSliceData_ #[52] 192 #[.slice (some ⟨g, 0, none⟩) l.length cap]).run Tryz.prog w.drew = .ok (.pointer (some ⟨g, 0, none⟩)) w.drew :=
    Lib.run_unsafeSliceData_row _ _ _ _ _ _ (by omega)
  have hUS : (Builtin.unsafeString_ #[192, 3] 9 #[.pointer (some ⟨g, 0, none⟩), .int .i64 l.length]).run Tryz.prog w.drew = .ok (.string ⟨l.toArray⟩) (w.drew.freeze ⟨g, 0, none⟩ l.length) := by
    refine Lib.run_unsafeString_row w.drew 192 3 9 5 Tryz.underlying192 (by kernel_rfl) g cur.size (by have hg' : w.drew.heap[g]? = some (.cells cur 5 (0, 0)) := hg; simp [World.shape?, hg']) l h0 (by omega) (by unfold maxLen at hcm; omega) ?_
    intro j x hx
    have := hown.cells (g := g) rfl j (.int .u8 x.toNat) (by simp [Lib.byteCells, hx])
    exact this
  have mixed : Tryz.prog.follows .mixedOrders = true := by kernel_rfl
  go_enter Tryz.func84, Tryz.ntmps84
  go_wp2
  go_region_o
  all_goals (go_wp2; go_ret; exact ⟨rfl, Lib.below_freeze (Below.drew (Below.refl B w)) (p := ⟨g, 0, none⟩) hbg _⟩)
/-- The builder as a list of bytes, over the world that was when the call began. -/
structure Bl (w0 W : World) (b : Nat) (l : List UInt8) : Prop where
  kp : Kp [] w0 W
  is : BlI w0.heap.size b (Lib.byteCells l) W
theorem Bl.new {w0 W : World} (k : Kp [] w0 W) (h : W.heap.size = w0.heap.size) : Bl w0 (W.alloc (.cells #[.pointer none, .slice none 0 0] 148)) W.heap.size [] :=
  ⟨k.alloc _, by unfold BlI; rw [← h]; exact Lib.fresh_isBuilder _ _ W⟩
theorem strc (l : List UInt8) : Lib.strCells (S l) = Lib.byteCells l := by unfold Lib.strCells Lib.byteCells; simp [S]
theorem bytec_app (a b : List UInt8) : Lib.byteCells a ++ Lib.byteCells b = Lib.byteCells (a ++ b) := by simp [Lib.byteCells]
theorem bw_any {R : Ending → World → Prop} {w0 W : World} {b : Nat} {l s : List UInt8} (h : Bl w0 W b l) (hl : l.length + s.length ≤ 100000000) (hk : ∀ W', Bl w0 W' b (l ++ s) → R (.returned (.tuple #[.int .i64 s.length, .nilIface])) W') :
    Calls Tryz.prog 78 #[.pointer (some ⟨b, 0, none⟩), .string (S s)] W R := by
  have e0 : (Lib.byteCells l).length = l.length := Lib.byteCells_length l
  refine (bwrite_any w0.heap.size b _ (S s) W h.is (by rw [e0, S_size]; omega) h.kp.size).mono ?_
  rintro e W' ⟨rfl, hA, hB⟩
  rw [S_size]
  refine hk W' ⟨⟨hB.os.trans h.kp.os, hB.tape.trans h.kp.tape, hB.output.trans h.kp.output, Nat.le_trans h.kp.size hB.size, fun i hi hn => (hB.block i hi).trans (h.kp.block i hi hn)⟩, .inr ?_⟩
  · rw [strc, bytec_app] at hA; exact hA
theorem bs_any {R : Ending → World → Prop} {w0 W : World} {b : Nat} {l : List UInt8} (h : Bl w0 W b l) (h0 : l ≠ []) (hk : ∀ W', Kp [] w0 W' → R (.returned (.string (S l))) W') :
    Calls Tryz.prog 84 #[.pointer (some ⟨b, 0, none⟩)] W R := by
  refine (bstring_any w0.heap.size b l W h.is h0).mono ?_
  rintro e W' ⟨rfl, hB⟩
  exact hk W' ⟨hB.os.trans h.kp.os, hB.tape.trans h.kp.tape, hB.output.trans h.kp.output, Nat.le_trans h.kp.size hB.size, fun i hi hn => (hB.block i hi).trans (h.kp.block i hi hn)⟩
theorem Bl.step {w0 W W' : World} {b : Nat} {l : List UInt8} (h : Bl w0 W b l) (k : Kp [] W W') : Bl w0 W' b l := by
  refine ⟨h.kp.trans k, ?_⟩
  have hs := h.kp.size
  have key : ∀ p, BlA w0.heap.size b p (Lib.byteCells l) W → BlA w0.heap.size b p (Lib.byteCells l) W' := by
    rintro p ⟨hB, v, hbk, hown, hne⟩
    refine ⟨hB, v, ?_, ?_, hne⟩
    · rw [k.block b ?_ (by simp)]; exact hbk
      rcases Nat.lt_or_ge b W.heap.size with h' | h'
      · exact h'
      · simp [Array.getElem?_eq_none h'] at hbk
    · refine ⟨hown.1, ?_⟩
      rcases hown.2 with hn | ⟨g, cap, cur, hv, hb, hg, rest⟩
      · exact .inl hn
      · refine .inr ⟨g, cap, cur, hv, hb, ?_, rest⟩
        rw [k.block g (Array.getElem?_eq_some_iff.1 hg).1 (by simp)]
        exact hg
  rcases h.is with h1 | h1
  · exact .inl (key _ h1)
  · exact .inr (key _ h1)
set_option maxHeartbeats 1000000 in
/-- A line of a head, if it is so. -/
theorem add_any {R : Ending → World → Prop} {w0 W : World} {b : Nat} {l n v : List UInt8} (is : Bool) (h : Bl w0 W b l) (hl : l.length ≤ 100000) (hn : n.length ≤ 1000) (hv : v.length ≤ 100000)
    (hk : ∀ W', Bl w0 W' b (if is then l ++ (n ++ 58 :: 32 :: (v ++ [13, 10])) else l) → R (.returned (.tuple #[])) W') :
    Calls Tryz.prog 79 #[.pointer (some ⟨b, 0, none⟩), .bool is, .string (S n), .string (S v)] W R := by
  have H := Lib.hid hk
  have B := Lib.hid h
  clear hk h
  cases is
  · go_enter Tryz.func79, Tryz.ntmps79
    go_wp2
    go_end0
    exact H.out _ B.out
  · go_enter Tryz.func79, Tryz.ntmps79
    go_wp2_with (go_at_call 78; ((refine bw_any B.out (by simp only [List.length_append, List.length_cons, List.length_nil]; omega) ?_); intro W1 h1))
    go_end0
    exact H.out _ h1
end
end Go.Proofs.YtnmafahbdfilcaaGreatDoor
