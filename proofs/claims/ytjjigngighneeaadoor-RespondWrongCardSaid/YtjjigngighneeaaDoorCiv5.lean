/- Package civil: Print. -/
import Derived.Test.YtjjigngighneeaaDoorCiv4
namespace Go.Proofs.YtjjigngighneeaaDoor
open Go.RowKit
set_option linter.unusedVariables false
set_option linter.unusedSimpArgs false
set_option maxRecDepth 100000

def prL (y m d h mi s : Nat) (a b : List UInt8) : List UInt8 := a ++ [44, 32] ++ digL d 2 ++ [32] ++ b ++ [32] ++ digL y 4 ++ [32] ++ (digL h 2 ++ [58] ++ digL mi 2 ++ [58] ++ digL s 2) ++ [32, 71, 77, 84]
theorem decL_1 (n : Nat) : 1 ≤ (decL n).length := by
  by_cases h : n < 10
  · rw [decL_small h]; simp
  · rw [decL_big h]; simp
theorem decL_3 (n : Nat) (h : 1000 ≤ n) : 3 ≤ (decL n).length := by
  rw [decL_big (by omega), decL_big (n := n / 10) (by omega)]
  have := decL_1 (n / 10 / 10)
  simp; omega
theorem digL_len (n wd : Nat) (hn : n ≤ 99999) (hw : wd ≤ 4) : (digL n wd).length ≤ 25 := by
  have := decL_len20 (n := n) (by omega)
  unfold digL; simp; omega
theorem lenM_31 (y : Int) (m : Int) : lenM y m ≤ 31 := (lenM_pos y m).2
/-- The date of a second, in numbers. -/
structure CivN (n : Int) (y m d hh mi s wd : Nat) : Prop where
  y0 : 1970 ≤ y
  y1 : y ≤ 10400
  m0 : 1 ≤ m
  m1 : m ≤ 12
  d0 : 1 ≤ d
  d1 : (d : Int) ≤ lenM y m
  he : befY y + cumM y (m - 1) + ((d : Int) - 1) = befY 1970 + n / 86400
  eh : (hh : Int) = n % 86400 / 3600
  emi : (mi : Int) = n % 86400 / 60 % 60
  es : (s : Int) = n % 60
  ew : (wd : Int) = (n / 86400 + 4) % 7
/-- civil.Of, its numbers as numbers. -/
theorem cof_nat {R : Ending → World → Prop} (n : Int) (w : World) (h0 : 0 ≤ n) (h1 : n ≤ 253402300799)
    (h : ∀ (y m d hh mi s wd : Nat), CivN n y m d hh mi s wd → ∀ w', Kp [] w w' →
      R (.returned (.tuple #[.agg #[.int .i64 y, .int .i64 m, .int .i64 d, .int .i64 hh, .int .i64 mi, .int .i64 s, .int .i64 wd], .int .i64 0])) w') :
    Calls Tryd.prog 59 #[.int .i64 n] w R := by
  refine cof_any n w h0 h1 ?_
  intro Y m d y0 y1 m0 m1 d0 d1 he w' k
  have hl := lenM_31 Y m
  obtain ⟨y, rfl⟩ := Int.eq_ofNat_of_zero_le (show 0 ≤ Y by omega)
  obtain ⟨e, he'⟩ := Int.eq_ofNat_of_zero_le (show 0 ≤ d + 1 by omega)
  obtain ⟨a, ea⟩ := Int.eq_ofNat_of_zero_le (show 0 ≤ n % 86400 / 3600 by omega)
  obtain ⟨b, eb⟩ := Int.eq_ofNat_of_zero_le (show 0 ≤ n % 86400 / 60 % 60 by omega)
  obtain ⟨c, ec⟩ := Int.eq_ofNat_of_zero_le (show 0 ≤ n % 60 by omega)
  obtain ⟨f, ef⟩ := Int.eq_ofNat_of_zero_le (show 0 ≤ (n / 86400 + 4) % 7 by omega)
  rw [he', ea, eb, ec, ef]
  exact h y m e a b c f ⟨by omega, by omega, m0, m1, by omega, by omega, by omega, ea.symm, eb.symm, ec.symm, ef.symm⟩ w' k
set_option maxHeartbeats 4000000 in
theorem print_any {R : Ending → World → Prop} (n : Int) (w : World) (h0 : 0 ≤ n) (h1 : n ≤ 253402300799) (hw : Lw w)
    (h : ∀ (y m d hh mi s wd : Nat) (a b : List UInt8), CivN n y m d hh mi s wd → wdN[wd]? = some a → moN[m - 1]? = some b → ∀ w', Kp [] w w' → R (.returned (.tuple #[.string (S (prL y m d hh mi s a b)), .int .i64 0])) w') : Calls Tryd.prog 38 #[.int .i64 n] w R := by
  have H := Lib.hid h
  clear h
  go_enter Tryd.func38, Tryd.ntmps38
  go_upto_region 4 with (go_at_call 59; ((refine cof_nat n _ h0 h1 ?_); intro y m d hh mi s wd cv W0 k0))
  have CV := Lib.hid cv
  obtain ⟨y0, y1, m0, m1, d0, d1, he, eh, emi, es, ew⟩ := cv
  have dm := lenM_31 y m
  have hh1 : hh ≤ 23 := by omega
  have mi1 : mi ≤ 59 := by omega
  have s1 : s ≤ 59 := by omega
  have wd1 : wd ≤ 6 := by omega
  have d31 : d ≤ 31 := by omega
  clear he eh emi es ew d1 dm
  refine gen_worldC (fun W => ∃ g, W0.heap.size = g ∧ Kp [] w W ∧ Bk W g 115 (dC y m d hh mi s wd)) ⟨_, rfl, k0.trans ((Kp.refl _ _).alloc _), (Bk.new' _ _ _).cast rfl⟩ ?_
  intro W ⟨g, hg, kW, bW⟩
  rw [hg]
  clear hg k0
  have HL : Hid (∀ {W' : World}, Kp [] W W' → Lw W') := Lib.hid (fun k => hw.kp (kW.trans k))
  have DD : Hid (∀ (R : Ending → World → Prop) (x : Nat) (k : Int) (w : World), (k = 2 ∧ x ≤ 99 ∨ k = 4 ∧ 1000 ≤ x ∧ x ≤ 99999) → Lw w → (∀ w', Kp [] w w' → R (.returned (.string (S (digL x k.toNat)))) w') → Calls Tryd.prog 60 #[.int .i64 x, .int .i64 k] w R) :=
    Lib.hid (fun R x k w hx a b => by
      rcases hx with ⟨rfl, hx⟩ | ⟨rfl, hx, hy⟩
      · exact digits_any x 2 w (by omega) (by omega) (by have := decL_1 x; omega) a b
      · exact digits_any x 4 w (by omega) (by omega) (by have := decL_3 x hx; omega) a b)
  obtain ⟨⟨p0, p1, p2, p3, p4, p5, p6⟩, ⟨z0, z1, z2, z3, z4, z5, z6⟩⟩ := bk7 bW
  have q1 := digL_len hh 2 (by omega) (by omega)
  have q2 := digL_len mi 2 (by omega) (by omega)
  have q3 := digL_len s 2 (by omega) (by omega)
  have q4 := digL_len d 2 (by omega) (by omega)
  have q5 := digL_len y 4 (by omega) (by omega)
  refine wp_region_kp (by kernel_rfl) (by kernel_rfl) ?_
  repeat (quiet_step (first | (go_at_call 60; ((refine DD.out _ _ _ _ (by omega) (HL.out (kpw_kp _ _)) ?_); intro w' k'; exact kpx_mk k')) | (rw [if_neg (by simp only [List.length_append, List.length_cons, List.length_nil]; omega)]; exact ⟨rfl, rfl⟩) | (rw [if_neg (by omega)]; exact ⟨rfl, rfl⟩)))
  refine wpQuiet_nil ?_
  intro W3 k3
  have q6 : (digL hh 2 ++ 58 :: (digL mi 2 ++ 58 :: digL s 2)).length ≤ 100 := by simp; omega
  obtain ⟨clk, hclk⟩ : ∃ clk, digL hh 2 ++ 58 :: (digL mi 2 ++ 58 :: digL s 2) = clk := ⟨_, rfl⟩
  rw [hclk] at q6 ⊢
  have HCK := Lib.hid hclk
  clear hclk
  clear p0 p1 p2 p3 p4 p5 p6 z0 z1 z2 z3 z4 z5 z6
  have bW3 := bW.kp k3 (by simp)
  have kW3 := kW.trans k3
  have HL3 : Hid (∀ {W' : World}, Kp [] W3 W' → Lw W') := Lib.hid (fun k => hw.kp (kW3.trans k))
  obtain ⟨⟨p0, p1, p2, p3, p4, p5, p6⟩, ⟨z0, z1, z2, z3, z4, z5, z6⟩⟩ := bk7 bW3
  obtain ⟨a, ea⟩ : ∃ a, wdN[wd]? = some a := ⟨_, List.getElem?_eq_getElem (by simp [wdN]; omega)⟩
  obtain ⟨j, rfl⟩ : ∃ j, m = j + 1 := ⟨m - 1, by omega⟩
  obtain ⟨b, eb⟩ : ∃ b, moN[j]? = some b := ⟨_, List.getElem?_eq_getElem (by simp [moN]; omega)⟩
  have HW7 : Hid (∀ (R : Ending → World → Prop) (w : World), (∀ w', Kp [] w w' → R (.returned (.agg (wdN.map fun x => .string (S x)).toArray)) w') → Calls Tryd.prog 61 #[] w R) := Lib.hid (fun R w h => wd_any w h)
  have HM12 : Hid (∀ (R : Ending → World → Prop) (w : World), (∀ w', Kp [] w w' → R (.returned (.agg (moN.map fun x => .string (S x)).toArray)) w') → Calls Tryd.prog 62 #[] w R) := Lib.hid (fun R w h => mo_any w h)
  obtain ⟨WA, eWA⟩ : ∃ WA, (wdN.map fun x => Value.string (S x)).toArray = WA := ⟨_, rfl⟩
  obtain ⟨MA, eMA⟩ : ∃ MA, (moN.map fun x => Value.string (S x)).toArray = MA := ⟨_, rfl⟩
  have wa1 : WA[wd]? = some (.string (S a)) := by rw [← eWA]; simp [ea]
  have ma1 : MA[j]? = some (.string (S b)) := by rw [← eMA]; simp [eb]
  have wa2 : WA.size = 7 := by rw [← eWA]; simp [wdN]
  have ma2 : MA.size = 12 := by rw [← eMA]; simp [moN]
  have la : a.length ≤ 3 := by
    have := List.mem_of_getElem? ea
    simp only [wdN, List.mem_cons, List.not_mem_nil, or_false] at this
    rcases this with rfl | rfl | rfl | rfl | rfl | rfl | rfl <;> simp
  have lb : b.length ≤ 3 := by
    have := List.mem_of_getElem? eb
    simp only [moN, List.mem_cons, List.not_mem_nil, or_false] at this
    rcases this with rfl | rfl | rfl | rfl | rfl | rfl | rfl | rfl | rfl | rfl | rfl | rfl <;> simp
  have HX7 : Hid (∀ W' : World, Sem.run Tryd.prog (Instr.index 119 (.agg WA) (.int .i64 wd)) W' = .ok (.string (S a)) W') := Lib.hid (by
    intro W'
    rw [← eWA]
    rcases (by omega : wd = 0 ∨ wd = 1 ∨ wd = 2 ∨ wd = 3 ∨ wd = 4 ∨ wd = 5 ∨ wd = 6) with rfl | rfl | rfl | rfl | rfl | rfl | rfl <;> (simp [wdN] at ea; subst ea; rfl))
  have HX12 : Hid (∀ W' : World, Sem.run Tryd.prog (Instr.index 121 (.agg MA) (.int .i64 j)) W' = .ok (.string (S b)) W') := Lib.hid (by
    intro W'
    rw [← eMA]
    rcases (by omega : j = 0 ∨ j = 1 ∨ j = 2 ∨ j = 3 ∨ j = 4 ∨ j = 5 ∨ j = 6 ∨ j = 7 ∨ j = 8 ∨ j = 9 ∨ j = 10 ∨ j = 11) with rfl | rfl | rfl | rfl | rfl | rfl | rfl | rfl | rfl | rfl | rfl | rfl <;> (simp [moN] at eb; subst eb; rfl))
  have HWR : Hid (IntKind.i64.wrap (j : Int) = j) := Lib.hid (wrap_ok (by omega) (by omega))
  rw [eWA] at HW7
  rw [eMA] at HM12
  have hjj : ((j + 1 : Nat) : Int) = (j : Int) + 1 := by omega
  rw [hjj] at p1
  rw [hjj]
  go_upto_region 5 with (fail)
  refine wp_region_kp (by kernel_rfl) (by kernel_rfl) ?_
  repeat (quiet_step (first | (rw [HX7.out]; exact ⟨rfl, rfl⟩) | (rw [HWR.out, HX12.out]; exact ⟨rfl, rfl⟩) | (rw [HX12.out]; exact ⟨rfl, rfl⟩) | (go_at_call 61; ((refine HW7.out _ _ ?_); intro w' k'; exact kpx_mk k')) | (go_at_call 62; ((refine HM12.out _ _ ?_); intro w' k'; exact kpx_mk k')) | (go_at_call 60; ((refine DD.out _ _ _ _ (by omega) (HL3.out (kpw_kp _ _)) ?_); intro w' k'; exact kpx_mk k')) | (rw [if_neg (by simp only [List.length_append, List.length_cons, List.length_nil]; omega)]; exact ⟨rfl, rfl⟩) | (rw [if_neg (by omega)]; exact ⟨rfl, rfl⟩)))
  refine wpQuiet_nil ?_
  intro W4 k4
  go_wp2
  exact rcast (H.out y (j + 1) d hh mi s wd a b CV.out ea eb _ (kW3.trans k4)) (by unfold prL; rw [← HCK.out]; simp [S_append])
end Go.Proofs.YtjjigngighneeaaDoor
