/- The document's Print and Reason; lengths of parts. -/
import Derived.Test.YtjjigngighneeaaDoorRes1
namespace Go.Proofs.YtjjigngighneeaaDoor
open Go.RowKit
set_option linter.unusedVariables false
set_option linter.unusedSimpArgs false
set_option maxRecDepth 100000

set_option maxHeartbeats 4000000 in
theorem print3_any {R : Ending → World → Prop} (n : Int) (w : World) (h0 : 0 ≤ n) (h1 : n ≤ 253402300799) {D : List UInt8} (ht : Told n D) (h : ∀ w', Kp [] w w' → R (.returned (.string (S D))) w') : Calls Tryd.prog 44 #[.int .i64 n] w R := by
  have H := Lib.hid h
  clear h
  obtain ⟨y, m, d, hh, mi, s, wd, a, b, c, ha, hb, rfl⟩ := ht
  have HOf : Hid (∀ (R : Ending → World → Prop) (w : World), (∀ w', Kp [] w w' → R (.returned (.agg #[.int .i64 y, .int .i64 m, .int .i64 d, .int .i64 hh, .int .i64 mi, .int .i64 s, .int .i64 wd])) w') → Calls Tryd.prog 70 #[.int .i64 n] w R) := Lib.hid (fun R w h => rof_any n w h0 h1 c h)
  have y9 := civ_y c h1
  have y0 := c.y0
  have m0 := c.m0
  have m1 := c.m1
  have d31 : d ≤ 31 := by have := c.d1; have := lenM_31 y m; omega
  have hh1 : hh ≤ 23 := by have := c.eh; omega
  have mi1 : mi ≤ 59 := by have := c.emi; omega
  have s1 : s ≤ 59 := by have := c.es; omega
  have wd1 : wd ≤ 6 := by have := c.ew; omega
  go_enter Tryd.func44, Tryd.ntmps44
  go_upto_region 2 with (go_at_call 70; ((refine HOf.out _ _ ?_); intro w1 k1))
  refine gen_worldC (fun W => ∃ g, w1.heap.size = g ∧ Kp [] w W ∧ Bk W g 130 (dC y m d hh mi s wd)) ⟨_, rfl, k1.alloc _, (Bk.new' _ _ _).cast rfl⟩ ?_
  intro W ⟨g, hg, kW, bW⟩
  rw [hg]
  clear hg k1
  obtain ⟨⟨p0, p1, p2, p3, p4, p5, p6⟩, ⟨z0, z1, z2, z3, z4, z5, z6⟩⟩ := bk7 bW
  have HT2 : Hid (∀ (R : Ending → World → Prop) (x : Int) (w : World), 0 ≤ x ∧ x ≤ 999 → (∀ w', Kp [] w w' → R (.returned (.string (S (twoL x.toNat)))) w') → Calls Tryd.prog 71 #[.int .i64 x] w R) := Lib.hid (fun R x w hx h => by
    obtain ⟨n, rfl⟩ := Int.eq_ofNat_of_zero_le hx.1
    exact two_any n w (by omega) h)
  have HW1 : Hid (IntKind.i64.wrap (3 * (wd : Int)) = 3 * (wd : Int)) := Lib.hid (wrap_ok (by omega) (by omega))
  have HW2 : Hid (IntKind.i64.wrap (3 * (wd : Int) + 3) = 3 * (wd : Int) + 3) := Lib.hid (wrap_ok (by omega) (by omega))
  have HW3 : Hid (IntKind.i64.wrap (3 * (m : Int)) = 3 * (m : Int)) := Lib.hid (wrap_ok (by omega) (by omega))
  have HW4 : Hid (IntKind.i64.wrap (3 * (m : Int) - 3) = 3 * (m : Int) - 3) := Lib.hid (wrap_ok (by omega) (by omega))
  have HW5 : Hid (IntKind.i64.wrap ((y : Int) / 100) = (y : Int) / 100) := Lib.hid (wrap_ok (by omega) (by omega))
  have HW6 : Hid ((y : Int).tmod 100 = (y : Int) % 100) := Lib.hid (Int.tmod_eq_emod_of_nonneg (by omega))
  have HSa : Hid ((List.drop (3 * (wd : Int)).toNat (List.take (3 * (wd : Int) + 3).toNat [83, 117, 110, 77, 111, 110, 84, 117, 101, 87, 101, 100, 84, 104, 117, 70, 114, 105, 83, 97, 116])) = a) := Lib.hid (by
    rcases (by omega : wd = 0 ∨ wd = 1 ∨ wd = 2 ∨ wd = 3 ∨ wd = 4 ∨ wd = 5 ∨ wd = 6) with rfl | rfl | rfl | rfl | rfl | rfl | rfl <;> (simp [wdN] at ha; subst ha; rfl))
  have HSb : Hid ((List.drop (3 * (m : Int) - 3).toNat (List.take (3 * (m : Int)).toNat [74, 97, 110, 70, 101, 98, 77, 97, 114, 65, 112, 114, 77, 97, 121, 74, 117, 110, 74, 117, 108, 65, 117, 103, 83, 101, 112, 79, 99, 116, 78, 111, 118, 68, 101, 99])) = b) := Lib.hid (by
    rcases (by omega : m = 1 ∨ m = 2 ∨ m = 3 ∨ m = 4 ∨ m = 5 ∨ m = 6 ∨ m = 7 ∨ m = 8 ∨ m = 9 ∨ m = 10 ∨ m = 11 ∨ m = 12) with rfl | rfl | rfl | rfl | rfl | rfl | rfl | rfl | rfl | rfl | rfl | rfl <;> (simp [moN] at hb; subst hb; rfl))
  have la : a.length ≤ 3 := by
    have := List.mem_of_getElem? ha
    simp only [wdN, List.mem_cons, List.not_mem_nil, or_false] at this
    rcases this with rfl | rfl | rfl | rfl | rfl | rfl | rfl <;> simp
  have lb : b.length ≤ 3 := by
    have := List.mem_of_getElem? hb
    simp only [moN, List.mem_cons, List.not_mem_nil, or_false] at this
    rcases this with rfl | rfl | rfl | rfl | rfl | rfl | rfl | rfl | rfl | rfl | rfl | rfl <;> simp
  have l2 : ∀ x, (twoL x).length = 2 := fun x => rfl
  refine wp_region_kp (by kernel_rfl) (by kernel_rfl) ?_
  repeat (quiet_step (first | (go_at_call 71; ((refine HT2.out _ _ _ (by first | omega | (rw [HW5.out]; omega) | (rw [HW6.out]; omega)) ?_); intro w' k'; exact kpx_mk k')) | (rw [HW1.out, HW2.out, if_pos (by omega), if_pos (by omega), HSa.out]; exact ⟨rfl, rfl⟩) | (rw [HW3.out, HW4.out, if_pos (by omega), if_pos (by omega), HSb.out]; exact ⟨rfl, rfl⟩) | (rw [if_neg (by simp only [List.length_append, List.length_cons, List.length_nil, l2]; omega)]; exact ⟨rfl, rfl⟩) | (rw [if_neg (by omega)]; exact ⟨rfl, rfl⟩)))
  refine wpQuiet_nil ?_
  intro W4 k4
  go_wp2
  exact rcast (H.out _ (kW.trans k4)) (by unfold prL; rw [digL2 d (by omega), digL2 hh (by omega), digL2 mi (by omega), digL2 s (by omega), digL4 y (by omega) y9]; simp [S_append, HW5.out, HW6.out, (by omega : ((y : Int) / 100).toNat = y / 100), (by omega : ((y : Int) % 100).toNat = y % 100)])
end Go.Proofs.YtjjigngighneeaaDoor
