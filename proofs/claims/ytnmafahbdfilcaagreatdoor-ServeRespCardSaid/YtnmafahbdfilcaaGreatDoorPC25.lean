/- The document's Seconds. The document's Parse of a date. The document's Line, Field, and first line. The document's first line. The document's has. However bytes are fed the same requests come: the plain law. -/
import Derived.Test.YtnmafahbdfilcaaGreatDoorPC24
import Derived.Laws.StructEq
import Derived.KernelRfl
import Derived.Deep.RegionLaw
import Derived.Deep.RegionHeldLaw
import Derived.Test.YtnmafahbdfilcaaGreatDoorPC15
import Derived.Test.YtnmafahbdfilcaaGreatDoorPC2
import Derived.Test.YtnmafahbdfilcaaGreatDoorPC4
import Derived.Test.YtnmafahbdfilcaaGreatDoorPC1
import Derived.BigQuiet
import Derived.IntWalk
import Derived.Deep.CutBlock
import Derived.Deep.DeepCutAuto
import Derived.Test.YtnmafahbdfilcaaGreatDoorPC16
namespace Go.Proofs.YtnmafahbdfilcaaGreatDoor
/-! ### The document's Seconds. -/
section
open Go.RowKit
set_option linter.unusedVariables false
set_option linter.unusedSimpArgs false
set_option maxRecDepth 100000
theorem eq_date (a b c d e f g a' b' c' d' e' f' g' : Int) (w : World) : (Op.equalIn 10000 194 (.agg #[.int .i64 a, .int .i64 b, .int .i64 c, .int .i64 d, .int .i64 e, .int .i64 f, .int .i64 g]) (.agg #[.int .i64 a', .int .i64 b', .int .i64 c', .int .i64 d', .int .i64 e', .int .i64 f', .int .i64 g'])).run Tryz.prog w = .ok (decide (a = a' ∧ b = b' ∧ c = c' ∧ d = d' ∧ e = e' ∧ f = f' ∧ g = g')) w := by
  have u3 := Tryz.underlying3
  have hS : Tryz.prog.underlying 194 = some (.struct (Tryz.prog.fieldsOf 194)) := by kernel_rfl
  rw [show (10000 : Nat) = 9999 + 1 from rfl, run_equalIn_agg w 9999 194 _ _ hS (by kernel_rfl)]
  simp only [Program.fieldsOf, Tryz.underlying194]
  go_simp
  rcases (by omega : a ≠ a' ∨ (a = a' ∧ (b ≠ b' ∨ (b = b' ∧ (c ≠ c' ∨ (c = c' ∧ (d ≠ d' ∨ (d = d' ∧ (e ≠ e' ∨ (e = e' ∧ (f ≠ f' ∨ (f = f' ∧ (g ≠ g' ∨ g = g')))))))))))))
    with h1 | ⟨rfl, h1 | ⟨rfl, h1 | ⟨rfl, h1 | ⟨rfl, h1 | ⟨rfl, h1 | ⟨rfl, h1 | rfl⟩⟩⟩⟩⟩⟩
  all_goals simp [*]
section
variable {R : Ending → World → Prop} {w : World}
set_option maxHeartbeats 8000000 in
theorem rsec3_good {y m d h mi s wd : Int} (hb : dBd y m d h mi s) (h1 : Hid (isDt y m d h mi s wd) → ∀ w', Kp [] w w' → R (.returned (.tuple #[.int .i64 (secN y m d h mi s), .bool true])) w')
    (h0 : Hid (¬ isDt y m d h mi s wd) → ∀ w', Kp [] w w' → R (.returned (.tuple #[.int .i64 0, .bool false])) w') :
    Calls Tryz.prog 183 #[.agg #[.int .i64 y, .int .i64 m, .int .i64 d, .int .i64 h, .int .i64 mi, .int .i64 s, .int .i64 wd]] w R := by
  have H0 := Lib.hid h0
  have H1 := Lib.hid h1
  clear h0 h1
  obtain ⟨n0, n1, c0, c1⟩ := secN_bd hb
  obtain ⟨y', m', d', h', mi', s', wd', hc, -⟩ := civ_ex hb
  have HIff := Lib.hid (isDt_of (wd := wd) hb hc)
  have hsec : secN y m d h mi s = (befY y - befY 1970 + d - 1 + cumM y (m.toNat - 1)) * 86400 + (3600 * h + 60 * mi + s) := rfl
  have HOf : Hid (∀ (R : Ending → World → Prop) (w1 : World), (∀ w', Kp [] w1 w' → R (.returned (.agg #[.int .i64 y', .int .i64 m', .int .i64 d', .int .i64 h', .int .i64 mi', .int .i64 s', .int .i64 wd'])) w') → Calls Tryz.prog 126 #[.int .i64 (secN y m d h mi s)] w1 R) := Lib.hid (fun R w1 h => rof_any _ w1 n0 n1 hc h)
  have HMy : Hid (∀ (R : Ending → World → Prop) (w1 : World), R (.returned (.bool true)) w1 → Calls Tryz.prog 95 #[.int .i64 (secN y m d h mi s)] w1 R) := Lib.hid (fun R w1 h => may3_any _ w1 (by simpa [n0, n1] using h))
  obtain ⟨b1, b2, b3, b4, b5, b6, b7, b8, b9, b10, b11, b12⟩ := hb
  have hday := day_eq b1 b3 b4
  obtain ⟨N, hN⟩ : ∃ N, secN y m d h mi s = N := ⟨_, rfl⟩
  rw [hN] at H1 HOf HMy n0 n1 hsec
  obtain ⟨T, hT⟩ : ∃ T, befY y - befY 1970 + d - 1 + cumM y (m.toNat - 1) = T := ⟨_, rfl⟩
  rw [hT] at hsec
  have hNT : T * 86400 + (h * 3600 + mi * 60 + s) = N := by rw [hsec]; omega
  obtain ⟨Y1, M1, hst, hYb, hMb, hdd⟩ : ∃ Y1 M1 : Int, ((m ≤ 2 ∧ y - 1 = Y1 ∧ m + 12 = M1) ∨ (2 < m ∧ y = Y1 ∧ m = M1)) ∧ (1969 ≤ Y1 ∧ Y1 ≤ 9999) ∧ (3 ≤ M1 ∧ M1 ≤ 14) ∧ 365 * Y1 + Y1 / 4 - Y1 / 100 + Y1 / 400 + (153 * (M1 - 3) + 2) / 5 + d - 1 - 719468 = T := by
    by_cases h2 : m ≤ 2
    · exact ⟨y - 1, m + 12, .inl ⟨h2, rfl, rfl⟩, by omega, by omega, by have := hday.1 h2; omega⟩
    · exact ⟨y, m, .inr ⟨by omega, rfl, rfl⟩, by omega, by omega, by have := hday.2 (by omega); omega⟩
  obtain ⟨a, ha⟩ : ∃ a, Y1 / 4 = a := ⟨_, rfl⟩
  obtain ⟨b, hb⟩ : ∃ b, Y1 / 100 = b := ⟨_, rfl⟩
  obtain ⟨c, hcc⟩ : ∃ c, Y1 / 400 = c := ⟨_, rfl⟩
  obtain ⟨e, he⟩ : ∃ e, (153 * (M1 - 3) + 2) / 5 = e := ⟨_, rfl⟩
  rw [ha, hb, hcc, he] at hdd
  have ha2 : 0 ≤ a ∧ a ≤ 3000 := by omega
  have hb2 : 0 ≤ b ∧ b ≤ 3000 := by omega
  have hc2 : 0 ≤ c ∧ c ≤ 3000 := by omega
  have he2 : 0 ≤ e ∧ e ≤ 3000 := by omega
  have hT2 : -1000000 ≤ T ∧ T ≤ 4000000 := by omega
  clear hday hT hsec hN hc c0 c1
  obtain ⟨q, hq⟩ : ∃ q, decide ((y' : Int) = y ∧ (m' : Int) = m ∧ (d' : Int) = d ∧ (h' : Int) = h ∧ (mi' : Int) = mi ∧ (s' : Int) = s ∧ (wd' : Int) = wd) = q := ⟨_, rfl⟩
  have hEq : ∀ W, (Op.equalIn 10000 194 (.agg #[.int .i64 y', .int .i64 m', .int .i64 d', .int .i64 h', .int .i64 mi', .int .i64 s', .int .i64 wd']) (.agg #[.int .i64 y, .int .i64 m, .int .i64 d, .int .i64 h, .int .i64 mi, .int .i64 s, .int .i64 wd])).run Tryz.prog W = .ok q W := fun W => by rw [eq_date, hq]
  obtain ⟨ha3, ha4⟩ := ha2
  obtain ⟨hb3, hb4⟩ := hb2
  obtain ⟨hc3, hc4⟩ := hc2
  obtain ⟨he3, he4⟩ := he2
  obtain ⟨hT3, hT4⟩ := hT2
  obtain ⟨hY3, hY4⟩ := hYb
  obtain ⟨hM3, hM4⟩ := hMb
  go_enter Tryz.func183, Tryz.ntmps183
  go_upto_region 5 with (fail)
  refine gen_worldC (fun W => ∃ g, w.heap.size = g ∧ Hid (Kp [] w W ∧ Bk W g 194 [.int .i64 y, .int .i64 m, .int .i64 d, .int .i64 h, .int .i64 mi, .int .i64 s, .int .i64 wd])) ⟨_, rfl, Lib.hid ⟨(Kp.refl _ _).alloc _, (Bk.new' _ _ _).cast rfl⟩⟩ ?_
  rintro W ⟨g, hg, hW⟩
  rw [hg]
  clear hg
  have z0 : W.cell? ⟨g, 0, none⟩ = some (.int .i64 y) := hW.out.2.cell 0
  have z1 : W.cell? ⟨g, 1, none⟩ = some (.int .i64 m) := hW.out.2.cell 1
  have z2 : W.cell? ⟨g, 2, none⟩ = some (.int .i64 d) := hW.out.2.cell 2
  have z3 : W.cell? ⟨g, 3, none⟩ = some (.int .i64 h) := hW.out.2.cell 3
  have z4 : W.cell? ⟨g, 4, none⟩ = some (.int .i64 mi) := hW.out.2.cell 4
  have z5 : W.cell? ⟨g, 5, none⟩ = some (.int .i64 s) := hW.out.2.cell 5
  have z6 : W.cell? ⟨g, 6, none⟩ = some (.int .i64 wd) := hW.out.2.cell 6
  have hgl := hW.out.2.lt
  go_upto_if 69 with (fail)
  go_cut [4, 5] (fun p q W' => p = .int .i64 Y1 ∧ q = .int .i64 M1 ∧ W' = W)
  case first =>
    clear hdd ha hb hcc he
    rcases hst with ⟨h2, h3, h4⟩ | ⟨h2, rfl, rfl⟩
    · go_wp2
      go_meet
      exact ⟨rfl, rfl, rfl⟩
    · go_wp2
      go_meet
      exact ⟨rfl, rfl, rfl⟩
  case rest =>
    obtain ⟨hx1, hx2, hx3⟩ := hcut
    rw [hx1, hx2, hx3]
    clear hx1 hx2 hx3 hst
    go_upto_region 12 with (fail)
    refine wp_region_kp (by kernel_rfl) (by kernel_rfl) ?_
    repeat (go_big_quiet_step (first | (go_at_call 95; (refine HMy.out _ _ ?_; exact kpx_mk (Kp.refl _ _))) | (go_at_call 126; ((refine HOf.out _ _ ?_); intro w' k'; exact kpx_mk k'))))
    refine wpQuiet_nil ?_
    intro w6 k6
    have KF := Lib.hid (hW.out.1.trans k6)
    clear hdd ha hb hcc he z0 z1 z2 z3 z4 z5 z6 hEq HOf HMy hNT
    cases q with
    | true =>
      have hi : isDt y m d h mi s wd := HIff.out.2 (by have := of_decide_eq_true hq; omega)
      have HI := Lib.hid hi
      clear hi hq HIff
      go_wp2
      exact H1.out HI _ KF.out
    | false =>
      have hi : ¬ isDt y m d h mi s wd := fun hi => of_decide_eq_false hq (by have := HIff.out.1 hi; omega)
      have HI := Lib.hid hi
      clear hi hq HIff
      go_wp2
      exact H0.out HI _ KF.out
set_option maxHeartbeats 8000000 in
theorem rsec3_bad {y m d h mi s wd : Int} (hb : ¬ dBd y m d h mi s) (hk : ∀ w', Kp [] w w' → R (.returned (.tuple #[.int .i64 0, .bool false])) w') :
    Calls Tryz.prog 183 #[.agg #[.int .i64 y, .int .i64 m, .int .i64 d, .int .i64 h, .int .i64 mi, .int .i64 s, .int .i64 wd]] w R := by
  have H := Lib.hid hk
  clear hk
  unfold dBd at hb
  rcases (by omega : y < 1970 ∨ (1970 ≤ y ∧ (9999 < y ∨ (y ≤ 9999 ∧ (m < 1 ∨ (1 ≤ m ∧ (12 < m ∨ (m ≤ 12 ∧ (d < 1 ∨ (1 ≤ d ∧ (31 < d ∨ (d ≤ 31 ∧ (h < 0 ∨ (0 ≤ h ∧ (23 < h ∨ (h ≤ 23 ∧ (mi < 0 ∨ (0 ≤ mi ∧ (59 < mi ∨ (mi ≤ 59 ∧ (s < 0 ∨ (0 ≤ s ∧ 59 < s))))))))))))))))))))))
    with h1 | ⟨h1, h2 | ⟨h2, h3 | ⟨h3, h4 | ⟨h4, h5 | ⟨h5, h6 | ⟨h6, h7 | ⟨h7, h8 | ⟨h8, h9 | ⟨h9, h10 | ⟨h10, h11 | ⟨h11, h12⟩⟩⟩⟩⟩⟩⟩⟩⟩⟩⟩
  all_goals
    clear hb
    go_enter Tryz.func183, Tryz.ntmps183
    go_wp2
    exact H.out _ ((Kp.refl _ _).alloc _)
theorem rsec3_any {y m d h mi s wd : Int} (h1 : Hid (isDt y m d h mi s wd) → ∀ w', Kp [] w w' → R (.returned (.tuple #[.int .i64 (secN y m d h mi s), .bool true])) w')
    (h0 : Hid (¬ isDt y m d h mi s wd) → ∀ w', Kp [] w w' → R (.returned (.tuple #[.int .i64 0, .bool false])) w') :
    Calls Tryz.prog 183 #[.agg #[.int .i64 y, .int .i64 m, .int .i64 d, .int .i64 h, .int .i64 mi, .int .i64 s, .int .i64 wd]] w R := by
  by_cases hb : dBd y m d h mi s
  · exact rsec3_good hb h1 h0
  · exact rsec3_bad hb (h0 (Lib.hid (fun hi => hb hi.1)))
end
end
/-! ### The document's Parse of a date. -/
section
open Go.RowKit Go.Shelf
set_option linter.unusedVariables false
set_option linter.unusedSimpArgs false
set_option maxRecDepth 100000
theorem wd_len {k : Nat} {a : List UInt8} (h : wdN[k]? = some a) : a.length = 3 := by
  have := List.mem_of_getElem? h
  simp only [wdN, List.mem_cons, List.not_mem_nil, or_false] at this
  rcases this with rfl | rfl | rfl | rfl | rfl | rfl | rfl <;> rfl
theorem mo_len {k : Nat} {a : List UInt8} (h : moN[k]? = some a) : a.length = 3 := by
  have := List.mem_of_getElem? h
  simp only [moN, List.mem_cons, List.not_mem_nil, or_false] at this
  rcases this with rfl | rfl | rfl | rfl | rfl | rfl | rfl | rfl | rfl | rfl | rfl | rfl <;> rfl
theorem prL_ab {y m d h mi s : Nat} {a b : List UInt8} (ha : a.length = 3) (hb : b.length = 3) (hd : d ≤ 99) : ((prL y m d h mi s a b).take 11).drop 8 = b ∧ (prL y m d h mi s a b).take 3 = a := by
  match a, ha, b, hb with
  | [a0, a1, a2], _, [b0, b1, b2], _ =>
    unfold prL
    rw [digL2 d hd]
    unfold twoL
    constructor <;> simp
theorem lastM {m : Nat} {x : List UInt8} (m1 : 1 ≤ m) (m2 : m ≤ 12) (h : moN[m - 1]? = some x) : lastN moN x 1 12 = m := by
  rcases (by omega : m = 1 ∨ m = 2 ∨ m = 3 ∨ m = 4 ∨ m = 5 ∨ m = 6 ∨ m = 7 ∨ m = 8 ∨ m = 9 ∨ m = 10 ∨ m = 11 ∨ m = 12) with rfl | rfl | rfl | rfl | rfl | rfl | rfl | rfl | rfl | rfl | rfl | rfl <;> (simp [moN] at h; subst h; rfl)
theorem lastW {k : Nat} {x : List UInt8} (hk : k < 7) (h : wdN[k]? = some x) : lastN wdN x 0 7 = k := by
  rcases (by omega : k = 0 ∨ k = 1 ∨ k = 2 ∨ k = 3 ∨ k = 4 ∨ k = 5 ∨ k = 6) with rfl | rfl | rfl | rfl | rfl | rfl | rfl <;> (simp [wdN] at h; subst h; rfl)
/-- What the document's loops look for. -/
def Suc (l : List UInt8) (m k : Nat) : Prop := moN[m - 1]? = some ((l.take 11).drop 8) ∧ isDt (fY l) m (fD l) (fH l) (fI l) (fS l) k ∧ Told (secN (fY l) m (fD l) (fH l) (fI l) (fS l)) l
theorem told_ab {n : Int} {l : List UInt8} {y m d hh mi s wd : Nat} (t : Told n l) (c : CivN n y m d hh mi s wd) : moN[m - 1]? = some ((l.take 11).drop 8) ∧ wdN[wd]? = some (l.take 3) := by
  obtain ⟨y', m', d', h', mi', s', wd', a, b, c', ha, hb, rfl⟩ := t
  obtain ⟨e1, e2, e3, e4, e5, e6, e7⟩ := civ_uniq c c'
  subst e1; subst e2; subst e3; subst e4; subst e5; subst e6; subst e7
  have h99 : d ≤ 99 := by have := c.d1; have := lenM_31 (y : Int) m; omega
  obtain ⟨q1, q2⟩ := prL_ab (y := y) (m := m) (h := hh) (mi := mi) (s := s) (wd_len ha) (mo_len hb) h99
  rw [q1, q2]
  exact ⟨hb, ha⟩
theorem suc_par {l : List UInt8} {m k : Nat} (h29 : l.length = 29) (m1 : 1 ≤ m) (m2 : m ≤ 12) (hk : k < 7) (h : Suc l m k) : parOk l ∧ parN l = secN (fY l) m (fD l) (fH l) (fI l) (fS l) := by
  obtain ⟨h1, h2, h3⟩ := h
  have hM : fM l = m := lastM m1 m2 h1
  have hab := told_ab h3 h2.2.2
  have hW : fW l = k := lastW hk (by simpa using hab.2)
  have hN : parN l = secN (fY l) m (fD l) (fH l) (fI l) (fS l) := by unfold parN; rw [hM]
  exact ⟨⟨h29, by rw [hM, hW]; exact h2, by rw [hN]; exact h3⟩, hN⟩
theorem par_suc {l : List UInt8} (h : parOk l) : ∃ m k : Nat, 1 ≤ m ∧ m ≤ 12 ∧ k < 7 ∧ Suc l m k := by
  obtain ⟨h29, hd, ht⟩ := h
  obtain ⟨⟨b1, b2, b3, b4, b5⟩, w0, c⟩ := hd
  have hm : fM l = ((fM l).toNat : Int) := by omega
  have hw : fW l = ((fW l).toNat : Int) := by omega
  have hab := told_ab ht c
  refine ⟨(fM l).toNat, (fW l).toNat, by omega, by omega, by have := c.ew; omega, hab.1, ?_, ?_⟩
  · rw [← hm, ← hw]; exact ⟨⟨b1, b2, b3, b4, b5⟩, w0, c⟩
  · rw [← hm]; exact ht
def monLit : List UInt8 := [74, 97, 110, 70, 101, 98, 77, 97, 114, 65, 112, 114, 77, 97, 121, 74, 117, 110, 74, 117, 108, 65, 117, 103, 83, 101, 112, 79, 99, 116, 78, 111, 118, 68, 101, 99]
theorem newD (w : World) : Bk (w.alloc (.cells #[.int .i64 0, .int .i64 0, .int .i64 0, .int .i64 0, .int .i64 0, .int .i64 0, .int .i64 0] 194)) w.heap.size 194 [.int .i64 0, .int .i64 0, .int .i64 0, .int .i64 0, .int .i64 0, .int .i64 0, .int .i64 0] := (Bk.new' _ _ _).cast rfl
theorem put7D {w2 : World} {rb tt : Nat} {a0 a1 a2 a3 a4 a5 a6 : Value} (br : Bk w2 rb tt [a0, a1, a2, a3, a4, a5, a6]) (b0 b1 b2 b3 b4 b5 b6 : Value) :
    ∃ W', (((((((w2.setCell ⟨rb, 0, none⟩ b0).setCell ⟨rb, 1, none⟩ b1).setCell ⟨rb, 2, none⟩ b2).setCell ⟨rb, 3, none⟩ b3).setCell ⟨rb, 4, none⟩ b4).setCell ⟨rb, 5, none⟩ b5).setCell ⟨rb, 6, none⟩ b6) = W' ∧ Kp [rb] w2 W' ∧ Bk W' rb tt [b0, b1, b2, b3, b4, b5, b6] :=
  ⟨_, rfl, (((((((Kp.refl _ _).setCell (.inl (by simp)) _).setCell (.inl (by simp)) _).setCell (.inl (by simp)) _).setCell (.inl (by simp)) _).setCell (.inl (by simp)) _).setCell (.inl (by simp)) _).setCell (.inl (by simp)) _, (((((((br.set_ 0 _).set_ 1 _).set_ 2 _).set_ 3 _).set_ 4 _).set_ 5 _).set_ 6 _).cast rfl⟩
section
variable {R : Ending → World → Prop} {w : World}
set_option maxHeartbeats 8000000 in
theorem rparse3_29 (l : List UInt8) (h29 : l.length = 29) (h1 : parOk l → ∀ w', Kp [] w w' → R (.returned (.tuple #[.int .i64 (parN l), .bool true])) w') (h0 : ¬ parOk l → ∀ w', Kp [] w w' → R (.returned (.tuple #[.int .i64 0, .bool false])) w') :
    Calls Tryz.prog 152 #[.string (S l)] w R := by
  have H0 := Lib.hid h0
  have H1 := Lib.hid h1
  clear h0 h1
  have HS : Hid (∀ m k : Nat, 1 ≤ m → m ≤ 12 → k < 7 → Suc l m k → parOk l ∧ parN l = secN (fY l) m (fD l) (fH l) (fI l) (fS l)) := Lib.hid (fun m k a b c d => suc_par h29 a b c d)
  have HSu : Hid (∀ m k : Nat, Suc l m k ↔ (moN[m - 1]? = some ((l.take 11).drop 8) ∧ isDt (fY l) m (fD l) (fH l) (fI l) (fS l) k ∧ Told (secN (fY l) m (fD l) (fH l) (fI l) (fS l)) l)) := Lib.hid (fun m k => Iff.rfl)
  have HRd : Hid (∀ (R : Ending → World → Prop) (W : World),
      (R (.returned (.int .i64 (fD l))) W → Calls Tryz.prog 182 #[.string (S (List.drop 5 (List.take 7 l)))] W R) ∧
      (R (.returned (.int .i64 (fY l))) W → Calls Tryz.prog 182 #[.string (S (List.drop 12 (List.take 16 l)))] W R) ∧
      (R (.returned (.int .i64 (fH l))) W → Calls Tryz.prog 182 #[.string (S (List.drop 17 (List.take 19 l)))] W R) ∧
      (R (.returned (.int .i64 (fI l))) W → Calls Tryz.prog 182 #[.string (S (List.drop 20 (List.take 22 l)))] W R) ∧
      (R (.returned (.int .i64 (fS l))) W → Calls Tryz.prog 182 #[.string (S (List.drop 23 (List.take 25 l)))] W R)) := Lib.hid (fun R W => ⟨fun h => rread3_any _ (by simp; omega) h, fun h => rread3_any _ (by simp; omega) h, fun h => rread3_any _ (by simp; omega) h, fun h => rread3_any _ (by simp; omega) h, fun h => rread3_any _ (by simp; omega) h⟩)
  obtain ⟨d, hd⟩ : ∃ m, fD l = m := ⟨_, rfl⟩
  obtain ⟨y, hy⟩ : ∃ m, fY l = m := ⟨_, rfl⟩
  obtain ⟨h, hh⟩ : ∃ m, fH l = m := ⟨_, rfl⟩
  obtain ⟨mi, hmi⟩ : ∃ m, fI l = m := ⟨_, rfl⟩
  obtain ⟨s, hs⟩ : ∃ m, fS l = m := ⟨_, rfl⟩
  rw [hd, hy, hh, hmi, hs] at HRd
  simp only [hd, hy, hh, hmi, hs] at HS HSu
  clear hd hy hh hmi hs
  have HNo : Hid ((∀ m k : Nat, 1 ≤ m → m ≤ 12 → k < 7 → ¬ Suc l m k) → ¬ parOk l) := Lib.hid (fun hn hp => by
    obtain ⟨m, k, a, b, c, d⟩ := par_suc hp
    exact hn m k a b c d)
  go_enter Tryz.func152, Tryz.ntmps152
  go_wp2
  go_loopw [4] (fun mv wr => ∃ m : Nat, 1 ≤ m ∧ m ≤ 13 ∧ mv = .int .i64 m ∧ Hid (∀ m' k : Nat, 1 ≤ m' → m' < m → k < 7 → ¬ Suc l m' k) ∧ Hid (Kp [] w wr)) (fun mv _ => 13 - (intOf mv).toNat)
  case atStart => exact ⟨1, by omega, by omega, rfl, Lib.hid (fun m' k a b => by omega), Lib.hid (Kp.refl _ _)⟩
  case round =>
    obtain ⟨m, m1, m13, rfl, hn, hk⟩ := hrel
    by_cases hlt : m ≤ 12
    · obtain ⟨b, hb⟩ : ∃ b, moN[m - 1]? = some b := ⟨_, List.getElem?_eq_getElem (by simp [moN]; omega)⟩
      have HSb : Hid (List.drop (3 * m - 3) (List.take (3 * m) monLit) = b) := Lib.hid (by
        rcases (by omega : m = 1 ∨ m = 2 ∨ m = 3 ∨ m = 4 ∨ m = 5 ∨ m = 6 ∨ m = 7 ∨ m = 8 ∨ m = 9 ∨ m = 10 ∨ m = 11 ∨ m = 12) with rfl | rfl | rfl | rfl | rfl | rfl | rfl | rfl | rfl | rfl | rfl | rfl <;> (simp [moN] at hb; subst hb; rfl))
      have x1 : IntKind.i64.wrap (3 * (m : Int)) = 3 * (m : Int) := wrap_ok (by omega) (by omega)
      have x2 : IntKind.i64.wrap (3 * (m : Int) - 3) = 3 * (m : Int) - 3 := wrap_ok (by omega) (by omega)
      obtain ⟨xm, hxm⟩ : ∃ x, (l.take 11).drop 8 = x := ⟨_, rfl⟩
      go_upto_region 6 with (fail)
      go_cut [24] (fun x W' => x = .bool (xm != b) ∧ Hid (Kp [] w W'))
      case first =>
        refine wp_region_kp (by kernel_rfl) (by kernel_rfl) ?_
        repeat (go_big_quiet_step (fail))
        refine wpQuiet_nil ?_
        intro w6 k6
        go_wp2
        go_meet
        exact ⟨by have e := HSb.out; unfold monLit at e; rw [e]; rfl, Lib.hid (hk.out.trans k6)⟩
      case rest =>
        obtain ⟨hx, hk2⟩ := hcut
        rw [hx]
        clear hx x1 x2 HSb
        by_cases hxb : xm = b
        · have e : (xm != b) = false := by simpa using hxb
          rw [e]
          have HMo : Hid (moN[m - 1]? = some ((l.take 11).drop 8)) := Lib.hid (by rw [hxm, hxb, hb])
          clear e hxb hb hxm hk
          go_wp2
          go_loopw [5] (fun wv wr => ∃ k : Nat, k ≤ 7 ∧ wv = .int .i64 k ∧ Hid (∀ k' : Nat, k' < k → ¬ Suc l m k') ∧ Hid (Kp [] w wr)) (fun wv _ => 7 - (intOf wv).toNat)
          case atStart => exact ⟨0, by omega, rfl, Lib.hid (fun k' h => by omega), hk2⟩
          case round =>
            obtain ⟨k, hk7, rfl, hn2, hkr⟩ := hrel
            by_cases hlk : k < 7
            · go_upto_region 10 with (fail)
              go_cut [6] (fun x W' => ∃ g, x = .pointer (some ⟨g, 0, none⟩) ∧ Hid (Kp [] w W' ∧ Bk W' g 194 [.int .i64 y, .int .i64 m, .int .i64 d, .int .i64 h, .int .i64 mi, .int .i64 s, .int .i64 k]))
              case first =>
                go_region_law (first | (go_simp; go_at_call 182; (with_reducible refine (HRd.out _ _).1 ?_)) | (go_simp; go_at_call 182; (with_reducible refine (HRd.out _ _).2.1 ?_)) | (go_simp; go_at_call 182; (with_reducible refine (HRd.out _ _).2.2.1 ?_)) | (go_simp; go_at_call 182; (with_reducible refine (HRd.out _ _).2.2.2.1 ?_)) | (go_simp; go_at_call 182; (with_reducible refine (HRd.out _ _).2.2.2.2 ?_)))
                all_goals
                  go_wp2
                  go_meet
                  exact ⟨_, rfl, Lib.hid ⟨(hkr.out.alloc _).drew, ((Bk.new' _ _ _).drew).cast rfl⟩⟩
              case rest =>
                obtain ⟨g, hx, hW⟩ := hcut
                rw [hx]
                clear hx hkr
                obtain ⟨W7, hW7⟩ : ∃ x, wc = x := ⟨_, rfl⟩
                rw [hW7] at hW ⊢
                clear hW7
                have z0 : W7.cell? ⟨g, 0, none⟩ = some (.int .i64 y) := hW.out.2.cell 0
                have z1 : W7.cell? ⟨g, 1, none⟩ = some (.int .i64 m) := hW.out.2.cell 1
                have z2 : W7.cell? ⟨g, 2, none⟩ = some (.int .i64 d) := hW.out.2.cell 2
                have z3 : W7.cell? ⟨g, 3, none⟩ = some (.int .i64 h) := hW.out.2.cell 3
                have z4 : W7.cell? ⟨g, 4, none⟩ = some (.int .i64 mi) := hW.out.2.cell 4
                have z5 : W7.cell? ⟨g, 5, none⟩ = some (.int .i64 s) := hW.out.2.cell 5
                have z6 : W7.cell? ⟨g, 6, none⟩ = some (.int .i64 k) := hW.out.2.cell 6
                obtain ⟨n, hN⟩ : ∃ n, secN y m d h mi s = n := ⟨_, rfl⟩
                have HSc : Hid (∀ (R : Ending → World → Prop), (Hid (isDt y m d h mi s k) → ∀ w', Kp [] W7 w' → R (.returned (.tuple #[.int .i64 n, .bool true])) w') → (Hid (¬ isDt y m d h mi s k) → ∀ w', Kp [] W7 w' → R (.returned (.tuple #[.int .i64 0, .bool false])) w') → Calls Tryz.prog 183 #[.agg #[.int .i64 y, .int .i64 m, .int .i64 d, .int .i64 h, .int .i64 mi, .int .i64 s, .int .i64 k]] W7 R) := Lib.hid (fun R a b => rsec3_any (fun hi w' k' => by rw [hN]; exact a hi w' k') b)
                have HN := Lib.hid hN
                clear hN
                go_upto_region 12 with (go_at_call 183; (refine HSc.out _ (fun hi w8 k8 => ?_) (fun hi w8 k8 => ?_)))
                · have hbd := secN_bd hi.out.1
                  rw [HN.out] at hbd
                  obtain ⟨D, hD⟩ : ∃ D, Told n D := by
                    have c := hi.out.2.2
                    have hm9 := hi.out.1
                    have hk7' : ((k : Int)).toNat < 7 := by omega
                    obtain ⟨a, ha⟩ : ∃ a, wdN[((k : Int)).toNat]? = some a := ⟨_, List.getElem?_eq_getElem (by simp [wdN]; omega)⟩
                    obtain ⟨b', hb'⟩ : ∃ b', moN[((m : Int)).toNat - 1]? = some b' := ⟨_, List.getElem?_eq_getElem (by simp [moN]; omega)⟩
                    rw [HN.out] at c
                    exact ⟨_, _, _, _, _, _, _, _, a, b', c, ha, hb', rfl⟩
                  have HPr : Hid (∀ (R : Ending → World → Prop), (∀ w', Kp [] w8 w' → R (.returned (.string (S D))) w') → Calls Tryz.prog 96 #[.int .i64 n] w8 R) := Lib.hid (fun R hh => print3_any n w8 hbd.1 hbd.2.1 hD hh)
                  have HD := Lib.hid hD
                  clear hbd hD
                  by_cases hq : D = l
                  · have hb9 : (D == l) = true := by simpa using hq
                    have hsu : Suc l m k := (HSu.out m k).2 ⟨HMo.out, hi.out, by rw [HN.out]; exact hq ▸ HD.out⟩
                    obtain ⟨hp1, hp2⟩ := HS.out m k m1 hlt hlk hsu
                    rw [HN.out] at hp2
                    have HP1 := Lib.hid (And.intro hp1 hp2)
                    clear hp1 hp2 hsu hq
                    go_wp2_with (go_at_call 96; ((refine HPr.out _ ?_); intro w9 k9))
                    have F := H1.out HP1.out.1 _ ((hW.out.1.trans k8).trans k9)
                    rw [HP1.out.2] at F
                    exact F
                  · have hb9 : (D == l) = false := by simpa using hq
                    have hsu : ¬ Suc l m k := fun hs => hq (told_uniq HD.out (by have := ((HSu.out m k).1 hs).2.2; rwa [HN.out] at this))
                    have HN2 : Hid (∀ k' : Nat, k' < k + 1 → ¬ Suc l m k') := Lib.hid (fun k' hk' => by
                      rcases (by omega : k' < k ∨ k' = k) with e | rfl
                      · exact hn2.out k' e
                      · exact hsu)
                    clear hsu hq hn2
                    go_wp2_with (go_at_call 96; ((refine HPr.out _ ?_); intro w9 k9))
                    exact ⟨⟨k + 1, by omega, by go_num, HN2, Lib.hid ((hW.out.1.trans k8).trans k9)⟩, by simp [intOf]; omega⟩
                · have hsu : ¬ Suc l m k := fun hs => hi.out ((HSu.out m k).1 hs).2.1
                  have HN2 : Hid (∀ k' : Nat, k' < k + 1 → ¬ Suc l m k') := Lib.hid (fun k' hk' => by
                    rcases (by omega : k' < k ∨ k' = k) with e | rfl
                    · exact hn2.out k' e
                    · exact hsu)
                  clear hsu hn2
                  go_wp2
                  exact ⟨⟨k + 1, by omega, by go_num, HN2, Lib.hid (hW.out.1.trans k8)⟩, by simp [intOf]; omega⟩
            · obtain rfl : k = 7 := by omega
              have HN3 : Hid (∀ m' k : Nat, 1 ≤ m' → m' < m + 1 → k < 7 → ¬ Suc l m' k) := Lib.hid (fun m' k a b c => by
                rcases (by omega : m' < m ∨ m' = m) with e | rfl
                · exact hn.out m' k a e c
                · exact hn2.out k c)
              clear hn hn2
              go_wp2
              exact ⟨⟨m + 1, by omega, by omega, by go_num, HN3, hkr⟩, by simp [intOf]; omega⟩
        · have e : (xm != b) = true := by simpa using hxb
          rw [e]
          have HN3 : Hid (∀ m' k : Nat, 1 ≤ m' → m' < m + 1 → k < 7 → ¬ Suc l m' k) := Lib.hid (fun m' k a c d => by
            rcases (by omega : m' < m ∨ m' = m) with e | rfl
            · exact hn.out m' k a e d
            · intro hs
              have := hs.1
              rw [hxm, hb] at this
              injection this with this
              exact hxb this.symm)
          clear hn hxb e hb hxm hk
          go_wp2
          exact ⟨⟨m + 1, by omega, by omega, by go_num, HN3, hk2⟩, by simp [intOf]; omega⟩
    · have hnp : ¬ parOk l := HNo.out (fun m' k a b c => hn.out m' k a (by omega) c)
      have HNp := Lib.hid hnp
      clear hnp hn
      go_wp2
      exact H0.out HNp.out _ hk.out
theorem rparse3_any (l : List UInt8) (hl : l.length ≤ 2000000) (h1 : Hid (parOk l) → ∀ w', Kp [] w w' → R (.returned (.tuple #[.int .i64 (parN l), .bool true])) w') (h0 : Hid (¬ parOk l) → ∀ w', Kp [] w w' → R (.returned (.tuple #[.int .i64 0, .bool false])) w') :
    Calls Tryz.prog 152 #[.string (S l)] w R := by
  by_cases h29 : l.length = 29
  · exact rparse3_29 l h29 (fun h => h1 (Lib.hid h)) (fun h => h0 (Lib.hid h))
  · have hb : ((l.length : Int) != 29) = true := by simp; omega
    have H := Lib.hid (h0 (Lib.hid (fun h => h29 h.1)) w (Kp.refl _ _))
    clear h0 h1
    go_enter Tryz.func152, Tryz.ntmps152
    go_wp2
    exact H.out
end
end
/-! ### The document's Line, Field, and first line. -/
section
open Go.RowKit Go.Shelf
set_option linter.unusedVariables false
set_option linter.unusedSimpArgs false
set_option maxRecDepth 100000
theorem fbef_at : ∀ (s : List UInt8) (i : Nat) (h : i < s.length), (s.take i).contains 58 = false → s[i]'h = 58 → bef 58 s = s.take i ∧ aft 58 s = s.drop (i + 1) ∧ s.contains 58 = true
  | [], i, h, _, _ => by simp at h
  | x :: s, 0, h, _, e => by
    have e : x = 58 := e
    subst e
    simp [bef, aft]
  | x :: s, i + 1, h, hc, e => by
    rw [List.take_succ_cons, List.contains_cons] at hc
    simp only [Bool.or_eq_false_iff] at hc
    have hx : ¬ x = 58 := by have := hc.1; simp at this; exact fun h => this h.symm
    obtain ⟨h1, h2, h3⟩ := fbef_at s i (by simpa using h) hc.2 e
    refine ⟨?_, ?_, ?_⟩
    · rw [bef, if_neg hx, h1, List.take_succ_cons]
    · rw [aft, if_neg hx, h2, List.drop_succ_cons]
    · rw [List.contains_cons, h3]; simp
section
variable {R : Ending → World → Prop} {w : World}
set_option maxHeartbeats 4000000 in
theorem rline_any (s : List UInt8) (hl : s.length ≤ 2000000) (h : ∀ w', Kp [] w w' → R (.returned (lineV s (lineL s))) w') : Calls Tryz.prog 50 #[.string (S s)] w R := by
  have H := Lib.hid h
  clear h
  go_enter Tryz.func50, Tryz.ntmps50
  go_wp2
  go_loopw [6] (fun iv wr => ∃ i : Nat, i ≤ s.length ∧ iv = .int .i64 i ∧ Hid (lineL s = preR (s.take i) (lineL (s.drop i))) ∧ wr = w) (fun iv _ => s.length - (intOf iv).toNat)
  case atStart => exact ⟨0, Nat.zero_le _, rfl, Lib.hid (by rw [List.take_zero, List.drop_zero]; cases lineL s <;> rfl), rfl⟩
  case round =>
    obtain ⟨i, hi, rfl, hp, rfl⟩ := hrel
    by_cases hlt : i < s.length
    · obtain ⟨x, hx⟩ : ∃ x, s[i]'hlt = x := ⟨_, rfl⟩
      have hdr : s.drop i = x :: s.drop (i + 1) := by rw [List.drop_eq_getElem_cons hlt, hx]
      by_cases h10 : x = 10
      · have e0 : ((x.toNat : Int) == 10) = true := (u8_beq x 10).trans (by simpa using h10)
        have HV : Hid (lineL s = .wrong) := Lib.hid (by rw [hp.out, hdr, lineL, if_pos h10]; rfl)
        rw [HV.out] at H; simp only [lineV] at H
        clear hp hdr h10
        go_wp2
        exact bodyPost_ret (v := .tuple #[.string (S []), .string (S []), .bool false, .int .i64 50]) (by simp [results, Tryz.results50, go_sem]; try rfl) rfl (H.out _ (Kp.refl _ _))
      · have e0 : ((x.toNat : Int) == 10) = false := (u8_beq x 10).trans (by simpa using h10)
        by_cases h13 : x = 13
        · have e1 : ((x.toNat : Int) == 13) = true := (u8_beq x 13).trans (by simpa using h13)
          have x1 : IntKind.i64.wrap ((s.length : Int) - 1) = s.length - 1 := wrap_ok (by omega) (by omega)
          have x2 : IntKind.i64.wrap ((i : Int) + 1) = i + 1 := wrap_ok (by omega) (by omega)
          have x3 : IntKind.i64.wrap ((i : Int) + 2) = i + 2 := wrap_ok (by omega) (by omega)
          by_cases hend : i + 1 < s.length
          · have e2 : ((i : Int) == s.length - 1) = false := by simp; omega
            obtain ⟨y, hy⟩ : ∃ y, s[i + 1]'hend = y := ⟨_, rfl⟩
            have hdr2 : s.drop (i + 1) = y :: s.drop (i + 2) := by rw [List.drop_eq_getElem_cons hend, hy]
            by_cases hy10 : y = 10
            · have e3 : ((y.toNat : Int) != 10) = false := (u8_bne y 10).trans (by simpa using hy10)
              have HV : Hid (lineL s = .got (s.take i) (s.drop (i + 2))) := Lib.hid (by rw [hp.out, hdr, lineL, if_neg h10, if_pos h13, hdr2, crR, if_pos hy10]; simp [preR])
              rw [HV.out] at H; simp only [lineV] at H
              clear hp hdr hdr2 h10 h13 hy10
              go_upto_region 10 with (fail)
              go_quiet (fail)
              go_wp2
              exact bodyPost_ret (v := .tuple #[.string (S (s.take i)), .string (S (s.drop (i + 2))), .bool true, .int .i64 0]) (by simp [results, Tryz.results50, go_sem]; try rfl) rfl (H.out _ ((Kp.refl _ _).drewN _))
            · have e3 : ((y.toNat : Int) != 10) = true := (u8_bne y 10).trans (by simpa using hy10)
              have HV : Hid (lineL s = .wrong) := Lib.hid (by rw [hp.out, hdr, lineL, if_neg h10, if_pos h13, hdr2, crR, if_neg hy10]; rfl)
              rw [HV.out] at H; simp only [lineV] at H
              clear hp hdr hdr2 h10 h13 hy10
              go_wp2
              exact bodyPost_ret (v := .tuple #[.string (S []), .string (S []), .bool false, .int .i64 50]) (by simp [results, Tryz.results50, go_sem]; try rfl) rfl (H.out _ (Kp.refl _ _))
          · have e2 : ((i : Int) == s.length - 1) = true := by simp; omega
            have HV : Hid (lineL s = .more) := Lib.hid (by rw [hp.out, hdr, lineL, if_neg h10, if_pos h13, List.drop_of_length_le (by omega), crR]; rfl)
            rw [HV.out] at H; simp only [lineV] at H
            clear hp hdr h10 h13
            go_wp2
            exact bodyPost_ret (v := .tuple #[.string (S []), .string (S s), .bool false, .int .i64 0]) (by simp [results, Tryz.results50, go_sem]; try rfl) rfl (H.out _ (Kp.refl _ _))
        · have e1 : ((x.toNat : Int) == 13) = false := (u8_beq x 13).trans (by simpa using h13)
          have HN : Hid (lineL s = preR (s.take (i + 1)) (lineL (s.drop (i + 1)))) := Lib.hid (by
            rw [hp.out, hdr, lineL, if_neg h10, if_neg h13, List.take_succ_eq_append_getElem hlt, hx]
            cases lineL (s.drop (i + 1)) <;> simp [consR, preR])
          clear hp hdr h10 h13
          go_wp2
          exact ⟨⟨i + 1, by omega, by go_num, HN, by trivial⟩, by simp [intOf]; omega⟩
    · have HV : Hid (lineL s = .more) := Lib.hid (by rw [hp.out, List.drop_of_length_le (by omega)]; rfl)
      rw [HV.out] at H; simp only [lineV] at H
      clear hp
      go_wp2
      exact bodyPost_ret (v := .tuple #[.string (S []), .string (S s), .bool false, .int .i64 0]) (by simp [results, Tryz.results50, go_sem]; try rfl) rfl (H.out _ (Kp.refl _ _))
set_option maxHeartbeats 4000000 in
theorem rfield_any (s : List UInt8) (hl : s.length ≤ 2000000) (h : ∀ w', Kp [] w w' → R (.returned (fieldV (fieldL s))) w') : Calls Tryz.prog 52 #[.string (S s)] w R := by
  have H := Lib.hid h
  clear h
  go_enter Tryz.func52, Tryz.ntmps52
  go_wp2
  go_loopw [5] (fun iv wr => ∃ i : Nat, i ≤ s.length ∧ iv = .int .i64 i ∧ Hid ((s.take i).contains 58 = false) ∧ wr = w) (fun iv _ => s.length - (intOf iv).toNat)
  case atStart => exact ⟨0, Nat.zero_le _, rfl, Lib.hid (by simp), rfl⟩
  case round =>
    obtain ⟨i, hi, rfl, hp, rfl⟩ := hrel
    by_cases hlt : i < s.length
    · obtain ⟨x, hx⟩ : ∃ x, s[i]'hlt = x := ⟨_, rfl⟩
      by_cases h58 : x = 58
      · have e0 : ((x.toNat : Int) == 58) = true := (u8_beq x 58).trans (by simpa using h58)
        obtain ⟨h1, h2, h3⟩ := fbef_at s i hlt hp.out (by rw [hx, h58])
        have x2 : IntKind.i64.wrap ((i : Int) + 1) = i + 1 := wrap_ok (by omega) (by omega)
        unfold fieldL at H
        rw [h1, h2, h3] at H
        have HTk : Hid (∀ (R : Ending → World → Prop) (w : World), R (.returned (.bool (tokB (s.take i)))) w → Calls Tryz.prog 88 #[.string (S (s.take i))] w R) := Lib.hid (fun R w h => rtoken_any _ w (by rw [List.length_take]; omega) h)
        have HVl : Hid (∀ (R : Ending → World → Prop) (w : World), R (.returned (.bool ((s.drop (i + 1)).all valB))) w → Calls Tryz.prog 89 #[.string (S (s.drop (i + 1)))] w R) := Lib.hid (fun R w h => rvalue_any _ w (by rw [List.length_drop]; omega) h)
        have HLo : Hid (∀ (R : Ending → World → Prop) (w : World), (∀ w', Kp [] w w' → R (.returned (.string (S (lowL (s.take i))))) w') → Calls Tryz.prog 90 #[.string (S (s.take i))] w R) := Lib.hid (fun R w h => rlower_any _ w (by rw [List.length_take]; omega) h)
        have HTr : Hid (∀ (R : Ending → World → Prop) (w : World), R (.returned (.string (S (trimL (s.drop (i + 1)))))) w → Calls Tryz.prog 91 #[.string (S (s.drop (i + 1)))] w R) := Lib.hid (fun R w h => rtrim_any _ w (by rw [List.length_drop]; omega) h)
        have hdl : (s.drop (i + 1)).length ≤ 2000000 := by rw [List.length_drop]; omega
        obtain ⟨nm, hnm⟩ : ∃ nm, lowL (s.take i) = nm := ⟨_, rfl⟩
        obtain ⟨vl, hvl⟩ : ∃ vl, trimL (s.drop (i + 1)) = vl := ⟨_, rfl⟩
        obtain ⟨tb, htb⟩ : ∃ tb, tokB (s.take i) = tb := ⟨_, rfl⟩
        obtain ⟨vb, hvb⟩ : ∃ vb, (s.drop (i + 1)).all valB = vb := ⟨_, rfl⟩
        rw [hnm, hvl, htb, hvb] at H
        rw [hnm] at HLo
        rw [hvl] at HTr
        rw [htb] at HTk
        rw [hvb] at HVl
        clear hp h58 h1 h2 h3 hnm hvl htb hvb
        cases tb with
        | false =>
          go_wp2_with (go_at_call 88; (refine HTk.out _ _ ?_))
          exact bodyPost_ret (v := .tuple #[.string (S []), .string (S []), .int .i64 50]) (by simp [results, Tryz.results52, go_sem]; try rfl) rfl (H.out _ (Kp.refl _ _))
        | true =>
          cases vb with
          | false =>
            go_wp2_with (first | (go_at_call 88; (refine HTk.out _ _ ?_)) | (go_at_call 89; (refine HVl.out _ _ ?_)))
            exact bodyPost_ret (v := .tuple #[.string (S []), .string (S []), .int .i64 50]) (by simp [results, Tryz.results52, go_sem]; try rfl) rfl (H.out _ (Kp.refl _ _))
          | true =>
            go_upto_region 7 with (first | (go_at_call 88; (refine HTk.out _ _ ?_)) | (go_at_call 89; (refine HVl.out _ _ ?_)))
            refine wp_region_kp (by kernel_rfl) (by kernel_rfl) ?_
            repeat (go_big_quiet_step (first | (go_at_call 90; ((refine HLo.out _ _ ?_); intro w' k'; exact kpx_mk k')) | (go_at_call 91; (refine HTr.out _ _ ?_; exact kpx_mk (Kp.refl _ _)))))
            refine wpQuiet_nil ?_
            intro w6 k6
            go_wp2
            exact bodyPost_ret (v := .tuple #[.string (S nm), .string (S vl), .int .i64 0]) (by simp [results, Tryz.results52, go_sem]; try rfl) rfl (H.out _ k6)
      · have e0 : ((x.toNat : Int) == 58) = false := (u8_beq x 58).trans (by simpa using h58)
        have HN : Hid ((s.take (i + 1)).contains 58 = false) := Lib.hid (by
          have h1 := hp.out
          rw [List.take_succ_eq_append_getElem hlt, hx]
          simp only [List.contains_eq_mem, List.mem_append, List.mem_singleton, decide_eq_false_iff_not] at h1 ⊢
          rintro (h | h)
          · exact h1 h
          · exact h58 h.symm)
        clear hp h58
        go_wp2
        exact ⟨⟨i + 1, by omega, by go_num, HN, by trivial⟩, by simp [intOf]; omega⟩
    · have HN : Hid (s.contains 58 = false) := Lib.hid (by have := hp.out; rwa [List.take_of_length_le (by omega)] at this)
      clear hp
      unfold fieldL at H
      rw [HN.out] at H
      go_wp2
      exact bodyPost_ret (v := .tuple #[.string (S []), .string (S []), .int .i64 50]) (by simp [results, Tryz.results52, go_sem]; try rfl) rfl (H.out _ (Kp.refl _ _))
end
end
/-! ### The document's first line. -/
section
open Go.RowKit Go.Shelf
set_option linter.unusedVariables false
set_option linter.unusedSimpArgs false
set_option maxRecDepth 100000
theorem dspl_ne (c : UInt8) (l : List UInt8) : 1 ≤ (spl c l).length := by
  cases l with
  | nil => simp [spl]
  | cons x r => unfold spl; split <;> simp
theorem dspl_snoc (c x : UInt8) (l : List UInt8) : (spl c (l ++ [x])).length = (spl c l).length + (if x = c then 1 else 0) := by
  induction l with
  | nil =>
    show (spl c [x]).length = _
    unfold spl
    split <;> simp [spl]
  | cons y l ih =>
    have h1 := dspl_ne c l
    have h2 := dspl_ne c (l ++ [x])
    rw [List.cons_append, spl, spl]
    by_cases hy : y = c
    · rw [if_pos hy, if_pos hy, List.length_cons, List.length_cons, ih]; omega
    · rw [if_neg hy, if_neg hy, List.length_cons, List.length_cons, List.length_tail, List.length_tail, ih]; omega
theorem dspl_app {c : UInt8} {p r : List UInt8} (h : p.contains c = false) : spl c (p ++ c :: r) = p :: spl c r := by
  induction p with
  | nil => simp [spl]
  | cons y p ih =>
    rw [List.contains_cons] at h
    simp only [Bool.or_eq_false_iff, beq_eq_false_iff_ne] at h
    rw [List.cons_append, spl, if_neg (fun e => h.1 e.symm), ih h.2]
    rfl
theorem dspl_none {c : UInt8} {p : List UInt8} (h : p.contains c = false) : spl c p = [p] := by
  induction p with
  | nil => rfl
  | cons y p ih =>
    rw [List.contains_cons] at h
    simp only [Bool.or_eq_false_iff, beq_eq_false_iff_ne] at h
    rw [spl, if_neg (fun e => h.1 e.symm), ih h.2]
    rfl
theorem cont_snoc0 {l : List UInt8} {x : UInt8} (h : l.contains 32 = false) (hx : x ≠ 32) : (l ++ [x]).contains 32 = false := by
  simp only [List.contains_eq_mem, List.mem_append, List.mem_singleton, decide_eq_false_iff_not] at h ⊢
  rintro (h1 | h1)
  · exact h h1
  · exact hx h1.symm
/-- The blanks' places among the first i bytes. -/
def posOk (l : List UInt8) (i : Nat) : List Nat → Prop
  | [] => (l.take i).contains 32 = false
  | [p] => p < i ∧ (l.take p).contains 32 = false ∧ l[p]? = some 32 ∧ ((l.take i).drop (p + 1)).contains 32 = false
  | [p, q] => p < q ∧ q < i ∧ (l.take p).contains 32 = false ∧ l[p]? = some 32 ∧ ((l.take q).drop (p + 1)).contains 32 = false ∧ l[q]? = some 32 ∧ ((l.take i).drop (q + 1)).contains 32 = false
  | _ => True
structure PosB (l : List UInt8) (i : Nat) (ps : List Nat) : Prop where
  len : (spl 32 (l.take i)).length = ps.length + 1
  ok : posOk l i ps
theorem PosB.nil (l : List UInt8) : PosB l 0 [] := ⟨by simp [spl], by simp [posOk]⟩
theorem drop_snoc {l : List UInt8} {x : UInt8} {k : Nat} (h : k ≤ l.length) : (l ++ [x]).drop k = l.drop k ++ [x] := by rw [List.drop_append_of_le_length h]
theorem PosB.no {l : List UInt8} {i : Nat} {ps : List Nat} (h : PosB l i ps) (hi : i < l.length) {x : UInt8} (hx : l[i]'hi = x) (hn : x ≠ 32) : PosB l (i + 1) ps := by
  have ht : l.take (i + 1) = l.take i ++ [x] := by rw [List.take_succ_eq_append_getElem hi, hx]
  have hli : (l.take i).length = i := by rw [List.length_take]; omega
  refine ⟨by rw [ht, dspl_snoc, if_neg hn, h.len], ?_⟩
  have ho := h.ok
  match ps, ho with
  | [], ho => unfold posOk at ho ⊢; rw [ht]; exact cont_snoc0 ho hn
  | [p], ho =>
    unfold posOk at ho ⊢
    obtain ⟨o1, o2, o3, o4⟩ := ho
    exact ⟨by omega, o2, o3, by rw [ht, drop_snoc (by omega)]; exact cont_snoc0 o4 hn⟩
  | [p, q], ho =>
    unfold posOk at ho ⊢
    obtain ⟨o1, o2, o3, o4, o5, o6, o7⟩ := ho
    exact ⟨o1, by omega, o3, o4, o5, o6, by rw [ht, drop_snoc (by omega)]; exact cont_snoc0 o7 hn⟩
  | _ :: _ :: _ :: _, _ => trivial
theorem PosB.yes {l : List UInt8} {i : Nat} {ps : List Nat} (h : PosB l i ps) (hi : i < l.length) (hx : l[i]'hi = 32) : PosB l (i + 1) (ps ++ [i]) := by
  have ht : l.take (i + 1) = l.take i ++ [32] := by rw [List.take_succ_eq_append_getElem hi, hx]
  have hli : (l.take i).length = i := by rw [List.length_take]; omega
  have hg : l[i]? = some 32 := by rw [List.getElem?_eq_getElem hi, hx]
  have hd : (l.take (i + 1)).drop (i + 1) = [] := List.drop_of_length_le (by rw [List.length_take]; omega)
  refine ⟨by rw [ht, dspl_snoc, if_pos rfl, h.len, List.length_append]; simp, ?_⟩
  have ho := h.ok
  match ps, ho with
  | [], ho => unfold posOk at ho; exact ⟨by omega, ho, hg, by rw [hd]; rfl⟩
  | [p], ho =>
    unfold posOk at ho
    obtain ⟨o1, o2, o3, o4⟩ := ho
    exact ⟨o1, by omega, o2, o3, o4, hg, by rw [hd]; rfl⟩
  | [p, q], ho => trivial
  | _ :: _ :: _ :: _, _ => trivial
theorem PosB.two {l : List UInt8} {p q : Nat} (h : PosB l l.length [p, q]) : p < q ∧ q < l.length ∧ spl 32 l = [l.take p, (l.take q).drop (p + 1), l.drop (q + 1)] := by
  have ho := h.ok
  unfold posOk at ho
  obtain ⟨o1, o2, o3, o4, o5, o6, o7⟩ := ho
  rw [List.take_length] at o7
  have hq : l = l.take q ++ 32 :: l.drop (q + 1) := by
    have e : l.drop q = 32 :: l.drop (q + 1) := by
      rw [List.drop_eq_getElem_cons o2]
      rw [List.getElem?_eq_getElem o2] at o6
      injection o6 with o6
      rw [o6]
    rw [← e, List.take_append_drop]
  have hp : l.take q = l.take p ++ 32 :: (l.take q).drop (p + 1) := by
    have hpl : p < l.length := by omega
    have hlt : p < (l.take q).length := by rw [List.length_take]; omega
    have e : (l.take q).drop p = 32 :: (l.take q).drop (p + 1) := by
      rw [List.drop_eq_getElem_cons hlt]
      rw [List.getElem?_eq_getElem hpl] at o4
      injection o4 with o4
      rw [List.getElem_take, o4]
    have e2 : (l.take q).take p = l.take p := by rw [List.take_take]; congr 1; omega
    rw [← e, ← e2, List.take_append_drop]
  refine ⟨o1, o2, ?_⟩
  conv => lhs; rw [hq, hp]
  rw [List.append_assoc, List.cons_append, dspl_app o3, dspl_app o5, dspl_none o7]
theorem PosB.not {l : List UInt8} {ps : List Nat} (h : PosB l l.length ps) (hn : ps.length ≠ 2) : (spl 32 l).length ≠ 3 := by
  have := h.len
  rw [List.take_length] at this
  omega
def posV (ps : List Nat) : List Value := ps.map fun (p : Nat) => Value.int .i64 (p : Int)
theorem verL_len {v : List UInt8} (h : v.length ≠ 8) : verL v = none := by
  unfold verL
  split
  · rename_i h5
    have := congrArg List.length h5
    rw [List.length_take] at this
    have h6 : httpL.length = 5 := rfl
    exact ver3_len (by rw [List.length_drop]; omega)
  · rfl
theorem len8 {v : List UInt8} (h : v.length = 8) : ∃ a b c d e f g i, v = [a, b, c, d, e, f, g, i] := by
  match v, h with
  | [a, b, c, d, e, f, g, i], _ => exact ⟨a, b, c, d, e, f, g, i, rfl⟩
theorem elt_int24 : Elt Tryz.prog 159 3 (.int .i64 0) 1 8 := ⟨Tryz.underlying159, by kernel_rfl, rfl, by decide, by decide⟩
theorem int_one {w : World} {g : Nat} (hg : g = w.heap.size) {x : Int} : Rd (w.alloc (.cells #[.int .i64 x] 3)) [] (some ⟨g, 0, none⟩) [Value.int .i64 x] := Rd.of_bk (Bk.newAt hg _ _) (by simp)
section
variable {R : Ending → World → Prop} {w : World}
set_option maxHeartbeats 8000000 in
theorem rline24_any (l : List UInt8) (hl : l.length ≤ 100000)
    (h0 : firstL l = none → ∀ w', Kp [] w w' → R (.returned (.tuple #[.string (S []), .string (S []), .string (S []), .bool false])) w')
    (h1 : ∀ m t v a b, firstL l = some (m, t, a, b) → v.length = 8 → v[5]? = some a → v[7]? = some b → ∀ w', Kp [] w w' → R (.returned (.tuple #[.string (S m), .string (S t), .string (S v), .bool true])) w') :
    Calls Tryz.prog 51 #[.string (S l)] w R := by
  have H0 := Lib.hid h0
  have H1 := Lib.hid h1
  clear h0 h1
  go_enter Tryz.func51, Tryz.ntmps51
  go_upto_block 0 with (fail)
  go_cut [6] from 12 (fun x W' => ∃ A c ps, x = .slice A ps.length c ∧ Hid (PosB l l.length ps) ∧ Hid (Ow W' 3 1 A ps.length c (posV ps)) ∧ Hid (Kp [] w W'))
  case first =>
    go_wp2
    go_loopw [6, 7] (fun sv iv wr => ∃ (i : Nat) (ps : List Nat) (A : Option Addr) (c : Nat), i ≤ l.length ∧ iv = .int .i64 i ∧ sv = .slice A ps.length c ∧ ps.length ≤ i ∧ Hid (PosB l i ps) ∧ Ow wr 3 1 A ps.length c (posV ps) ∧ (∀ b ∈ bks A, w.heap.size ≤ b) ∧ Kp [] w wr) (fun _ iv _ => l.length - (intOf iv).toNat)
    case atStart => exact ⟨0, [], none, 0, Nat.zero_le _, rfl, rfl, Nat.le_refl _, Lib.hid (PosB.nil l), Ow.nil, by simp [bks], Kp.refl _ _⟩
    case round =>
      obtain ⟨i, ps, A, c, hi, rfl, rfl, hps, hp, ho, hA, kr⟩ := hrel
      by_cases hlt : i < l.length
      · obtain ⟨x, hx⟩ : ∃ x, l[i]'hlt = x := ⟨_, rfl⟩
        by_cases h32 : x = 32
        · have e0 : ((x.toNat : Int) == 32) = true := (u8_beq x 32).trans (by simpa using h32)
          have HP : Hid (PosB l (i + 1) (ps ++ [i])) := Lib.hid (hp.out.yes hlt (by rw [hx, h32]))
          clear h32 hp
          go_wp2_with (at_builtin; refine wpList_app _ rfl (.tmp 22) (.tmp 24) _ rfl elt_int24 A ps.length c _ rfl (ho.alloc _) [] (some ⟨wr.heap.size, 0, none⟩) 1 1 [.int .i64 i] rfl (int_one rfl) rfl (by intro u hu; simp at hu; subst hu; rfl) (by omega) ?_; intro A2 c2 w3 ho3 hk3 hA3)
          have e1 : ps.length + 1 = (ps ++ [i]).length := by simp
          exact ⟨⟨i + 1, ps ++ [i], A2, c2, by omega, by go_num, by rw [e1], by simp; omega, HP, ho3.cast e1 (by simp [posV]), bks_app hA3 hA (by have := kr.size; simp; omega), (kr.alloc _).thn hk3 (fun s hs => .inr (hA s hs))⟩, by simp [intOf]; omega⟩
        · have e0 : ((x.toNat : Int) == 32) = false := (u8_beq x 32).trans (by simpa using h32)
          have HP : Hid (PosB l (i + 1) ps) := Lib.hid (hp.out.no hlt hx h32)
          clear h32 hp
          go_wp2
          exact ⟨⟨i + 1, ps, A, c, by omega, by go_num, rfl, by omega, HP, ho, hA, kr⟩, by simp [intOf]; omega⟩
      · obtain rfl : i = l.length := by omega
        go_wp2
        go_meet
        exact ⟨A, c, ps, rfl, hp, Lib.hid ho, Lib.hid kr⟩
  case rest =>
    obtain ⟨A, c, ps, hx, hp, ho, hk⟩ := hcut
    rw [hx]
    clear hx
    by_cases h2 : ps.length = 2
    · obtain ⟨p, q, rfl⟩ : ∃ p q, ps = [p, q] := by match ps, h2 with | [p, q], _ => exact ⟨p, q, rfl⟩
      obtain ⟨o1, o2, o3⟩ := hp.out.two
      have rd0 := ho.out.rd (N := []) (by simp)
      obtain ⟨b, off, rfl, _, hb, hc⟩ := rd0 (by simp [posV])
      have y0 : wc.cell? ⟨b, off, none⟩ = some (.int .i64 p) := hc 0 _ rfl
      have y1 : wc.cell? ⟨b, off + 1, none⟩ = some (.int .i64 q) := hc 1 _ rfl
      have x1 : IntKind.i64.wrap ((p : Int) + 1) = p + 1 := wrap_ok (by omega) (by omega)
      have x2 : IntKind.i64.wrap ((q : Int) + 1) = q + 1 := wrap_ok (by omega) (by omega)
      have HF : Hid (firstL l = firstP (l.take p) ((l.take q).drop (p + 1)) (l.drop (q + 1))) := Lib.hid (first_is o3)
      have hm1 : (l.take p).length ≤ 2000000 := by rw [List.length_take]; omega
      have ht1 : ((l.take q).drop (p + 1)).length ≤ 2000000 := by rw [List.length_drop, List.length_take]; omega
      have hv1 : (l.drop (q + 1)).length ≤ 2000000 := by rw [List.length_drop]; omega
      clear hp ho rd0 hc o3
      go_upto_region 9 with (fail)
      go_cut [8, 9, 10] (fun a b c W' => a = .string (S (l.take p)) ∧ b = .string (S ((l.take q).drop (p + 1))) ∧ c = .string (S (l.drop (q + 1))) ∧ Hid (Kp [] w W'))
      case first =>
        go_quiet (fail)
        go_wp2
        go_meet
        exact ⟨rfl, rfl, rfl, Lib.hid (hk.out.drewN _)⟩
      case rest =>
        obtain ⟨ha, hb2, hc2, hk2⟩ := hcut
        rw [ha, hb2, hc2]
        clear ha hb2 hc2 y0 y1 hk
        obtain ⟨m, hm⟩ : ∃ m, l.take p = m := ⟨_, rfl⟩
        obtain ⟨t, ht⟩ : ∃ t, (l.take q).drop (p + 1) = t := ⟨_, rfl⟩
        obtain ⟨v, hv⟩ : ∃ v, l.drop (q + 1) = v := ⟨_, rfl⟩
        rw [hm, ht, hv] at HF ⊢
        rw [hm] at hm1
        rw [ht] at ht1
        rw [hv] at hv1
        clear hm ht hv x1 x2 o1 o2
        have HTk : Hid (∀ (R : Ending → World → Prop) (w : World), R (.returned (.bool (tokB m))) w → Calls Tryz.prog 88 #[.string (S m)] w R) := Lib.hid (fun R w h => rtoken_any _ w hm1 h)
        have HN : Hid (firstP m t v = none → ∀ w', Kp [] w w' → R (.returned (.tuple #[.string (S []), .string (S []), .string (S []), .bool false])) w') := Lib.hid (fun e => H0.out (by rw [HF.out, e]))
        obtain ⟨tb, htb⟩ : ∃ tb, tokB m = tb := ⟨_, rfl⟩
        rw [htb] at HTk
        obtain ⟨w2, hw2⟩ : ∃ x, wc = x := ⟨_, rfl⟩
        rw [hw2] at hk2 ⊢
        clear hw2 hb
        go_upto_region 10 with (fail)
        go_cut [70] (fun b W' => ∃ bad, b = .bool bad ∧ W' = w2 ∧ Hid ((bad = true → firstP m t v = none) ∧ (bad = false → tb = true ∧ t ≠ [] ∧ v.length = 8 ∧ v.take 5 = httpL ∧ v[6]? = some 46)))
        case first =>
          cases tb with
          | false =>
            go_wp2_with (go_at_call 88; (refine HTk.out _ _ ?_))
            go_meet
            exact ⟨true, rfl, rfl, Lib.hid ⟨fun _ => firstP_tok htb, fun e => by cases e⟩⟩
          | true =>
            by_cases hte : t = []
            · subst hte
              go_wp2_with (go_at_call 88; (refine HTk.out _ _ ?_))
              go_meet
              exact ⟨true, rfl, rfl, Lib.hid ⟨fun _ => firstP_nil, fun e => by cases e⟩⟩
            · have hte2 : t.isEmpty = false := by simpa using hte
              by_cases h8 : v.length = 8
              · have e8 : ((v.length : Int) != 8) = false := by simp [h8]
                obtain ⟨q, hq⟩ : ∃ q, (v.take 5 == [72, 84, 84, 80, 47]) = q := ⟨_, rfl⟩
                cases q with
                | false =>
                  have hbad : firstP m t v = none := by
                    unfold firstP
                    split
                    · unfold verL
                      rw [if_neg (by intro e; rw [e] at hq; revert hq; decide)]
                      rfl
                    · rfl
                  have HB := Lib.hid hbad
                  clear hbad
                  go_wp2_with (go_at_call 88; (refine HTk.out _ _ ?_))
                  go_meet
                  exact ⟨true, rfl, rfl, Lib.hid ⟨fun _ => HB.out, fun e => by cases e⟩⟩
                | true =>
                  have h5 : v.take 5 = httpL := eq_of_beq hq
                  obtain ⟨x6, hx6⟩ : ∃ x, v[6]'(by omega) = x := ⟨_, rfl⟩
                  by_cases h46 : x6 = 46
                  · have e6 : ((x6.toNat : Int) != 46) = false := (u8_bne x6 46).trans (by simpa using h46)
                    have HB : Hid (v[6]? = some 46) := Lib.hid (by rw [List.getElem?_eq_getElem (by omega), hx6, h46])
                    have H5 := Lib.hid h5
                    clear h46 h5
                    go_wp2_with (go_at_call 88; (refine HTk.out _ _ ?_))
                    go_meet
                    exact ⟨false, rfl, rfl, Lib.hid ⟨(fun e => by cases e), fun _ => ⟨by trivial, hte, h8, H5.out, HB.out⟩⟩⟩
                  · have e6 : ((x6.toNat : Int) != 46) = true := (u8_bne x6 46).trans (by simpa using h46)
                    have HB : Hid (firstP m t v = none) := Lib.hid (by
                      unfold firstP
                      split
                      · have : verL v = none := by
                          obtain ⟨a0, a1, a2, a3, a4, a5, a6, a7, rfl⟩ := len8 h8
                          have : a6 = x6 := hx6
                          subst this
                          unfold verL
                          rw [if_pos h5]
                          show (if digB a5 = true ∧ a6 = 46 ∧ digB a7 = true then some (a5, a7) else none) = none
                          rw [if_neg (fun h => h46 h.2.1)]
                        rw [this]; rfl
                      · rfl)
                    clear h46 h5
                    go_wp2_with (go_at_call 88; (refine HTk.out _ _ ?_))
                    go_meet
                    exact ⟨true, rfl, rfl, Lib.hid ⟨fun _ => HB.out, fun e => by cases e⟩⟩
              · have e8 : ((v.length : Int) != 8) = true := by simp; omega
                have HB : Hid (firstP m t v = none) := Lib.hid (by
                  unfold firstP
                  split
                  · rw [verL_len h8]; rfl
                  · rfl)
                go_wp2_with (go_at_call 88; (refine HTk.out _ _ ?_))
                go_meet
                exact ⟨true, rfl, rfl, Lib.hid ⟨fun _ => HB.out, fun e => by cases e⟩⟩
        case rest =>
          obtain ⟨bad, hb1, hb2, hbd⟩ := hcut
          rw [hb1, hb2]
          clear hb1 hb2
          cases bad with
          | true =>
            have hf := hbd.out.1 rfl
            go_wp2
            exact bodyPost_ret (v := .tuple #[.string (S []), .string (S []), .string (S []), .bool false]) (by simp [results, Tryz.results51, go_sem]; try rfl) rfl (HN.out hf _ hk2.out)
          | false =>
            obtain ⟨i1, i2, i3, i4, i5⟩ := hbd.out.2 rfl
            subst i1
            have I4 := Lib.hid i4
            have I5 := Lib.hid i5
            clear hbd i4 i5
            obtain ⟨x5, hx5⟩ : ∃ x, v[5]'(by omega) = x := ⟨_, rfl⟩
            obtain ⟨x7, hx7⟩ : ∃ x, v[7]'(by omega) = x := ⟨_, rfl⟩
            have HVr : Hid (verL v = if digB x5 = true ∧ digB x7 = true then some (x5, x7) else none) := Lib.hid (by
              obtain ⟨a0, a1, a2, a3, a4, a5, a6, a7, rfl⟩ := len8 i3
              have e5 : a5 = x5 := hx5
              have e7 : a7 = x7 := hx7
              have e6 : a6 = 46 := by have := I5.out; simpa using this
              subst e5; subst e7; subst e6
              unfold verL
              rw [if_pos I4.out]
              show ver3 [a5, 46, a7] = _
              unfold ver3
              simp)
            go_upto_region 12 with (fail)
            go_cut [88] (fun b W' => b = .bool (!(digB x5 && digB x7)) ∧ W' = w2)
            case first =>
              obtain ⟨c1, d1⟩ : ∃ c, decide ((x5.toNat : Int) < 48) = c := ⟨_, rfl⟩
              obtain ⟨c2, d2⟩ : ∃ c, decide ((57 : Int) < x5.toNat) = c := ⟨_, rfl⟩
              obtain ⟨c3, d3⟩ : ∃ c, decide ((x7.toNat : Int) < 48) = c := ⟨_, rfl⟩
              obtain ⟨c4, d4⟩ : ∃ c, decide ((57 : Int) < x7.toNat) = c := ⟨_, rfl⟩
              have h5 : digB x5 = (!c1 && !c2) := by
                unfold digB
                rw [← d1, ← d2]
                rw [Bool.eq_iff_iff]
                simp only [Bool.and_eq_true, decide_eq_true_eq, Bool.not_eq_true', decide_eq_false_iff_not]
                omega
              have h7 : digB x7 = (!c3 && !c4) := by
                unfold digB
                rw [← d3, ← d4]
                rw [Bool.eq_iff_iff]
                simp only [Bool.and_eq_true, decide_eq_true_eq, Bool.not_eq_true', decide_eq_false_iff_not]
                omega
              have HD := Lib.hid (And.intro h5 h7)
              clear h5 h7
              cases c1 with
              | true =>
                go_wp2
                go_meet
                exact ⟨by rw [HD.out.1, HD.out.2]; rfl, rfl⟩
              | false =>
                cases c2 with
                | true =>
                  go_wp2
                  go_meet
                  exact ⟨by rw [HD.out.1, HD.out.2]; rfl, rfl⟩
                | false =>
                  cases c3 with
                  | true =>
                    go_wp2
                    go_meet
                    exact ⟨by rw [HD.out.1, HD.out.2]; rfl, rfl⟩
                  | false =>
                    cases c4 with
                    | true =>
                      go_wp2
                      go_meet
                      exact ⟨by rw [HD.out.1, HD.out.2]; rfl, rfl⟩
                    | false =>
                      go_wp2
                      go_meet
                      exact ⟨by rw [HD.out.1, HD.out.2]; rfl, rfl⟩
            case rest =>
              obtain ⟨hb1, hb2⟩ := hcut
              obtain ⟨dd, hdd⟩ : ∃ dd, (!(digB x5 && digB x7)) = dd := ⟨_, rfl⟩
              rw [hdd] at hb1
              rw [hb1, hb2]
              clear hb1 hb2
              cases dd with
              | true =>
                have hf : firstP m t v = none := by
                  unfold firstP
                  split
                  · rw [HVr.out, if_neg (by intro h; rw [h.1, h.2] at hdd; cases hdd)]; rfl
                  · rfl
                have HB := Lib.hid hf
                clear hf
                go_wp2
                exact bodyPost_ret (v := .tuple #[.string (S []), .string (S []), .string (S []), .bool false]) (by simp [results, Tryz.results51, go_sem]; try rfl) rfl (HN.out HB.out _ hk2.out)
              | false =>
                have hdb : digB x5 = true ∧ digB x7 = true := by
                  cases h5 : digB x5 <;> cases h7 : digB x7 <;> simp_all
                have HVs : Hid (verL v = some (x5, x7)) := Lib.hid (by rw [HVr.out, if_pos hdb])
                have HX5 : Hid (v[5]? = some x5) := Lib.hid (by rw [List.getElem?_eq_getElem (by omega), hx5])
                have HX7 : Hid (v[7]? = some x7) := Lib.hid (by rw [List.getElem?_eq_getElem (by omega), hx7])
                clear hdd hdb HVr hx5 hx7
                go_wp2
                go_loopw [11] (fun iv wr => ∃ i : Nat, i ≤ t.length ∧ iv = .int .i64 i ∧ Hid ((t.take i).all seenB = true) ∧ wr = w2) (fun iv _ => t.length - (intOf iv).toNat)
                case atStart => exact ⟨0, Nat.zero_le _, rfl, Lib.hid (by simp), rfl⟩
                case round =>
                  obtain ⟨i, hi, rfl, hs, rfl⟩ := hrel
                  by_cases hlt : i < t.length
                  · obtain ⟨y, hy⟩ : ∃ y, t[i]'hlt = y := ⟨_, rfl⟩
                    obtain ⟨c1, d1⟩ : ∃ c, decide ((y.toNat : Int) ≤ 32) = c := ⟨_, rfl⟩
                    obtain ⟨c2, d2⟩ : ∃ c, decide ((127 : Int) ≤ y.toNat) = c := ⟨_, rfl⟩
                    have hsn : seenB y = (!c1 && !c2) := by
                      unfold seenB
                      rw [← d1, ← d2]
                      rw [Bool.eq_iff_iff]
                      simp only [Bool.and_eq_true, decide_eq_true_eq, Bool.not_eq_true', decide_eq_false_iff_not]
                      omega
                    have HY : Hid (seenB y = false → firstP m t v = none) := Lib.hid (fun e => firstP_seen (by
                      rw [List.all_eq_false]
                      exact ⟨y, by rw [← hy]; exact List.getElem_mem hlt, by simp [e]⟩))
                    have HZ : Hid (seenB y = true → (t.take (i + 1)).all seenB = true) := Lib.hid (fun e => by
                      rw [List.take_succ_eq_append_getElem hlt, List.all_append, hs.out, hy]; simp [e])
                    have HSN := Lib.hid hsn
                    clear hsn hs
                    cases c1 with
                    | true =>
                      go_wp2
                      exact bodyPost_ret (v := .tuple #[.string (S []), .string (S []), .string (S []), .bool false]) (by simp [results, Tryz.results51, go_sem]; try rfl) rfl (HN.out (HY.out (by rw [HSN.out]; rfl)) _ hk2.out)
                    | false =>
                      cases c2 with
                      | true =>
                        go_wp2
                        exact bodyPost_ret (v := .tuple #[.string (S []), .string (S []), .string (S []), .bool false]) (by simp [results, Tryz.results51, go_sem]; try rfl) rfl (HN.out (HY.out (by rw [HSN.out]; rfl)) _ hk2.out)
                      | false =>
                        have HZ2 := Lib.hid (HZ.out (by rw [HSN.out]; rfl))
                        go_wp2
                        exact ⟨⟨i + 1, by omega, by go_num, HZ2, by trivial⟩, by simp [intOf]; omega⟩
                  · have hs2 := hs.out
                    rw [List.take_of_length_le (by omega)] at hs2
                    have hfin : firstL l = some (m, t, x5, x7) := by rw [HF.out, firstP_ver htb i2 hs2, HVs.out]; rfl
                    have HFin := Lib.hid hfin
                    clear hfin hs2 hs
                    go_wp2
                    exact bodyPost_ret (v := .tuple #[.string (S m), .string (S t), .string (S v), .bool true]) (by simp [results, Tryz.results51, go_sem]; try rfl) rfl (H1.out m t v x5 x7 HFin.out i3 HX5.out HX7.out _ hk2.out)
    · have e2 : ((ps.length : Int) != 2) = true := by simp; omega
      have hf := first_not (hp.out.not h2)
      go_wp2
      exact bodyPost_ret (v := .tuple #[.string (S []), .string (S []), .string (S []), .bool false]) (by simp [results, Tryz.results51, go_sem]; try rfl) rfl (H0.out hf _ hk.out)
end
end
/-! ### The document's has. -/
section
open Go.RowKit Go.Shelf
set_option linter.unusedVariables false
set_option linter.unusedSimpArgs false
set_option maxRecDepth 100000
section
variable {R : Ending → World → Prop} {w : World}
set_option maxHeartbeats 4000000 in
theorem rhas24_any (l x : List UInt8) (hl : l.length ≤ 2000000) (h : ∀ w', Kp [] w w' → R (.returned (.bool ((itemsL (lowL l)).contains x))) w') : Calls Tryz.prog 55 #[.string (S l), .string (S x)] w R := by
  have H := Lib.hid h
  clear h
  have hll : (lowL l).length = l.length := by simp [lowL]
  have hil := itemsL_len (lowL l)
  rw [hll] at hil
  have HLo : Hid (∀ (R : Ending → World → Prop) (w : World), (∀ w', Kp [] w w' → R (.returned (.string (S (lowL l)))) w') → Calls Tryz.prog 90 #[.string (S l)] w R) := Lib.hid (fun R w h => rlower_any _ w (by omega) h)
  have HIt : Hid (∀ (R : Ending → World → Prop) (w : World), (∀ A c w', Ow w' 9 1 A (itemsL (lowL l)).length c (strs (itemsL (lowL l))) → (∀ b ∈ bks A, w.heap.size ≤ b) → Kp [] w w' → R (.returned (.slice A (itemsL (lowL l)).length c)) w') → Calls Tryz.prog 92 #[.string (S (lowL l))] w R) := Lib.hid (fun R w h => ritems_any _ w (by omega) h)
  generalize lowL l = ll at *
  generalize itemsL ll = its at *
  go_enter Tryz.func55, Tryz.ntmps55
  go_upto_region 2 with (first | (go_at_call 90; ((refine HLo.out _ _ ?_); intro w1 k1)) | (go_at_call 92; ((refine HIt.out _ _ ?_); intro A c w2 o2 hA k2)))
  have HRd := Lib.hid (o2.rd (N := []) (by simp))
  have KK := Lib.hid (k1.trans k2)
  clear o2 hA k1 k2 HLo HIt
  go_wp2
  go_loopw [6] (fun iv wr => ∃ i : Nat, i ≤ its.length ∧ iv = .int .i64 i ∧ Hid ((its.take i).contains x = false) ∧ wr = w2) (fun iv _ => its.length - (intOf iv).toNat)
  case atStart => exact ⟨0, Nat.zero_le _, rfl, Lib.hid (by simp), rfl⟩
  case round =>
    obtain ⟨i, hi, rfl, hp, rfl⟩ := hrel
    by_cases hlt : i < its.length
    · obtain ⟨y, hy⟩ : ∃ y, its[i]? = some y := ⟨_, List.getElem?_eq_getElem hlt⟩
      obtain ⟨b, off, rfl, _, hb, hc⟩ := HRd.out (by intro e; have := congrArg List.length e; simp [strs] at this; rw [this] at hlt; simp at hlt)
      have y0 : wr.cell? ⟨b, off + i, none⟩ = some (.string (S y)) := hc i _ (by simp [strs, hy])
      clear hc
      obtain ⟨q, hq⟩ : ∃ q, (y == x) = q := ⟨_, rfl⟩
      have hct := cont_take hy x
      have hqc : (x == y) = q := by rw [← hq, Bool.eq_iff_iff, beq_iff_eq, beq_iff_eq]; exact eq_comm
      rw [hp.out, hqc] at hct
      cases q with
      | true =>
        have e : its.contains x = true := by
          have : y = x := eq_of_beq hq
          rw [← this]; exact cont_mem hy
        rw [e] at H
        clear e hct hp
        go_wp2
        exact H.out _ KK.out
      | false =>
        have HN : Hid ((its.take (i + 1)).contains x = false) := Lib.hid (by rw [hct]; rfl)
        clear hct hp
        go_wp2
        exact ⟨⟨i + 1, by omega, by go_num, HN, by trivial⟩, by simp [intOf]; omega⟩
    · have e := hp.out
      rw [List.take_of_length_le (by omega)] at e
      rw [e] at H
      clear e hp
      go_wp2
      exact H.out _ KK.out
end
end
/-! ### However bytes are fed the same requests come: the plain law. -/
section
open Go.RowKit Go.Shelf
set_option linter.unusedVariables false
set_option linter.unusedSimpArgs false
set_option maxRecDepth 100000

theorem next_G {b : List UInt8} (hb : b.length < 1024) (f : Nat) (hf : b.length < f) :
    nextF b = match headG f [] b with | (ls, rest, st) => if st < 0 then (noReq, st, b, false) else if st = 0 then (if (ofF ls).2 = 0 then ((ofF ls).1, 0, rest, false) else (noReq, (ofF ls).2, [], true)) else (noReq, st, [], true) := by
  unfold nextF
  rw [headF_G _ _ _ _ hb, headG_fuel (b.length + 1) f [] b (by omega) hf]
/-- What Next may hand back. -/
theorem next_cases {b : List UInt8} (hb : b.length < 1024) :
    (nextF b = (noReq, -1, b, false) ∧ True) ∨ (∃ st, 0 < st ∧ nextF b = (noReq, st, [], true)) ∨ (∃ r rest, nextF b = (r, 0, rest, false) ∧ rest.length + 2 ≤ b.length) := by
  have h := next_G hb (b.length + 1) (by omega)
  rcases headG_st (b.length + 1) [] b with e | e | ⟨xs, rr, e⟩
  · rw [e] at h; exact .inl ⟨h, trivial⟩
  · rw [e] at h; exact .inr (.inl ⟨400, by decide, h⟩)
  · have hl := headG_len _ _ _ e
    rw [e] at h
    simp only at h
    rw [if_neg (by decide), if_pos trivial] at h
    by_cases h0 : (ofF xs).2 = 0
    · rw [if_pos h0] at h
      exact .inr (.inr ⟨_, _, h, hl⟩)
    · rw [if_neg h0] at h
      have := (ofF_st xs).1
      exact .inr (.inl ⟨_, by omega, h⟩)
theorem next_app {b c : List UInt8} (hb : b.length + c.length < 1024) :
    (∀ r rest, nextF b = (r, 0, rest, false) → nextF (b ++ c) = (r, 0, rest ++ c, false)) ∧ (∀ st, 0 < st → nextF b = (noReq, st, [], true) → nextF (b ++ c) = (noReq, st, [], true)) := by
  have h1 := next_G (b := b) (by omega) ((b ++ c).length + 1) (by simp; omega)
  have h2 := next_G (b := b ++ c) (by simp; omega) ((b ++ c).length + 1) (by omega)
  obtain ⟨a1, a2⟩ := headG_app ((b ++ c).length + 1) [] b c
  rcases headG_st ((b ++ c).length + 1) [] b with e | e | ⟨xs, rr, e⟩
  · rw [e] at h1
    constructor
    · intro r rest h; rw [h1] at h; simp at h
    · intro st hst h; rw [h1] at h; simp at h
  · rw [e] at h1
    rw [a2 _ _ e] at h2
    constructor
    · intro r rest h; rw [h1] at h; simp at h
    · intro st hst h
      rw [h2, ← h, h1]; rfl
  · rw [e] at h1
    rw [a1 _ _ e] at h2
    simp only at h1 h2
    rw [if_neg (by decide), if_pos trivial] at h1 h2
    by_cases h0 : (ofF xs).2 = 0
    · rw [if_pos h0] at h1 h2
      constructor
      · intro r rest h
        rw [h1] at h
        simp at h
        rw [h2, h.1, h.2]
      · intro st hst h; rw [h1] at h; simp at h
    · rw [if_neg h0] at h1 h2
      constructor
      · intro r rest h; rw [h1] at h; simp at h
      · intro st hst h; rw [h2, ← h, h1]
/-- All that comes of bytes: the requests, the last status, what is left, whether it is over. -/
def runF : Nat → List UInt8 → List Req × Int × List UInt8 × Bool
  | 0, b => ([], 0, b, false)
  | k + 1, b => if (nextF b).2.1 = 0 then ((nextF b).1 :: (runF k (nextF b).2.2.1).1, (runF k (nextF b).2.2.1).2) else ([], (nextF b).2.1, (nextF b).2.2.1, (nextF b).2.2.2)
theorem runF_fuel : ∀ (k k' : Nat) (b : List UInt8), b.length < 1024 → b.length < k → b.length < k' → runF k b = runF k' b := by
  intro k
  induction k with
  | zero => intro k' b _ h; omega
  | succ k ih =>
    intro k' b hb h h'
    obtain ⟨k', rfl⟩ : ∃ g, k' = g + 1 := ⟨k' - 1, by omega⟩
    rw [runF, runF]
    rcases next_cases hb with ⟨e, _⟩ | ⟨st, hst, e⟩ | ⟨r, rest, e, hl⟩
    · rw [e]; rfl
    · rw [e]; simp only; rw [if_neg (by omega), if_neg (by omega)]
    · rw [e]; simp only
      rw [ih k' rest (by omega) (by omega) (by omega)]
def run (b : List UInt8) : List Req × Int × List UInt8 × Bool := runF (b.length + 1) b
theorem run_more {b : List UInt8} (hb : b.length < 1024) (e : nextF b = (noReq, -1, b, false)) : run b = ([], -1, b, false) := by
  unfold run; rw [runF, e]; rfl
theorem run_bad {b : List UInt8} {st : Int} (hst : 0 < st) (e : nextF b = (noReq, st, [], true)) : run b = ([], st, [], true) := by
  unfold run; rw [runF, e]; simp only; rw [if_neg (by omega)]
theorem run_good {b rest : List UInt8} {r : Req} (hb : b.length < 1024) (hl : rest.length + 2 ≤ b.length) (e : nextF b = (r, 0, rest, false)) : run b = (r :: (run rest).1, (run rest).2) := by
  unfold run
  rw [runF, e]
  simp only
  rw [runF_fuel b.length (rest.length + 1) rest (by omega) (by omega) (by omega)]
  rfl
theorem run_st : ∀ (n : Nat) (b : List UInt8), b.length ≤ n → b.length < 1024 → ((run b).2.1 = -1 ∧ (run b).2.2.2 = false ∨ 0 < (run b).2.1 ∧ (run b).2.2.1 = [] ∧ (run b).2.2.2 = true) ∧ (run b).2.2.1.length ≤ b.length := by
  intro n
  induction n with
  | zero =>
    intro b h hb
    rcases next_cases hb with ⟨e, _⟩ | ⟨st, hst, e⟩ | ⟨r, rest, e, hl⟩
    · rw [run_more hb e]; exact ⟨.inl ⟨rfl, rfl⟩, Nat.le_refl _⟩
    · rw [run_bad hst e]; exact ⟨.inr ⟨hst, rfl, rfl⟩, by simp⟩
    · omega
  | succ n ih =>
    intro b h hb
    rcases next_cases hb with ⟨e, _⟩ | ⟨st, hst, e⟩ | ⟨r, rest, e, hl⟩
    · rw [run_more hb e]; exact ⟨.inl ⟨rfl, rfl⟩, Nat.le_refl _⟩
    · rw [run_bad hst e]; exact ⟨.inr ⟨hst, rfl, rfl⟩, by simp⟩
    · rw [run_good hb hl e]
      have := ih rest (by omega) (by omega)
      exact ⟨this.1, by have := this.2; simp only; omega⟩
theorem cruns_app : ∀ (n : Nat) (b c : List UInt8), b.length ≤ n → b.length + c.length < 1024 →
    ((run b).2.2.2 = true → run (b ++ c) = run b) ∧ ((run b).2.2.2 = false → run (b ++ c) = ((run b).1 ++ (run ((run b).2.2.1 ++ c)).1, (run ((run b).2.2.1 ++ c)).2)) := by
  intro n
  induction n with
  | zero =>
    intro b c h hb
    rcases next_cases (b := b) (by omega) with ⟨e, _⟩ | ⟨st, hst, e⟩ | ⟨r, rest, e, hl⟩
    · rw [run_more (by omega) e]
      exact ⟨fun h => (by cases h), fun _ => (by simp)⟩
    · rw [run_bad hst e, run_bad hst ((next_app hb).2 st hst e)]
      exact ⟨fun _ => rfl, fun h => (by cases h)⟩
    · omega
  | succ n ih =>
    intro b c h hb
    rcases next_cases (b := b) (by omega) with ⟨e, _⟩ | ⟨st, hst, e⟩ | ⟨r, rest, e, hl⟩
    · rw [run_more (by omega) e]
      exact ⟨fun h => (by cases h), fun _ => (by simp)⟩
    · rw [run_bad hst e, run_bad hst ((next_app hb).2 st hst e)]
      exact ⟨fun _ => rfl, fun h => (by cases h)⟩
    · have e2 := (next_app hb).1 r rest e
      have h2 := ih rest c (by omega) (by omega)
      rw [run_good (by omega) hl e, run_good (by simp; omega) (by simp; omega) e2]
      constructor
      · intro ho
        rw [h2.1 ho]
      · intro ho
        rw [h2.2 ho]
        simp
end
end Go.Proofs.YtnmafahbdfilcaaGreatDoor
