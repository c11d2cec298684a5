/- A scope whose one label is jumped to from ahead: the rest behind the label is walked at each jump. civil.Parse. Package cond: a tag in a list. A line in plain words. Package request in plain words: a line, a head, a request of lines, and how these stay when more bytes come. The walks of package request: the first line, the known methods. -/
import Derived.Test.YtnmafahbdfilcaaGreatDoorPC1
import Derived.ScopeJumps
import Derived.WalkMore
import Derived.Test.YtnmafahbdfilcaaGreatDoorPC14
import Derived.Deep.CutBlock
import Derived.Deep.DeepCutAuto
import Derived.Deep.RegionLaw
import Derived.Test.YtnmafahbdfilcaaGreatDoorPC6
import Derived.Test.YtnmafahbdfilcaaGreatDoorPC4
import Derived.Test.YtnmafahbdfilcaaGreatDoorPC2
import Derived.BigQuiet
import Derived.IntWalk
namespace Go.Proofs.YtnmafahbdfilcaaGreatDoor
/-! ### A scope whose one label is jumped to from ahead: the rest behind the label is walked at each jump. -/
section
open Go.RowKit
set_option linter.unusedVariables false

theorem wp_scope_fwd {P : Program} {a : Act} {w : World} {fn : Func} {R : Ending → World → Prop} {c rest : Code} (l : Nat) (hf : findLabel c l = some rest)
    (h : ∀ J : Act → World → Prop, Hid (∀ a w, rest.wp P (bodyPost P fn R) a w → J a w) → c.wp P (Exit.jump l J (bodyPost P fn R)) a w) : (Code.scope c).wp P (bodyPost P fn R) a w :=
  wp_scope_jumps l (fun a w => rest.wp P (bodyPost P fn R) a w) (fun _ _ => 0) hf (h _ (Lib.hid fun _ _ h => h)) (fun a w hJ => wp_mono hJ (fun e a' w' hq => by
    cases e with
    | goto l' => exact hq.elim
    | _ => exact hq))
end
/-! ### civil.Parse. -/
section
open Go.RowKit
set_option linter.unusedVariables false
set_option linter.unusedSimpArgs false
set_option maxRecDepth 100000
/-- The last place of a name among k. -/
def lastN (ns : List (List UInt8)) (x : List UInt8) (o : Int) : Nat → Int
  | 0 => 0
  | k + 1 => if ns[k]? = some x then k + o else lastN ns x o k
/-- A text's date, field by field. -/
def fY (l : List UInt8) : Int := numF ((l.take 16).drop 12)
def fM (l : List UInt8) : Int := lastN moN ((l.take 11).drop 8) 1 12
def fD (l : List UInt8) : Int := numF ((l.take 7).drop 5)
def fH (l : List UInt8) : Int := numF ((l.take 19).drop 17)
def fI (l : List UInt8) : Int := numF ((l.take 22).drop 20)
def fS (l : List UInt8) : Int := numF ((l.take 25).drop 23)
def fW (l : List UInt8) : Int := lastN wdN (l.take 3) 0 7
def parN (l : List UInt8) : Int := secN (fY l) (fM l) (fD l) (fH l) (fI l) (fS l)
/-- Is a text a date? -/
def parOk (l : List UInt8) : Prop := l.length = 29 ∧ isDt (fY l) (fM l) (fD l) (fH l) (fI l) (fS l) (fW l) ∧ Told (parN l) l
section
variable {R : Ending → World → Prop} {w : World}
theorem gen_worldB3 {Q : World → Prop} {W : World} (Pr : World → Prop) (h : Pr W) (hk : ∀ W', Pr W' → Q W') : Q W := hk W h
theorem idx7 {a : List UInt8} {k : Nat} (ha : wdN[k]? = some a) (W : World) : (Instr.index 184 (.agg (wdN.map fun x => Value.string (S x)).toArray) (.int .i64 k)).run Tryz.prog W = .ok (.string (S a)) W := by
  have hk : k < 7 := (List.getElem?_eq_some_iff.1 ha).1
  rcases (by omega : k = 0 ∨ k = 1 ∨ k = 2 ∨ k = 3 ∨ k = 4 ∨ k = 5 ∨ k = 6) with rfl | rfl | rfl | rfl | rfl | rfl | rfl <;> (simp [wdN] at ha; subst ha; rfl)
theorem idx12 {a : List UInt8} {k : Nat} (ha : moN[k]? = some a) (W : World) : (Instr.index 186 (.agg (moN.map fun x => Value.string (S x)).toArray) (.int .i64 k)).run Tryz.prog W = .ok (.string (S a)) W := by
  have hk : k < 12 := (List.getElem?_eq_some_iff.1 ha).1
  rcases (by omega : k = 0 ∨ k = 1 ∨ k = 2 ∨ k = 3 ∨ k = 4 ∨ k = 5 ∨ k = 6 ∨ k = 7 ∨ k = 8 ∨ k = 9 ∨ k = 10 ∨ k = 11) with rfl | rfl | rfl | rfl | rfl | rfl | rfl | rfl | rfl | rfl | rfl | rfl <;> (simp [moN] at ha; subst ha; rfl)
theorem seconds_any {y m d h mi s wd : Int} (h1 : Hid (isDt y m d h mi s wd) → ∀ w', Kp [] w w' → R (.returned (.tuple #[.int .i64 (secN y m d h mi s), .int .i64 0])) w')
    (h0 : Hid (¬ isDt y m d h mi s wd) → ∀ w', Kp [] w w' → R (.returned (.tuple #[.int .i64 0, .int .i64 60])) w') :
    Calls Tryz.prog 139 #[.agg #[.int .i64 y, .int .i64 m, .int .i64 d, .int .i64 h, .int .i64 mi, .int .i64 s, .int .i64 wd]] w R := by
  by_cases hb : dBd y m d h mi s
  · exact seconds_good hb (fun hi => h1 (Lib.hid hi)) (fun hi => h0 (Lib.hid hi))
  · exact seconds_bad hb (h0 (Lib.hid (fun hi => hb hi.1)))
set_option maxHeartbeats 8000000 in
theorem parse3_any (l : List UInt8) (hl : l.length = 29) (hw : Lw w) (h1 : parOk l → ∀ w', Kp [] w w' → R (.returned (.tuple #[.int .i64 (parN l), .int .i64 0])) w') (h0 : ¬ parOk l → ∀ w', Kp [] w w' → R (.returned (.tuple #[.int .i64 0, .int .i64 60])) w') :
    Calls Tryz.prog 112 #[.string (S l)] w R := by
  have H0 := Lib.hid h0
  have H1 := Lib.hid h1
  clear h0 h1
  obtain ⟨xm, hxm⟩ : ∃ x, (l.take 11).drop 8 = x := ⟨_, rfl⟩
  obtain ⟨xw, hxw⟩ : ∃ x, l.take 3 = x := ⟨_, rfl⟩
  obtain ⟨WA, eWA⟩ : ∃ WA, (wdN.map fun x => Value.string (S x)).toArray = WA := ⟨_, rfl⟩
  obtain ⟨MA, eMA⟩ : ∃ MA, (moN.map fun x => Value.string (S x)).toArray = MA := ⟨_, rfl⟩
  have HW7 : Hid (∀ (R : Ending → World → Prop) (w : World), (∀ w', Kp [] w w' → R (.returned (.agg WA)) w') → Calls Tryz.prog 117 #[] w R) := Lib.hid (fun R w h => wd_any w (by rw [eWA]; exact h))
  have HM12 : Hid (∀ (R : Ending → World → Prop) (w : World), (∀ w', Kp [] w w' → R (.returned (.agg MA)) w') → Calls Tryz.prog 118 #[] w R) := Lib.hid (fun R w h => mo_any w (by rw [eMA]; exact h))
  have HX7 : Hid (∀ (k : Nat) (a : List UInt8), wdN[k]? = some a → ∀ W', (Instr.index 184 (.agg WA) (.int .i64 k)).run Tryz.prog W' = .ok (.string (S a)) W') := Lib.hid (fun k a ha W' => by rw [← eWA]; exact idx7 ha W')
  have HX12 : Hid (∀ (k : Nat) (a : List UInt8), moN[k]? = some a → ∀ W', (Instr.index 186 (.agg MA) (.int .i64 k)).run Tryz.prog W' = .ok (.string (S a)) W') := Lib.hid (fun k a ha W' => by rw [← eMA]; exact idx12 ha W')
  clear eWA eMA
  go_enter Tryz.func112, Tryz.ntmps112
  go_wp2
  refine wp_scope_fwd 0 (by rfl) ?_
  intro J HJ
  go_upto_region 2 with (fail)
  refine gen_worldC (fun W => ∃ g, w.heap.size = g ∧ Hid (Kp [] w W ∧ Bk W g 180 (dC 0 0 0 0 0 0 0))) ⟨_, rfl, Lib.hid ⟨(Kp.refl _ _).alloc _, (Bk.new' _ _ _).cast rfl⟩⟩ ?_
  rintro W ⟨g, hg, hW⟩
  have hgw : w.heap.size ≤ g := by omega
  rw [hg]
  clear hg
  go_upto_region 6 with (go_at_call 118; (refine HM12.out _ _ ?_; intro w2 k2))
  have hW2 : Hid (Kp [] w w2 ∧ Bk w2 g 180 (dC 0 0 0 0 0 0 0)) := Lib.hid ⟨hW.out.1.trans k2, hW.out.2.kp k2 (by simp)⟩
  clear k2 hW
  go_loopw [17] (fun i wr => ∃ k : Nat, k ≤ 12 ∧ i = .int .i64 k ∧ Hid (Kp [] w wr ∧ Bk wr g 180 (dC 0 (lastN moN xm 1 k) 0 0 0 0 0))) (fun i _ => 12 - (intOf i).toNat)
  case atStart => exact ⟨0, by omega, rfl, hW2⟩
  case round =>
    obtain ⟨k, hk, rfl, hr⟩ := hrel
    by_cases hlt : k < 12
    · obtain ⟨a, ha⟩ : ∃ a, moN[k]? = some a := ⟨_, List.getElem?_eq_getElem (by simp [moN]; omega)⟩
      have hx := HX12.out k a ha
      obtain ⟨⟨p0, p1, p2, p3, p4, p5, p6⟩, ⟨z0, z1, z2, z3, z4, z5, z6⟩⟩ := bk7 hr.out.2
      by_cases hq : a = xm
      · have hb : (a == List.drop 8 (List.take 11 l)) = true := by rw [hxm]; simpa using hq
        have hN : Hid (lastN moN xm 1 (k + 1) = k + 1) := Lib.hid (by show (if moN[k]? = some xm then ((k : Int) + 1) else _) = _; rw [if_pos (by rw [ha, hq])])
        have hwk : IntKind.i64.wrap ((k : Int) + 1) = k + 1 := by rw [IntKind.wrap_i64]; omega
        clear ha hq hxm hxw
        go_wp2
        exact ⟨⟨k + 1, by omega, by go_num, Lib.hid ⟨hr.out.1.setCell (.inr hgw) _, by rw [hN.out]; exact (hr.out.2.set_ 1 _).cast rfl⟩⟩, by simp [intOf]; omega⟩
      · have hb : (a == List.drop 8 (List.take 11 l)) = false := by rw [hxm]; simpa using hq
        have hN : Hid (lastN moN xm 1 (k + 1) = lastN moN xm 1 k) := Lib.hid (by show (if moN[k]? = some xm then ((k : Int) + 1) else _) = _; rw [if_neg (by rw [ha]; intro e; injection e with e; exact hq e)])
        clear ha hq hxm hxw
        go_wp2
        exact ⟨⟨k + 1, by omega, by go_num, Lib.hid ⟨hr.out.1, by rw [hN.out]; exact hr.out.2⟩⟩, by simp [intOf]; omega⟩
    · obtain rfl : k = 12 := by omega
      have hM : lastN moN xm 1 12 = fM l := by rw [← hxm]; rfl
      rw [hM] at hr
      obtain ⟨m, hm⟩ : ∃ m, fM l = m := ⟨_, rfl⟩
      rw [hm] at hr
      clear hM HX12 HM12
      go_upto_region 12 with (go_at_call 117; (refine HW7.out _ _ ?_; intro w3 k3))
      have hW3 : Hid (Kp [] w w3 ∧ Bk w3 g 180 (dC 0 m 0 0 0 0 0)) := Lib.hid ⟨hr.out.1.trans k3, hr.out.2.kp k3 (by simp)⟩
      clear k3 hr HW7
      go_loopw [30] (fun i wr => ∃ k : Nat, k ≤ 7 ∧ i = .int .i64 k ∧ Hid (Kp [] w wr ∧ Bk wr g 180 (dC 0 m 0 0 0 0 (lastN wdN xw 0 k)))) (fun i _ => 7 - (intOf i).toNat)
      case atStart => exact ⟨0, by omega, rfl, hW3⟩
      case round =>
        obtain ⟨k, hk, rfl, hr⟩ := hrel
        by_cases hlt : k < 7
        · obtain ⟨a, ha⟩ : ∃ a, wdN[k]? = some a := ⟨_, List.getElem?_eq_getElem (by simp [wdN]; omega)⟩
          have hx := HX7.out k a ha
          obtain ⟨⟨p0, p1, p2, p3, p4, p5, p6⟩, ⟨z0, z1, z2, z3, z4, z5, z6⟩⟩ := bk7 hr.out.2
          by_cases hq : a = xw
          · have hb : (a == List.take 3 l) = true := by rw [hxw]; simpa using hq
            have hN : Hid (lastN wdN xw 0 (k + 1) = k) := Lib.hid (by show (if wdN[k]? = some xw then ((k : Int) + 0) else _) = _; rw [if_pos (by rw [ha, hq])]; omega)
            clear ha hq hxm hxw hm
            go_wp2
            exact ⟨⟨k + 1, by omega, by go_num, Lib.hid ⟨hr.out.1.setCell (.inr hgw) _, by rw [hN.out]; exact (hr.out.2.set_ 6 _).cast rfl⟩⟩, by simp [intOf]; omega⟩
          · have hb : (a == List.take 3 l) = false := by rw [hxw]; simpa using hq
            have hN : Hid (lastN wdN xw 0 (k + 1) = lastN wdN xw 0 k) := Lib.hid (by show (if wdN[k]? = some xw then ((k : Int) + 0) else _) = _; rw [if_neg (by rw [ha]; intro e; injection e with e; exact hq e)])
            clear ha hq hxm hxw hm
            go_wp2
            exact ⟨⟨k + 1, by omega, by go_num, Lib.hid ⟨hr.out.1, by rw [hN.out]; exact hr.out.2⟩⟩, by simp [intOf]; omega⟩
        · obtain rfl : k = 7 := by omega
          have hM : lastN wdN xw 0 7 = fW l := by rw [← hxw]; rfl
          rw [hM] at hr
          obtain ⟨wd, hwd⟩ : ∃ m, fW l = m := ⟨_, rfl⟩
          rw [hwd] at hr
          obtain ⟨d, hd⟩ : ∃ m, fD l = m := ⟨_, rfl⟩
          obtain ⟨y, hy⟩ : ∃ m, fY l = m := ⟨_, rfl⟩
          obtain ⟨h, hh⟩ : ∃ m, fH l = m := ⟨_, rfl⟩
          obtain ⟨mi, hmi⟩ : ∃ m, fI l = m := ⟨_, rfl⟩
          obtain ⟨s, hs⟩ : ∃ m, fS l = m := ⟨_, rfl⟩
          have HNd : Hid (∀ (R : Ending → World → Prop) (W : World), R (.returned (.int .i64 d)) W → Calls Tryz.prog 138 #[.string (S (List.drop 5 (List.take 7 l)))] W R) := Lib.hid (fun R W h => number3_any _ W (by simp; omega) (by rw [← hd] at h; exact h))
          have HNy : Hid (∀ (R : Ending → World → Prop) (W : World), R (.returned (.int .i64 y)) W → Calls Tryz.prog 138 #[.string (S (List.drop 12 (List.take 16 l)))] W R) := Lib.hid (fun R W h => number3_any _ W (by simp; omega) (by rw [← hy] at h; exact h))
          have HNh : Hid (∀ (R : Ending → World → Prop) (W : World), R (.returned (.int .i64 h)) W → Calls Tryz.prog 138 #[.string (S (List.drop 17 (List.take 19 l)))] W R) := Lib.hid (fun R W h => number3_any _ W (by simp; omega) (by rw [← hh] at h; exact h))
          have HNi : Hid (∀ (R : Ending → World → Prop) (W : World), R (.returned (.int .i64 mi)) W → Calls Tryz.prog 138 #[.string (S (List.drop 20 (List.take 22 l)))] W R) := Lib.hid (fun R W h => number3_any _ W (by simp; omega) (by rw [← hmi] at h; exact h))
          have HNs : Hid (∀ (R : Ending → World → Prop) (W : World), R (.returned (.int .i64 s)) W → Calls Tryz.prog 138 #[.string (S (List.drop 23 (List.take 25 l)))] W R) := Lib.hid (fun R W h => number3_any _ W (by simp; omega) (by rw [← hs] at h; exact h))
          have HPO : Hid (parOk l ↔ (isDt y m d h mi s wd ∧ Told (secN y m d h mi s) l)) := Lib.hid (by
            unfold parOk parN
            rw [hm, hwd, hd, hy, hh, hmi, hs]
            exact ⟨fun x => x.2, fun x => ⟨hl, x⟩⟩)
          have HPN : Hid (parN l = secN y m d h mi s) := Lib.hid (by unfold parN; rw [hm, hd, hy, hh, hmi, hs])
          obtain ⟨⟨p0, p1, p2, p3, p4, p5, p6⟩, ⟨z0, z1, z2, z3, z4, z5, z6⟩⟩ := bk7 hr.out.2
          clear hM hwd hd hy hh hmi hs hm HX7 hxm hxw
          go_upto_region 17 with (fail)
          go_region_law (first | (go_simp; go_at_call 138; (with_reducible refine HNd.out _ _ ?_)) | (go_simp; go_at_call 138; (with_reducible refine HNy.out _ _ ?_)))
          refine gen_worldB3 (fun W => Hid (Kp [] w W ∧ Bk W g 180 (dC y m d 0 0 0 wd))) (Lib.hid ⟨((hr.out.1.setCell (.inr hgw) _).setCell (.inr hgw) _).drew, (((hr.out.2.set_ 2 _).set_ 0 _).drew).cast rfl⟩) ?_
          clear p0 p1 p2 p3 p4 p5 p6 z0 z1 z2 z3 z4 z5 z6 hr HNd HNy
          intro W5 hr
          obtain ⟨⟨p0, p1, p2, p3, p4, p5, p6⟩, ⟨z0, z1, z2, z3, z4, z5, z6⟩⟩ := bk7 hr.out.2
          go_upto_region 18 with (fail)
          go_region_law (first | (go_simp; go_at_call 138; (with_reducible refine HNh.out _ _ ?_)) | (go_simp; go_at_call 138; (with_reducible refine HNi.out _ _ ?_)) | (go_simp; go_at_call 138; (with_reducible refine HNs.out _ _ ?_)))
          refine gen_worldB3 (fun W => Hid (Kp [] w W ∧ Bk W g 180 (dC y m d h mi s wd))) (Lib.hid ⟨(((hr.out.1.setCell (.inr hgw) _).setCell (.inr hgw) _).setCell (.inr hgw) _).drew, ((((hr.out.2.set_ 3 _).set_ 4 _).set_ 5 _).drew).cast rfl⟩) ?_
          clear p0 p1 p2 p3 p4 p5 p6 z0 z1 z2 z3 z4 z5 z6 hr HNh HNi HNs
          intro W6 hr
          obtain ⟨⟨p0, p1, p2, p3, p4, p5, p6⟩, _⟩ := bk7 hr.out.2
          obtain ⟨N, hN⟩ : ∃ N, secN y m d h mi s = N := ⟨_, rfl⟩
          have HSc : Hid (∀ (R : Ending → World → Prop), (Hid (isDt y m d h mi s wd) → ∀ w', Kp [] W6 w' → R (.returned (.tuple #[.int .i64 N, .int .i64 0])) w') → (Hid (¬ isDt y m d h mi s wd) → ∀ w', Kp [] W6 w' → R (.returned (.tuple #[.int .i64 0, .int .i64 60])) w') → Calls Tryz.prog 139 #[.agg #[.int .i64 y, .int .i64 m, .int .i64 d, .int .i64 h, .int .i64 mi, .int .i64 s, .int .i64 wd]] W6 R) := Lib.hid (fun R a b => seconds_any (by rw [hN]; exact a) b)
          rw [hN] at HPO HPN
          have HNN := Lib.hid hN
          clear hN
          go_upto_region 20 with (go_at_call 139; (refine HSc.out _ (fun hi w7 k7 => ?_) (fun hi w7 k7 => ?_)))
          · have kw := hr.out.1.trans k7
            have hbd := secN_bd hi.out.1
            rw [HNN.out] at hbd
            have hmb : mayB N = true := by simp [mayB]; omega
            have HPr : Hid (∀ (R : Ending → World → Prop), (∀ D w', Hid (Told N D) → Kp [] w7 w' → R (.returned (.tuple #[.string (S D), .int .i64 0])) w') → Calls Tryz.prog 67 #[.int .i64 N] w7 R) := Lib.hid (fun R h => print_both N w7 (hw.kp kw) (fun D e w' k' ht _ => by obtain ⟨t1, rfl⟩ := ht hmb; exact h D w' (Lib.hid t1) k'))
            clear hbd hmb
            go_upto_region 22 with (go_at_call 67; (refine HPr.out _ ?_; intro D w8 hD k8))
            by_cases hq : D = l
            · have hb : (D == l) = true := by simpa using hq
              have HOK : Hid (parOk l) := Lib.hid (HPO.out.2 ⟨hi.out, hq ▸ hD.out⟩)
              clear hq
              go_wp2
              exact rcast (H1.out HOK.out _ (kw.trans k8)) (by rw [HPN.out]; rfl)
            · have hb : (D == l) = false := by simpa using hq
              have HOK : Hid (¬ parOk l) := Lib.hid (fun h => hq (told_uniq hD.out (HPO.out.1 h).2))
              clear hq
              go_wp2
              go_step3
              refine ⟨rfl, HJ.out _ _ ?_⟩
              go_wp2
              exact H0.out HOK.out _ (kw.trans k8)
          · have kw := hr.out.1.trans k7
            have HOK : Hid (¬ parOk l) := Lib.hid (fun h => hi.out (HPO.out.1 h).1)
            go_wp2
            go_step3
            refine ⟨rfl, HJ.out _ _ ?_⟩
            go_wp2
            exact H0.out HOK.out _ kw
/-- civil.Parse of any text. -/
theorem parse_civ (l : List UInt8) (hw : Lw w) (hl : l.length ≤ 2000000) (h1 : Hid (parOk l) → ∀ w', Kp [] w w' → R (.returned (.tuple #[.int .i64 (parN l), .int .i64 0])) w') (h0 : Hid (¬ parOk l) → ∀ w', Kp [] w w' → R (.returned (.tuple #[.int .i64 0, .int .i64 60])) w') :
    Calls Tryz.prog 112 #[.string (S l)] w R := by
  by_cases h29 : l.length = 29
  · exact parse3_any l h29 hw (fun h => h1 (Lib.hid h)) (fun h => h0 (Lib.hid h))
  · have hb : ((l.length : Int) != 29) = true := by simp; omega
    have H0 := Lib.hid (h0 (Lib.hid (fun h => h29 h.1)))
    clear h1 h0 h29
    go_enter Tryz.func112, Tryz.ntmps112
    go_wp2
    refine wp_scope_fwd 0 (by rfl) ?_
    intro J HJ
    go_wp2
    go_step3
    refine ⟨rfl, HJ.out _ _ ?_⟩
    go_wp2
    exact H0.out _ ((Kp.refl _ _).alloc _)
end
end
/-! ### Package cond: a tag in a list. -/
section
open Go.RowKit Go.Shelf
set_option linter.unusedVariables false
set_option linter.unusedSimpArgs false
set_option maxRecDepth 100000

/-- Is this item what is looked for? -/
def hitB (t : List UInt8) (weak : Bool) (x : List UInt8) : Bool := x == t || (weak && x == 87 :: 47 :: t)
noncomputable def matchM (l t : List UInt8) (weak : Bool) : Bool := trimL l == [42] || ((itemsL l).all tg && (itemsL l).any (hitB t weak))
theorem strs_ne {its : List (List UInt8)} {k : Nat} (h : k < its.length) : strs its ≠ [] := by
  intro e
  have h0 : its.length = 0 := by rw [← strs_len, e]; rfl
  omega
theorem any_take {l : List (List UInt8)} {p : List UInt8 → Bool} {k : Nat} {x : List UInt8} (hx : l[k]? = some x) : (l.take (k + 1)).any p = ((l.take k).any p || p x) := by
  have hk : k < l.length := (List.getElem?_eq_some_iff.1 hx).1
  have e : l[k] = x := (List.getElem?_eq_some_iff.1 hx).2
  rw [List.take_succ_eq_append_getElem hk, e, List.any_append]; simp
theorem all_take {l : List (List UInt8)} {p : List UInt8 → Bool} {k : Nat} {x : List UInt8} (hx : l[k]? = some x) : (l.take (k + 1)).all p = ((l.take k).all p && p x) := by
  have hk : k < l.length := (List.getElem?_eq_some_iff.1 hx).1
  have e : l[k] = x := (List.getElem?_eq_some_iff.1 hx).2
  rw [List.take_succ_eq_append_getElem hk, e, List.all_append]; simp
set_option maxHeartbeats 4000000 in
theorem match_any {R : Ending → World → Prop} (l t : List UInt8) (weak : Bool) (w : World) (hl : l.length ≤ 2000000) (ht : t.length ≤ 2000000) (hm : Ml w) (h : ∀ w', Kp [] w w' → R (.returned (.bool (matchM l t weak))) w') :
    Calls Tryz.prog 66 #[.string (S l), .string (S t), .bool weak] w R := by
  have H := Lib.hid h
  clear h
  have HM := Lib.hid (show matchM l t weak = (trimL l == [42] || ((itemsL l).all tg && (itemsL l).any (hitB t weak))) from rfl)
  generalize matchM l t weak = b at *
  cases hs : (trimL l == [42])
  · obtain ⟨its, hits⟩ : ∃ its, itemsL l = its := ⟨_, rfl⟩
    have hmem : ∀ x ∈ its, x.length ≤ 2000000 := fun x hx => by
      have := items_mem_len (l := l) (p := x) (by rw [hits]; exact hx)
      omega
    have hil : its.length ≤ 2000001 := by have := itemsL_len l; rw [hits] at this; omega
    have HI : Hid (∀ (R : Ending → World → Prop) (w1 : World), Ml w1 → (∀ A c w', Ow w' 9 1 A its.length c (strs its) → (∀ b ∈ bks A, w1.heap.size ≤ b) → Kp [] w1 w' → R (.returned (.slice A its.length c)) w') → Calls Tryz.prog 69 #[.string (S l)] w1 R) := Lib.hid (by
      intro R w1 hm1 h
      refine items_any l w1 (by omega) hm1 ?_
      rw [hits]; exact h)
    have HMM := Lib.hid hmem
    rw [hs, hits, Bool.false_or] at HM
    have hs2 := Lib.hid hs
    clear hits hmem
    go_enter Tryz.func66, Tryz.ntmps66
    go_wp2_with (first | (go_at_call 113; ((refine trim_any l _ (by omega) ?_); intro w1 k1)) | (go_at_call 69; ((refine HI.out _ _ (hm.kp k1) ?_); intro A c w2 ho hA k2)))
    have HR := Lib.hid (ho.rd (N := []) (by simp))
    have k12 := k1.trans k2
    clear ho hA k1 k2
    go_loopw [7, 16] (fun fv iv wr => ∃ k : Nat, k ≤ its.length ∧ iv = .int .i64 k ∧ fv = .bool ((its.take k).any (hitB t weak)) ∧ Hid ((its.take k).all tg = true) ∧ Kp [] w2 wr) (fun _ iv _ => its.length - (intOf iv).toNat)
    case atStart => exact ⟨0, Nat.zero_le _, rfl, rfl, Lib.hid rfl, Kp.refl _ _⟩
    case round =>
      obtain ⟨k, hk, rfl, rfl, hall, kr⟩ := hrel
      by_cases hlt : k < its.length
      · obtain ⟨x, hx⟩ : ∃ x, its[k]? = some x := ⟨_, List.getElem?_eq_getElem hlt⟩
        have hxl := HMM.out x (List.mem_of_getElem? hx)
        obtain ⟨g, off, rfl, _, hgl, hc⟩ := HR.out (strs_ne hlt)
        have hcx := (kr.cell (p := ⟨g, off + k, none⟩) hgl (by simp)).trans (hc k (.string (S x)) (by rw [strs_get, hx]; rfl))
        have HX := Lib.hid hx
        have HA := Lib.hid (all_take (p := tg) hx)
        have HY := Lib.hid (any_take (p := hitB t weak) hx)
        clear hc hx
        cases ht2 : tg x
        · have HT := Lib.hid ht2
          have hb : b = false := by
            have h1 : its.all tg = false := by rw [List.all_eq_false]; exact ⟨x, List.mem_of_getElem? HX.out, by simp [ht2]⟩
            rw [HM.out, h1]; rfl
          subst hb
          clear ht2
          go_wp2_with (go_at_call 114; ((refine istag_any x _ hxl ?_); intro w3 k3; rw [HT.out]))
          exact H.out _ ((k12.trans kr).trans k3)
        · have HT := Lib.hid ht2
          have HA2 : Hid ((its.take (k + 1)).all tg = true) := Lib.hid (by rw [HA.out, hall.out, ht2]; rfl)
          clear ht2
          have HYB := HY.out
          unfold hitB at HYB
          obtain ⟨f, hf⟩ : ∃ f, (its.take k).any (hitB t weak) = f := ⟨_, rfl⟩
          rw [hf]
          have HF := Lib.hid (show (its.take (k + 1)).any (hitB t weak) = (f || (x == t || (weak && x == 87 :: 47 :: t))) by rw [HY.out, hf]; rfl)
          clear HYB HY hf
          cases f <;> cases weak <;> cases hxt : (x == t) <;> cases hxw : (x == 87 :: 47 :: t)
          all_goals
            have hf2 := HF.out
            rw [hxt, hxw] at hf2
            simp only [Bool.false_or, Bool.true_or, Bool.or_false, Bool.or_true, Bool.false_and, Bool.true_and] at hf2
            have HF2 := Lib.hid hf2
            clear hf2 HF
            go_wp2_with (go_at_call 114; ((refine istag_any x _ hxl ?_); intro w3 k3; rw [HT.out]))
            exact ⟨⟨k + 1, by omega, by go_num, by rw [HF2.out], HA2, kr.trans k3⟩, by simp [intOf]; omega⟩
      · have e : its.take k = its := List.take_of_length_le (by omega)
        rw [e] at hall
        have hb : b = its.any (hitB t weak) := by rw [HM.out, hall.out, Bool.true_and]
        subst hb
        rw [e]
        go_wp2
        exact H.out _ (k12.trans kr)
  · have hb : b = true := by rw [HM.out, hs]; rfl
    subst hb
    have hs2 : (trimL l == [42]) = true := hs
    clear HM hs
    go_enter Tryz.func66, Tryz.ntmps66
    go_wp2_with (go_at_call 113; ((refine trim_any l _ (by omega) ?_); intro w1 k1))
    exact H.out _ k1
set_option maxHeartbeats 4000000 in
theorem rmatch_any {R : Ending → World → Prop} (l t : List UInt8) (weak : Bool) (w : World) (hl : l.length ≤ 2000000) (ht : t.length ≤ 2000000) (h : ∀ w', Kp [] w w' → R (.returned (.bool (matchM l t weak))) w') :
    Calls Tryz.prog 151 #[.string (S l), .string (S t), .bool weak] w R := by
  have H := Lib.hid h
  clear h
  have HM := Lib.hid (show matchM l t weak = (trimL l == [42] || ((itemsL l).all tg && (itemsL l).any (hitB t weak))) from rfl)
  generalize matchM l t weak = b at *
  cases hs : (trimL l == [42])
  · obtain ⟨its, hits⟩ : ∃ its, itemsL l = its := ⟨_, rfl⟩
    have hmem : ∀ x ∈ its, x.length ≤ 2000000 := fun x hx => by
      have := items_mem_len (l := l) (p := x) (by rw [hits]; exact hx)
      omega
    have hil : its.length ≤ 2000001 := by have := itemsL_len l; rw [hits] at this; omega
    have HI : Hid (∀ (R : Ending → World → Prop) (w1 : World), (∀ A c w', Ow w' 9 1 A its.length c (strs its) → (∀ b ∈ bks A, w1.heap.size ≤ b) → Kp [] w1 w' → R (.returned (.slice A its.length c)) w') → Calls Tryz.prog 92 #[.string (S l)] w1 R) := Lib.hid (by
      intro R w1 h
      refine ritems_any l w1 (by omega) ?_
      rw [hits]; exact h)
    have HMM := Lib.hid hmem
    rw [hs, hits, Bool.false_or] at HM
    clear hits hmem
    go_enter Tryz.func151, Tryz.ntmps151
    go_wp2_with (first | (go_at_call 91; (refine rtrim_any l _ (by omega) ?_)) | (go_at_call 92; ((refine HI.out _ _ ?_); intro A c w2 ho hA k2)))
    have HR := Lib.hid (ho.rd (N := []) (by simp))
    clear ho hA
    go_loop [8, 9] (fun fv iv => ∃ k : Nat, k ≤ its.length ∧ iv = .int .i64 k ∧ fv = .bool ((its.take k).any (hitB t weak)) ∧ Hid ((its.take k).all tg = true)) (fun _ iv => its.length - (intOf iv).toNat)
    case atStart => exact ⟨0, Nat.zero_le _, rfl, rfl, Lib.hid rfl⟩
    case round =>
      obtain ⟨k, hk, rfl, rfl, hall⟩ := hrel
      by_cases hlt : k < its.length
      · obtain ⟨x, hx⟩ : ∃ x, its[k]? = some x := ⟨_, List.getElem?_eq_getElem hlt⟩
        have hxl := HMM.out x (List.mem_of_getElem? hx)
        obtain ⟨g, off, rfl, _, hgl, hc⟩ := HR.out (strs_ne hlt)
        have hcx := hc k (.string (S x)) (by rw [strs_get, hx]; rfl)
        have HX := Lib.hid hx
        have HA := Lib.hid (all_take (p := tg) hx)
        have HY := Lib.hid (any_take (p := hitB t weak) hx)
        clear hc hx
        cases ht2 : tg x
        · have HT := Lib.hid ht2
          have hb : b = false := by
            have h1 : its.all tg = false := by rw [List.all_eq_false]; exact ⟨x, List.mem_of_getElem? HX.out, by simp [ht2]⟩
            rw [HM.out, h1]; rfl
          subst hb
          clear ht2
          go_wp2_with (go_at_call 181; ((refine rtagw_any x _ hxl ?_); rw [HT.out]))
          exact H.out _ k2
        · have HT := Lib.hid ht2
          have HA2 : Hid ((its.take (k + 1)).all tg = true) := Lib.hid (by rw [HA.out, hall.out, ht2]; rfl)
          clear ht2
          obtain ⟨f, hf⟩ : ∃ f, (its.take k).any (hitB t weak) = f := ⟨_, rfl⟩
          rw [hf]
          have HF := Lib.hid (show (its.take (k + 1)).any (hitB t weak) = (f || (x == t || (weak && x == 87 :: 47 :: t))) by rw [HY.out, hf]; rfl)
          clear HY hf
          cases f <;> cases weak <;> cases hxt : (x == t) <;> cases hxw : (x == 87 :: 47 :: t)
          all_goals
            have hf2 := HF.out
            rw [hxt, hxw] at hf2
            simp only [Bool.false_or, Bool.true_or, Bool.or_false, Bool.or_true, Bool.false_and, Bool.true_and] at hf2
            have HF2 := Lib.hid hf2
            clear hf2 HF
            go_wp2_with (go_at_call 181; ((refine rtagw_any x _ hxl ?_); rw [HT.out]))
            exact ⟨⟨k + 1, by omega, by go_num, by rw [HF2.out], HA2⟩, by simp [intOf]; omega⟩
      · have e : its.take k = its := List.take_of_length_le (by omega)
        rw [e] at hall
        have hb : b = its.any (hitB t weak) := by rw [HM.out, hall.out, Bool.true_and]
        subst hb
        rw [e]
        go_wp2
        exact H.out _ k2
  · have hb : b = true := by rw [HM.out, hs]; rfl
    subst hb
    have hs2 : (trimL l == [42]) = true := hs
    clear HM hs
    go_enter Tryz.func151, Tryz.ntmps151
    go_wp2_with (go_at_call 91; (refine rtrim_any l _ (by omega) ?_))
    exact H.out _ (Kp.refl _ _)
end
/-! ### A line in plain words. -/
section
open Go.RowKit
set_option linter.unusedVariables false
set_option linter.unusedSimpArgs false
set_option maxRecDepth 100000

inductive LineR where
  | wrong : LineR
  | more : LineR
  | got : List UInt8 → List UInt8 → LineR
def consR (c : UInt8) : LineR → LineR
  | .got l r => .got (c :: l) r
  | .more => .more
  | .wrong => .wrong
/-- Behind a 13. -/
def crR : List UInt8 → LineR
  | [] => .more
  | d :: r => if d = 10 then .got [] r else .wrong
/-- The first line of bytes. -/
def lineL : List UInt8 → LineR
  | [] => .more
  | c :: r => if c = 10 then .wrong else if c = 13 then crR r else consR c (lineL r)
theorem consR_got {c : UInt8} {x : LineR} {l r : List UInt8} (h : consR c x = .got l r) : ∃ l', l = c :: l' ∧ x = .got l' r := by
  cases x with
  | wrong => cases h
  | more => cases h
  | got a b => simp [consR] at h; exact ⟨a, h.1.symm, by rw [h.2]⟩
theorem consR_more {c : UInt8} {x : LineR} (h : consR c x = .more) : x = .more := by cases x <;> simp_all [consR]
theorem consR_wrong {c : UInt8} {x : LineR} (h : consR c x = .wrong) : x = .wrong := by cases x <;> simp_all [consR]
theorem lineL_got {s l r : List UInt8} (h : lineL s = .got l r) : s = l ++ 13 :: 10 :: r := by
  induction s generalizing l with
  | nil => cases h
  | cons c s ih =>
    rw [lineL] at h
    split at h
    · cases h
    · split at h
      · rename_i h13
        subst h13
        cases s with
        | nil => cases h
        | cons d s' =>
          rw [crR] at h
          split at h
          · rename_i hd; subst hd; injection h with h1 h2; subst h1; subst h2; rfl
          · cases h
      · obtain ⟨l', rfl, hx⟩ := consR_got h
        rw [ih hx]; rfl
theorem lineL_len {s l r : List UInt8} (h : lineL s = .got l r) : r.length + l.length + 2 = s.length := by
  rw [lineL_got h]; simp; omega
theorem lineL_app_got {s l r : List UInt8} (h : lineL s = .got l r) (c : List UInt8) : lineL (s ++ c) = .got l (r ++ c) := by
  induction s generalizing l with
  | nil => cases h
  | cons x s ih =>
    rw [List.cons_append, lineL]
    rw [lineL] at h
    split at h
    · cases h
    · rw [if_neg ‹_›]
      split at h
      · rw [if_pos ‹_›]
        cases s with
        | nil => cases h
        | cons d s' =>
          rw [List.cons_append, crR]; rw [crR] at h
          split at h
          · rw [if_pos ‹_›]; injection h with h1 h2; subst h1; subst h2; rfl
          · cases h
      · rw [if_neg ‹_›]
        obtain ⟨l', rfl, hx⟩ := consR_got h
        rw [ih hx]; rfl
theorem lineL_app_wrong {s : List UInt8} (h : lineL s = .wrong) (c : List UInt8) : lineL (s ++ c) = .wrong := by
  induction s with
  | nil => cases h
  | cons x s ih =>
    rw [List.cons_append, lineL]
    rw [lineL] at h
    split at h
    · rw [if_pos ‹_›]
    · rw [if_neg ‹_›]
      split at h
      · rw [if_pos ‹_›]
        cases s with
        | nil => cases h
        | cons d s' =>
          rw [List.cons_append, crR]; rw [crR] at h
          split at h
          · cases h
          · rw [if_neg ‹_›]
      · rw [if_neg ‹_›, ih (consR_wrong h)]; rfl
/-- Ahead of a place where neither of the two bytes stood the line goes on. -/
def preR (p : List UInt8) : LineR → LineR
  | .got l r => .got (p ++ l) r
  | .more => .more
  | .wrong => .wrong
theorem lineL_pre (p s : List UInt8) (h : ∀ c ∈ p, c ≠ 10 ∧ c ≠ 13) : lineL (p ++ s) = preR p (lineL s) := by
  induction p with
  | nil => cases hs : lineL s <;> simp [preR, hs]
  | cons c p ih =>
    have hc := h c (by simp)
    rw [List.cons_append, lineL, if_neg hc.1, if_neg hc.2, ih (fun c hc => h c (by simp [hc]))]
    cases hs : lineL s <;> rfl
def lineV (s : List UInt8) : LineR → Value
  | .got l r => .tuple #[.string (S l), .string (S r), .bool true, .int .i64 0]
  | .more => .tuple #[.string (S []), .string (S s), .bool false, .int .i64 0]
  | .wrong => .tuple #[.string (S []), .string (S []), .bool false, .int .i64 50]
end
/-! ### Package request in plain words: a line, a head, a request of lines, and how these stay when more bytes come. -/
section
open Go.RowKit Go.Shelf
set_option linter.unusedVariables false
set_option linter.unusedSimpArgs false
set_option maxRecDepth 100000

/-- The lines of a head: n bytes there are in all. -/
def headF : Nat → Nat → List (List UInt8) → List UInt8 → List (List UInt8) × List UInt8 × Int
  | 0, _, _, _ => ([], [], -1)
  | f + 1, n, ls, s => match lineL s with
    | .wrong => ([], [], 400)
    | .more => if 1024 ≤ n then ([], [], 431) else ([], [], -1)
    | .got l a => if 1024 < n - a.length then ([], [], 431) else if l ≠ [] then headF f n (ls ++ [l]) a else if ls ≠ [] then (ls, a, 0) else headF f n ls a
theorem headF_fuel : ∀ (f f' n : Nat) (ls : List (List UInt8)) (s : List UInt8), s.length < f → s.length < f' → headF f n ls s = headF f' n ls s := by
  intro f
  induction f with
  | zero => intro f' n ls s h; omega
  | succ f ih =>
    intro f' n ls s h h'
    obtain ⟨f', rfl⟩ : ∃ g, f' = g + 1 := ⟨f' - 1, by omega⟩
    rw [headF, headF]
    cases hl : lineL s with
    | wrong => rfl
    | more => rfl
    | got l a =>
      have := lineL_len hl
      simp only
      rw [ih f' n (ls ++ [l]) a (by omega) (by omega), ih f' n ls a (by omega) (by omega)]
/-- The same, where no length stands in the way. -/
def headG : Nat → List (List UInt8) → List UInt8 → List (List UInt8) × List UInt8 × Int
  | 0, _, _ => ([], [], -1)
  | f + 1, ls, s => match lineL s with
    | .wrong => ([], [], 400)
    | .more => ([], [], -1)
    | .got l a => if l ≠ [] then headG f (ls ++ [l]) a else if ls ≠ [] then (ls, a, 0) else headG f ls a
theorem headF_G : ∀ (f n : Nat) (ls : List (List UInt8)) (s : List UInt8), n < 1024 → headF f n ls s = headG f ls s := by
  intro f
  induction f with
  | zero => intro n ls s h; rfl
  | succ f ih =>
    intro n ls s h
    rw [headF, headG]
    cases hl : lineL s with
    | wrong => rfl
    | more => simp only; rw [if_neg (by omega)]
    | got l a => simp only; rw [if_neg (by omega), ih _ _ _ h, ih _ _ _ h]
theorem headG_len : ∀ (f : Nat) (ls : List (List UInt8)) (s : List UInt8) {xs : List (List UInt8)} {r : List UInt8}, headG f ls s = (xs, r, 0) → r.length + 2 ≤ s.length := by
  intro f
  induction f with
  | zero => intro ls s xs r h; simp [headG] at h
  | succ f ih =>
    intro ls s xs r h
    rw [headG] at h
    cases hl : lineL s with
    | wrong => simp [hl] at h
    | more => simp [hl] at h
    | got l a =>
      have := lineL_len hl
      rw [hl] at h
      simp only at h
      split at h
      · have := ih _ _ h; omega
      · split at h
        · injection h with _ h; injection h with h _; subst h; omega
        · have := ih _ _ h; omega
theorem headG_ne : ∀ (f : Nat) (ls : List (List UInt8)) (s : List UInt8) {xs : List (List UInt8)} {r : List UInt8}, headG f ls s = (xs, r, 0) → xs ≠ [] := by
  intro f
  induction f with
  | zero => intro ls s xs r h; simp [headG] at h
  | succ f ih =>
    intro ls s xs r h
    rw [headG] at h
    cases hl : lineL s with
    | wrong => simp [hl] at h
    | more => simp [hl] at h
    | got l a =>
      rw [hl] at h
      simp only at h
      split at h
      · exact ih _ _ h
      · split at h
        · injection h with h' _; subst h'; assumption
        · exact ih _ _ h
theorem headG_fuel : ∀ (f f' : Nat) (ls : List (List UInt8)) (s : List UInt8), s.length < f → s.length < f' → headG f ls s = headG f' ls s := by
  intro f
  induction f with
  | zero => intro f' ls s h; omega
  | succ f ih =>
    intro f' ls s h h'
    obtain ⟨f', rfl⟩ : ∃ g, f' = g + 1 := ⟨f' - 1, by omega⟩
    rw [headG, headG]
    cases hl : lineL s with
    | wrong => rfl
    | more => rfl
    | got l a =>
      have := lineL_len hl
      simp only
      rw [ih f' (ls ++ [l]) a (by omega) (by omega), ih f' ls a (by omega) (by omega)]
/-- What a head's answer is when more bytes come behind. -/
theorem headG_app : ∀ (f : Nat) (ls : List (List UInt8)) (s c : List UInt8), (∀ xs r, headG f ls s = (xs, r, 0) → headG f ls (s ++ c) = (xs, r ++ c, 0)) ∧ (∀ xs r, headG f ls s = (xs, r, 400) → headG f ls (s ++ c) = (xs, r, 400)) := by
  intro f
  induction f with
  | zero => intro ls s c; exact ⟨fun xs r h => by simp [headG] at h, fun xs r h => by simp [headG] at h⟩
  | succ f ih =>
    intro ls s c
    rw [headG, headG]
    cases hl : lineL s with
    | wrong => rw [lineL_app_wrong hl]; exact ⟨fun xs r h => by simp at h, fun xs r h => h⟩
    | more => exact ⟨fun xs r h => by simp at h, fun xs r h => by simp at h⟩
    | got l a =>
      rw [lineL_app_got hl]
      simp only
      split
      · exact ih _ _ _
      · split
        · exact ⟨fun xs r h => by injection h with h1 h2; injection h2 with h2 _; subst h1; subst h2; rfl, fun xs r h => by injection h with h1 h2; injection h2 with _ h2; cases h2⟩
        · exact ih _ _ _
theorem headG_st : ∀ (f : Nat) (ls : List (List UInt8)) (s : List UInt8), headG f ls s = ([], [], -1) ∨ headG f ls s = ([], [], 400) ∨ ∃ xs r, headG f ls s = (xs, r, 0) := by
  intro f
  induction f with
  | zero => intro ls s; exact .inl rfl
  | succ f ih =>
    intro ls s
    rw [headG]
    cases hl : lineL s with
    | wrong => exact .inr (.inl rfl)
    | more => exact .inl rfl
    | got l a =>
      simp only
      split
      · exact ih _ _
      · split
        · exact .inr (.inr ⟨_, _, rfl⟩)
        · exact ih _ _

structure Req where
  m : List UInt8
  t : List UInt8
  minor : Int
  fs : List (List UInt8 × List UInt8)
  close : Bool
def noReq : Req := ⟨[], [], 0, [], false⟩
def fldC (x : List UInt8 × List UInt8) : List Value := [.string (S x.1), .string (S x.2)]
def valsF (fs : List (List UInt8 × List UInt8)) (name : List UInt8) : List (List UInt8) := (fs.filter fun f => f.1 == name).map (·.2)
def allF (fs : List (List UInt8 × List UInt8)) (name : List UInt8) : List UInt8 := Lib.join (valsF fs name) [44, 32]
def getF (fs : List (List UInt8 × List UInt8)) (name : List UInt8) : List UInt8 × Bool := match valsF fs name with | [] => ([], false) | v :: _ => (v, true)
/-- The first line. -/
def httpL : List UInt8 := [72, 84, 84, 80, 47]
def ver3 : List UInt8 → Option (UInt8 × UInt8)
  | [a, d, b] => if digB a = true ∧ d = 46 ∧ digB b = true then some (a, b) else none
  | _ => none
def verL (v : List UInt8) : Option (UInt8 × UInt8) := if v.take 5 = httpL then ver3 (v.drop 5) else none
def seenB (c : UInt8) : Bool := decide (33 ≤ c.toNat) && decide (c.toNat ≤ 126)
def firstP (m t v : List UInt8) : Option (List UInt8 × List UInt8 × UInt8 × UInt8) :=
  if tokB m = true ∧ t ≠ [] ∧ t.all seenB = true then (verL v).map fun x => (m, t, x.1, x.2) else none
def firstL (l : List UInt8) : Option (List UInt8 × List UInt8 × UInt8 × UInt8) := match spl 32 l with | [m, t, v] => firstP m t v | _ => none
def fieldsL : List (List UInt8) → Option (List (List UInt8 × List UInt8))
  | [] => some []
  | l :: r => if (fieldL l).2.2 = 0 then (fieldsL r).map fun x => ((fieldL l).1, (fieldL l).2.1) :: x else none
def teL : List UInt8 := [116, 114, 97, 110, 115, 102, 101, 114, 45, 101, 110, 99, 111, 100, 105, 110, 103]
def clL : List UInt8 := [99, 111, 110, 116, 101, 110, 116, 45, 108, 101, 110, 103, 116, 104]
def hostL : List UInt8 := [104, 111, 115, 116]
def connL : List UInt8 := [99, 111, 110, 110, 101, 99, 116, 105, 111, 110]
def closeL : List UInt8 := [99, 108, 111, 115, 101]
def keepL : List UInt8 := [107, 101, 101, 112, 45, 97, 108, 105, 118, 101]
def methods : List (List UInt8) := [[71, 69, 84], [72, 69, 65, 68], [80, 79, 83, 84], [80, 85, 84], [68, 69, 76, 69, 84, 69], [79, 80, 84, 73, 79, 78, 83], [84, 82, 65, 67, 69], [67, 79, 78, 78, 69, 67, 84], [80, 65, 84, 67, 72]]
def lenOk (v : List UInt8) : Bool := (numR v 1099511627776).2 && decide ((numR v 1099511627776).1 = 0)
def closesF (fs : List (List UInt8 × List UInt8)) (minor : Int) : Bool :=
  (itemsL (lowL (allF fs connL))).contains closeL || (decide (minor = 0) && !(itemsL (lowL (allF fs connL))).contains keepL)
/-- What the fields tell. -/
def ofFs (m t : List UInt8) (minor : Int) (fs : List (List UInt8 × List UInt8)) : Req × Int :=
  if (getF fs teL).2 = true then (noReq, 501)
  else if (valsF fs clL).all lenOk = false then (noReq, 400)
  else if 1 < (valsF fs hostL).length ∨ ((valsF fs hostL).length : Int) < minor then (noReq, 400)
  else if methods.contains m = false then (noReq, 501)
  else (⟨m, t, minor, fs, closesF fs minor⟩, 0)
def ofF : List (List UInt8) → Req × Int
  | [] => (noReq, 400)
  | l :: ls => match firstL l with
    | none => (noReq, 400)
    | some (m, t, a, b) => if a ≠ 49 then (noReq, 505) else if 128 < t.length then (noReq, 414) else match fieldsL ls with
      | none => (noReq, 400)
      | some fs => ofFs m t (if b = 48 then 0 else 1) fs
theorem ofFs_st (m t : List UInt8) (minor : Int) (fs : List (List UInt8 × List UInt8)) : 0 ≤ (ofFs m t minor fs).2 ∧ ((ofFs m t minor fs).2 ≠ 0 → (ofFs m t minor fs).1 = noReq) := by
  unfold ofFs
  repeat' split
  all_goals simp
theorem ofF_st (ls : List (List UInt8)) : 0 ≤ (ofF ls).2 ∧ ((ofF ls).2 ≠ 0 → (ofF ls).1 = noReq) := by
  unfold ofF
  repeat' split
  all_goals first | exact ofFs_st _ _ _ _ | simp
/-- Next: the request, the status, what is left, and whether it is over. -/
def nextF (b : List UInt8) : Req × Int × List UInt8 × Bool :=
  match headF (b.length + 1) b.length [] b with
  | (ls, rest, st) => if st < 0 then (noReq, st, b, false) else if st = 0 then (if (ofF ls).2 = 0 then ((ofF ls).1, 0, rest, false) else (noReq, (ofF ls).2, [], true)) else (noReq, st, [], true)
end
/-! ### The walks of package request: the first line, the known methods. -/
section
open Go.RowKit Go.Shelf
set_option linter.unusedVariables false
set_option linter.unusedSimpArgs false
set_option maxRecDepth 100000

theorem rdigit_any {R : Ending → World → Prop} (c : UInt8) (w : World) (h : R (.returned (.bool (digB c))) w) : Calls Tryz.prog 134 #[.int .u8 c.toNat] w R := by
  have H := Lib.hid h
  clear h
  go_enter Tryz.func134, Tryz.ntmps134
  go_wp2
  all_goals (refine rcast H.out (congrArg Value.bool ?_); rw [Bool.eq_iff_iff]; simp [digB] <;> omega)
theorem http_pre (v : List UInt8) : Lib.hasPrefix v [72, 84, 84, 80, 47] = (v.take 5 == httpL) := by
  unfold Lib.hasPrefix httpL
  match v with
  | [] => rfl
  | [a] => simp [List.isPrefixOf]
  | [a, b] => simp [List.isPrefixOf]
  | [a, b, c] => simp [List.isPrefixOf]
  | [a, b, c, d] => simp [List.isPrefixOf]
  | a :: b :: c :: d :: f :: r =>
    rw [Bool.eq_iff_iff]
    simp [List.isPrefixOf]
    constructor
    · rintro ⟨rfl, rfl, rfl, rfl, rfl⟩; exact ⟨rfl, rfl, rfl, rfl, rfl⟩
    · rintro ⟨rfl, rfl, rfl, rfl, rfl⟩; exact ⟨rfl, rfl, rfl, rfl, rfl⟩
theorem hpre_any {R : Ending → World → Prop} (v : List UInt8) (w : World) (h : R (.returned (.bool (v.take 5 == httpL))) w) : Calls Tryz.prog 62 #[.string (S v), .string ⟨#[72, 84, 84, 80, 47]⟩] w R := by
  refine (Tryz.stringslite_HasPrefix (S v) (S [72, 84, 84, 80, 47]) w).mono fun e w' ⟨he, hw⟩ => ?_
  rw [S_data, S_data, http_pre] at he
  subst he; subst hw
  exact h
theorem scpre_yes {R : Ending → World → Prop} (v : List UInt8) (w : World) (hv : v.take 5 = httpL) (h : R (.returned (.tuple #[.string (S (v.drop 5)), .bool true])) w) :
    Calls Tryz.prog 155 #[.string (S v), .string ⟨#[72, 84, 84, 80, 47]⟩] w R := by
  have H := Lib.hid h
  have HB := Lib.hid (show (v.take 5 == httpL) = true by simpa using hv)
  have hl : 5 ≤ v.length := by
    have := congrArg List.length hv
    simp [httpL] at this; omega
  have ht : (v.drop 5).take (v.length - 5) = v.drop 5 := List.take_of_length_le (by simp)
  clear h hv
  go_enter Tryz.func155, Tryz.ntmps155
  go_wp2_with (go_at_call 62; (refine hpre_any v _ ?_); rw [HB.out])
  exact H.out
theorem scpre_no {R : Ending → World → Prop} (v : List UInt8) (w : World) (hv : ¬ v.take 5 = httpL) (h : R (.returned (.tuple #[.string (S v), .bool false])) w) :
    Calls Tryz.prog 155 #[.string (S v), .string ⟨#[72, 84, 84, 80, 47]⟩] w R := by
  have H := Lib.hid h
  have HB := Lib.hid (show (v.take 5 == httpL) = false by simpa using hv)
  clear h hv
  go_enter Tryz.func155, Tryz.ntmps155
  go_wp2_with (go_at_call 62; (refine hpre_any v _ ?_); rw [HB.out])
  exact H.out
theorem cpre_yes {R : Ending → World → Prop} (v : List UInt8) (w : World) (hv : v.take 5 = httpL) (h : R (.returned (.tuple #[.string (S (v.drop 5)), .bool true])) w) :
    Calls Tryz.prog 133 #[.string (S v), .string ⟨#[72, 84, 84, 80, 47]⟩] w R := by
  have H := Lib.hid h
  have HV := Lib.hid hv
  clear h hv
  go_enter Tryz.func133, Tryz.ntmps133
  go_wp2_with (refine scpre_yes v _ HV.out ?_)
  exact H.out
theorem cpre_no {R : Ending → World → Prop} (v : List UInt8) (w : World) (hv : ¬ v.take 5 = httpL) (h : R (.returned (.tuple #[.string (S v), .bool false])) w) :
    Calls Tryz.prog 133 #[.string (S v), .string ⟨#[72, 84, 84, 80, 47]⟩] w R := by
  have H := Lib.hid h
  have HV := Lib.hid hv
  clear h hv
  go_enter Tryz.func133, Tryz.ntmps133
  go_wp2_with (refine scpre_no v _ HV.out ?_)
  exact H.out
def firstV : Option (List UInt8 × List UInt8 × UInt8 × UInt8) → Value
  | none => .tuple #[.string (S []), .string (S []), .string (S []), .bool false]
  | some (m, t, a, b) => .tuple #[.string (S m), .string (S t), .string (S [a, b]), .bool true]
theorem first_not {l : List UInt8} (h : (spl 32 l).length ≠ 3) : firstL l = none := by
  unfold firstL
  split
  · rename_i e; rw [e] at h; exact absurd rfl h
  · rfl
theorem first_is {l m t v : List UInt8} (h : spl 32 l = [m, t, v]) : firstL l = firstP m t v := by
  unfold firstL; rw [h]
theorem firstP_tok {m t v : List UInt8} (h : tokB m = false) : firstP m t v = none := by
  unfold firstP; rw [if_neg (by simp [h])]
theorem firstP_nil {m v : List UInt8} : firstP m [] v = none := by
  unfold firstP; rw [if_neg (by simp)]
theorem firstP_seen {m t v : List UInt8} (h : t.all seenB = false) : firstP m t v = none := by
  unfold firstP; rw [if_neg (by simp [h])]
theorem firstP_ver {m t v : List UInt8} (h : tokB m = true) (h1 : t ≠ []) (h2 : t.all seenB = true) : firstP m t v = (verL v).map fun x => (m, t, x.1, x.2) := by
  unfold firstP; rw [if_pos ⟨h, h1, h2⟩]
theorem ver3_len {v : List UInt8} (h : v.length ≠ 3) : ver3 v = none := by
  unfold ver3
  split
  · exact absurd rfl h
  · rfl
theorem rows3 {l : List (List UInt8)} (h : l.length = 3) : ∃ a b c, l = [a, b, c] := by
  match l, h with
  | [a, b, c], _ => exact ⟨a, b, c, rfl⟩
theorem bytes3 {l : List UInt8} (h : l.length = 3) : ∃ a b c, l = [a, b, c] := by
  match l, h with
  | [a, b, c], _ => exact ⟨a, b, c, rfl⟩
set_option maxHeartbeats 4000000 in
theorem first_any {R : Ending → World → Prop} (l : List UInt8) (w : World) (hl : l.length ≤ 100000) (hm : Ml w) (h : ∀ w', Kp [] w w' → R (.returned (firstV (firstL l))) w') : Calls Tryz.prog 104 #[.string (S l)] w R := by
  have H := Lib.hid h
  clear h
  by_cases h3 : (spl 32 l).length = 3
  · obtain ⟨m, t, v, hs⟩ := rows3 h3
    have HM := spl_mem_len 32 l
    rw [hs] at HM
    have hml := HM m (by simp)
    have htl := HM t (by simp)
    have hvl := HM v (by simp)
    have HF := Lib.hid (first_is hs)
    have HSP : Hid (∀ (R : Ending → World → Prop) (w1 : World), Ml w1 → (∀ g w', w1.heap.size ≤ g → Bk w' g 9 (strs [m, t, v]) → Kp [] w1 w' → R (.returned (.slice (some ⟨g, 0, none⟩) 3 3)) w') → Calls Tryz.prog 120 #[.string (S l), .string ⟨#[32]⟩] w1 R) := Lib.hid (fun R w1 h1 h => split_any l 32 h1 (by omega) (by rw [hs]; exact h))
    clear HM hs h3
    cases htok : tokB m
    · have HN := Lib.hid (HF.out.trans (firstP_tok htok))
      have HT := Lib.hid htok
      clear htok HF
      go_enter Tryz.func104, Tryz.ntmps104
      go_wp2_with (first | (go_at_call 120; ((refine HSP.out _ _ hm ?_); intro g w1 hg hb k1; have hc0 := (hb.cell 0).trans (show _ = some (Value.string (S m)) from rfl); skip)) | (go_at_call 132; ((refine token_any m _ (by omega) ?_); rw [HT.out])))
      exact bodyPost_ret (v := firstV none) (by simp [results, Tryz.results104, go_sem]; rfl) rfl (HN.out ▸ H.out _ (k1))
    · have HT := Lib.hid htok
      by_cases htn : t = []
      · subst htn
        have HN := Lib.hid (HF.out.trans firstP_nil)
        clear HF htok
        go_enter Tryz.func104, Tryz.ntmps104
        go_wp2_with (first | (go_at_call 120; ((refine HSP.out _ _ hm ?_); intro g w1 hg hb k1; have hc0 := (hb.cell 0).trans (show _ = some (Value.string (S m)) from rfl); have hc1 := (hb.cell 1).trans (show _ = some (Value.string (S ([] : List UInt8))) from rfl); have hc2 := (hb.cell 2).trans (show _ = some (Value.string (S v)) from rfl))) | (go_at_call 132; ((refine token_any m _ (by omega) ?_); rw [HT.out])))
        exact bodyPost_ret (v := firstV none) (by simp [results, Tryz.results104, go_sem]; rfl) rfl (HN.out ▸ H.out _ (k1))
      · have bt : t.isEmpty = false := by simpa using htn
        have HTN := Lib.hid htn
        clear htok htn
        go_enter Tryz.func104, Tryz.ntmps104
        go_wp2_with (first | (go_at_call 120; ((refine HSP.out _ _ hm ?_); intro g w1 hg hb k1; have hc0 := (hb.cell 0).trans (show _ = some (Value.string (S m)) from rfl); have hc1 := (hb.cell 1).trans (show _ = some (Value.string (S t)) from rfl); have hc2 := (hb.cell 2).trans (show _ = some (Value.string (S v)) from rfl))) | (go_at_call 132; ((refine token_any m _ (by omega) ?_); rw [HT.out])))
        go_loop [7, 32] (fun _ iv => ∃ k : Nat, k ≤ t.length ∧ iv = .int .i64 k ∧ Hid ((t.take k).all seenB = true)) (fun _ iv => t.length - (intOf iv).toNat)
        case atStart => exact ⟨0, Nat.zero_le _, rfl, Lib.hid rfl⟩
        case round =>
          obtain ⟨k, hk, rfl, ha⟩ := hrel
          by_cases hlt : k < t.length
          · obtain ⟨x, hx⟩ : ∃ x, t[k]'hlt = x := ⟨_, rfl⟩
            have hxl := x.toNat_lt
            have HS := Lib.hid (all_snoc' t seenB k hlt)
            by_cases hs1 : x.toNat < 33
            · have HN : Hid (firstL l = none) := Lib.hid (by
                rw [HF.out]
                refine firstP_seen ?_
                rw [List.all_eq_false]; exact ⟨x, hx ▸ List.getElem_mem hlt, by simp [seenB]; omega⟩)
              go_wp2
              exact bodyPost_ret (v := firstV none) (by simp [results, Tryz.results104, go_sem]; rfl) rfl (HN.out ▸ H.out _ (k1))
            · by_cases hs2 : 126 < x.toNat
              · have HN : Hid (firstL l = none) := Lib.hid (by
                  rw [HF.out]
                  refine firstP_seen ?_
                  rw [List.all_eq_false]; exact ⟨x, hx ▸ List.getElem_mem hlt, by simp [seenB]; omega⟩)
                go_wp2
                exact bodyPost_ret (v := firstV none) (by simp [results, Tryz.results104, go_sem]; rfl) rfl (HN.out ▸ H.out _ (k1))
              · have HX : Hid ((t.take (k + 1)).all seenB = true) := Lib.hid (by
                  rw [HS.out, ha.out, hx]; simp [seenB]; omega)
                go_wp2
                go_round
                case rel => exact ⟨k + 1, by omega, by go_num, HX⟩
                case measure => simp [intOf]; omega
          · have HA : Hid (t.all seenB = true) := Lib.hid (by
              have := ha.out
              rwa [List.take_of_length_le (by omega)] at this)
            have HV := Lib.hid (HF.out.trans (firstP_ver HT.out HTN.out HA.out))
            clear HF ha
            by_cases hv : v.take 5 = httpL
            · obtain ⟨u, hu⟩ : ∃ u, v.drop 5 = u := ⟨_, rfl⟩
              have HV2 : Hid (firstL l = (ver3 u).map fun x => (m, t, x.1, x.2)) := Lib.hid (by rw [HV.out, verL, if_pos hv, hu])
              have HC : Hid (∀ (R : Ending → World → Prop) (w : World), R (.returned (.tuple #[.string (S u), .bool true])) w → Calls Tryz.prog 133 #[.string (S v), .string ⟨#[72, 84, 84, 80, 47]⟩] w R) := Lib.hid (fun R w h => cpre_yes v w hv (by rw [hu]; exact h))
              clear hv hu HV
              by_cases h3 : u.length = 3
              · obtain ⟨a, d, b, rfl⟩ := bytes3 h3
                have hdl := d.toNat_lt
                clear h3
                cases ha : digB a
                · have HN : Hid (firstL l = none) := Lib.hid (by rw [HV2.out, ver3, if_neg (by simp [ha])]; rfl)
                  have HDA := Lib.hid ha
                  clear ha
                  go_wp2_with (first | (go_at_call 133; (refine HC.out _ _ ?_)) | (go_at_call 134; ((refine rdigit_any a _ ?_); rw [HDA.out])))
                  exact bodyPost_ret (v := firstV none) (by simp [results, Tryz.results104, go_sem]; rfl) rfl (HN.out ▸ H.out _ (k1))
                · have HDA := Lib.hid ha
                  clear ha
                  by_cases hd : d.toNat = 46
                  · obtain rfl : d = 46 := UInt8.toNat_inj.1 hd
                    cases hb2 : digB b
                    · have HN : Hid (firstL l = none) := Lib.hid (by rw [HV2.out, ver3, if_neg (by simp [hb2])]; rfl)
                      have HDB := Lib.hid hb2
                      clear hb2 hd
                      go_wp2_with (first | (go_at_call 133; (refine HC.out _ _ ?_)) | (go_at_call 134; ((with_reducible refine rdigit_any a _ ?_); rw [HDA.out])) | (go_at_call 134; ((with_reducible refine rdigit_any b _ ?_); rw [HDB.out])))
                      exact bodyPost_ret (v := firstV none) (by simp [results, Tryz.results104, go_sem]; rfl) rfl (HN.out ▸ H.out _ (k1))
                    · have HN : Hid (firstL l = some (m, t, a, b)) := Lib.hid (by rw [HV2.out, ver3, if_pos ⟨HDA.out, rfl, hb2⟩]; rfl)
                      have HDB := Lib.hid hb2
                      clear hb2 hd
                      go_wp2_with (first | (go_at_call 133; (refine HC.out _ _ ?_)) | (go_at_call 134; ((with_reducible refine rdigit_any a _ ?_); rw [HDA.out])) | (go_at_call 134; ((with_reducible refine rdigit_any b _ ?_); rw [HDB.out])))
                      go_quiet (fail)
                      go_wp2
                      exact bodyPost_ret (v := firstV (some (m, t, a, b))) (by simp [results, Tryz.results104, go_sem, firstV]) rfl (HN.out ▸ H.out _ (k1.drewN _))
                  · have e46 : ((d.toNat : Int) != 46) = true := by simp; omega
                    have HN : Hid (firstL l = none) := Lib.hid (by rw [HV2.out, ver3, if_neg (by rintro ⟨_, rfl, _⟩; exact hd rfl)]; rfl)
                    clear hd
                    go_wp2_with (first | (go_at_call 133; (refine HC.out _ _ ?_)) | (go_at_call 134; ((refine rdigit_any a _ ?_); rw [HDA.out])))
                    exact bodyPost_ret (v := firstV none) (by simp [results, Tryz.results104, go_sem]; rfl) rfl (HN.out ▸ H.out _ (k1))
              · have HN : Hid (firstL l = none) := Lib.hid (by rw [HV2.out, ver3_len h3]; rfl)
                have e3 : ((u.length : Int) != 3) = true := by simp; omega
                clear h3
                go_wp2_with (go_at_call 133; (refine HC.out _ _ ?_))
                exact bodyPost_ret (v := firstV none) (by simp [results, Tryz.results104, go_sem]; rfl) rfl (HN.out ▸ H.out _ (k1))
            · have HN : Hid (firstL l = none) := Lib.hid (by rw [HV.out, verL, if_neg hv]; rfl)
              have HC : Hid (∀ (R : Ending → World → Prop) (w : World), R (.returned (.tuple #[.string (S v), .bool false])) w → Calls Tryz.prog 133 #[.string (S v), .string ⟨#[72, 84, 84, 80, 47]⟩] w R) := Lib.hid (fun R w h => cpre_no v w hv h)
              clear hv
              go_wp2_with (go_at_call 133; (refine HC.out _ _ ?_))
              exact bodyPost_ret (v := firstV none) (by simp [results, Tryz.results104, go_sem]; rfl) rfl (HN.out ▸ H.out _ (k1))
  · have HN := Lib.hid (first_not h3)
    have e3 : (((spl 32 l).length : Int) != 3) = true := by simp; omega
    clear h3
    go_enter Tryz.func104, Tryz.ntmps104
    go_wp2_with (go_at_call 120; ((refine split_any l 32 hm (by omega) ?_); intro g w1 hg hb k1))
    exact bodyPost_ret (v := firstV none) (by simp [results, Tryz.results104, go_sem]; rfl) rfl (HN.out ▸ H.out _ k1)
theorem known_any {R : Ending → World → Prop} (m : List UInt8) (w : World) (h : R (.returned (.bool (methods.contains m))) w) : Calls Tryz.prog 107 #[.string (S m)] w R := by
  have H := Lib.hid h
  clear h
  go_enter Tryz.func107, Tryz.ntmps107
  go_wp2
  all_goals (refine rcast H.out (congrArg Value.bool ?_))
  all_goals (simp_all [methods])
end
end Go.Proofs.YtnmafahbdfilcaaGreatDoor
