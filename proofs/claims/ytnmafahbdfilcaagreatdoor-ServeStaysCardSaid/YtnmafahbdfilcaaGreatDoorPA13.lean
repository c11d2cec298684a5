/- civil.Parse. Package cond: a tag in a list. Names of the conditions' fields; a request without such a date. cond: date, Check, Ranged of any request, as functions of its fields. The document's Reason; lengths of parts; None. append as a step of a drawn region. -/
import Derived.Test.YtnmafahbdfilcaaGreatDoorPA12
import Derived.Test.YtnmafahbdfilcaaGreatDoorPA2
import Derived.Deep.CutBlock
import Derived.Deep.DeepCutAuto
import Derived.Deep.RegionLaw
import Derived.Test.YtnmafahbdfilcaaGreatDoorPA9
import Derived.Test.YtnmafahbdfilcaaGreatDoorPA6
import Derived.Test.YtnmafahbdfilcaaGreatDoorPA10
import Derived.Deep.QuietTactic
import Derived.Test.YtnmafahbdfilcaaGreatDoorPA1
namespace Go.Proofs.YtnmafahbdfilcaaGreatDoor
/-! ### civil.Parse. -/
section
open Go.RowKit
set_option linter.unusedVariables false
set_option linter.unusedSimpArgs false
set_option maxRecDepth 100000
/-- The last place of a name among k. -/
def lastN (ns : List (List UInt8)) (x : List UInt8) (o : Int) : Nat → Int
  | 0 => 0
  | k + 1 => if ns[k]? = some x then k + o else lastN ns x o k
/-- A text's date, field by field. -/
def fY (l : List UInt8) : Int := numF ((l.take 16).drop 12)
def fM (l : List UInt8) : Int := lastN moN ((l.take 11).drop 8) 1 12
def fD (l : List UInt8) : Int := numF ((l.take 7).drop 5)
def fH (l : List UInt8) : Int := numF ((l.take 19).drop 17)
def fI (l : List UInt8) : Int := numF ((l.take 22).drop 20)
def fS (l : List UInt8) : Int := numF ((l.take 25).drop 23)
def fW (l : List UInt8) : Int := lastN wdN (l.take 3) 0 7
def parN (l : List UInt8) : Int := secN (fY l) (fM l) (fD l) (fH l) (fI l) (fS l)
/-- Is a text a date? -/
def parOk (l : List UInt8) : Prop := l.length = 29 ∧ isDt (fY l) (fM l) (fD l) (fH l) (fI l) (fS l) (fW l) ∧ Told (parN l) l
section
variable {R : Ending → World → Prop} {w : World}
theorem gen_worldB3 {Q : World → Prop} {W : World} (Pr : World → Prop) (h : Pr W) (hk : ∀ W', Pr W' → Q W') : Q W := hk W h
theorem idx7 {a : List UInt8} {k : Nat} (ha : wdN[k]? = some a) (W : World) : (Instr.index 184 (.agg (wdN.map fun x => Value.string (S x)).toArray) (.int .i64 k)).run Tryz.prog W = .ok (.string (S a)) W := by
  have hk : k < 7 := (List.getElem?_eq_some_iff.1 ha).1
  rcases (by omega : k = 0 ∨ k = 1 ∨ k = 2 ∨ k = 3 ∨ k = 4 ∨ k = 5 ∨ k = 6) with rfl | rfl | rfl | rfl | rfl | rfl | rfl <;> (simp [wdN] at ha; subst ha; rfl)
theorem idx12 {a : List UInt8} {k : Nat} (ha : moN[k]? = some a) (W : World) : (Instr.index 186 (.agg (moN.map fun x => Value.string (S x)).toArray) (.int .i64 k)).run Tryz.prog W = .ok (.string (S a)) W := by
  have hk : k < 12 := (List.getElem?_eq_some_iff.1 ha).1
  rcases (by omega : k = 0 ∨ k = 1 ∨ k = 2 ∨ k = 3 ∨ k = 4 ∨ k = 5 ∨ k = 6 ∨ k = 7 ∨ k = 8 ∨ k = 9 ∨ k = 10 ∨ k = 11) with rfl | rfl | rfl | rfl | rfl | rfl | rfl | rfl | rfl | rfl | rfl | rfl <;> (simp [moN] at ha; subst ha; rfl)
theorem seconds_any {y m d h mi s wd : Int} (h1 : Hid (isDt y m d h mi s wd) → ∀ w', Kp [] w w' → R (.returned (.tuple #[.int .i64 (secN y m d h mi s), .int .i64 0])) w')
    (h0 : Hid (¬ isDt y m d h mi s wd) → ∀ w', Kp [] w w' → R (.returned (.tuple #[.int .i64 0, .int .i64 60])) w') :
    Calls Tryz.prog 139 #[.agg #[.int .i64 y, .int .i64 m, .int .i64 d, .int .i64 h, .int .i64 mi, .int .i64 s, .int .i64 wd]] w R := by
  by_cases hb : dBd y m d h mi s
  · exact seconds_good hb (fun hi => h1 (Lib.hid hi)) (fun hi => h0 (Lib.hid hi))
  · exact seconds_bad hb (h0 (Lib.hid (fun hi => hb hi.1)))
set_option maxHeartbeats 8000000 in
theorem parse3_any (l : List UInt8) (hl : l.length = 29) (hw : Lw w) (h1 : parOk l → ∀ w', Kp [] w w' → R (.returned (.tuple #[.int .i64 (parN l), .int .i64 0])) w') (h0 : ¬ parOk l → ∀ w', Kp [] w w' → R (.returned (.tuple #[.int .i64 0, .int .i64 60])) w') :
    Calls Tryz.prog 112 #[.string (S l)] w R := by
  have H0 := Lib.hid h0
  have H1 := Lib.hid h1
  clear h0 h1
  obtain ⟨xm, hxm⟩ : ∃ x, (l.take 11).drop 8 = x := ⟨_, rfl⟩
  obtain ⟨xw, hxw⟩ : ∃ x, l.take 3 = x := ⟨_, rfl⟩
  obtain ⟨WA, eWA⟩ : ∃ WA, (wdN.map fun x => Value.string (S x)).toArray = WA := ⟨_, rfl⟩
  obtain ⟨MA, eMA⟩ : ∃ MA, (moN.map fun x => Value.string (S x)).toArray = MA := ⟨_, rfl⟩
  have HW7 : Hid (∀ (R : Ending → World → Prop) (w : World), (∀ w', Kp [] w w' → R (.returned (.agg WA)) w') → Calls Tryz.prog 117 #[] w R) := Lib.hid (fun R w h => wd_any w (by rw [eWA]; exact h))
  have HM12 : Hid (∀ (R : Ending → World → Prop) (w : World), (∀ w', Kp [] w w' → R (.returned (.agg MA)) w') → Calls Tryz.prog 118 #[] w R) := Lib.hid (fun R w h => mo_any w (by rw [eMA]; exact h))
  have HX7 : Hid (∀ (k : Nat) (a : List UInt8), wdN[k]? = some a → ∀ W', (Instr.index 184 (.agg WA) (.int .i64 k)).run Tryz.prog W' = .ok (.string (S a)) W') := Lib.hid (fun k a ha W' => by rw [← eWA]; exact idx7 ha W')
  have HX12 : Hid (∀ (k : Nat) (a : List UInt8), moN[k]? = some a → ∀ W', (Instr.index 186 (.agg MA) (.int .i64 k)).run Tryz.prog W' = .ok (.string (S a)) W') := Lib.hid (fun k a ha W' => by rw [← eMA]; exact idx12 ha W')
  clear eWA eMA
  go_enter Tryz.func112, Tryz.ntmps112
  go_wp2
  refine wp_scope_fwd 0 (by rfl) ?_
  intro J HJ
  go_upto_region 2 with (fail)
  refine gen_worldC (fun W => ∃ g, w.heap.size = g ∧ Hid (Kp [] w W ∧ Bk W g 180 (dC 0 0 0 0 0 0 0))) ⟨_, rfl, Lib.hid ⟨(Kp.refl _ _).alloc _, (Bk.new' _ _ _).cast rfl⟩⟩ ?_
  rintro W ⟨g, hg, hW⟩
  have hgw : w.heap.size ≤ g := by omega
  rw [hg]
  clear hg
  go_upto_region 6 with (go_at_call 118; (refine HM12.out _ _ ?_; intro w2 k2))
  have hW2 : Hid (Kp [] w w2 ∧ Bk w2 g 180 (dC 0 0 0 0 0 0 0)) := Lib.hid ⟨hW.out.1.trans k2, hW.out.2.kp k2 (by simp)⟩
  clear k2 hW
  go_loopw [17] (fun i wr => ∃ k : Nat, k ≤ 12 ∧ i = .int .i64 k ∧ Hid (Kp [] w wr ∧ Bk wr g 180 (dC 0 (lastN moN xm 1 k) 0 0 0 0 0))) (fun i _ => 12 - (intOf i).toNat)
  case atStart => exact ⟨0, by omega, rfl, hW2⟩
  case round =>
    obtain ⟨k, hk, rfl, hr⟩ := hrel
    by_cases hlt : k < 12
    · obtain ⟨a, ha⟩ : ∃ a, moN[k]? = some a := ⟨_, List.getElem?_eq_getElem (by simp [moN]; omega)⟩
      have hx := HX12.out k a ha
      obtain ⟨⟨p0, p1, p2, p3, p4, p5, p6⟩, ⟨z0, z1, z2, z3, z4, z5, z6⟩⟩ := bk7 hr.out.2
      by_cases hq : a = xm
      · have hb : (a == List.drop 8 (List.take 11 l)) = true := by rw [hxm]; simpa using hq
        have hN : Hid (lastN moN xm 1 (k + 1) = k + 1) := Lib.hid (by show (if moN[k]? = some xm then ((k : Int) + 1) else _) = _; rw [if_pos (by rw [ha, hq])])
        have hwk : IntKind.i64.wrap ((k : Int) + 1) = k + 1 := by rw [IntKind.wrap_i64]; omega
        clear ha hq hxm hxw
        go_wp2
        exact ⟨⟨k + 1, by omega, by go_num, Lib.hid ⟨hr.out.1.setCell (.inr hgw) _, by rw [hN.out]; exact (hr.out.2.set_ 1 _).cast rfl⟩⟩, by simp [intOf]; omega⟩
      · have hb : (a == List.drop 8 (List.take 11 l)) = false := by rw [hxm]; simpa using hq
        have hN : Hid (lastN moN xm 1 (k + 1) = lastN moN xm 1 k) := Lib.hid (by show (if moN[k]? = some xm then ((k : Int) + 1) else _) = _; rw [if_neg (by rw [ha]; intro e; injection e with e; exact hq e)])
        clear ha hq hxm hxw
        go_wp2
        exact ⟨⟨k + 1, by omega, by go_num, Lib.hid ⟨hr.out.1, by rw [hN.out]; exact hr.out.2⟩⟩, by simp [intOf]; omega⟩
    · obtain rfl : k = 12 := by omega
      have hM : lastN moN xm 1 12 = fM l := by rw [← hxm]; rfl
      rw [hM] at hr
      obtain ⟨m, hm⟩ : ∃ m, fM l = m := ⟨_, rfl⟩
      rw [hm] at hr
      clear hM HX12 HM12
      go_upto_region 12 with (go_at_call 117; (refine HW7.out _ _ ?_; intro w3 k3))
      have hW3 : Hid (Kp [] w w3 ∧ Bk w3 g 180 (dC 0 m 0 0 0 0 0)) := Lib.hid ⟨hr.out.1.trans k3, hr.out.2.kp k3 (by simp)⟩
      clear k3 hr HW7
      go_loopw [30] (fun i wr => ∃ k : Nat, k ≤ 7 ∧ i = .int .i64 k ∧ Hid (Kp [] w wr ∧ Bk wr g 180 (dC 0 m 0 0 0 0 (lastN wdN xw 0 k)))) (fun i _ => 7 - (intOf i).toNat)
      case atStart => exact ⟨0, by omega, rfl, hW3⟩
      case round =>
        obtain ⟨k, hk, rfl, hr⟩ := hrel
        by_cases hlt : k < 7
        · obtain ⟨a, ha⟩ : ∃ a, wdN[k]? = some a := ⟨_, List.getElem?_eq_getElem (by simp [wdN]; omega)⟩
          have hx := HX7.out k a ha
          obtain ⟨⟨p0, p1, p2, p3, p4, p5, p6⟩, ⟨z0, z1, z2, z3, z4, z5, z6⟩⟩ := bk7 hr.out.2
          by_cases hq : a = xw
          · have hb : (a == List.take 3 l) = true := by rw [hxw]; simpa using hq
            have hN : Hid (lastN wdN xw 0 (k + 1) = k) := Lib.hid (by show (if wdN[k]? = some xw then ((k : Int) + 0) else _) = _; rw [if_pos (by rw [ha, hq])]; omega)
            clear ha hq hxm hxw hm
            go_wp2
            exact ⟨⟨k + 1, by omega, by go_num, Lib.hid ⟨hr.out.1.setCell (.inr hgw) _, by rw [hN.out]; exact (hr.out.2.set_ 6 _).cast rfl⟩⟩, by simp [intOf]; omega⟩
          · have hb : (a == List.take 3 l) = false := by rw [hxw]; simpa using hq
            have hN : Hid (lastN wdN xw 0 (k + 1) = lastN wdN xw 0 k) := Lib.hid (by show (if wdN[k]? = some xw then ((k : Int) + 0) else _) = _; rw [if_neg (by rw [ha]; intro e; injection e with e; exact hq e)])
            clear ha hq hxm hxw hm
            go_wp2
            exact ⟨⟨k + 1, by omega, by go_num, Lib.hid ⟨hr.out.1, by rw [hN.out]; exact hr.out.2⟩⟩, by simp [intOf]; omega⟩
        · obtain rfl : k = 7 := by omega
          have hM : lastN wdN xw 0 7 = fW l := by rw [← hxw]; rfl
          rw [hM] at hr
          obtain ⟨wd, hwd⟩ : ∃ m, fW l = m := ⟨_, rfl⟩
          rw [hwd] at hr
          obtain ⟨d, hd⟩ : ∃ m, fD l = m := ⟨_, rfl⟩
          obtain ⟨y, hy⟩ : ∃ m, fY l = m := ⟨_, rfl⟩
          obtain ⟨h, hh⟩ : ∃ m, fH l = m := ⟨_, rfl⟩
          obtain ⟨mi, hmi⟩ : ∃ m, fI l = m := ⟨_, rfl⟩
          obtain ⟨s, hs⟩ : ∃ m, fS l = m := ⟨_, rfl⟩
          have HNd : Hid (∀ (R : Ending → World → Prop) (W : World), R (.returned (.int .i64 d)) W → Calls Tryz.prog 138 #[.string (S (List.drop 5 (List.take 7 l)))] W R) := Lib.hid (fun R W h => number3_any _ W (by simp; omega) (by rw [← hd] at h; exact h))
          have HNy : Hid (∀ (R : Ending → World → Prop) (W : World), R (.returned (.int .i64 y)) W → Calls Tryz.prog 138 #[.string (S (List.drop 12 (List.take 16 l)))] W R) := Lib.hid (fun R W h => number3_any _ W (by simp; omega) (by rw [← hy] at h; exact h))
          have HNh : Hid (∀ (R : Ending → World → Prop) (W : World), R (.returned (.int .i64 h)) W → Calls Tryz.prog 138 #[.string (S (List.drop 17 (List.take 19 l)))] W R) := Lib.hid (fun R W h => number3_any _ W (by simp; omega) (by rw [← hh] at h; exact h))
          have HNi : Hid (∀ (R : Ending → World → Prop) (W : World), R (.returned (.int .i64 mi)) W → Calls Tryz.prog 138 #[.string (S (List.drop 20 (List.take 22 l)))] W R) := Lib.hid (fun R W h => number3_any _ W (by simp; omega) (by rw [← hmi] at h; exact h))
          have HNs : Hid (∀ (R : Ending → World → Prop) (W : World), R (.returned (.int .i64 s)) W → Calls Tryz.prog 138 #[.string (S (List.drop 23 (List.take 25 l)))] W R) := Lib.hid (fun R W h => number3_any _ W (by simp; omega) (by rw [← hs] at h; exact h))
          have HPO : Hid (parOk l ↔ (isDt y m d h mi s wd ∧ Told (secN y m d h mi s) l)) := Lib.hid (by
            unfold parOk parN
            rw [hm, hwd, hd, hy, hh, hmi, hs]
            exact ⟨fun x => x.2, fun x => ⟨hl, x⟩⟩)
          have HPN : Hid (parN l = secN y m d h mi s) := Lib.hid (by unfold parN; rw [hm, hd, hy, hh, hmi, hs])
          obtain ⟨⟨p0, p1, p2, p3, p4, p5, p6⟩, ⟨z0, z1, z2, z3, z4, z5, z6⟩⟩ := bk7 hr.out.2
          clear hM hwd hd hy hh hmi hs hm HX7 hxm hxw
          go_upto_region 17 with (fail)
          go_region_law (first | (go_simp; go_at_call 138; (with_reducible refine HNd.out _ _ ?_)) | (go_simp; go_at_call 138; (with_reducible refine HNy.out _ _ ?_)))
          refine gen_worldB3 (fun W => Hid (Kp [] w W ∧ Bk W g 180 (dC y m d 0 0 0 wd))) (Lib.hid ⟨((hr.out.1.setCell (.inr hgw) _).setCell (.inr hgw) _).drew, (((hr.out.2.set_ 2 _).set_ 0 _).drew).cast rfl⟩) ?_
          clear p0 p1 p2 p3 p4 p5 p6 z0 z1 z2 z3 z4 z5 z6 hr HNd HNy
          intro W5 hr
          obtain ⟨⟨p0, p1, p2, p3, p4, p5, p6⟩, ⟨z0, z1, z2, z3, z4, z5, z6⟩⟩ := bk7 hr.out.2
          go_upto_region 18 with (fail)
          go_region_law (first | (go_simp; go_at_call 138; (with_reducible refine HNh.out _ _ ?_)) | (go_simp; go_at_call 138; (with_reducible refine HNi.out _ _ ?_)) | (go_simp; go_at_call 138; (with_reducible refine HNs.out _ _ ?_)))
          refine gen_worldB3 (fun W => Hid (Kp [] w W ∧ Bk W g 180 (dC y m d h mi s wd))) (Lib.hid ⟨(((hr.out.1.setCell (.inr hgw) _).setCell (.inr hgw) _).setCell (.inr hgw) _).drew, ((((hr.out.2.set_ 3 _).set_ 4 _).set_ 5 _).drew).cast rfl⟩) ?_
          clear p0 p1 p2 p3 p4 p5 p6 z0 z1 z2 z3 z4 z5 z6 hr HNh HNi HNs
          intro W6 hr
          obtain ⟨⟨p0, p1, p2, p3, p4, p5, p6⟩, _⟩ := bk7 hr.out.2
          obtain ⟨N, hN⟩ : ∃ N, secN y m d h mi s = N := ⟨_, rfl⟩
          have HSc : Hid (∀ (R : Ending → World → Prop), (Hid (isDt y m d h mi s wd) → ∀ w', Kp [] W6 w' → R (.returned (.tuple #[.int .i64 N, .int .i64 0])) w') → (Hid (¬ isDt y m d h mi s wd) → ∀ w', Kp [] W6 w' → R (.returned (.tuple #[.int .i64 0, .int .i64 60])) w') → Calls Tryz.prog 139 #[.agg #[.int .i64 y, .int .i64 m, .int .i64 d, .int .i64 h, .int .i64 mi, .int .i64 s, .int .i64 wd]] W6 R) := Lib.hid (fun R a b => seconds_any (by rw [hN]; exact a) b)
          rw [hN] at HPO HPN
          have HNN := Lib.hid hN
          clear hN
          go_upto_region 20 with (go_at_call 139; (refine HSc.out _ (fun hi w7 k7 => ?_) (fun hi w7 k7 => ?_)))
          · have kw := hr.out.1.trans k7
            have hbd := secN_bd hi.out.1
            rw [HNN.out] at hbd
            have hmb : mayB N = true := by simp [mayB]; omega
            have HPr : Hid (∀ (R : Ending → World → Prop), (∀ D w', Hid (Told N D) → Kp [] w7 w' → R (.returned (.tuple #[.string (S D), .int .i64 0])) w') → Calls Tryz.prog 67 #[.int .i64 N] w7 R) := Lib.hid (fun R h => print_both N w7 (hw.kp kw) (fun D e w' k' ht _ => by obtain ⟨t1, rfl⟩ := ht hmb; exact h D w' (Lib.hid t1) k'))
            clear hbd hmb
            go_upto_region 22 with (go_at_call 67; (refine HPr.out _ ?_; intro D w8 hD k8))
            by_cases hq : D = l
            · have hb : (D == l) = true := by simpa using hq
              have HOK : Hid (parOk l) := Lib.hid (HPO.out.2 ⟨hi.out, hq ▸ hD.out⟩)
              clear hq
              go_wp2
              exact rcast (H1.out HOK.out _ (kw.trans k8)) (by rw [HPN.out]; rfl)
            · have hb : (D == l) = false := by simpa using hq
              have HOK : Hid (¬ parOk l) := Lib.hid (fun h => hq (told_uniq hD.out (HPO.out.1 h).2))
              clear hq
              go_wp2
              go_step3
              refine ⟨rfl, HJ.out _ _ ?_⟩
              go_wp2
              exact H0.out HOK.out _ (kw.trans k8)
          · have kw := hr.out.1.trans k7
            have HOK : Hid (¬ parOk l) := Lib.hid (fun h => hi.out (HPO.out.1 h).1)
            go_wp2
            go_step3
            refine ⟨rfl, HJ.out _ _ ?_⟩
            go_wp2
            exact H0.out HOK.out _ kw
/-- civil.Parse of any text. -/
theorem parse_civ (l : List UInt8) (hw : Lw w) (hl : l.length ≤ 2000000) (h1 : Hid (parOk l) → ∀ w', Kp [] w w' → R (.returned (.tuple #[.int .i64 (parN l), .int .i64 0])) w') (h0 : Hid (¬ parOk l) → ∀ w', Kp [] w w' → R (.returned (.tuple #[.int .i64 0, .int .i64 60])) w') :
    Calls Tryz.prog 112 #[.string (S l)] w R := by
  by_cases h29 : l.length = 29
  · exact parse3_any l h29 hw (fun h => h1 (Lib.hid h)) (fun h => h0 (Lib.hid h))
  · have hb : ((l.length : Int) != 29) = true := by simp; omega
    have H0 := Lib.hid (h0 (Lib.hid (fun h => h29 h.1)))
    clear h1 h0 h29
    go_enter Tryz.func112, Tryz.ntmps112
    go_wp2
    refine wp_scope_fwd 0 (by rfl) ?_
    intro J HJ
    go_wp2
    go_step3
    refine ⟨rfl, HJ.out _ _ ?_⟩
    go_wp2
    exact H0.out _ ((Kp.refl _ _).alloc _)
end
end
/-! ### Package cond: a tag in a list. -/
section
open Go.RowKit Go.Shelf
set_option linter.unusedVariables false
set_option linter.unusedSimpArgs false
set_option maxRecDepth 100000

/-- Is this item what is looked for? -/
def hitB (t : List UInt8) (weak : Bool) (x : List UInt8) : Bool := x == t || (weak && x == 87 :: 47 :: t)
noncomputable def matchM (l t : List UInt8) (weak : Bool) : Bool := trimL l == [42] || ((itemsL l).all tg && (itemsL l).any (hitB t weak))
theorem strs_ne {its : List (List UInt8)} {k : Nat} (h : k < its.length) : strs its ≠ [] := by
  intro e
  have h0 : its.length = 0 := by rw [← strs_len, e]; rfl
  omega
theorem any_take {l : List (List UInt8)} {p : List UInt8 → Bool} {k : Nat} {x : List UInt8} (hx : l[k]? = some x) : (l.take (k + 1)).any p = ((l.take k).any p || p x) := by
  have hk : k < l.length := (List.getElem?_eq_some_iff.1 hx).1
  have e : l[k] = x := (List.getElem?_eq_some_iff.1 hx).2
  rw [List.take_succ_eq_append_getElem hk, e, List.any_append]; simp
theorem all_take {l : List (List UInt8)} {p : List UInt8 → Bool} {k : Nat} {x : List UInt8} (hx : l[k]? = some x) : (l.take (k + 1)).all p = ((l.take k).all p && p x) := by
  have hk : k < l.length := (List.getElem?_eq_some_iff.1 hx).1
  have e : l[k] = x := (List.getElem?_eq_some_iff.1 hx).2
  rw [List.take_succ_eq_append_getElem hk, e, List.all_append]; simp
set_option maxHeartbeats 4000000 in
theorem match_any {R : Ending → World → Prop} (l t : List UInt8) (weak : Bool) (w : World) (hl : l.length ≤ 2000000) (ht : t.length ≤ 2000000) (hm : Ml w) (h : ∀ w', Kp [] w w' → R (.returned (.bool (matchM l t weak))) w') :
    Calls Tryz.prog 66 #[.string (S l), .string (S t), .bool weak] w R := by
  have H := Lib.hid h
  clear h
  have HM := Lib.hid (show matchM l t weak = (trimL l == [42] || ((itemsL l).all tg && (itemsL l).any (hitB t weak))) from rfl)
  generalize matchM l t weak = b at *
  cases hs : (trimL l == [42])
  · obtain ⟨its, hits⟩ : ∃ its, itemsL l = its := ⟨_, rfl⟩
    have hmem : ∀ x ∈ its, x.length ≤ 2000000 := fun x hx => by
      have := items_mem_len (l := l) (p := x) (by rw [hits]; exact hx)
      omega
    have hil : its.length ≤ 2000001 := by have := itemsL_len l; rw [hits] at this; omega
    have HI : Hid (∀ (R : Ending → World → Prop) (w1 : World), Ml w1 → (∀ A c w', Ow w' 9 1 A its.length c (strs its) → (∀ b ∈ bks A, w1.heap.size ≤ b) → Kp [] w1 w' → R (.returned (.slice A its.length c)) w') → Calls Tryz.prog 69 #[.string (S l)] w1 R) := Lib.hid (by
      intro R w1 hm1 h
      refine items_any l w1 (by omega) hm1 ?_
      rw [hits]; exact h)
    have HMM := Lib.hid hmem
    rw [hs, hits, Bool.false_or] at HM
    have hs2 := Lib.hid hs
    clear hits hmem
    go_enter Tryz.func66, Tryz.ntmps66
    go_wp2_with (first | (go_at_call 113; ((refine trim_any l _ (by omega) ?_); intro w1 k1)) | (go_at_call 69; ((refine HI.out _ _ (hm.kp k1) ?_); intro A c w2 ho hA k2)))
    have HR := Lib.hid (ho.rd (N := []) (by simp))
    have k12 := k1.trans k2
    clear ho hA k1 k2
    go_loopw [7, 16] (fun fv iv wr => ∃ k : Nat, k ≤ its.length ∧ iv = .int .i64 k ∧ fv = .bool ((its.take k).any (hitB t weak)) ∧ Hid ((its.take k).all tg = true) ∧ Kp [] w2 wr) (fun _ iv _ => its.length - (intOf iv).toNat)
    case atStart => exact ⟨0, Nat.zero_le _, rfl, rfl, Lib.hid rfl, Kp.refl _ _⟩
    case round =>
      obtain ⟨k, hk, rfl, rfl, hall, kr⟩ := hrel
      by_cases hlt : k < its.length
      · obtain ⟨x, hx⟩ : ∃ x, its[k]? = some x := ⟨_, List.getElem?_eq_getElem hlt⟩
        have hxl := HMM.out x (List.mem_of_getElem? hx)
        obtain ⟨g, off, rfl, _, hgl, hc⟩ := HR.out (strs_ne hlt)
        have hcx := (kr.cell (p := ⟨g, off + k, none⟩) hgl (by simp)).trans (hc k (.string (S x)) (by rw [strs_get, hx]; rfl))
        have HX := Lib.hid hx
        have HA := Lib.hid (all_take (p := tg) hx)
        have HY := Lib.hid (any_take (p := hitB t weak) hx)
        clear hc hx
        cases ht2 : tg x
        · have HT := Lib.hid ht2
          have hb : b = false := by
            have h1 : its.all tg = false := by rw [List.all_eq_false]; exact ⟨x, List.mem_of_getElem? HX.out, by simp [ht2]⟩
            rw [HM.out, h1]; rfl
          subst hb
          clear ht2
          go_wp2_with (go_at_call 114; ((refine istag_any x _ hxl ?_); intro w3 k3; rw [HT.out]))
          exact H.out _ ((k12.trans kr).trans k3)
        · have HT := Lib.hid ht2
          have HA2 : Hid ((its.take (k + 1)).all tg = true) := Lib.hid (by rw [HA.out, hall.out, ht2]; rfl)
          clear ht2
          have HYB := HY.out
          unfold hitB at HYB
          obtain ⟨f, hf⟩ : ∃ f, (its.take k).any (hitB t weak) = f := ⟨_, rfl⟩
          rw [hf]
          have HF := Lib.hid (show (its.take (k + 1)).any (hitB t weak) = (f || (x == t || (weak && x == 87 :: 47 :: t))) by rw [HY.out, hf]; rfl)
          clear HYB HY hf
          cases f <;> cases weak <;> cases hxt : (x == t) <;> cases hxw : (x == 87 :: 47 :: t)
          all_goals
            have hf2 := HF.out
            rw [hxt, hxw] at hf2
            simp only [Bool.false_or, Bool.true_or, Bool.or_false, Bool.or_true, Bool.false_and, Bool.true_and] at hf2
            have HF2 := Lib.hid hf2
            clear hf2 HF
            go_wp2_with (go_at_call 114; ((refine istag_any x _ hxl ?_); intro w3 k3; rw [HT.out]))
            exact ⟨⟨k + 1, by omega, by go_num, by rw [HF2.out], HA2, kr.trans k3⟩, by simp [intOf]; omega⟩
      · have e : its.take k = its := List.take_of_length_le (by omega)
        rw [e] at hall
        have hb : b = its.any (hitB t weak) := by rw [HM.out, hall.out, Bool.true_and]
        subst hb
        rw [e]
        go_wp2
        exact H.out _ (k12.trans kr)
  · have hb : b = true := by rw [HM.out, hs]; rfl
    subst hb
    have hs2 : (trimL l == [42]) = true := hs
    clear HM hs
    go_enter Tryz.func66, Tryz.ntmps66
    go_wp2_with (go_at_call 113; ((refine trim_any l _ (by omega) ?_); intro w1 k1))
    exact H.out _ k1
set_option maxHeartbeats 4000000 in
theorem rmatch_any {R : Ending → World → Prop} (l t : List UInt8) (weak : Bool) (w : World) (hl : l.length ≤ 2000000) (ht : t.length ≤ 2000000) (h : ∀ w', Kp [] w w' → R (.returned (.bool (matchM l t weak))) w') :
    Calls Tryz.prog 151 #[.string (S l), .string (S t), .bool weak] w R := by
  have H := Lib.hid h
  clear h
  have HM := Lib.hid (show matchM l t weak = (trimL l == [42] || ((itemsL l).all tg && (itemsL l).any (hitB t weak))) from rfl)
  generalize matchM l t weak = b at *
  cases hs : (trimL l == [42])
  · obtain ⟨its, hits⟩ : ∃ its, itemsL l = its := ⟨_, rfl⟩
    have hmem : ∀ x ∈ its, x.length ≤ 2000000 := fun x hx => by
      have := items_mem_len (l := l) (p := x) (by rw [hits]; exact hx)
      omega
    have hil : its.length ≤ 2000001 := by have := itemsL_len l; rw [hits] at this; omega
    have HI : Hid (∀ (R : Ending → World → Prop) (w1 : World), (∀ A c w', Ow w' 9 1 A its.length c (strs its) → (∀ b ∈ bks A, w1.heap.size ≤ b) → Kp [] w1 w' → R (.returned (.slice A its.length c)) w') → Calls Tryz.prog 92 #[.string (S l)] w1 R) := Lib.hid (by
      intro R w1 h
      refine ritems_any l w1 (by omega) ?_
      rw [hits]; exact h)
    have HMM := Lib.hid hmem
    rw [hs, hits, Bool.false_or] at HM
    clear hits hmem
    go_enter Tryz.func151, Tryz.ntmps151
    go_wp2_with (first | (go_at_call 91; (refine rtrim_any l _ (by omega) ?_)) | (go_at_call 92; ((refine HI.out _ _ ?_); intro A c w2 ho hA k2)))
    have HR := Lib.hid (ho.rd (N := []) (by simp))
    clear ho hA
    go_loop [8, 9] (fun fv iv => ∃ k : Nat, k ≤ its.length ∧ iv = .int .i64 k ∧ fv = .bool ((its.take k).any (hitB t weak)) ∧ Hid ((its.take k).all tg = true)) (fun _ iv => its.length - (intOf iv).toNat)
    case atStart => exact ⟨0, Nat.zero_le _, rfl, rfl, Lib.hid rfl⟩
    case round =>
      obtain ⟨k, hk, rfl, rfl, hall⟩ := hrel
      by_cases hlt : k < its.length
      · obtain ⟨x, hx⟩ : ∃ x, its[k]? = some x := ⟨_, List.getElem?_eq_getElem hlt⟩
        have hxl := HMM.out x (List.mem_of_getElem? hx)
        obtain ⟨g, off, rfl, _, hgl, hc⟩ := HR.out (strs_ne hlt)
        have hcx := hc k (.string (S x)) (by rw [strs_get, hx]; rfl)
        have HX := Lib.hid hx
        have HA := Lib.hid (all_take (p := tg) hx)
        have HY := Lib.hid (any_take (p := hitB t weak) hx)
        clear hc hx
        cases ht2 : tg x
        · have HT := Lib.hid ht2
          have hb : b = false := by
            have h1 : its.all tg = false := by rw [List.all_eq_false]; exact ⟨x, List.mem_of_getElem? HX.out, by simp [ht2]⟩
            rw [HM.out, h1]; rfl
          subst hb
          clear ht2
          go_wp2_with (go_at_call 181; ((refine rtagw_any x _ hxl ?_); rw [HT.out]))
          exact H.out _ k2
        · have HT := Lib.hid ht2
          have HA2 : Hid ((its.take (k + 1)).all tg = true) := Lib.hid (by rw [HA.out, hall.out, ht2]; rfl)
          clear ht2
          obtain ⟨f, hf⟩ : ∃ f, (its.take k).any (hitB t weak) = f := ⟨_, rfl⟩
          rw [hf]
          have HF := Lib.hid (show (its.take (k + 1)).any (hitB t weak) = (f || (x == t || (weak && x == 87 :: 47 :: t))) by rw [HY.out, hf]; rfl)
          clear HY hf
          cases f <;> cases weak <;> cases hxt : (x == t) <;> cases hxw : (x == 87 :: 47 :: t)
          all_goals
            have hf2 := HF.out
            rw [hxt, hxw] at hf2
            simp only [Bool.false_or, Bool.true_or, Bool.or_false, Bool.or_true, Bool.false_and, Bool.true_and] at hf2
            have HF2 := Lib.hid hf2
            clear hf2 HF
            go_wp2_with (go_at_call 181; ((refine rtagw_any x _ hxl ?_); rw [HT.out]))
            exact ⟨⟨k + 1, by omega, by go_num, by rw [HF2.out], HA2⟩, by simp [intOf]; omega⟩
      · have e : its.take k = its := List.take_of_length_le (by omega)
        rw [e] at hall
        have hb : b = its.any (hitB t weak) := by rw [HM.out, hall.out, Bool.true_and]
        subst hb
        rw [e]
        go_wp2
        exact H.out _ k2
  · have hb : b = true := by rw [HM.out, hs]; rfl
    subst hb
    have hs2 : (trimL l == [42]) = true := hs
    clear HM hs
    go_enter Tryz.func151, Tryz.ntmps151
    go_wp2_with (go_at_call 91; (refine rtrim_any l _ (by omega) ?_))
    exact H.out _ (Kp.refl _ _)
end
/-! ### Names of the conditions' fields; a request without such a date. -/
section
open Go.RowKit Go.Shelf
set_option linter.unusedVariables false
set_option linter.unusedSimpArgs false
set_option maxRecDepth 100000
def irL : List UInt8 := [105, 102, 45, 114, 97, 110, 103, 101]
def rgL : List UInt8 := [114, 97, 110, 103, 101]
def imL : List UInt8 := [105, 102, 45, 109, 97, 116, 99, 104]
def inL : List UInt8 := [105, 102, 45, 110, 111, 110, 101, 45, 109, 97, 116, 99, 104]
def iuL : List UInt8 := [105, 102, 45, 117, 110, 109, 111, 100, 105, 102, 105, 101, 100, 45, 115, 105, 110, 99, 101]
def ifL : List UInt8 := [105, 102, 45, 109, 111, 100, 105, 102, 105, 101, 100, 45, 115, 105, 110, 99, 101]
set_option maxHeartbeats 2000000 in
theorem date_no {R : Ending → World → Prop} (r : Req) (name : List UInt8) {A : Option Addr} {c : Nat} (w : World) (hr : Rd w [] A (r.fs.flatMap fldC)) (hn : r.fs.length ≤ 2000) (hc : r.fs.length ≤ c) (hg : getF r.fs name = ([], false))
    (h : ∀ w', Kp [] w w' → R (.returned (.tuple #[.int .i64 0, .bool false])) w') :
    Calls Tryz.prog 65 #[.agg #[.string (S r.m), .string (S r.t), .int .i64 r.minor, .slice A r.fs.length c, .bool r.close], .string (S name)] w R := by
  have H := Lib.hid h
  have HR := Lib.hid hr
  have HG : Hid (∀ (R : Ending → World → Prop) (w1 : World), Rd w1 [] A (r.fs.flatMap fldC) → (∀ w', Kp [] w1 w' → R (.returned (.tuple #[.string (S []), .bool false])) w') → Calls Tryz.prog 64 #[.agg #[.string (S r.m), .string (S r.t), .int .i64 r.minor, .slice A r.fs.length c, .bool r.close], .string (S name)] w1 R) := Lib.hid (fun R w1 h1 h => get_any r.fs name r.m r.t r.minor r.close w1 h1 (by omega) hc (by rw [hg]; exact h))
  clear h hr hg
  go_enter Tryz.func65, Tryz.ntmps65
  go_wp2_with (go_at_call 64; ((refine HG.out _ _ (HR.out.kp ((Kp.refl [] w).alloc _) (by simp)) ?_); intro w1 k1))
  first | exact H.out _ (((Kp.refl _ _).alloc _).trans k1) | exact bodyPost_ret (v := .tuple #[.int .i64 0, .bool false]) (by simp [results, Tryz.results65, go_sem]) rfl (H.out _ (((Kp.refl _ _).alloc _).trans k1))
end
/-! ### cond: date, Check, Ranged of any request, as functions of its fields. -/
section
open Go.RowKit Go.Shelf
set_option linter.unusedVariables false
set_option linter.unusedSimpArgs false
set_option maxRecDepth 100000
/-- The second that a field tells. -/
noncomputable def dateM (fs : List Fd) (name : List UInt8) : Int × Bool := by
  classical exact if (getF fs name).2 = true ∧ parOk (allF fs name) then (parN (allF fs name), !((getF fs name).1 == [])) else (0, false)
theorem getF_nil {fs : List Fd} {name : List UInt8} (h : (getF fs name).2 = false) : (getF fs name).1 = [] := by
  unfold getF at h ⊢
  split at h
  · rfl
  · cases h
section
variable {R : Ending → World → Prop} {w : World}
set_option maxHeartbeats 4000000 in
theorem date_any (r : Req) (name : List UInt8) {A : Option Addr} {c : Nat} (hr : Rd w [] A (r.fs.flatMap fldC)) (hn : r.fs.length ≤ 2000) (hc : r.fs.length ≤ c) (hw : Lw w) (ha : (allF r.fs name).length ≤ 2000000)
    (h : ∀ w', Kp [] w w' → R (.returned (.tuple #[.int .i64 (dateM r.fs name).1, .bool (dateM r.fs name).2])) w') :
    Calls Tryz.prog 65 #[.agg #[.string (S r.m), .string (S r.t), .int .i64 r.minor, .slice A r.fs.length c, .bool r.close], .string (S name)] w R := by
  cases hg : (getF r.fs name).2 with
  | false =>
    have e : dateM r.fs name = (0, false) := by unfold dateM; rw [if_neg (by rw [hg]; rintro ⟨h, _⟩; cases h)]
    rw [e] at h
    have e2 : getF r.fs name = ([], false) := by
      refine Prod.ext ?_ hg
      exact getF_nil hg
    exact date_no r name w hr hn hc e2 h
  | true =>
    have H := Lib.hid h
    have HR := Lib.hid hr
    obtain ⟨v, hv⟩ : ∃ v, (getF r.fs name).1 = v := ⟨_, rfl⟩
    obtain ⟨a, ha2⟩ : ∃ a, allF r.fs name = a := ⟨_, rfl⟩
    have HG : Hid (∀ (R : Ending → World → Prop) (w1 : World), Rd w1 [] A (r.fs.flatMap fldC) → (∀ w', Kp [] w1 w' → R (.returned (.tuple #[.string (S v), .bool true])) w') → Calls Tryz.prog 64 #[.agg #[.string (S r.m), .string (S r.t), .int .i64 r.minor, .slice A r.fs.length c, .bool r.close], .string (S name)] w1 R) := Lib.hid (fun R w1 h1 h => get_any r.fs name r.m r.t r.minor r.close w1 h1 (by omega) hc (by rw [hg, hv]; exact h))
    have HA : Hid (∀ (R : Ending → World → Prop) (w1 : World), Rd w1 [] A (r.fs.flatMap fldC) → (∀ w', Kp [] w1 w' → R (.returned (.string (S a))) w') → Calls Tryz.prog 46 #[.agg #[.string (S r.m), .string (S r.t), .int .i64 r.minor, .slice A r.fs.length c, .bool r.close], .string (S name)] w1 R) := Lib.hid (fun R w1 h1 h => all_any' r.fs name r.m r.t r.minor r.close w1 h1 (by omega) (by omega) (by rw [ha2]; exact h))
    have HP : Hid (∀ (R : Ending → World → Prop) (w1 : World), Kp [] w w1 → (∀ w', Hid (parOk a) → Kp [] w1 w' → R (.returned (.tuple #[.int .i64 (parN a), .int .i64 0])) w') → (∀ w', Hid (¬ parOk a) → Kp [] w1 w' → R (.returned (.tuple #[.int .i64 0, .int .i64 60])) w') → Calls Tryz.prog 112 #[.string (S a)] w1 R) := Lib.hid (fun R w1 k h1 h0 => parse_civ a (hw.kp k) (by rw [← ha2]; exact ha) (fun hi w' k' => h1 w' hi k') (fun hi w' k' => h0 w' hi k'))
    have HD1 : Hid (parOk a → dateM r.fs name = (parN a, !(v == []))) := Lib.hid (fun hp => by unfold dateM; rw [if_pos ⟨hg, by rw [ha2]; exact hp⟩, ha2, hv])
    have HD0 : Hid (¬ parOk a → dateM r.fs name = (0, false)) := Lib.hid (fun hp => by unfold dateM; rw [if_neg (by rw [ha2]; exact fun h => hp h.2)])
    clear h hr hg hv ha2 ha
    go_enter Tryz.func65, Tryz.ntmps65
    go_upto_region 1 with (fail)
    refine gen_worldC (fun W => ∃ g, w.heap.size = g ∧ Hid (Kp [] w W ∧ Bk W g 35 (reqC r A c))) ⟨_, rfl, Lib.hid ⟨(Kp.refl _ _).alloc _, (Bk.new' _ _ _).cast rfl⟩⟩ ?_
    rintro W ⟨g, hg, hW⟩
    rw [hg]
    clear hg
    have HC : Hid (∀ W', Kp [] W W' → W'.cell? ⟨g, 0, none⟩ = some (.string (S r.m)) ∧ W'.cell? ⟨g, 1, none⟩ = some (.string (S r.t)) ∧ W'.cell? ⟨g, 2, none⟩ = some (.int .i64 r.minor) ∧ W'.cell? ⟨g, 3, none⟩ = some (.slice A r.fs.length c) ∧ W'.cell? ⟨g, 4, none⟩ = some (.bool r.close)) :=
      Lib.hid (fun W' k => ⟨(hW.out.2.kp k (by simp)).cell 0, (hW.out.2.kp k (by simp)).cell 1, (hW.out.2.kp k (by simp)).cell 2, (hW.out.2.kp k (by simp)).cell 3, (hW.out.2.kp k (by simp)).cell 4⟩)
    obtain ⟨p0, p1, p2, p3, p4⟩ := HC.out W (Kp.refl _ _)
    go_upto_region 4 with (go_at_call 64; ((refine HG.out _ _ (HR.out.kp hW.out.1 (by simp)) ?_); intro w1 k1))
    clear p0 p1 p2 p3 p4
    obtain ⟨p0, p1, p2, p3, p4⟩ := HC.out w1 k1
    go_upto_region 5 with (first | (go_at_call 46; ((refine HA.out _ _ (HR.out.kp (hW.out.1.trans k1) (by simp)) ?_); intro w2 k2)) | (go_at_call 112; ((refine HP.out _ _ ((hW.out.1.trans k1).trans k2) ?_ ?_) <;> (intro w3 hp k3))))
    · have HE := Lib.hid (HD1.out hp.out)
      have kk := ((hW.out.1.trans k1).trans k2).trans k3
      clear p0 p1 p2 p3 p4 hp
      cases hq : (v == [])
      · go_wp2
        have := H.out _ kk; rw [HE.out, hq] at this; exact this
      · go_wp2
        have := H.out _ kk; rw [HE.out, hq] at this; exact this
    · have HE := Lib.hid (HD0.out hp.out)
      have kk := ((hW.out.1.trans k1).trans k2).trans k3
      clear p0 p1 p2 p3 p4 hp
      go_wp2
      have := H.out _ kk; rw [HE.out] at this; exact this
end
end
/-! ### The document's Reason; lengths of parts; None. -/
section
open Go.RowKit
set_option linter.unusedVariables false
set_option linter.unusedSimpArgs false
set_option maxRecDepth 100000

theorem rsn_at {n : Int} {k : Nat} {c : Int} (hc : rCodes[k]? = some c) (h : n = c) : rTexts[k]? = some (rsnL n) := by
  have hk : k < 12 := (List.getElem?_eq_some_iff.1 hc).1
  rcases (by omega : k = 0 ∨ k = 1 ∨ k = 2 ∨ k = 3 ∨ k = 4 ∨ k = 5 ∨ k = 6 ∨ k = 7 ∨ k = 8 ∨ k = 9 ∨ k = 10 ∨ k = 11) with rfl | rfl | rfl | rfl | rfl | rfl | rfl | rfl | rfl | rfl | rfl | rfl <;> (simp [rCodes] at hc; subst hc; subst h; rfl)
theorem rsn_none {n : Int} (h : ∀ (k : Nat) (c : Int), rCodes[k]? = some c → ¬ n = c) : rsnL n = unkL := by
  have a0 := h 0 _ rfl
  have a1 := h 1 _ rfl
  have a2 := h 2 _ rfl
  have a3 := h 3 _ rfl
  have a4 := h 4 _ rfl
  have a5 := h 5 _ rfl
  have a6 := h 6 _ rfl
  have a7 := h 7 _ rfl
  have a8 := h 8 _ rfl
  have a9 := h 9 _ rfl
  have a10 := h 10 _ rfl
  have a11 := h 11 _ rfl
  simp only [rsnL, a0, a1, a2, a3, a4, a5, a6, a7, a8, a9, a10, a11, if_false]
set_option maxHeartbeats 4000000 in
theorem rreason_any {R : Ending → World → Prop} (n : Int) (w : World) (h : ∀ w', Kp [] w w' → R (.returned (.string (S (rsnL n)))) w') : Calls Tryz.prog 93 #[.int .i64 n] w R := by
  have H := Lib.hid h
  clear h
  go_enter Tryz.func93, Tryz.ntmps93
  go_upto_region 3 with (fail)
  refine gen_worldC (fun W => ∃ g, w.heap.size = g ∧ Kp [] w W ∧ Bk W g 3 (rCodes.map (Value.int .i64 ·)) ∧ Bk W (g + 1) 9 (rTexts.map fun t => Value.string (S t))) ⟨_, rfl, ((Kp.refl _ _).alloc _).alloc _, ((Bk.new' _ _ _).alloc _).cast rfl, (Bk.newAt (by simp) _ _).cast rfl⟩ ?_
  rintro W ⟨g, hg, kW, b1, b2⟩
  rw [hg]
  clear hg
  have KW := Lib.hid kW
  have B1 := Lib.hid b1
  have B2 := Lib.hid b2
  clear kW b1 b2
  go_wp2
  go_loopw [5] (fun dv wr => ∃ k : Nat, dv = .int .i64 k ∧ k ≤ 12 ∧ wr = W ∧ Hid (∀ (j : Nat) (c : Int), j < k → rCodes[j]? = some c → ¬ n = c)) (fun dv _ => (12 - intOf dv).toNat)
  case atStart => exact ⟨0, rfl, by omega, rfl, Lib.hid (by intro j c hj; omega)⟩
  case round =>
    obtain ⟨k, rfl, hk, rfl, hno⟩ := hrel
    by_cases hk2 : k < 12
    · obtain ⟨c, hc⟩ : ∃ c, rCodes[k]? = some c := ⟨_, List.getElem?_eq_getElem (by simp [rCodes]; omega)⟩
      have hcell : wr.cell? ⟨g, k, none⟩ = some (.int .i64 c) := by rw [B1.out.cell, List.getElem?_map, hc]; rfl
      by_cases hq : n = c
      · have ht := rsn_at hc hq
        have hcell2 : wr.cell? ⟨g + 1, k, none⟩ = some (.string (S (rsnL n))) := by rw [B2.out.cell, List.getElem?_map, ht]; rfl
        have hqb : (c == n) = true := by simp [hq]
        clear hc ht hno
        obtain ⟨rs, hrs⟩ : ∃ rs, rsnL n = rs := ⟨_, rfl⟩
        rw [hrs] at hcell2
        have HRS := Lib.hid hrs
        clear hrs
        subst hq
        go_wp2
        exact rcast (H.out _ KW.out) (by rw [HRS.out]; rfl)
      · have HN : Hid (∀ (j : Nat) (c : Int), j < k + 1 → rCodes[j]? = some c → ¬ n = c) := Lib.hid (by
          intro j c' hj hj2
          rcases (by omega : j < k ∨ j = k) with h1 | rfl
          · exact hno.out j c' h1 hj2
          · rw [hc] at hj2; injection hj2 with hj2; rw [← hj2]; exact hq)
        have hqb : (c == n) = false := by simp; omega
        have hqc : ¬ c = n := fun e => hq e.symm
        clear hc hno hq
        go_wp2
        exact ⟨⟨k + 1, by first | rfl | (congr 1), by omega, by first | rfl | trivial, HN⟩, by simp [intOf]; omega⟩
    · have hk3 : k = 12 := by omega
      subst hk3
      have HR : Hid (rsnL n = unkL) := Lib.hid (rsn_none (fun k c hc => hno.out k c (List.getElem?_eq_some_iff.1 hc).1 hc))
      clear hno
      go_wp2
      exact rcast (H.out _ KW.out) (by rw [HR.out]; rfl)
set_option maxHeartbeats 1000000 in
theorem rnone_any {R : Ending → World → Prop} (n : Nat) (w : World) (hn : n ≤ 1000000000) (hw : Lw w) (h : ∀ w', Kp [] w w' → R (.returned (.string (S ([98, 121, 116, 101, 115, 32, 42, 47] ++ decL n)))) w') : Calls Tryz.prog 82 #[.int .i64 n] w R := by
  have H := Lib.hid h
  clear h
  have hl := decL_len20 (n := n) (by omega)
  go_enter Tryz.func82, Tryz.ntmps82
  go_wp2_with (go_at_call 77; ((refine itoa_any n _ (by omega) hw ?_); intro w1 k1))
  exact H.out _ k1
def partC (t : List UInt8) : List Value := [.string (S t), .int .i64 0, .int .i64 0]
set_option maxHeartbeats 1000000 in
theorem plen_any {R : Ending → World → Prop} (t : List UInt8) (c : Nat) {A : Option Addr} (w : World) (hr : Rd w [] A (partC t)) (ht : t.length ≤ 100000) (h : ∀ w', Kp [] w w' → R (.returned (.int .i64 t.length)) w') : Calls Tryz.prog 83 #[.slice A 1 c] w R := by
  have H := Lib.hid h
  obtain ⟨b, o, rfl, hn, hb, hc⟩ := hr (by simp [partC])
  have c0 : w.cell? ⟨b, o, none⟩ = some (.string (S t)) := hc 0 _ rfl
  have c1 := hc 1 _ rfl
  have c2 := hc 2 _ rfl
  clear h hc
  go_enter Tryz.func83, Tryz.ntmps83
  go_wp2
  refine wp_loop_rounds 2 ?_
  rw [rounds_succ]
  go_wp2
  rw [rounds_succ]
  go_wp2
  exact rcast (H.out _ ((Kp.refl _ _).alloc _)) rfl
set_option maxHeartbeats 1000000 in
theorem rplen_any {R : Ending → World → Prop} (t : List UInt8) (c : Nat) {A : Option Addr} (w : World) (hr : Rd w [] A (partC t)) (ht : t.length ≤ 100000) (h : ∀ w', Kp [] w w' → R (.returned (.int .i64 t.length)) w') : Calls Tryz.prog 99 #[.slice A 1 c] w R := by
  have H := Lib.hid h
  obtain ⟨b, o, rfl, hn, hb, hc⟩ := hr (by simp [partC])
  have c0 : w.cell? ⟨b, o, none⟩ = some (.string (S t)) := hc 0 _ rfl
  have c1 := hc 1 _ rfl
  have hs1 : IntKind.i64.wrap (t.length : Int) = t.length := wrap_ok (by omega) (by omega)
  have c2 := hc 2 _ rfl
  clear h hc
  go_enter Tryz.func99, Tryz.ntmps99
  go_wp2
  refine wp_loop_rounds 2 ?_
  rw [rounds_succ]
  go_wp2
  go_quiet (fail)
  go_wp2
  rw [rounds_succ]
  go_wp2
  exact rcast (H.out _ (by first | exact Kp.refl _ _ | exact (Kp.refl _ _).alloc _ | exact (Kp.refl _ _).drew | exact (Kp.refl _ _).drewN _)) rfl
end
/-! ### append as a step of a drawn region. -/
section
open Go.RowKit
set_option linter.unusedVariables false
set_option linter.unusedSimpArgs false
set_option maxRecDepth 100000

theorem step_app {P : Program} {ops : Array Oper} {o : Oper} {a : Act} {w : World} {K : Act → World → Prop} {Q : Exit → Act → World → Prop} {E : Prop} (hg : o.guard = none) (s x : Operand) (t : Nat)
    (ho : o.op = .call { callee := .builtin .append, args := #[s, x], argTypes := #[t, t] })
    {e : Nat} {z : Value} {sz by_ : Nat} (hE : Elt P t e z sz by_) (A : Option Addr) (n c : Nat) (xs : List Value) (hs : a.eval s = .slice A n c) (hown : Ow w e sz A n c xs)
    (N : List Nat) (A2 : Option Addr) (m c2 : Nat) (news : List Value) (hx : a.eval x = .slice A2 m c2) (hr : Rd w N A2 news) (hl : news.length = m * sz) (h1 : ∀ u ∈ news, u.oneCell' = true) (hb : n + m ≤ 4294967296)
    (h : ∀ A' c' w', Ow w' e sz A' (n + m) c' (xs ++ news) → Kp (bks A) w w' → (A' = A ∨ A' = some ⟨w.heap.size, 0, none⟩) → K (a.put o.dst (.slice A' (n + m) c')) w') :
    if Region.wanted o (yielded ops a.tmps) = true then Oper.wp P o a w K Q else E := by
  have hw : Region.wanted o (yielded ops a.tmps) = true := by simp [Region.wanted, hg]
  rw [if_pos hw]
  exact wp_app w s x t ho hE A n c xs hs hown N A2 m c2 news hx hr hl h1 hb h
end
end Go.Proofs.YtnmafahbdfilcaaGreatDoor
