/- Package cond: Ranged, of a range that a tag guards. -/
import Derived.Test.YtjjigngighneeaaDoorOwnP
import Derived.Test.YtjjigngighneeaaDoorReqOf
namespace Go.Proofs.YtjjigngighneeaaDoor
open Go.RowKit Go.Shelf
set_option linter.unusedVariables false
set_option linter.unusedSimpArgs false
set_option maxRecDepth 100000

theorem tag_anyB {R : Ending → World → Prop} (v m : Int) (w : World) (hv : 0 ≤ v ∧ v ≤ 4294967296) (hm : 0 ≤ m ∧ m ≤ 4294967295) (hw : Lw w) (h : ∀ w', Kp [] w w' → R (.returned (.string (S (tagL v m)))) w') : Calls Tryd.prog 20 #[.int .i64 v, .int .i64 m] w R := by
  have H := Lib.hid h
  obtain ⟨v0, v1⟩ := hv
  obtain ⟨m0, m1⟩ := hm
  have e1 := itoaL_len v (by omega) (by omega)
  have e2 := itoaL_len m (by omega) (by omega)
  clear h
  go_enter Tryd.func20, Tryd.ntmps20
  go_wp2_with (first | (go_at_call 35; ((refine itoa_all _ _ (by omega) (by omega) hw ?_); intro w1 k1)) | (go_at_call 36; ((refine fmt_any _ _ (by omega) (by omega) (hw.kp k1) ?_); intro w2 k2)))
  exact H.out _ (k1.trans k2)
set_option maxHeartbeats 4000000 in
theorem ranged_tag {R : Ending → World → Prop} (r : Req) (v mt : Int) (x : List UInt8) {A : Option Addr} {c : Nat} (w : World) (hr : Rd w [] A (r.fs.flatMap fldC)) (hn : r.fs.length ≤ 100) (hc : r.fs.length ≤ c) (hv : 0 ≤ v ∧ v ≤ 4294967296) (hmt : 0 ≤ mt ∧ mt ≤ 4294967295) (hw : Lw w)
    (hm : r.m = [71, 69, 84]) (hG : (getF r.fs rgL).2 = true) (hI : (getF r.fs irL).2 = true) (hA : allF r.fs irL = 34 :: x) (hl : x.length ≤ 1000)
    (h : ∀ w', Kp [] w w' → R (.returned (.bool ((34 :: x) == tagL v mt))) w') :
    Calls Tryd.prog 22 #[.agg #[.string (S r.m), .string (S r.t), .int .i64 r.minor, .slice A r.fs.length c, .bool r.close], .int .i64 v, .int .i64 mt] w R := by
  have H := Lib.hid h
  have HR := Lib.hid hr
  obtain ⟨t, ht⟩ : ∃ t, tagL v mt = t := ⟨_, rfl⟩
  obtain ⟨al, hal⟩ : ∃ al, 34 :: x = al := ⟨_, rfl⟩
  have hl2 : al.length ≤ 1001 := by rw [← hal]; simp; omega
  obtain ⟨gm, hgm⟩ : ∃ x, (getF r.fs rgL).1 = x := ⟨_, rfl⟩
  obtain ⟨gn, hgn⟩ : ∃ x, (getF r.fs irL).1 = x := ⟨_, rfl⟩
  have HT : Hid (∀ (R : Ending → World → Prop) (w1 : World), Lw w1 → (∀ w', Kp [] w1 w' → R (.returned (.string (S t))) w') → Calls Tryd.prog 20 #[.int .i64 v, .int .i64 mt] w1 R) := Lib.hid (fun R w1 h1 h => tag_anyB v mt w1 hv hmt h1 (by rw [ht]; exact h))
  have HGm : Hid (∀ (R : Ending → World → Prop) (w1 : World), Rd w1 [] A (r.fs.flatMap fldC) → (∀ w', Kp [] w1 w' → R (.returned (.tuple #[.string (S gm), .bool true])) w') → Calls Tryd.prog 15 #[.agg #[.string (S r.m), .string (S r.t), .int .i64 r.minor, .slice A r.fs.length c, .bool r.close], .string ⟨#[114, 97, 110, 103, 101]⟩] w1 R) := Lib.hid (fun R w1 h1 h => get_any r.fs rgL r.m r.t r.minor r.close w1 h1 (by omega) hc (by rw [hG, hgm]; exact h))
  have HGn : Hid (∀ (R : Ending → World → Prop) (w1 : World), Rd w1 [] A (r.fs.flatMap fldC) → (∀ w', Kp [] w1 w' → R (.returned (.tuple #[.string (S gn), .bool true])) w') → Calls Tryd.prog 15 #[.agg #[.string (S r.m), .string (S r.t), .int .i64 r.minor, .slice A r.fs.length c, .bool r.close], .string ⟨#[105, 102, 45, 114, 97, 110, 103, 101]⟩] w1 R) := Lib.hid (fun R w1 h1 h => get_any r.fs irL r.m r.t r.minor r.close w1 h1 (by omega) hc (by rw [hI, hgn]; exact h))
  have HAm : Hid (∀ (R : Ending → World → Prop) (w1 : World), Rd w1 [] A (r.fs.flatMap fldC) → (∀ w', Kp [] w1 w' → R (.returned (.string (S al))) w') → Calls Tryd.prog 17 #[.agg #[.string (S r.m), .string (S r.t), .int .i64 r.minor, .slice A r.fs.length c, .bool r.close], .string ⟨#[105, 102, 45, 114, 97, 110, 103, 101]⟩] w1 R) := Lib.hid (fun R w1 h1 h => all_any' r.fs irL r.m r.t r.minor r.close w1 h1 (by omega) (by rw [hA]; simp; omega) (by rw [hA, hal]; exact h))
  have HPr : Hid (∀ (R : Ending → World → Prop) (w1 : World), Lw w1 → (∀ pr w', (al == pr) = false → Kp [] w1 w' → R (.returned (.tuple #[.string (S pr), .int .i64 0])) w') → Calls Tryd.prog 38 #[.int .i64 mt] w1 R) := Lib.hid (fun R w1 h1 h => print_any mt w1 (by omega) (by omega) h1 (fun y m d hh mi s wd a b _ ha _ w' k => h _ w' (by rw [← hal]; exact pr_ne ha) k))
  have hm2 : (r.m == [71, 69, 84]) = true := by rw [hm]; rfl
  rw [hal, ht] at H
  obtain ⟨e, he⟩ : ∃ e, (al == t) = e := ⟨_, rfl⟩
  rw [he] at H
  clear h hr hG hI hA hgm hgn ht hv hmt hm hal hl
  go_enter Tryd.func22, Tryd.ntmps22
  go_upto_region 1 with (fail)
  refine gen_worldC (fun W => Kp [] w W ∧ Bk W w.heap.size 41 (reqC r A c)) ⟨(Kp.refl _ _).alloc _, (Bk.new' _ _ _).cast rfl⟩ ?_
  rintro W ⟨kW, bW⟩
  obtain ⟨g, hgg⟩ : ∃ g, w.heap.size = g := ⟨_, rfl⟩
  rw [hgg] at bW ⊢
  have K0 := Lib.hid kW
  have HBX : Hid (∀ w', Kp [] W w' → (w'.cell? ⟨g, 0, none⟩ = some (.string (S r.m)) ∧ w'.cell? ⟨g, 1, none⟩ = some (.string (S r.t)) ∧ w'.cell? ⟨g, 2, none⟩ = some (.int .i64 r.minor) ∧ w'.cell? ⟨g, 3, none⟩ = some (.slice A r.fs.length c) ∧ w'.cell? ⟨g, 4, none⟩ = some (.bool r.close))) := Lib.hid (fun w' k' => (bk5 (bW.kp k' (by simp))).1)
  obtain ⟨p0, p1, p2, p3, p4⟩ := HBX.out W (Kp.refl _ _)
  have KR := Lib.hid (Kp.refl [] W)
  clear kW bW hgg
  cases e
  all_goals
    go_upto_region 2 with (go_at_call 15; ((refine HGm.out _ _ (HR.out.kp K0.out (by simp)) ?_); intro w1 k1; have K1 := Lib.hid (KR.out.trans k1); obtain ⟨p10, p11, p12, p13, p14⟩ := HBX.out w1 K1.out; clear k1))
    go_wp2_with (first | (go_at_call 15; ((refine HGn.out _ _ (HR.out.kp (K0.out.trans K1.out) (by simp)) ?_); intro w2 k2; have K2 := Lib.hid (K1.out.trans k2); obtain ⟨p20, p21, p22, p23, p24⟩ := HBX.out w2 K2.out; clear k2)) | (go_at_call 17; ((refine HAm.out _ _ (HR.out.kp (K0.out.trans K2.out) (by simp)) ?_); intro w3 k3; have K3 := Lib.hid (K2.out.trans k3); clear k3)) | (go_at_call 38; ((refine HPr.out _ _ (hw.kp (K0.out.trans K3.out)) ?_); intro pr w4 hpr k4; have K4 := Lib.hid (K3.out.trans k4); clear k4)) | (go_at_call 20; ((refine HT.out _ _ (hw.kp (K0.out.trans K4.out)) ?_); intro w5 k5; have K5 := Lib.hid (K4.out.trans k5); clear k5)))
    exact H.out _ (K0.out.trans K5.out)
set_option maxHeartbeats 1000000 in
theorem ranged_put {R : Ending → World → Prop} (r : Req) (v mt : Int) {A : Option Addr} {c : Nat} (w : World) (hr : Rd w [] A (r.fs.flatMap fldC)) (hn : r.fs.length ≤ 100) (hc : r.fs.length ≤ c) (hm : (r.m == [71, 69, 84]) = false) (hG : (getF r.fs rgL).2 = true)
    (h : ∀ w', Kp [] w w' → R (.returned (.bool false)) w') :
    Calls Tryd.prog 22 #[.agg #[.string (S r.m), .string (S r.t), .int .i64 r.minor, .slice A r.fs.length c, .bool r.close], .int .i64 v, .int .i64 mt] w R := by
  have H := Lib.hid h
  have HR := Lib.hid hr
  obtain ⟨gm, hgm⟩ : ∃ x, (getF r.fs rgL).1 = x := ⟨_, rfl⟩
  have HGm : Hid (∀ (R : Ending → World → Prop) (w1 : World), Rd w1 [] A (r.fs.flatMap fldC) → (∀ w', Kp [] w1 w' → R (.returned (.tuple #[.string (S gm), .bool true])) w') → Calls Tryd.prog 15 #[.agg #[.string (S r.m), .string (S r.t), .int .i64 r.minor, .slice A r.fs.length c, .bool r.close], .string ⟨#[114, 97, 110, 103, 101]⟩] w1 R) := Lib.hid (fun R w1 h1 h => get_any r.fs rgL r.m r.t r.minor r.close w1 h1 (by omega) hc (by rw [hG, hgm]; exact h))
  clear h hr hG hgm
  go_enter Tryd.func22, Tryd.ntmps22
  go_upto_region 1 with (fail)
  refine gen_worldC (fun W => Kp [] w W ∧ Bk W w.heap.size 41 (reqC r A c)) ⟨(Kp.refl _ _).alloc _, (Bk.new' _ _ _).cast rfl⟩ ?_
  rintro W ⟨kW, bW⟩
  obtain ⟨g, hgg⟩ : ∃ g, w.heap.size = g := ⟨_, rfl⟩
  rw [hgg] at bW ⊢
  have K0 := Lib.hid kW
  have HBX : Hid (∀ w', Kp [] W w' → (w'.cell? ⟨g, 0, none⟩ = some (.string (S r.m)) ∧ w'.cell? ⟨g, 1, none⟩ = some (.string (S r.t)) ∧ w'.cell? ⟨g, 2, none⟩ = some (.int .i64 r.minor) ∧ w'.cell? ⟨g, 3, none⟩ = some (.slice A r.fs.length c) ∧ w'.cell? ⟨g, 4, none⟩ = some (.bool r.close))) := Lib.hid (fun w' k' => (bk5 (bW.kp k' (by simp))).1)
  obtain ⟨p0, p1, p2, p3, p4⟩ := HBX.out W (Kp.refl _ _)
  have KR := Lib.hid (Kp.refl [] W)
  clear kW bW hgg
  go_wp2_with (go_at_call 15; ((refine HGm.out _ _ (HR.out.kp K0.out (by simp)) ?_); intro w1 k1; have K1 := Lib.hid (KR.out.trans k1); obtain ⟨p10, p11, p12, p13, p14⟩ := HBX.out w1 K1.out; clear k1))
  exact H.out _ (K0.out.trans K1.out)
end Go.Proofs.YtjjigngighneeaaDoor
