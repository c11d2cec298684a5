/- RequestFields walked. -/
import Derived.Test.YtjjigngighneeaaDoorReqAl
import Derived.Test.YtjjigngighneeaaDoorReqRf
import Derived.Deep.RegionHeld3
namespace Go.Proofs.YtjjigngighneeaaDoor
open Go.RowKit Go.Shelf
set_option linter.unusedVariables false
set_option linter.unusedSimpArgs false
set_option maxRecDepth 100000

set_option maxHeartbeats 8000000 in
theorem fields_walk {R : Ending → World → Prop} (r : Req) (name : List UInt8) {A : Option Addr} {n c : Nat} (w : World) (hm : Ml w) (hr : Rd w [] A (r.fs.flatMap fldC)) (hn : r.fs.length = n) (hn2 : n ≤ 9223372036854775807)
    (hal : (allF r.fs name).length ≤ 100000000) (hvl : ∀ x ∈ r.fs, x.2.length ≤ 100000000) (h : ∀ w', Kp [] w w' → R (.returned (.bool true)) w') :
    Calls Tryd.prog 4 #[.agg #[.string (S r.m), .string (S r.t), .int .i64 r.minor, .slice A n c, .bool r.close], .string (S name)] w R := by
  have H := Lib.hid h
  have HR := Lib.hid hr
  subst hn
  clear h hr
  by_cases hc : r.fs.length ≤ 100
  · obtain ⟨gv, gb, hg⟩ : ∃ v b, getF r.fs name = (v, b) := ⟨_, _, rfl⟩
    obtain ⟨al, hal2⟩ : ∃ a, allF r.fs name = a := ⟨_, rfl⟩
    have HOf : Hid (∀ (R : Ending → World → Prop) (w1 : World), Rd w1 [] A (r.fs.flatMap fldC) → (∀ A' c' w', Kp [] w1 w' → Rd w' [] A' (r.fs.flatMap fldC) → r.fs.length ≤ c' → R (.returned (.agg #[.string (S r.m), .string (S r.t), .int .i64 r.minor, .slice A' r.fs.length c', .bool r.close])) w') → Calls Tryd.prog 14 #[.agg #[.string (S r.m), .string (S r.t), .int .i64 r.minor, .slice A r.fs.length c, .bool r.close]] w1 R) := Lib.hid (fun R w1 h1 h => of24_any r w1 h1 (by omega) (fun A' c' w' a b _ d => h A' c' w' a b d))
    have HGet : Hid (∀ (R : Ending → World → Prop) (w1 : World) (A' : Option Addr) (c' : Nat), Rd w1 [] A' (r.fs.flatMap fldC) → r.fs.length ≤ c' → (∀ w', Kp [] w1 w' → R (.returned (.tuple #[.string (S gv), .bool gb])) w') → Calls Tryd.prog 15 #[.agg #[.string (S r.m), .string (S r.t), .int .i64 r.minor, .slice A' r.fs.length c', .bool r.close], .string (S name)] w1 R) := Lib.hid (fun R w1 A' c' h1 h2 h => get_any r.fs name r.m r.t r.minor r.close w1 h1 (by omega) h2 (by rw [hg]; exact h))
    have HrGet : Hid (∀ (R : Ending → World → Prop) (w1 : World), Rd w1 [] A (r.fs.flatMap fldC) → (∀ w', Kp [] w1 w' → R (.returned (.tuple #[.string (S gv), .bool gb])) w') → Calls Tryd.prog 16 #[.agg #[.string (S r.m), .string (S r.t), .int .i64 r.minor, .slice A r.fs.length c, .bool r.close], .string (S name)] w1 R) := Lib.hid (fun R w1 h1 h => rget24_any r name w1 h1 (by omega) (by rw [hg]; exact h))
    have HAll : Hid (∀ (R : Ending → World → Prop) (w1 : World) (A' : Option Addr) (c' : Nat), Rd w1 [] A' (r.fs.flatMap fldC) → (∀ w', Kp [] w1 w' → R (.returned (.string (S al))) w') → Calls Tryd.prog 17 #[.agg #[.string (S r.m), .string (S r.t), .int .i64 r.minor, .slice A' r.fs.length c', .bool r.close], .string (S name)] w1 R) := Lib.hid (fun R w1 A' c' h1 h => all_any' r.fs name r.m r.t r.minor r.close w1 h1 (by omega) hal (by rw [hal2]; exact h))
    have HrAll : Hid (∀ (R : Ending → World → Prop) (w1 : World), Rd w1 [] A (r.fs.flatMap fldC) → (∀ w', Kp [] w1 w' → R (.returned (.string (S al))) w') → Calls Tryd.prog 18 #[.agg #[.string (S r.m), .string (S r.t), .int .i64 r.minor, .slice A r.fs.length c, .bool r.close], .string (S name)] w1 R) := Lib.hid (fun R w1 h1 h => rall24_any r name w1 h1 (by omega) hal hvl (by rw [hal2]; exact h))
    clear hg hal2 hal hvl
    go_enter Tryd.func4, Tryd.ntmps4
    go_upto_region 1 with (fail)
    refine gen_world (fun W => Kp [] w W ∧ Bk W w.heap.size 37 (reqC r A c)) ⟨(Kp.refl _ _).alloc _, (Bk.new' _ _ _).cast rfl⟩ ?_
    rintro W ⟨kW, bW⟩
    obtain ⟨g, hgg⟩ : ∃ g, w.heap.size = g := ⟨_, rfl⟩
    rw [hgg] at bW ⊢
    have KW := Lib.hid kW
    have BW := Lib.hid bW
    clear kW bW hgg
    go_upto_region 3 with (go_at_call 13; ((refine alive24_any _ (hm.kp KW.out) ?_); intro w1 k1; have K1 := Lib.hid (KW.out.trans k1); have B1 := Lib.hid (BW.out.kp k1 (by simp)); clear k1))
    obtain ⟨⟨p0, p1, p2, p3, p4⟩, _⟩ := bk5 B1.out
    go_upto_region 6 with (first | (go_at_call 14; ((refine HOf.out _ _ (HR.out.kp K1.out (by simp)) ?_); intro A2 c2 w2 k2 rd2 nc2; have K2 := Lib.hid (K1.out.trans k2); have B2 := Lib.hid (B1.out.kp k2 (by simp)); clear k2)) | (go_at_call 15; ((refine HGet.out _ _ _ _ rd2 nc2 ?_); intro w3 k3; have K3 := Lib.hid (K2.out.trans k3); have B3 := Lib.hid (B2.out.kp k3 (by simp)); clear k3)))
    obtain ⟨⟨q0, q1, q2, q3, q4⟩, _⟩ := bk5 B3.out
    go_upto_region 7 with (go_at_call 16; ((refine HrGet.out _ _ (HR.out.kp K3.out (by simp)) ?_); intro w4 k4; have K4 := Lib.hid (K3.out.trans k4); have B4 := Lib.hid (B3.out.kp k4 (by simp)); clear k4))
    have HRX : Hid (∀ w', Kp [] w4 w' → Rd w' [] A (r.fs.flatMap fldC)) := Lib.hid (fun w' k' => HR.out.kp (K4.out.trans k') (by simp))
    have HSK : Hid (∀ w', Kp [] w4 w' → (w'.cell? ⟨g, 0, none⟩ = some (.string (S r.m)) ∧ w'.cell? ⟨g, 1, none⟩ = some (.string (S r.t)) ∧ w'.cell? ⟨g, 2, none⟩ = some (.int .i64 r.minor) ∧ w'.cell? ⟨g, 3, none⟩ = some (.slice A r.fs.length c) ∧ w'.cell? ⟨g, 4, none⟩ = some (.bool r.close))) := Lib.hid (fun w' k' => (bk5 (B4.out.kp k' (by simp))).1)
    have HOf2 : Hid (∀ (R : Ending → World → Prop) (w1 : World), Kp [] w4 w1 → (∀ A' c' w', Kp [] w1 w' → Kp [] w4 w' → Rd w' [] A' (r.fs.flatMap fldC) → R (.returned (.agg #[.string (S r.m), .string (S r.t), .int .i64 r.minor, .slice A' r.fs.length c', .bool r.close])) w') → Calls Tryd.prog 14 #[.agg #[.string (S r.m), .string (S r.t), .int .i64 r.minor, .slice A r.fs.length c, .bool r.close]] w1 R) := Lib.hid (fun R w1 k h => HOf.out R w1 (HRX.out _ k) (fun A' c' w' a b _ => h A' c' w' a (k.trans a) b))
    have HAll2 : Hid (∀ (R : Ending → World → Prop) (w1 : World) (A' : Option Addr) (c' : Nat), Kp [] w4 w1 → Rd w1 [] A' (r.fs.flatMap fldC) → (∀ w', Kp [] w1 w' → Kp [] w4 w' → R (.returned (.string (S al))) w') → Calls Tryd.prog 17 #[.agg #[.string (S r.m), .string (S r.t), .int .i64 r.minor, .slice A' r.fs.length c', .bool r.close], .string (S name)] w1 R) := Lib.hid (fun R w1 A' c' k h1 h => HAll.out R w1 A' c' h1 (fun w' a => h w' a (k.trans a)))
    have HrAll2 : Hid (∀ (R : Ending → World → Prop) (w1 : World), Kp [] w4 w1 → (∀ w', Kp [] w1 w' → Kp [] w4 w' → R (.returned (.string (S al))) w') → Calls Tryd.prog 18 #[.agg #[.string (S r.m), .string (S r.t), .int .i64 r.minor, .slice A r.fs.length c, .bool r.close], .string (S name)] w1 R) := Lib.hid (fun R w1 k h => HrAll.out R w1 (HRX.out _ k) (fun w' a => h w' a (k.trans a)))
    obtain ⟨z0, z1, z2, z3, z4⟩ := HSK.out w4 (Kp.refl _ _)
    have gbb : (gb == gb) = true := by simp
    have gvv : (gv == gv) = true := by simp
    have gaa : (al == al) = true := by simp
    clear rd2 nc2 p0 p1 p2 p3 p4 q0 q1 q2 q3 q4
    have HF : Hid (∀ w', Kp [] w4 w' → R (.returned (.bool true)) w') := Lib.hid (fun w' k => H.out _ (K4.out.trans k))
    go_region_held3 (fun w' => w'.cell? ⟨g, 0, none⟩ = some (.string (S r.m)) ∧ w'.cell? ⟨g, 1, none⟩ = some (.string (S r.t)) ∧ w'.cell? ⟨g, 2, none⟩ = some (.int .i64 r.minor) ∧ w'.cell? ⟨g, 3, none⟩ = some (.slice A r.fs.length c) ∧ w'.cell? ⟨g, 4, none⟩ = some (.bool r.close)) (first | exact HSK.out _ (by assumption) | exact HSK.out _ (Kp.refl [] _).drew) (first | (go_simp; go_at_call 14; (refine HOf2.out _ _ (by first | assumption | exact (Kp.refl [] _).drew) ?_); intro A7 c7 w7 j7 k7 rd7) | (go_simp; go_at_call 17; (refine HAll2.out _ _ _ _ (by assumption) (by first | exact rd7 | exact rd7.kp j9 (by simp)) ?_); intro w8 j8 k8) | (go_simp; go_at_call 18; (refine HrAll2.out _ _ (by first | assumption | exact (Kp.refl [] _).drew) ?_); intro w9 j9 k9))
    all_goals
      go_wp2
      first | exact HF.out _ k9 | exact HF.out _ k8 | exact HF.out _ k7
  · have hlt : 100 < r.fs.length := by omega
    go_enter Tryd.func4, Tryd.ntmps4
    go_upto_region 1 with (fail)
    refine gen_world (fun W => Kp [] w W ∧ Bk W w.heap.size 37 (reqC r A c)) ⟨(Kp.refl _ _).alloc _, (Bk.new' _ _ _).cast rfl⟩ ?_
    rintro W ⟨kW, bW⟩
    obtain ⟨g, hgg⟩ : ∃ g, w.heap.size = g := ⟨_, rfl⟩
    rw [hgg] at bW ⊢
    have KW := Lib.hid kW
    have BW := Lib.hid bW
    clear kW bW hgg
    go_upto_region 3 with (go_at_call 13; ((refine alive24_any _ (hm.kp KW.out) ?_); intro w1 k1; have K1 := Lib.hid (KW.out.trans k1); have B1 := Lib.hid (BW.out.kp k1 (by simp)); clear k1))
    obtain ⟨⟨p0, p1, p2, p3, p4⟩, _⟩ := bk5 B1.out
    go_wp2
    exact H.out _ K1.out
end Go.Proofs.YtjjigngighneeaaDoor
