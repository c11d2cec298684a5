/- Package cond: Check of a request without dates. -/
import Derived.Test.YtjjigngighneeaaDoorCond2
import Derived.Test.YtjjigngighneeaaDoorReqOf
namespace Go.Proofs.YtjjigngighneeaaDoor
open Go.RowKit Go.Shelf
set_option linter.unusedVariables false
set_option linter.unusedSimpArgs false
set_option maxRecDepth 100000

def imL : List UInt8 := [105, 102, 45, 109, 97, 116, 99, 104]
def inL : List UInt8 := [105, 102, 45, 110, 111, 110, 101, 45, 109, 97, 116, 99, 104]
def iuL : List UInt8 := [105, 102, 45, 117, 110, 109, 111, 100, 105, 102, 105, 101, 100, 45, 115, 105, 110, 99, 101]
def ifL : List UInt8 := [105, 102, 45, 109, 111, 100, 105, 102, 105, 101, 100, 45, 115, 105, 110, 99, 101]
set_option maxHeartbeats 2000000 in
theorem date_no {R : Ending → World → Prop} (r : Req) (name : List UInt8) {A : Option Addr} {c : Nat} (w : World) (hr : Rd w [] A (r.fs.flatMap fldC)) (hn : r.fs.length ≤ 100) (hc : r.fs.length ≤ c) (hg : getF r.fs name = ([], false))
    (h : ∀ w', Kp [] w w' → R (.returned (.tuple #[.int .i64 0, .bool false])) w') :
    Calls Tryd.prog 37 #[.agg #[.string (S r.m), .string (S r.t), .int .i64 r.minor, .slice A r.fs.length c, .bool r.close], .string (S name)] w R := by
  have H := Lib.hid h
  have HR := Lib.hid hr
  have HG : Hid (∀ (R : Ending → World → Prop) (w1 : World), Rd w1 [] A (r.fs.flatMap fldC) → (∀ w', Kp [] w1 w' → R (.returned (.tuple #[.string (S []), .bool false])) w') → Calls Tryd.prog 15 #[.agg #[.string (S r.m), .string (S r.t), .int .i64 r.minor, .slice A r.fs.length c, .bool r.close], .string (S name)] w1 R) := Lib.hid (fun R w1 h1 h => get_any r.fs name r.m r.t r.minor r.close w1 h1 (by omega) hc (by rw [hg]; exact h))
  clear h hr hg
  go_enter Tryd.func37, Tryd.ntmps37
  go_wp2_with (go_at_call 15; ((refine HG.out _ _ (HR.out.kp ((Kp.refl [] w).alloc _) (by simp)) ?_); intro w1 k1))
  first | exact H.out _ (((Kp.refl _ _).alloc _).trans k1) | exact bodyPost_ret (v := .tuple #[.int .i64 0, .bool false]) (by simp [results, Tryd.results37, go_sem]) rfl (H.out _ (((Kp.refl _ _).alloc _).trans k1))
set_option maxHeartbeats 8000000 in
theorem check_m {R : Ending → World → Prop} (r : Req) (v mt : Int) {A : Option Addr} {c : Nat} (w : World) (hr : Rd w [] A (r.fs.flatMap fldC)) (hn : r.fs.length ≤ 100) (hc : r.fs.length ≤ c) (hv : 0 ≤ v ∧ v ≤ 4294967295) (hmt : 0 ≤ mt ∧ mt ≤ 4294967295) (hw : Lw w)
    (hu : getF r.fs iuL = ([], false)) (hf : getF r.fs ifL = ([], false)) (hM : (getF r.fs imL).2 = true) (hN : (getF r.fs inL).2 = false) (hl1 : (allF r.fs imL).length ≤ 100000) (hl2 : (allF r.fs inL).length ≤ 100000)
    (hb1 : matchM (allF r.fs imL) (tagL v mt) false = true)
    (h : ∀ w', Kp [] w w' → R (.returned (.int .i64 0)) w') :
    Calls Tryd.prog 21 #[.agg #[.string (S r.m), .string (S r.t), .int .i64 r.minor, .slice A r.fs.length c, .bool r.close], .bool true, .int .i64 v, .int .i64 mt] w R := by
  have H := Lib.hid h
  have HR := Lib.hid hr
  obtain ⟨t, ht⟩ : ∃ t, tagL v mt = t := ⟨_, rfl⟩
  have htl : t.length ≤ 100000 := by
    have e1 := itoaL_len v (by omega) (by omega)
    have e2 := itoaL_len mt (by omega) (by omega)
    rw [← ht]; unfold tagL; simp; omega
  obtain ⟨gm, hgm⟩ : ∃ x, (getF r.fs imL).1 = x := ⟨_, rfl⟩
  obtain ⟨gn, hgn⟩ : ∃ x, (getF r.fs inL).1 = x := ⟨_, rfl⟩
  have HT : Hid (∀ (R : Ending → World → Prop) (w1 : World), Lw w1 → (∀ w', Kp [] w1 w' → R (.returned (.string (S t))) w') → Calls Tryd.prog 20 #[.int .i64 v, .int .i64 mt] w1 R) := Lib.hid (fun R w1 h1 h => tag_any v mt w1 hv hmt h1 (by rw [ht]; exact h))
  have HGm : Hid (∀ (R : Ending → World → Prop) (w1 : World), Rd w1 [] A (r.fs.flatMap fldC) → (∀ w', Kp [] w1 w' → R (.returned (.tuple #[.string (S gm), .bool true])) w') → Calls Tryd.prog 15 #[.agg #[.string (S r.m), .string (S r.t), .int .i64 r.minor, .slice A r.fs.length c, .bool r.close], .string ⟨#[105, 102, 45, 109, 97, 116, 99, 104]⟩] w1 R) := Lib.hid (fun R w1 h1 h => get_any r.fs imL r.m r.t r.minor r.close w1 h1 (by omega) hc (by rw [hM, hgm]; exact h))
  have HGn : Hid (∀ (R : Ending → World → Prop) (w1 : World), Rd w1 [] A (r.fs.flatMap fldC) → (∀ w', Kp [] w1 w' → R (.returned (.tuple #[.string (S gn), .bool false])) w') → Calls Tryd.prog 15 #[.agg #[.string (S r.m), .string (S r.t), .int .i64 r.minor, .slice A r.fs.length c, .bool r.close], .string ⟨#[105, 102, 45, 110, 111, 110, 101, 45, 109, 97, 116, 99, 104]⟩] w1 R) := Lib.hid (fun R w1 h1 h => get_any r.fs inL r.m r.t r.minor r.close w1 h1 (by omega) hc (by rw [hN, hgn]; exact h))
  have HDu : Hid (∀ (R : Ending → World → Prop) (w1 : World), Rd w1 [] A (r.fs.flatMap fldC) → (∀ w', Kp [] w1 w' → R (.returned (.tuple #[.int .i64 0, .bool false])) w') → Calls Tryd.prog 37 #[.agg #[.string (S r.m), .string (S r.t), .int .i64 r.minor, .slice A r.fs.length c, .bool r.close], .string ⟨#[105, 102, 45, 117, 110, 109, 111, 100, 105, 102, 105, 101, 100, 45, 115, 105, 110, 99, 101]⟩] w1 R) := Lib.hid (fun R w1 h1 h => date_no r iuL w1 h1 hn hc hu h)
  have HDf : Hid (∀ (R : Ending → World → Prop) (w1 : World), Rd w1 [] A (r.fs.flatMap fldC) → (∀ w', Kp [] w1 w' → R (.returned (.tuple #[.int .i64 0, .bool false])) w') → Calls Tryd.prog 37 #[.agg #[.string (S r.m), .string (S r.t), .int .i64 r.minor, .slice A r.fs.length c, .bool r.close], .string ⟨#[105, 102, 45, 109, 111, 100, 105, 102, 105, 101, 100, 45, 115, 105, 110, 99, 101]⟩] w1 R) := Lib.hid (fun R w1 h1 h => date_no r ifL w1 h1 hn hc hf h)
  obtain ⟨am, ham⟩ : ∃ x, allF r.fs imL = x := ⟨_, rfl⟩
  have HAm : Hid (∀ (R : Ending → World → Prop) (w1 : World), Rd w1 [] A (r.fs.flatMap fldC) → (∀ w', Kp [] w1 w' → R (.returned (.string (S am))) w') → Calls Tryd.prog 17 #[.agg #[.string (S r.m), .string (S r.t), .int .i64 r.minor, .slice A r.fs.length c, .bool r.close], .string ⟨#[105, 102, 45, 109, 97, 116, 99, 104]⟩] w1 R) := Lib.hid (fun R w1 h1 h => all_any' r.fs imL r.m r.t r.minor r.close w1 h1 (by omega) (by omega) (by rw [ham]; exact h))
  have HMm : Hid (∀ (R : Ending → World → Prop) (w1 : World), Ml w1 → (∀ w', Kp [] w1 w' → R (.returned (.bool true)) w') → Calls Tryd.prog 34 #[.string (S am), .string (S t), .bool false] w1 R) := Lib.hid (fun R w1 h1 h => match_any am t false w1 (by rw [← ham]; exact hl1) htl h1 (by rw [← ham, ← ht, hb1]; exact h))
  clear hb1 ham
  clear h hr hu hf hM hN hl1 hl2 hgm hgn ht hv hmt
  go_enter Tryd.func21, Tryd.ntmps21
  go_upto_region 1 with (fail)
  refine gen_world (fun W => Kp [] w W ∧ Bk W w.heap.size 41 (reqC r A c)) ⟨(Kp.refl _ _).alloc _, (Bk.new' _ _ _).cast rfl⟩ ?_
  rintro W ⟨kW, bW⟩
  obtain ⟨g, hgg⟩ : ∃ g, w.heap.size = g := ⟨_, rfl⟩
  rw [hgg] at bW ⊢
  have K0 := Lib.hid kW
  have B0 := Lib.hid bW
  clear kW bW hgg
  cases q1 : (r.m == [71, 69, 84]) <;> cases q2 : (r.m == [72, 69, 65, 68])
  all_goals
    go_upto_region 2 with (go_at_call 20; ((refine HT.out _ _ (hw.kp K0.out) ?_); intro w1 k1; have K1 := Lib.hid (K0.out.trans k1); have B1 := Lib.hid (B0.out.kp k1 (by simp)); clear k1))
    obtain ⟨⟨p10, p11, p12, p13, p14⟩, _⟩ := bk5 B1.out
    go_upto_region 4 with (go_at_call 15; ((refine HGm.out _ _ (HR.out.kp K1.out (by simp)) ?_); intro w2 k2; have K2 := Lib.hid (K1.out.trans k2); have B2 := Lib.hid (B1.out.kp k2 (by simp)); clear k2))
    obtain ⟨⟨p20, p21, p22, p23, p24⟩, _⟩ := bk5 B2.out
    go_upto_region 5 with (go_at_call 15; ((refine HGn.out _ _ (HR.out.kp K2.out (by simp)) ?_); intro w3 k3; have K3 := Lib.hid (K2.out.trans k3); have B3 := Lib.hid (B2.out.kp k3 (by simp)); clear k3))
    obtain ⟨⟨p30, p31, p32, p33, p34⟩, _⟩ := bk5 B3.out
    go_upto_region 6 with (go_at_call 37; ((refine HDu.out _ _ (HR.out.kp K3.out (by simp)) ?_); intro w4 k4; have K4 := Lib.hid (K3.out.trans k4); have B4 := Lib.hid (B3.out.kp k4 (by simp)); clear k4))
    obtain ⟨⟨p40, p41, p42, p43, p44⟩, _⟩ := bk5 B4.out
    go_upto_region 7 with (go_at_call 37; ((refine HDf.out _ _ (HR.out.kp K4.out (by simp)) ?_); intro w5 k5; have K5 := Lib.hid (K4.out.trans k5); have B5 := Lib.hid (B4.out.kp k5 (by simp)); clear k5))
    obtain ⟨⟨p50, p51, p52, p53, p54⟩, _⟩ := bk5 B5.out
    go_wp2_with (first | (go_at_call 17; ((refine HAm.out _ _ (HR.out.kp K5.out (by simp)) ?_); intro w6 k6; have K6 := Lib.hid (K5.out.trans k6); have B6 := Lib.hid (B5.out.kp k6 (by simp)); clear k6)) | (go_at_call 34; ((refine HMm.out _ _ (hw.kp K6.out).ml ?_); intro w7 k7; have K7 := Lib.hid (K6.out.trans k7); clear k7)))
    exact H.out _ K7.out
set_option maxHeartbeats 8000000 in
theorem check_m0 {R : Ending → World → Prop} (r : Req) (v mt : Int) {A : Option Addr} {c : Nat} (w : World) (hr : Rd w [] A (r.fs.flatMap fldC)) (hn : r.fs.length ≤ 100) (hc : r.fs.length ≤ c) (hv : 0 ≤ v ∧ v ≤ 4294967295) (hmt : 0 ≤ mt ∧ mt ≤ 4294967295) (hw : Lw w)
    (hu : getF r.fs iuL = ([], false)) (hf : getF r.fs ifL = ([], false)) (hM : (getF r.fs imL).2 = true) (hN : (getF r.fs inL).2 = false) (hl1 : (allF r.fs imL).length ≤ 100000) (hl2 : (allF r.fs inL).length ≤ 100000)
    (h : ∀ w', Kp [] w w' → R (.returned (.int .i64 412)) w') :
    Calls Tryd.prog 21 #[.agg #[.string (S r.m), .string (S r.t), .int .i64 r.minor, .slice A r.fs.length c, .bool r.close], .bool false, .int .i64 v, .int .i64 mt] w R := by
  have H := Lib.hid h
  have HR := Lib.hid hr
  obtain ⟨t, ht⟩ : ∃ t, tagL v mt = t := ⟨_, rfl⟩
  have htl : t.length ≤ 100000 := by
    have e1 := itoaL_len v (by omega) (by omega)
    have e2 := itoaL_len mt (by omega) (by omega)
    rw [← ht]; unfold tagL; simp; omega
  obtain ⟨gm, hgm⟩ : ∃ x, (getF r.fs imL).1 = x := ⟨_, rfl⟩
  obtain ⟨gn, hgn⟩ : ∃ x, (getF r.fs inL).1 = x := ⟨_, rfl⟩
  have HT : Hid (∀ (R : Ending → World → Prop) (w1 : World), Lw w1 → (∀ w', Kp [] w1 w' → R (.returned (.string (S t))) w') → Calls Tryd.prog 20 #[.int .i64 v, .int .i64 mt] w1 R) := Lib.hid (fun R w1 h1 h => tag_any v mt w1 hv hmt h1 (by rw [ht]; exact h))
  have HGm : Hid (∀ (R : Ending → World → Prop) (w1 : World), Rd w1 [] A (r.fs.flatMap fldC) → (∀ w', Kp [] w1 w' → R (.returned (.tuple #[.string (S gm), .bool true])) w') → Calls Tryd.prog 15 #[.agg #[.string (S r.m), .string (S r.t), .int .i64 r.minor, .slice A r.fs.length c, .bool r.close], .string ⟨#[105, 102, 45, 109, 97, 116, 99, 104]⟩] w1 R) := Lib.hid (fun R w1 h1 h => get_any r.fs imL r.m r.t r.minor r.close w1 h1 (by omega) hc (by rw [hM, hgm]; exact h))
  have HGn : Hid (∀ (R : Ending → World → Prop) (w1 : World), Rd w1 [] A (r.fs.flatMap fldC) → (∀ w', Kp [] w1 w' → R (.returned (.tuple #[.string (S gn), .bool false])) w') → Calls Tryd.prog 15 #[.agg #[.string (S r.m), .string (S r.t), .int .i64 r.minor, .slice A r.fs.length c, .bool r.close], .string ⟨#[105, 102, 45, 110, 111, 110, 101, 45, 109, 97, 116, 99, 104]⟩] w1 R) := Lib.hid (fun R w1 h1 h => get_any r.fs inL r.m r.t r.minor r.close w1 h1 (by omega) hc (by rw [hN, hgn]; exact h))
  have HDu : Hid (∀ (R : Ending → World → Prop) (w1 : World), Rd w1 [] A (r.fs.flatMap fldC) → (∀ w', Kp [] w1 w' → R (.returned (.tuple #[.int .i64 0, .bool false])) w') → Calls Tryd.prog 37 #[.agg #[.string (S r.m), .string (S r.t), .int .i64 r.minor, .slice A r.fs.length c, .bool r.close], .string ⟨#[105, 102, 45, 117, 110, 109, 111, 100, 105, 102, 105, 101, 100, 45, 115, 105, 110, 99, 101]⟩] w1 R) := Lib.hid (fun R w1 h1 h => date_no r iuL w1 h1 hn hc hu h)
  have HDf : Hid (∀ (R : Ending → World → Prop) (w1 : World), Rd w1 [] A (r.fs.flatMap fldC) → (∀ w', Kp [] w1 w' → R (.returned (.tuple #[.int .i64 0, .bool false])) w') → Calls Tryd.prog 37 #[.agg #[.string (S r.m), .string (S r.t), .int .i64 r.minor, .slice A r.fs.length c, .bool r.close], .string ⟨#[105, 102, 45, 109, 111, 100, 105, 102, 105, 101, 100, 45, 115, 105, 110, 99, 101]⟩] w1 R) := Lib.hid (fun R w1 h1 h => date_no r ifL w1 h1 hn hc hf h)
  clear h hr hu hf hM hN hl1 hl2 hgm hgn ht hv hmt
  go_enter Tryd.func21, Tryd.ntmps21
  go_upto_region 1 with (fail)
  refine gen_world (fun W => Kp [] w W ∧ Bk W w.heap.size 41 (reqC r A c)) ⟨(Kp.refl _ _).alloc _, (Bk.new' _ _ _).cast rfl⟩ ?_
  rintro W ⟨kW, bW⟩
  obtain ⟨g, hgg⟩ : ∃ g, w.heap.size = g := ⟨_, rfl⟩
  rw [hgg] at bW ⊢
  have K0 := Lib.hid kW
  have B0 := Lib.hid bW
  clear kW bW hgg
  cases q1 : (r.m == [71, 69, 84]) <;> cases q2 : (r.m == [72, 69, 65, 68])
  all_goals
    go_upto_region 2 with (go_at_call 20; ((refine HT.out _ _ (hw.kp K0.out) ?_); intro w1 k1; have K1 := Lib.hid (K0.out.trans k1); have B1 := Lib.hid (B0.out.kp k1 (by simp)); clear k1))
    obtain ⟨⟨p10, p11, p12, p13, p14⟩, _⟩ := bk5 B1.out
    go_upto_region 4 with (go_at_call 15; ((refine HGm.out _ _ (HR.out.kp K1.out (by simp)) ?_); intro w2 k2; have K2 := Lib.hid (K1.out.trans k2); have B2 := Lib.hid (B1.out.kp k2 (by simp)); clear k2))
    obtain ⟨⟨p20, p21, p22, p23, p24⟩, _⟩ := bk5 B2.out
    go_upto_region 5 with (go_at_call 15; ((refine HGn.out _ _ (HR.out.kp K2.out (by simp)) ?_); intro w3 k3; have K3 := Lib.hid (K2.out.trans k3); have B3 := Lib.hid (B2.out.kp k3 (by simp)); clear k3))
    obtain ⟨⟨p30, p31, p32, p33, p34⟩, _⟩ := bk5 B3.out
    go_upto_region 6 with (go_at_call 37; ((refine HDu.out _ _ (HR.out.kp K3.out (by simp)) ?_); intro w4 k4; have K4 := Lib.hid (K3.out.trans k4); have B4 := Lib.hid (B3.out.kp k4 (by simp)); clear k4))
    obtain ⟨⟨p40, p41, p42, p43, p44⟩, _⟩ := bk5 B4.out
    go_upto_region 7 with (go_at_call 37; ((refine HDf.out _ _ (HR.out.kp K4.out (by simp)) ?_); intro w5 k5; have K5 := Lib.hid (K4.out.trans k5); have B5 := Lib.hid (B4.out.kp k5 (by simp)); clear k5))
    obtain ⟨⟨p50, p51, p52, p53, p54⟩, _⟩ := bk5 B5.out
    go_wp2
    exact H.out _ K5.out
set_option maxHeartbeats 8000000 in
theorem check_n0 {R : Ending → World → Prop} (r : Req) (v mt : Int) {A : Option Addr} {c : Nat} (w : World) (hr : Rd w [] A (r.fs.flatMap fldC)) (hn : r.fs.length ≤ 100) (hc : r.fs.length ≤ c) (hv : 0 ≤ v ∧ v ≤ 4294967295) (hmt : 0 ≤ mt ∧ mt ≤ 4294967295) (hw : Lw w)
    (hu : getF r.fs iuL = ([], false)) (hf : getF r.fs ifL = ([], false)) (hM : (getF r.fs imL).2 = false) (hN : (getF r.fs inL).2 = true) (hl1 : (allF r.fs imL).length ≤ 100000) (hl2 : (allF r.fs inL).length ≤ 100000)
    (h : ∀ w', Kp [] w w' → R (.returned (.int .i64 0)) w') :
    Calls Tryd.prog 21 #[.agg #[.string (S r.m), .string (S r.t), .int .i64 r.minor, .slice A r.fs.length c, .bool r.close], .bool false, .int .i64 v, .int .i64 mt] w R := by
  have H := Lib.hid h
  have HR := Lib.hid hr
  obtain ⟨t, ht⟩ : ∃ t, tagL v mt = t := ⟨_, rfl⟩
  have htl : t.length ≤ 100000 := by
    have e1 := itoaL_len v (by omega) (by omega)
    have e2 := itoaL_len mt (by omega) (by omega)
    rw [← ht]; unfold tagL; simp; omega
  obtain ⟨gm, hgm⟩ : ∃ x, (getF r.fs imL).1 = x := ⟨_, rfl⟩
  obtain ⟨gn, hgn⟩ : ∃ x, (getF r.fs inL).1 = x := ⟨_, rfl⟩
  have HT : Hid (∀ (R : Ending → World → Prop) (w1 : World), Lw w1 → (∀ w', Kp [] w1 w' → R (.returned (.string (S t))) w') → Calls Tryd.prog 20 #[.int .i64 v, .int .i64 mt] w1 R) := Lib.hid (fun R w1 h1 h => tag_any v mt w1 hv hmt h1 (by rw [ht]; exact h))
  have HGm : Hid (∀ (R : Ending → World → Prop) (w1 : World), Rd w1 [] A (r.fs.flatMap fldC) → (∀ w', Kp [] w1 w' → R (.returned (.tuple #[.string (S gm), .bool false])) w') → Calls Tryd.prog 15 #[.agg #[.string (S r.m), .string (S r.t), .int .i64 r.minor, .slice A r.fs.length c, .bool r.close], .string ⟨#[105, 102, 45, 109, 97, 116, 99, 104]⟩] w1 R) := Lib.hid (fun R w1 h1 h => get_any r.fs imL r.m r.t r.minor r.close w1 h1 (by omega) hc (by rw [hM, hgm]; exact h))
  have HGn : Hid (∀ (R : Ending → World → Prop) (w1 : World), Rd w1 [] A (r.fs.flatMap fldC) → (∀ w', Kp [] w1 w' → R (.returned (.tuple #[.string (S gn), .bool true])) w') → Calls Tryd.prog 15 #[.agg #[.string (S r.m), .string (S r.t), .int .i64 r.minor, .slice A r.fs.length c, .bool r.close], .string ⟨#[105, 102, 45, 110, 111, 110, 101, 45, 109, 97, 116, 99, 104]⟩] w1 R) := Lib.hid (fun R w1 h1 h => get_any r.fs inL r.m r.t r.minor r.close w1 h1 (by omega) hc (by rw [hN, hgn]; exact h))
  have HDu : Hid (∀ (R : Ending → World → Prop) (w1 : World), Rd w1 [] A (r.fs.flatMap fldC) → (∀ w', Kp [] w1 w' → R (.returned (.tuple #[.int .i64 0, .bool false])) w') → Calls Tryd.prog 37 #[.agg #[.string (S r.m), .string (S r.t), .int .i64 r.minor, .slice A r.fs.length c, .bool r.close], .string ⟨#[105, 102, 45, 117, 110, 109, 111, 100, 105, 102, 105, 101, 100, 45, 115, 105, 110, 99, 101]⟩] w1 R) := Lib.hid (fun R w1 h1 h => date_no r iuL w1 h1 hn hc hu h)
  have HDf : Hid (∀ (R : Ending → World → Prop) (w1 : World), Rd w1 [] A (r.fs.flatMap fldC) → (∀ w', Kp [] w1 w' → R (.returned (.tuple #[.int .i64 0, .bool false])) w') → Calls Tryd.prog 37 #[.agg #[.string (S r.m), .string (S r.t), .int .i64 r.minor, .slice A r.fs.length c, .bool r.close], .string ⟨#[105, 102, 45, 109, 111, 100, 105, 102, 105, 101, 100, 45, 115, 105, 110, 99, 101]⟩] w1 R) := Lib.hid (fun R w1 h1 h => date_no r ifL w1 h1 hn hc hf h)
  clear h hr hu hf hM hN hl1 hl2 hgm hgn ht hv hmt
  go_enter Tryd.func21, Tryd.ntmps21
  go_upto_region 1 with (fail)
  refine gen_world (fun W => Kp [] w W ∧ Bk W w.heap.size 41 (reqC r A c)) ⟨(Kp.refl _ _).alloc _, (Bk.new' _ _ _).cast rfl⟩ ?_
  rintro W ⟨kW, bW⟩
  obtain ⟨g, hgg⟩ : ∃ g, w.heap.size = g := ⟨_, rfl⟩
  rw [hgg] at bW ⊢
  have K0 := Lib.hid kW
  have B0 := Lib.hid bW
  clear kW bW hgg
  cases q1 : (r.m == [71, 69, 84]) <;> cases q2 : (r.m == [72, 69, 65, 68])
  all_goals
    go_upto_region 2 with (go_at_call 20; ((refine HT.out _ _ (hw.kp K0.out) ?_); intro w1 k1; have K1 := Lib.hid (K0.out.trans k1); have B1 := Lib.hid (B0.out.kp k1 (by simp)); clear k1))
    obtain ⟨⟨p10, p11, p12, p13, p14⟩, _⟩ := bk5 B1.out
    go_upto_region 4 with (go_at_call 15; ((refine HGm.out _ _ (HR.out.kp K1.out (by simp)) ?_); intro w2 k2; have K2 := Lib.hid (K1.out.trans k2); have B2 := Lib.hid (B1.out.kp k2 (by simp)); clear k2))
    obtain ⟨⟨p20, p21, p22, p23, p24⟩, _⟩ := bk5 B2.out
    go_upto_region 5 with (go_at_call 15; ((refine HGn.out _ _ (HR.out.kp K2.out (by simp)) ?_); intro w3 k3; have K3 := Lib.hid (K2.out.trans k3); have B3 := Lib.hid (B2.out.kp k3 (by simp)); clear k3))
    obtain ⟨⟨p30, p31, p32, p33, p34⟩, _⟩ := bk5 B3.out
    go_upto_region 6 with (go_at_call 37; ((refine HDu.out _ _ (HR.out.kp K3.out (by simp)) ?_); intro w4 k4; have K4 := Lib.hid (K3.out.trans k4); have B4 := Lib.hid (B3.out.kp k4 (by simp)); clear k4))
    obtain ⟨⟨p40, p41, p42, p43, p44⟩, _⟩ := bk5 B4.out
    go_upto_region 7 with (go_at_call 37; ((refine HDf.out _ _ (HR.out.kp K4.out (by simp)) ?_); intro w5 k5; have K5 := Lib.hid (K4.out.trans k5); have B5 := Lib.hid (B4.out.kp k5 (by simp)); clear k5))
    obtain ⟨⟨p50, p51, p52, p53, p54⟩, _⟩ := bk5 B5.out
    go_wp2
    exact H.out _ K5.out
set_option maxHeartbeats 8000000 in
theorem check_nr {R : Ending → World → Prop} (r : Req) (v mt : Int) {A : Option Addr} {c : Nat} (w : World) (hr : Rd w [] A (r.fs.flatMap fldC)) (hn : r.fs.length ≤ 100) (hc : r.fs.length ≤ c) (hv : 0 ≤ v ∧ v ≤ 4294967295) (hmt : 0 ≤ mt ∧ mt ≤ 4294967295) (hw : Lw w)
    (hu : getF r.fs iuL = ([], false)) (hf : getF r.fs ifL = ([], false)) (hM : (getF r.fs imL).2 = false) (hN : (getF r.fs inL).2 = true) (hl1 : (allF r.fs imL).length ≤ 100000) (hl2 : (allF r.fs inL).length ≤ 100000)
    (hb2 : matchM (allF r.fs inL) (tagL v mt) true = true) (hq : (r.m == [71, 69, 84]) = true ∨ (r.m == [71, 69, 84]) = false ∧ (r.m == [72, 69, 65, 68]) = true)
    (h : ∀ w', Kp [] w w' → R (.returned (.int .i64 304)) w') :
    Calls Tryd.prog 21 #[.agg #[.string (S r.m), .string (S r.t), .int .i64 r.minor, .slice A r.fs.length c, .bool r.close], .bool true, .int .i64 v, .int .i64 mt] w R := by
  have H := Lib.hid h
  have HR := Lib.hid hr
  obtain ⟨t, ht⟩ : ∃ t, tagL v mt = t := ⟨_, rfl⟩
  have htl : t.length ≤ 100000 := by
    have e1 := itoaL_len v (by omega) (by omega)
    have e2 := itoaL_len mt (by omega) (by omega)
    rw [← ht]; unfold tagL; simp; omega
  obtain ⟨gm, hgm⟩ : ∃ x, (getF r.fs imL).1 = x := ⟨_, rfl⟩
  obtain ⟨gn, hgn⟩ : ∃ x, (getF r.fs inL).1 = x := ⟨_, rfl⟩
  have HT : Hid (∀ (R : Ending → World → Prop) (w1 : World), Lw w1 → (∀ w', Kp [] w1 w' → R (.returned (.string (S t))) w') → Calls Tryd.prog 20 #[.int .i64 v, .int .i64 mt] w1 R) := Lib.hid (fun R w1 h1 h => tag_any v mt w1 hv hmt h1 (by rw [ht]; exact h))
  have HGm : Hid (∀ (R : Ending → World → Prop) (w1 : World), Rd w1 [] A (r.fs.flatMap fldC) → (∀ w', Kp [] w1 w' → R (.returned (.tuple #[.string (S gm), .bool false])) w') → Calls Tryd.prog 15 #[.agg #[.string (S r.m), .string (S r.t), .int .i64 r.minor, .slice A r.fs.length c, .bool r.close], .string ⟨#[105, 102, 45, 109, 97, 116, 99, 104]⟩] w1 R) := Lib.hid (fun R w1 h1 h => get_any r.fs imL r.m r.t r.minor r.close w1 h1 (by omega) hc (by rw [hM, hgm]; exact h))
  have HGn : Hid (∀ (R : Ending → World → Prop) (w1 : World), Rd w1 [] A (r.fs.flatMap fldC) → (∀ w', Kp [] w1 w' → R (.returned (.tuple #[.string (S gn), .bool true])) w') → Calls Tryd.prog 15 #[.agg #[.string (S r.m), .string (S r.t), .int .i64 r.minor, .slice A r.fs.length c, .bool r.close], .string ⟨#[105, 102, 45, 110, 111, 110, 101, 45, 109, 97, 116, 99, 104]⟩] w1 R) := Lib.hid (fun R w1 h1 h => get_any r.fs inL r.m r.t r.minor r.close w1 h1 (by omega) hc (by rw [hN, hgn]; exact h))
  have HDu : Hid (∀ (R : Ending → World → Prop) (w1 : World), Rd w1 [] A (r.fs.flatMap fldC) → (∀ w', Kp [] w1 w' → R (.returned (.tuple #[.int .i64 0, .bool false])) w') → Calls Tryd.prog 37 #[.agg #[.string (S r.m), .string (S r.t), .int .i64 r.minor, .slice A r.fs.length c, .bool r.close], .string ⟨#[105, 102, 45, 117, 110, 109, 111, 100, 105, 102, 105, 101, 100, 45, 115, 105, 110, 99, 101]⟩] w1 R) := Lib.hid (fun R w1 h1 h => date_no r iuL w1 h1 hn hc hu h)
  have HDf : Hid (∀ (R : Ending → World → Prop) (w1 : World), Rd w1 [] A (r.fs.flatMap fldC) → (∀ w', Kp [] w1 w' → R (.returned (.tuple #[.int .i64 0, .bool false])) w') → Calls Tryd.prog 37 #[.agg #[.string (S r.m), .string (S r.t), .int .i64 r.minor, .slice A r.fs.length c, .bool r.close], .string ⟨#[105, 102, 45, 109, 111, 100, 105, 102, 105, 101, 100, 45, 115, 105, 110, 99, 101]⟩] w1 R) := Lib.hid (fun R w1 h1 h => date_no r ifL w1 h1 hn hc hf h)
  obtain ⟨an, han⟩ : ∃ x, allF r.fs inL = x := ⟨_, rfl⟩
  have HAn : Hid (∀ (R : Ending → World → Prop) (w1 : World), Rd w1 [] A (r.fs.flatMap fldC) → (∀ w', Kp [] w1 w' → R (.returned (.string (S an))) w') → Calls Tryd.prog 17 #[.agg #[.string (S r.m), .string (S r.t), .int .i64 r.minor, .slice A r.fs.length c, .bool r.close], .string ⟨#[105, 102, 45, 110, 111, 110, 101, 45, 109, 97, 116, 99, 104]⟩] w1 R) := Lib.hid (fun R w1 h1 h => all_any' r.fs inL r.m r.t r.minor r.close w1 h1 (by omega) (by omega) (by rw [han]; exact h))
  have HMn : Hid (∀ (R : Ending → World → Prop) (w1 : World), Ml w1 → (∀ w', Kp [] w1 w' → R (.returned (.bool true)) w') → Calls Tryd.prog 34 #[.string (S an), .string (S t), .bool true] w1 R) := Lib.hid (fun R w1 h1 h => match_any an t true w1 (by rw [← han]; exact hl2) htl h1 (by rw [← han, ← ht, hb2]; exact h))
  clear hb2 han
  clear h hr hu hf hM hN hl1 hl2 hgm hgn ht hv hmt
  go_enter Tryd.func21, Tryd.ntmps21
  go_upto_region 1 with (fail)
  refine gen_world (fun W => Kp [] w W ∧ Bk W w.heap.size 41 (reqC r A c)) ⟨(Kp.refl _ _).alloc _, (Bk.new' _ _ _).cast rfl⟩ ?_
  rintro W ⟨kW, bW⟩
  obtain ⟨g, hgg⟩ : ∃ g, w.heap.size = g := ⟨_, rfl⟩
  rw [hgg] at bW ⊢
  have K0 := Lib.hid kW
  have B0 := Lib.hid bW
  clear kW bW hgg
  rcases hq with q1 | ⟨q1, q2⟩
  all_goals
    go_upto_region 2 with (go_at_call 20; ((refine HT.out _ _ (hw.kp K0.out) ?_); intro w1 k1; have K1 := Lib.hid (K0.out.trans k1); have B1 := Lib.hid (B0.out.kp k1 (by simp)); clear k1))
    obtain ⟨⟨p10, p11, p12, p13, p14⟩, _⟩ := bk5 B1.out
    go_upto_region 4 with (go_at_call 15; ((refine HGm.out _ _ (HR.out.kp K1.out (by simp)) ?_); intro w2 k2; have K2 := Lib.hid (K1.out.trans k2); have B2 := Lib.hid (B1.out.kp k2 (by simp)); clear k2))
    obtain ⟨⟨p20, p21, p22, p23, p24⟩, _⟩ := bk5 B2.out
    go_upto_region 5 with (go_at_call 15; ((refine HGn.out _ _ (HR.out.kp K2.out (by simp)) ?_); intro w3 k3; have K3 := Lib.hid (K2.out.trans k3); have B3 := Lib.hid (B2.out.kp k3 (by simp)); clear k3))
    obtain ⟨⟨p30, p31, p32, p33, p34⟩, _⟩ := bk5 B3.out
    go_upto_region 6 with (go_at_call 37; ((refine HDu.out _ _ (HR.out.kp K3.out (by simp)) ?_); intro w4 k4; have K4 := Lib.hid (K3.out.trans k4); have B4 := Lib.hid (B3.out.kp k4 (by simp)); clear k4))
    obtain ⟨⟨p40, p41, p42, p43, p44⟩, _⟩ := bk5 B4.out
    go_upto_region 7 with (go_at_call 37; ((refine HDf.out _ _ (HR.out.kp K4.out (by simp)) ?_); intro w5 k5; have K5 := Lib.hid (K4.out.trans k5); have B5 := Lib.hid (B4.out.kp k5 (by simp)); clear k5))
    obtain ⟨⟨p50, p51, p52, p53, p54⟩, _⟩ := bk5 B5.out
    go_wp2_with (first | (go_at_call 17; ((refine HAn.out _ _ (HR.out.kp K5.out (by simp)) ?_); intro w6 k6; have K6 := Lib.hid (K5.out.trans k6); have B6 := Lib.hid (B5.out.kp k6 (by simp)); clear k6)) | (go_at_call 34; ((refine HMn.out _ _ (hw.kp K6.out).ml ?_); intro w7 k7; have K7 := Lib.hid (K6.out.trans k7); clear k7)))
    exact H.out _ K7.out
set_option maxHeartbeats 8000000 in
theorem check_nw {R : Ending → World → Prop} (r : Req) (v mt : Int) {A : Option Addr} {c : Nat} (w : World) (hr : Rd w [] A (r.fs.flatMap fldC)) (hn : r.fs.length ≤ 100) (hc : r.fs.length ≤ c) (hv : 0 ≤ v ∧ v ≤ 4294967295) (hmt : 0 ≤ mt ∧ mt ≤ 4294967295) (hw : Lw w)
    (hu : getF r.fs iuL = ([], false)) (hf : getF r.fs ifL = ([], false)) (hM : (getF r.fs imL).2 = false) (hN : (getF r.fs inL).2 = true) (hl1 : (allF r.fs imL).length ≤ 100000) (hl2 : (allF r.fs inL).length ≤ 100000)
    (hb2 : matchM (allF r.fs inL) (tagL v mt) true = true) (q1 : (r.m == [71, 69, 84]) = false) (q2 : (r.m == [72, 69, 65, 68]) = false)
    (h : ∀ w', Kp [] w w' → R (.returned (.int .i64 412)) w') :
    Calls Tryd.prog 21 #[.agg #[.string (S r.m), .string (S r.t), .int .i64 r.minor, .slice A r.fs.length c, .bool r.close], .bool true, .int .i64 v, .int .i64 mt] w R := by
  have H := Lib.hid h
  have HR := Lib.hid hr
  obtain ⟨t, ht⟩ : ∃ t, tagL v mt = t := ⟨_, rfl⟩
  have htl : t.length ≤ 100000 := by
    have e1 := itoaL_len v (by omega) (by omega)
    have e2 := itoaL_len mt (by omega) (by omega)
    rw [← ht]; unfold tagL; simp; omega
  obtain ⟨gm, hgm⟩ : ∃ x, (getF r.fs imL).1 = x := ⟨_, rfl⟩
  obtain ⟨gn, hgn⟩ : ∃ x, (getF r.fs inL).1 = x := ⟨_, rfl⟩
  have HT : Hid (∀ (R : Ending → World → Prop) (w1 : World), Lw w1 → (∀ w', Kp [] w1 w' → R (.returned (.string (S t))) w') → Calls Tryd.prog 20 #[.int .i64 v, .int .i64 mt] w1 R) := Lib.hid (fun R w1 h1 h => tag_any v mt w1 hv hmt h1 (by rw [ht]; exact h))
  have HGm : Hid (∀ (R : Ending → World → Prop) (w1 : World), Rd w1 [] A (r.fs.flatMap fldC) → (∀ w', Kp [] w1 w' → R (.returned (.tuple #[.string (S gm), .bool false])) w') → Calls Tryd.prog 15 #[.agg #[.string (S r.m), .string (S r.t), .int .i64 r.minor, .slice A r.fs.length c, .bool r.close], .string ⟨#[105, 102, 45, 109, 97, 116, 99, 104]⟩] w1 R) := Lib.hid (fun R w1 h1 h => get_any r.fs imL r.m r.t r.minor r.close w1 h1 (by omega) hc (by rw [hM, hgm]; exact h))
  have HGn : Hid (∀ (R : Ending → World → Prop) (w1 : World), Rd w1 [] A (r.fs.flatMap fldC) → (∀ w', Kp [] w1 w' → R (.returned (.tuple #[.string (S gn), .bool true])) w') → Calls Tryd.prog 15 #[.agg #[.string (S r.m), .string (S r.t), .int .i64 r.minor, .slice A r.fs.length c, .bool r.close], .string ⟨#[105, 102, 45, 110, 111, 110, 101, 45, 109, 97, 116, 99, 104]⟩] w1 R) := Lib.hid (fun R w1 h1 h => get_any r.fs inL r.m r.t r.minor r.close w1 h1 (by omega) hc (by rw [hN, hgn]; exact h))
  have HDu : Hid (∀ (R : Ending → World → Prop) (w1 : World), Rd w1 [] A (r.fs.flatMap fldC) → (∀ w', Kp [] w1 w' → R (.returned (.tuple #[.int .i64 0, .bool false])) w') → Calls Tryd.prog 37 #[.agg #[.string (S r.m), .string (S r.t), .int .i64 r.minor, .slice A r.fs.length c, .bool r.close], .string ⟨#[105, 102, 45, 117, 110, 109, 111, 100, 105, 102, 105, 101, 100, 45, 115, 105, 110, 99, 101]⟩] w1 R) := Lib.hid (fun R w1 h1 h => date_no r iuL w1 h1 hn hc hu h)
  have HDf : Hid (∀ (R : Ending → World → Prop) (w1 : World), Rd w1 [] A (r.fs.flatMap fldC) → (∀ w', Kp [] w1 w' → R (.returned (.tuple #[.int .i64 0, .bool false])) w') → Calls Tryd.prog 37 #[.agg #[.string (S r.m), .string (S r.t), .int .i64 r.minor, .slice A r.fs.length c, .bool r.close], .string ⟨#[105, 102, 45, 109, 111, 100, 105, 102, 105, 101, 100, 45, 115, 105, 110, 99, 101]⟩] w1 R) := Lib.hid (fun R w1 h1 h => date_no r ifL w1 h1 hn hc hf h)
  obtain ⟨an, han⟩ : ∃ x, allF r.fs inL = x := ⟨_, rfl⟩
  have HAn : Hid (∀ (R : Ending → World → Prop) (w1 : World), Rd w1 [] A (r.fs.flatMap fldC) → (∀ w', Kp [] w1 w' → R (.returned (.string (S an))) w') → Calls Tryd.prog 17 #[.agg #[.string (S r.m), .string (S r.t), .int .i64 r.minor, .slice A r.fs.length c, .bool r.close], .string ⟨#[105, 102, 45, 110, 111, 110, 101, 45, 109, 97, 116, 99, 104]⟩] w1 R) := Lib.hid (fun R w1 h1 h => all_any' r.fs inL r.m r.t r.minor r.close w1 h1 (by omega) (by omega) (by rw [han]; exact h))
  have HMn : Hid (∀ (R : Ending → World → Prop) (w1 : World), Ml w1 → (∀ w', Kp [] w1 w' → R (.returned (.bool true)) w') → Calls Tryd.prog 34 #[.string (S an), .string (S t), .bool true] w1 R) := Lib.hid (fun R w1 h1 h => match_any an t true w1 (by rw [← han]; exact hl2) htl h1 (by rw [← han, ← ht, hb2]; exact h))
  clear hb2 han
  clear h hr hu hf hM hN hl1 hl2 hgm hgn ht hv hmt
  go_enter Tryd.func21, Tryd.ntmps21
  go_upto_region 1 with (fail)
  refine gen_world (fun W => Kp [] w W ∧ Bk W w.heap.size 41 (reqC r A c)) ⟨(Kp.refl _ _).alloc _, (Bk.new' _ _ _).cast rfl⟩ ?_
  rintro W ⟨kW, bW⟩
  obtain ⟨g, hgg⟩ : ∃ g, w.heap.size = g := ⟨_, rfl⟩
  rw [hgg] at bW ⊢
  have K0 := Lib.hid kW
  have B0 := Lib.hid bW
  clear kW bW hgg
  go_upto_region 2 with (go_at_call 20; ((refine HT.out _ _ (hw.kp K0.out) ?_); intro w1 k1; have K1 := Lib.hid (K0.out.trans k1); have B1 := Lib.hid (B0.out.kp k1 (by simp)); clear k1))
  obtain ⟨⟨p10, p11, p12, p13, p14⟩, _⟩ := bk5 B1.out
  go_upto_region 4 with (go_at_call 15; ((refine HGm.out _ _ (HR.out.kp K1.out (by simp)) ?_); intro w2 k2; have K2 := Lib.hid (K1.out.trans k2); have B2 := Lib.hid (B1.out.kp k2 (by simp)); clear k2))
  obtain ⟨⟨p20, p21, p22, p23, p24⟩, _⟩ := bk5 B2.out
  go_upto_region 5 with (go_at_call 15; ((refine HGn.out _ _ (HR.out.kp K2.out (by simp)) ?_); intro w3 k3; have K3 := Lib.hid (K2.out.trans k3); have B3 := Lib.hid (B2.out.kp k3 (by simp)); clear k3))
  obtain ⟨⟨p30, p31, p32, p33, p34⟩, _⟩ := bk5 B3.out
  go_upto_region 6 with (go_at_call 37; ((refine HDu.out _ _ (HR.out.kp K3.out (by simp)) ?_); intro w4 k4; have K4 := Lib.hid (K3.out.trans k4); have B4 := Lib.hid (B3.out.kp k4 (by simp)); clear k4))
  obtain ⟨⟨p40, p41, p42, p43, p44⟩, _⟩ := bk5 B4.out
  go_upto_region 7 with (go_at_call 37; ((refine HDf.out _ _ (HR.out.kp K4.out (by simp)) ?_); intro w5 k5; have K5 := Lib.hid (K4.out.trans k5); have B5 := Lib.hid (B4.out.kp k5 (by simp)); clear k5))
  obtain ⟨⟨p50, p51, p52, p53, p54⟩, _⟩ := bk5 B5.out
  go_wp2_with (first | (go_at_call 17; ((refine HAn.out _ _ (HR.out.kp K5.out (by simp)) ?_); intro w6 k6; have K6 := Lib.hid (K5.out.trans k6); have B6 := Lib.hid (B5.out.kp k6 (by simp)); clear k6)) | (go_at_call 34; ((refine HMn.out _ _ (hw.kp K6.out).ml ?_); intro w7 k7; have K7 := Lib.hid (K6.out.trans k7); clear k7)))
  exact H.out _ K7.out
end Go.Proofs.YtjjigngighneeaaDoor
