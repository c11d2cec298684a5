/- cond.Check of any request about a file that is there. -/
import Derived.Test.YtnmafahbdfilcaaGreatDoorPC18
import Derived.Test.YtnmafahbdfilcaaGreatDoorPC10
import Derived.Deep.CutBlock
import Derived.Deep.DeepCutAuto
namespace Go.Proofs.YtnmafahbdfilcaaGreatDoor
/-! ### cond.Check of any request about a file that is there. -/
section
open Go.RowKit Go.Shelf
set_option linter.unusedVariables false
set_option linter.unusedSimpArgs false
set_option maxRecDepth 100000
/-- What a request's conditions tell. -/
def ckF (im inn mm mn reads : Bool) (du dm : Int × Bool) (mt : Int) : Int :=
  if im && !mm then 412 else if !im && (du.2 && decide (du.1 < mt)) then 412 else if inn && mn then (if reads then 304 else 412) else if !inn && (dm.2 && (reads && decide (mt ≤ dm.1))) then 304 else 0
def readsM (m : List UInt8) : Bool := m == [71, 69, 84] || m == [72, 69, 65, 68]
noncomputable def checkM (r : Req) (v mt : Int) : Int :=
  ckF (getF r.fs imL).2 (getF r.fs inL).2 (matchM (allF r.fs imL) (tagL v mt) false) (matchM (allF r.fs inL) (tagL v mt) true) (readsM r.m) (dateM r.fs iuL) (dateM r.fs ifL) mt
section
variable {R : Ending → World → Prop} {w : World}
set_option maxHeartbeats 16000000 in
theorem check_any (r : Req) (v mt : Int) {A : Option Addr} {c : Nat} (hr : Rd w [] A (r.fs.flatMap fldC)) (hn : r.fs.length ≤ 2000) (hc : r.fs.length ≤ c) (hv : 0 ≤ v ∧ v ≤ 9223372036854775807) (hmt : 0 ≤ mt ∧ mt ≤ 9223372036854775807) (hw : Lw w) (hsz : ∀ nm, (allF r.fs nm).length ≤ 2000000)
    (h : ∀ w', Kp [] w w' → R (.returned (.int .i64 (checkM r v mt))) w') :
    Calls Tryz.prog 43 #[.agg #[.string (S r.m), .string (S r.t), .int .i64 r.minor, .slice A r.fs.length c, .bool r.close], .bool true, .int .i64 v, .int .i64 mt] w R := by
  have H := Lib.hid h
  have HR := Lib.hid hr
  obtain ⟨t, ht⟩ : ∃ t, tagL v mt = t := ⟨_, rfl⟩
  have htl : t.length ≤ 2000000 := by
    have e1 := itoaL_len v (by omega) (by omega)
    have e2 := itoaL_len mt (by omega) (by omega)
    rw [← ht]; unfold tagL; simp; omega
  unfold checkM at H
  rw [ht] at H
  obtain ⟨gm, im, hgm⟩ : ∃ x y, getF r.fs imL = (x, y) := ⟨_, _, rfl⟩
  obtain ⟨gn, inn, hgn⟩ : ∃ x y, getF r.fs inL = (x, y) := ⟨_, _, rfl⟩
  obtain ⟨u1, u2, hdu⟩ : ∃ x y, dateM r.fs iuL = (x, y) := ⟨_, _, rfl⟩
  obtain ⟨f1, f2, hdf⟩ : ∃ x y, dateM r.fs ifL = (x, y) := ⟨_, _, rfl⟩
  obtain ⟨am, ham⟩ : ∃ x, allF r.fs imL = x := ⟨_, rfl⟩
  obtain ⟨an, han⟩ : ∃ x, allF r.fs inL = x := ⟨_, rfl⟩
  obtain ⟨mm, hmm⟩ : ∃ x, matchM am t false = x := ⟨_, rfl⟩
  obtain ⟨mn, hmn⟩ : ∃ x, matchM an t true = x := ⟨_, rfl⟩
  rw [hgm, hgn, hdu, hdf, ham, han, hmm, hmn] at H
  have HT : Hid (∀ (R : Ending → World → Prop) (W : World), Kp [] w W → (∀ w', Kp [] W w' → R (.returned (.string (S t))) w') → Calls Tryz.prog 63 #[.int .i64 v, .int .i64 mt] W R) := Lib.hid (fun R W k h => tag_wide v mt W hv hmt (hw.kp k) (by rw [ht]; exact h))
  have HGm : Hid (∀ (R : Ending → World → Prop) (w1 : World), Kp [] w w1 → (∀ w', Kp [] w1 w' → R (.returned (.tuple #[.string (S gm), .bool im])) w') → Calls Tryz.prog 64 #[.agg #[.string (S r.m), .string (S r.t), .int .i64 r.minor, .slice A r.fs.length c, .bool r.close], .string ⟨#[105, 102, 45, 109, 97, 116, 99, 104]⟩] w1 R) := Lib.hid (fun R w1 k1 h => get_any r.fs imL r.m r.t r.minor r.close w1 (HR.out.kp k1 (by simp)) (by omega) hc (by rw [hgm]; exact h))
  have HGn : Hid (∀ (R : Ending → World → Prop) (w1 : World), Kp [] w w1 → (∀ w', Kp [] w1 w' → R (.returned (.tuple #[.string (S gn), .bool inn])) w') → Calls Tryz.prog 64 #[.agg #[.string (S r.m), .string (S r.t), .int .i64 r.minor, .slice A r.fs.length c, .bool r.close], .string ⟨#[105, 102, 45, 110, 111, 110, 101, 45, 109, 97, 116, 99, 104]⟩] w1 R) := Lib.hid (fun R w1 k1 h => get_any r.fs inL r.m r.t r.minor r.close w1 (HR.out.kp k1 (by simp)) (by omega) hc (by rw [hgn]; exact h))
  have HDu : Hid (∀ (R : Ending → World → Prop) (w1 : World), Kp [] w w1 → (∀ w', Kp [] w1 w' → R (.returned (.tuple #[.int .i64 u1, .bool u2])) w') → Calls Tryz.prog 65 #[.agg #[.string (S r.m), .string (S r.t), .int .i64 r.minor, .slice A r.fs.length c, .bool r.close], .string ⟨iuL.toArray⟩] w1 R) := Lib.hid (fun R w1 k1 h => date_any r iuL (HR.out.kp k1 (by simp)) hn hc (hw.kp k1) (by have := hsz iuL; omega) (by rw [hdu]; exact h))
  have HDf : Hid (∀ (R : Ending → World → Prop) (w1 : World), Kp [] w w1 → (∀ w', Kp [] w1 w' → R (.returned (.tuple #[.int .i64 f1, .bool f2])) w') → Calls Tryz.prog 65 #[.agg #[.string (S r.m), .string (S r.t), .int .i64 r.minor, .slice A r.fs.length c, .bool r.close], .string ⟨ifL.toArray⟩] w1 R) := Lib.hid (fun R w1 k1 h => date_any r ifL (HR.out.kp k1 (by simp)) hn hc (hw.kp k1) (by have := hsz ifL; omega) (by rw [hdf]; exact h))
  have HAm : Hid (∀ (R : Ending → World → Prop) (w1 : World), Kp [] w w1 → (∀ w', Kp [] w1 w' → R (.returned (.string (S am))) w') → Calls Tryz.prog 46 #[.agg #[.string (S r.m), .string (S r.t), .int .i64 r.minor, .slice A r.fs.length c, .bool r.close], .string ⟨#[105, 102, 45, 109, 97, 116, 99, 104]⟩] w1 R) := Lib.hid (fun R w1 k1 h => all_any' r.fs imL r.m r.t r.minor r.close w1 (HR.out.kp k1 (by simp)) (by omega) (by have := hsz imL; omega) (by rw [ham]; exact h))
  have HAn : Hid (∀ (R : Ending → World → Prop) (w1 : World), Kp [] w w1 → (∀ w', Kp [] w1 w' → R (.returned (.string (S an))) w') → Calls Tryz.prog 46 #[.agg #[.string (S r.m), .string (S r.t), .int .i64 r.minor, .slice A r.fs.length c, .bool r.close], .string ⟨#[105, 102, 45, 110, 111, 110, 101, 45, 109, 97, 116, 99, 104]⟩] w1 R) := Lib.hid (fun R w1 k1 h => all_any' r.fs inL r.m r.t r.minor r.close w1 (HR.out.kp k1 (by simp)) (by omega) (by have := hsz inL; omega) (by rw [han]; exact h))
  have HMm : Hid (∀ (R : Ending → World → Prop) (w1 : World), Kp [] w w1 → (∀ w', Kp [] w1 w' → R (.returned (.bool mm)) w') → Calls Tryz.prog 66 #[.string (S am), .string (S t), .bool false] w1 R) := Lib.hid (fun R w1 k1 h => match_any am t false w1 (by rw [← ham]; exact hsz _) htl (hw.ml.kp k1) (by rw [hmm]; exact h))
  have HMn : Hid (∀ (R : Ending → World → Prop) (w1 : World), Kp [] w w1 → (∀ w', Kp [] w1 w' → R (.returned (.bool mn)) w') → Calls Tryz.prog 66 #[.string (S an), .string (S t), .bool true] w1 R) := Lib.hid (fun R w1 k1 h => match_any an t true w1 (by rw [← han]; exact hsz _) htl (hw.ml.kp k1) (by rw [hmn]; exact h))
  have HRd : Hid (∀ b1 b2, (r.m == [71, 69, 84]) = b1 → (r.m == [72, 69, 65, 68]) = b2 → readsM r.m = (b1 || b2)) := Lib.hid (fun b1 b2 h1 h2 => by unfold readsM; rw [h1, h2])
  clear h hr hgm hgn hdu hdf ham han hmm hmn ht
  go_enter Tryz.func43, Tryz.ntmps43
  go_upto_region 1 with (fail)
  refine gen_worldC (fun W => ∃ g, w.heap.size = g ∧ Hid (Kp [] w W ∧ Bk W g 35 (reqC r A c))) ⟨_, rfl, Lib.hid ⟨(Kp.refl _ _).alloc _, (Bk.new' _ _ _).cast rfl⟩⟩ ?_
  rintro W ⟨g, hg, hW⟩
  rw [hg]
  clear hg
  have HC : Hid (∀ W', Kp [] W W' → W'.cell? ⟨g, 0, none⟩ = some (.string (S r.m)) ∧ W'.cell? ⟨g, 1, none⟩ = some (.string (S r.t)) ∧ W'.cell? ⟨g, 2, none⟩ = some (.int .i64 r.minor) ∧ W'.cell? ⟨g, 3, none⟩ = some (.slice A r.fs.length c) ∧ W'.cell? ⟨g, 4, none⟩ = some (.bool r.close)) :=
    Lib.hid (fun W' k => ⟨(hW.out.2.kp k (by simp)).cell 0, (hW.out.2.kp k (by simp)).cell 1, (hW.out.2.kp k (by simp)).cell 2, (hW.out.2.kp k (by simp)).cell 3, (hW.out.2.kp k (by simp)).cell 4⟩)
  have KW : Hid (∀ w', Kp [] W w' → Kp [] w w') := Lib.hid (fun w' k => hW.out.1.trans k)
  clear hW
  go_upto_region 2 with (go_at_call 63; ((refine HT.out _ _ (KW.out _ (Kp.refl _ _)) ?_); intro w1 kk))
  obtain ⟨p0, p1, p2, p3, p4⟩ := HC.out _ kk
  go_cut [10] (fun v W' => v = .bool (readsM r.m) ∧ W' = w1)
  case first =>
    cases q1 : (r.m == [71, 69, 84]) <;> cases q2 : (r.m == [72, 69, 65, 68])
    all_goals
      have hrd := Lib.hid (HRd.out _ _ q1 q2)
      go_wp2
      go_meet
      exact ⟨by rw [hrd.out]; rfl, rfl⟩
  case rest =>
    obtain ⟨rfl, rfl⟩ := hcut
    obtain ⟨rd, hrd⟩ : ∃ x, readsM r.m = x := ⟨_, rfl⟩
    rw [hrd] at H ⊢
    clear hrd HRd
    go_upto_region 4 with (go_at_call 64; ((refine HGm.out _ _ (KW.out _ kk) ?_); intro w2 k2; have kk := kk.trans k2; clear k2; clear p0 p1 p2 p3 p4; obtain ⟨p0, p1, p2, p3, p4⟩ := HC.out _ kk))
    go_upto_region 5 with (go_at_call 64; ((refine HGn.out _ _ (KW.out _ kk) ?_); intro w3 k3; have kk := kk.trans k3; clear k3; clear p0 p1 p2 p3 p4; obtain ⟨p0, p1, p2, p3, p4⟩ := HC.out _ kk))
    go_upto_region 6 with (go_at_call 65; ((refine HDu.out _ _ (KW.out _ kk) ?_); intro w4 k4; have kk := kk.trans k4; clear k4; clear p0 p1 p2 p3 p4; obtain ⟨p0, p1, p2, p3, p4⟩ := HC.out _ kk))
    go_upto_region 7 with (go_at_call 65; ((refine HDf.out _ _ (KW.out _ kk) ?_); intro w5 k5; have kk := kk.trans k5; clear k5; clear p0 p1 p2 p3 p4; obtain ⟨p0, p1, p2, p3, p4⟩ := HC.out _ kk))
    obtain ⟨c1, hc1⟩ : ∃ b, decide (u1 < mt) = b := ⟨_, rfl⟩
    obtain ⟨c2, hc2⟩ : ∃ b, decide (mt ≤ f1) = b := ⟨_, rfl⟩
    cases im with
    | false =>
      cases u2 with
      | false =>
        cases inn with
        | false =>
          cases f2 with
          | false =>
            go_wp2_with (first | (go_at_call 46; ((with_reducible refine HAm.out _ _ (KW.out _ kk) ?_); intro wa k9; have kk := kk.trans k9; clear k9; clear p0 p1 p2 p3 p4; obtain ⟨p0, p1, p2, p3, p4⟩ := HC.out _ kk)) | (go_at_call 46; ((with_reducible refine HAn.out _ _ (KW.out _ kk) ?_); intro wb k9; have kk := kk.trans k9; clear k9; clear p0 p1 p2 p3 p4; obtain ⟨p0, p1, p2, p3, p4⟩ := HC.out _ kk)) | (go_at_call 66; ((with_reducible refine HMm.out _ _ (KW.out _ kk) ?_); intro wc2 k9; have kk := kk.trans k9; clear k9; clear p0 p1 p2 p3 p4; obtain ⟨p0, p1, p2, p3, p4⟩ := HC.out _ kk)) | (go_at_call 66; ((with_reducible refine HMn.out _ _ (KW.out _ kk) ?_); intro wd k9; have kk := kk.trans k9; clear k9; clear p0 p1 p2 p3 p4; obtain ⟨p0, p1, p2, p3, p4⟩ := HC.out _ kk)))
            exact ricast (H.out _ (KW.out _ kk)) (by first | rfl | (unfold ckF; simp [hc1, hc2]) | (unfold ckF; simp))
          | true =>
            cases rd with
            | false =>
              go_wp2_with (first | (go_at_call 46; ((with_reducible refine HAm.out _ _ (KW.out _ kk) ?_); intro wa k9; have kk := kk.trans k9; clear k9; clear p0 p1 p2 p3 p4; obtain ⟨p0, p1, p2, p3, p4⟩ := HC.out _ kk)) | (go_at_call 46; ((with_reducible refine HAn.out _ _ (KW.out _ kk) ?_); intro wb k9; have kk := kk.trans k9; clear k9; clear p0 p1 p2 p3 p4; obtain ⟨p0, p1, p2, p3, p4⟩ := HC.out _ kk)) | (go_at_call 66; ((with_reducible refine HMm.out _ _ (KW.out _ kk) ?_); intro wc2 k9; have kk := kk.trans k9; clear k9; clear p0 p1 p2 p3 p4; obtain ⟨p0, p1, p2, p3, p4⟩ := HC.out _ kk)) | (go_at_call 66; ((with_reducible refine HMn.out _ _ (KW.out _ kk) ?_); intro wd k9; have kk := kk.trans k9; clear k9; clear p0 p1 p2 p3 p4; obtain ⟨p0, p1, p2, p3, p4⟩ := HC.out _ kk)))
              exact ricast (H.out _ (KW.out _ kk)) (by first | rfl | (unfold ckF; simp [hc1, hc2]) | (unfold ckF; simp))
            | true =>
              cases c2 with
              | false =>
                go_wp2_with (first | (go_at_call 46; ((with_reducible refine HAm.out _ _ (KW.out _ kk) ?_); intro wa k9; have kk := kk.trans k9; clear k9; clear p0 p1 p2 p3 p4; obtain ⟨p0, p1, p2, p3, p4⟩ := HC.out _ kk)) | (go_at_call 46; ((with_reducible refine HAn.out _ _ (KW.out _ kk) ?_); intro wb k9; have kk := kk.trans k9; clear k9; clear p0 p1 p2 p3 p4; obtain ⟨p0, p1, p2, p3, p4⟩ := HC.out _ kk)) | (go_at_call 66; ((with_reducible refine HMm.out _ _ (KW.out _ kk) ?_); intro wc2 k9; have kk := kk.trans k9; clear k9; clear p0 p1 p2 p3 p4; obtain ⟨p0, p1, p2, p3, p4⟩ := HC.out _ kk)) | (go_at_call 66; ((with_reducible refine HMn.out _ _ (KW.out _ kk) ?_); intro wd k9; have kk := kk.trans k9; clear k9; clear p0 p1 p2 p3 p4; obtain ⟨p0, p1, p2, p3, p4⟩ := HC.out _ kk)))
                exact ricast (H.out _ (KW.out _ kk)) (by first | rfl | (unfold ckF; simp [hc1, hc2]) | (unfold ckF; simp))
              | true =>
                go_wp2_with (first | (go_at_call 46; ((with_reducible refine HAm.out _ _ (KW.out _ kk) ?_); intro wa k9; have kk := kk.trans k9; clear k9; clear p0 p1 p2 p3 p4; obtain ⟨p0, p1, p2, p3, p4⟩ := HC.out _ kk)) | (go_at_call 46; ((with_reducible refine HAn.out _ _ (KW.out _ kk) ?_); intro wb k9; have kk := kk.trans k9; clear k9; clear p0 p1 p2 p3 p4; obtain ⟨p0, p1, p2, p3, p4⟩ := HC.out _ kk)) | (go_at_call 66; ((with_reducible refine HMm.out _ _ (KW.out _ kk) ?_); intro wc2 k9; have kk := kk.trans k9; clear k9; clear p0 p1 p2 p3 p4; obtain ⟨p0, p1, p2, p3, p4⟩ := HC.out _ kk)) | (go_at_call 66; ((with_reducible refine HMn.out _ _ (KW.out _ kk) ?_); intro wd k9; have kk := kk.trans k9; clear k9; clear p0 p1 p2 p3 p4; obtain ⟨p0, p1, p2, p3, p4⟩ := HC.out _ kk)))
                exact ricast (H.out _ (KW.out _ kk)) (by first | rfl | (unfold ckF; simp [hc1, hc2]) | (unfold ckF; simp))
        | true =>
          cases mn with
          | false =>
            go_wp2_with (first | (go_at_call 46; ((with_reducible refine HAm.out _ _ (KW.out _ kk) ?_); intro wa k9; have kk := kk.trans k9; clear k9; clear p0 p1 p2 p3 p4; obtain ⟨p0, p1, p2, p3, p4⟩ := HC.out _ kk)) | (go_at_call 46; ((with_reducible refine HAn.out _ _ (KW.out _ kk) ?_); intro wb k9; have kk := kk.trans k9; clear k9; clear p0 p1 p2 p3 p4; obtain ⟨p0, p1, p2, p3, p4⟩ := HC.out _ kk)) | (go_at_call 66; ((with_reducible refine HMm.out _ _ (KW.out _ kk) ?_); intro wc2 k9; have kk := kk.trans k9; clear k9; clear p0 p1 p2 p3 p4; obtain ⟨p0, p1, p2, p3, p4⟩ := HC.out _ kk)) | (go_at_call 66; ((with_reducible refine HMn.out _ _ (KW.out _ kk) ?_); intro wd k9; have kk := kk.trans k9; clear k9; clear p0 p1 p2 p3 p4; obtain ⟨p0, p1, p2, p3, p4⟩ := HC.out _ kk)))
            exact ricast (H.out _ (KW.out _ kk)) (by first | rfl | (unfold ckF; simp [hc1, hc2]) | (unfold ckF; simp))
          | true =>
            cases rd with
            | false =>
              go_wp2_with (first | (go_at_call 46; ((with_reducible refine HAm.out _ _ (KW.out _ kk) ?_); intro wa k9; have kk := kk.trans k9; clear k9; clear p0 p1 p2 p3 p4; obtain ⟨p0, p1, p2, p3, p4⟩ := HC.out _ kk)) | (go_at_call 46; ((with_reducible refine HAn.out _ _ (KW.out _ kk) ?_); intro wb k9; have kk := kk.trans k9; clear k9; clear p0 p1 p2 p3 p4; obtain ⟨p0, p1, p2, p3, p4⟩ := HC.out _ kk)) | (go_at_call 66; ((with_reducible refine HMm.out _ _ (KW.out _ kk) ?_); intro wc2 k9; have kk := kk.trans k9; clear k9; clear p0 p1 p2 p3 p4; obtain ⟨p0, p1, p2, p3, p4⟩ := HC.out _ kk)) | (go_at_call 66; ((with_reducible refine HMn.out _ _ (KW.out _ kk) ?_); intro wd k9; have kk := kk.trans k9; clear k9; clear p0 p1 p2 p3 p4; obtain ⟨p0, p1, p2, p3, p4⟩ := HC.out _ kk)))
              exact ricast (H.out _ (KW.out _ kk)) (by first | rfl | (unfold ckF; simp [hc1, hc2]) | (unfold ckF; simp))
            | true =>
              go_wp2_with (first | (go_at_call 46; ((with_reducible refine HAm.out _ _ (KW.out _ kk) ?_); intro wa k9; have kk := kk.trans k9; clear k9; clear p0 p1 p2 p3 p4; obtain ⟨p0, p1, p2, p3, p4⟩ := HC.out _ kk)) | (go_at_call 46; ((with_reducible refine HAn.out _ _ (KW.out _ kk) ?_); intro wb k9; have kk := kk.trans k9; clear k9; clear p0 p1 p2 p3 p4; obtain ⟨p0, p1, p2, p3, p4⟩ := HC.out _ kk)) | (go_at_call 66; ((with_reducible refine HMm.out _ _ (KW.out _ kk) ?_); intro wc2 k9; have kk := kk.trans k9; clear k9; clear p0 p1 p2 p3 p4; obtain ⟨p0, p1, p2, p3, p4⟩ := HC.out _ kk)) | (go_at_call 66; ((with_reducible refine HMn.out _ _ (KW.out _ kk) ?_); intro wd k9; have kk := kk.trans k9; clear k9; clear p0 p1 p2 p3 p4; obtain ⟨p0, p1, p2, p3, p4⟩ := HC.out _ kk)))
              exact ricast (H.out _ (KW.out _ kk)) (by first | rfl | (unfold ckF; simp [hc1, hc2]) | (unfold ckF; simp))
      | true =>
        cases c1 with
        | false =>
          cases inn with
          | false =>
            cases f2 with
            | false =>
              go_wp2_with (first | (go_at_call 46; ((with_reducible refine HAm.out _ _ (KW.out _ kk) ?_); intro wa k9; have kk := kk.trans k9; clear k9; clear p0 p1 p2 p3 p4; obtain ⟨p0, p1, p2, p3, p4⟩ := HC.out _ kk)) | (go_at_call 46; ((with_reducible refine HAn.out _ _ (KW.out _ kk) ?_); intro wb k9; have kk := kk.trans k9; clear k9; clear p0 p1 p2 p3 p4; obtain ⟨p0, p1, p2, p3, p4⟩ := HC.out _ kk)) | (go_at_call 66; ((with_reducible refine HMm.out _ _ (KW.out _ kk) ?_); intro wc2 k9; have kk := kk.trans k9; clear k9; clear p0 p1 p2 p3 p4; obtain ⟨p0, p1, p2, p3, p4⟩ := HC.out _ kk)) | (go_at_call 66; ((with_reducible refine HMn.out _ _ (KW.out _ kk) ?_); intro wd k9; have kk := kk.trans k9; clear k9; clear p0 p1 p2 p3 p4; obtain ⟨p0, p1, p2, p3, p4⟩ := HC.out _ kk)))
              exact ricast (H.out _ (KW.out _ kk)) (by first | rfl | (unfold ckF; simp [hc1, hc2]) | (unfold ckF; simp))
            | true =>
              cases rd with
              | false =>
                go_wp2_with (first | (go_at_call 46; ((with_reducible refine HAm.out _ _ (KW.out _ kk) ?_); intro wa k9; have kk := kk.trans k9; clear k9; clear p0 p1 p2 p3 p4; obtain ⟨p0, p1, p2, p3, p4⟩ := HC.out _ kk)) | (go_at_call 46; ((with_reducible refine HAn.out _ _ (KW.out _ kk) ?_); intro wb k9; have kk := kk.trans k9; clear k9; clear p0 p1 p2 p3 p4; obtain ⟨p0, p1, p2, p3, p4⟩ := HC.out _ kk)) | (go_at_call 66; ((with_reducible refine HMm.out _ _ (KW.out _ kk) ?_); intro wc2 k9; have kk := kk.trans k9; clear k9; clear p0 p1 p2 p3 p4; obtain ⟨p0, p1, p2, p3, p4⟩ := HC.out _ kk)) | (go_at_call 66; ((with_reducible refine HMn.out _ _ (KW.out _ kk) ?_); intro wd k9; have kk := kk.trans k9; clear k9; clear p0 p1 p2 p3 p4; obtain ⟨p0, p1, p2, p3, p4⟩ := HC.out _ kk)))
                exact ricast (H.out _ (KW.out _ kk)) (by first | rfl | (unfold ckF; simp [hc1, hc2]) | (unfold ckF; simp))
              | true =>
                cases c2 with
                | false =>
                  go_wp2_with (first | (go_at_call 46; ((with_reducible refine HAm.out _ _ (KW.out _ kk) ?_); intro wa k9; have kk := kk.trans k9; clear k9; clear p0 p1 p2 p3 p4; obtain ⟨p0, p1, p2, p3, p4⟩ := HC.out _ kk)) | (go_at_call 46; ((with_reducible refine HAn.out _ _ (KW.out _ kk) ?_); intro wb k9; have kk := kk.trans k9; clear k9; clear p0 p1 p2 p3 p4; obtain ⟨p0, p1, p2, p3, p4⟩ := HC.out _ kk)) | (go_at_call 66; ((with_reducible refine HMm.out _ _ (KW.out _ kk) ?_); intro wc2 k9; have kk := kk.trans k9; clear k9; clear p0 p1 p2 p3 p4; obtain ⟨p0, p1, p2, p3, p4⟩ := HC.out _ kk)) | (go_at_call 66; ((with_reducible refine HMn.out _ _ (KW.out _ kk) ?_); intro wd k9; have kk := kk.trans k9; clear k9; clear p0 p1 p2 p3 p4; obtain ⟨p0, p1, p2, p3, p4⟩ := HC.out _ kk)))
                  exact ricast (H.out _ (KW.out _ kk)) (by first | rfl | (unfold ckF; simp [hc1, hc2]) | (unfold ckF; simp))
                | true =>
                  go_wp2_with (first | (go_at_call 46; ((with_reducible refine HAm.out _ _ (KW.out _ kk) ?_); intro wa k9; have kk := kk.trans k9; clear k9; clear p0 p1 p2 p3 p4; obtain ⟨p0, p1, p2, p3, p4⟩ := HC.out _ kk)) | (go_at_call 46; ((with_reducible refine HAn.out _ _ (KW.out _ kk) ?_); intro wb k9; have kk := kk.trans k9; clear k9; clear p0 p1 p2 p3 p4; obtain ⟨p0, p1, p2, p3, p4⟩ := HC.out _ kk)) | (go_at_call 66; ((with_reducible refine HMm.out _ _ (KW.out _ kk) ?_); intro wc2 k9; have kk := kk.trans k9; clear k9; clear p0 p1 p2 p3 p4; obtain ⟨p0, p1, p2, p3, p4⟩ := HC.out _ kk)) | (go_at_call 66; ((with_reducible refine HMn.out _ _ (KW.out _ kk) ?_); intro wd k9; have kk := kk.trans k9; clear k9; clear p0 p1 p2 p3 p4; obtain ⟨p0, p1, p2, p3, p4⟩ := HC.out _ kk)))
                  exact ricast (H.out _ (KW.out _ kk)) (by first | rfl | (unfold ckF; simp [hc1, hc2]) | (unfold ckF; simp))
          | true =>
            cases mn with
            | false =>
              go_wp2_with (first | (go_at_call 46; ((with_reducible refine HAm.out _ _ (KW.out _ kk) ?_); intro wa k9; have kk := kk.trans k9; clear k9; clear p0 p1 p2 p3 p4; obtain ⟨p0, p1, p2, p3, p4⟩ := HC.out _ kk)) | (go_at_call 46; ((with_reducible refine HAn.out _ _ (KW.out _ kk) ?_); intro wb k9; have kk := kk.trans k9; clear k9; clear p0 p1 p2 p3 p4; obtain ⟨p0, p1, p2, p3, p4⟩ := HC.out _ kk)) | (go_at_call 66; ((with_reducible refine HMm.out _ _ (KW.out _ kk) ?_); intro wc2 k9; have kk := kk.trans k9; clear k9; clear p0 p1 p2 p3 p4; obtain ⟨p0, p1, p2, p3, p4⟩ := HC.out _ kk)) | (go_at_call 66; ((with_reducible refine HMn.out _ _ (KW.out _ kk) ?_); intro wd k9; have kk := kk.trans k9; clear k9; clear p0 p1 p2 p3 p4; obtain ⟨p0, p1, p2, p3, p4⟩ := HC.out _ kk)))
              exact ricast (H.out _ (KW.out _ kk)) (by first | rfl | (unfold ckF; simp [hc1, hc2]) | (unfold ckF; simp))
            | true =>
              cases rd with
              | false =>
                go_wp2_with (first | (go_at_call 46; ((with_reducible refine HAm.out _ _ (KW.out _ kk) ?_); intro wa k9; have kk := kk.trans k9; clear k9; clear p0 p1 p2 p3 p4; obtain ⟨p0, p1, p2, p3, p4⟩ := HC.out _ kk)) | (go_at_call 46; ((with_reducible refine HAn.out _ _ (KW.out _ kk) ?_); intro wb k9; have kk := kk.trans k9; clear k9; clear p0 p1 p2 p3 p4; obtain ⟨p0, p1, p2, p3, p4⟩ := HC.out _ kk)) | (go_at_call 66; ((with_reducible refine HMm.out _ _ (KW.out _ kk) ?_); intro wc2 k9; have kk := kk.trans k9; clear k9; clear p0 p1 p2 p3 p4; obtain ⟨p0, p1, p2, p3, p4⟩ := HC.out _ kk)) | (go_at_call 66; ((with_reducible refine HMn.out _ _ (KW.out _ kk) ?_); intro wd k9; have kk := kk.trans k9; clear k9; clear p0 p1 p2 p3 p4; obtain ⟨p0, p1, p2, p3, p4⟩ := HC.out _ kk)))
                exact ricast (H.out _ (KW.out _ kk)) (by first | rfl | (unfold ckF; simp [hc1, hc2]) | (unfold ckF; simp))
              | true =>
                go_wp2_with (first | (go_at_call 46; ((with_reducible refine HAm.out _ _ (KW.out _ kk) ?_); intro wa k9; have kk := kk.trans k9; clear k9; clear p0 p1 p2 p3 p4; obtain ⟨p0, p1, p2, p3, p4⟩ := HC.out _ kk)) | (go_at_call 46; ((with_reducible refine HAn.out _ _ (KW.out _ kk) ?_); intro wb k9; have kk := kk.trans k9; clear k9; clear p0 p1 p2 p3 p4; obtain ⟨p0, p1, p2, p3, p4⟩ := HC.out _ kk)) | (go_at_call 66; ((with_reducible refine HMm.out _ _ (KW.out _ kk) ?_); intro wc2 k9; have kk := kk.trans k9; clear k9; clear p0 p1 p2 p3 p4; obtain ⟨p0, p1, p2, p3, p4⟩ := HC.out _ kk)) | (go_at_call 66; ((with_reducible refine HMn.out _ _ (KW.out _ kk) ?_); intro wd k9; have kk := kk.trans k9; clear k9; clear p0 p1 p2 p3 p4; obtain ⟨p0, p1, p2, p3, p4⟩ := HC.out _ kk)))
                exact ricast (H.out _ (KW.out _ kk)) (by first | rfl | (unfold ckF; simp [hc1, hc2]) | (unfold ckF; simp))
        | true =>
          go_wp2_with (first | (go_at_call 46; ((with_reducible refine HAm.out _ _ (KW.out _ kk) ?_); intro wa k9; have kk := kk.trans k9; clear k9; clear p0 p1 p2 p3 p4; obtain ⟨p0, p1, p2, p3, p4⟩ := HC.out _ kk)) | (go_at_call 46; ((with_reducible refine HAn.out _ _ (KW.out _ kk) ?_); intro wb k9; have kk := kk.trans k9; clear k9; clear p0 p1 p2 p3 p4; obtain ⟨p0, p1, p2, p3, p4⟩ := HC.out _ kk)) | (go_at_call 66; ((with_reducible refine HMm.out _ _ (KW.out _ kk) ?_); intro wc2 k9; have kk := kk.trans k9; clear k9; clear p0 p1 p2 p3 p4; obtain ⟨p0, p1, p2, p3, p4⟩ := HC.out _ kk)) | (go_at_call 66; ((with_reducible refine HMn.out _ _ (KW.out _ kk) ?_); intro wd k9; have kk := kk.trans k9; clear k9; clear p0 p1 p2 p3 p4; obtain ⟨p0, p1, p2, p3, p4⟩ := HC.out _ kk)))
          exact ricast (H.out _ (KW.out _ kk)) (by first | rfl | (unfold ckF; simp [hc1, hc2]) | (unfold ckF; simp))
    | true =>
      cases mm with
      | false =>
        go_wp2_with (first | (go_at_call 46; ((with_reducible refine HAm.out _ _ (KW.out _ kk) ?_); intro wa k9; have kk := kk.trans k9; clear k9; clear p0 p1 p2 p3 p4; obtain ⟨p0, p1, p2, p3, p4⟩ := HC.out _ kk)) | (go_at_call 46; ((with_reducible refine HAn.out _ _ (KW.out _ kk) ?_); intro wb k9; have kk := kk.trans k9; clear k9; clear p0 p1 p2 p3 p4; obtain ⟨p0, p1, p2, p3, p4⟩ := HC.out _ kk)) | (go_at_call 66; ((with_reducible refine HMm.out _ _ (KW.out _ kk) ?_); intro wc2 k9; have kk := kk.trans k9; clear k9; clear p0 p1 p2 p3 p4; obtain ⟨p0, p1, p2, p3, p4⟩ := HC.out _ kk)) | (go_at_call 66; ((with_reducible refine HMn.out _ _ (KW.out _ kk) ?_); intro wd k9; have kk := kk.trans k9; clear k9; clear p0 p1 p2 p3 p4; obtain ⟨p0, p1, p2, p3, p4⟩ := HC.out _ kk)))
        exact ricast (H.out _ (KW.out _ kk)) (by first | rfl | (unfold ckF; simp [hc1, hc2]) | (unfold ckF; simp))
      | true =>
        cases inn with
        | false =>
          cases f2 with
          | false =>
            go_wp2_with (first | (go_at_call 46; ((with_reducible refine HAm.out _ _ (KW.out _ kk) ?_); intro wa k9; have kk := kk.trans k9; clear k9; clear p0 p1 p2 p3 p4; obtain ⟨p0, p1, p2, p3, p4⟩ := HC.out _ kk)) | (go_at_call 46; ((with_reducible refine HAn.out _ _ (KW.out _ kk) ?_); intro wb k9; have kk := kk.trans k9; clear k9; clear p0 p1 p2 p3 p4; obtain ⟨p0, p1, p2, p3, p4⟩ := HC.out _ kk)) | (go_at_call 66; ((with_reducible refine HMm.out _ _ (KW.out _ kk) ?_); intro wc2 k9; have kk := kk.trans k9; clear k9; clear p0 p1 p2 p3 p4; obtain ⟨p0, p1, p2, p3, p4⟩ := HC.out _ kk)) | (go_at_call 66; ((with_reducible refine HMn.out _ _ (KW.out _ kk) ?_); intro wd k9; have kk := kk.trans k9; clear k9; clear p0 p1 p2 p3 p4; obtain ⟨p0, p1, p2, p3, p4⟩ := HC.out _ kk)))
            exact ricast (H.out _ (KW.out _ kk)) (by first | rfl | (unfold ckF; simp [hc1, hc2]) | (unfold ckF; simp))
          | true =>
            cases rd with
            | false =>
              go_wp2_with (first | (go_at_call 46; ((with_reducible refine HAm.out _ _ (KW.out _ kk) ?_); intro wa k9; have kk := kk.trans k9; clear k9; clear p0 p1 p2 p3 p4; obtain ⟨p0, p1, p2, p3, p4⟩ := HC.out _ kk)) | (go_at_call 46; ((with_reducible refine HAn.out _ _ (KW.out _ kk) ?_); intro wb k9; have kk := kk.trans k9; clear k9; clear p0 p1 p2 p3 p4; obtain ⟨p0, p1, p2, p3, p4⟩ := HC.out _ kk)) | (go_at_call 66; ((with_reducible refine HMm.out _ _ (KW.out _ kk) ?_); intro wc2 k9; have kk := kk.trans k9; clear k9; clear p0 p1 p2 p3 p4; obtain ⟨p0, p1, p2, p3, p4⟩ := HC.out _ kk)) | (go_at_call 66; ((with_reducible refine HMn.out _ _ (KW.out _ kk) ?_); intro wd k9; have kk := kk.trans k9; clear k9; clear p0 p1 p2 p3 p4; obtain ⟨p0, p1, p2, p3, p4⟩ := HC.out _ kk)))
              exact ricast (H.out _ (KW.out _ kk)) (by first | rfl | (unfold ckF; simp [hc1, hc2]) | (unfold ckF; simp))
            | true =>
              cases c2 with
              | false =>
                go_wp2_with (first | (go_at_call 46; ((with_reducible refine HAm.out _ _ (KW.out _ kk) ?_); intro wa k9; have kk := kk.trans k9; clear k9; clear p0 p1 p2 p3 p4; obtain ⟨p0, p1, p2, p3, p4⟩ := HC.out _ kk)) | (go_at_call 46; ((with_reducible refine HAn.out _ _ (KW.out _ kk) ?_); intro wb k9; have kk := kk.trans k9; clear k9; clear p0 p1 p2 p3 p4; obtain ⟨p0, p1, p2, p3, p4⟩ := HC.out _ kk)) | (go_at_call 66; ((with_reducible refine HMm.out _ _ (KW.out _ kk) ?_); intro wc2 k9; have kk := kk.trans k9; clear k9; clear p0 p1 p2 p3 p4; obtain ⟨p0, p1, p2, p3, p4⟩ := HC.out _ kk)) | (go_at_call 66; ((with_reducible refine HMn.out _ _ (KW.out _ kk) ?_); intro wd k9; have kk := kk.trans k9; clear k9; clear p0 p1 p2 p3 p4; obtain ⟨p0, p1, p2, p3, p4⟩ := HC.out _ kk)))
                exact ricast (H.out _ (KW.out _ kk)) (by first | rfl | (unfold ckF; simp [hc1, hc2]) | (unfold ckF; simp))
              | true =>
                go_wp2_with (first | (go_at_call 46; ((with_reducible refine HAm.out _ _ (KW.out _ kk) ?_); intro wa k9; have kk := kk.trans k9; clear k9; clear p0 p1 p2 p3 p4; obtain ⟨p0, p1, p2, p3, p4⟩ := HC.out _ kk)) | (go_at_call 46; ((with_reducible refine HAn.out _ _ (KW.out _ kk) ?_); intro wb k9; have kk := kk.trans k9; clear k9; clear p0 p1 p2 p3 p4; obtain ⟨p0, p1, p2, p3, p4⟩ := HC.out _ kk)) | (go_at_call 66; ((with_reducible refine HMm.out _ _ (KW.out _ kk) ?_); intro wc2 k9; have kk := kk.trans k9; clear k9; clear p0 p1 p2 p3 p4; obtain ⟨p0, p1, p2, p3, p4⟩ := HC.out _ kk)) | (go_at_call 66; ((with_reducible refine HMn.out _ _ (KW.out _ kk) ?_); intro wd k9; have kk := kk.trans k9; clear k9; clear p0 p1 p2 p3 p4; obtain ⟨p0, p1, p2, p3, p4⟩ := HC.out _ kk)))
                exact ricast (H.out _ (KW.out _ kk)) (by first | rfl | (unfold ckF; simp [hc1, hc2]) | (unfold ckF; simp))
        | true =>
          cases mn with
          | false =>
            go_wp2_with (first | (go_at_call 46; ((with_reducible refine HAm.out _ _ (KW.out _ kk) ?_); intro wa k9; have kk := kk.trans k9; clear k9; clear p0 p1 p2 p3 p4; obtain ⟨p0, p1, p2, p3, p4⟩ := HC.out _ kk)) | (go_at_call 46; ((with_reducible refine HAn.out _ _ (KW.out _ kk) ?_); intro wb k9; have kk := kk.trans k9; clear k9; clear p0 p1 p2 p3 p4; obtain ⟨p0, p1, p2, p3, p4⟩ := HC.out _ kk)) | (go_at_call 66; ((with_reducible refine HMm.out _ _ (KW.out _ kk) ?_); intro wc2 k9; have kk := kk.trans k9; clear k9; clear p0 p1 p2 p3 p4; obtain ⟨p0, p1, p2, p3, p4⟩ := HC.out _ kk)) | (go_at_call 66; ((with_reducible refine HMn.out _ _ (KW.out _ kk) ?_); intro wd k9; have kk := kk.trans k9; clear k9; clear p0 p1 p2 p3 p4; obtain ⟨p0, p1, p2, p3, p4⟩ := HC.out _ kk)))
            exact ricast (H.out _ (KW.out _ kk)) (by first | rfl | (unfold ckF; simp [hc1, hc2]) | (unfold ckF; simp))
          | true =>
            cases rd with
            | false =>
              go_wp2_with (first | (go_at_call 46; ((with_reducible refine HAm.out _ _ (KW.out _ kk) ?_); intro wa k9; have kk := kk.trans k9; clear k9; clear p0 p1 p2 p3 p4; obtain ⟨p0, p1, p2, p3, p4⟩ := HC.out _ kk)) | (go_at_call 46; ((with_reducible refine HAn.out _ _ (KW.out _ kk) ?_); intro wb k9; have kk := kk.trans k9; clear k9; clear p0 p1 p2 p3 p4; obtain ⟨p0, p1, p2, p3, p4⟩ := HC.out _ kk)) | (go_at_call 66; ((with_reducible refine HMm.out _ _ (KW.out _ kk) ?_); intro wc2 k9; have kk := kk.trans k9; clear k9; clear p0 p1 p2 p3 p4; obtain ⟨p0, p1, p2, p3, p4⟩ := HC.out _ kk)) | (go_at_call 66; ((with_reducible refine HMn.out _ _ (KW.out _ kk) ?_); intro wd k9; have kk := kk.trans k9; clear k9; clear p0 p1 p2 p3 p4; obtain ⟨p0, p1, p2, p3, p4⟩ := HC.out _ kk)))
              exact ricast (H.out _ (KW.out _ kk)) (by first | rfl | (unfold ckF; simp [hc1, hc2]) | (unfold ckF; simp))
            | true =>
              go_wp2_with (first | (go_at_call 46; ((with_reducible refine HAm.out _ _ (KW.out _ kk) ?_); intro wa k9; have kk := kk.trans k9; clear k9; clear p0 p1 p2 p3 p4; obtain ⟨p0, p1, p2, p3, p4⟩ := HC.out _ kk)) | (go_at_call 46; ((with_reducible refine HAn.out _ _ (KW.out _ kk) ?_); intro wb k9; have kk := kk.trans k9; clear k9; clear p0 p1 p2 p3 p4; obtain ⟨p0, p1, p2, p3, p4⟩ := HC.out _ kk)) | (go_at_call 66; ((with_reducible refine HMm.out _ _ (KW.out _ kk) ?_); intro wc2 k9; have kk := kk.trans k9; clear k9; clear p0 p1 p2 p3 p4; obtain ⟨p0, p1, p2, p3, p4⟩ := HC.out _ kk)) | (go_at_call 66; ((with_reducible refine HMn.out _ _ (KW.out _ kk) ?_); intro wd k9; have kk := kk.trans k9; clear k9; clear p0 p1 p2 p3 p4; obtain ⟨p0, p1, p2, p3, p4⟩ := HC.out _ kk)))
              exact ricast (H.out _ (KW.out _ kk)) (by first | rfl | (unfold ckF; simp [hc1, hc2]) | (unfold ckF; simp))
end
end
end Go.Proofs.YtnmafahbdfilcaaGreatDoor
