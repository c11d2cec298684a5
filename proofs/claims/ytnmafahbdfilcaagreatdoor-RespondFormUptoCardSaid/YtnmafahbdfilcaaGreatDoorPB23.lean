/- RespondLength, walked. -/
import Derived.Test.YtnmafahbdfilcaaGreatDoorPB22
import Derived.Deep.CutBlock
import Derived.Deep.DeepCutAuto
namespace Go.Proofs.YtnmafahbdfilcaaGreatDoor
/-! ### RespondLength, walked. -/
section
open Go.RowKit Go.Shelf
set_option linter.unusedVariables false
set_option linter.unusedSimpArgs false
set_option maxRecDepth 100000
theorem newP (w : World) : Bk (w.alloc (.cells #[.int .i64 0, .string ⟨#[]⟩, .slice none 0 0, .bool false] 31)) w.heap.size 31 [.int .i64 0, .string ⟨#[]⟩, .slice none 0 0, .bool false] := (Bk.new' _ _ _).cast rfl
theorem newPd (w : World) : Bk (w.drew.alloc (.cells #[.int .i64 0, .string ⟨#[]⟩, .slice none 0 0, .bool false] 31)) w.heap.size 31 [.int .i64 0, .string ⟨#[]⟩, .slice none 0 0, .bool false] := (Bk.newAt rfl _ _).cast rfl
section
variable {R : Ending → World → Prop} {w : World}
set_option maxHeartbeats 16000000 in
theorem rlen_walk (r : Req) (there : Bool) (v mt len : Int) (kd : List UInt8) (now : Int) {A : Option Addr} {c : Nat} (hr : Rd w [] A (r.fs.flatMap fldC)) (hc : r.fs.length ≤ c)
    (v1 : -9223372036854775808 ≤ v ∧ v ≤ 9223372036854775807) (m1 : -9223372036854775808 ≤ mt ∧ mt ≤ 9223372036854775807) (hsz : r.fs.length ≤ 60 → ∀ nm, (allF r.fs nm).length ≤ 2000000) (hw : Lw w) (h : ∀ w', Kp [] w w' → R (.returned (.bool true)) w') :
    Calls Tryz.prog 3 #[.agg #[.string (S r.m), .string (S r.t), .int .i64 r.minor, .slice A r.fs.length c, .bool r.close], .bool there, .agg #[.int .i64 v, .int .i64 mt, .int .i64 len, .string (S kd)], .int .i64 now] w R := by
  have H := Lib.hid h
  have HR := Lib.hid hr
  have HSZ := Lib.hid hsz
  have HFar : Hid (∀ (R : Ending → World → Prop) (w1 : World), (∀ w', Kp [] w1 w' → R (.returned (.bool true)) w') → (∀ w', Kp [] w1 w' → Hid (r.fs.length ≤ 60 ∧ kd.length ≤ 300 ∧ 0 ≤ len ∧ len ≤ 1099511627776 ∧ 0 ≤ v ∧ 0 ≤ mt) → R (.returned (.bool false)) w') → Calls Tryz.prog 10 #[.agg #[.string (S r.m), .string (S r.t), .int .i64 r.minor, .slice A r.fs.length c, .bool r.close], .agg #[.int .i64 v, .int .i64 mt, .int .i64 len, .string (S kd)]] w1 R) := Lib.hid (fun R w1 h1 h0 => far27_any r v mt len kd (fun b w' k e => by cases b with | true => exact h1 w' k | false => exact h0 w' k (Lib.hid (e rfl))))
  clear h hr hsz
  go_enter Tryz.func3, Tryz.ntmps3
  go_upto_region 3 with (go_at_call 9; ((refine alive27b_any (hw.kp (((Kp.refl _ _).alloc _).alloc _)) ?_); intro w1 k1))
  refine gen_worldC (fun W => ∃ gr gf, w.heap.size = gr ∧ gr + 1 = gf ∧ Hid (Kp [] w W ∧ Bk W gr 24 (reqC r A c) ∧ Bk W gf 26 [.int .i64 v, .int .i64 mt, .int .i64 len, .string (S kd)])) ⟨_, _, rfl, rfl, Lib.hid ⟨(((Kp.refl _ _).alloc _).alloc _).trans k1, (((Bk.new' _ _ _).alloc _).kp k1 (by simp)).cast rfl, ((Bk.newAt (by simp) _ _).kp k1 (by simp)).cast rfl⟩⟩ ?_
  rintro W ⟨gr, gf, hgr, hgf, hW⟩
  rw [hgr, hgf]
  have HG : Hid (gr < gf) := Lib.hid (by omega)
  clear hgr hgf k1
  have HC : Hid (∀ W', Kp [] W W' → ((W'.cell? ⟨gr, 0, none⟩ = some (.string (S r.m)) ∧ W'.cell? ⟨gr, 1, none⟩ = some (.string (S r.t)) ∧ W'.cell? ⟨gr, 2, none⟩ = some (.int .i64 r.minor) ∧ W'.cell? ⟨gr, 3, none⟩ = some (.slice A r.fs.length c) ∧ W'.cell? ⟨gr, 4, none⟩ = some (.bool r.close)) ∧ (W'.cell? ⟨gf, 0, none⟩ = some (.int .i64 v) ∧ W'.cell? ⟨gf, 1, none⟩ = some (.int .i64 mt) ∧ W'.cell? ⟨gf, 2, none⟩ = some (.int .i64 len) ∧ W'.cell? ⟨gf, 3, none⟩ = some (.string (S kd))))) := Lib.hid (fun W' k => ⟨(bk5' (hW.out.2.1.kp k (by simp))).1, (bk4r (hW.out.2.2.kp k (by simp))).1⟩)
  obtain ⟨⟨p0, p1, p2, p3, p4⟩, ⟨q0, q1, q2, q3⟩⟩ := HC.out W (Kp.refl _ _)
  obtain ⟨mb, hmb⟩ : ∃ mb, (r.m == [71, 69, 84]) = mb := ⟨_, rfl⟩
  cases mb with
  | false =>
    go_wp2_with (go_at_call 10; ((refine HFar.out _ _ (fun W2 k2 => ?_) (fun W2 k2 hb2 => ?_)) <;> (obtain ⟨⟨u0, u1, u2, u3, u4⟩, ⟨t0, t1, t2, t3⟩⟩ := HC.out _ k2)))
    all_goals exact H.out _ (hW.out.1.trans k2)
  | true =>
    have hgm : Hid (r.m = getM) := Lib.hid (by simpa [getM] using hmb)
    go_upto_region 5 with (go_at_call 10; ((refine HFar.out _ _ (fun W2 k2 => ?_) (fun W2 k2 hb2 => ?_)) <;> (obtain ⟨⟨u0, u1, u2, u3, u4⟩, ⟨t0, t1, t2, t3⟩⟩ := HC.out _ k2)))
    · exact H.out _ (hW.out.1.trans k2)
    clear p0 p1 p2 p3 p4 q0 q1 q2 q3 u0 u1 u2 u3 u4 t0 t1 t2 t3
    obtain ⟨b1, b2, b3, b4, b5, b6⟩ := hb2.out
    have hn : r.fs.length ≤ 100000 := by omega
    clear hmb
    have hl40 : 0 ≤ len ∧ len ≤ 35184372088832 := ⟨b3, by omega⟩
    have HO : Hid (∀ (R : Ending → World → Prop) (w1 : World), Kp [] W2 w1 → (∀ A' c' w', Kp [] w1 w' → Kp [] W2 w' → Rd w' [] A' (r.fs.flatMap fldC) → r.fs.length ≤ c' → R (.returned (.agg #[.string (S r.m), .string (S r.t), .int .i64 r.minor, .slice A' r.fs.length c', .bool r.close])) w') → Calls Tryz.prog 12 #[.agg #[.string (S r.m), .string (S r.t), .int .i64 r.minor, .slice A r.fs.length c, .bool r.close]] w1 R) := Lib.hid (fun R w1 k h => of24_any r w1 (HR.out.kp ((hW.out.1.trans k2).trans k) (by simp)) hn (fun A' c' w' j hr' _ hc' => h A' c' w' j (k.trans j) hr' hc'))
    have HP : Hid (∀ (R : Ending → World → Prop) (w1 : World) (A' : Option Addr) (c' : Nat), Kp [] W2 w1 → Rd w1 [] A' (r.fs.flatMap fldC) → r.fs.length ≤ c' → (∀ B n d w', Kp [] w1 w' → Kp [] W2 w' → Hid (Rd w' [] B ((ofP r there v mt len kd).flatMap ptV) ∧ (ofP r there v mt len kd).length = n ∧ n ≤ 21) → R (.returned (.agg #[.int .i64 (chooseM r there v mt len).1, .string (S (ofH r there v mt len kd now)), .slice B n d, .bool (r.close || (chooseM r there v mt len).1 == 400)])) w') → Calls Tryz.prog 11 #[.agg #[.string (S r.m), .string (S r.t), .int .i64 r.minor, .slice A' r.fs.length c', .bool r.close], .bool there, .agg #[.int .i64 v, .int .i64 mt, .int .i64 len, .string (S kd)], .int .i64 now] w1 R) := Lib.hid (fun R w1 A' c' k hr' hc' h => rof_gen r there v mt len kd now hr' (by omega) hc' ⟨b5, v1.2⟩ ⟨b6, m1.2⟩ hl40 b2 (hw.kp ((hW.out.1.trans k2).trans k)) (HSZ.out b1) (fun B n d w' j hh => h B n d w' j (k.trans j) hh))
    obtain ⟨st, e1⟩ : ∃ x, (chooseM r there v mt len).1 = x := ⟨_, rfl⟩
    obtain ⟨hd, e2⟩ : ∃ x, ofH r there v mt len kd now = x := ⟨_, rfl⟩
    obtain ⟨ps, e3⟩ : ∃ x, ofP r there v mt len kd = x := ⟨_, rfl⟩
    obtain ⟨cl, e4⟩ : ∃ x, (r.close || st == 400) = x := ⟨_, rfl⟩
    rw [e1] at HP
    rw [e4] at HP
    rw [e2, e3] at HP
    have HC2 : Hid (∀ W', Kp [] W2 W' → ((W'.cell? ⟨gr, 0, none⟩ = some (.string (S r.m)) ∧ W'.cell? ⟨gr, 1, none⟩ = some (.string (S r.t)) ∧ W'.cell? ⟨gr, 2, none⟩ = some (.int .i64 r.minor) ∧ W'.cell? ⟨gr, 3, none⟩ = some (.slice A r.fs.length c) ∧ W'.cell? ⟨gr, 4, none⟩ = some (.bool r.close)) ∧ (W'.cell? ⟨gf, 0, none⟩ = some (.int .i64 v) ∧ W'.cell? ⟨gf, 1, none⟩ = some (.int .i64 mt) ∧ W'.cell? ⟨gf, 2, none⟩ = some (.int .i64 len) ∧ W'.cell? ⟨gf, 3, none⟩ = some (.string (S kd))))) := Lib.hid (fun W' k => HC.out W' (k2.trans k))
    have HE := Lib.hid (And.intro e1 (And.intro e2 (And.intro e3 e4)))
    clear e1 e2 e3 e4
    obtain ⟨⟨p0, p1, p2, p3, p4⟩, ⟨q0, q1, q2, q3⟩⟩ := HC2.out W2 (Kp.refl _ _)
    go_upto_region 5 with (fail)
    have HD0 : Hid (Kp [] W2 W2.drew) := Lib.hid (Kp.refl _ _).drew
    go_cut [9] (fun x W' => ∃ gp B n d, x = .pointer (some ⟨gp, 0, none⟩) ∧ Hid (Kp [] W2 W' ∧ Bk W' gp 31 [.int .i64 st, .string (S hd), .slice B n d, .bool cl] ∧ Rd W' [] B (ps.flatMap ptV) ∧ ps.length = n ∧ n ≤ 21 ∧ W2.heap.size ≤ gp))
    case first =>
      go_region_held_law (fun W' => ((W'.cell? ⟨gr, 0, none⟩ = some (.string (S r.m)) ∧ W'.cell? ⟨gr, 1, none⟩ = some (.string (S r.t)) ∧ W'.cell? ⟨gr, 2, none⟩ = some (.int .i64 r.minor) ∧ W'.cell? ⟨gr, 3, none⟩ = some (.slice A r.fs.length c) ∧ W'.cell? ⟨gr, 4, none⟩ = some (.bool r.close)) ∧ (W'.cell? ⟨gf, 0, none⟩ = some (.int .i64 v) ∧ W'.cell? ⟨gf, 1, none⟩ = some (.int .i64 mt) ∧ W'.cell? ⟨gf, 2, none⟩ = some (.int .i64 len) ∧ W'.cell? ⟨gf, 3, none⟩ = some (.string (S kd))))) (first | with_reducible exact HC2.out _ k4 | with_reducible exact HC2.out _ k3 | with_reducible exact HC2.out _ HD0.out | with_reducible exact HC2.out _ (Kp.drew (Kp.alloc (Kp.refl [] W2) _)) | with_reducible exact HC2.out _ (Kp.alloc k4 _) | with_reducible exact HC2.out _ (Kp.alloc k3 _) | with_reducible exact HC2.out _ (Kp.alloc HD0.out _) | exact HC2.out _ ((((Kp.setCell k4 (.inr (by have := k4.size; have := k3.size; first | (simp; done) | (simp; omega))) _).setCell (.inr (by have := k4.size; have := k3.size; first | (simp; done) | (simp; omega))) _).setCell (.inr (by have := k4.size; have := k3.size; first | (simp; done) | (simp; omega))) _).setCell (.inr (by have := k4.size; have := k3.size; first | (simp; done) | (simp; omega))) _)) (first | (go_simp; go_at_call 12; (with_reducible refine HO.out _ _ (by first | with_reducible exact HD0.out | with_reducible exact Kp.alloc HD0.out _ | with_reducible exact Kp.drew (Kp.alloc (Kp.refl [] W2) _)) ?_); intro A2 c2 w3 j3 k3 r3 n3; (try (have bz3 : Bk w3 W2.heap.size 31 [.int .i64 0, .string ⟨#[]⟩, .slice none 0 0, .bool false] := (by first | exact Bk.kp (newPd W2) j3 (by simp) | exact Bk.kp (newP W2).drew j3 (by simp))))) | (go_simp; go_at_call 11; (with_reducible refine HP.out _ _ _ _ (by first | with_reducible exact k3 | with_reducible exact Kp.alloc k3 _) (by first | with_reducible exact r3 | with_reducible exact Rd.kp (S := []) r3 (Kp.alloc (Kp.refl _ _) _) (by simp)) n3 ?_); intro B n d w4 j4 k4 h4; (try (have bz4 : Bk w4 W2.heap.size 31 [.int .i64 0, .string ⟨#[]⟩, .slice none 0 0, .bool false] := (by with_reducible exact Bk.kp bz3 j4 (by simp)); obtain ⟨⟨z0, z1, z2, z3⟩, ⟨zz0, zz1, zz2, zz3⟩⟩ := bk4r bz4)); (try (have bz4 : Bk w4 w3.heap.size 31 [.int .i64 0, .string ⟨#[]⟩, .slice none 0 0, .bool false] := (by exact Bk.kp (newP w3) j4 (by simp)); obtain ⟨⟨z0, z1, z2, z3⟩, ⟨zz0, zz1, zz2, zz3⟩⟩ := bk4r bz4))))
      all_goals
        go_wp2
        go_meet
        first
        | exact ⟨_, B, n, d, rfl, Lib.hid ⟨k4.alloc _, (Bk.new' _ _ _).cast rfl, (h4.out.1).kp (S := []) ((Kp.refl _ _).alloc _) (by simp), h4.out.2.1, h4.out.2.2, k4.size⟩⟩
        | (obtain ⟨W', hW', kW, bW⟩ := put4 bz4 (.int .i64 st) (.string (S hd)) (.slice B n d) (.bool cl)
           rw [hW']
           exact ⟨_, B, n, d, rfl, Lib.hid ⟨k4.thn kW (fun s hs => .inr (by have := k4.size; have := k3.size; simp at hs; omega)), bW, ((rd_notP h4.out.1 bz4).kp kW (by simp)).sub (by simp), h4.out.2.1, h4.out.2.2, by have := k3.size; first | omega | exact Nat.le_refl _⟩⟩)
    case rest =>
      obtain ⟨gp, B, n, d, hx, hC⟩ := hcut
      rw [hx]
      clear hx p0 p1 p2 p3 p4 q0 q1 q2 q3 HO HP
      obtain ⟨⟨p0, p1, p2, p3, p4⟩, ⟨q0, q1, q2, q3⟩⟩ := HC2.out _ hC.out.1
      obtain ⟨W3, hW3⟩ : ∃ x, wc = x := ⟨_, rfl⟩
      rw [hW3] at hC ⊢ p0 p1 p2 p3 p4 q0 q1 q2 q3
      clear hW3
      go_upto_region 8 with (fail)
      refine gen_worldC (fun W4 => ∃ gh, W3.heap.size = gh ∧ Hid (Kp [] W3 W4 ∧ Bk W4 gp 31 [.int .i64 st, .string (S hd), .slice B n d, .bool cl] ∧ Rd W4 [] B (ps.flatMap ptV) ∧ Bk W4 gh 24 (reqC { r with m := headM } A c))) ⟨_, rfl, Lib.hid ⟨(Kp.refl _ _).alloc _, hC.out.2.1.alloc _, hC.out.2.2.1.kp (S := []) ((Kp.refl _ _).alloc _) (by simp), (Bk.new' _ _ _).cast rfl⟩⟩ ?_
      rintro W4 ⟨gh, hgh, hW4⟩
      rw [hgh]
      clear hgh p0 p1 p2 p3 p4 q0 q1 q2 q3
      have HN := Lib.hid hC.out.2.2.2
      have K4 : Hid (Kp [] W2 W4) := Lib.hid (hC.out.1.trans hW4.out.1)
      clear hC
      have HCnt : Hid (∀ (R : Ending → World → Prop) (w1 : World), Kp [] W2 w1 → (∀ w', Kp [] w1 w' → R (.returned (.int .i64 (valsF r.fs rgL).length)) w') → Calls Tryz.prog 13 #[.agg #[.string (S r.m), .string (S r.t), .int .i64 r.minor, .slice A r.fs.length c, .bool r.close], .string ⟨#[114, 97, 110, 103, 101]⟩] w1 R) := Lib.hid (fun R w1 k h => rcount24_any r rgL (HR.out.kp ((hW.out.1.trans k2).trans k) (by simp)) hn h)
      obtain ⟨⟨p0, p1, p2, p3, p4⟩, ⟨q0, q1, q2, q3⟩⟩ := HC2.out _ K4.out
      obtain ⟨cz, hcz⟩ : ∃ cz, (((valsF r.fs rgL).length : Int) == 0) = cz := ⟨_, rfl⟩
      have HCZ : Hid (cz = true → valsF r.fs rgL = []) := Lib.hid (fun e => by rw [← hcz] at e; simpa using e)
      go_upto_if 38 with (go_at_call 13; ((refine HCnt.out _ _ K4.out ?_); intro w5 k5))
      have hP5 : Hid (Kp [] W2 w5 ∧ Bk w5 gp 31 [.int .i64 st, .string (S hd), .slice B n d, .bool cl] ∧ Rd w5 [] B (ps.flatMap ptV) ∧ Bk w5 gh 24 (reqC { r with m := headM } A c)) := Lib.hid ⟨K4.out.trans k5, hW4.out.2.1.kp k5 (by simp), hW4.out.2.2.1.kp k5 (by simp), hW4.out.2.2.2.kp k5 (by simp)⟩
      clear p0 p1 p2 p3 p4 q0 q1 q2 q3 k5 hW4 K4
      go_cut [] (fun W' => Hid (Kp [] W2 W' ∧ Bk W' gp 31 [.int .i64 st, .string (S hd), .slice B n d, .bool cl] ∧ Rd W' [] B (ps.flatMap ptV)))
      case first =>
        cases cz with
        | false =>
          go_wp2
          go_meet
          exact Lib.hid ⟨hP5.out.1, hP5.out.2.1, hP5.out.2.2.1⟩
        | true =>
          have hv0 : Hid (valsF r.fs rgL = []) := Lib.hid (HCZ.out rfl)
          have HO9 : Hid (∀ (R : Ending → World → Prop) (w1 : World), Kp [] w5 w1 → (∀ A' c' w', Kp [] w1 w' → Kp [] w5 w' → Rd w' [] A' (r.fs.flatMap fldC) → r.fs.length ≤ c' → R (.returned (.agg #[.string (S headM), .string (S r.t), .int .i64 r.minor, .slice A' r.fs.length c', .bool r.close])) w') → Calls Tryz.prog 12 #[.agg #[.string (S headM), .string (S r.t), .int .i64 r.minor, .slice A r.fs.length c, .bool r.close]] w1 R) := Lib.hid (fun R w1 k h => of24_any { r with m := headM } w1 (HR.out.kp (((hW.out.1.trans k2).trans hP5.out.1).trans k) (by simp)) hn (fun A' c' w' j hr' _ hc' => h A' c' w' j (k.trans j) hr' hc'))
          have HP9 : Hid (∀ (R : Ending → World → Prop) (w1 : World) (A' : Option Addr) (c' : Nat), Kp [] w5 w1 → Rd w1 [] A' (r.fs.flatMap fldC) → r.fs.length ≤ c' → (∀ B n d w', Kp [] w1 w' → Kp [] w5 w' → Hid (n = 0) → R (.returned (.agg #[.int .i64 st, .string (S hd), .slice B n d, .bool cl])) w') → Calls Tryz.prog 11 #[.agg #[.string (S headM), .string (S r.t), .int .i64 r.minor, .slice A' r.fs.length c', .bool r.close], .bool there, .agg #[.int .i64 v, .int .i64 mt, .int .i64 len, .string (S kd)], .int .i64 now] w1 R) := Lib.hid (fun R w1 A' c' k hr' hc' h => rof_gen { r with m := headM } there v mt len kd now hr' (show r.fs.length ≤ 2000 by omega) hc' ⟨b5, v1.2⟩ ⟨b6, m1.2⟩ hl40 b2 (hw.kp (((hW.out.1.trans k2).trans hP5.out.1).trans k)) (HSZ.out b1) (fun B n d w' j hh => by
            rw [choose_head hgm.out hv0.out, head_head hgm.out hv0.out, HE.out.1, HE.out.2.1]
            have e0 : n = 0 := by have := hh.out.2.1; rw [(parts_head hgm.out there v mt len kd).1] at this; exact this.symm
            have e9 : (r.close || st == 400) = cl := HE.out.2.2.2
            show R (.returned (.agg #[.int .i64 st, .string (S hd), .slice B n d, .bool (r.close || st == 400)])) w'
            rw [e9]
            exact h B n d w' j (k.trans j) (Lib.hid e0)))
          have HC9 : Hid (∀ W', Kp [] w5 W' → ((W'.cell? ⟨gh, 0, none⟩ = some (.string (S headM)) ∧ W'.cell? ⟨gh, 1, none⟩ = some (.string (S r.t)) ∧ W'.cell? ⟨gh, 2, none⟩ = some (.int .i64 r.minor) ∧ W'.cell? ⟨gh, 3, none⟩ = some (.slice A r.fs.length c) ∧ W'.cell? ⟨gh, 4, none⟩ = some (.bool r.close)) ∧ (W'.cell? ⟨gf, 0, none⟩ = some (.int .i64 v) ∧ W'.cell? ⟨gf, 1, none⟩ = some (.int .i64 mt) ∧ W'.cell? ⟨gf, 2, none⟩ = some (.int .i64 len) ∧ W'.cell? ⟨gf, 3, none⟩ = some (.string (S kd))))) := Lib.hid (fun W' k => ⟨(bk5' (hP5.out.2.2.2.kp k (by simp))).1, (HC2.out W' (hP5.out.1.trans k)).2⟩)
          have HD9 : Hid (Kp [] w5 w5.drew) := Lib.hid (Kp.refl _ _).drew
          obtain ⟨⟨p0, p1, p2, p3, p4⟩, ⟨q0, q1, q2, q3⟩⟩ := HC9.out w5 (Kp.refl _ _)
          go_upto_region 9 with (fail)
          go_cut [11] (fun x W' => ∃ gq B9 d9, x = .pointer (some ⟨gq, 0, none⟩) ∧ Hid (Kp [] w5 W' ∧ Bk W' gq 31 [.int .i64 st, .string (S hd), .slice B9 0 d9, .bool cl]))
          case first =>
            go_region_held_law (fun W' => ((W'.cell? ⟨gh, 0, none⟩ = some (.string (S headM)) ∧ W'.cell? ⟨gh, 1, none⟩ = some (.string (S r.t)) ∧ W'.cell? ⟨gh, 2, none⟩ = some (.int .i64 r.minor) ∧ W'.cell? ⟨gh, 3, none⟩ = some (.slice A r.fs.length c) ∧ W'.cell? ⟨gh, 4, none⟩ = some (.bool r.close)) ∧ (W'.cell? ⟨gf, 0, none⟩ = some (.int .i64 v) ∧ W'.cell? ⟨gf, 1, none⟩ = some (.int .i64 mt) ∧ W'.cell? ⟨gf, 2, none⟩ = some (.int .i64 len) ∧ W'.cell? ⟨gf, 3, none⟩ = some (.string (S kd))))) (first | with_reducible exact HC9.out _ k4 | with_reducible exact HC9.out _ k3 | with_reducible exact HC9.out _ HD9.out | with_reducible exact HC9.out _ (Kp.drew (Kp.alloc (Kp.refl [] w5) _)) | with_reducible exact HC9.out _ (Kp.alloc k4 _) | with_reducible exact HC9.out _ (Kp.alloc k3 _) | with_reducible exact HC9.out _ (Kp.alloc HD9.out _) | exact HC9.out _ ((((Kp.setCell k4 (.inr (by have := k4.size; have := k3.size; first | (simp; done) | (simp; omega))) _).setCell (.inr (by have := k4.size; have := k3.size; first | (simp; done) | (simp; omega))) _).setCell (.inr (by have := k4.size; have := k3.size; first | (simp; done) | (simp; omega))) _).setCell (.inr (by have := k4.size; have := k3.size; first | (simp; done) | (simp; omega))) _)) (first | (go_simp; go_at_call 12; (with_reducible refine HO9.out _ _ (by first | with_reducible exact HD9.out | with_reducible exact Kp.alloc HD9.out _ | with_reducible exact Kp.drew (Kp.alloc (Kp.refl [] w5) _)) ?_); intro A2 c2 w3 j3 k3 r3 n3; (try (have bz3 : Bk w3 w5.heap.size 31 [.int .i64 0, .string ⟨#[]⟩, .slice none 0 0, .bool false] := (by first | exact Bk.kp (newPd w5) j3 (by simp) | exact Bk.kp (newP w5).drew j3 (by simp))))) | (go_simp; go_at_call 11; (with_reducible refine HP9.out _ _ _ _ (by first | with_reducible exact k3 | with_reducible exact Kp.alloc k3 _) (by first | with_reducible exact r3 | with_reducible exact Rd.kp (S := []) r3 (Kp.alloc (Kp.refl _ _) _) (by simp)) n3 ?_); intro B9 n9 d9 w4 j4 k4 h4; (try (have bz4 : Bk w4 w5.heap.size 31 [.int .i64 0, .string ⟨#[]⟩, .slice none 0 0, .bool false] := (by with_reducible exact Bk.kp bz3 j4 (by simp)); obtain ⟨⟨z0, z1, z2, z3⟩, ⟨zz0, zz1, zz2, zz3⟩⟩ := bk4r bz4)); (try (have bz4 : Bk w4 w3.heap.size 31 [.int .i64 0, .string ⟨#[]⟩, .slice none 0 0, .bool false] := (by exact Bk.kp (newP w3) j4 (by simp)); obtain ⟨⟨z0, z1, z2, z3⟩, ⟨zz0, zz1, zz2, zz3⟩⟩ := bk4r bz4))))
            all_goals
              have e0 := h4.out
              subst e0
              go_wp2
              go_meet
              first
              | exact ⟨_, B9, d9, rfl, Lib.hid ⟨k4.alloc _, (Bk.new' _ _ _).cast rfl⟩⟩
              | (obtain ⟨W', hW', kW, bW⟩ := put4 bz4 (.int .i64 st) (.string (S hd)) (.slice B9 0 d9) (.bool cl)
                 rw [hW']
                 exact ⟨_, B9, d9, rfl, Lib.hid ⟨k4.thn kW (fun s hs => .inr (by have := k4.size; have := k3.size; simp at hs; omega)), bW⟩⟩)
          case rest =>
            obtain ⟨gq, B9, d9, hx9, hq9⟩ := hcut
            rw [hx9]
            clear hx9 p0 p1 p2 p3 p4 q0 q1 q2 q3
            have z0 := (bk4r hq9.out.2).1
            have z1 := (bk4r (hP5.out.2.1.kp hq9.out.1 (by simp))).1
            obtain ⟨x0, x1, x2, x3⟩ := z0
            obtain ⟨y0, y1, y2, y3⟩ := z1
            have f1 : (hd != hd) = false := by simp
            have f2 : (st != st) = false := by simp
            go_wp2
            go_meet
            exact Lib.hid ⟨hP5.out.1.trans hq9.out.1, hP5.out.2.1.kp hq9.out.1 (by simp), hP5.out.2.2.1.kp hq9.out.1 (by simp)⟩
      case rest =>
        have hpl := rlen_plain r hgm.out there v mt len kd now b2 ⟨b5, v1.2⟩ ⟨b6, m1.2⟩ hl40
        rw [HE.out.1, HE.out.2.1, HE.out.2.2.1] at hpl
        obtain ⟨sm, hsm⟩ : ∃ sm, sumG ps = sm := ⟨_, rfl⟩
        have hsb := sum_bd ps (fun p hp => (hpl.1 p hp).2)
        rw [hsm] at hpl hsb
        have HPS := Lib.hid hpl.1
        have hhd := hpl.2.1
        obtain ⟨bs, hbs⟩ : ∃ bs, (st == 304) = bs := ⟨_, rfl⟩
        have HSR : Hid ((∃ i, (hd.drop i).take (lenLn sm).length = lenLn sm) ↔ bs = false) := Lib.hid (by rw [hpl.2.2.1, ← hbs]; simp)
        have HS0 : Hid (bs = true → sm = 0) := Lib.hid (fun e => hpl.2.2.2 (by rw [← hbs] at e; simpa using e))
        have hs0 : 0 ≤ sm := hsb.1
        have hs1 : sm ≤ 738871813886472 := by have h1 := hsb.2; have h2 := HN.out.1; have h3 := HN.out.2.1; rw [h2] at h1; omega
        have HSM := Lib.hid hsm
        clear hpl hsb hsm
        obtain ⟨⟨y0, y1, y2, y3⟩, _⟩ := bk4r hcut.out.2.1
        go_upto_block 0 with (fail)
        go_cut [12] from 63 (fun nv W' => nv = .int .i64 sm ∧ Hid (Kp [] W2 W' ∧ Bk W' gp 31 [.int .i64 st, .string (S hd), .slice B n d, .bool cl]))
        case first =>
          have hrn := HN.out.1
          have hn21 := HN.out.2.1
          clear y0 y1 y2 y3
          go_wp2
          go_loopw [12, 13] (fun sv iv wr => ∃ (k : Nat) (s : Int), k ≤ n ∧ iv = .int .i64 k ∧ sv = .int .i64 s ∧ 0 ≤ s ∧ s ≤ k * 35184372089832 ∧ Hid (s = sumG (ps.take k)) ∧ Hid (Kp [] W2 wr ∧ Bk wr gp 31 [.int .i64 st, .string (S hd), .slice B n d, .bool cl] ∧ Rd wr [] B (ps.flatMap ptV))) (fun _ iv _ => n - (intOf iv).toNat)
          case atStart => exact ⟨0, 0, Nat.zero_le _, rfl, rfl, by omega, by omega, Lib.hid (by simp [sumG]), hcut⟩
          case round =>
            obtain ⟨k, s, hk, rfl, rfl, s0, s1, hs, hr9⟩ := hrel
            have y2 : wr.cell? ⟨gp, 2, none⟩ = some (.slice B n d) := hr9.out.2.1.cell 2
            by_cases hlt : k < n
            · obtain ⟨⟨pt, pf, pl⟩, hp⟩ : ∃ p, ps[k]? = some p := ⟨_, List.getElem?_eq_getElem (by omega)⟩
              obtain ⟨b, off, rfl, _, _, hc⟩ := rd_at hr9.out.2.2 ptV_len (by omega) hp
              have z0 : wr.cell? ⟨b, off + k * 3, none⟩ = some (.string (S pt)) := hc 0 _ rfl
              have z1 : wr.cell? ⟨b, off + k * 3 + 1, none⟩ = some (.int .i64 pf) := hc 1 _ rfl
              have z2 : wr.cell? ⟨b, off + k * 3 + 2, none⟩ = some (.int .i64 pl) := hc 2 _ rfl
              have q2 : wr.cell? ⟨gf, 2, none⟩ = some (.int .i64 len) := (HC2.out _ hr9.out.1).2.2.2.1
              obtain ⟨hin, hop⟩ := HPS.out _ (List.mem_of_getElem? hp)
              unfold okPt at hop
              unfold inP at hin
              obtain ⟨o1, o2, o3⟩ := hop
              obtain ⟨i1, i2, i3⟩ := hin
              simp only at o1 o2 o3 i1 i2 i3
              have x1 : IntKind.i64.wrap (s + (pt.length : Int)) = s + pt.length := wrap_ok (by omega) (by omega)
              have x2 : IntKind.i64.wrap (s + (pt.length : Int) + pl) = s + pt.length + pl := wrap_ok (by omega) (by omega)
              have HS : Hid (s + (pt.length : Int) + pl = sumG (ps.take (k + 1))) := Lib.hid (by rw [sum_take hp, hs.out]; simp only; omega)
              have HK : Hid (Kp [] W2 (wr.alloc (.cells #[.string (S pt), .int .i64 pf, .int .i64 pl] 40)) ∧ Bk (wr.alloc (.cells #[.string (S pt), .int .i64 pf, .int .i64 pl] 40)) gp 31 [.int .i64 st, .string (S hd), .slice (some ⟨b, off, none⟩) n d, .bool cl] ∧ Rd (wr.alloc (.cells #[.string (S pt), .int .i64 pf, .int .i64 pl] 40)) [] (some ⟨b, off, none⟩) (ps.flatMap ptV)) := Lib.hid ⟨hr9.out.1.alloc _, hr9.out.2.1.alloc _, hr9.out.2.2.kp (S := []) ((Kp.refl _ _).alloc _) (by simp)⟩
              have hr9lt := hr9.out.2.1.lt
              have hgflt : gf < wr.heap.size := by have h1 := hW.out.2.2.lt; have h2 := k2.size; have h3 := hr9.out.1.size; omega
              clear hc hp hs hr9
              have g1 : decide (pl < 0) = false := by simp; omega
              have g2 : decide (pf < 0) = false := by simp; omega
              by_cases hpos : 0 < pl
              · obtain ⟨i4, rfl⟩ := i3 hpos
                have g3 : decide (0 < pl) = true := by simpa using hpos
                have g4 : IntKind.i64.wrap (pf + pl) = pf + pl := wrap_ok (by omega) (by omega)
                have g5 : decide (len < pf + pl) = false := by simp; omega
                have HS2 : Hid (s + pl = sumG (ps.take (k + 1))) := Lib.hid (by have := HS.out; simpa using this)
                go_wp2
                exact ⟨⟨k + 1, _, by omega, by go_num, rfl, by omega, by omega, HS2, HK⟩, by simp [intOf]; omega⟩
              · have g3 : decide (0 < pl) = false := by simpa using hpos
                go_wp2
                exact ⟨⟨k + 1, _, by omega, by go_num, rfl, by omega, by omega, HS, HK⟩, by simp [intOf]; omega⟩
            · obtain rfl : k = n := by omega
              have e : s = sm := by rw [hs.out, ← HSM.out, List.take_of_length_le (by omega)]
              subst e
              clear hs
              go_wp2
              go_meet
              exact ⟨rfl, Lib.hid ⟨hr9.out.1, hr9.out.2.1⟩⟩
        case rest =>
          obtain ⟨hx, hP⟩ := hcut
          rw [hx]
          clear hx y0 y1 y2 y3
          have el := itoaL_len sm (by omega) (by omega)
          go_upto_region 20 with (fail)
          go_cut [15] (fun lv W' => lv = .string (S (lenLn sm)) ∧ Hid (Kp [] W2 W' ∧ Bk W' gp 31 [.int .i64 st, .string (S hd), .slice B n d, .bool cl]))
          case first =>
            go_wp2_with (go_at_call 14; ((refine rdigits_sgn _ _ (by omega) (by omega) ?_); intro w8 k8))
            go_meet
            exact ⟨by simp [lenLn, ln, clN], Lib.hid ⟨hP.out.1.trans k8, hP.out.2.kp k8 (by simp)⟩⟩
          case rest =>
            obtain ⟨hx, hQ⟩ := hcut
            rw [hx]
            clear hx
            obtain ⟨⟨y0, y1, y2, y3⟩, _⟩ := bk4r hQ.out.2
            obtain ⟨x, hxl⟩ : ∃ x, lenLn sm = x := ⟨_, rfl⟩
            have hx0 : x ≠ [] := by rw [← hxl]; simp [lenLn]
            have hx1 : x.length ≤ 100 := by rw [← hxl, lenLn_len]; simp [ln, clN]; omega
            rw [hxl] at HSR ⊢
            have HF : Hid (∀ k, hd.length < k + x.length → srchB hd x k = !bs) := Lib.hid (fun k hk => by
              have h1 := srchB_iff (s := hd) (k := k) hx0 (fun i hi => by omega)
              have h2 := HSR.out
              rw [h2] at h1
              cases bs <;> simp at h1 ⊢ <;> simp [h1])
            go_wp2
            go_loopw [16, 17] (fun fv iv wr => ∃ k : Nat, k ≤ 4000 ∧ iv = .int .i64 k ∧ fv = .bool (srchB hd x k) ∧ wr = wc) (fun _ iv _ => 4001 - (intOf iv).toNat)
            case atStart => exact ⟨0, by omega, rfl, rfl, rfl⟩
            case round =>
              obtain ⟨k, hk, rfl, rfl, rfl⟩ := hrel
              have x1 : IntKind.i64.wrap ((k : Int) + x.length) = k + x.length := wrap_ok (by omega) (by omega)
              by_cases hlt : k + x.length ≤ hd.length
              · have h0 := List.length_pos_iff.2 hx0
                have f1 : decide ((k : Int) + x.length ≤ hd.length) = true := by simp; omega
                obtain ⟨q, hq⟩ : ∃ q, ((hd.take (k + x.length)).drop k == x) = q := ⟨_, rfl⟩
                have HS := srchB_succ hd x k
                rw [← slc_eq, hq] at HS
                obtain ⟨fb, hfb⟩ : ∃ fb, srchB hd x k = fb := ⟨_, rfl⟩
                rw [hfb] at HS ⊢
                clear hfb
                cases fb with
                | true =>
                  go_wp2
                  exact ⟨⟨k + 1, by omega, by go_num, by rw [HS]; rfl, by trivial⟩, by simp [intOf]; omega⟩
                | false =>
                  go_wp2
                  exact ⟨⟨k + 1, by omega, by go_num, by rw [HS]; simp [hq], by trivial⟩, by simp [intOf]; omega⟩
              · have f1 : decide ((k : Int) + x.length ≤ hd.length) = false := by simp; omega
                have e := HF.out k (by omega)
                rw [e]
                have HS0' := HS0.out
                clear e HF HSR
                cases bs with
                | true =>
                  have e0 := HS0' rfl
                  subst e0
                  have f2 : (st != 304) = false := by simpa using hbs
                  go_wp2
                  exact H.out _ (hW.out.1.trans (k2.trans hQ.out.1))
                | false =>
                  have f2 : (st != 304) = true := by simpa using hbs
                  go_wp2
                  exact H.out _ (hW.out.1.trans (k2.trans hQ.out.1))
end
end
end Go.Proofs.YtnmafahbdfilcaaGreatDoor
