/- RespondForm, walked. -/
import Derived.Test.YtnmafahbdfilcaaGreatDoorPB22
import Derived.Test.YtnmafahbdfilcaaGreatDoorPB27
import Derived.BigQuiet
import Derived.Deep.CutBlock
import Derived.Deep.DeepCutAuto
namespace Go.Proofs.YtnmafahbdfilcaaGreatDoor
/-! ### RespondForm, walked. -/
section
open Go.RowKit Go.Shelf
set_option linter.unusedVariables false
set_option linter.unusedSimpArgs false
set_option maxRecDepth 100000
/-- What the law's loop sees of a plan. -/
structure PlV (W : World) (gb k : Nat) (st : Int) (hd : List UInt8) (cl : Bool) : Prop where
  c0 : W.cell? ⟨gb, k * 4, none⟩ = some (.int .i64 st)
  c1 : W.cell? ⟨gb, k * 4 + 1, none⟩ = some (.string (S hd))
  c3 : W.cell? ⟨gb, k * 4 + 3, none⟩ = some (.bool cl)
  fm : FormS hd (line1 (decL st.toNat) (rsnL st)) cl
  len : hd.length ≤ 4000
  s0 : 0 ≤ st
  s1 : st ≤ 9999
  lt : gb < W.heap.size
theorem two_plans {W : World} {gb : Nat} {st st' : Int} {hd hd' : List UInt8} {B B' : Option Addr} {n d n' d' : Nat} {cl cl' : Bool} (h : Bk W gb 31 [.int .i64 st, .string (S hd), .slice B n d, .bool cl, .int .i64 st', .string (S hd'), .slice B' n' d', .bool cl'])
    (f : FormS hd (line1 (decL st.toNat) (rsnL st)) cl) (f' : FormS hd' (line1 (decL st'.toNat) (rsnL st')) cl') (l : hd.length ≤ 4000) (l' : hd'.length ≤ 4000) (s : 0 ≤ st ∧ st ≤ 9999) (s' : 0 ≤ st' ∧ st' ≤ 9999) {k : Nat} (hk : k < 2) : ∃ st hd cl, PlV W gb k st hd cl := by
  match k, hk with
  | 0, _ => exact ⟨st, hd, cl, h.cell 0, h.cell 1, h.cell 3, f, l, s.1, s.2, h.lt⟩
  | 1, _ => exact ⟨st', hd', cl', h.cell 4, h.cell 5, h.cell 7, f', l', s'.1, s'.2, h.lt⟩
theorem line1_len {st : Int} (h0 : 0 ≤ st) (h1 : st ≤ 9999) : (line1 (decL st.toNat) (rsnL st)).length ≤ 100 := by
  have e1 := dec3 (n := st.toNat) (by omega)
  have e2 := rsn_len st
  unfold line1
  simp only [List.length_append, List.length_cons, List.length_nil]
  omega
theorem conn_lit21 : connLn = [13, 10, 67, 111, 110, 110, 101, 99, 116, 105, 111, 110, 58, 32, 99, 108, 111, 115, 101, 13, 10] := by decide
theorem srch_conn (s : List UInt8) (i : Nat) : srchB s connLn (i + 1) = (srchB s connLn i || ((s.take (i + 21)).drop i == [13, 10, 67, 111, 110, 110, 101, 99, 116, 105, 111, 110, 58, 32, 99, 108, 111, 115, 101, 13, 10])) := by
  rw [srchB_succ, slc_eq]
  rfl
theorem form_len {s b : List UInt8} {cl : Bool} (h : FormS s b cl) : 4 ≤ s.length := by
  have h1 := congrArg List.length h.fin
  rw [List.length_drop] at h1
  have h2 : emptyL.length = 4 := rfl
  omega
section
variable {R : Ending → World → Prop} {w : World}
set_option maxHeartbeats 16000000 in
theorem rform_walk (r : Req) (there : Bool) (v mt len : Int) (kd : List UInt8) (now wrong : Int) {A : Option Addr} {c : Nat} (hr : Rd w [] A (r.fs.flatMap fldC)) (hc : r.fs.length ≤ c)
    (v1 : -9223372036854775808 ≤ v ∧ v ≤ 9223372036854775807) (m1 : -9223372036854775808 ≤ mt ∧ mt ≤ 9223372036854775807) (hsz : r.fs.length ≤ 60 → ∀ nm, (allF r.fs nm).length ≤ 2000000) (hw : Lw w) (h : ∀ w', Kp [] w w' → R (.returned (.bool true)) w') :
    Calls Tryz.prog 4 #[.agg #[.string (S r.m), .string (S r.t), .int .i64 r.minor, .slice A r.fs.length c, .bool r.close], .bool there, .agg #[.int .i64 v, .int .i64 mt, .int .i64 len, .string (S kd)], .int .i64 now, .int .i64 wrong] w R := by
  have H := Lib.hid h
  have HR := Lib.hid hr
  have HSZ := Lib.hid hsz
  have HFar : Hid (∀ (R : Ending → World → Prop) (w1 : World), (∀ w', Kp [] w1 w' → R (.returned (.bool true)) w') → (∀ w', Kp [] w1 w' → Hid (r.fs.length ≤ 60 ∧ kd.length ≤ 300 ∧ 0 ≤ len ∧ len ≤ 1099511627776 ∧ 0 ≤ v ∧ 0 ≤ mt) → R (.returned (.bool false)) w') → Calls Tryz.prog 10 #[.agg #[.string (S r.m), .string (S r.t), .int .i64 r.minor, .slice A r.fs.length c, .bool r.close], .agg #[.int .i64 v, .int .i64 mt, .int .i64 len, .string (S kd)]] w1 R) := Lib.hid (fun R w1 h1 h0 => far27_any r v mt len kd (fun b w' k e => by cases b with | true => exact h1 w' k | false => exact h0 w' k (Lib.hid (e rfl))))
  clear h hr hsz
  go_enter Tryz.func4, Tryz.ntmps4
  go_upto_region 3 with (go_at_call 9; ((refine alive27b_any (hw.kp (((Kp.refl _ _).alloc _).alloc _)) ?_); intro w1 k1))
  refine gen_worldC (fun W => ∃ gr gf, w.heap.size = gr ∧ gr + 1 = gf ∧ Hid (Kp [] w W ∧ Bk W gr 24 (reqC r A c) ∧ Bk W gf 26 [.int .i64 v, .int .i64 mt, .int .i64 len, .string (S kd)])) ⟨_, _, rfl, rfl, Lib.hid ⟨(((Kp.refl _ _).alloc _).alloc _).trans k1, (((Bk.new' _ _ _).alloc _).kp k1 (by simp)).cast rfl, ((Bk.newAt (by simp) _ _).kp k1 (by simp)).cast rfl⟩⟩ ?_
  rintro W ⟨gr, gf, hgr, hgf, hW⟩
  rw [hgr, hgf]
  have HG : Hid (gr < gf) := Lib.hid (by omega)
  clear hgr hgf k1
  have HC : Hid (∀ W', Kp [] W W' → ((W'.cell? ⟨gr, 0, none⟩ = some (.string (S r.m)) ∧ W'.cell? ⟨gr, 1, none⟩ = some (.string (S r.t)) ∧ W'.cell? ⟨gr, 2, none⟩ = some (.int .i64 r.minor) ∧ W'.cell? ⟨gr, 3, none⟩ = some (.slice A r.fs.length c) ∧ W'.cell? ⟨gr, 4, none⟩ = some (.bool r.close)) ∧ (W'.cell? ⟨gf, 0, none⟩ = some (.int .i64 v) ∧ W'.cell? ⟨gf, 1, none⟩ = some (.int .i64 mt) ∧ W'.cell? ⟨gf, 2, none⟩ = some (.int .i64 len) ∧ W'.cell? ⟨gf, 3, none⟩ = some (.string (S kd))))) := Lib.hid (fun W' k => ⟨(bk5' (hW.out.2.1.kp k (by simp))).1, (bk4r (hW.out.2.2.kp k (by simp))).1⟩)
  obtain ⟨⟨p0, p1, p2, p3, p4⟩, ⟨q0, q1, q2, q3⟩⟩ := HC.out W (Kp.refl _ _)
  go_upto_region 5 with (go_at_call 10; ((refine HFar.out _ _ (fun W2 k2 => ?_) (fun W2 k2 hb2 => ?_)) <;> (obtain ⟨⟨u0, u1, u2, u3, u4⟩, ⟨t0, t1, t2, t3⟩⟩ := HC.out _ k2)))
  · exact H.out _ (hW.out.1.trans k2)
  clear p0 p1 p2 p3 p4 q0 q1 q2 q3 u0 u1 u2 u3 u4 t0 t1 t2 t3
  obtain ⟨b1, b2, b3, b4, b5, b6⟩ := hb2.out
  have hn : r.fs.length ≤ 100000 := by omega
  have hl40 : 0 ≤ len ∧ len ≤ 35184372088832 := ⟨b3, by omega⟩
  have HC2 : Hid (∀ W', Kp [] W2 W' → ((W'.cell? ⟨gr, 0, none⟩ = some (.string (S r.m)) ∧ W'.cell? ⟨gr, 1, none⟩ = some (.string (S r.t)) ∧ W'.cell? ⟨gr, 2, none⟩ = some (.int .i64 r.minor) ∧ W'.cell? ⟨gr, 3, none⟩ = some (.slice A r.fs.length c) ∧ W'.cell? ⟨gr, 4, none⟩ = some (.bool r.close)) ∧ (W'.cell? ⟨gf, 0, none⟩ = some (.int .i64 v) ∧ W'.cell? ⟨gf, 1, none⟩ = some (.int .i64 mt) ∧ W'.cell? ⟨gf, 2, none⟩ = some (.int .i64 len) ∧ W'.cell? ⟨gf, 3, none⟩ = some (.string (S kd))))) := Lib.hid (fun W' k => HC.out W' (k2.trans k))
  go_upto_block 0 with (fail)
  go_cut [] from 23 (fun W' => W' = W2 ∧ Hid (∀ x ∈ kd, 32 ≤ x.toNat))
  case first =>
    obtain ⟨⟨p0, p1, p2, p3, p4⟩, ⟨q0, q1, q2, q3⟩⟩ := HC2.out W2 (Kp.refl _ _)
    go_wp2
    go_loopw [11] (fun iv wr => ∃ (i : Nat), i ≤ kd.length ∧ iv = .int .i64 i ∧ Hid (∀ x ∈ kd.take i, 32 ≤ x.toNat) ∧ wr = W2) (fun iv _ => kd.length - (intOf iv).toNat)
    case atStart => exact ⟨0, Nat.zero_le _, rfl, Lib.hid (by simp), rfl⟩
    case round =>
      obtain ⟨i, hi, rfl, hx, rfl⟩ := hrel
      by_cases hlt : i < kd.length
      · obtain ⟨x, hxe⟩ : ∃ x, kd[i]'hlt = x := ⟨_, rfl⟩
        by_cases hlo : x.toNat < 32
        · have e : decide ((x.toNat : Int) < 32) = true := by simp; omega
          go_wp2
          exact H.out _ (hW.out.1.trans k2)
        · have e : decide ((x.toNat : Int) < 32) = false := by simp; omega
          have HX : Hid (∀ x ∈ kd.take (i + 1), 32 ≤ x.toNat) := Lib.hid (fun y hy => by
            rw [List.take_succ_eq_append_getElem hlt, hxe] at hy
            rcases List.mem_append.1 hy with hy | hy
            · exact hx.out y hy
            · simp at hy; subst hy; omega)
          clear hx hlo
          go_wp2
          exact ⟨⟨i + 1, by omega, by go_num, HX, by trivial⟩, by simp [intOf]; omega⟩
      · have e := hx.out
        rw [List.take_of_length_le (by omega)] at e
        have HE := Lib.hid e
        clear e hx
        go_wp2
        go_meet
        exact ⟨rfl, HE⟩
  case rest =>
    obtain ⟨hx0, hkx⟩ := hcut
    rw [hx0]
    clear hx0
    have hcl : cleanL kd := fun x hx => by
      have := hkx.out x hx
      constructor
      · intro e; subst e; revert this; decide
      · intro e; subst e; revert this; decide
    have HO : Hid (∀ (R : Ending → World → Prop) (w1 : World), Kp [] W2 w1 → (∀ A' c' w', Kp [] w1 w' → Kp [] W2 w' → Rd w' [] A' (r.fs.flatMap fldC) → r.fs.length ≤ c' → R (.returned (.agg #[.string (S r.m), .string (S r.t), .int .i64 r.minor, .slice A' r.fs.length c', .bool r.close])) w') → Calls Tryz.prog 12 #[.agg #[.string (S r.m), .string (S r.t), .int .i64 r.minor, .slice A r.fs.length c, .bool r.close]] w1 R) := Lib.hid (fun R w1 k h => of24_any r w1 (HR.out.kp ((hW.out.1.trans k2).trans k) (by simp)) hn (fun A' c' w' j hr' _ hc' => h A' c' w' j (k.trans j) hr' hc'))
    have HP : Hid (∀ (R : Ending → World → Prop) (w1 : World) (A' : Option Addr) (c' : Nat), Kp [] W2 w1 → Rd w1 [] A' (r.fs.flatMap fldC) → r.fs.length ≤ c' → (∀ B n d w', Kp [] w1 w' → Kp [] W2 w' → R (.returned (.agg #[.int .i64 (chooseM r there v mt len).1, .string (S (ofH r there v mt len kd now)), .slice B n d, .bool (r.close || (chooseM r there v mt len).1 == 400)])) w') → Calls Tryz.prog 11 #[.agg #[.string (S r.m), .string (S r.t), .int .i64 r.minor, .slice A' r.fs.length c', .bool r.close], .bool there, .agg #[.int .i64 v, .int .i64 mt, .int .i64 len, .string (S kd)], .int .i64 now] w1 R) := Lib.hid (fun R w1 A' c' k hr' hc' h => rof_gen r there v mt len kd now hr' (by omega) hc' ⟨b5, v1.2⟩ ⟨b6, m1.2⟩ hl40 b2 (hw.kp ((hW.out.1.trans k2).trans k)) (HSZ.out b1) (fun B n d w' j hh => h B n d w' j (k.trans j)))
    have HWr : Hid (∀ (R : Ending → World → Prop) (w1 : World), Kp [] W2 w1 → (∀ B n d w', Kp [] w1 w' → Kp [] W2 w' → R (.returned (.agg #[.int .i64 (wrS wrong), .string (S (wrH wrong now)), .slice B n d, .bool true])) w') → Calls Tryz.prog 15 #[.int .i64 wrong, .int .i64 now] w1 R) := Lib.hid (fun R w1 k h => rwrong_gen wrong now (hw.kp ((hW.out.1.trans k2).trans k)) (fun B n d w' j hh => h B n d w' j (k.trans j)))
    have F1 : Hid (FormS (ofH r there v mt len kd now) (line1 (decL (chooseM r there v mt len).1.toNat) (rsnL (chooseM r there v mt len).1)) (r.close || (chooseM r there v mt len).1 == 400) ∧ (ofH r there v mt len kd now).length ≤ 4000 ∧ 0 ≤ (chooseM r there v mt len).1 ∧ (chooseM r there v mt len).1 ≤ 9999) := Lib.hid ⟨form_head ⟨(chooseM r there v mt len).1, r.minor, r.close || (chooseM r there v mt len).1 == 400, v, mt, len, kd, now, (chooseM r there v mt len).2, sumG (partsG (chooseM r there v mt len).1 len kd (chooseM r there v mt len).2)⟩ hcl, ofH_len r there v mt len kd now b2 ⟨b5, v1.2⟩ ⟨b6, m1.2⟩ hl40, choose_st r there v mt len⟩
    have F2 : Hid (FormS (wrH wrong now) (line1 (decL (wrS wrong).toNat) (rsnL (wrS wrong))) true ∧ (wrH wrong now).length ≤ 4000 ∧ 0 ≤ wrS wrong ∧ wrS wrong ≤ 9999) := Lib.hid ⟨form_head ⟨wrS wrong, 1, true, 0, 0, 0, [], now, [], sumG (partsG (wrS wrong) 0 [] [])⟩ cleanL.nil, wrH_len wrong now, by have := wrS_bd wrong; omega, by have := wrS_bd wrong; omega⟩
    obtain ⟨st, e1⟩ : ∃ x, (chooseM r there v mt len).1 = x := ⟨_, rfl⟩
    obtain ⟨hd, e2⟩ : ∃ x, ofH r there v mt len kd now = x := ⟨_, rfl⟩
    obtain ⟨cl, e4⟩ : ∃ x, (r.close || st == 400) = x := ⟨_, rfl⟩
    obtain ⟨st', e5⟩ : ∃ x, wrS wrong = x := ⟨_, rfl⟩
    obtain ⟨hd', e6⟩ : ∃ x, wrH wrong now = x := ⟨_, rfl⟩
    rw [e1] at HP F1
    rw [e4] at HP F1
    rw [e2] at HP F1
    rw [e5, e6] at HWr F2
    clear e1 e2 e4 e5 e6 hkx hcl hb2
    obtain ⟨⟨p0, p1, p2, p3, p4⟩, ⟨q0, q1, q2, q3⟩⟩ := HC2.out W2 (Kp.refl _ _)
    have HD0 : Hid (Kp [] W2 W2.drew) := Lib.hid (Kp.refl _ _).drew
    have HR2 : Hid (Kp [] W2 W2) := Lib.hid (Kp.refl _ _)
    go_upto_region 10 with (fail)
    go_cut [12] (fun x W' => ∃ gb B n d B' n' d', x = .slice (some ⟨gb, 0, none⟩) 2 2 ∧ Hid (Kp [] W2 W' ∧ Bk W' gb 31 [.int .i64 st, .string (S hd), .slice B n d, .bool cl, .int .i64 st', .string (S hd'), .slice B' n' d', .bool true]))
    case first =>
      go_region_held_law (fun W' => ((W'.cell? ⟨gr, 0, none⟩ = some (.string (S r.m)) ∧ W'.cell? ⟨gr, 1, none⟩ = some (.string (S r.t)) ∧ W'.cell? ⟨gr, 2, none⟩ = some (.int .i64 r.minor) ∧ W'.cell? ⟨gr, 3, none⟩ = some (.slice A r.fs.length c) ∧ W'.cell? ⟨gr, 4, none⟩ = some (.bool r.close)) ∧ (W'.cell? ⟨gf, 0, none⟩ = some (.int .i64 v) ∧ W'.cell? ⟨gf, 1, none⟩ = some (.int .i64 mt) ∧ W'.cell? ⟨gf, 2, none⟩ = some (.int .i64 len) ∧ W'.cell? ⟨gf, 3, none⟩ = some (.string (S kd))))) (first | with_reducible exact HC2.out _ HD0.out | with_reducible exact HC2.out _ (Kp.alloc k5 _) | exact HC2.out _ (by assumption)) (first | (go_simp; go_at_call 12; (with_reducible refine HO.out _ _ (by first | with_reducible exact HD0.out | assumption) ?_); intro A2 c2 w3 j3 k3 r3 n3) | (go_simp; go_at_call 15; (with_reducible refine HWr.out _ _ (by first | with_reducible exact HD0.out | assumption) ?_); intro B' n' d' w5 j5 k5; (try have r5 := Rd.kp (S := []) r3 j5 (by simp))) | (go_simp; go_at_call 11; (with_reducible refine HP.out _ _ _ _ (by assumption) (by assumption) n3 ?_); intro B n d w4 j4 k4))
      all_goals
        go_wp2
        go_meet
        exact ⟨_, B, n, d, B', n', d', rfl, Lib.hid ⟨k5.alloc _, (Bk.new' _ _ _).cast rfl⟩⟩
    case rest =>
      obtain ⟨gb, B, n, d, B', n', d', hx, hC⟩ := hcut
      rw [hx]
      clear hx p0 p1 p2 p3 p4 q0 q1 q2 q3 HO HP HWr HD0 HR2 HC2
      have HPl : Hid (∀ k, k < 2 → ∀ W', Kp [] wc W' → ∃ st hd cl, PlV W' gb k st hd cl) := Lib.hid (fun k hk W' k' => two_plans (hC.out.2.kp k' (by simp)) F1.out.1 F2.out.1 F1.out.2.1 F2.out.2.1 F1.out.2.2 F2.out.2.2 hk)
      have KF : Hid (Kp [] w wc) := Lib.hid (hW.out.1.trans (k2.trans hC.out.1))
      clear F1 F2 hC
      obtain ⟨W9, hW9⟩ : ∃ x, wc = x := ⟨_, rfl⟩
      rw [hW9] at HPl KF ⊢
      clear hW9
      go_wp2
      go_loopw [13] (fun kv wr => ∃ k : Nat, k ≤ 2 ∧ kv = .int .i64 k ∧ Hid (Kp [] W9 wr)) (fun kv _ => 2 - (intOf kv).toNat)
      case atStart => exact ⟨0, by omega, rfl, Lib.hid (Kp.refl _ _)⟩
      case round =>
        obtain ⟨k, hk, rfl, hkr⟩ := hrel
        by_cases hlt : k < 2
        · obtain ⟨st, hd, cl, hp⟩ := HPl.out k hlt _ hkr.out
          obtain ⟨c0, c1, c3, fm, ln, s0, s1, glt⟩ := hp
          have FM := Lib.hid fm
          have hbl := line1_len s0 s1
          obtain ⟨bg, hbg⟩ : ∃ bg, line1 (decL st.toNat) (rsnL st) = bg := ⟨_, rfl⟩
          have HDg : Hid (∀ (R : Ending → World → Prop) (w : World), (∀ w', Kp [] w w' → R (.returned (.string (S (decL st.toNat)))) w') → Calls Tryz.prog 14 #[.int .i64 st] w R) := Lib.hid (fun R w b => rdigits_sgn st w (by omega) (by omega) (fun w' k' => by
            have e : itoaL st = decL st.toNat := by rw [← itoaL_nat, Int.toNat_of_nonneg s0]
            rw [e]; exact b w' k'))
          have HRs : Hid (∀ (R : Ending → World → Prop) (w : World), R (.returned (.string (S (rsnL st)))) w → Calls Tryz.prog 16 #[.int .i64 st] w R) := Lib.hid (fun R w h => reason_any st w h)
          have hd3 := dec3 (n := st.toNat) (by omega)
          have hr3 := rsn_len st
          obtain ⟨ds, hds⟩ : ∃ ds, decL st.toNat = ds := ⟨_, rfl⟩
          obtain ⟨rs, hrs⟩ : ∃ rs, rsnL st = rs := ⟨_, rfl⟩
          rw [hds] at HDg hd3 hbg
          rw [hrs] at HRs hr3 hbg
          rw [hds, hrs, hbg] at FM
          rw [hds, hrs, hbg] at hbl
          have HBG : Hid (line1 ds rs = bg) := Lib.hid hbg
          clear fm hds hrs hbg
          go_upto_region 15 with (fail)
          go_cut [15] (fun x W' => x = .string (S bg) ∧ Hid (Kp [] wr W'))
          case first =>
            refine wp_region_kp (by kernel_rfl) (by kernel_rfl) ?_
            repeat (go_big_quiet_step (first | (go_at_call 14; ((refine HDg.out _ _ ?_); intro w' k'; exact kpx_mk k')) | (go_at_call 16; (refine HRs.out _ _ ?_; exact kpx_mk (Kp.refl _ _))) | (rw [if_neg (by simp only [List.length_append, List.length_cons, List.length_nil]; omega)]; exact ⟨rfl, rfl⟩) | (rw [if_neg (by omega)]; exact ⟨rfl, rfl⟩)))
            refine wpQuiet_nil ?_
            intro w6 k6
            go_wp2
            go_meet
            exact ⟨by rw [← HBG.out]; simp [line1], Lib.hid k6⟩
          case rest =>
            obtain ⟨hx, hk6⟩ := hcut
            rw [hx]
            clear hx
            obtain ⟨W6, hW6⟩ : ∃ x, wc = x := ⟨_, rfl⟩
            rw [hW6] at hk6 ⊢
            clear hW6
            have c3' : W6.cell? ⟨gb, k * 4 + 3, none⟩ = some (.bool cl) := by rw [hk6.out.cell (p := ⟨gb, k * 4 + 3, none⟩) glt (by simp)]; exact c3
            have glt6 : gb < W6.heap.size := Nat.lt_of_lt_of_le glt hk6.out.size
            have K6 : Hid (Kp [] W9 W6) := Lib.hid (hkr.out.trans hk6.out)
            clear c0 c1 c3 hk6 hkr HBG HDg HRs hd3 hr3
            have hl2 := FM.out.len
            have hl4 := form_len FM.out
            have x1 : IntKind.i64.wrap ((bg.length : Int) + 2) = bg.length + 2 := wrap_ok (by omega) (by omega)
            have x2 : IntKind.i64.wrap ((hd.length : Int) - 4) = ((hd.length - 4 : Nat) : Int) := by rw [wrap_ok (by omega) (by omega)]; omega
            have f1 : decide ((hd.length : Int) < bg.length + 2) = false := by simp; omega
            have f2 : hd.take bg.length = bg := FM.out.beg
            have f3 : (hd.drop (hd.length - 4) == [13, 10, 13, 10]) = true := by rw [FM.out.fin]; rfl
            go_upto_region 18 with (fail)
            clear x1 x2 f1 f2 f3
            go_wp2
            go_loopw [16, 17] (fun fv iv wq => ∃ i : Nat, i ≤ hd.length ∧ iv = .int .i64 i ∧ fv = .bool (srchB hd connLn i) ∧ wq = W6) (fun _ iv _ => hd.length - (intOf iv).toNat)
            case atStart => exact ⟨0, by omega, rfl, rfl, rfl⟩
            case round =>
              obtain ⟨i, hi, rfl, rfl, rfl⟩ := hrel
              by_cases hlti : i < hd.length
              · obtain ⟨x, hx⟩ : ∃ x, hd[i]'hlti = x := ⟨_, rfl⟩
                have hbt := FM.out.byt i x (by rw [List.getElem?_eq_getElem hlti, hx])
                have x1 : IntKind.i64.wrap ((i : Int) + 1) = i + 1 := wrap_ok (by omega) (by omega)
                have x4 : IntKind.i64.wrap ((i : Int) + 4) = i + 4 := wrap_ok (by omega) (by omega)
                have x21 : IntKind.i64.wrap ((i : Int) + 21) = i + 21 := wrap_ok (by omega) (by omega)
                obtain ⟨fb, hfb⟩ : ∃ fb, srchB hd connLn i = fb := ⟨_, rfl⟩
                have HS : Hid (srchB hd connLn (i + 1) = (fb || ((hd.take (i + 21)).drop i == [13, 10, 67, 111, 110, 110, 101, 99, 116, 105, 111, 110, 58, 32, 99, 108, 111, 115, 101, 13, 10]))) := Lib.hid (by rw [srch_conn, hfb])
                rw [hfb]
                clear hfb
                go_upto_region 22 with (fail)
                go_cut [132] (fun b W' => b = .bool false ∧ W' = wr)
                case first =>
                  rcases hbt with ⟨n13, n10⟩ | ⟨h13, hn⟩ | ⟨h10, hpos, hp⟩
                  · have e0 : ((x.toNat : Int) == 10) = false := (u8_beq x 10).trans (by simpa using n10)
                    have e1 : ((x.toNat : Int) == 13) = false := (u8_beq x 13).trans (by simpa using n13)
                    clear n13 n10
                    go_wp2
                    go_meet
                    exact ⟨rfl, rfl⟩
                  · have e0 : ((x.toNat : Int) == 10) = false := (u8_beq x 10).trans (by rw [h13]; rfl)
                    have e1 : ((x.toNat : Int) == 13) = true := (u8_beq x 13).trans (by simpa using h13)
                    have hlt1 : i + 1 < hd.length := by
                      by_cases hh : i + 1 < hd.length
                      · exact hh
                      · rw [List.getElem?_eq_none (by omega)] at hn; cases hn
                    obtain ⟨y, hy⟩ : ∃ y, hd[i + 1]'hlt1 = y := ⟨_, rfl⟩
                    have hy10 : y = 10 := by rw [List.getElem?_eq_getElem hlt1, hy] at hn; injection hn
                    have e3 : ((y.toNat : Int) != 10) = false := (u8_bne y 10).trans (by simpa using hy10)
                    have e4 : decide ((hd.length : Int) ≤ i + 1) = false := by simp; omega
                    clear h13 hn hy10
                    go_wp2
                    go_meet
                    exact ⟨rfl, rfl⟩
                  · have e0 : ((x.toNat : Int) == 10) = true := (u8_beq x 10).trans (by simpa using h10)
                    have e1 : ((x.toNat : Int) == 13) = false := (u8_beq x 13).trans (by rw [h10]; rfl)
                    have hlt1 : i - 1 < hd.length := by omega
                    have x0 : IntKind.i64.wrap ((i : Int) - 1) = ((i - 1 : Nat) : Int) := by rw [wrap_ok (by omega) (by omega)]; omega
                    obtain ⟨y, hy⟩ : ∃ y, hd[i - 1]'hlt1 = y := ⟨_, rfl⟩
                    have hy13 : y = 13 := by rw [List.getElem?_eq_getElem hlt1, hy] at hp; injection hp
                    have e3 : ((y.toNat : Int) != 13) = false := (u8_bne y 13).trans (by simpa using hy13)
                    have e4 : ((i : Int) == 0) = false := by simp; omega
                    clear h10 hp hy13
                    go_wp2
                    go_meet
                    exact ⟨rfl, rfl⟩
                case rest =>
                  obtain ⟨hx1, hx2⟩ := hcut
                  rw [hx1, hx2]
                  clear hx1 hx2 hbt
                  go_upto_region 24 with (fail)
                  go_cut [152] (fun b W' => b = .bool false ∧ W' = wr)
                  case first =>
                    by_cases h4 : i + 4 ≤ hd.length
                    · have e0 : decide ((i : Int) + 4 ≤ hd.length) = true := by simp; omega
                      obtain ⟨q, hq⟩ : ∃ q, ((hd.take (i + 4)).drop i == [13, 10, 13, 10]) = q := ⟨_, rfl⟩
                      cases q with
                      | false =>
                        go_wp2
                        go_meet
                        exact ⟨rfl, rfl⟩
                      | true =>
                        have e1 := FM.out.emp i (by rw [← slc_eq]; exact eq_of_beq hq)
                        have e2 : ((i : Int) + 4 != hd.length) = false := by simp; omega
                        clear e1
                        go_wp2
                        go_meet
                        exact ⟨rfl, rfl⟩
                    · have e0 : decide ((i : Int) + 4 ≤ hd.length) = false := by simp; omega
                      go_wp2
                      go_meet
                      exact ⟨rfl, rfl⟩
                  case rest =>
                    obtain ⟨hx1, hx2⟩ := hcut
                    rw [hx1, hx2]
                    clear hx1 hx2
                    cases fb with
                    | true =>
                      go_wp2
                      exact ⟨⟨i + 1, by omega, by go_num, by rw [HS.out]; rfl, by trivial⟩, by simp [intOf]; omega⟩
                    | false =>
                      by_cases h21 : i + 21 ≤ hd.length
                      · have e0 : decide ((i : Int) + 21 ≤ hd.length) = true := by simp; omega
                        obtain ⟨q, hq⟩ : ∃ q, ((hd.take (i + 21)).drop i == [13, 10, 67, 111, 110, 110, 101, 99, 116, 105, 111, 110, 58, 32, 99, 108, 111, 115, 101, 13, 10]) = q := ⟨_, rfl⟩
                        rw [hq] at HS
                        go_wp2
                        exact ⟨⟨i + 1, by omega, by go_num, by rw [HS.out]; simp [hq], by trivial⟩, by simp [intOf]; omega⟩
                      · have e0 : decide ((i : Int) + 21 ≤ hd.length) = false := by simp; omega
                        have HS2 : Hid (srchB hd connLn (i + 1) = false) := Lib.hid (by
                          have h1 := srchB_succ hd connLn i
                          rw [srch_no (by decide) (by have : connLn.length = 21 := rfl; omega)] at h1
                          have h2 := HS.out
                          have h3 := srch_no (s := hd) (x := connLn) (i := i) (by decide) (by have : connLn.length = 21 := rfl; omega)
                          rw [slc_eq] at h2
                          rw [h2]
                          exact h3)
                        go_wp2
                        exact ⟨⟨i + 1, by omega, by go_num, by rw [HS2.out], by trivial⟩, by simp [intOf]; omega⟩
              · obtain rfl : i = hd.length := by omega
                have e : srchB hd connLn hd.length = cl := by
                  have h1 := srchB_iff (s := hd) (x := connLn) (k := hd.length) (by decide) (fun i hi => by have : connLn.length = 21 := rfl; omega)
                  have h2 := FM.out.cls
                  have h3 : connLn.length = 21 := rfl
                  rw [h3, h2] at h1
                  cases cl with
                  | true => exact h1.2 rfl
                  | false =>
                    cases hb : srchB hd connLn hd.length with
                    | false => rfl
                    | true => exact absurd (h1.1 hb) (by simp)
                rw [e]
                clear e FM
                cases cl
                · go_wp2
                  exact ⟨⟨k + 1, by omega, by go_num, K6⟩, by simp [intOf]; omega⟩
                · go_wp2
                  exact ⟨⟨k + 1, by omega, by go_num, K6⟩, by simp [intOf]; omega⟩
        · obtain rfl : k = 2 := by omega
          go_wp2
          exact H.out _ (KF.out.trans hkr.out)
end
end
end Go.Proofs.YtnmafahbdfilcaaGreatDoor
