/- respond: the head of any answer. -/
import Derived.Test.YtnmafahbdfilcaaGreatDoorPC10
import Derived.Deep.CutBlock
import Derived.Deep.DeepCutAuto
namespace Go.Proofs.YtnmafahbdfilcaaGreatDoor
/-! ### respond: the head of any answer. -/
section
open Go.RowKit Go.Shelf
set_option linter.unusedVariables false
set_option linter.unusedSimpArgs false
set_option maxRecDepth 100000
theorem bk10b {w : World} {g tt : Nat} {a b c d e f k l m n : Value} (h : Bk w g tt [a, b, c, d, e, f, k, l, m, n]) : w.cell? ⟨g, 0, none⟩ = some a ∧ w.cell? ⟨g, 1, none⟩ = some b ∧ w.cell? ⟨g, 2, none⟩ = some c ∧ w.cell? ⟨g, 3, none⟩ = some d ∧ w.cell? ⟨g, 4, none⟩ = some e ∧ w.cell? ⟨g, 5, none⟩ = some f ∧ w.cell? ⟨g, 6, none⟩ = some k ∧ w.cell? ⟨g, 7, none⟩ = some l ∧ w.cell? ⟨g, 8, none⟩ = some m ∧ w.cell? ⟨g, 9, none⟩ = some n :=
  ⟨h.cell 0, h.cell 1, h.cell 2, h.cell 3, h.cell 4, h.cell 5, h.cell 6, h.cell 7, h.cell 8, h.cell 9⟩
def spOk (z : Int × Int) : Prop := 0 ≤ z.1 ∧ z.1 ≤ 35184372088832 ∧ 0 ≤ z.2 ∧ z.2 ≤ 35184372088832
section
variable {R : Ending → World → Prop} {w : World}
set_option maxHeartbeats 32000000 in
theorem head_gen (st minor : Int) (cl : Bool) (v mt len : Int) (kd : List UInt8) (now : Int) (zs : List (Int × Int)) (l : List Pt) {A B : Option Addr} {n c nb db g : Nat}
    (hb : Bk w g 75 (ansG st minor cl v mt len kd now B nb db A n c)) (hz : Rd w [] B (zs.flatMap spV)) (hzn : zs.length = nb) (hzo : ∀ z ∈ zs, spOk z) (hp : Rd w [] A (l.flatMap ptV)) (hpn : l.length = n) (hn : n ≤ 100) (hok : ∀ p ∈ l, okPt p)
    (hst : 0 ≤ st ∧ st ≤ 9999) (hv : 0 ≤ v ∧ v ≤ 9223372036854775807) (hmt : 0 ≤ mt ∧ mt ≤ 9223372036854775807) (hlen : 0 ≤ len ∧ len ≤ 35184372088832) (hkd : kd.length ≤ 300) (hw : Lw w)
    (h : ∀ w', Kp [] w w' → R (.returned (.string (S (headS ⟨st, minor, cl, v, mt, len, kd, now, zs, sumG l⟩)))) w') :
    Calls Tryz.prog 48 #[.pointer (some ⟨g, 0, none⟩)] w R := by
  have H := Lib.hid h
  obtain ⟨k, rfl⟩ : ∃ k : Nat, st = k := ⟨st.toNat, by omega⟩
  have hk : k ≤ 9999 := by omega
  obtain ⟨rs, hrs⟩ : ∃ rs, rsnL (k : Int) = rs := ⟨_, rfl⟩
  have hrl : rs.length ≤ 40 := by rw [← hrs]; exact rsn_len _
  have hdl := dec3 hk
  obtain ⟨ds, hds⟩ : ∃ ds, decL k = ds := ⟨_, rfl⟩
  rw [hds] at hdl
  have HI : Hid (∀ (R : Ending → World → Prop) (w : World), Lw w → (∀ w', Kp [] w w' → R (.returned (.string (S ds))) w') → Calls Tryz.prog 77 #[.int .i64 k] w R) := Lib.hid (fun R w a b => itoa_any k w (by omega) a (by rw [hds]; exact b))
  have HRs : Hid (∀ (R : Ending → World → Prop) (w : World), R (.returned (.string (S rs))) w → Calls Tryz.prog 16 #[.int .i64 k] w R) := Lib.hid (fun R w h => reason_any k w (by rw [hrs]; exact h))
  obtain ⟨m, hm⟩ : ∃ m, sumG l = m := ⟨_, rfl⟩
  have hsb := sum_bd l hok
  rw [hm, hpn] at hsb
  have hls := itoaL_len m (by omega) (by omega)
  obtain ⟨ls, hlse⟩ : ∃ ls, itoaL m = ls := ⟨_, rfl⟩
  rw [hlse] at hls
  have HIL : Hid (∀ (R : Ending → World → Prop) (w : World), Lw w → (∀ w', Kp [] w w' → R (.returned (.string (S ls))) w') → Calls Tryz.prog 77 #[.int .i64 m] w R) := Lib.hid (fun R w a b => itoa_all m w (by omega) (by omega) a (by rw [hlse]; exact b))
  have HLen : Hid (∀ (R : Ending → World → Prop) (w1 : World), Kp [] w w1 → (∀ w', Kp [] w1 w' → R (.returned (.int .i64 m)) w') → Calls Tryz.prog 83 #[.slice A n c] w1 R) := Lib.hid (fun R w1 k1 h => glen_any l (hp.kp k1 (by simp)) hpn hn hok (by rw [hm]; exact h))
  obtain ⟨tg, htg⟩ : ∃ tg, tagL v mt = tg := ⟨_, rfl⟩
  have htl : tg.length ≤ 100 := by
    have e1 := itoaL_len v (by omega) (by omega)
    have e2 := itoaL_len mt (by omega) (by omega)
    rw [← htg]; unfold tagL; simp; omega
  have HTg : Hid (∀ (R : Ending → World → Prop) (w1 : World), Lw w1 → (∀ w', Kp [] w1 w' → R (.returned (.string (S tg))) w') → Calls Tryz.prog 63 #[.int .i64 v, .int .i64 mt] w1 R) := Lib.hid (fun R w1 h1 h => tag_wide v mt w1 hv hmt h1 (by rw [htg]; exact h))
  obtain ⟨no, hno⟩ : ∃ no, noneL len = no := ⟨_, rfl⟩
  have hnl : no.length ≤ 100 := by
    have e1 := itoaL_len len (by omega) (by omega)
    rw [← hno]; unfold noneL; simp; omega
  have HNo : Hid (∀ (R : Ending → World → Prop) (w1 : World), Lw w1 → (∀ w', Kp [] w1 w' → R (.returned (.string (S no))) w') → Calls Tryz.prog 82 #[.int .i64 len] w1 R) := Lib.hid (fun R w1 h1 h => none_any len w1 hlen h1 (by rw [hno]; exact h))
  have HPr : Hid (∀ (s : Int) (R : Ending → World → Prop) (w1 : World), Lw w1 → (∀ D e w', D.length ≤ 200 → (e == 0) = mayB s → Kp [] w1 w' → Hid (mayB s = true → D = dateT s) → R (.returned (.tuple #[.string (S D), .int .i64 e])) w') → Calls Tryz.prog 67 #[.int .i64 s] w1 R) := Lib.hid (fun s R w1 h1 h => print_both s w1 h1 (fun D e w' k' ht hf => by
    cases hmb : mayB s with
    | true =>
      have hm2 : 0 ≤ s ∧ s ≤ 253402300799 := by simpa [mayB] using hmb
      exact h D e w' (told_len (ht hmb).1 hm2.1 hm2.2) (by rw [hmb, (ht hmb).2]; rfl) k' (Lib.hid (fun _ => (dateT_is (ht hmb).1).symm))
    | false => exact h D e w' (by rw [(hf hmb).1]; simp) (by rw [hmb, (hf hmb).2]; rfl) k' (Lib.hid (fun hx => by rw [hmb] at hx; cases hx))))
  have HBX : Hid (∀ w', Kp [] w w' → w'.cell? ⟨g, 0, none⟩ = some (.int .i64 k) ∧ w'.cell? ⟨g, 1, none⟩ = some (.int .i64 minor) ∧ w'.cell? ⟨g, 2, none⟩ = some (.bool cl) ∧ w'.cell? ⟨g, 3, none⟩ = some (.int .i64 v) ∧ w'.cell? ⟨g, 4, none⟩ = some (.int .i64 mt) ∧ w'.cell? ⟨g, 5, none⟩ = some (.int .i64 len) ∧ w'.cell? ⟨g, 6, none⟩ = some (.string (S kd)) ∧ w'.cell? ⟨g, 7, none⟩ = some (.int .i64 now) ∧ w'.cell? ⟨g, 8, none⟩ = some (.slice B nb db) ∧ w'.cell? ⟨g, 9, none⟩ = some (.slice A n c)) := Lib.hid (fun w' k' => bk10b (hb.kp k' (by simp)))
  obtain ⟨mb, hmb⟩ : ∃ mb, mayB now = mb := ⟨_, rfl⟩
  obtain ⟨mm, hmm⟩ : ∃ mm, mayB mt = mm := ⟨_, rfl⟩
  obtain ⟨b200, e200⟩ : ∃ x, ((k : Int) == 200) = x := ⟨_, rfl⟩
  obtain ⟨b206, e206⟩ : ∃ x, ((k : Int) == 206) = x := ⟨_, rfl⟩
  obtain ⟨b304, e304⟩ : ∃ x, ((k : Int) == 304) = x := ⟨_, rfl⟩
  obtain ⟨b405, e405⟩ : ∃ x, ((k : Int) == 405) = x := ⟨_, rfl⟩
  obtain ⟨b416, e416⟩ : ∃ x, ((k : Int) == 416) = x := ⟨_, rfl⟩
  obtain ⟨bn, en⟩ : ∃ x, ((k : Int) != 304) = x := ⟨_, rfl⟩
  obtain ⟨b1, e1⟩ : ∃ x, ((nb : Int) == 1) = x := ⟨_, rfl⟩
  obtain ⟨m0, em0⟩ : ∃ x, (minor == 0) = x := ⟨_, rfl⟩
  obtain ⟨CT, hCT⟩ : ∃ CT, (if (b200 || (b206 && b1)) = true then hdr ctN kd else if b206 = true then hdr ctN mpV else hdrB bn ctN txtV) = CT := ⟨_, rfl⟩
  obtain ⟨CR, hCR⟩ : ∃ CR, (if (b206 && b1) = true then hdr crN (contL (zs.headD (0, 0)).1 (zs.headD (0, 0)).2 len) else []) = CR := ⟨_, rfl⟩
  have HG : Hid (headS ⟨k, minor, cl, v, mt, len, kd, now, zs, m⟩ = line1 ds rs ++ (hdrB mb dateN (dateT now) ++ (hdr servN pantV ++ (hdrB ((b200 || b206) || b304) etagN tg ++ (hdrB ((b200 || b206) && mm) lmN (dateT mt) ++ (hdrB b200 arN bytV ++ (hdrB b405 allowN ghV ++ (CT ++ (CR ++ (hdrB b416 crN no ++ (hdrB bn clN ls ++ (hdrB cl connN closV ++ (hdrB (!cl && m0) connN keepV ++ [13, 10])))))))))))))
    := Lib.hid (by
      have h1 : (zs.length == 1) = b1 := by rw [hzn, ← e1]; exact Bool.eq_iff_iff.2 (by simp; omega)
      unfold headS HdA.ct HdA.cr HdA.one HdA.body
      simp only [Int.toNat_natCast, hds, hrs, hmb, hmm, e200, e206, e304, e405, e416, en, h1, em0, htg, hno, hlse, ← hCT, ← hCR]
      try rfl)
  have HSp : Hid (b206 = true → b1 = true → ∃ z1 z2 sb so, B = some ⟨sb, so, none⟩ ∧ nb = 1 ∧ contL (zs.headD (0, 0)).1 (zs.headD (0, 0)).2 len = contL z1 z2 len ∧ spOk (z1, z2) ∧ ∀ w', Kp [] w w' → w'.cell? ⟨sb, so, none⟩ = some (.int .i64 z1) ∧ w'.cell? ⟨sb, so + 1, none⟩ = some (.int .i64 z2)) := Lib.hid (fun _ hb1 => by
    have hq : nb = 1 := by rw [← e1] at hb1; simp at hb1; omega
    match zs, hzn, hzo, hz with
    | [z], _, hzo, hz =>
      obtain ⟨sb, so, hB, _, hlt, hc⟩ := hz (by simp [spV])
      refine ⟨z.1, z.2, sb, so, hB, hq, rfl, hzo z (by simp), fun w' k' => ?_⟩
      have c0 := hc 0 _ rfl
      have c1 := hc 1 _ rfl
      rw [Nat.add_zero] at c0
      exact ⟨by rw [k'.cell (p := ⟨sb, so, none⟩) hlt (by simp)]; exact c0, by rw [k'.cell (p := ⟨sb, so + 1, none⟩) hlt (by simp)]; exact c1⟩
    | [], h0, _, _ => simp at h0; omega
    | _ :: _ :: _, h0, _, _ => simp at h0; omega)
  rw [hm] at H
  clear h hb hz hzn hzo hp hpn hok hrs hds hm hlse htg hno hst hsb
  have HSK : Hid (∀ w', Kp [] w w' → w'.cell? ⟨g, 0, none⟩ = some (.int .i64 k)) := Lib.hid (fun w' k' => (HBX.out w' k').1)
  go_enter Tryz.func48, Tryz.ntmps48
  go_upto_region 2 with (fail)
  refine gen_worldC (fun W => ∃ b, w.heap.size = b ∧ Bl w W b []) ⟨_, rfl, Bl.new (Kp.refl _ _) rfl⟩ ?_
  rintro W ⟨b, hb, bl⟩
  rw [hb]
  clear hb
  have HI2 : Hid (∀ (R : Ending → World → Prop) (w1 : World), Bl w w1 b [] → (∀ w', Bl w w' b [] → R (.returned (.string (S ds))) w') → Calls Tryz.prog 77 #[.int .i64 k] w1 R) := Lib.hid (fun R w1 h1 h => HI.out R w1 (hw.kp h1.kp) (fun w' a => h w' (h1.step a)))
  obtain ⟨p0, p1, p2, p3, p4, p5, p6, p7, p8, p9⟩ := HBX.out W bl.kp
  have s1 : (9223372036854775807 < 9 + ds.length) = False := eq_false (by omega)
  have s2 : (9223372036854775807 < ds.length + 1 + 1 + 1 + 1 + 1 + 1 + 1 + 1 + 1 + 1) = False := eq_false (by omega)
  have s3 : (9223372036854775807 < ds.length + 1 + 1 + 1 + 1 + 1 + 1 + 1 + 1 + 1 + 1 + rs.length) = False := eq_false (by omega)
  have s4 : (9223372036854775807 < ds.length + (rs.length + 1) + 1 + 1 + 1 + 1 + 1 + 1 + 1 + 1 + 1 + 2) = False := eq_false (by omega)
  go_region_held_law (fun w' => w'.cell? ⟨g, 0, none⟩ = some (.int .i64 k)) (first | exact HSK.out _ (Bl.kp (by assumption)) | exact HSK.out _ (Kp.drew (Bl.kp (by assumption)))) (first | (go_simp; go_at_call 77; (refine HI2.out _ _ (by first | assumption | exact Bl.step (by assumption) (Kp.refl [] _).drew) ?_); intro w1 b1') | (go_simp; go_at_call 16; (refine HRs.out _ _ ?_)) | (go_simp; go_at_call 78; (refine bw_any (w0 := w) (l := []) (by assumption) (by simp only [List.length_append, List.length_cons, List.length_nil]; omega) ?_); intro w2 b2))
  have c2 : Bl w w2 b (line1 ds rs) := b2.cast (by unfold line1; simp)
  clear s1 s2 s3 s4 p0 p1 p2 p3 p4 p5 p6 p7 p8 p9 b1' b2 bl HI2
  obtain ⟨p0, p1, p2, p3, p4, p5, p6, p7, p8, p9⟩ := HBX.out w2 c2.kp
  have hll : (line1 ds rs).length ≤ 100 := by unfold line1; simp; omega
  obtain ⟨l1, hl1⟩ : ∃ l1, line1 ds rs = l1 := ⟨_, rfl⟩
  have HL1 : Hid (l1 ≠ []) := Lib.hid (by rw [← hl1]; unfold line1; simp)
  rw [hl1] at c2 hll HG
  clear hl1
  -- the date
  go_upto_region 4 with (go_at_call 67; ((refine HPr.out now _ _ (hw.kp c2.kp) ?_); intro D e w3 hDl he k3 hD; have c3 := c2.step k3))
  rw [hmb] at he
  clear p0 p1 p2 p3 p4 p5 p6 p7 p8 p9
  obtain ⟨p0, p1, p2, p3, p4, p5, p6, p7, p8, p9⟩ := HBX.out _ c3.kp
  go_upto_region 5 with (go_at_call 79; ((refine add2_any (w0 := w) mb c3 (by omega) (by decide) (by omega) ?_); intro w4 l2 c4 g2 q2))
  clear c2 c3 k3 he
  clear p0 p1 p2 p3 p4 p5 p6 p7 p8 p9
  obtain ⟨p0, p1, p2, p3, p4, p5, p6, p7, p8, p9⟩ := HBX.out _ c4.kp
  simp only [List.length_cons, List.length_nil] at q2
  go_upto_region 6 with (go_at_call 79; ((refine add2_any (w0 := w) true c4 (by omega) (by decide) (by decide) ?_); intro w5 l3 c5 g3 q3))
  clear c4
  clear p0 p1 p2 p3 p4 p5 p6 p7 p8 p9
  obtain ⟨p0, p1, p2, p3, p4, p5, p6, p7, p8, p9⟩ := HBX.out _ c5.kp
  simp only [List.length_cons, List.length_nil] at q3
  -- is there a body?
  go_cut [6] (fun x W' => x = .bool (b200 || b206) ∧ W' = w5)
  case first =>
    as_aux_lemma =>
      cases b200
      all_goals
        go_wp2
        go_meet
        exact ⟨rfl, rfl⟩
  case rest =>
    obtain ⟨hx1, hx2⟩ := hcut
    obtain ⟨bd, hbd⟩ : ∃ bd, (b200 || b206) = bd := ⟨_, rfl⟩
    rw [hx1, hx2, hbd]
    clear hx1 hx2
    have HBD := Lib.hid hbd
    clear hbd
    go_upto_region 7 with (fail)
    go_cut [7] (fun x W' => x = .bool (b206 && b1) ∧ W' = w5)
    case first =>
      as_aux_lemma =>
        cases b206
        all_goals
          go_wp2
          go_meet
          exact ⟨rfl, rfl⟩
    case rest =>
      obtain ⟨hx1, hx2⟩ := hcut
      obtain ⟨one, hone⟩ : ∃ one, (b206 && b1) = one := ⟨_, rfl⟩
      rw [hx1, hx2, hone]
      clear hx1 hx2
      have HSp2 : Hid (one = true → ∃ z1 z2 sb so, B = some ⟨sb, so, none⟩ ∧ nb = 1 ∧ contL (zs.headD (0, 0)).1 (zs.headD (0, 0)).2 len = contL z1 z2 len ∧ spOk (z1, z2) ∧ ∀ w', Kp [] w w' → w'.cell? ⟨sb, so, none⟩ = some (.int .i64 z1) ∧ w'.cell? ⟨sb, so + 1, none⟩ = some (.int .i64 z2)) := Lib.hid (fun ho => by
        rw [← hone] at ho
        simp at ho
        exact HSp.out ho.1 ho.2)
      rw [hone] at hCT hCR
      have HCT := Lib.hid hCT
      have HCR := Lib.hid hCR
      clear hCT hCR hone
      have HS8 : Hid (∀ w', Kp [] w w' → w'.cell? ⟨g, 0, none⟩ = some (.int .i64 k) ∧ w'.cell? ⟨g, 3, none⟩ = some (.int .i64 v) ∧ w'.cell? ⟨g, 4, none⟩ = some (.int .i64 mt)) := Lib.hid (fun w' k' => by have := HBX.out w' k'; exact ⟨this.1, this.2.2.2.1, this.2.2.2.2.1⟩)
      have c5d : Bl w w5.drew b l3 := c5.step (Kp.refl [] w5).drew
      go_upto_region 8 with (fail)
      go_cut [] (fun W' => ∃ l4, Bl w W' b l4 ∧ l4.length ≤ 1500 ∧ Hid (l4 = l3 ++ hdrB (bd || b304) etagN tg))
      case first =>
        as_aux_lemma =>
          cases bd with
          | false =>
            go_region_held_law (fun w' => w'.cell? ⟨g, 0, none⟩ = some (.int .i64 k) ∧ w'.cell? ⟨g, 3, none⟩ = some (.int .i64 v) ∧ w'.cell? ⟨g, 4, none⟩ = some (.int .i64 mt)) (first | exact HS8.out _ c7.kp | exact HS8.out _ c6.kp | exact HS8.out _ c5d.kp) (first | (go_simp; go_at_call 63; (refine HTg.out _ _ (hw.kp c5d.kp) ?_); intro w6 k6; have c6 := c5d.step k6) | (go_simp; go_at_call 79; (refine add2_any (w0 := w) _ c6 (by omega) (by decide) (by omega) ?_); intro w7 l4 c7 g4 q4))
            go_wp2
            go_meet
            exact ⟨l4, c7, by simp only [List.length_cons, List.length_nil] at q4; omega, g4⟩
          | true =>
            refine wp_region_held_drew (S := fun w' => w'.cell? ⟨g, 0, none⟩ = some (.int .i64 k) ∧ w'.cell? ⟨g, 3, none⟩ = some (.int .i64 v) ∧ w'.cell? ⟨g, 4, none⟩ = some (.int .i64 mt)) (by kernel_rfl) (HS8.out _ c5d.kp) (fun hHeld => ?_)
            refine wpAnyH_take (i := 0) (oi := { dst := some 62, op := Op.move (Operand.tmp 6), type := 4, pos := "respond.go:109", after := #[], guard := none }) (v := ?_) rfl (by kernel_rfl) (by kernel_rfl) (by kernel_rfl) (fun _ _ _ h => h) (Or.inl ⟨by rfl, ?_⟩) hHeld ?_
            rotate_left
            · intro w hSw; (try dsimp only at hSw); go_split_ands; go_simp; (try with_reducible rfl)
            (try simp only [Act.put, List.setIfInBounds_toArray, List.set_cons_zero, List.set_cons_succ])
            refine wpAnyH_take (i := 1) (oi := { dst := some 63, op := Op.move (Operand.tmp 62), type := 4, pos := "respond.go:109", after := #[{ on := 0, ground := Ground.data }], guard := none }) (v := ?_) rfl (by kernel_rfl) (by kernel_rfl) (by kernel_rfl) (fun _ _ _ h => h) (Or.inl ⟨by rfl, ?_⟩) hHeld ?_
            rotate_left
            · intro w hSw; (try dsimp only at hSw); go_split_ands; go_simp; (try with_reducible rfl)
            (try simp only [Act.put, List.setIfInBounds_toArray, List.set_cons_zero, List.set_cons_succ])
            refine wpAnyH_take (i := 2) (oi := { dst := some 64, op := Op.move (Operand.tmp 0), type := 72, pos := "respond.go:109", after := #[{ on := 1, ground := Ground.guard }], guard := some (1, false) }) (v := undef) rfl (by kernel_rfl) (by kernel_rfl) (by kernel_rfl) (fun _ _ _ h => h) (Or.inr ⟨by rfl, rfl⟩) hHeld ?_
            (try simp only [Act.put, List.setIfInBounds_toArray, List.set_cons_zero, List.set_cons_succ])
            refine wpAnyH_take (i := 3) (oi := { dst := some 65, op := Op.nilCheck (Operand.tmp 64), type := 0, pos := "respond.go:109", after := #[{ on := 2, ground := Ground.data }, { on := 1, ground := Ground.guard }], guard := some (1, false) }) (v := undef) rfl (by kernel_rfl) (by kernel_rfl) (by kernel_rfl) (fun _ _ _ h => h) (Or.inr ⟨by rfl, rfl⟩) hHeld ?_
            (try simp only [Act.put, List.setIfInBounds_toArray, List.set_cons_zero, List.set_cons_succ])
            refine wpAnyH_take (i := 4) (oi := { dst := some 66, op := Op.fieldAddr 75 (Operand.tmp 65) 0, type := 0, pos := "respond.go:109", after := #[{ on := 3, ground := Ground.data }, { on := 1, ground := Ground.guard }], guard := some (1, false) }) (v := undef) rfl (by kernel_rfl) (by kernel_rfl) (by kernel_rfl) (fun _ _ _ h => h) (Or.inr ⟨by rfl, rfl⟩) hHeld ?_
            (try simp only [Act.put, List.setIfInBounds_toArray, List.set_cons_zero, List.set_cons_succ])
            refine wpAnyH_take (i := 5) (oi := { dst := some 67, op := Op.load 3 (Operand.tmp 66), type := 3, pos := "respond.go:109", after := #[{ on := 4, ground := Ground.data }, { on := 1, ground := Ground.guard }], guard := some (1, false) }) (v := undef) rfl (by kernel_rfl) (by kernel_rfl) (by kernel_rfl) (fun _ _ _ h => h) (Or.inr ⟨by rfl, rfl⟩) hHeld ?_
            (try simp only [Act.put, List.setIfInBounds_toArray, List.set_cons_zero, List.set_cons_succ])
            refine wpAnyH_take (i := 6) (oi := { dst := some 68, op := Op.binOp BinOp.eql 3 (Operand.tmp 67) (Operand.const (Value.int IntKind.i64 304)) 3, type := 4, pos := "respond.go:109", after := #[{ on := 5, ground := Ground.data }, { on := 1, ground := Ground.guard }], guard := some (1, false) }) (v := undef) rfl (by kernel_rfl) (by kernel_rfl) (by kernel_rfl) (fun _ _ _ h => h) (Or.inr ⟨by rfl, rfl⟩) hHeld ?_
            (try simp only [Act.put, List.setIfInBounds_toArray, List.set_cons_zero, List.set_cons_succ])
            refine wpAnyH_take (i := 7) (oi := { dst := some 69, op := Op.pick (Operand.tmp 63) (Operand.const (Value.bool true)) (Operand.tmp 68), type := 4, pos := "respond.go:109", after := #[{ on := 1, ground := Ground.data }, { on := 6, ground := Ground.data }], guard := none }) (v := ?_) rfl (by kernel_rfl) (by kernel_rfl) (by kernel_rfl) (fun _ _ _ h => h) (Or.inl ⟨by rfl, ?_⟩) hHeld ?_
            rotate_left
            · intro w hSw; (try dsimp only at hSw); go_split_ands; go_simp; (try with_reducible rfl)
            (try simp only [Act.put, List.setIfInBounds_toArray, List.set_cons_zero, List.set_cons_succ])
            refine wpAnyH_take (i := 8) (oi := { dst := some 70, op := Op.move (Operand.tmp 0), type := 72, pos := "respond.go:109", after := #[], guard := none }) (v := ?_) rfl (by kernel_rfl) (by kernel_rfl) (by kernel_rfl) (fun _ _ _ h => h) (Or.inl ⟨by rfl, ?_⟩) hHeld ?_
            rotate_left
            · intro w hSw; (try dsimp only at hSw); go_split_ands; go_simp; (try with_reducible rfl)
            (try simp only [Act.put, List.setIfInBounds_toArray, List.set_cons_zero, List.set_cons_succ])
            refine wpAnyH_take (i := 9) (oi := { dst := some 71, op := Op.nilCheck (Operand.tmp 70), type := 0, pos := "respond.go:109", after := #[{ on := 8, ground := Ground.data }], guard := none }) (v := ?_) rfl (by kernel_rfl) (by kernel_rfl) (by kernel_rfl) (fun _ _ _ h => h) (Or.inl ⟨by rfl, ?_⟩) hHeld ?_
            rotate_left
            · intro w hSw; (try dsimp only at hSw); go_split_ands; go_simp; (try with_reducible rfl)
            (try simp only [Act.put, List.setIfInBounds_toArray, List.set_cons_zero, List.set_cons_succ])
            refine wpAnyH_take (i := 10) (oi := { dst := some 72, op := Op.fieldAddr 75 (Operand.tmp 71) 3, type := 0, pos := "respond.go:109", after := #[{ on := 9, ground := Ground.data }], guard := none }) (v := ?_) rfl (by kernel_rfl) (by kernel_rfl) (by kernel_rfl) (fun _ _ _ h => h) (Or.inl ⟨by rfl, ?_⟩) hHeld ?_
            rotate_left
            · intro w hSw; (try dsimp only at hSw); go_split_ands; go_simp; (try with_reducible rfl)
            (try simp only [Act.put, List.setIfInBounds_toArray, List.set_cons_zero, List.set_cons_succ])
            refine wpAnyH_take (i := 11) (oi := { dst := some 73, op := Op.fieldAddr 37 (Operand.tmp 72) 0, type := 0, pos := "respond.go:109", after := #[{ on := 10, ground := Ground.data }], guard := none }) (v := ?_) rfl (by kernel_rfl) (by kernel_rfl) (by kernel_rfl) (fun _ _ _ h => h) (Or.inl ⟨by rfl, ?_⟩) hHeld ?_
            rotate_left
            · intro w hSw; (try dsimp only at hSw); go_split_ands; go_simp; (try with_reducible rfl)
            (try simp only [Act.put, List.setIfInBounds_toArray, List.set_cons_zero, List.set_cons_succ])
            refine wpAnyH_take (i := 12) (oi := { dst := some 74, op := Op.load 3 (Operand.tmp 73), type := 3, pos := "respond.go:109", after := #[{ on := 11, ground := Ground.data }], guard := none }) (v := ?_) rfl (by kernel_rfl) (by kernel_rfl) (by kernel_rfl) (fun _ _ _ h => h) (Or.inl ⟨by rfl, ?_⟩) hHeld ?_
            rotate_left
            · intro w hSw; (try dsimp only at hSw); go_split_ands; go_simp; (try with_reducible rfl)
            (try simp only [Act.put, List.setIfInBounds_toArray, List.set_cons_zero, List.set_cons_succ])
            refine wpAnyH_take (i := 13) (oi := { dst := some 75, op := Op.move (Operand.tmp 0), type := 72, pos := "respond.go:109", after := #[], guard := none }) (v := ?_) rfl (by kernel_rfl) (by kernel_rfl) (by kernel_rfl) (fun _ _ _ h => h) (Or.inl ⟨by rfl, ?_⟩) hHeld ?_
            rotate_left
            · intro w hSw; (try dsimp only at hSw); go_split_ands; go_simp; (try with_reducible rfl)
            (try simp only [Act.put, List.setIfInBounds_toArray, List.set_cons_zero, List.set_cons_succ])
            refine wpAnyH_take (i := 14) (oi := { dst := some 76, op := Op.nilCheck (Operand.tmp 75), type := 0, pos := "respond.go:109", after := #[{ on := 13, ground := Ground.data }], guard := none }) (v := ?_) rfl (by kernel_rfl) (by kernel_rfl) (by kernel_rfl) (fun _ _ _ h => h) (Or.inl ⟨by rfl, ?_⟩) hHeld ?_
            rotate_left
            · intro w hSw; (try dsimp only at hSw); go_split_ands; go_simp; (try with_reducible rfl)
            (try simp only [Act.put, List.setIfInBounds_toArray, List.set_cons_zero, List.set_cons_succ])
            refine wpAnyH_take (i := 15) (oi := { dst := some 77, op := Op.fieldAddr 75 (Operand.tmp 76) 3, type := 0, pos := "respond.go:109", after := #[{ on := 14, ground := Ground.data }], guard := none }) (v := ?_) rfl (by kernel_rfl) (by kernel_rfl) (by kernel_rfl) (fun _ _ _ h => h) (Or.inl ⟨by rfl, ?_⟩) hHeld ?_
            rotate_left
            · intro w hSw; (try dsimp only at hSw); go_split_ands; go_simp; (try with_reducible rfl)
            (try simp only [Act.put, List.setIfInBounds_toArray, List.set_cons_zero, List.set_cons_succ])
            refine wpAnyH_take (i := 16) (oi := { dst := some 78, op := Op.fieldAddr 37 (Operand.tmp 77) 1, type := 0, pos := "respond.go:109", after := #[{ on := 15, ground := Ground.data }], guard := none }) (v := ?_) rfl (by kernel_rfl) (by kernel_rfl) (by kernel_rfl) (fun _ _ _ h => h) (Or.inl ⟨by rfl, ?_⟩) hHeld ?_
            rotate_left
            · intro w hSw; (try dsimp only at hSw); go_split_ands; go_simp; (try with_reducible rfl)
            (try simp only [Act.put, List.setIfInBounds_toArray, List.set_cons_zero, List.set_cons_succ])
            refine wpAnyH_take (i := 17) (oi := { dst := some 79, op := Op.load 2 (Operand.tmp 78), type := 2, pos := "respond.go:109", after := #[{ on := 16, ground := Ground.data }], guard := none }) (v := ?_) rfl (by kernel_rfl) (by kernel_rfl) (by kernel_rfl) (fun _ _ _ h => h) (Or.inl ⟨by rfl, ?_⟩) hHeld ?_
            rotate_left
            · intro w hSw; (try dsimp only at hSw); go_split_ands; go_simp; (try with_reducible rfl)
            (try simp only [Act.put, List.setIfInBounds_toArray, List.set_cons_zero, List.set_cons_succ])
            refine wpAnyH_ready (rs := [18]) (by kernel_rfl) (by simp) ?_
            refine AllReadyH.cons rfl (fun K hK => ?_) AllReadyH.nil
            rw [if_pos (by rfl)]
            go_simp
            go_at_call 63
            refine HTg.out _ _ (hw.kp c5d.kp) ?_
            intro w6 k6
            have c6 := c5d.step k6
            go_wp2
            refine hK.out _ _ (HS8.out _ c6.kp) (fun hHeld => ?_)
            clear hK K
            (try simp only [Act.put, List.setIfInBounds_toArray, List.set_cons_zero, List.set_cons_succ])
            refine wpAnyH_ready (rs := [19]) (by kernel_rfl) (by simp) ?_
            refine AllReadyH.cons rfl (fun K hK => ?_) AllReadyH.nil
            rw [if_pos (by rfl)]
            go_simp
            go_at_call 79
            refine add2_any (w0 := w) _ c6 (by omega) (by decide) (by omega) ?_
            intro w7 l4 c7 g4 q4
            go_wp2
            refine hK.out _ _ (HS8.out _ c7.kp) (fun hHeld => ?_)
            clear hK K
            (try simp only [Act.put, List.setIfInBounds_toArray, List.set_cons_zero, List.set_cons_succ])
            refine wpAnyH_done (by kernel_rfl) ?_ _
            go_wp2
            go_meet
            exact ⟨l4, c7, by simp only [List.length_cons, List.length_nil] at q4; omega, g4⟩
      case rest =>
        obtain ⟨l4, c7, q4, g4⟩ := hcut
        clear c5 c5d
        clear p0 p1 p2 p3 p4 p5 p6 p7 p8 p9
        obtain ⟨p0, p1, p2, p3, p4, p5, p6, p7, p8, p9⟩ := HBX.out _ c7.kp
        -- when it was turned
        go_upto_region 10 with (go_at_call 67; ((refine HPr.out mt _ _ (hw.kp c7.kp) ?_); intro D2 e2 w8 hD2l he2 k8 hD2; have c8 := c7.step k8))
        rw [hmm] at he2
        clear c7
        clear p0 p1 p2 p3 p4 p5 p6 p7 p8 p9
        obtain ⟨p0, p1, p2, p3, p4, p5, p6, p7, p8, p9⟩ := HBX.out _ c8.kp
        go_cut [] (fun W' => ∃ l5, Bl w W' b l5 ∧ l5.length ≤ 2000 ∧ Hid (l5 = l4 ++ hdrB (bd && mm) lmN D2))
        case first =>
          as_aux_lemma =>
            cases bd
            all_goals
              go_wp2_with (go_at_call 79; ((refine add2_any (w0 := w) _ c8 (by omega) (by decide) (by omega) ?_); intro w9 l5 c9 g5 q5))
              go_meet
              exact ⟨l5, c9, by simp only [List.length_cons, List.length_nil] at q5; omega, g5⟩
        case rest =>
          obtain ⟨l5, c9, q5, g5⟩ := hcut
          clear c8 k8
          clear p0 p1 p2 p3 p4 p5 p6 p7 p8 p9
          obtain ⟨p0, p1, p2, p3, p4, p5, p6, p7, p8, p9⟩ := HBX.out _ c9.kp
          go_upto_region 12 with (go_at_call 79; ((refine add2_any (w0 := w) b200 c9 (by omega) (by decide) (by decide) ?_); intro w10 l6 c10 g6 q6))
          clear c9
          clear p0 p1 p2 p3 p4 p5 p6 p7 p8 p9
          obtain ⟨p0, p1, p2, p3, p4, p5, p6, p7, p8, p9⟩ := HBX.out _ c10.kp
          simp only [List.length_cons, List.length_nil] at q6
          go_upto_block 0 with (go_at_call 79; ((refine add2_any (w0 := w) b405 c10 (by omega) (by decide) (by decide) ?_); intro w11 l7 c11 g7 q7))
          clear c10
          clear p0 p1 p2 p3 p4 p5 p6 p7 p8 p9
          obtain ⟨p0, p1, p2, p3, p4, p5, p6, p7, p8, p9⟩ := HBX.out _ c11.kp
          simp only [List.length_cons, List.length_nil] at q7
          go_cut [] (fun W' => ∃ l8, Bl w W' b l8 ∧ l8.length ≤ 3500 ∧ Hid (l8 = l7 ++ CT))
          case first =>
            as_aux_lemma =>
              cases b200
              · cases one
                · cases b206
                  · have HC2 : Hid (CT = hdrB bn ctN txtV) := Lib.hid (by rw [← HCT.out]; rfl)
                    go_wp2_with (go_at_call 79; ((refine add2_any (w0 := w) _ c11 (by omega) (by decide) (by first | omega | decide) ?_); intro w12 l8 c12 g8 q8))
                    go_meet
                    exact ⟨l8, c12, by simp only [List.length_cons, List.length_nil] at q8; omega, Lib.hid (by rw [g8.out, HC2.out]; rfl)⟩
                  · have HC2 : Hid (CT = hdrB true ctN mpV) := Lib.hid (by rw [← HCT.out]; rfl)
                    go_wp2_with (first | (go_at_call 80; (refine bound_any _ ?_)) | (go_at_call 79; ((refine add2_any (w0 := w) _ c11 (by omega) (by decide) (by first | omega | decide) ?_); intro w12 l8 c12 g8 q8)))
                    go_meet
                    exact ⟨l8, c12, by simp [boundL] at q8; omega, Lib.hid (by rw [g8.out, HC2.out]; rfl)⟩
                · have HC2 : Hid (CT = hdrB true ctN kd) := Lib.hid (by rw [← HCT.out]; rfl)
                  go_wp2_with (go_at_call 79; ((refine add2_any (w0 := w) _ c11 (by omega) (by decide) (by first | omega | decide) ?_); intro w12 l8 c12 g8 q8))
                  go_meet
                  exact ⟨l8, c12, by simp only [List.length_cons, List.length_nil] at q8; omega, Lib.hid (by rw [g8.out, HC2.out]; rfl)⟩
              · have HC2 : Hid (CT = hdrB true ctN kd) := Lib.hid (by rw [← HCT.out]; rfl)
                go_wp2_with (go_at_call 79; ((refine add2_any (w0 := w) _ c11 (by omega) (by decide) (by first | omega | decide) ?_); intro w12 l8 c12 g8 q8))
                go_meet
                exact ⟨l8, c12, by simp only [List.length_cons, List.length_nil] at q8; omega, Lib.hid (by rw [g8.out, HC2.out]; rfl)⟩
          case rest =>
            obtain ⟨l8, c12, q8, g8⟩ := hcut
            clear c11
            clear p0 p1 p2 p3 p4 p5 p6 p7 p8 p9
            obtain ⟨p0, p1, p2, p3, p4, p5, p6, p7, p8, p9⟩ := HBX.out _ c12.kp
            go_upto_if 140 with (fail)
            go_cut [] (fun W' => ∃ l9, Bl w W' b l9 ∧ l9.length ≤ 4000 ∧ Hid (l9 = l8 ++ CR))
            case first =>
              as_aux_lemma =>
                cases one with
                | false =>
                  have HC2 : Hid (CR = []) := Lib.hid (by rw [← HCR.out]; rfl)
                  go_wp2
                  go_meet
                  exact ⟨l8, c12, by omega, Lib.hid (by rw [HC2.out, List.append_nil])⟩
                | true =>
                  obtain ⟨z1, z2, sb, so, rfl, rfl, hcl, hzk, hcell⟩ := HSp2.out rfl
                  obtain ⟨za, zb, zc, zd⟩ := hzk
                  simp only at za zb zc zd
                  obtain ⟨co, hco⟩ : ∃ co, contL z1 z2 len = co := ⟨_, rfl⟩
                  have hcol : co.length ≤ 100 := by rw [← hco]; exact contL_len z1 z2 len ⟨za, zb⟩ ⟨zc, zd⟩ hlen
                  have HCo : Hid (∀ (R : Ending → World → Prop) (w1 : World), Lw w1 → (∀ w', Kp [] w1 w' → R (.returned (.string (S co))) w') → Calls Tryz.prog 81 #[.agg #[.int .i64 z1, .int .i64 z2], .int .i64 len] w1 R) := Lib.hid (fun R w1 h1 h => content_any z1 z2 len w1 ⟨za, zb⟩ ⟨zc, zd⟩ hlen h1 (by rw [hco]; exact h))
                  have HC2 : Hid (CR = hdrB true crN co) := Lib.hid (by rw [← HCR.out, hcl, hco]; rfl)
                  have HS19 : Hid (∀ w', Kp [] w w' → w'.cell? ⟨g, 8, none⟩ = some (.slice (some ⟨sb, so, none⟩) 1 db) ∧ w'.cell? ⟨g, 5, none⟩ = some (.int .i64 len) ∧ w'.cell? ⟨sb, so, none⟩ = some (.int .i64 z1) ∧ w'.cell? ⟨sb, so + 1, none⟩ = some (.int .i64 z2)) := Lib.hid (fun w' k' => by have := HBX.out w' k'; exact ⟨this.2.2.2.2.2.2.2.2.1, this.2.2.2.2.2.1, (hcell w' k').1, (hcell w' k').2⟩)
                  have c12d := c12.step (Kp.refl [] _).drew
                  clear hco hcl hcell
                  go_upto_region 19 with (fail)
                  go_region_held_law (fun w' => w'.cell? ⟨g, 8, none⟩ = some (.slice (some ⟨sb, so, none⟩) 1 db) ∧ w'.cell? ⟨g, 5, none⟩ = some (.int .i64 len) ∧ w'.cell? ⟨sb, so, none⟩ = some (.int .i64 z1) ∧ w'.cell? ⟨sb, so + 1, none⟩ = some (.int .i64 z2)) (first | exact HS19.out _ c14.kp | exact HS19.out _ c13.kp | exact HS19.out _ c12d.kp) (first | (go_simp; go_at_call 81; (refine HCo.out _ _ (hw.kp c12d.kp) ?_); intro w13 k13; have c13 := c12d.step k13) | (go_simp; go_at_call 79; (refine add2_any (w0 := w) true c13 (by omega) (by decide) (by omega) ?_); intro w14 l9 c14 g9 q9))
                  go_wp2
                  go_meet
                  exact ⟨l9, c14, by simp only [List.length_cons, List.length_nil] at q9; omega, Lib.hid (by rw [g9.out, HC2.out]; rfl)⟩
            case rest =>
              obtain ⟨l9, c14, q9, g9⟩ := hcut
              clear c12
              clear p0 p1 p2 p3 p4 p5 p6 p7 p8 p9
              obtain ⟨p0, p1, p2, p3, p4, p5, p6, p7, p8, p9⟩ := HBX.out _ c14.kp
              have HS20 : Hid (∀ w', Kp [] w w' → w'.cell? ⟨g, 0, none⟩ = some (.int .i64 k) ∧ w'.cell? ⟨g, 5, none⟩ = some (.int .i64 len)) := Lib.hid (fun w' k' => by have := HBX.out w' k'; exact ⟨this.1, this.2.2.2.2.2.1⟩)
              have c14d := c14.step (Kp.refl [] _).drew
              go_upto_region 20 with (fail)
              go_region_held_law (fun w' => w'.cell? ⟨g, 0, none⟩ = some (.int .i64 k) ∧ w'.cell? ⟨g, 5, none⟩ = some (.int .i64 len)) (first | exact HS20.out _ c16.kp | exact HS20.out _ c15.kp | exact HS20.out _ c14d.kp) (first | (go_simp; go_at_call 82; (refine HNo.out _ _ (hw.kp c14d.kp) ?_); intro w15 k15; have c15 := c14d.step k15) | (go_simp; go_at_call 79; (refine add2_any (w0 := w) b416 c15 (by omega) (by decide) (by omega) ?_); intro w16 l10 c16 g10 q10))
              clear c14 c14d c15
              clear p0 p1 p2 p3 p4 p5 p6 p7 p8 p9
              obtain ⟨p0, p1, p2, p3, p4, p5, p6, p7, p8, p9⟩ := HBX.out _ c16.kp
              simp only [List.length_cons, List.length_nil] at q10
              go_upto_region 21 with (fail)
              have HS21 : Hid (∀ w', Kp [] w w' → w'.cell? ⟨g, 0, none⟩ = some (.int .i64 k) ∧ w'.cell? ⟨g, 9, none⟩ = some (.slice A n c)) := Lib.hid (fun w' k' => by have := HBX.out w' k'; exact ⟨this.1, this.2.2.2.2.2.2.2.2.2⟩)
              have c16d := c16.step (Kp.refl [] _).drew
              go_region_held_law (fun w' => w'.cell? ⟨g, 0, none⟩ = some (.int .i64 k) ∧ w'.cell? ⟨g, 9, none⟩ = some (.slice A n c)) (first | exact HS21.out _ c19.kp | exact HS21.out _ c18.kp | exact HS21.out _ c17.kp | exact HS21.out _ c16d.kp) (first | (go_simp; go_at_call 83; (refine HLen.out _ _ c16d.kp ?_); intro w17 k17; have c17 := c16d.step k17) | (go_simp; go_at_call 77; (refine HIL.out _ _ (hw.kp c17.kp) ?_); intro w18 k18; have c18 := c17.step k18) | (go_simp; go_at_call 79; (refine add2_any (w0 := w) bn c18 (by omega) (by decide) (by omega) ?_); intro w19 l11 c19 g11 q11))
              clear c16 c16d c17 c18
              clear p0 p1 p2 p3 p4 p5 p6 p7 p8 p9
              obtain ⟨p0, p1, p2, p3, p4, p5, p6, p7, p8, p9⟩ := HBX.out _ c19.kp
              simp only [List.length_cons, List.length_nil] at q11
              go_upto_region 23 with (go_at_call 79; ((refine add2_any (w0 := w) cl c19 (by omega) (by decide) (by decide) ?_); intro w20 l12 c20 g12 q12))
              clear c19
              clear p0 p1 p2 p3 p4 p5 p6 p7 p8 p9
              obtain ⟨p0, p1, p2, p3, p4, p5, p6, p7, p8, p9⟩ := HBX.out _ c20.kp
              simp only [List.length_cons, List.length_nil] at q12
              have HFIN : Hid (∀ l13, l13 = l12 ++ hdrB (!cl && m0) connN keepV → l13 ++ [13, 10] = headS ⟨k, minor, cl, v, mt, len, kd, now, zs, m⟩) := Lib.hid (fun l13 h => by
                have e2 : hdrB mb [68, 97, 116, 101] D = hdrB mb dateN (dateT now) := by
                  cases hq : mb
                  · rfl
                  · rw [hD.out (by rw [hmb, hq])]; rfl
                have e3 : hdrB (bd && mm) lmN D2 = hdrB (bd && mm) lmN (dateT mt) := by
                  cases hq : mm
                  · simp [hdrB]
                  · rw [hD2.out (by rw [hmm, hq])]
                rw [HG.out, h, g12.out, g11.out, g10.out, g9.out, g8.out, g7.out, g6.out, g5.out, g4.out, g3.out, g2.out, e2, e3, HBD.out]
                simp only [List.append_assoc]
                rfl)
              have HNE : Hid (∀ l13 x, l13 = l12 ++ x → l13 ≠ []) := Lib.hid (fun l13 x h => by
                rw [h, g12.out, g11.out, g10.out, g9.out, g8.out, g7.out, g6.out, g5.out, g4.out, g3.out, g2.out]
                simp [HL1.out])
              clear g2 g3 g4 g5 g6 g7 g8 g9 g10 g11 g12 HG
              cases cl
              all_goals
                go_upto_region 24 with (go_at_call 79; ((refine add2_any (w0 := w) _ c20 (by omega) (by decide) (by decide) ?_); intro w21 l13 c21 g13 q13))
                have e13 := HFIN.out l13 g13.out
                have hne : l13 ≠ [] := HNE.out _ _ g13.out
                simp only [List.length_cons, List.length_nil] at q13
                have hs13 : ¬ 9223372036854775807 < l13.length + 2 := by omega
                go_wp2_with (go_at_call 84; ((refine bs_any (w0 := w) c21 hne ?_); intro wZ kZ))
                exact rcast (H.out wZ kZ) (by rw [← e13]; first | rfl | simp | simp [S_append])
end
end
end Go.Proofs.YtnmafahbdfilcaaGreatDoor
