/- ServeResp, walked. -/
import Derived.Test.YtnmafahbdfilcaaGreatDoorPC36
import Derived.BigQuiet
namespace Go.Proofs.YtnmafahbdfilcaaGreatDoor
/-! ### ServeResp, walked. -/
section
open Go.RowKit Go.Shelf
set_option linter.unusedVariables false
set_option linter.unusedSimpArgs false
set_option maxRecDepth 100000
section
variable {R : Ending → World → Prop} {w : World}
set_option maxHeartbeats 16000000 in
theorem sresp_walk (ps0 : List (List UInt8)) (l : List Fl) (now : Int) {A1 A : Option Addr} {n1 c1 n c : Nat} (hr1 : Rd w [] A1 (strs ps0)) (hl1 : ps0.length = n1) (hz : ∀ y ∈ ps0, y.length ≤ 281474976710656) (hr : Rd w [] A (l.flatMap flC)) (hl : l.length = n) (hv : ∀ f ∈ l, f.v ≤ 9223372036854775807 ∧ f.mt ≤ 9223372036854775807) (hw : Lw w)
    (h : ∀ w', Kp [] w w' → R (.returned (.bool true)) w') :
    Calls Tryz.prog 5 #[.slice A1 n1 c1, .slice A n c, .int .i64 now] w R := by
  have H := Lib.hid h
  have HR1 := Lib.hid hr1
  have HL1 := Lib.hid hl1
  have HZ := Lib.hid hz
  have HR := Lib.hid hr
  have HL := Lib.hid hl
  have HV := Lib.hid hv
  clear h hr hl hv hr1 hl1 hz
  have HFar : Hid (∀ (R : Ending → World → Prop) (w1 : World), Kp [] w w1 → (R (.returned (.bool true)) w1) → (Hid (n ≤ 20 ∧ tblOk l) → R (.returned (.bool false)) w1) → Calls Tryz.prog 18 #[.slice A n c] w1 R) := Lib.hid (fun R w1 k h1 h0 => far28_any l (HR.out.kp k (by simp)) HL.out (fun b e => by
    cases b with
    | true => exact h1
    | false =>
      obtain ⟨e1, e2⟩ := e rfl
      exact h0 (Lib.hid ⟨e1, fun f hf => ⟨(e2 f hf).1, ⟨(e2 f hf).2.1, (HV.out f hf).1⟩, ⟨(e2 f hf).2.2, (HV.out f hf).2⟩⟩⟩)))
  obtain ⟨cz, hcz⟩ : ∃ cz, decide ((40 : Int) < n1) = cz := ⟨_, rfl⟩
  go_enter Tryz.func5, Tryz.ntmps5
  go_upto_region 3 with (go_at_call 17; ((refine alive28_any hw ?_); intro w1 k1))
  have K1 := Lib.hid k1
  clear k1
  cases cz with
  | true =>
    go_wp2
    exact H.out _ K1.out
  | false =>
    have hn1 : n1 ≤ 40 := by simp at hcz; omega
    go_upto_region 5 with (go_at_call 18; (refine HFar.out _ _ K1.out ?_ (fun hf => ?_)))
    · exact H.out _ K1.out
    obtain ⟨hn, ht⟩ := hf.out
    have HT := Lib.hid ht
    clear hf HFar HV hcz ht
    go_upto_region 6 with (go_at_call 19; ((refine snew_any ?_); intro tg pg w2 g1 g2 t1 k1; have T1 : Hid (TB w w2 tg pg ⟨[], false, none, false⟩) := Lib.hid (TB.mk (K1.out.trans k1) (Nat.le_trans K1.out.size g1) (Nat.le_trans K1.out.size g2) t1); clear t1 k1 g1 g2))
    clear K1
    go_wp2
    go_loopw [8, 9, 10] (fun av gv iv wr => ∃ (i : Nat) (x o b : List UInt8) (pv over : Bool), i ≤ n1 ∧ iv = .int .i64 i ∧ av = .string (S x) ∧ gv = .string (S o) ∧ x.length ≤ 900 ∧ o.length ≤ i * 15000000 ∧ b.length ≤ 900 ∧ Hid (over = false → pv = false) ∧ Hid (TB w wr tg pg ⟨b, pv, none, over⟩) ∧ Hid (Srv l now x b o over)) (fun _ _ iv _ => n1 - (intOf iv).toNat)
    case atStart => exact ⟨0, [], [], [], false, false, by omega, rfl, rfl, rfl, by simp, by simp, by simp, Lib.hid (fun _ => rfl), T1, Lib.hid (srv_start l now)⟩
    case round =>
      obtain ⟨i, x, o, b, pv, over, hi, rfl, rfl, rfl, hx, ho, hb, hpv, hT, hS⟩ := hrel
      by_cases hlt : i < n1
      · obtain ⟨y, hy⟩ : ∃ y, ps0[i]? = some y := ⟨_, List.getElem?_eq_getElem (by have := HL1.out; omega)⟩
        have hyz := HZ.out _ (List.mem_of_getElem? hy)
        obtain ⟨bb, off, rfl, _, _, hc⟩ := (HR1.out.kp hT.out.kp (by simp)) (by intro e; have := HL1.out; have h2 := strs_len ps0; rw [e] at h2; simp at h2; omega)
        have y0 : wr.cell? ⟨bb, off + i, none⟩ = some (.string (S y)) := hc i _ (by rw [strs_get, hy]; rfl)
        have HY : Hid (∀ w', Kp [] w w' → w'.cell? ⟨bb, off + i, none⟩ = some (.string (S y))) := Lib.hid (fun w' k => by
          obtain ⟨b', off', e, _, _, hc'⟩ := (HR1.out.kp k (by simp)) (by intro e; have := HL1.out; have h2 := strs_len ps0; rw [e] at h2; simp at h2; omega)
          injection e with e
          injection e with e1 e2
          subst e1; subst e2
          exact hc' i _ (by rw [strs_get, hy]; rfl))
        clear hc
        have hsum : IntKind.i64.wrap ((x.length : Int) + y.length) = x.length + y.length := wrap_ok (by omega) (by omega)
        obtain ⟨e9, d9⟩ : ∃ c, decide ((900 : Int) < (x.length : Int) + y.length) = c := ⟨_, rfl⟩
        cases e9 with
        | true =>
          go_wp2
          exact H.out _ hT.out.kp
        | false =>
          have yl : x.length + y.length ≤ 900 := (fun h9 : (x.length : Int) + y.length ≤ 900 => by omega) (by simpa using d9)
          clear hsum d9 hy
          obtain ⟨bw, cw, hcs, hbk, hbr⟩ := conv_rd (S y)
          simp only [S_size] at hcs
          simp only [S_data] at hbr
          have HBK := Lib.hid hbk
          have HBR := Lib.hid hbr
          clear hbk hbr
          go_upto_region 14 with (go_at_call 20; ((refine sfeed_any (hT.out.tk.kp (HBK.out [] _ _ (Kp.refl [] _))) y (HBR.out _ _ [] rfl (by simp)) rfl (by simp only; omega) ?_); intro w5 t5 k5))
          have HB2 : Hid (∃ b2 : List UInt8, b2.length ≤ 900 ∧ (if over || pv then b else b ++ y) = b2 ∧ Srv l now (x ++ y) b2 o over ∧ (over = false → b2.length ≤ 900)) := Lib.hid (by
            cases over with
            | true => exact ⟨b, hb, rfl, srv_fed hS.out, fun e => by cases e⟩
            | false =>
              have hp := hpv.out rfl
              subst hp
              have hbx := (hS.out.1 rfl [] (by simpa using hx)).1
              exact ⟨b ++ y, by rw [List.length_append]; omega, rfl, srv_feed hS.out, fun _ => by rw [List.length_append]; omega⟩)
          have T5 : Hid (TB w w5 tg pg ⟨if over || pv then b else b ++ y, pv, none, over⟩) := Lib.hid ((hT.out.kp' (HBK.out [] _ _ (Kp.refl [] _))).step t5 k5)
          obtain ⟨b2, hb2, hbe, hS2, hzz⟩ := HB2.out
          clear hzz
          rw [hbe] at T5
          have HS2 := Lib.hid hS2
          have y5 : w5.cell? ⟨bb, off + i, none⟩ = some (.string (S y)) := HY.out _ T5.out.kp
          clear HB2 hS2 hbe hS HBK HBR hcs t5 k5 hT y0
          obtain ⟨x2, hx2⟩ : ∃ x2, x ++ y = x2 := ⟨_, rfl⟩
          have hx2l : x2.length ≤ 900 := by rw [← hx2, List.length_append]; omega
          rw [hx2] at HS2
          go_upto_region 15 with (fail)
          clear y5 HY
          have HX2 := Lib.hid hx2
          clear hx2
          go_wp2
          go_loopw [9, 11] (fun gv kv wr => ∃ (k : Nat) (o b : List UInt8) (pv over : Bool), k ≤ 57 ∧ kv = .int .i64 k ∧ gv = .string (S o) ∧ o.length ≤ i * 15000000 + k * 250000 ∧ b.length ≤ 900 ∧ Hid (over = false → pv = false ∧ b.length + 16 * k ≤ 900) ∧ Hid (TB w wr tg pg ⟨b, pv, none, over⟩) ∧ Hid (Srv l now x2 b o over)) (fun _ kv _ => 60 - (intOf kv).toNat)
          case atStart => exact ⟨0, o, b2, pv, over, Nat.zero_le _, rfl, rfl, Nat.le_trans ho (Nat.le_add_right _ _), hb2, Lib.hid (fun e => ⟨hpv.out e, by simpa using hb2⟩), T5, HS2⟩
          case round =>
            clear T5 HS2 hpv hb2 ho hb
            obtain ⟨k, o, b, pv, over, hk, rfl, rfl, ho, hb, hpv, hT, hS⟩ := hrel
            cases over with
            | true =>
              obtain ⟨kz, hF⟩ := srv_over hS.out hx2l
              have HRs : Hid (∀ (R : Ending → World → Prop) (w1 : World), Kp [] w w1 → (∀ w', Kp [] w1 w' → R (.returned (.tuple #[.string (S o), .bool true])) w') → Calls Tryz.prog 28 #[.string (S x2), .slice A n c, .int .i64 now] w1 R) := Lib.hid (fun R w1 k h => resp28_any x2 l now (HR.out.kp k (by simp)) HL.out hn HT.out hx2l (fun T ov kk w' k' e _ => by
                have e := e.out
                rw [hF] at e
                simp only [Prod.mk.injEq] at e
                obtain ⟨rfl, rfl, _⟩ := e
                exact h w' k'))
              have HA0 : Hid (∀ (R : Ending → World → Prop), (∀ w', TB w w' tg pg ⟨b, pv, none, true⟩ → Kp [tg, pg] wr w' → R (.returned (.tuple #[.agg #[.string ⟨#[]⟩, .int .i64 0, .string ⟨#[]⟩, .string ⟨#[]⟩, .int .i64 0, .slice none 0 0, .bool false], .bool false])) w') → Calls Tryz.prog 21 #[.pointer (some ⟨tg, 0, none⟩)] wr R) := Lib.hid (fun R h => sask_any hw.ml hT.out (fun _ => by simp only; omega) (fun e w' t k => h w' t k) (fun a e => by cases e))
              have f1 : (o == o) = true := by simp
              have f2 : (o != o) = false := by simp
              clear hF
              go_upto_region 19 with (go_at_call 21; ((refine HA0.out _ ?_); intro w6 t6 k6))
              have T6 : Hid (TB w (w6.alloc (.cells #[.string ⟨#[]⟩, .int .i64 0, .string ⟨#[]⟩, .string ⟨#[]⟩, .int .i64 0, .slice none 0 0, .bool false] 54)) tg pg ⟨b, pv, none, true⟩) := Lib.hid (t6.kp' ((Kp.refl _ _).alloc _))
              clear t6 k6
              go_upto_region 27 with (go_at_call 28; ((refine HRs.out _ _ T6.out.kp ?_); intro w7 k7))
              have T7 := Lib.hid (T6.out.kp' k7)
              clear k7 T6
              go_wp2_with (go_at_call 27; (refine sover_any T7.out.tk ?_))
              exact ⟨⟨i + 1, x2, o, b, pv, true, by omega, by go_num, rfl, rfl, hx2l, by omega, hb, Lib.hid (fun e => by cases e), T7, hS⟩, by simp [intOf]; omega⟩
            | false =>
              obtain ⟨e1, hbk⟩ := hpv.out rfl
              subst e1
              have hb9 : b.length ≤ 900 := hb
              have hon : askS ⟨b, false, none, false⟩ = (⟨(nextF b).2.2.1, (nextF b).2.2.2, nxtOp b false, false⟩, nxtOp b false) := rfl
              have HAsk : Hid (∀ (R : Ending → World → Prop), (nxtOp b false = none → ∀ w', TB w w' tg pg ⟨(nextF b).2.2.1, (nextF b).2.2.2, none, false⟩ → Kp [tg, pg] wr w' → R (.returned (.tuple #[noAsk, .bool false])) w') → (∀ a, nxtOp b false = some a → ∀ A c w', TB w w' tg pg ⟨(nextF b).2.2.1, (nextF b).2.2.2, some a, false⟩ → Kp [tg, pg] wr w' → R (.returned (.tuple #[.agg (askC a A c).toArray, .bool true])) w') → Calls Tryz.prog 21 #[.pointer (some ⟨tg, 0, none⟩)] wr R) := Lib.hid (fun R h0 h1 => sask_any hw.ml hT.out (fun _ => by simp only; omega) (fun e w' t k => by rw [hon] at e t; simp only at e t; rw [e] at t; exact h0 e w' t k) (fun a e A c w' t k => by rw [hon] at e t; simp only at e t; rw [e] at t; exact h1 a e A c w' t k))
              obtain ⟨op, hop⟩ : ∃ op, nxtOp b false = op := ⟨_, rfl⟩
              rw [hop] at HAsk
              cases op with
              | none =>
                obtain ⟨en, hF⟩ := srv_none hS.out hx2l hop
                rw [en] at HAsk
                have HA0 : Hid (∀ (R : Ending → World → Prop), (∀ w', TB w w' tg pg ⟨b, false, none, false⟩ → Kp [tg, pg] wr w' → R (.returned (.tuple #[.agg #[.string ⟨#[]⟩, .int .i64 0, .string ⟨#[]⟩, .string ⟨#[]⟩, .int .i64 0, .slice none 0 0, .bool false], .bool false])) w') → Calls Tryz.prog 21 #[.pointer (some ⟨tg, 0, none⟩)] wr R) := Lib.hid (fun R h => HAsk.out R (fun _ w' t k => h w' t k) (fun a e => by cases e))
                have HRs : Hid (∀ (R : Ending → World → Prop) (w1 : World), Kp [] w w1 → (∀ w', Kp [] w1 w' → R (.returned (.tuple #[.string (S o), .bool false])) w') → Calls Tryz.prog 28 #[.string (S x2), .slice A n c, .int .i64 now] w1 R) := Lib.hid (fun R w1 k h => resp28_any x2 l now (HR.out.kp k (by simp)) HL.out hn HT.out hx2l (fun T ov kk w' k' e _ => by
                  have e := e.out
                  rw [hF] at e
                  simp only [Prod.mk.injEq] at e
                  obtain ⟨rfl, rfl, _⟩ := e
                  exact h w' k'))
                have f1 : (o == o) = true := by simp
                have f2 : (o != o) = false := by simp
                clear HAsk en hon hop hF
                go_upto_region 19 with (go_at_call 21; ((refine HA0.out _ ?_); intro w6 t6 k6))
                have T6 : Hid (TB w (w6.alloc (.cells #[.string ⟨#[]⟩, .int .i64 0, .string ⟨#[]⟩, .string ⟨#[]⟩, .int .i64 0, .slice none 0 0, .bool false] 54)) tg pg ⟨b, false, none, false⟩) := Lib.hid (t6.kp' ((Kp.refl _ _).alloc _))
                clear t6 k6
                go_upto_region 27 with (go_at_call 28; ((refine HRs.out _ _ T6.out.kp ?_); intro w7 k7))
                have T7 := Lib.hid (T6.out.kp' k7)
                clear k7 T6
                go_wp2_with (go_at_call 27; (refine sover_any T7.out.tk ?_))
                exact ⟨⟨i + 1, x2, o, b, false, false, by omega, by go_num, rfl, rfl, hx2l, by omega, hb, Lib.hid (fun _ => rfl), T7, hS⟩, by simp [intOf]; omega⟩
              | some a =>
                obtain ⟨r0, r1, r2, r3⟩ := srv_some hS.out hx2l hop
                have hok := op_ok (by omega) hop
                have hnl := nxtOp_len hop
                obtain ⟨b', hb'⟩ : ∃ b', (nextF b).2.2.1 = b' := ⟨_, rfl⟩
                obtain ⟨ov', hov'⟩ : ∃ ov', (nextF b).2.2.2 = ov' := ⟨_, rfl⟩
                rw [hb', hov'] at HAsk
                rw [hb'] at r1 r2 r3
                rw [hov'] at r3
                have HA1 : Hid (∀ (R : Ending → World → Prop), (∀ A c w', TB w w' tg pg ⟨b', ov', some a, false⟩ → Kp [tg, pg] wr w' → R (.returned (.tuple #[.agg #[.string (S a.1), .int .i64 a.2.1, .string (S a.2.2.m), .string (S a.2.2.t), .int .i64 a.2.2.minor, .slice A a.2.2.fs.length c, .bool a.2.2.close], .bool true])) w') → Calls Tryz.prog 21 #[.pointer (some ⟨tg, 0, none⟩)] wr R) := Lib.hid (fun R h => HAsk.out R (fun e => by cases e) (fun a' e A c w' t k => by injection e with e; subst e; exact h A c w' t k))
                have hfo := tbl_find HT.out a.1
                have hps := plan_short a (findL l a.1).2 (findL l a.1).1.v (findL l a.1).1.mt (findL l a.1).1.s.length (kindL a.1) now (kindL_len _) hfo.2.1 hfo.2.2 ⟨by omega, by omega⟩
                have HPl : Hid (∀ (R : Ending → World → Prop) (w1 : World), TB w w1 tg pg ⟨b', ov', some a, false⟩ → (∀ B n c w', Kp [] w1 w' → Hid (Rd w' [] B ((planL l now a).2.2.1.flatMap ptV) ∧ (planL l now a).2.2.1.length = n ∧ n ≤ 21) → R (.returned (.agg #[.int .i64 (planL l now a).1, .string (S (planL l now a).2.1), .slice B n c, .bool (planL l now a).2.2.2])) w') → Calls Tryz.prog 23 #[.pointer (some ⟨tg, 0, none⟩), .bool (findL l a.1).2, .agg #[.int .i64 (findL l a.1).1.v, .int .i64 (findL l a.1).1.mt, .int .i64 (findL l a.1).1.s.length, .string (S (kindL a.1))], .int .i64 now] w1 R) := Lib.hid (fun R w1 t0 h => splan_any hw t0 rfl hok _ _ _ _ now _ hfo.2.1 hfo.2.2 ⟨by omega, by omega⟩ (kindL_len _) (fun B n c w' k hh => h B n c w' k hh))
                have HFi : Hid (∀ (R : Ending → World → Prop) (w1 : World), Kp [] w w1 → (∀ w', Kp [] w1 w' → R (.returned (.tuple #[.agg #[.string (S (findL l a.1).1.nm), .string (S (findL l a.1).1.s), .int .i64 (findL l a.1).1.v, .int .i64 (findL l a.1).1.mt], .bool (findL l a.1).2])) w') → Calls Tryz.prog 22 #[.slice A n c, .string (S a.1)] w1 R) := Lib.hid (fun R w1 k h => find28_any l a.1 (HR.out.kp k (by simp)) HL.out hn h)
                have HTx : Hid (ansT l now a = txtP (planL l now a).2.1 (planL l now a).2.2.1 (findL l a.1).1.s) := Lib.hid rfl
                have hps' : (planL l now a).2.1.length ≤ 4000 ∧ ∃ ln, ln ≤ 35184372088832 ∧ ∀ p ∈ (planL l now a).2.2.1, inP ln p ∧ okPt p := hps
                obtain ⟨hp1, ln, hp2, hp3⟩ := hps'
                have hs9 := hfo.1
                have hen := plan_ends l now a
                clear hps hfo HAsk
                obtain ⟨st, e1⟩ : ∃ x, (planL l now a).1 = x := ⟨_, rfl⟩
                obtain ⟨hd, e2⟩ : ∃ x, (planL l now a).2.1 = x := ⟨_, rfl⟩
                obtain ⟨ps, e3⟩ : ∃ x, (planL l now a).2.2.1 = x := ⟨_, rfl⟩
                obtain ⟨cl, e4⟩ : ∃ x, (planL l now a).2.2.2 = x := ⟨_, rfl⟩
                obtain ⟨f, e5⟩ : ∃ x, (findL l a.1).1 = x := ⟨_, rfl⟩
                obtain ⟨th, e6⟩ : ∃ x, (findL l a.1).2 = x := ⟨_, rfl⟩
                rw [e1, e2, e3, e4, e5, e6] at HPl
                rw [e5, e6] at HFi
                rw [e2, e3, e5] at HTx
                rw [e2] at hp1
                rw [e3] at hp3
                rw [e5] at hs9
                rw [e4] at hen
                have HP3 := Lib.hid hp3
                have HDn : Hid (doneS ⟨b', ov', some a, false⟩ = ⟨b', ov', none, cl⟩) := Lib.hid (by rw [hen]; rfl)
                rw [← hen] at r2 r3
                clear e1 e2 e3 e4 e5 e6 hp3 hen
                obtain ⟨fn, fs, fv, fm⟩ := f
                simp only at HPl HFi HTx hs9
                obtain ⟨nm, a2, r⟩ := a
                simp only at HPl HFi HA1 hnl
                have HE2 : Hid (∀ (o' : List UInt8), o' = o ++ txtP hd ps fs → Srv l now x2 b' o' cl) := Lib.hid (fun o' e => by
                  subst e
                  rw [← HTx.out]
                  exact r2)
                have HE3 : Hid (cl = false → ov' = false ∧ b'.length + 16 * (k + 1) ≤ 900) := Lib.hid (fun e => ⟨(r3 e).1, by have := (r3 e).2; omega⟩)
                have hb2 : b'.length ≤ 900 := by omega
                have fcl : (cl == cl) = true := by simp
                have fcl2 : (cl != cl) = false := by simp
                clear r0 r1 r2 r3 HTx hon hop hb' hov'
                go_upto_region 19 with (go_at_call 21; ((refine HA1.out _ ?_); intro A3 c3 w3 t3 k3))
                refine gen_worldC (fun W3 => ∃ ga, w3.heap.size = ga ∧ Hid (tg < ga ∧ pg < ga) ∧ Hid (TB w W3 tg pg ⟨b', ov', some (nm, a2, r), false⟩ ∧ Bk W3 ga 54 (askC (nm, a2, r) A3 c3))) ⟨_, rfl, Lib.hid ⟨by obtain ⟨_, hb, _⟩ := t3.tk.tk; exact hb.lt, Bk.lt t3.tk.ps⟩, Lib.hid ⟨t3.kp' ((Kp.refl _ _).alloc _), (Bk.new' _ _ _).cast rfl⟩⟩ ?_
                rintro W3 ⟨ga, hga, hn3, hW3⟩
                rw [hga]
                clear t3 k3 hga hT hS
                have y0 : W3.cell? ⟨ga, 0, none⟩ = some (.string (S nm)) := hW3.out.2.cell 0
                go_upto_region 21 with (go_at_call 22; ((refine HFi.out _ _ hW3.out.1.kp ?_); intro w5 k5))
                refine gen_worldC (fun W5 => ∃ gl, w5.heap.size = gl ∧ Hid (tg < gl ∧ pg < gl) ∧ Hid (TB w W5 tg pg ⟨b', ov', some (nm, a2, r), false⟩ ∧ Bk W5 ga 54 (askC (nm, a2, r) A3 c3) ∧ Bk W5 gl 58 [.string (S fn), .string (S fs), .int .i64 fv, .int .i64 fm])) ⟨_, rfl, Lib.hid (by have h1 := hn3.out; have h2 := hW3.out.2.lt; have h3 := k5.size; omega), Lib.hid ⟨hW3.out.1.kp' (k5.alloc _), (hW3.out.2.kp k5 (by simp)).alloc _, (Bk.new' _ _ _).cast rfl⟩⟩ ?_
                rintro W5 ⟨gl, hgl, hn5, hW5⟩
                rw [hgl]
                clear k5 hW3 hgl y0 HFi
                have HC : Hid (∀ W', Kp [] W5 W' → (W'.cell? ⟨ga, 0, none⟩ = some (.string (S nm)) ∧ W'.cell? ⟨gl, 1, none⟩ = some (.string (S fs)) ∧ W'.cell? ⟨gl, 2, none⟩ = some (.int .i64 fv) ∧ W'.cell? ⟨gl, 3, none⟩ = some (.int .i64 fm))) := Lib.hid (fun W' k => ⟨(hW5.out.2.1.kp k (by simp)).cell 0, (hW5.out.2.2.kp k (by simp)).cell 1, (hW5.out.2.2.kp k (by simp)).cell 2, (hW5.out.2.2.kp k (by simp)).cell 3⟩)
                have HD : Hid (Kp [] W5 W5.drew) := Lib.hid (Kp.refl _ _).drew
                have HP9 : Hid (∀ (R : Ending → World → Prop) (w1 : World), Kp [] W5 w1 → (∀ B n c w', Kp [] w1 w' → Kp [] W5 w' → Hid (Rd w' [] B (ps.flatMap ptV) ∧ ps.length = n ∧ n ≤ 21) → R (.returned (.agg #[.int .i64 st, .string (S hd), .slice B n c, .bool cl])) w') → Calls Tryz.prog 23 #[.pointer (some ⟨tg, 0, none⟩), .bool th, .agg #[.int .i64 fv, .int .i64 fm, .int .i64 fs.length, .string (S (kindL nm))], .int .i64 now] w1 R) := Lib.hid (fun R w1 k h => HPl.out R w1 (hW5.out.1.kp' k) (fun B n c w' j hh => h B n c w' j (k.trans j) hh))
                obtain ⟨kd, hkd⟩ : ∃ kd, kindL nm = kd := ⟨_, rfl⟩
                have HKd : Hid (∀ (R : Ending → World → Prop) (w1 : World), R (.returned (.string (S kd))) w1 → Calls Tryz.prog 24 #[.string (S nm)] w1 R) := Lib.hid (fun R w1 h => rkind_any nm w1 (by omega) (by rw [hkd]; exact h))
                rw [hkd] at HP9
                clear hkd HPl
                obtain ⟨y0, y1, y2, y3⟩ := HC.out W5 (Kp.refl _ _)
                go_cut [16] (fun x W' => ∃ gp B n d, x = .pointer (some ⟨gp, 0, none⟩) ∧ Hid (Kp [] W5 W' ∧ Bk W' gp 31 [.int .i64 st, .string (S hd), .slice B n d, .bool cl] ∧ Rd W' [] B (ps.flatMap ptV) ∧ ps.length = n ∧ n ≤ 21 ∧ W5.heap.size ≤ gp))
                case first =>
                  go_region_held_law (fun W' => (W'.cell? ⟨ga, 0, none⟩ = some (.string (S nm)) ∧ W'.cell? ⟨gl, 1, none⟩ = some (.string (S fs)) ∧ W'.cell? ⟨gl, 2, none⟩ = some (.int .i64 fv) ∧ W'.cell? ⟨gl, 3, none⟩ = some (.int .i64 fm))) (first | with_reducible exact HC.out _ k4 | with_reducible exact HC.out _ HD.out | with_reducible exact HC.out _ (Kp.drew (Kp.alloc (Kp.refl [] W5) _)) | with_reducible exact HC.out _ (Kp.alloc k4 _) | with_reducible exact HC.out _ (Kp.alloc HD.out _) | exact HC.out _ ((((Kp.setCell k4 (.inr (by have := k4.size; first | (simp; done) | (simp; omega))) _).setCell (.inr (by have := k4.size; first | (simp; done) | (simp; omega))) _).setCell (.inr (by have := k4.size; first | (simp; done) | (simp; omega))) _).setCell (.inr (by have := k4.size; first | (simp; done) | (simp; omega))) _)) (first | (go_simp; go_at_call 24; (with_reducible refine HKd.out _ _ ?_)) | (go_simp; go_at_call 23; (with_reducible refine HP9.out _ _ (by first | with_reducible exact HD.out | with_reducible exact Kp.alloc HD.out _ | with_reducible exact Kp.drew (Kp.alloc (Kp.refl [] W5) _)) ?_); intro B n d w4 j4 k4 h4; (try (have bz4 : Bk w4 W5.heap.size 31 [.int .i64 0, .string ⟨#[]⟩, .slice none 0 0, .bool false] := (by first | exact Bk.kp (nwPd W5) j4 (by simp) | exact Bk.kp (nwP W5).drew j4 (by simp)); obtain ⟨⟨z0, z1, z2, z3⟩, ⟨zz0, zz1, zz2, zz3⟩⟩ := bk4r bz4))))
                  all_goals
                    go_wp2
                    go_meet
                    first
                    | exact ⟨_, B, n, d, rfl, Lib.hid ⟨k4.alloc _, (Bk.new' _ _ _).cast rfl, (h4.out.1).kp (S := []) ((Kp.refl _ _).alloc _) (by simp), h4.out.2.1, h4.out.2.2, k4.size⟩⟩
                    | (obtain ⟨W', hW', kW, bW⟩ := put4 bz4 (.int .i64 st) (.string (S hd)) (.slice B n d) (.bool cl)
                       rw [hW']
                       exact ⟨_, B, n, d, rfl, Lib.hid ⟨k4.thn kW (fun s hs => .inr (by have := k4.size; simp at hs; omega)), bW, ((rd_notP h4.out.1 bz4).kp kW (by simp)).sub (by simp), h4.out.2.1, h4.out.2.2, Nat.le_refl _⟩⟩)
                case rest =>
                  obtain ⟨gp, B, n9, d, hx9, hC⟩ := hcut
                  rw [hx9]
                  clear hx9 y0 y1 y2 y3 HP9 HKd HD
                  obtain ⟨⟨x0, x1, x2', x3⟩, _⟩ := bk4r hC.out.2.1
                  obtain ⟨y0, y1, y2, y3⟩ := HC.out _ hC.out.1
                  have T6 := Lib.hid (hW5.out.1.kp' hC.out.1)
                  have hpl : (ps.flatMap (pcP fs)).length ≤ 210000 := by
                    have h1 := pcs_len hs9 ps (fun p hp => (HP3.out p hp).2.1)
                    have h2 := hC.out.2.2.2.1
                    have h3 := hC.out.2.2.2.2.1
                    omega
                  have hT : (txtP hd ps fs).length ≤ 250000 := by unfold txtP; rw [List.length_append]; omega
                  have HTx : Hid (∀ (R : Ending → World → Prop), (∀ w', Kp [] wc w' → R (.returned (.string (S (txtP hd ps fs)))) w') → Calls Tryz.prog 25 #[.agg #[.int .i64 st, .string (S hd), .slice B n9 d, .bool cl], .string (S fs)] wc R) := Lib.hid (fun R h => text28_any st hd ps cl fs hC.out.2.2.1 hC.out.2.2.2.1 hC.out.2.2.2.2.1 HP3.out hp2 hp1 hs9 h)
                  obtain ⟨T, hTe⟩ : ∃ T, txtP hd ps fs = T := ⟨_, rfl⟩
                  rw [hTe] at HTx hT HE2
                  have hgp : tg < gp ∧ pg < gp := by
                    have h1 := hC.out.2.2.2.2.2
                    have h2 := hn5.out
                    have h3 := hW5.out.2.2.lt
                    omega
                  have HBP : Hid (Bk wc gp 31 [.int .i64 st, .string (S hd), .slice B n9 d, .bool cl]) := Lib.hid hC.out.2.1
                  clear hpl hTe hC hW5 HC
                  go_upto_region 23 with (go_at_call 25; ((refine HTx.out _ ?_); intro w7 k7))
                  have T7 := Lib.hid (T6.out.kp' k7)
                  have HB7 := Lib.hid (HBP.out.kp k7 (by simp))
                  clear T6 k7 x0 x1 x2' x3 y0 y1 y2 y3 HBP
                  go_upto_region 24 with (go_at_call 26; ((refine sdone_any T7.out ?_); intro w8 t8 k8))
                  have T8 : Hid (TB w w8 tg pg ⟨b', ov', none, cl⟩) := Lib.hid (by have := HDn.out; rw [this] at t8; exact t8)
                  have HX3 : Hid (∀ W', Kp [] w8 W' → W'.cell? ⟨gp, 3, none⟩ = some (.bool cl)) := Lib.hid (fun W' k => ((HB7.out.kp k8 (by simp; omega)).kp k (by simp)).cell 3)
                  have HOv : Hid (∀ (R : Ending → World → Prop) (w1 : World), Kp [] w8 w1 → R (.returned (.bool cl)) w1 → Calls Tryz.prog 27 #[.pointer (some ⟨tg, 0, none⟩)] w1 R) := Lib.hid (fun R w1 k h => sover_any (T8.out.tk.kp k) h)
                  have x3 := HX3.out w8 (Kp.refl _ _)
                  clear t8 k8 T7 HB7 HDn
                  refine wp_region_kp (by kernel_rfl) (by kernel_rfl) ?_
                  repeat (go_big_quiet_step (first | (go_at_call 27; (refine HOv.out _ _ (kpw_kp _ _) ?_; exact kpx_mk (Kp.refl _ _)))))
                  refine wpQuiet_nil ?_
                  intro w9 k9
                  go_wp2
                  refine ⟨⟨k + 1, o ++ T, b', ov', cl, by omega, by go_num, rfl, by rw [List.length_append]; omega, hb2, HE3, Lib.hid (T8.out.kp' k9), Lib.hid (HE2.out _ rfl)⟩, by simp [intOf]; omega⟩
      · obtain rfl : i = n1 := by omega
        go_wp2
        exact H.out _ hT.out.kp
end
end
end Go.Proofs.YtnmafahbdfilcaaGreatDoor
