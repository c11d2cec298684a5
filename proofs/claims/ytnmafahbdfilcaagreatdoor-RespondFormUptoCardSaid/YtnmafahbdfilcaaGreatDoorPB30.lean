/- pantlerlaw28.answers: the answers of the program to bytes, walked. -/
import Derived.Test.YtnmafahbdfilcaaGreatDoorPB29
namespace Go.Proofs.YtnmafahbdfilcaaGreatDoor
/-! ### pantlerlaw28.answers: the answers of the program to bytes, walked. -/
section
open Go.RowKit Go.Shelf
set_option linter.unusedVariables false
set_option linter.unusedSimpArgs false
set_option maxRecDepth 100000
theorem nwP (w : World) : Bk (w.alloc (.cells #[.int .i64 0, .string ⟨#[]⟩, .slice none 0 0, .bool false] 31)) w.heap.size 31 [.int .i64 0, .string ⟨#[]⟩, .slice none 0 0, .bool false] := (Bk.new' _ _ _).cast rfl
theorem nwPd (w : World) : Bk (w.drew.alloc (.cells #[.int .i64 0, .string ⟨#[]⟩, .slice none 0 0, .bool false] 31)) w.heap.size 31 [.int .i64 0, .string ⟨#[]⟩, .slice none 0 0, .bool false] := (Bk.newAt rfl _ _).cast rfl
/-- A talk and the law's own parser, fed alike. -/
structure An (w0 w : World) (tg pg qg : Nat) (s : TkS) : Prop where
  tb : TB w0 w tg pg s
  ps : Ps w qg s.b s.ov
  n1 : qg ≠ tg
  n2 : qg ≠ pg
  gq : w0.heap.size ≤ qg
theorem An.kp' {w0 w w' : World} {tg pg qg : Nat} {s : TkS} (h : An w0 w tg pg qg s) (k : Kp [] w w') : An w0 w' tg pg qg s := ⟨h.tb.kp' k, Bk.kp h.ps k (by simp), h.n1, h.n2, h.gq⟩
section
variable {R : Ending → World → Prop} {w : World}
set_option maxHeartbeats 16000000 in
theorem answers28_any (xs : List UInt8) (l : List Fl) (now : Int) {A : Option Addr} {n c : Nat} (hr : Rd w [] A (l.flatMap flC)) (hl : l.length = n) (hn : n ≤ 20) (ht : tblOk l) (hx : xs.length ≤ 900) (hw : Lw w)
    (h : ∀ (T : List UInt8) (ov : Bool) (k : Nat) (w' : World), Kp [] w w' → Hid (ansF l now 100 xs = (T, ov, k)) → T.length ≤ 100000000 → R (.returned (.tuple #[.string (S T), .bool ov, .int .i64 k])) w') :
    Calls Tryz.prog 29 #[.string (S xs), .slice A n c, .int .i64 now] w R := by
  have H := Lib.hid h
  have HR := Lib.hid hr
  have HL := Lib.hid hl
  have HT := Lib.hid ht
  clear h hr hl ht
  obtain ⟨bw, cw, hcs, hbk, hbr⟩ := conv_rd (S xs)
  simp only [S_size] at hcs
  simp only [S_data] at hbr
  have HBK := Lib.hid hbk
  have HBR := Lib.hid hbr
  clear hbk hbr
  go_enter Tryz.func29, Tryz.ntmps29
  go_upto_region 5 with (first | (go_at_call 19; ((refine snew_any ?_); intro tg pg w1 g1 g2 t1 k1; have T1 := Lib.hid (TB.mk k1 g1 g2 t1); clear t1 k1)) | (go_at_call 20; ((refine sfeed_any (T1.out.tk.kp (HBK.out [] _ _ (Kp.refl [] _))) xs (HBR.out _ _ [] rfl (by simp)) rfl (by first | omega | (show 0 + xs.length ≤ _; omega) | (simp; omega)) ?_); intro w2 t2 k2; have T2 : Hid (TB w w2 tg pg ⟨xs, false, none, false⟩) := Lib.hid ((T1.out.kp' (HBK.out [] _ _ (Kp.refl [] _))).step t2 k2); clear t2 k2)) | (go_at_call 32; ((refine new24_any _ ?_); intro qg w3 g3 p3 k3; have P3 := Lib.hid p3; have T3 := Lib.hid (T2.out.kp' k3); have HQ : Hid (tg < qg ∧ pg < qg ∧ w.heap.size ≤ qg) := Lib.hid (by obtain ⟨_, b1, _⟩ := T2.out.tk.tk; have := b1.lt; have := Bk.lt T2.out.tk.ps; have := T2.out.kp.size; omega); clear p3 k3)) | (go_at_call 33; ((refine feed_any (Bk.kp P3.out (HBK.out [] _ _ (Kp.refl [] _)) (by simp)) xs (HBR.out _ _ [] rfl (by simp)) rfl (by first | omega | (show 0 + xs.length ≤ _; omega) | (simp; omega)) ?_); intro w4 p4 k4)))
  have HA4 : Hid (An w w4 tg pg qg ⟨xs, false, none, false⟩) := Lib.hid (by
    have hq := HQ.out
    exact ⟨(T3.out.kp' (HBK.out [] _ _ (Kp.refl [] _))).par (Bk.kp P3.out (HBK.out [] _ _ (Kp.refl [] _)) (by simp)) (by omega) (by omega) (by omega) k4, p4, by omega, by omega, by omega⟩)
  clear p4 k4 T1 T2 T3 P3 HBK HBR hcs
  go_wp2
  go_loopw [11, 12] (fun ov iv wr => ∃ (k : Nat) (b o : List UInt8) (pv over : Bool), k ≤ 76 ∧ iv = .int .i64 k ∧ ov = .string (S o) ∧ o.length ≤ k * 400000 ∧ Hid (An w wr tg pg qg ⟨b, pv, none, over⟩) ∧ Hid ((over = false → pv = false ∧ b.length + 12 * k ≤ 900 ∧ ansF l now 100 xs = (o ++ (ansF l now 100 b).1, (ansF l now 100 b).2)) ∧ (over = true → b.length ≤ 900 ∧ ansF l now 100 xs = (o, true, b.length)))) (fun _ iv _ => 100 - (intOf iv).toNat)
  case atStart => exact ⟨0, xs, [], false, false, by omega, rfl, rfl, by simp, HA4, Lib.hid ⟨fun _ => ⟨rfl, by omega, rfl⟩, fun e => by cases e⟩⟩
  case round =>
    obtain ⟨k, b, o, pv, over, hk, rfl, rfl, ho, hA, hE⟩ := hrel
    cases over with
    | true =>
      have hb := (hE.out.2 rfl).1
      have HF : Hid (ansF l now 100 xs = (o, true, b.length)) := Lib.hid (hE.out.2 rfl).2
      have HA0 : Hid (∀ (R : Ending → World → Prop), (∀ w', TB w w' tg pg ⟨b, pv, none, true⟩ → Kp [tg, pg] wr w' → R (.returned (.tuple #[.agg #[.string ⟨#[]⟩, .int .i64 0, .string ⟨#[]⟩, .string ⟨#[]⟩, .int .i64 0, .slice none 0 0, .bool false], .bool false])) w') → Calls Tryz.prog 21 #[.pointer (some ⟨tg, 0, none⟩)] wr R) := Lib.hid (fun R h => sask_any hw.ml hA.out.tb (fun _ => by simp only; omega) (fun e w' t k => h w' t k) (fun a e => by cases e))
      clear hE
      go_upto_region 10 with (go_at_call 21; ((refine HA0.out _ ?_); intro w5 t5 k5))
      refine gen_worldC (fun W => Hid (An w W tg pg qg ⟨b, pv, none, true⟩)) (Lib.hid ⟨t5.kp' ((Kp.refl _ _).alloc _), (Bk.kp hA.out.ps k5 (by have h1 := hA.out.n1; have h2 := hA.out.n2; simp; omega)).alloc _, hA.out.n1, hA.out.n2, hA.out.gq⟩) ?_
      intro W hW
      clear t5 k5
      go_wp2_with (first | (go_at_call 27; (refine sover_any hW.out.tb.tk ?_)) | (go_at_call 41; (refine held24_any hW.out.ps (by simp only; omega) ?_)))
      exact bodyPost_ret (v := .tuple #[.string (S o), .bool true, .int .i64 b.length]) (by simp [results, Tryz.results29, go_sem]; try rfl) rfl (H.out o true b.length _ hW.out.tb.kp HF (by omega))
    | false =>
      obtain ⟨e1, hbk, hF⟩ := hE.out.1 rfl
      subst e1
      have HF := Lib.hid hF
      clear hF hE
      have hb9 : b.length ≤ 900 := by omega
      have hon : askS ⟨b, false, none, false⟩ = (⟨(nextF b).2.2.1, (nextF b).2.2.2, nxtOp b false, false⟩, nxtOp b false) := rfl
      have HAsk : Hid (∀ (R : Ending → World → Prop), (nxtOp b false = none → ∀ w', TB w w' tg pg ⟨(nextF b).2.2.1, (nextF b).2.2.2, none, false⟩ → Kp [tg, pg] wr w' → R (.returned (.tuple #[noAsk, .bool false])) w') → (∀ a, nxtOp b false = some a → ∀ A c w', TB w w' tg pg ⟨(nextF b).2.2.1, (nextF b).2.2.2, some a, false⟩ → Kp [tg, pg] wr w' → R (.returned (.tuple #[.agg (askC a A c).toArray, .bool true])) w') → Calls Tryz.prog 21 #[.pointer (some ⟨tg, 0, none⟩)] wr R) := Lib.hid (fun R h0 h1 => sask_any hw.ml hA.out.tb (fun _ => by simp only; omega) (fun e w' t k => by rw [hon] at e t; simp only at e t; rw [e] at t; exact h0 e w' t k) (fun a e A c w' t k => by rw [hon] at e t; simp only at e t; rw [e] at t; exact h1 a e A c w' t k))
      obtain ⟨op, hop⟩ : ∃ op, nxtOp b false = op := ⟨_, rfl⟩
      rw [hop] at HAsk
      cases op with
      | none =>
        obtain ⟨en, ea⟩ := rnd_none l now hb9 hop
        rw [en] at HAsk
        have HA0 : Hid (∀ (R : Ending → World → Prop), (∀ w', TB w w' tg pg ⟨b, false, none, false⟩ → Kp [tg, pg] wr w' → R (.returned (.tuple #[.agg #[.string ⟨#[]⟩, .int .i64 0, .string ⟨#[]⟩, .string ⟨#[]⟩, .int .i64 0, .slice none 0 0, .bool false], .bool false])) w') → Calls Tryz.prog 21 #[.pointer (some ⟨tg, 0, none⟩)] wr R) := Lib.hid (fun R h => HAsk.out R (fun _ w' t k => h w' t k) (fun a e => by cases e))
        have HF2 : Hid (ansF l now 100 xs = (o, false, b.length)) := Lib.hid (by rw [HF.out, ea]; simp)
        clear HAsk HF en ea hon hop
        go_upto_region 10 with (go_at_call 21; ((refine HA0.out _ ?_); intro w5 t5 k5))
        refine gen_worldC (fun W => Hid (An w W tg pg qg ⟨b, false, none, false⟩)) (Lib.hid ⟨t5.kp' ((Kp.refl _ _).alloc _), (Bk.kp hA.out.ps k5 (by have h1 := hA.out.n1; have h2 := hA.out.n2; simp; omega)).alloc _, hA.out.n1, hA.out.n2, hA.out.gq⟩) ?_
        intro W hW
        clear t5 k5
        go_wp2_with (first | (go_at_call 27; (refine sover_any hW.out.tb.tk ?_)) | (go_at_call 41; (refine held24_any hW.out.ps (by simp only; omega) ?_)))
        exact bodyPost_ret (v := .tuple #[.string (S o), .bool false, .int .i64 b.length]) (by simp [results, Tryz.results29, go_sem]; try rfl) rfl (H.out o false b.length _ hW.out.tb.kp HF2 (by omega))
      | some a =>
        obtain ⟨r1, r2, r3⟩ := rnd_some l now hb9 hop
        have hok := op_ok (by omega) hop
        have hnl := nxtOp_len hop
        have hNx : Hid (∀ (R : Ending → World → Prop) (w1 : World), Kp [] w w1 → Ps w1 qg b false → (∀ v w', Ps w' qg (nextF b).2.2.1 (nextF b).2.2.2 → Kp [qg] w1 w' → R (.returned v) w') → Calls Tryz.prog 40 #[.pointer (some ⟨qg, 0, none⟩)] w1 R) := Lib.hid (fun R w1 k p h => next_any (hw.ml.kp k) p (by omega) (fun A c w' p' k' _ _ _ => h _ w' p' k'))
        obtain ⟨b', hb'⟩ : ∃ b', (nextF b).2.2.1 = b' := ⟨_, rfl⟩
        obtain ⟨ov', hov'⟩ : ∃ ov', (nextF b).2.2.2 = ov' := ⟨_, rfl⟩
        rw [hb', hov'] at HAsk hNx
        rw [hb'] at r1 r2 r3
        rw [hov'] at r3
        have HA1 : Hid (∀ (R : Ending → World → Prop), (∀ A c w', TB w w' tg pg ⟨b', ov', some a, false⟩ → Kp [tg, pg] wr w' → R (.returned (.tuple #[.agg #[.string (S a.1), .int .i64 a.2.1, .string (S a.2.2.m), .string (S a.2.2.t), .int .i64 a.2.2.minor, .slice A a.2.2.fs.length c, .bool a.2.2.close], .bool true])) w') → Calls Tryz.prog 21 #[.pointer (some ⟨tg, 0, none⟩)] wr R) := Lib.hid (fun R h => HAsk.out R (fun e => by cases e) (fun a' e A c w' t k => by injection e with e; subst e; exact h A c w' t k))
        have hfo := tbl_find HT.out a.1
        have hps := plan_short a (findL l a.1).2 (findL l a.1).1.v (findL l a.1).1.mt (findL l a.1).1.s.length (kindL a.1) now (kindL_len _) hfo.2.1 hfo.2.2 ⟨by omega, by omega⟩
        have HPl : Hid (∀ (R : Ending → World → Prop) (w1 : World), TB w w1 tg pg ⟨b', ov', some a, false⟩ → (∀ B n c w', Kp [] w1 w' → Hid (Rd w' [] B ((planL l now a).2.2.1.flatMap ptV) ∧ (planL l now a).2.2.1.length = n ∧ n ≤ 21) → R (.returned (.agg #[.int .i64 (planL l now a).1, .string (S (planL l now a).2.1), .slice B n c, .bool (planL l now a).2.2.2])) w') → Calls Tryz.prog 23 #[.pointer (some ⟨tg, 0, none⟩), .bool (findL l a.1).2, .agg #[.int .i64 (findL l a.1).1.v, .int .i64 (findL l a.1).1.mt, .int .i64 (findL l a.1).1.s.length, .string (S (kindL a.1))], .int .i64 now] w1 R) := Lib.hid (fun R w1 t0 h => splan_any hw t0 rfl hok _ _ _ _ now _ hfo.2.1 hfo.2.2 ⟨by omega, by omega⟩ (kindL_len _) (fun B n c w' k hh => h B n c w' k hh))
        have HFi : Hid (∀ (R : Ending → World → Prop) (w1 : World), Kp [] w w1 → (∀ w', Kp [] w1 w' → R (.returned (.tuple #[.agg #[.string (S (findL l a.1).1.nm), .string (S (findL l a.1).1.s), .int .i64 (findL l a.1).1.v, .int .i64 (findL l a.1).1.mt], .bool (findL l a.1).2])) w') → Calls Tryz.prog 22 #[.slice A n c, .string (S a.1)] w1 R) := Lib.hid (fun R w1 k h => find28_any l a.1 (HR.out.kp k (by simp)) HL.out hn h)
        have HTx : Hid (ansT l now a = txtP (planL l now a).2.1 (planL l now a).2.2.1 (findL l a.1).1.s) := Lib.hid rfl
        have hps' : (planL l now a).2.1.length ≤ 4000 ∧ ∃ ln, ln ≤ 35184372088832 ∧ ∀ p ∈ (planL l now a).2.2.1, inP ln p ∧ okPt p := hps
        obtain ⟨hp1, ln, hp2, hp3⟩ := hps'
        have hs9 := hfo.1
        clear hps hfo HAsk
        obtain ⟨st, e1⟩ : ∃ x, (planL l now a).1 = x := ⟨_, rfl⟩
        obtain ⟨hd, e2⟩ : ∃ x, (planL l now a).2.1 = x := ⟨_, rfl⟩
        obtain ⟨ps, e3⟩ : ∃ x, (planL l now a).2.2.1 = x := ⟨_, rfl⟩
        obtain ⟨cl, e4⟩ : ∃ x, (planL l now a).2.2.2 = x := ⟨_, rfl⟩
        obtain ⟨f, e5⟩ : ∃ x, (findL l a.1).1 = x := ⟨_, rfl⟩
        obtain ⟨th, e6⟩ : ∃ x, (findL l a.1).2 = x := ⟨_, rfl⟩
        rw [e1, e2, e3, e4, e5, e6] at HPl
        rw [e5, e6] at HFi
        rw [e2, e3, e5] at HTx
        rw [e2] at hp1
        rw [e3] at hp3
        rw [e5] at hs9
        have HP3 := Lib.hid hp3
        clear e1 e2 e3 e4 e5 e6 hp3
        obtain ⟨fn, fs, fv, fm⟩ := f
        simp only at HPl HFi HTx hs9
        obtain ⟨nm, a2, r⟩ := a
        simp only at HPl HFi HA1 hnl
        have HE2 : Hid (∀ (o' : List UInt8), o' = o ++ txtP hd ps fs → (endsB (nm, a2, r) = false → ov' = false ∧ b'.length + 12 * (k + 1) ≤ 900 ∧ ansF l now 100 xs = (o' ++ (ansF l now 100 b').1, (ansF l now 100 b').2)) ∧ (endsB (nm, a2, r) = true → b'.length ≤ 900 ∧ ansF l now 100 xs = (o', true, b'.length))) := Lib.hid (fun o' e => by
          subst e
          refine ⟨fun he => ?_, fun he => ?_⟩
          · obtain ⟨q1, q2, q3⟩ := r3 he
            refine ⟨q1, by omega, ?_⟩
            rw [HF.out, q3, HTx.out]
            simp
          · refine ⟨by omega, ?_⟩
            rw [HF.out, r2 he, HTx.out])
        clear r2 r3 HF HTx hon hop hb' hov'
        have HQN := Lib.hid (And.intro hA.out.n1 (And.intro hA.out.n2 hA.out.gq))
        go_upto_region 11 with (go_at_call 21; ((refine HA1.out _ ?_); intro A3 c3 w3 t3 k3))
        refine gen_worldC (fun W3 => ∃ ga, w3.heap.size = ga ∧ Hid (tg < ga ∧ pg < ga ∧ qg < ga) ∧ Hid (TB w W3 tg pg ⟨b', ov', some (nm, a2, r), false⟩ ∧ Ps W3 qg b false ∧ Bk W3 ga 54 (askC (nm, a2, r) A3 c3))) ⟨_, rfl, Lib.hid ⟨by obtain ⟨_, hb, _⟩ := t3.tk.tk; exact hb.lt, Bk.lt t3.tk.ps, by have h1 := Bk.lt hA.out.ps; have h2 := k3.size; omega⟩, Lib.hid ⟨t3.kp' ((Kp.refl _ _).alloc _), (Bk.kp hA.out.ps k3 (by have h1 := hA.out.n1; have h2 := hA.out.n2; simp; omega)).alloc _, (Bk.new' _ _ _).cast rfl⟩⟩ ?_
        rintro W3 ⟨ga, hga, hn3, hW3⟩
        rw [hga]
        clear t3 k3 hga hA
        go_upto_region 12 with (go_at_call 40; ((refine hNx.out _ _ hW3.out.1.kp hW3.out.2.1 ?_); intro v4 w4 p4 k4))
        have hW4 : Hid (TB w w4 tg pg ⟨b', ov', some (nm, a2, r), false⟩ ∧ Ps w4 qg b' ov' ∧ Bk w4 ga 54 (askC (nm, a2, r) A3 c3)) := Lib.hid ⟨hW3.out.1.par hW3.out.2.1 HQN.out.2.2 HQN.out.1 HQN.out.2.1 k4, p4, hW3.out.2.2.kp k4 (by have := hn3.out; simp; omega)⟩
        clear hW3 p4 k4 hNx
        have y0 : w4.cell? ⟨ga, 0, none⟩ = some (.string (S nm)) := hW4.out.2.2.cell 0
        go_upto_region 13 with (go_at_call 22; ((refine HFi.out _ _ hW4.out.1.kp ?_); intro w5 k5))
        refine gen_worldC (fun W5 => ∃ gl, w5.heap.size = gl ∧ Hid (tg < gl ∧ pg < gl ∧ qg < gl) ∧ Hid (TB w W5 tg pg ⟨b', ov', some (nm, a2, r), false⟩ ∧ Ps W5 qg b' ov' ∧ Bk W5 ga 54 (askC (nm, a2, r) A3 c3) ∧ Bk W5 gl 58 [.string (S fn), .string (S fs), .int .i64 fv, .int .i64 fm])) ⟨_, rfl, Lib.hid (by have h1 := hn3.out; have h2 := hW4.out.2.2.lt; have h3 := k5.size; omega), Lib.hid ⟨hW4.out.1.kp' (k5.alloc _), (Bk.kp hW4.out.2.1 k5 (by simp)).alloc _, (hW4.out.2.2.kp k5 (by simp)).alloc _, (Bk.new' _ _ _).cast rfl⟩⟩ ?_
        rintro W5 ⟨gl, hgl, hn5, hW5⟩
        rw [hgl]
        clear k5 hW4 hgl y0 HFi
        have HC : Hid (∀ W', Kp [] W5 W' → (W'.cell? ⟨ga, 0, none⟩ = some (.string (S nm)) ∧ W'.cell? ⟨gl, 1, none⟩ = some (.string (S fs)) ∧ W'.cell? ⟨gl, 2, none⟩ = some (.int .i64 fv) ∧ W'.cell? ⟨gl, 3, none⟩ = some (.int .i64 fm))) := Lib.hid (fun W' k => ⟨(hW5.out.2.2.1.kp k (by simp)).cell 0, (hW5.out.2.2.2.kp k (by simp)).cell 1, (hW5.out.2.2.2.kp k (by simp)).cell 2, (hW5.out.2.2.2.kp k (by simp)).cell 3⟩)
        have HD : Hid (Kp [] W5 W5.drew) := Lib.hid (Kp.refl _ _).drew
        have HP9 : Hid (∀ (R : Ending → World → Prop) (w1 : World), Kp [] W5 w1 → (∀ B n c w', Kp [] w1 w' → Kp [] W5 w' → Hid (Rd w' [] B (ps.flatMap ptV) ∧ ps.length = n ∧ n ≤ 21) → R (.returned (.agg #[.int .i64 st, .string (S hd), .slice B n c, .bool cl])) w') → Calls Tryz.prog 23 #[.pointer (some ⟨tg, 0, none⟩), .bool th, .agg #[.int .i64 fv, .int .i64 fm, .int .i64 fs.length, .string (S (kindL nm))], .int .i64 now] w1 R) := Lib.hid (fun R w1 k h => HPl.out R w1 (hW5.out.1.kp' k) (fun B n c w' j hh => h B n c w' j (k.trans j) hh))
        obtain ⟨kd, hkd⟩ : ∃ kd, kindL nm = kd := ⟨_, rfl⟩
        have HKd : Hid (∀ (R : Ending → World → Prop) (w1 : World), R (.returned (.string (S kd))) w1 → Calls Tryz.prog 24 #[.string (S nm)] w1 R) := Lib.hid (fun R w1 h => rkind_any nm w1 (by omega) (by rw [hkd]; exact h))
        rw [hkd] at HP9
        clear hkd HPl
        obtain ⟨y0, y1, y2, y3⟩ := HC.out W5 (Kp.refl _ _)
        go_upto_region 13 with (fail)
        go_cut [17] (fun x W' => ∃ gp B n d, x = .pointer (some ⟨gp, 0, none⟩) ∧ Hid (Kp [] W5 W' ∧ Bk W' gp 31 [.int .i64 st, .string (S hd), .slice B n d, .bool cl] ∧ Rd W' [] B (ps.flatMap ptV) ∧ ps.length = n ∧ n ≤ 21 ∧ W5.heap.size ≤ gp))
        case first =>
          go_region_held_law (fun W' => (W'.cell? ⟨ga, 0, none⟩ = some (.string (S nm)) ∧ W'.cell? ⟨gl, 1, none⟩ = some (.string (S fs)) ∧ W'.cell? ⟨gl, 2, none⟩ = some (.int .i64 fv) ∧ W'.cell? ⟨gl, 3, none⟩ = some (.int .i64 fm))) (first | with_reducible exact HC.out _ k4 | with_reducible exact HC.out _ HD.out | with_reducible exact HC.out _ (Kp.drew (Kp.alloc (Kp.refl [] W5) _)) | with_reducible exact HC.out _ (Kp.alloc k4 _) | with_reducible exact HC.out _ (Kp.alloc HD.out _) | exact HC.out _ ((((Kp.setCell k4 (.inr (by have := k4.size; first | (simp; done) | (simp; omega))) _).setCell (.inr (by have := k4.size; first | (simp; done) | (simp; omega))) _).setCell (.inr (by have := k4.size; first | (simp; done) | (simp; omega))) _).setCell (.inr (by have := k4.size; first | (simp; done) | (simp; omega))) _)) (first | (go_simp; go_at_call 24; (with_reducible refine HKd.out _ _ ?_)) | (go_simp; go_at_call 23; (with_reducible refine HP9.out _ _ (by first | with_reducible exact HD.out | with_reducible exact Kp.alloc HD.out _ | with_reducible exact Kp.drew (Kp.alloc (Kp.refl [] W5) _)) ?_); intro B n d w4 j4 k4 h4; (try (have bz4 : Bk w4 W5.heap.size 31 [.int .i64 0, .string ⟨#[]⟩, .slice none 0 0, .bool false] := (by first | exact Bk.kp (nwPd W5) j4 (by simp) | exact Bk.kp (nwP W5).drew j4 (by simp)); obtain ⟨⟨z0, z1, z2, z3⟩, ⟨zz0, zz1, zz2, zz3⟩⟩ := bk4r bz4))))
          all_goals
            go_wp2
            go_meet
            first
            | exact ⟨_, B, n, d, rfl, Lib.hid ⟨k4.alloc _, (Bk.new' _ _ _).cast rfl, (h4.out.1).kp (S := []) ((Kp.refl _ _).alloc _) (by simp), h4.out.2.1, h4.out.2.2, k4.size⟩⟩
            | (obtain ⟨W', hW', kW, bW⟩ := put4 bz4 (.int .i64 st) (.string (S hd)) (.slice B n d) (.bool cl)
               rw [hW']
               exact ⟨_, B, n, d, rfl, Lib.hid ⟨k4.thn kW (fun s hs => .inr (by have := k4.size; simp at hs; omega)), bW, ((rd_notP h4.out.1 bz4).kp kW (by simp)).sub (by simp), h4.out.2.1, h4.out.2.2, Nat.le_refl _⟩⟩)
        case rest =>
          obtain ⟨gp, B, n9, d, hx9, hC⟩ := hcut
          rw [hx9]
          clear hx9 y0 y1 y2 y3 HP9 HKd HD
          obtain ⟨⟨x0, x1, x2, x3⟩, _⟩ := bk4r hC.out.2.1
          obtain ⟨y0, y1, y2, y3⟩ := HC.out _ hC.out.1
          have T6 := Lib.hid (hW5.out.1.kp' hC.out.1)
          have P6 : Hid (Ps wc qg b' ov') := Lib.hid (Bk.kp hW5.out.2.1 hC.out.1 (by simp))
          have hpl : (ps.flatMap (pcP fs)).length ≤ 210000 := by
            have h1 := pcs_len hs9 ps (fun p hp => (HP3.out p hp).2.1)
            have h2 := hC.out.2.2.2.1
            have h3 := hC.out.2.2.2.2.1
            omega
          have hT : (txtP hd ps fs).length ≤ 250000 := by unfold txtP; rw [List.length_append]; omega
          have HTx : Hid (∀ (R : Ending → World → Prop), (∀ w', Kp [] wc w' → R (.returned (.string (S (txtP hd ps fs)))) w') → Calls Tryz.prog 25 #[.agg #[.int .i64 st, .string (S hd), .slice B n9 d, .bool cl], .string (S fs)] wc R) := Lib.hid (fun R h => text28_any st hd ps cl fs hC.out.2.2.1 hC.out.2.2.2.1 hC.out.2.2.2.2.1 HP3.out hp2 hp1 hs9 h)
          obtain ⟨T, hTe⟩ : ∃ T, txtP hd ps fs = T := ⟨_, rfl⟩
          rw [hTe] at HTx hT HE2
          clear hpl hTe hC hW5 HC
          go_upto_region 15 with (go_at_call 25; ((refine HTx.out _ ?_); intro w7 k7))
          have T7 := Lib.hid (T6.out.kp' k7)
          have P7 : Hid (Ps w7 qg b' ov') := Lib.hid (Bk.kp P6.out k7 (by simp))
          clear T6 P6 k7 x0 x1 x2 x3 y0 y1 y2 y3
          go_wp2_with (go_at_call 26; ((refine sdone_any T7.out ?_); intro w8 t8 k8))
          refine ⟨⟨k + 1, b', o ++ T, ov', endsB (nm, a2, r), ?_, by go_num, rfl, by rw [List.length_append]; omega, Lib.hid ⟨t8, Bk.kp P7.out k8 (by have := HQN.out; simp; omega), HQN.out.1, HQN.out.2.1, HQN.out.2.2⟩, Lib.hid (HE2.out _ rfl)⟩, by simp [intOf]; omega⟩
          omega
end
end
end Go.Proofs.YtnmafahbdfilcaaGreatDoor
