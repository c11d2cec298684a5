/- serve: Ask, ends, Done, Over. serve: ends, Done, Over. -/
import Derived.Test.YtnmafahbdfilcaaGreatDoorPA10
import Derived.Test.YtnmafahbdfilcaaGreatDoorPA16
import Derived.Deep.CutBlock
import Derived.Deep.DeepCutAuto
namespace Go.Proofs.YtnmafahbdfilcaaGreatDoor
/-! ### serve: Ask, ends, Done, Over. -/
section
open Go.RowKit Go.Shelf
set_option linter.unusedVariables false
set_option linter.unusedSimpArgs false
set_option maxRecDepth 100000
/-- A talk in memory, over the world in which it began. -/
structure TB (w0 w : World) (tg pg : Nat) (s : TkS) : Prop where
  kp : Kp [] w0 w
  gt : w0.heap.size ≤ tg
  gp : w0.heap.size ≤ pg
  tk : Tk w tg pg s
theorem TB.step {w0 w w' : World} {tg pg : Nat} {s s' : TkS} (h : TB w0 w tg pg s) (t : Tk w' tg pg s') (k : Kp [tg, pg] w w') : TB w0 w' tg pg s' :=
  ⟨h.kp.thn k (fun x hx => .inr (by have := h.gt; have := h.gp; simp at hx; omega)), h.gt, h.gp, t⟩
theorem TB.kp' {w0 w w' : World} {tg pg : Nat} {s : TkS} (h : TB w0 w tg pg s) (k : Kp [] w w') : TB w0 w' tg pg s := ⟨h.kp.trans k, h.gt, h.gp, h.tk.kp k⟩
theorem OpA.lt {w : World} {N : List Nat} {a : AskP} {oa : Option Addr} (h : OpA w N (some a) oa) : ∃ ag A c, oa = some ⟨ag, 0, none⟩ ∧ ag ∉ N ∧ Bk w ag 54 (askC a A c) ∧ Rd w N A (a.2.2.fs.flatMap fldC) ∧ a.2.2.fs.length ≤ c := h
/-- What Ask does, and tells. -/
def askS (s : TkS) : TkS × Option AskP :=
  if s.over then (s, none) else match s.op with
  | some a => (s, some a)
  | none => (⟨(nxt s.b s.ov).2.2.1, (nxt s.b s.ov).2.2.2, nxtOp s.b s.ov, false⟩, nxtOp s.b s.ov)
def noAsk : Value := .agg #[.string ⟨#[]⟩, .int .i64 0, .string ⟨#[]⟩, .string ⟨#[]⟩, .int .i64 0, .slice none 0 0, .bool false]
theorem put7 {w2 : World} {rb tt : Nat} {a0 a1 a2 a3 a4 a5 a6 : Value} (br : Bk w2 rb tt [a0, a1, a2, a3, a4, a5, a6]) (b0 b1 b2 b3 b4 b5 b6 : Value) :
    ∃ W', (((((((w2.setCell ⟨rb, 0, none⟩ b0).setCell ⟨rb, 1, none⟩ b1).setCell ⟨rb, 2, none⟩ b2).setCell ⟨rb, 3, none⟩ b3).setCell ⟨rb, 4, none⟩ b4).setCell ⟨rb, 5, none⟩ b5).setCell ⟨rb, 6, none⟩ b6) = W' ∧ Kp [rb] w2 W' ∧ Bk W' rb tt [b0, b1, b2, b3, b4, b5, b6] :=
  ⟨_, rfl, (((((((Kp.refl _ _).setCell (.inl (by simp)) _).setCell (.inl (by simp)) _).setCell (.inl (by simp)) _).setCell (.inl (by simp)) _).setCell (.inl (by simp)) _).setCell (.inl (by simp)) _).setCell (.inl (by simp)) _, (((((((br.set_ 0 _).set_ 1 _).set_ 2 _).set_ 3 _).set_ 4 _).set_ 5 _).set_ 6 _).cast rfl⟩
section
variable {R : Ending → World → Prop} {w0 w : World} {tg pg : Nat} {s : TkS}
theorem sask_nil (h : ∀ w', Kp [] w w' → R (.returned (.tuple #[noAsk, .bool false])) w') : Calls Tryz.prog 21 #[.pointer none] w R := by
  have H := Lib.hid h
  clear h
  go_enter Tryz.func21, Tryz.ntmps21
  go_wp2
  exact bodyPost_ret (v := .tuple #[noAsk, .bool false]) (by simp [results, Tryz.results21, go_sem, noAsk]; try rfl) rfl (H.out _ ((Kp.refl _ _).alloc _))
/-- Ask's result block, ahead of the walk. -/
def zA : List Value := [.string ⟨#[]⟩, .int .i64 0, .string ⟨#[]⟩, .string ⟨#[]⟩, .int .i64 0, .slice none 0 0, .bool false]
theorem ownTy {w : World} {g t : Nat} {cs : List Value} (h : Bk w g t cs) : g < w.heap.size := h.lt
set_option maxHeartbeats 4000000 in
theorem sask_any (hm : Ml w0) (ht : TB w0 w tg pg s) (hl : s.op = none → s.b.length ≤ 10000)
    (h0 : (askS s).2 = none → ∀ w', TB w0 w' tg pg (askS s).1 → Kp [tg, pg] w w' → R (.returned (.tuple #[noAsk, .bool false])) w')
    (h1 : ∀ a, (askS s).2 = some a → ∀ A c w', TB w0 w' tg pg (askS s).1 → Kp [tg, pg] w w' → R (.returned (.tuple #[.agg (askC a A c).toArray, .bool true])) w') :
    Calls Tryz.prog 21 #[.pointer (some ⟨tg, 0, none⟩)] w R := by
  have H0 := Lib.hid h0
  have H1 := Lib.hid h1
  have HT := Lib.hid ht
  obtain ⟨oa, b1, o1⟩ := ht.tk.tk
  obtain ⟨b, ov, op, over⟩ := s
  simp only at b1 o1 hl
  have HHL : Hid (op = none → b.length ≤ 10000) := Lib.hid hl
  clear hl
  have HB := Lib.hid b1
  have HO := Lib.hid o1
  have hgt := ht.gt
  have hgp := ht.gp
  have hne := ht.tk.ne
  have hlt := b1.lt
  have hpl : pg < w.heap.size := Bk.lt ht.tk.ps
  have HNx : Hid (∀ (R : Ending → World → Prop) (w1 : World) (rb : Nat), Kp [] w w1 → b.length ≤ 10000 → rb < w1.heap.size → (∀ oa' w', Ps w' pg (nxt b ov).2.2.1 (nxt b ov).2.2.2 → OpA w' [tg, pg, rb] (nxtOp b ov) oa' → Kp [pg] w1 w' → R (.returned (.pointer oa')) w') → Calls Tryz.prog 34 #[.pointer (some ⟨tg, 0, none⟩)] w1 R) := Lib.hid (fun R w1 rb k hl hrb h => snext_any (ht.kp.trans k) hgp hm (b1.kp k (by simp)) (Bk.kp ht.tk.ps k (by simp)) hl [tg, pg, rb] (by have := k.size; intro x hx; simp at hx; omega) h)
  clear h0 h1 ht b1 o1
  unfold askS at H0 H1
  simp only at H0 H1
  go_enter Tryz.func21, Tryz.ntmps21
  go_upto_region 1 with (fail)
  refine gen_worldC (fun W => ∃ rb, w.heap.size = rb ∧ Hid (Kp [] w W ∧ Bk W rb 54 zA ∧ Bk W tg 85 [.pointer (some ⟨pg, 0, none⟩), .pointer oa, .bool over] ∧ OpA W [tg, pg] op oa)) ⟨_, rfl, Lib.hid ⟨(Kp.refl _ _).alloc _, (Bk.new' _ _ _).cast rfl, HB.out.alloc _, HO.out.kp (S := []) ((Kp.refl _ _).alloc _) (by simp)⟩⟩ ?_
  rintro W ⟨rb, hrb, hW⟩
  rw [hrb]
  have HRB : Hid (tg < rb ∧ pg < rb ∧ w.heap.size ≤ rb) := Lib.hid (by omega)
  clear hrb
  have t1 : W.cell? ⟨tg, 1, none⟩ = some (.pointer oa) := hW.out.2.2.1.cell 1
  have t2 : W.cell? ⟨tg, 2, none⟩ = some (.bool over) := hW.out.2.2.1.cell 2
  obtain ⟨⟨z0, z1, z2, z3, z4, z5, z6⟩, ⟨f0, f1, f2, f3, f4, f5, f6⟩⟩ := bk7r hW.out.2.1
  cases over with
  | true =>
    replace H0 : Hid (∀ w', TB w0 w' tg pg ⟨b, ov, op, true⟩ → Kp [tg, pg] w w' → R (.returned (.tuple #[noAsk, .bool false])) w') := Lib.hid (fun w' h1 h2 => H0.out (by rw [if_pos rfl]) w' (by rw [if_pos rfl]; exact h1) h2)
    clear H1
    go_wp2
    obtain ⟨W', hW', kW, bW⟩ := put7 hW.out.2.1 (.string ⟨#[]⟩) (.int .i64 0) (.string ⟨#[]⟩) (.string ⟨#[]⟩) (.int .i64 0) (.slice none 0 0) (.bool false)
    rw [hW']
    obtain ⟨⟨c0, c1, c2, c3, c4, c5, c6⟩, _⟩ := bk7r bW
    have kF : Kp [] w W' := hW.out.1.thn kW (fun s hs => .inr (by have := HRB.out; simp at hs; omega))
    exact bodyPost_ret (v := .tuple #[noAsk, .bool false]) (by simp [results, Tryz.results21, go_sem, noAsk, c0, c1, c2, c3, c4, c5, c6]; try rfl) rfl (H0.out _ (HT.out.kp' kF) (kF.mono (by simp)))
  | false =>
    rw [if_neg (by simp)] at H0 H1
    cases op with
    | some a =>
      obtain ⟨ag, A, c, rfl, hna, hba, hra, hca⟩ := hW.out.2.2.2.lt
      obtain ⟨⟨x0, x1, x2, x3, x4, x5, x6⟩, _⟩ := bk7r hba
      clear hba hra
      go_wp2
      obtain ⟨W', hW', kW, bW⟩ := put7 hW.out.2.1 (.string (S a.1)) (.int .i64 a.2.1) (.string (S a.2.2.m)) (.string (S a.2.2.t)) (.int .i64 a.2.2.minor) (.slice A a.2.2.fs.length c) (.bool a.2.2.close)
      rw [hW']
      obtain ⟨⟨c0, c1, c2, c3, c4, c5, c6⟩, _⟩ := bk7r bW
      have kF : Kp [] w W' := hW.out.1.thn kW (fun s hs => .inr (by have := HRB.out; simp at hs; omega))
      exact bodyPost_ret (v := .tuple #[.agg (askC a A c).toArray, .bool true]) (by simp [results, Tryz.results21, go_sem, askC, c0, c1, c2, c3, c4, c5, c6]; try rfl) rfl (H1.out a rfl A c _ (HT.out.kp' kF) (kF.mono (by simp)))
    | none =>
      have hoa : oa = none := hW.out.2.2.2
      have hbl : Hid (b.length ≤ 10000) := Lib.hid (HHL.out rfl)
      subst hoa
      have HTS : Hid (∀ oa2 w2 W', Ps w2 pg (nxt b ov).2.2.1 (nxt b ov).2.2.2 → OpA w2 [tg, pg, rb] (nxtOp b ov) oa2 → Kp [pg] W w2 → Kp [rb] (w2.setCell ⟨tg, 1, none⟩ (.pointer oa2)) W' → TB w0 W' tg pg ⟨(nxt b ov).2.2.1, (nxt b ov).2.2.2, nxtOp b ov, false⟩ ∧ Kp [tg, pg] w W') := Lib.hid (fun oa2 w2 W' p2 o2 k2 k3 => by
        have hh := HRB.out
        have hbt := (hW.out.2.2.1.kp k2 (by simp; omega)).set_ 1 (.pointer oa2)
        have ks : Kp [tg] w2 (w2.setCell ⟨tg, 1, none⟩ (.pointer oa2)) := (Kp.refl _ _).setCell (.inl (by simp)) _
        have hrs : w2.heap.size ≤ w2.heap.size := Nat.le_refl _
        have kk : Kp [tg, pg] w W' := (((hW.out.1.mono (S' := [tg, pg]) (by simp)).thn k2 (fun s hs => .inl (by simp at hs; simp [hs]))).thn ks (fun s hs => .inl (by simp at hs; simp [hs]))).thn k3 (fun s hs => .inr (by simp at hs; omega))
        refine ⟨HT.out.step ⟨hne, Bk.kp (Bk.kp p2 ks (by simp; omega)) k3 (by simp; omega), oa2, (hbt.cast rfl).kp k3 (by simp; omega), ?_⟩ kk, kk⟩
        have ho := o2.kp ks (by simp)
        cases hq : nxtOp b ov with
        | none => rw [hq] at ho; exact ho
        | some a =>
          rw [hq] at ho
          obtain ⟨ag, A, c, e1, e2, e3, e4, e5⟩ := ho.lt
          exact ⟨ag, A, c, e1, fun hm => e2 (by simp at hm; simp; omega), e3.kp k3 (fun hm => e2 (by simp at hm; simp [hm])), (e4.kp k3 (fun x hx => .inl (by simp at hx; simp [hx]))).sub (by intro x hx; simp at hx; simp; omega), e5⟩)
      have hh := HRB.out
      obtain ⟨opn, hopn⟩ : ∃ x, nxtOp b ov = x := ⟨_, rfl⟩
      rw [hopn] at HNx H0 H1 HTS
      clear hopn
      cases opn with
      | none =>
        go_wp2_with (go_at_call 34; ((refine HNx.out _ _ rb hW.out.1 hbl.out hW.out.2.1.lt ?_); intro oa2 w2 p2 o2 k2; have ho2 : oa2 = none := o2; subst ho2; have bt2 := hW.out.2.2.1.kp k2 (by simp; omega); have t21 : w2.cell? ⟨tg, 1, none⟩ = some (.pointer none) := bt2.cell 1; have t2f := bt2.frozen 1; have br2 := hW.out.2.1.kp k2 (by simp; omega); obtain ⟨⟨y0, y1, y2, y3, y4, y5, y6⟩, ⟨n0, n1, n2, n3, n4, n5, n6⟩⟩ := bk7r br2))
        have ks : Kp [tg] w2 (w2.setCell ⟨tg, 1, none⟩ (.pointer none)) := (Kp.refl _ _).setCell (.inl (by simp)) _
        obtain ⟨W', hW', kW, bW⟩ := put7 (br2.kp ks (by simp; omega)) (.string ⟨#[]⟩) (.int .i64 0) (.string ⟨#[]⟩) (.string ⟨#[]⟩) (.int .i64 0) (.slice none 0 0) (.bool false)
        rw [hW']
        obtain ⟨⟨c0, c1, c2, c3, c4, c5, c6⟩, _⟩ := bk7r bW
        obtain ⟨hT, hK⟩ := HTS.out none w2 W' p2 o2 k2 kW
        exact bodyPost_ret (v := .tuple #[noAsk, .bool false]) (by simp [results, Tryz.results21, go_sem, noAsk, c0, c1, c2, c3, c4, c5, c6]; try rfl) rfl (H0.out (by trivial) _ hT hK)
      | some a =>
        go_wp2_with (go_at_call 34; ((refine HNx.out _ _ rb hW.out.1 hbl.out hW.out.2.1.lt ?_); intro oa2 w2 p2 o2 k2; obtain ⟨ag, A, c, rfl, hna, hba, hra, hca⟩ := o2.lt; have bt2 := hW.out.2.2.1.kp k2 (by simp; omega); have t21 : w2.cell? ⟨tg, 1, none⟩ = some (.pointer none) := bt2.cell 1; have t2f := bt2.frozen 1; have br2 := hW.out.2.1.kp k2 (by simp; omega); obtain ⟨⟨y0, y1, y2, y3, y4, y5, y6⟩, ⟨n0, n1, n2, n3, n4, n5, n6⟩⟩ := bk7r br2; obtain ⟨⟨x0, x1, x2, x3, x4, x5, x6⟩, _⟩ := bk7r hba; have hat : tg ≠ ag := (fun e => hna (by simp [e]))))
        have ks : Kp [tg] w2 (w2.setCell ⟨tg, 1, none⟩ (.pointer (some ⟨ag, 0, none⟩))) := (Kp.refl _ _).setCell (.inl (by simp)) _
        obtain ⟨W', hW', kW, bW⟩ := put7 (br2.kp ks (by simp; omega)) (.string (S a.1)) (.int .i64 a.2.1) (.string (S a.2.2.m)) (.string (S a.2.2.t)) (.int .i64 a.2.2.minor) (.slice A a.2.2.fs.length c) (.bool a.2.2.close)
        rw [hW']
        obtain ⟨⟨c0, c1, c2, c3, c4, c5, c6⟩, _⟩ := bk7r bW
        obtain ⟨hT, hK⟩ := HTS.out _ w2 W' p2 o2 k2 kW
        exact bodyPost_ret (v := .tuple #[.agg (askC a A c).toArray, .bool true]) (by simp [results, Tryz.results21, go_sem, askC, c0, c1, c2, c3, c4, c5, c6]; try rfl) rfl (H1.out a rfl A c _ hT hK)
end
end
/-! ### serve: ends, Done, Over. -/
section
open Go.RowKit Go.Shelf
set_option linter.unusedVariables false
set_option linter.unusedSimpArgs false
set_option maxRecDepth 100000
/-- Is the talk over behind an ask? -/
def endsB (a : AskP) : Bool := !(a.2.1 == 0) || a.2.2.close || (readsM a.2.2.m && !(a.2.2.t.head? == some 47))
def doneS (s : TkS) : TkS := match s.op with | none => s | some a => { s with op := none, over := endsB a }
section
variable {R : Ending → World → Prop} {w0 w : World} {tg pg : Nat} {s : TkS}
set_option maxHeartbeats 4000000 in
theorem ends_any (a : AskP) {ag c : Nat} {A : Option Addr} (hb : Bk w ag 54 (askC a A c)) (h : ∀ w', Kp [] w w' → R (.returned (.bool (endsB a))) w') : Calls Tryz.prog 35 #[.pointer (some ⟨ag, 0, none⟩)] w R := by
  have H := Lib.hid h
  obtain ⟨nm, st, r⟩ := a
  obtain ⟨⟨x0, x1, x2, x3, x4, x5, x6⟩, _⟩ := bk7r hb
  simp only at x0 x1 x2 x3 x4 x5 x6
  unfold endsB readsM at H
  simp only at H
  clear h hb
  obtain ⟨hd, hhd⟩ : ∃ x, (r.t.head? == some 47) = x := ⟨_, rfl⟩
  have HPre : Hid (∀ (R : Ending → World → Prop) (W : World), R (.returned (.bool hd)) W → Calls Tryz.prog 42 #[.string (S r.t), .string ⟨#[47]⟩] W R) := Lib.hid (fun R W h => pre_any _ 47 (by rw [hhd]; exact h))
  obtain ⟨b1, h1⟩ : ∃ x, (r.m == [71, 69, 84]) = x := ⟨_, rfl⟩
  obtain ⟨b2, h2⟩ : ∃ x, (r.m == [72, 69, 65, 68]) = x := ⟨_, rfl⟩
  obtain ⟨cl, hcl⟩ : ∃ x, r.close = x := ⟨_, rfl⟩
  rw [hhd, h1, h2, hcl] at H
  rw [hcl] at x6
  clear hhd hcl
  by_cases h0 : st = 0
  · subst h0
    replace H : Hid (∀ w', Kp [] w w' → R (.returned (.bool (cl || ((b1 || b2) && !hd)))) w') := Lib.hid (fun w' k => by have := H.out w' k; simpa using this)
    cases cl with
    | true =>
      go_enter Tryz.func35, Tryz.ntmps35
      go_wp2
      exact H.out w (Kp.refl _ _)
    | false =>
      cases b1 <;> cases b2
      all_goals
        go_enter Tryz.func35, Tryz.ntmps35
        go_wp2_with (go_at_call 42; (refine HPre.out _ _ ?_))
        exact H.out w (Kp.refl _ _)
  · have hz : (st == 0) = false := by simpa using h0
    have hz2 : (st != 0) = true := by simpa using h0
    replace H : Hid (∀ w', Kp [] w w' → R (.returned (.bool true)) w') := Lib.hid (fun w' k => by have := H.out w' k; rw [hz] at this; simpa using this)
    clear h0
    go_enter Tryz.func35, Tryz.ntmps35
    go_wp2
    exact H.out w (Kp.refl _ _)
set_option maxHeartbeats 2000000 in
theorem sdone_any (ht : TB w0 w tg pg s) (h : ∀ w', TB w0 w' tg pg (doneS s) → Kp [tg, pg] w w' → R (.returned (.tuple #[])) w') : Calls Tryz.prog 26 #[.pointer (some ⟨tg, 0, none⟩)] w R := by
  have H := Lib.hid h
  have HT := Lib.hid ht
  obtain ⟨oa, b1, o1⟩ := ht.tk.tk
  obtain ⟨b, ov, op, over⟩ := s
  simp only at b1 o1
  have t1 : w.cell? ⟨tg, 1, none⟩ = some (.pointer oa) := b1.cell 1
  have t2 : w.cell? ⟨tg, 2, none⟩ = some (.bool over) := b1.cell 2
  have f1 := b1.frozen 1
  have f2 := b1.frozen 2
  have HB := Lib.hid b1
  have hne := ht.tk.ne
  have hps := Lib.hid ht.tk.ps
  clear h ht
  cases op with
  | none =>
    have hoa : oa = none := o1
    subst hoa
    clear b1 o1
    go_enter Tryz.func26, Tryz.ntmps26
    go_wp2
    go_end0
    exact H.out w HT.out (Kp.refl _ _)
  | some a =>
    obtain ⟨ag, A, c, rfl, hna, hba, hra, hca⟩ := o1.lt
    have HE : Hid (∀ (R : Ending → World → Prop), (∀ w', Kp [] w w' → R (.returned (.bool (endsB a))) w') → Calls Tryz.prog 35 #[.pointer (some ⟨ag, 0, none⟩)] w R) := Lib.hid (fun R h => ends_any a hba h)
    obtain ⟨e, he⟩ : ∃ e, endsB a = e := ⟨_, rfl⟩
    unfold doneS at H
    simp only at H
    rw [he] at HE H
    clear b1 o1 hba hra hca he
    go_enter Tryz.func26, Tryz.ntmps26
    go_wp2_with (go_at_call 35; ((refine HE.out _ ?_); intro w1 k1; have bt1 := HB.out.kp k1 (by simp); have y1 : w1.cell? ⟨tg, 1, none⟩ = some (.pointer (some ⟨ag, 0, none⟩)) := bt1.cell 1; have y2 : w1.cell? ⟨tg, 2, none⟩ = some (.bool over) := bt1.cell 2; have g1 := bt1.frozen 1; have g2 := bt1.frozen 2))
    go_end0
    have ks : Kp [tg] w1 ((w1.setCell ⟨tg, 2, none⟩ (.bool e)).setCell ⟨tg, 1, none⟩ (.pointer none)) := ((Kp.refl _ _).setCell (.inl (by simp)) _).setCell (.inl (by simp)) _
    have kk : Kp [tg, pg] w ((w1.setCell ⟨tg, 2, none⟩ (.bool e)).setCell ⟨tg, 1, none⟩ (.pointer none)) := (k1.mono (by simp)).thn ks (fun s hs => .inl (by simp at hs; simp [hs]))
    exact H.out _ (HT.out.step ⟨hne, Bk.kp (Bk.kp hps.out k1 (by simp)) ks (by simp; omega), none, ((bt1.set_ 2 _).set_ 1 _).cast rfl, rfl⟩ kk) kk
theorem sover_any (ht : Tk w tg pg s) (h : R (.returned (.bool s.over)) w) : Calls Tryz.prog 27 #[.pointer (some ⟨tg, 0, none⟩)] w R := by
  have H := Lib.hid h
  obtain ⟨oa, b1, o1⟩ := ht.tk
  have t2 : w.cell? ⟨tg, 2, none⟩ = some (.bool s.over) := b1.cell 2
  clear h ht b1 o1
  go_enter Tryz.func27, Tryz.ntmps27
  go_wp2
  exact H.out
theorem sover_nil (h : R (.returned (.bool false)) w) : Calls Tryz.prog 27 #[.pointer none] w R := by
  have H := Lib.hid h
  clear h
  go_enter Tryz.func27, Tryz.ntmps27
  go_wp2
  exact H.out
theorem sdone_nil (h : R (.returned (.tuple #[])) w) : Calls Tryz.prog 26 #[.pointer none] w R := by
  have H := Lib.hid h
  clear h
  go_enter Tryz.func26, Tryz.ntmps26
  go_wp2
  go_end0
  exact H.out
end
end
end Go.Proofs.YtnmafahbdfilcaaGreatDoor
