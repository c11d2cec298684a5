/- serve: Ask, ends, Done, Over. serve: ends, Done, Over. serve: Plan. serve: the chapter's example in plain words. Package request: the chapter's example. A string's bytes: the conversion's world as a letter. -/
import Derived.Test.YtnmafahbdfilcaaGreatDoorPB24
import Derived.Test.YtnmafahbdfilcaaGreatDoorPB16
import Derived.Deep.CutBlock
import Derived.Deep.DeepCutAuto
import Derived.Test.YtnmafahbdfilcaaGreatDoorPB22
import Derived.Test.YtnmafahbdfilcaaGreatDoorPB18
import Derived.Test.YtnmafahbdfilcaaGreatDoorPB13
import Derived.Test.YtnmafahbdfilcaaGreatDoorPB2
namespace Go.Proofs.YtnmafahbdfilcaaGreatDoor
/-! ### serve: Ask, ends, Done, Over. -/
section
open Go.RowKit Go.Shelf
set_option linter.unusedVariables false
set_option linter.unusedSimpArgs false
set_option maxRecDepth 100000
/-- A talk in memory, over the world in which it began. -/
structure TB (w0 w : World) (tg pg : Nat) (s : TkS) : Prop where
  kp : Kp [] w0 w
  gt : w0.heap.size ≤ tg
  gp : w0.heap.size ≤ pg
  tk : Tk w tg pg s
theorem TB.step {w0 w w' : World} {tg pg : Nat} {s s' : TkS} (h : TB w0 w tg pg s) (t : Tk w' tg pg s') (k : Kp [tg, pg] w w') : TB w0 w' tg pg s' :=
  ⟨h.kp.thn k (fun x hx => .inr (by have := h.gt; have := h.gp; simp at hx; omega)), h.gt, h.gp, t⟩
theorem TB.kp' {w0 w w' : World} {tg pg : Nat} {s : TkS} (h : TB w0 w tg pg s) (k : Kp [] w w') : TB w0 w' tg pg s := ⟨h.kp.trans k, h.gt, h.gp, h.tk.kp k⟩
theorem OpA.lt {w : World} {N : List Nat} {a : AskP} {oa : Option Addr} (h : OpA w N (some a) oa) : ∃ ag A c, oa = some ⟨ag, 0, none⟩ ∧ ag ∉ N ∧ Bk w ag 54 (askC a A c) ∧ Rd w N A (a.2.2.fs.flatMap fldC) ∧ a.2.2.fs.length ≤ c := h
/-- What Ask does, and tells. -/
def askS (s : TkS) : TkS × Option AskP :=
  if s.over then (s, none) else match s.op with
  | some a => (s, some a)
  | none => (⟨(nxt s.b s.ov).2.2.1, (nxt s.b s.ov).2.2.2, nxtOp s.b s.ov, false⟩, nxtOp s.b s.ov)
def noAsk : Value := .agg #[.string ⟨#[]⟩, .int .i64 0, .string ⟨#[]⟩, .string ⟨#[]⟩, .int .i64 0, .slice none 0 0, .bool false]
theorem put7 {w2 : World} {rb tt : Nat} {a0 a1 a2 a3 a4 a5 a6 : Value} (br : Bk w2 rb tt [a0, a1, a2, a3, a4, a5, a6]) (b0 b1 b2 b3 b4 b5 b6 : Value) :
    ∃ W', (((((((w2.setCell ⟨rb, 0, none⟩ b0).setCell ⟨rb, 1, none⟩ b1).setCell ⟨rb, 2, none⟩ b2).setCell ⟨rb, 3, none⟩ b3).setCell ⟨rb, 4, none⟩ b4).setCell ⟨rb, 5, none⟩ b5).setCell ⟨rb, 6, none⟩ b6) = W' ∧ Kp [rb] w2 W' ∧ Bk W' rb tt [b0, b1, b2, b3, b4, b5, b6] :=
  ⟨_, rfl, (((((((Kp.refl _ _).setCell (.inl (by simp)) _).setCell (.inl (by simp)) _).setCell (.inl (by simp)) _).setCell (.inl (by simp)) _).setCell (.inl (by simp)) _).setCell (.inl (by simp)) _).setCell (.inl (by simp)) _, (((((((br.set_ 0 _).set_ 1 _).set_ 2 _).set_ 3 _).set_ 4 _).set_ 5 _).set_ 6 _).cast rfl⟩
section
variable {R : Ending → World → Prop} {w0 w : World} {tg pg : Nat} {s : TkS}
theorem sask_nil (h : ∀ w', Kp [] w w' → R (.returned (.tuple #[noAsk, .bool false])) w') : Calls Tryz.prog 21 #[.pointer none] w R := by
  have H := Lib.hid h
  clear h
  go_enter Tryz.func21, Tryz.ntmps21
  go_wp2
  exact bodyPost_ret (v := .tuple #[noAsk, .bool false]) (by simp [results, Tryz.results21, go_sem, noAsk]; try rfl) rfl (H.out _ ((Kp.refl _ _).alloc _))
/-- Ask's result block, ahead of the walk. -/
def zA : List Value := [.string ⟨#[]⟩, .int .i64 0, .string ⟨#[]⟩, .string ⟨#[]⟩, .int .i64 0, .slice none 0 0, .bool false]
theorem ownTy {w : World} {g t : Nat} {cs : List Value} (h : Bk w g t cs) : g < w.heap.size := h.lt
set_option maxHeartbeats 4000000 in
theorem sask_any (hm : Ml w0) (ht : TB w0 w tg pg s) (hl : s.op = none → s.b.length ≤ 10000)
    (h0 : (askS s).2 = none → ∀ w', TB w0 w' tg pg (askS s).1 → Kp [tg, pg] w w' → R (.returned (.tuple #[noAsk, .bool false])) w')
    (h1 : ∀ a, (askS s).2 = some a → ∀ A c w', TB w0 w' tg pg (askS s).1 → Kp [tg, pg] w w' → R (.returned (.tuple #[.agg (askC a A c).toArray, .bool true])) w') :
    Calls Tryz.prog 21 #[.pointer (some ⟨tg, 0, none⟩)] w R := by
  have H0 := Lib.hid h0
  have H1 := Lib.hid h1
  have HT := Lib.hid ht
  obtain ⟨oa, b1, o1⟩ := ht.tk.tk
  obtain ⟨b, ov, op, over⟩ := s
  simp only at b1 o1 hl
  have HHL : Hid (op = none → b.length ≤ 10000) := Lib.hid hl
  clear hl
  have HB := Lib.hid b1
  have HO := Lib.hid o1
  have hgt := ht.gt
  have hgp := ht.gp
  have hne := ht.tk.ne
  have hlt := b1.lt
  have hpl : pg < w.heap.size := Bk.lt ht.tk.ps
  have HNx : Hid (∀ (R : Ending → World → Prop) (w1 : World) (rb : Nat), Kp [] w w1 → b.length ≤ 10000 → rb < w1.heap.size → (∀ oa' w', Ps w' pg (nxt b ov).2.2.1 (nxt b ov).2.2.2 → OpA w' [tg, pg, rb] (nxtOp b ov) oa' → Kp [pg] w1 w' → R (.returned (.pointer oa')) w') → Calls Tryz.prog 34 #[.pointer (some ⟨tg, 0, none⟩)] w1 R) := Lib.hid (fun R w1 rb k hl hrb h => snext_any (ht.kp.trans k) hgp hm (b1.kp k (by simp)) (Bk.kp ht.tk.ps k (by simp)) hl [tg, pg, rb] (by have := k.size; intro x hx; simp at hx; omega) h)
  clear h0 h1 ht b1 o1
  unfold askS at H0 H1
  simp only at H0 H1
  go_enter Tryz.func21, Tryz.ntmps21
  go_upto_region 1 with (fail)
  refine gen_worldC (fun W => ∃ rb, w.heap.size = rb ∧ Hid (Kp [] w W ∧ Bk W rb 54 zA ∧ Bk W tg 85 [.pointer (some ⟨pg, 0, none⟩), .pointer oa, .bool over] ∧ OpA W [tg, pg] op oa)) ⟨_, rfl, Lib.hid ⟨(Kp.refl _ _).alloc _, (Bk.new' _ _ _).cast rfl, HB.out.alloc _, HO.out.kp (S := []) ((Kp.refl _ _).alloc _) (by simp)⟩⟩ ?_
  rintro W ⟨rb, hrb, hW⟩
  rw [hrb]
  have HRB : Hid (tg < rb ∧ pg < rb ∧ w.heap.size ≤ rb) := Lib.hid (by omega)
  clear hrb
  have t1 : W.cell? ⟨tg, 1, none⟩ = some (.pointer oa) := hW.out.2.2.1.cell 1
  have t2 : W.cell? ⟨tg, 2, none⟩ = some (.bool over) := hW.out.2.2.1.cell 2
  obtain ⟨⟨z0, z1, z2, z3, z4, z5, z6⟩, ⟨f0, f1, f2, f3, f4, f5, f6⟩⟩ := bk7r hW.out.2.1
  cases over with
  | true =>
    replace H0 : Hid (∀ w', TB w0 w' tg pg ⟨b, ov, op, true⟩ → Kp [tg, pg] w w' → R (.returned (.tuple #[noAsk, .bool false])) w') := Lib.hid (fun w' h1 h2 => H0.out (by rw [if_pos rfl]) w' (by rw [if_pos rfl]; exact h1) h2)
    clear H1
    go_wp2
    obtain ⟨W', hW', kW, bW⟩ := put7 hW.out.2.1 (.string ⟨#[]⟩) (.int .i64 0) (.string ⟨#[]⟩) (.string ⟨#[]⟩) (.int .i64 0) (.slice none 0 0) (.bool false)
    rw [hW']
    obtain ⟨⟨c0, c1, c2, c3, c4, c5, c6⟩, _⟩ := bk7r bW
    have kF : Kp [] w W' := hW.out.1.thn kW (fun s hs => .inr (by have := HRB.out; simp at hs; omega))
    exact bodyPost_ret (v := .tuple #[noAsk, .bool false]) (by simp [results, Tryz.results21, go_sem, noAsk, c0, c1, c2, c3, c4, c5, c6]; try rfl) rfl (H0.out _ (HT.out.kp' kF) (kF.mono (by simp)))
  | false =>
    rw [if_neg (by simp)] at H0 H1
    cases op with
    | some a =>
      obtain ⟨ag, A, c, rfl, hna, hba, hra, hca⟩ := hW.out.2.2.2.lt
      obtain ⟨⟨x0, x1, x2, x3, x4, x5, x6⟩, _⟩ := bk7r hba
      clear hba hra
      go_wp2
      obtain ⟨W', hW', kW, bW⟩ := put7 hW.out.2.1 (.string (S a.1)) (.int .i64 a.2.1) (.string (S a.2.2.m)) (.string (S a.2.2.t)) (.int .i64 a.2.2.minor) (.slice A a.2.2.fs.length c) (.bool a.2.2.close)
      rw [hW']
      obtain ⟨⟨c0, c1, c2, c3, c4, c5, c6⟩, _⟩ := bk7r bW
      have kF : Kp [] w W' := hW.out.1.thn kW (fun s hs => .inr (by have := HRB.out; simp at hs; omega))
      exact bodyPost_ret (v := .tuple #[.agg (askC a A c).toArray, .bool true]) (by simp [results, Tryz.results21, go_sem, askC, c0, c1, c2, c3, c4, c5, c6]; try rfl) rfl (H1.out a rfl A c _ (HT.out.kp' kF) (kF.mono (by simp)))
    | none =>
      have hoa : oa = none := hW.out.2.2.2
      have hbl : Hid (b.length ≤ 10000) := Lib.hid (HHL.out rfl)
      subst hoa
      have HTS : Hid (∀ oa2 w2 W', Ps w2 pg (nxt b ov).2.2.1 (nxt b ov).2.2.2 → OpA w2 [tg, pg, rb] (nxtOp b ov) oa2 → Kp [pg] W w2 → Kp [rb] (w2.setCell ⟨tg, 1, none⟩ (.pointer oa2)) W' → TB w0 W' tg pg ⟨(nxt b ov).2.2.1, (nxt b ov).2.2.2, nxtOp b ov, false⟩ ∧ Kp [tg, pg] w W') := Lib.hid (fun oa2 w2 W' p2 o2 k2 k3 => by
        have hh := HRB.out
        have hbt := (hW.out.2.2.1.kp k2 (by simp; omega)).set_ 1 (.pointer oa2)
        have ks : Kp [tg] w2 (w2.setCell ⟨tg, 1, none⟩ (.pointer oa2)) := (Kp.refl _ _).setCell (.inl (by simp)) _
        have hrs : w2.heap.size ≤ w2.heap.size := Nat.le_refl _
        have kk : Kp [tg, pg] w W' := (((hW.out.1.mono (S' := [tg, pg]) (by simp)).thn k2 (fun s hs => .inl (by simp at hs; simp [hs]))).thn ks (fun s hs => .inl (by simp at hs; simp [hs]))).thn k3 (fun s hs => .inr (by simp at hs; omega))
        refine ⟨HT.out.step ⟨hne, Bk.kp (Bk.kp p2 ks (by simp; omega)) k3 (by simp; omega), oa2, (hbt.cast rfl).kp k3 (by simp; omega), ?_⟩ kk, kk⟩
        have ho := o2.kp ks (by simp)
        cases hq : nxtOp b ov with
        | none => rw [hq] at ho; exact ho
        | some a =>
          rw [hq] at ho
          obtain ⟨ag, A, c, e1, e2, e3, e4, e5⟩ := ho.lt
          exact ⟨ag, A, c, e1, fun hm => e2 (by simp at hm; simp; omega), e3.kp k3 (fun hm => e2 (by simp at hm; simp [hm])), (e4.kp k3 (fun x hx => .inl (by simp at hx; simp [hx]))).sub (by intro x hx; simp at hx; simp; omega), e5⟩)
      have hh := HRB.out
      obtain ⟨opn, hopn⟩ : ∃ x, nxtOp b ov = x := ⟨_, rfl⟩
      rw [hopn] at HNx H0 H1 HTS
      clear hopn
      cases opn with
      | none =>
        go_wp2_with (go_at_call 34; ((refine HNx.out _ _ rb hW.out.1 hbl.out hW.out.2.1.lt ?_); intro oa2 w2 p2 o2 k2; have ho2 : oa2 = none := o2; subst ho2; have bt2 := hW.out.2.2.1.kp k2 (by simp; omega); have t21 : w2.cell? ⟨tg, 1, none⟩ = some (.pointer none) := bt2.cell 1; have t2f := bt2.frozen 1; have br2 := hW.out.2.1.kp k2 (by simp; omega); obtain ⟨⟨y0, y1, y2, y3, y4, y5, y6⟩, ⟨n0, n1, n2, n3, n4, n5, n6⟩⟩ := bk7r br2))
        have ks : Kp [tg] w2 (w2.setCell ⟨tg, 1, none⟩ (.pointer none)) := (Kp.refl _ _).setCell (.inl (by simp)) _
        obtain ⟨W', hW', kW, bW⟩ := put7 (br2.kp ks (by simp; omega)) (.string ⟨#[]⟩) (.int .i64 0) (.string ⟨#[]⟩) (.string ⟨#[]⟩) (.int .i64 0) (.slice none 0 0) (.bool false)
        rw [hW']
        obtain ⟨⟨c0, c1, c2, c3, c4, c5, c6⟩, _⟩ := bk7r bW
        obtain ⟨hT, hK⟩ := HTS.out none w2 W' p2 o2 k2 kW
        exact bodyPost_ret (v := .tuple #[noAsk, .bool false]) (by simp [results, Tryz.results21, go_sem, noAsk, c0, c1, c2, c3, c4, c5, c6]; try rfl) rfl (H0.out (by trivial) _ hT hK)
      | some a =>
        go_wp2_with (go_at_call 34; ((refine HNx.out _ _ rb hW.out.1 hbl.out hW.out.2.1.lt ?_); intro oa2 w2 p2 o2 k2; obtain ⟨ag, A, c, rfl, hna, hba, hra, hca⟩ := o2.lt; have bt2 := hW.out.2.2.1.kp k2 (by simp; omega); have t21 : w2.cell? ⟨tg, 1, none⟩ = some (.pointer none) := bt2.cell 1; have t2f := bt2.frozen 1; have br2 := hW.out.2.1.kp k2 (by simp; omega); obtain ⟨⟨y0, y1, y2, y3, y4, y5, y6⟩, ⟨n0, n1, n2, n3, n4, n5, n6⟩⟩ := bk7r br2; obtain ⟨⟨x0, x1, x2, x3, x4, x5, x6⟩, _⟩ := bk7r hba; have hat : tg ≠ ag := (fun e => hna (by simp [e]))))
        have ks : Kp [tg] w2 (w2.setCell ⟨tg, 1, none⟩ (.pointer (some ⟨ag, 0, none⟩))) := (Kp.refl _ _).setCell (.inl (by simp)) _
        obtain ⟨W', hW', kW, bW⟩ := put7 (br2.kp ks (by simp; omega)) (.string (S a.1)) (.int .i64 a.2.1) (.string (S a.2.2.m)) (.string (S a.2.2.t)) (.int .i64 a.2.2.minor) (.slice A a.2.2.fs.length c) (.bool a.2.2.close)
        rw [hW']
        obtain ⟨⟨c0, c1, c2, c3, c4, c5, c6⟩, _⟩ := bk7r bW
        obtain ⟨hT, hK⟩ := HTS.out _ w2 W' p2 o2 k2 kW
        exact bodyPost_ret (v := .tuple #[.agg (askC a A c).toArray, .bool true]) (by simp [results, Tryz.results21, go_sem, askC, c0, c1, c2, c3, c4, c5, c6]; try rfl) rfl (H1.out a rfl A c _ hT hK)
end
end
/-! ### serve: ends, Done, Over. -/
section
open Go.RowKit Go.Shelf
set_option linter.unusedVariables false
set_option linter.unusedSimpArgs false
set_option maxRecDepth 100000
/-- Is the talk over behind an ask? -/
def endsB (a : AskP) : Bool := !(a.2.1 == 0) || a.2.2.close || (readsM a.2.2.m && !(a.2.2.t.head? == some 47))
def doneS (s : TkS) : TkS := match s.op with | none => s | some a => { s with op := none, over := endsB a }
section
variable {R : Ending → World → Prop} {w0 w : World} {tg pg : Nat} {s : TkS}
set_option maxHeartbeats 4000000 in
theorem ends_any (a : AskP) {ag c : Nat} {A : Option Addr} (hb : Bk w ag 54 (askC a A c)) (h : ∀ w', Kp [] w w' → R (.returned (.bool (endsB a))) w') : Calls Tryz.prog 35 #[.pointer (some ⟨ag, 0, none⟩)] w R := by
  have H := Lib.hid h
  obtain ⟨nm, st, r⟩ := a
  obtain ⟨⟨x0, x1, x2, x3, x4, x5, x6⟩, _⟩ := bk7r hb
  simp only at x0 x1 x2 x3 x4 x5 x6
  unfold endsB readsM at H
  simp only at H
  clear h hb
  obtain ⟨hd, hhd⟩ : ∃ x, (r.t.head? == some 47) = x := ⟨_, rfl⟩
  have HPre : Hid (∀ (R : Ending → World → Prop) (W : World), R (.returned (.bool hd)) W → Calls Tryz.prog 42 #[.string (S r.t), .string ⟨#[47]⟩] W R) := Lib.hid (fun R W h => pre_any _ 47 (by rw [hhd]; exact h))
  obtain ⟨b1, h1⟩ : ∃ x, (r.m == [71, 69, 84]) = x := ⟨_, rfl⟩
  obtain ⟨b2, h2⟩ : ∃ x, (r.m == [72, 69, 65, 68]) = x := ⟨_, rfl⟩
  obtain ⟨cl, hcl⟩ : ∃ x, r.close = x := ⟨_, rfl⟩
  rw [hhd, h1, h2, hcl] at H
  rw [hcl] at x6
  clear hhd hcl
  by_cases h0 : st = 0
  · subst h0
    replace H : Hid (∀ w', Kp [] w w' → R (.returned (.bool (cl || ((b1 || b2) && !hd)))) w') := Lib.hid (fun w' k => by have := H.out w' k; simpa using this)
    cases cl with
    | true =>
      go_enter Tryz.func35, Tryz.ntmps35
      go_wp2
      exact H.out w (Kp.refl _ _)
    | false =>
      cases b1 <;> cases b2
      all_goals
        go_enter Tryz.func35, Tryz.ntmps35
        go_wp2_with (go_at_call 42; (refine HPre.out _ _ ?_))
        exact H.out w (Kp.refl _ _)
  · have hz : (st == 0) = false := by simpa using h0
    have hz2 : (st != 0) = true := by simpa using h0
    replace H : Hid (∀ w', Kp [] w w' → R (.returned (.bool true)) w') := Lib.hid (fun w' k => by have := H.out w' k; rw [hz] at this; simpa using this)
    clear h0
    go_enter Tryz.func35, Tryz.ntmps35
    go_wp2
    exact H.out w (Kp.refl _ _)
set_option maxHeartbeats 2000000 in
theorem sdone_any (ht : TB w0 w tg pg s) (h : ∀ w', TB w0 w' tg pg (doneS s) → Kp [tg, pg] w w' → R (.returned (.tuple #[])) w') : Calls Tryz.prog 26 #[.pointer (some ⟨tg, 0, none⟩)] w R := by
  have H := Lib.hid h
  have HT := Lib.hid ht
  obtain ⟨oa, b1, o1⟩ := ht.tk.tk
  obtain ⟨b, ov, op, over⟩ := s
  simp only at b1 o1
  have t1 : w.cell? ⟨tg, 1, none⟩ = some (.pointer oa) := b1.cell 1
  have t2 : w.cell? ⟨tg, 2, none⟩ = some (.bool over) := b1.cell 2
  have f1 := b1.frozen 1
  have f2 := b1.frozen 2
  have HB := Lib.hid b1
  have hne := ht.tk.ne
  have hps := Lib.hid ht.tk.ps
  clear h ht
  cases op with
  | none =>
    have hoa : oa = none := o1
    subst hoa
    clear b1 o1
    go_enter Tryz.func26, Tryz.ntmps26
    go_wp2
    go_end0
    exact H.out w HT.out (Kp.refl _ _)
  | some a =>
    obtain ⟨ag, A, c, rfl, hna, hba, hra, hca⟩ := o1.lt
    have HE : Hid (∀ (R : Ending → World → Prop), (∀ w', Kp [] w w' → R (.returned (.bool (endsB a))) w') → Calls Tryz.prog 35 #[.pointer (some ⟨ag, 0, none⟩)] w R) := Lib.hid (fun R h => ends_any a hba h)
    obtain ⟨e, he⟩ : ∃ e, endsB a = e := ⟨_, rfl⟩
    unfold doneS at H
    simp only at H
    rw [he] at HE H
    clear b1 o1 hba hra hca he
    go_enter Tryz.func26, Tryz.ntmps26
    go_wp2_with (go_at_call 35; ((refine HE.out _ ?_); intro w1 k1; have bt1 := HB.out.kp k1 (by simp); have y1 : w1.cell? ⟨tg, 1, none⟩ = some (.pointer (some ⟨ag, 0, none⟩)) := bt1.cell 1; have y2 : w1.cell? ⟨tg, 2, none⟩ = some (.bool over) := bt1.cell 2; have g1 := bt1.frozen 1; have g2 := bt1.frozen 2))
    go_end0
    have ks : Kp [tg] w1 ((w1.setCell ⟨tg, 2, none⟩ (.bool e)).setCell ⟨tg, 1, none⟩ (.pointer none)) := ((Kp.refl _ _).setCell (.inl (by simp)) _).setCell (.inl (by simp)) _
    have kk : Kp [tg, pg] w ((w1.setCell ⟨tg, 2, none⟩ (.bool e)).setCell ⟨tg, 1, none⟩ (.pointer none)) := (k1.mono (by simp)).thn ks (fun s hs => .inl (by simp at hs; simp [hs]))
    exact H.out _ (HT.out.step ⟨hne, Bk.kp (Bk.kp hps.out k1 (by simp)) ks (by simp; omega), none, ((bt1.set_ 2 _).set_ 1 _).cast rfl, rfl⟩ kk) kk
theorem sover_any (ht : Tk w tg pg s) (h : R (.returned (.bool s.over)) w) : Calls Tryz.prog 27 #[.pointer (some ⟨tg, 0, none⟩)] w R := by
  have H := Lib.hid h
  obtain ⟨oa, b1, o1⟩ := ht.tk
  have t2 : w.cell? ⟨tg, 2, none⟩ = some (.bool s.over) := b1.cell 2
  clear h ht b1 o1
  go_enter Tryz.func27, Tryz.ntmps27
  go_wp2
  exact H.out
theorem sover_nil (h : R (.returned (.bool false)) w) : Calls Tryz.prog 27 #[.pointer none] w R := by
  have H := Lib.hid h
  clear h
  go_enter Tryz.func27, Tryz.ntmps27
  go_wp2
  exact H.out
theorem sdone_nil (h : R (.returned (.tuple #[])) w) : Calls Tryz.prog 26 #[.pointer none] w R := by
  have H := Lib.hid h
  clear h
  go_enter Tryz.func26, Tryz.ntmps26
  go_wp2
  go_end0
  exact H.out
end
end
/-! ### serve: Plan. -/
section
open Go.RowKit Go.Shelf
set_option linter.unusedVariables false
set_option linter.unusedSimpArgs false
set_option maxRecDepth 100000
/-- What a plan tells: status, head, parts, does it close. -/
noncomputable def planT (a : AskP) (there : Bool) (v mt len : Int) (kd : List UInt8) (now : Int) : Int × List UInt8 × List Pt × Bool :=
  if a.2.1 = 0 then ((chooseM a.2.2 (there && !(a.1 == [])) v mt len).1, ofH a.2.2 (there && !(a.1 == [])) v mt len kd now, ofP a.2.2 (there && !(a.1 == [])) v mt len kd, a.2.2.close || (chooseM a.2.2 (there && !(a.1 == [])) v mt len).1 == 400)
  else (wrS a.2.1, wrH a.2.1 now, partsG (wrS a.2.1) 0 [] [], true)
/-- A request whose fields are few and short. -/
def okR (r : Req) : Prop := r.fs.length ≤ 2000 ∧ ∀ nm, (allF r.fs nm).length ≤ 2000000
section
variable {R : Ending → World → Prop} {w0 w : World} {tg pg : Nat} {s : TkS}
theorem splan_nil (there : Bool) (v mt len now : Int) (kd : List UInt8) (h : ∀ w', Kp [] w w' → R (.returned (.agg #[.int .i64 0, .string ⟨#[]⟩, .slice none 0 0, .bool false])) w') : Calls Tryz.prog 23 #[.pointer none, .bool there, .agg #[.int .i64 v, .int .i64 mt, .int .i64 len, .string (S kd)], .int .i64 now] w R := by
  have H := Lib.hid h
  clear h
  go_enter Tryz.func23, Tryz.ntmps23
  go_wp2
  exact bodyPost_ret (v := .agg #[.int .i64 0, .string ⟨#[]⟩, .slice none 0 0, .bool false]) (by simp [results, Tryz.results23, go_sem]; try rfl) rfl (H.out _ (((Kp.refl _ _).alloc _).alloc _))
theorem splan_none (ht : Tk w tg pg s) (hs : s.op = none) (there : Bool) (v mt len now : Int) (kd : List UInt8) (h : ∀ w', Kp [] w w' → R (.returned (.agg #[.int .i64 0, .string ⟨#[]⟩, .slice none 0 0, .bool false])) w') : Calls Tryz.prog 23 #[.pointer (some ⟨tg, 0, none⟩), .bool there, .agg #[.int .i64 v, .int .i64 mt, .int .i64 len, .string (S kd)], .int .i64 now] w R := by
  have H := Lib.hid h
  obtain ⟨oa, b1, o1⟩ := ht.tk
  rw [hs] at o1
  have hoa : oa = none := o1
  subst hoa
  have t1 : w.cell? ⟨tg, 1, none⟩ = some (.pointer none) := b1.cell 1
  have hlt := b1.lt
  clear h ht b1 o1
  go_enter Tryz.func23, Tryz.ntmps23
  go_wp2
  exact bodyPost_ret (v := .agg #[.int .i64 0, .string ⟨#[]⟩, .slice none 0 0, .bool false]) (by simp [results, Tryz.results23, go_sem]; try rfl) rfl (H.out _ (((Kp.refl _ _).alloc _).alloc _))
set_option maxHeartbeats 8000000 in
theorem splan_any (hw : Lw w0) (ht : TB w0 w tg pg s) {a : AskP} (hs : s.op = some a) (hok : okR a.2.2) (there : Bool) (v mt len now : Int) (kd : List UInt8) (hv : 0 ≤ v ∧ v ≤ 9223372036854775807) (hmt : 0 ≤ mt ∧ mt ≤ 9223372036854775807) (hlen : 0 ≤ len ∧ len ≤ 35184372088832) (hkd : kd.length ≤ 300)
    (h : ∀ A n c w', Kp [] w w' → Hid (Rd w' [] A ((planT a there v mt len kd now).2.2.1.flatMap ptV) ∧ (planT a there v mt len kd now).2.2.1.length = n ∧ n ≤ 21) → R (.returned (.agg #[.int .i64 (planT a there v mt len kd now).1, .string (S (planT a there v mt len kd now).2.1), .slice A n c, .bool (planT a there v mt len kd now).2.2.2])) w') :
    Calls Tryz.prog 23 #[.pointer (some ⟨tg, 0, none⟩), .bool there, .agg #[.int .i64 v, .int .i64 mt, .int .i64 len, .string (S kd)], .int .i64 now] w R := by
  have H := Lib.hid h
  obtain ⟨oa, b1, o1⟩ := ht.tk.tk
  rw [hs] at o1
  obtain ⟨ag, A, c, rfl, hna, hba, hra, hca⟩ := o1.lt
  have hlw := hw.kp ht.kp
  have HB := Lib.hid b1
  have HA := Lib.hid hba
  obtain ⟨nm, st, r⟩ := a
  simp only at hba hra hca hok
  have hlt := b1.lt
  have hla := hba.lt
  unfold planT at H
  simp only at H
  clear h
  by_cases h0 : st = 0
  · subst h0
    rw [if_pos rfl] at H
    simp only at H
    have HOf : Hid (∀ (R : Ending → World → Prop) (w1 : World), Kp [] w w1 → (∀ A' n c' w', Kp [] w1 w' → Hid (Rd w' [] A' ((ofP r (there && !(nm == [])) v mt len kd).flatMap ptV) ∧ (ofP r (there && !(nm == [])) v mt len kd).length = n ∧ n ≤ 21) → R (.returned (.agg #[.int .i64 (chooseM r (there && !(nm == [])) v mt len).1, .string (S (ofH r (there && !(nm == [])) v mt len kd now)), .slice A' n c', .bool (r.close || (chooseM r (there && !(nm == [])) v mt len).1 == 400)])) w') → Calls Tryz.prog 11 #[.agg #[.string (S r.m), .string (S r.t), .int .i64 r.minor, .slice A r.fs.length c, .bool r.close], .bool (there && !(nm == [])), .agg #[.int .i64 v, .int .i64 mt, .int .i64 len, .string (S kd)], .int .i64 now] w1 R) := Lib.hid (fun R w1 k h => rof_gen r _ v mt len kd now ((hra.sub (by simp)).kp k (by simp)) hok.1 hca hv hmt hlen hkd (hlw.kp k) hok.2 h)
    obtain ⟨st2, e1⟩ : ∃ x, (chooseM r (there && !(nm == [])) v mt len).1 = x := ⟨_, rfl⟩
    obtain ⟨hd, e2⟩ : ∃ x, ofH r (there && !(nm == [])) v mt len kd now = x := ⟨_, rfl⟩
    obtain ⟨ps, e3⟩ : ∃ x, ofP r (there && !(nm == [])) v mt len kd = x := ⟨_, rfl⟩
    obtain ⟨cl, e4⟩ : ∃ x, (r.close || st2 == 400) = x := ⟨_, rfl⟩
    rw [e1] at H HOf
    rw [e4] at H HOf
    rw [e2, e3] at H HOf
    obtain ⟨ne, hne⟩ : ∃ x, (nm == []) = x := ⟨_, rfl⟩
    rw [hne] at HOf
    clear e1 e2 e3 e4 ht hs b1 o1 hba hra hca hok
    go_enter Tryz.func23, Tryz.ntmps23
    go_upto_region 1 with (fail)
    refine gen_worldC (fun W => ∃ g1 rb, w.heap.size = g1 ∧ g1 + 1 = rb ∧ Hid (Kp [] w W ∧ Bk W g1 37 [.int .i64 v, .int .i64 mt, .int .i64 len, .string (S kd)] ∧ Bk W rb 31 [.int .i64 0, .string ⟨#[]⟩, .slice none 0 0, .bool false])) ⟨_, _, rfl, rfl, Lib.hid ⟨((Kp.refl _ _).alloc _).alloc _, ((Bk.new' _ _ _).alloc _).cast rfl, (Bk.newAt (by simp) _ _).cast rfl⟩⟩ ?_
    rintro W ⟨g1, rb, hg1, hrb, hW⟩
    rw [hg1, hrb]
    have HRB : Hid (w.heap.size ≤ g1 ∧ g1 < rb) := Lib.hid (by omega)
    have HS : Hid (∀ W', Kp [rb] W W' → W'.cell? ⟨tg, 1, none⟩ = some (.pointer (some ⟨ag, 0, none⟩)) ∧ (W'.cell? ⟨ag, 0, none⟩ = some (.string (S nm)) ∧ W'.cell? ⟨ag, 1, none⟩ = some (.int .i64 0) ∧ W'.cell? ⟨ag, 2, none⟩ = some (.string (S r.m)) ∧ W'.cell? ⟨ag, 3, none⟩ = some (.string (S r.t)) ∧ W'.cell? ⟨ag, 4, none⟩ = some (.int .i64 r.minor) ∧ W'.cell? ⟨ag, 5, none⟩ = some (.slice A r.fs.length c) ∧ W'.cell? ⟨ag, 6, none⟩ = some (.bool r.close)) ∧ (W'.cell? ⟨g1, 0, none⟩ = some (.int .i64 v) ∧ W'.cell? ⟨g1, 1, none⟩ = some (.int .i64 mt) ∧ W'.cell? ⟨g1, 2, none⟩ = some (.int .i64 len) ∧ W'.cell? ⟨g1, 3, none⟩ = some (.string (S kd)))) := Lib.hid (fun W' k' => ⟨((HB.out.kp hW.out.1 (by simp)).kp k' (by have := HRB.out; simp; omega)).cell 1, (bk7r ((HA.out.kp hW.out.1 (by simp)).kp k' (by have := HRB.out; simp; omega))).1, (bk4r (hW.out.2.1.kp k' (by have := HRB.out; simp; omega))).1⟩)
    clear hg1 hrb
    obtain ⟨t1, ⟨a0, a1, a2, a3, a4, a5, a6⟩, ⟨q0, q1, q2, q3⟩⟩ := HS.out W (Kp.refl _ _)
    go_upto_region 5 with (fail)
    have HWD : Hid (Kp [] W W.drew) := Lib.hid (Kp.refl _ _).drew
    have HWDm : Hid (Kp [rb] W W.drew) := Lib.hid (Kp.refl _ _).drew
    have HPB : Hid (∀ W', Kp [] W W' → Bk W' rb 31 [.int .i64 0, .string ⟨#[]⟩, .slice none 0 0, .bool false]) := Lib.hid (fun W' k => hW.out.2.2.kp k (by simp))
    have HOf2 : Hid (∀ (b : Bool), (there && !ne) = b → ∀ (R : Ending → World → Prop), (∀ A' n c' w', Kp [] W w' → Hid (Rd w' [] A' (ps.flatMap ptV) ∧ ps.length = n ∧ n ≤ 21) → R (.returned (.agg #[.int .i64 st2, .string (S hd), .slice A' n c', .bool cl])) w') → Calls Tryz.prog 11 #[.agg #[.string (S r.m), .string (S r.t), .int .i64 r.minor, .slice A r.fs.length c, .bool r.close], .bool b, .agg #[.int .i64 v, .int .i64 mt, .int .i64 len, .string (S kd)], .int .i64 now] W.drew R) := Lib.hid (fun b e R h => by rw [← e]; exact HOf.out R _ (hW.out.1.trans HWD.out) (fun A' n c' w' k hh => h A' n c' w' (HWD.out.trans k) hh))
    clear HOf
    cases there with
    | true =>
      have HOf3 := Lib.hid (HOf2.out (!ne) rfl)
      clear HOf2
      have hne2 : ((nm == []) = ne) := hne
      go_region_held_law (fun W' => W'.cell? ⟨tg, 1, none⟩ = some (.pointer (some ⟨ag, 0, none⟩)) ∧ (W'.cell? ⟨ag, 0, none⟩ = some (.string (S nm)) ∧ W'.cell? ⟨ag, 1, none⟩ = some (.int .i64 0) ∧ W'.cell? ⟨ag, 2, none⟩ = some (.string (S r.m)) ∧ W'.cell? ⟨ag, 3, none⟩ = some (.string (S r.t)) ∧ W'.cell? ⟨ag, 4, none⟩ = some (.int .i64 r.minor) ∧ W'.cell? ⟨ag, 5, none⟩ = some (.slice A r.fs.length c) ∧ W'.cell? ⟨ag, 6, none⟩ = some (.bool r.close)) ∧ (W'.cell? ⟨g1, 0, none⟩ = some (.int .i64 v) ∧ W'.cell? ⟨g1, 1, none⟩ = some (.int .i64 mt) ∧ W'.cell? ⟨g1, 2, none⟩ = some (.int .i64 len) ∧ W'.cell? ⟨g1, 3, none⟩ = some (.string (S kd)))) (first | with_reducible exact HS.out _ kk5m | with_reducible exact HS.out _ HWDm.out | (refine HS.out _ ?_; repeat (first | with_reducible exact kk5m | refine Kp.setCell ?_ (.inl (by simp)) _))) (first | (go_simp; go_at_call 11; (refine HOf3.out _ ?_); intro A5 n5 c5 w5 kk5 h5; have kk5m : Kp [rb] W w5 := kk5.mono (by simp); have br := HPB.out _ kk5; obtain ⟨⟨s0, s1, s2, s3⟩, ⟨f0, f1, f2, f3⟩⟩ := bk4r br))
      all_goals
        go_wp2
        obtain ⟨W', hW', kW, bW⟩ := put4 br (.int .i64 st2) (.string (S hd)) (.slice A5 n5 c5) (.bool cl)
        rw [hW']
        obtain ⟨⟨c0, c1, c2, c3⟩, _⟩ := bk4r bW
        have kF : Kp [] w W' := (hW.out.1.trans kk5).thn kW (fun s hs => .inr (by have := HRB.out; simp at hs; omega))
        exact bodyPost_ret (v := .agg #[.int .i64 st2, .string (S hd), .slice A5 n5 c5, .bool cl]) (by simp [results, Tryz.results23, go_sem, c0, c1, c2, c3]; try rfl) rfl (H.out A5 n5 c5 _ kF (Lib.hid ⟨((rd_notP h5.out.1 br).kp kW (by simp)).sub (by simp), h5.out.2⟩))
    | false =>
      have HOf3 := Lib.hid (HOf2.out false rfl)
      clear HOf2
      refine wp_region_held_drew (S := fun W' => W'.cell? ⟨tg, 1, none⟩ = some (.pointer (some ⟨ag, 0, none⟩)) ∧ (W'.cell? ⟨ag, 0, none⟩ = some (.string (S nm)) ∧ W'.cell? ⟨ag, 1, none⟩ = some (.int .i64 0) ∧ W'.cell? ⟨ag, 2, none⟩ = some (.string (S r.m)) ∧ W'.cell? ⟨ag, 3, none⟩ = some (.string (S r.t)) ∧ W'.cell? ⟨ag, 4, none⟩ = some (.int .i64 r.minor) ∧ W'.cell? ⟨ag, 5, none⟩ = some (.slice A r.fs.length c) ∧ W'.cell? ⟨ag, 6, none⟩ = some (.bool r.close)) ∧ (W'.cell? ⟨g1, 0, none⟩ = some (.int .i64 v) ∧ W'.cell? ⟨g1, 1, none⟩ = some (.int .i64 mt) ∧ W'.cell? ⟨g1, 2, none⟩ = some (.int .i64 len) ∧ W'.cell? ⟨g1, 3, none⟩ = some (.string (S kd)))) (by kernel_rfl) (HS.out _ HWDm.out) (fun hHeld => ?_)
      refine wpAnyH_take (i := 0) (oi := { dst := some 38, op := Op.move (Operand.tmp 0), type := 49, pos := "serve.go:74", after := #[], guard := none }) (v := ?_) rfl (by kernel_rfl) (by kernel_rfl) (by kernel_rfl) (fun _ _ _ h => h) (Or.inl ⟨by rfl, ?_⟩) hHeld ?_
      rotate_left
      · intro w hSw; (try dsimp only at hSw); go_split_ands; go_simp; (try with_reducible rfl)
      (try simp only [Act.put, List.setIfInBounds_toArray, List.set_cons_zero, List.set_cons_succ])
      refine wpAnyH_take (i := 1) (oi := { dst := some 39, op := Op.nilCheck (Operand.tmp 38), type := 0, pos := "serve.go:74", after := #[{ on := 0, ground := Ground.data }], guard := none }) (v := ?_) rfl (by kernel_rfl) (by kernel_rfl) (by kernel_rfl) (fun _ _ _ h => h) (Or.inl ⟨by rfl, ?_⟩) hHeld ?_
      rotate_left
      · intro w hSw; (try dsimp only at hSw); go_split_ands; go_simp; (try with_reducible rfl)
      (try simp only [Act.put, List.setIfInBounds_toArray, List.set_cons_zero, List.set_cons_succ])
      refine wpAnyH_take (i := 2) (oi := { dst := some 40, op := Op.fieldAddr 85 (Operand.tmp 39) 1, type := 0, pos := "serve.go:74", after := #[{ on := 1, ground := Ground.data }], guard := none }) (v := ?_) rfl (by kernel_rfl) (by kernel_rfl) (by kernel_rfl) (fun _ _ _ h => h) (Or.inl ⟨by rfl, ?_⟩) hHeld ?_
      rotate_left
      · intro w hSw; (try dsimp only at hSw); go_split_ands; go_simp; (try with_reducible rfl)
      (try simp only [Act.put, List.setIfInBounds_toArray, List.set_cons_zero, List.set_cons_succ])
      refine wpAnyH_take (i := 3) (oi := { dst := some 41, op := Op.load 83 (Operand.tmp 40), type := 83, pos := "serve.go:74", after := #[{ on := 2, ground := Ground.data }], guard := none }) (v := ?_) rfl (by kernel_rfl) (by kernel_rfl) (by kernel_rfl) (fun _ _ _ h => h) (Or.inl ⟨by rfl, ?_⟩) hHeld ?_
      rotate_left
      · intro w hSw; (try dsimp only at hSw); go_split_ands; go_simp; (try with_reducible rfl)
      (try simp only [Act.put, List.setIfInBounds_toArray, List.set_cons_zero, List.set_cons_succ])
      refine wpAnyH_take (i := 4) (oi := { dst := some 42, op := Op.nilCheck (Operand.tmp 41), type := 0, pos := "serve.go:74", after := #[{ on := 3, ground := Ground.data }], guard := none }) (v := ?_) rfl (by kernel_rfl) (by kernel_rfl) (by kernel_rfl) (fun _ _ _ h => h) (Or.inl ⟨by rfl, ?_⟩) hHeld ?_
      rotate_left
      · intro w hSw; (try dsimp only at hSw); go_split_ands; go_simp; (try with_reducible rfl)
      (try simp only [Act.put, List.setIfInBounds_toArray, List.set_cons_zero, List.set_cons_succ])
      refine wpAnyH_take (i := 5) (oi := { dst := some 43, op := Op.fieldAddr 54 (Operand.tmp 42) 2, type := 0, pos := "serve.go:74", after := #[{ on := 4, ground := Ground.data }], guard := none }) (v := ?_) rfl (by kernel_rfl) (by kernel_rfl) (by kernel_rfl) (fun _ _ _ h => h) (Or.inl ⟨by rfl, ?_⟩) hHeld ?_
      rotate_left
      · intro w hSw; (try dsimp only at hSw); go_split_ands; go_simp; (try with_reducible rfl)
      (try simp only [Act.put, List.setIfInBounds_toArray, List.set_cons_zero, List.set_cons_succ])
      refine wpAnyH_take (i := 6) (oi := { dst := some 44, op := Op.load 35 (Operand.tmp 43), type := 35, pos := "serve.go:74", after := #[{ on := 5, ground := Ground.data }], guard := none }) (v := ?_) rfl (by kernel_rfl) (by kernel_rfl) (by kernel_rfl) (fun _ _ _ h => h) (Or.inl ⟨by rfl, ?_⟩) hHeld ?_
      rotate_left
      · intro w hSw; (try dsimp only at hSw); go_split_ands; go_simp; (try with_reducible rfl)
      (try simp only [Act.put, List.setIfInBounds_toArray, List.set_cons_zero, List.set_cons_succ])
      refine wpAnyH_take (i := 7) (oi := { dst := some 45, op := Op.move (Operand.tmp 1), type := 4, pos := "serve.go:74", after := #[], guard := none }) (v := ?_) rfl (by kernel_rfl) (by kernel_rfl) (by kernel_rfl) (fun _ _ _ h => h) (Or.inl ⟨by rfl, ?_⟩) hHeld ?_
      rotate_left
      · intro w hSw; (try dsimp only at hSw); go_split_ands; go_simp; (try with_reducible rfl)
      (try simp only [Act.put, List.setIfInBounds_toArray, List.set_cons_zero, List.set_cons_succ])
      refine wpAnyH_take (i := 8) (oi := { dst := some 46, op := Op.move (Operand.tmp 45), type := 4, pos := "serve.go:74", after := #[{ on := 7, ground := Ground.data }], guard := none }) (v := ?_) rfl (by kernel_rfl) (by kernel_rfl) (by kernel_rfl) (fun _ _ _ h => h) (Or.inl ⟨by rfl, ?_⟩) hHeld ?_
      rotate_left
      · intro w hSw; (try dsimp only at hSw); go_split_ands; go_simp; (try with_reducible rfl)
      (try simp only [Act.put, List.setIfInBounds_toArray, List.set_cons_zero, List.set_cons_succ])
      refine wpAnyH_take (i := 9) (oi := { dst := some 47, op := Op.move (Operand.tmp 0), type := 49, pos := "serve.go:74", after := #[{ on := 8, ground := Ground.guard }], guard := some (8, true) }) (v := undef) rfl (by kernel_rfl) (by kernel_rfl) (by kernel_rfl) (fun _ _ _ h => h) (Or.inr ⟨by rfl, rfl⟩) hHeld ?_
      (try simp only [Act.put, List.setIfInBounds_toArray, List.set_cons_zero, List.set_cons_succ])
      refine wpAnyH_take (i := 10) (oi := { dst := some 48, op := Op.nilCheck (Operand.tmp 47), type := 0, pos := "serve.go:74", after := #[{ on := 9, ground := Ground.data }, { on := 8, ground := Ground.guard }], guard := some (8, true) }) (v := undef) rfl (by kernel_rfl) (by kernel_rfl) (by kernel_rfl) (fun _ _ _ h => h) (Or.inr ⟨by rfl, rfl⟩) hHeld ?_
      (try simp only [Act.put, List.setIfInBounds_toArray, List.set_cons_zero, List.set_cons_succ])
      refine wpAnyH_take (i := 11) (oi := { dst := some 49, op := Op.fieldAddr 85 (Operand.tmp 48) 1, type := 0, pos := "serve.go:74", after := #[{ on := 10, ground := Ground.data }, { on := 8, ground := Ground.guard }], guard := some (8, true) }) (v := undef) rfl (by kernel_rfl) (by kernel_rfl) (by kernel_rfl) (fun _ _ _ h => h) (Or.inr ⟨by rfl, rfl⟩) hHeld ?_
      (try simp only [Act.put, List.setIfInBounds_toArray, List.set_cons_zero, List.set_cons_succ])
      refine wpAnyH_take (i := 12) (oi := { dst := some 50, op := Op.load 83 (Operand.tmp 49), type := 83, pos := "serve.go:74", after := #[{ on := 11, ground := Ground.data }, { on := 8, ground := Ground.guard }], guard := some (8, true) }) (v := undef) rfl (by kernel_rfl) (by kernel_rfl) (by kernel_rfl) (fun _ _ _ h => h) (Or.inr ⟨by rfl, rfl⟩) hHeld ?_
      (try simp only [Act.put, List.setIfInBounds_toArray, List.set_cons_zero, List.set_cons_succ])
      refine wpAnyH_take (i := 13) (oi := { dst := some 51, op := Op.nilCheck (Operand.tmp 50), type := 0, pos := "serve.go:74", after := #[{ on := 12, ground := Ground.data }, { on := 8, ground := Ground.guard }], guard := some (8, true) }) (v := undef) rfl (by kernel_rfl) (by kernel_rfl) (by kernel_rfl) (fun _ _ _ h => h) (Or.inr ⟨by rfl, rfl⟩) hHeld ?_
      (try simp only [Act.put, List.setIfInBounds_toArray, List.set_cons_zero, List.set_cons_succ])
      refine wpAnyH_take (i := 14) (oi := { dst := some 52, op := Op.fieldAddr 54 (Operand.tmp 51) 0, type := 0, pos := "serve.go:74", after := #[{ on := 13, ground := Ground.data }, { on := 8, ground := Ground.guard }], guard := some (8, true) }) (v := undef) rfl (by kernel_rfl) (by kernel_rfl) (by kernel_rfl) (fun _ _ _ h => h) (Or.inr ⟨by rfl, rfl⟩) hHeld ?_
      (try simp only [Act.put, List.setIfInBounds_toArray, List.set_cons_zero, List.set_cons_succ])
      refine wpAnyH_take (i := 15) (oi := { dst := some 53, op := Op.load 9 (Operand.tmp 52), type := 9, pos := "serve.go:74", after := #[{ on := 14, ground := Ground.data }, { on := 8, ground := Ground.guard }], guard := some (8, true) }) (v := undef) rfl (by kernel_rfl) (by kernel_rfl) (by kernel_rfl) (fun _ _ _ h => h) (Or.inr ⟨by rfl, rfl⟩) hHeld ?_
      (try simp only [Act.put, List.setIfInBounds_toArray, List.set_cons_zero, List.set_cons_succ])
      refine wpAnyH_take (i := 16) (oi := { dst := some 54, op := Op.binOp BinOp.neq 9 (Operand.tmp 53) (Operand.const (Value.string { data := #[] })) 9, type := 4, pos := "serve.go:74", after := #[{ on := 15, ground := Ground.data }, { on := 8, ground := Ground.guard }], guard := some (8, true) }) (v := undef) rfl (by kernel_rfl) (by kernel_rfl) (by kernel_rfl) (fun _ _ _ h => h) (Or.inr ⟨by rfl, rfl⟩) hHeld ?_
      (try simp only [Act.put, List.setIfInBounds_toArray, List.set_cons_zero, List.set_cons_succ])
      refine wpAnyH_take (i := 17) (oi := { dst := some 55, op := Op.pick (Operand.tmp 46) (Operand.tmp 54) (Operand.const (Value.bool false)), type := 4, pos := "serve.go:74", after := #[{ on := 8, ground := Ground.data }, { on := 16, ground := Ground.data }], guard := none }) (v := ?_) rfl (by kernel_rfl) (by kernel_rfl) (by kernel_rfl) (fun _ _ _ h => h) (Or.inl ⟨by rfl, ?_⟩) hHeld ?_
      rotate_left
      · intro w hSw; (try dsimp only at hSw); go_split_ands; go_simp; (try with_reducible rfl)
      (try simp only [Act.put, List.setIfInBounds_toArray, List.set_cons_zero, List.set_cons_succ])
      refine wpAnyH_take (i := 18) (oi := { dst := some 56, op := Op.load 37 (Operand.tmp 6), type := 37, pos := "serve.go:74", after := #[], guard := none }) (v := ?_) rfl (by kernel_rfl) (by kernel_rfl) (by kernel_rfl) (fun _ _ _ h => h) (Or.inl ⟨by rfl, ?_⟩) hHeld ?_
      rotate_left
      · intro w hSw; (try dsimp only at hSw); go_split_ands; go_simp; (try with_reducible rfl)
      (try simp only [Act.put, List.setIfInBounds_toArray, List.set_cons_zero, List.set_cons_succ])
      refine wpAnyH_take (i := 19) (oi := { dst := some 57, op := Op.move (Operand.tmp 3), type := 2, pos := "serve.go:74", after := #[], guard := none }) (v := ?_) rfl (by kernel_rfl) (by kernel_rfl) (by kernel_rfl) (fun _ _ _ h => h) (Or.inl ⟨by rfl, ?_⟩) hHeld ?_
      rotate_left
      · intro w hSw; (try dsimp only at hSw); go_split_ands; go_simp; (try with_reducible rfl)
      (try simp only [Act.put, List.setIfInBounds_toArray, List.set_cons_zero, List.set_cons_succ])
      refine wpAnyH_ready (rs := [20]) (by kernel_rfl) (by simp) ?_
      refine AllReadyH.cons rfl (fun K hK => ?_) AllReadyH.nil
      rw [if_pos (by rfl)]
      go_simp
      go_at_call 11
      refine HOf3.out _ ?_
      intro A5 n5 c5 w5 kk5 h5
      have kk5m : Kp [rb] W w5 := kk5.mono (by simp)
      have br := HPB.out _ kk5
      obtain ⟨⟨s0, s1, s2, s3⟩, ⟨f0, f1, f2, f3⟩⟩ := bk4r br
      go_wp2
      refine hK.out _ _ (HS.out _ kk5m) (fun hHeld => ?_)
      clear hK K
      (try simp only [Act.put, List.setIfInBounds_toArray, List.set_cons_zero, List.set_cons_succ])
      refine wpAnyH_ready (rs := [21]) (by kernel_rfl) (by simp) ?_
      refine AllReadyH.cons rfl (fun K hK => ?_) AllReadyH.nil
      rw [if_pos (by rfl)]
      go_simp
      refine hK.out _ _ (HS.out _ ((((kk5m.setCell (.inl (by simp)) _).setCell (.inl (by simp)) _).setCell (.inl (by simp)) _).setCell (.inl (by simp)) _)) (fun hHeld => ?_)
      clear hK K
      (try simp only [Act.put, List.setIfInBounds_toArray, List.set_cons_zero, List.set_cons_succ])
      refine wpAnyH_done (by kernel_rfl) ?_ _
      go_wp2
      obtain ⟨W', hW', kW, bW⟩ := put4 br (.int .i64 st2) (.string (S hd)) (.slice A5 n5 c5) (.bool cl)
      rw [hW']
      obtain ⟨⟨c0, c1, c2, c3⟩, _⟩ := bk4r bW
      have kF : Kp [] w W' := (hW.out.1.trans kk5).thn kW (fun s hs => .inr (by have := HRB.out; simp at hs; omega))
      exact bodyPost_ret (v := .agg #[.int .i64 st2, .string (S hd), .slice A5 n5 c5, .bool cl]) (by simp [results, Tryz.results23, go_sem, c0, c1, c2, c3]; try rfl) rfl (H.out A5 n5 c5 _ kF (Lib.hid ⟨((rd_notP h5.out.1 br).kp kW (by simp)).sub (by simp), h5.out.2⟩))
  · have hz : (st != 0) = true := by simpa using h0
    rw [if_neg h0] at H
    simp only at H
    have HWr : Hid (∀ (R : Ending → World → Prop) (w1 : World), Kp [] w w1 → (∀ A n c w', Kp [] w1 w' → Hid (Rd w' [] A ((partsG (wrS st) 0 [] []).flatMap ptV) ∧ (partsG (wrS st) 0 [] []).length = n ∧ n ≤ 21) → R (.returned (.agg #[.int .i64 (wrS st), .string (S (wrH st now)), .slice A n c, .bool true])) w') → Calls Tryz.prog 15 #[.int .i64 st, .int .i64 now] w1 R) := Lib.hid (fun R w1 k h => rwrong_gen st now (hlw.kp k) h)
    obtain ⟨st2, e1⟩ : ∃ x, wrS st = x := ⟨_, rfl⟩
    obtain ⟨hd, e2⟩ : ∃ x, wrH st now = x := ⟨_, rfl⟩
    obtain ⟨ps, e3⟩ : ∃ x, partsG (wrS st) 0 [] [] = x := ⟨_, rfl⟩
    rw [e2, e3] at H HWr
    rw [e1] at H HWr
    clear e1 e2 e3 ht hs b1 o1 hba hra hca hok h0
    go_enter Tryz.func23, Tryz.ntmps23
    go_upto_region 1 with (fail)
    refine gen_worldC (fun W => ∃ g1 rb, w.heap.size = g1 ∧ g1 + 1 = rb ∧ Hid (Kp [] w W ∧ Bk W rb 31 [.int .i64 0, .string ⟨#[]⟩, .slice none 0 0, .bool false])) ⟨_, _, rfl, rfl, Lib.hid ⟨((Kp.refl _ _).alloc _).alloc _, (Bk.newAt (by simp) _ _).cast rfl⟩⟩ ?_
    rintro W ⟨g1, rb, hg1, hrb, hW⟩
    rw [hg1, hrb]
    have HRB : Hid (w.heap.size ≤ g1 ∧ g1 < rb) := Lib.hid (by omega)
    have t1 : W.cell? ⟨tg, 1, none⟩ = some (.pointer (some ⟨ag, 0, none⟩)) := (HB.out.kp hW.out.1 (by simp)).cell 1
    have a1 : W.cell? ⟨ag, 1, none⟩ = some (.int .i64 st) := (HA.out.kp hW.out.1 (by simp)).cell 1
    clear hg1 hrb
    go_wp2_with (go_at_call 15; ((refine HWr.out _ _ hW.out.1 ?_); intro A5 n5 c5 w5 kk5 h5; have br := hW.out.2.kp kk5 (by simp); obtain ⟨⟨s0, s1, s2, s3⟩, ⟨f0, f1, f2, f3⟩⟩ := bk4r br))
    obtain ⟨W', hW', kW, bW⟩ := put4 br (.int .i64 st2) (.string (S hd)) (.slice A5 n5 c5) (.bool true)
    rw [hW']
    obtain ⟨⟨c0, c1, c2, c3⟩, _⟩ := bk4r bW
    have kF : Kp [] w W' := (hW.out.1.trans kk5).thn kW (fun s hs => .inr (by have := HRB.out; simp at hs; omega))
    exact bodyPost_ret (v := .agg #[.int .i64 st2, .string (S hd), .slice A5 n5 c5, .bool true]) (by simp [results, Tryz.results23, go_sem, c0, c1, c2, c3]; try rfl) rfl (H.out A5 n5 c5 _ kF (Lib.hid ⟨((rd_notP h5.out.1 br).kp kW (by simp)).sub (by simp), h5.out.2⟩))
end
end
/-! ### serve: the chapter's example in plain words. -/
section
open Go.RowKit Go.Shelf
set_option linter.unusedVariables false
set_option maxRecDepth 100000
def alvB : List UInt8 := [71, 69, 84, 32, 47, 97, 32, 72, 84, 84, 80, 47, 49, 46, 48, 13, 10, 13, 10]
def alvR : Req := ⟨[71, 69, 84], [47, 97], 0, [], true⟩
theorem alv_next : nxt alvB false = (alvR, 0, [], false) := by rfl
theorem alv_of : ofL [47, 97] = ([97], 0) := by rfl
theorem alv_op : nxtOp alvB false = some ([97], 0, alvR) := by unfold nxtOp; rw [alv_next]; simp only [alvR, alv_of]; rfl
theorem alv_choose (v mt len : Int) : chooseM alvR false v mt len = (404, []) := by unfold chooseM; rfl
end
/-! ### Package request: the chapter's example. -/
section
open Go.RowKit Go.Shelf
set_option linter.unusedVariables false
set_option linter.unusedSimpArgs false
set_option maxRecDepth 100000

def aliveB : List UInt8 := [71, 69, 84, 32, 47, 32, 72, 84, 84, 80, 47, 49, 46, 49, 13, 10, 72, 111, 115, 116, 58, 32, 97, 13, 10, 13, 10]
def aliveR : Req := ⟨[71, 69, 84], [47], 1, [([104, 111, 115, 116], [97])], false⟩
theorem next_alive : nextF aliveB = (aliveR, 0, [], false) := by
  have h1 : headF (aliveB.length + 1) aliveB.length [] aliveB = ([[71, 69, 84, 32, 47, 32, 72, 84, 84, 80, 47, 49, 46, 49], [72, 111, 115, 116, 58, 32, 97]], [], 0) := by decide +kernel
  have h2 : firstL [71, 69, 84, 32, 47, 32, 72, 84, 84, 80, 47, 49, 46, 49] = some ([71, 69, 84], [47], 49, 49) := by decide +kernel
  have h3 : fieldsL [[72, 111, 115, 116, 58, 32, 97]] = some [([104, 111, 115, 116], [97])] := by decide +kernel
  have h4 : ofFs [71, 69, 84] [47] 1 [([104, 111, 115, 116], [97])] = (aliveR, 0) := by
    unfold ofFs
    rw [if_neg (by decide +kernel), if_neg (by decide +kernel), if_neg (by decide +kernel), if_neg (by decide +kernel), show closesF [([104, 111, 115, 116], [97])] 1 = false by decide +kernel]; rfl
  have h5 : ofF [[71, 69, 84, 32, 47, 32, 72, 84, 84, 80, 47, 49, 46, 49], [72, 111, 115, 116, 58, 32, 97]] = (aliveR, 0) := by
    rw [ofF, h2]
    simp only
    rw [if_neg (by decide), if_neg (by decide), h3]
    exact h4
  unfold nextF
  rw [h1]
  simp only
  rw [h5]
  rfl
theorem bytes_rd {w : World} {g f1 f2 : Nat} {l : List UInt8} {C : Array Value} (hC : C = (bts l).toArray) (hf : l.length ≤ f1 := by decide) (hg : g = w.heap.size := by rfl) : Rd (w.alloc (.cells C 5 (f1, f2))) [] (some ⟨g, 0, none⟩) (bts l) := by
  subst hg; subst hC
  exact Bf.rd ⟨f1, f2, heap_alloc_new w _, by rw [bts_len]; exact hf⟩
theorem next_nil : nextF [] = (noReq, -1, [], false) := rfl
theorem next_lit1 {R : Ending → World → Prop} {w : World} {g : Nat} (hm : Ml w) (hp : Ps w g aliveB false)
    (h : ∀ A c w', Ps w' g [] false → Kp [g] w w' → R (.returned (.tuple #[.agg #[.string (S [71, 69, 84]), .string (S [47]), .int .i64 1, .slice A 1 c, .bool false], .int .i64 0])) w') : Calls Tryz.prog 40 #[.pointer (some ⟨g, 0, none⟩)] w R :=
  next_any hm hp (by decide) (by rw [next_alive]; exact fun A c w' h1 h2 _ _ _ => h A c w' h1 h2)
theorem next_lit2 {R : Ending → World → Prop} {w : World} {g : Nat} (hm : Ml w) (hp : Ps w g [] false)
    (h : ∀ A c w', Ps w' g [] false → Kp [g] w w' → R (.returned (.tuple #[.agg #[.string (S []), .string (S []), .int .i64 0, .slice A 0 c, .bool false], .int .i64 (-1)])) w') : Calls Tryz.prog 40 #[.pointer (some ⟨g, 0, none⟩)] w R :=
  next_any hm hp (by decide) (by rw [next_nil]; exact fun A c w' h1 h2 _ _ _ => h A c w' h1 h2)
end
/-! ### A string's bytes: the conversion's world as a letter. -/
section
open Go.RowKit
set_option linter.unusedVariables false
theorem conv_rd (s : ByteArray) : ∃ (bw : World → World) (cw : World → Nat), (∀ W, (convert 9 52 (.string s)).run Tryz.prog W = .ok (.slice (some ⟨W.heap.size, 0, none⟩) s.size (cw W)) (bw W)) ∧
    (∀ (S : List Nat) (a w : World), Kp S a w → Kp S a (bw w)) ∧ (∀ (w : World) (b : Nat) (N : List Nat), b = w.heap.size → b ∉ N → Rd (bw w) N (some ⟨b, 0, none⟩) (bts s.data.toList)) :=
  ⟨fun W => Lib.bytesWorld W 5 s, fun W => grownCap W s.size 0 5, fun W => conv_sb W s, fun S a w k => k.bytesWorld _ _, fun w b N hb hN => rd_bytesWorld w _ s hb hN⟩
end
end Go.Proofs.YtnmafahbdfilcaaGreatDoor
