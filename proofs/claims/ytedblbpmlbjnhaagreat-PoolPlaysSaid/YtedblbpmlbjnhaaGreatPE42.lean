/- A pool gets a block that it reads. A pool's Get and Head, whole. A new pool of a new kernel's frames. -/
import Derived.Test.YtedblbpmlbjnhaaGreatPE41
import Derived.Test.YtedblbpmlbjnhaaGreatPE6
import Derived.Deep.DeepCutAuto
namespace Go.Proofs.YtedblbpmlbjnhaaGreat
/-! ### A pool gets a block that it reads. -/
section
open Go.RowKit Go.Shelf
set_option linter.unusedVariables false
set_option linter.unusedSimpArgs false
set_option maxRecDepth 100000
section
variable {R : Ending → World → Prop} {w w' : World} {B m : Nat} {ka ka' : KA} {k k' : KS} {pa : PA} {p : PS}
/-- The kernel's reading of a block. -/
theorem kc6_any (h0 : KPl w B ka k pa p) (hm : k.cnt m) (hm2 : m ≤ 10000) (b : Int) : Hid (∀ (R : Ending → World → Prop) (w1 : World), Kp [] w w1 → (∀ A len c w', Hid (∃ ka', Pq B w w' ∧ KPl w' B ka' k pa p ∧ ka'.g = ka.g ∧ ka'.bT = ka.bT) → Hid ((dRead k.d 1 b).2.length = len ∧ Tb w' 5 A (bts (dRead k.d 1 b).2)) → Hid (Kq B w1 w') → R (.returned (.tuple #[.agg #[.int .i64 0, .slice A len c], .int .i64 (dRead k.d 1 b).1])) w') →
    Calls Tryz.prog 9 #[.pointer (some ⟨ka.g, 0, none⟩), .agg #[.int .i64 6, .int .i64 1, .int .i64 b, .int .i64 0, .int .i64 0, .slice none 0 0, .slice none 0 0, .slice none 0 0]] w1 R) := Lib.hid (fun R w1 k1 h => by
  refine kcall_any (x := ⟨6, 1, b, 0, 0, none, 0, 0, [], none, 0, 0, [], none, 0, 0, []⟩) (h0.kn.off0 k1) hm hm2 ⟨Tb.nil, rfl, by show 0 ≤ _; omega, fun _ => ⟨rfl, rfl⟩, Tb.nil, rfl, by show 0 ≤ _; omega, fun _ => ⟨rfl, rfl⟩, by simp, Tb.nil, rfl, by show 0 ≤ _; omega, fun _ => ⟨rfl, rfl⟩, by simp⟩ (fun nn AA len c2 l' e k' a' w2 hst q n9 hl ht => ?_)
  have h1 := hst.out
  unfold kStep at h1
  rw [if_neg (by simp), if_pos (by simp)] at h1
  unfold kFB at h1
  rw [if_neg (by simp), if_neg (by simp), if_neg (by simp), if_neg (by simp), if_neg (by simp), if_pos rfl] at h1
  injection h1 with e1 e2 e3 e4
  subst e1; subst e2; subst e3; subst e4
  exact h AA len c2 w2 (Lib.hid ⟨a', (Pq.of0 k1).trans q.pq, (h0.off0 k1).kcall q n9, n9.2.1, n9.2.2⟩) (Lib.hid ⟨hl, ht⟩) (Lib.hid q))
theorem Pq.thn {w1 w2 : World} {S : List Nat} (h : Pq B w w1) (k : Kp S w1 w2) (hB : B ≤ w.heap.size) (hs : ∀ s ∈ S, w.heap.size ≤ s) : Pq B w w2 :=
  ⟨k.os.trans h.os, k.tape.trans h.tape, k.output.trans h.output, Nat.le_trans h.size k.size, fun b hb hc => (k.block b (Nat.lt_of_lt_of_le hb h.size) (fun hm => by have := hs b hm; omega)).trans (h.block b hb hc)⟩
theorem pTake_bd {k : KS} {p : PS} (h : p.bd m) : (pTake k p).2.bd m := by
  have key : ∀ (n : Nat) (p : PS), p.bd m → (pRnd k n p).2.bd m := by
    intro n
    induction n with
    | zero => intro p h; exact h
    | succ n ih =>
      intro p h
      unfold pRnd
      cases hx : p.sl[p.hand]? with
      | none => exact h
      | some x =>
        have hm := h.pi x (List.mem_of_getElem? hx)
        simp only
        split
        · refine ⟨fun y hy => ?_, h.f0, h.f1⟩
          rcases mem_set hy with rfl | hy
          · exact ⟨by simp [PSl.e], by simp [PSl.e]⟩
          · exact h.pi y hy
        · refine ih _ ⟨fun y hy => ?_, h.f0, h.f1⟩
          rcases mem_set hy with rfl | hy
          · exact hm
          · exact h.pi y hy
  unfold pTake
  split
  · exact h
  · exact key _ _ h
set_option maxHeartbeats 4000000 in
theorem pget_read (h0 : KPl w B ka k pa p) (hbd : p.bd m) (hm : k.cnt m) (hm2 : m ≤ 10000) (b n : Int) (re im : Nat) (hn0 : 0 ≤ n) (hn1 : n ≤ 256) (hf : p.sl.findIdx? (hasB b) = none) {i : Nat} {x : PSl} (ht : (pTake k p).1 = some i) (hx : (pTake k p).2.sl[i]? = some x)
    (h1 : (dRead k.d 1 b).1 ≠ 0 → ∀ ka' w', Pq B w w' → KPl w' B ka' k pa (pTake k p).2 → ka'.g = ka.g → ka'.bT = ka.bT → R (.returned (.tuple #[.int .i64 0, .int .i64 (dRead k.d 1 b).1])) w')
    (h2 : (dRead k.d 1 b).1 = 0 → ∀ ka' w', Pq B w w' → KPl w' B ka' { k with fs := (tWrite k.fs 1 x.f 0 (dRead k.d 1 b).2).2 } pa { (pTake k p).2 with sl := (pTake k p).2.sl.set i ⟨x.f, 1, b, x.pi + 1, n, re, im, true⟩, fills := (pTake k p).2.fills + 1 } → ka'.g = ka.g → ka'.bT = ka.bT → R (.returned (.tuple #[.int .i64 x.f, .int .i64 0])) w') :
    Calls Tryz.prog 24 #[.pointer (some ⟨pa.g, 0, none⟩), .int .i64 b, .int .i64 n, .complex .f64 re im] w R := by
  have HF := pgf_any h0 b
  have e : pfind p pa.l (hasB b) = none := by unfold pfind; rw [hf]
  rw [e] at HF
  have HT : Hid (∀ (R : Ending → World → Prop) (w1 : World), Kp [] w w1 → (∀ w', Pq B w1 w' → KPl w' B ka k pa (pTake k p).2 → R (.returned (.pointer (some ⟨pa.l, i * 7, none⟩))) w') → Calls Tryz.prog 77 #[.pointer (some ⟨pa.g, 0, none⟩)] w1 R) := Lib.hid (fun R w1 k1 h => ptake_any (h0.off0 k1) (fun w' q z => by rw [ht]; exact h w' q z))
  have hB0 := h0.kn.hB
  have hbd1 : (pTake k p).2.bd m := pTake_bd hbd
  have hlen : (dRead k.d 1 b).1 = 0 → (dRead k.d 1 b).2.length = 256 := by
    unfold dRead
    split
    · rename_i hz
      have hq := dMay_ok hz
      intro _
      rw [h0.kn.d.ok.see hq.1 hq.2.1]
    · rename_i hz
      intro h; exact absurd h hz
  obtain ⟨p1, hp1⟩ : ∃ p1, (pTake k p).2 = p1 := ⟨_, rfl⟩
  rw [hp1] at h1 h2 HT hx hbd1
  obtain ⟨E, hE⟩ : ∃ E, (dRead k.d 1 b).1 = E := ⟨_, rfl⟩
  obtain ⟨l, hL⟩ : ∃ l, (dRead k.d 1 b).2 = l := ⟨_, rfl⟩
  rw [hE] at h1 h2
  rw [hL] at h2
  rw [hE, hL] at hlen
  have HLEN := Lib.hid hlen
  clear hlen
  have H1 := Lib.hid h1
  have H2 := Lib.hid h2
  have HE := Lib.hid (And.intro hE hL)
  have HM := Lib.hid hm
  have HX := Lib.hid hx
  have hxi := hbd1.pi x (List.mem_of_getElem? hx)
  have hfi := And.intro hbd1.f0 hbd1.f1
  obtain ⟨x0, x1⟩ := hxi
  obtain ⟨y0, y1⟩ := hfi
  clear h1 h2 h0 hf ht hp1 hE hL hm hx e hbd hbd1
  go_enter Tryz.func24, Tryz.ntmps24
  go_upto_region 10 with (first | (go_at_call 75; (refine HF.out _ _ _ ((Kp.refl _ _).alloc _) ((Bk.new' _ _ _).cell 0) ?_; intro w2 k2)) | (go_at_call 77; (refine HT.out _ _ (((Kp.refl [] w).alloc _).trans k2) ?_; intro w3 q3 z3)))
  refine gen_worldK (fun W => ∃ cb, w.heap.size = cb ∧ Hid (KPl W B ka k pa p1 ∧ Bk W cb 3 [.int .i64 b] ∧ Pq B w W)) ⟨_, rfl, Lib.hid ⟨z3, q3.bk (((Bk.new' w 3 #[.int .i64 b]).cast rfl).kp k2 (by simp)) (by decide), ((Pq.of0 ((Kp.refl [] w).alloc _)).trans (Pq.of0 k2)).trans q3⟩⟩ ?_
  rintro W ⟨cb, hcb, hW⟩
  rw [hcb]
  have q0 := hW.out.2.1.cell 0
  have g0 : W.cell? ⟨pa.g, 0, none⟩ = some (.pointer (some ⟨ka.g, 0, none⟩)) := hW.out.1.pl.g.cell 0
  simp only [List.getElem?_cons_zero] at q0
  have q0a : ∀ o, (W.alloc o).cell? ⟨cb, 0, none⟩ = some (.int .i64 b) := fun o => (hW.out.2.1.alloc o).cell 0
  have g0a : ∀ o, (W.alloc o).cell? ⟨pa.g, 0, none⟩ = some (.pointer (some ⟨ka.g, 0, none⟩)) := fun o => (hW.out.1.pl.g.alloc o).cell 0
  have HC := kc6_any hW.out.1 HM.out hm2 b
  rw [HE.out.1, HE.out.2] at HC
  clear hcb k2 q3 z3 HF HT
  go_cut [11, 12] from 33 (fun bv ev W' => ∃ (ab : Nat) (ka' : KA) (A : Option Addr) (c : Nat), bv = .pointer (some ⟨ab, 0, none⟩) ∧ ev = .int .i64 E ∧ Hid (ka'.g = ka.g ∧ ka'.bT = ka.bT) ∧ Hid (Pq B w W' ∧ KPl W' B ka' k pa p1 ∧ Bk W' ab 39 [.int .i64 0, .slice A l.length c] ∧ Bk W' cb 3 [.int .i64 b] ∧ Tb W' 5 A (bts l)))
  case first =>
    go_region_law (first | (go_simp; go_at_call 9; ((refine HC.out _ _ (Kp.refl [] W).drew ?_); intro A len c w5 h5 l5 q5)) | (go_simp; go_at_call 9; ((refine HC.out _ _ ((Kp.refl [] W).alloc _).drew ?_); intro A len c w5 h5 l5 q5; have r5 := q5.out.bk (((Bk.new' W 39 #[.int .i64 0, .slice none 0 0]).cast rfl).drew) (by decide); obtain ⟨s0, s1, t0, t1⟩ := bk2t r5; have R5 := Lib.hid r5; clear r5)))
    all_goals
      go_wp2_with fail
      go_meet
      obtain ⟨ka', u1, u2, u3, u4⟩ := h5.out
      obtain ⟨rfl, u6⟩ := l5.out
      first
      | exact ⟨w5.heap.size, ka', A, c, rfl, rfl, Lib.hid ⟨u3, u4⟩, Lib.hid (by
          have kv := (Kp.refl [] w5).alloc (.cells #[.int .i64 0, .slice A l.length c] 39)
          exact ⟨hW.out.2.2.trans (u1.trans (Pq.of0 kv)), u2.off0 kv, (Bk.new' _ _ _).cast rfl, ((q5.out.bk hW.out.2.1.drew (by decide))).kp kv (by simp), u6.kp kv (Off.nil _ _)⟩)⟩
      | exact ⟨W.heap.size, ka', A, c, rfl, rfl, Lib.hid ⟨u3, u4⟩, Lib.hid (by
          obtain ⟨bb, kb⟩ := bk2set R5.out (.int .i64 0) (.slice A l.length c)
          have oA : ∀ e, 39 ≠ e → Off w5 [W.heap.size] e := fun e he => Off.one R5.out.ty he
          refine ⟨(hW.out.2.2.trans u1).thn kb hB0 (by intro s hs; have h8 := hW.out.2.2.size; simp at hs; omega), ⟨u2.kn.offA kb oA, u2.pl.off kb (oA _ (by decide)) (oA _ (by decide)), u2.gB, u2.lB⟩, bb, ?_, u6.kp kb (oA _ (by decide))⟩
          exact (q5.out.bk (hW.out.2.1.alloc _).drew (by decide)).off kb (oA _ (by decide)))⟩
  case rest =>
    obtain ⟨ab, ka', A, c, rfl, rfl, hka, hwc⟩ := hcut
    by_cases hE0 : E = 0
    · subst hE0
      have g3 : wc.cell? ⟨pa.g, 3, none⟩ = some (.int .i64 p1.fills) := hwc.out.2.1.pl.g.cell 3
      have f3 := hwc.out.2.1.pl.g.frozen 3
      clear q0 g0 q0a g0a HC
      go_upto_region 14 with (fail)
      refine gen_worldK (fun W2 => Hid (Pq B w W2 ∧ KPl W2 B ka' k pa { p1 with fills := p1.fills + 1 } ∧ Bk W2 ab 39 [.int .i64 0, .slice A l.length c] ∧ Bk W2 cb 3 [.int .i64 b] ∧ Tb W2 5 A (bts l))) (by
        obtain ⟨u1, u2, u3, u4, u5⟩ := hwc.out
        obtain ⟨z1, z2⟩ := u2.putG 3 (.int .i64 (p1.fills + 1)) (p' := { p1 with fills := p1.fills + 1 }) rfl u2.pl.hh rfl
        exact Lib.hid ⟨u1.trans z2, z1, z2.bk u3 (by decide), z2.bk u4 (by decide), z2.tb u5 (by decide)⟩) ?_
      intro W2 hW2
      clear g3 f3 hwc
      obtain ⟨_, s1, _, _⟩ := bk2t hW2.out.2.2.1
      have HX2 : Hid (({ p1 with fills := p1.fills + 1 } : PS).sl[i]? = some x) := HX
      have hAn : A = none → l.length = 0 ∧ c = 0 := by
        have hl256 := HLEN.out rfl
        rintro rfl
        obtain ⟨_, _, _, e9, _⟩ := hW2.out.2.2.2.2 (by intro e9; have h9 := bts_len l; rw [e9] at h9; simp at h9; omega)
        cases e9
      have HWr : Hid (∀ (R : Ending → World → Prop), (∀ ka2 w', Hid (Pq B w w' ∧ KPl w' B ka2 { k with fs := (tWrite k.fs 1 x.f 0 l).2 } pa { p1 with fills := p1.fills + 1 } ∧ Bk w' cb 3 [.int .i64 b]) → Hid (ka2.g = ka.g ∧ ka2.bT = ka.bT) → R (.returned (.tuple #[])) w') → Calls Tryz.prog 78 #[.pointer (some ⟨pa.g, 0, none⟩), .pointer (some ⟨pa.l, i * 7, none⟩), .slice A l.length c] W2 R) := Lib.hid (fun R h => by
        refine pwrite_any hW2.out.2.1 HM.out hm2 HX2.out hW2.out.2.2.2.2 rfl (by have := HLEN.out rfl; omega) hAn (fun ka2 w' q z e1 e2 => ?_)
        exact h ka2 w' (Lib.hid ⟨hW2.out.1.trans q.pq, z, q.bk hW2.out.2.2.2.1 (by decide)⟩) (Lib.hid ⟨e1.trans hka.out.1, e2.trans hka.out.2⟩))
      go_upto_region 15 with (go_at_call 78; ((refine HWr.out _ ?_); intro ka2 W3 h3 e3))
      obtain ⟨_, c1, c2, c3, c4, c5, c6⟩ := h3.out.2.1.pl.cells HX2.out
      have f9 := h3.out.2.1.pl.free
      have q9 := h3.out.2.2.cell 0
      simp only [List.getElem?_cons_zero] at q9
      go_region
      go_upto_region 16 with (fail)
      refine gen_worldK (fun W4 => Hid (Pq B w W4 ∧ KPl W4 B ka2 { k with fs := (tWrite k.fs 1 x.f 0 l).2 } pa { p1 with sl := p1.sl.set i ⟨x.f, 1, b, x.pi, n, re, im, x.ma⟩, fills := p1.fills + 1 })) (by
        obtain ⟨u1, u2, u3⟩ := h3.out
        have hi := (List.getElem?_eq_some_iff.1 HX2.out).1
        have at_ : ∀ y : PSl, (p1.sl.set i y)[i]? = some y := fun y => by simp [show i < p1.sl.length from hi]
        obtain ⟨f', kd', bl', pi', n', re', im', ma'⟩ := x
        obtain ⟨z1, v1⟩ := u2.put HX2.out (x' := ⟨f', 1, bl', pi', n', re', im', ma'⟩) (j := 1) (v := .int .i64 1) (by omega) rfl
        obtain ⟨z2, v2⟩ := z1.put (at_ _) (x' := ⟨f', 1, b, pi', n', re', im', ma'⟩) (j := 2) (v := .int .i64 b) (by omega) rfl
        simp only [List.set_set] at z2
        obtain ⟨z3, v3⟩ := z2.put (at_ _) (x' := ⟨f', 1, b, pi', n, re', im', ma'⟩) (j := 4) (v := .int .i64 n) (by omega) rfl
        simp only [List.set_set] at z3
        obtain ⟨z4, v4⟩ := z3.put (at_ _) (x' := ⟨f', 1, b, pi', n, re, im, ma'⟩) (j := 5) (v := .complex .f64 re im) (by omega) rfl
        simp only [List.set_set] at z4
        have kd := (Kp.refl [] ((((W3.setCell ⟨pa.l, i * 7 + 1, none⟩ (.int .i64 1)).setCell ⟨pa.l, i * 7 + 2, none⟩ (.int .i64 b)).setCell ⟨pa.l, i * 7 + 4, none⟩ (.int .i64 n)).setCell ⟨pa.l, i * 7 + 5, none⟩ (.complex .f64 re im))).drew
        exact Lib.hid ⟨((((u1.trans v1).trans v2).trans v3).trans v4).trans (Pq.of0 kd), z4.off0 kd⟩) ?_
      intro W4 hW4
      clear c1 c2 c3 c4 c5 c6 f9 q9 h3
      have hi4 : (p1.sl.set i ⟨x.f, 1, b, x.pi, n, re, im, x.ma⟩)[i]? = some ⟨x.f, 1, b, x.pi, n, re, im, x.ma⟩ := by
        have hi := (List.getElem?_eq_some_iff.1 HX2.out).1
        simp [show i < p1.sl.length from hi]
      have HX4 := Lib.hid hi4
      have C4 := hW4.out.2.pl.cells hi4
      have f4 := hW4.out.2.pl.free
      simp only at C4
      obtain ⟨c0, c1, c2, c3, c4, c5, c6⟩ := C4
      clear hi4
      go_wp2
      obtain ⟨z1, z2⟩ := hW4.out.2.pinned HX4.out
      simp only [List.set_set] at z1
      exact H2.out (by trivial) ka2 _ (hW4.out.1.trans z2) z1 e3.out.1 e3.out.2
    · go_wp2
      exact H1.out hE0 ka' _ hwc.out.1 hwc.out.2.1 hka.out.1 hka.out.2
end
end
/-! ### A pool's Get and Head, whole. -/
section
open Go.RowKit Go.Shelf
set_option linter.unusedVariables false
set_option linter.unusedSimpArgs false
set_option maxRecDepth 100000
/-- What Head tells and turns. -/
def HeadR (k : KS) (p : PS) (l : List UInt8) (f e : Int) (p' : PS) (k' : KS) : Prop :=
  (256 < l.length ∧ f = 0 ∧ e = 2 ∧ p' = p ∧ k' = k) ∨
  (l.length ≤ 256 ∧ (pTake k p).1 = none ∧ f = 0 ∧ e = 80 ∧ p' = (pTake k p).2 ∧ k' = k) ∨
  (l.length ≤ 256 ∧ ∃ i x, (pTake k p).1 = some i ∧ (pTake k p).2.sl[i]? = some x ∧ f = x.f ∧ e = 0 ∧
    p' = { (pTake k p).2 with sl := (pTake k p).2.sl.set i ⟨x.f, 2, x.bl, 1, l.length, (partN l l.length).1, (partN l l.length).2, x.ma⟩ } ∧ k' = { k with fs := (tWrite k.fs 1 x.f 0 l).2 })
section
variable {R : Ending → World → Prop} {w w' : World} {B m : Nat} {ka ka' : KA} {k k' : KS} {pa : PA} {p : PS}
theorem pget_any (h0 : KPl w B ka k pa p) (hbd : p.bd m) (hm : k.cnt m) (hm2 : m ≤ 10000) (b n : Int) (re im : Nat)
    (h : ∀ f e p' k' ka' w', Hid (GetR k p b n re im f e p' k') → Pq B w w' → KPl w' B ka' k' pa p' → ka'.g = ka.g → ka'.bT = ka.bT → R (.returned (.tuple #[.int .i64 f, .int .i64 e])) w') :
    Calls Tryz.prog 24 #[.pointer (some ⟨pa.g, 0, none⟩), .int .i64 b, .int .i64 n, .complex .f64 re im] w R := by
  by_cases hn : 0 ≤ n ∧ n ≤ 256
  · cases hf : p.sl.findIdx? (hasB b) with
    | some i =>
      obtain ⟨x, hx, _⟩ := idx_at hf
      exact pget_hit h0 hbd (by omega) b n re im hn.1 hn.2 hf hx (fun w' q z => h _ _ _ _ ka w' (Lib.hid (.inr (.inl ⟨hn, i, x, hf, hx, rfl, rfl, rfl, rfl⟩))) q z rfl rfl)
    | none =>
      cases ht : (pTake k p).1 with
      | none => exact pget_none h0 b n re im hn.1 hn.2 hf ht (fun w' q z => h _ _ _ _ ka w' (Lib.hid (.inr (.inr (.inl ⟨hn, hf, ht, rfl, rfl, rfl, rfl⟩)))) q z rfl rfl)
      | some i =>
        obtain ⟨x, hx⟩ := ptake_at k p h0.pl.hh ht
        exact pget_read h0 hbd hm hm2 b n re im hn.1 hn.2 hf ht hx
          (fun hE ka' w' q z e1 e2 => h _ _ _ _ ka' w' (Lib.hid (.inr (.inr (.inr ⟨hn, hf, i, x, ht, hx, .inl ⟨hE, rfl, rfl, rfl, rfl⟩⟩)))) q z e1 e2)
          (fun hE ka' w' q z e1 e2 => h _ _ _ _ ka' w' (Lib.hid (.inr (.inr (.inr ⟨hn, hf, i, x, ht, hx, .inr ⟨hE, rfl, rfl, rfl, rfl⟩⟩)))) q z e1 e2)
  · exact pget_bad h0 b n re im hn (fun w' k' => h _ _ _ _ ka w' (Lib.hid (.inl ⟨hn, rfl, rfl, rfl, rfl⟩)) (Pq.of0 k') (h0.off0 k') rfl rfl)
set_option maxHeartbeats 4000000 in
theorem phead_any (h0 : KPl w B ka k pa p) (hm : k.cnt m) (hm2 : m ≤ 10000) {A : Option Addr} {n c : Nat} {l : List UInt8} (hr : Tb w 5 A (bts l)) (hl : l.length = n) (hn : n ≤ 1000000) (hA : A = none → n = 0 ∧ c = 0)
    (h : ∀ f e p' k' ka' w', Hid (HeadR k p l f e p' k') → Pq B w w' → KPl w' B ka' k' pa p' → ka'.g = ka.g → ka'.bT = ka.bT → R (.returned (.tuple #[.int .i64 f, .int .i64 e])) w') :
    Calls Tryz.prog 27 #[.pointer (some ⟨pa.g, 0, none⟩), .slice A n c] w R := by
  have H := Lib.hid h
  by_cases h256 : 256 < n
  · clear h hr
    go_enter Tryz.func27, Tryz.ntmps27
    go_wp2
    exact H.out _ _ _ _ ka _ (Lib.hid (.inl ⟨by omega, rfl, rfl, rfl, rfl⟩)) (Pq.refl _ _) h0 rfl rfl
  · cases ht : (pTake k p).1 with
    | none =>
      have HT : Hid (∀ (R : Ending → World → Prop), (∀ w', Pq B w w' → KPl w' B ka k pa (pTake k p).2 → R (.returned (.pointer none)) w') → Calls Tryz.prog 77 #[.pointer (some ⟨pa.g, 0, none⟩)] w R) := Lib.hid (fun R h => ptake_any h0 (fun w' q z => by rw [ht]; exact h w' q z))
      have HR : Hid (HeadR k p l 0 80 (pTake k p).2 k) := Lib.hid (.inr (.inl ⟨by omega, ht, rfl, rfl, rfl, rfl⟩))
      clear h h0 hr ht
      go_enter Tryz.func27, Tryz.ntmps27
      go_wp2_with (go_at_call 77; (refine HT.out _ ?_; intro w3 q3 z3))
      exact H.out _ _ _ _ ka _ HR q3 z3 rfl rfl
    | some i =>
      obtain ⟨x, hx⟩ := ptake_at k p h0.pl.hh ht
      have HT : Hid (∀ (R : Ending → World → Prop), (∀ w', Pq B w w' → KPl w' B ka k pa (pTake k p).2 → R (.returned (.pointer (some ⟨pa.l, i * 7, none⟩))) w') → Calls Tryz.prog 77 #[.pointer (some ⟨pa.g, 0, none⟩)] w R) := Lib.hid (fun R h => ptake_any h0 (fun w' q z => by rw [ht]; exact h w' q z))
      obtain ⟨p1, hp1⟩ : ∃ p1, (pTake k p).2 = p1 := ⟨_, rfl⟩
      obtain ⟨P, hP⟩ : ∃ P, partN l n = P := ⟨_, rfl⟩
      have HR : Hid (HeadR k p l x.f 0 { p1 with sl := p1.sl.set i ⟨x.f, 2, x.bl, 1, n, P.1, P.2, x.ma⟩ } { k with fs := (tWrite k.fs 1 x.f 0 l).2 }) := Lib.hid (.inr (.inr ⟨by omega, i, x, ht, hx, rfl, rfl, by rw [hp1, hl, hP], rfl⟩))
      rw [hp1] at HT hx
      have HX := Lib.hid hx
      have HL := Lib.hid hl
      have HTb := Lib.hid hr
      have HM := Lib.hid hm
      have HPn := Lib.hid hP
      clear h h0 ht hx hr hp1 hm hl hP
      go_enter Tryz.func27, Tryz.ntmps27
      go_upto_region 8 with (go_at_call 77; (refine HT.out _ ?_; intro w3 q3 z3))
      refine gen_worldK (fun W => Hid (KPl W B ka k pa p1 ∧ Pq B w W)) (Lib.hid ⟨z3, q3⟩) ?_
      intro W hW
      have HWr : Hid (∀ (R : Ending → World → Prop), (∀ ka2 w', Hid (Pq B w w' ∧ KPl w' B ka2 { k with fs := (tWrite k.fs 1 x.f 0 l).2 } pa p1) → Hid (ka2.g = ka.g ∧ ka2.bT = ka.bT) → R (.returned (.tuple #[])) w') → Calls Tryz.prog 78 #[.pointer (some ⟨pa.g, 0, none⟩), .pointer (some ⟨pa.l, i * 7, none⟩), .slice A n c] W R) := Lib.hid (fun R h => by
        refine pwrite_any hW.out.1 HM.out hm2 HX.out (hW.out.2.tb HTb.out (by decide)) HL.out (by omega) hA (fun ka2 w' q z e1 e2 => ?_)
        exact h ka2 w' (Lib.hid ⟨hW.out.2.trans q.pq, z⟩) (Lib.hid ⟨e1, e2⟩))
      clear q3 z3 HT
      go_upto_region 9 with (go_at_call 78; ((refine HWr.out _ ?_); intro ka2 W3 h3 e3))
      obtain ⟨c0, c1, c2, c3, c4, c5, c6⟩ := h3.out.2.pl.cells HX.out
      have f9 := h3.out.2.pl.free
      clear HWr
      go_upto_region 10 with (fail)
      refine gen_worldK (fun W4 => Hid (Pq B w W4 ∧ KPl W4 B ka2 { k with fs := (tWrite k.fs 1 x.f 0 l).2 } pa { p1 with sl := p1.sl.set i ⟨x.f, 2, x.bl, 1, n, x.re, x.im, x.ma⟩ })) (by
        obtain ⟨u1, u2⟩ := h3.out
        have hi := (List.getElem?_eq_some_iff.1 HX.out).1
        have at_ : ∀ y : PSl, (p1.sl.set i y)[i]? = some y := fun y => by simp [show i < p1.sl.length from hi]
        obtain ⟨f', kd', bl', pi', n', re', im', ma'⟩ := x
        obtain ⟨z1, v1⟩ := u2.put HX.out (x' := ⟨f', 2, bl', pi', n', re', im', ma'⟩) (j := 1) (v := .int .i64 2) (by omega) rfl
        obtain ⟨z2, v2⟩ := z1.put (at_ _) (x' := ⟨f', 2, bl', pi', n, re', im', ma'⟩) (j := 4) (v := .int .i64 n) (by omega) rfl
        simp only [List.set_set] at z2
        obtain ⟨z3, v3⟩ := z2.put (at_ _) (x' := ⟨f', 2, bl', 1, n, re', im', ma'⟩) (j := 3) (v := .int .i64 1) (by omega) rfl
        simp only [List.set_set] at z3
        exact Lib.hid ⟨((u1.trans v1).trans v2).trans v3, z3⟩) ?_
      intro W4 hW4
      clear c0 c1 c2 c3 c4 c5 c6 f9 h3
      have hi4 : (p1.sl.set i ⟨x.f, 2, x.bl, 1, n, x.re, x.im, x.ma⟩)[i]? = some ⟨x.f, 2, x.bl, 1, n, x.re, x.im, x.ma⟩ := by
        have hi := (List.getElem?_eq_some_iff.1 HX.out).1
        simp [show i < p1.sl.length from hi]
      have HX4 := Lib.hid hi4
      clear hi4
      have HSp : Hid (∀ (R : Ending → World → Prop), (∀ w', Kp [] W4 w' → R (.returned (.tuple #[.complex .f64 P.1 P.2, .int .i64 0])) w') → Calls Tryz.prog 81 #[.slice A n c] W4 R) := Lib.hid (fun R h => by
        refine spart_any (hW4.out.1.tb HTb.out (by decide)).rd0 HL.out (by omega) (fun w' _ _ k' => ?_)
        rw [HPn.out]; exact h w' k')
      go_upto_region 11 with (go_at_call 81; ((refine HSp.out _ ?_); intro W5 k5; have hW5 := Lib.hid (hW4.out.2.off0 k5); obtain ⟨c0, c1, c2, c3, c4, c5, c6⟩ := hW5.out.pl.cells HX4.out; have f5 := hW5.out.pl.free))
      refine gen_worldK (fun W6 => Hid (Pq B w W6 ∧ KPl W6 B ka2 { k with fs := (tWrite k.fs 1 x.f 0 l).2 } pa { p1 with sl := p1.sl.set i ⟨x.f, 2, x.bl, 1, n, P.1, P.2, x.ma⟩ })) (by
        obtain ⟨z1, v1⟩ := hW5.out.put HX4.out (x' := ⟨x.f, 2, x.bl, 1, n, P.1, P.2, x.ma⟩) (j := 5) (v := .complex .f64 P.1 P.2) (by omega) rfl
        simp only [List.set_set] at z1
        exact Lib.hid ⟨(hW4.out.1.trans (Pq.of0 k5)).trans v1, z1⟩) ?_
      intro W6 hW6
      clear c0 c1 c2 c3 c4 c5 c6 f5 hW5 hW4 HSp
      have hi6 : (p1.sl.set i ⟨x.f, 2, x.bl, 1, n, P.1, P.2, x.ma⟩)[i]? = some ⟨x.f, 2, x.bl, 1, n, P.1, P.2, x.ma⟩ := by
        have hi := (List.getElem?_eq_some_iff.1 HX.out).1
        simp [show i < p1.sl.length from hi]
      have C6 := (hW6.out.2.pl.cells hi6).1
      simp only at C6
      clear hi6
      go_wp2
      exact H.out _ _ _ _ ka2 _ HR hW6.out.1 hW6.out.2 e3.out.1 e3.out.2
end
end
/-! ### A new pool of a new kernel's frames. -/
section
open Go.RowKit Go.Shelf
set_option linter.unusedVariables false
set_option linter.unusedSimpArgs false
set_option maxRecDepth 100000
/-- A call of plain numbers. -/
def numP (op env : Int) : Kc := ⟨op, env, 0, 0, 0, none, 0, 0, [], none, 0, 0, [], none, 0, 0, []⟩
theorem numP_ok (op env : Int) (w : World) : (numP op env).ok w := ⟨Tb.nil, rfl, by simp [numP], fun _ => ⟨rfl, rfl⟩, Tb.nil, rfl, by simp [numP], fun _ => ⟨rfl, rfl⟩, by simp [numP], Tb.nil, rfl, by simp [numP], fun _ => ⟨rfl, rfl⟩, by simp [numP]⟩
def f1 : Fr := { fz with ow := 1 }
/-- The first i frames are the first environment's. -/
def fsN (F i : Nat) : List Fr := List.replicate i f1 ++ List.replicate (F - i) fz
theorem tAlloc_fsN {F i : Nat} (h : i < F) : tAlloc (fsN F i) 1 = ((i : Int), 0, fsN F (i + 1)) := by
  have hs : F - i = (F - (i + 1)) + 1 := by omega
  have e0 : fsN F i = List.replicate i f1 ++ fz :: List.replicate (F - (i + 1)) fz := by unfold fsN; rw [hs, List.replicate_succ]
  have e1 : (fsN F i).findIdx? (fun x => x.ow == 0) = some i := by
    rw [List.findIdx?_eq_some_iff_getElem]
    refine ⟨by unfold fsN; simp; omega, ?_, ?_⟩
    · have h1 : (fsN F i)[i]? = some fz := by rw [e0, List.getElem?_append_right (by simp)]; simp
      rw [(List.getElem?_eq_some_iff.1 h1).2]; rfl
    · intro j hj
      have h1 : (fsN F i)[j]? = some f1 := by rw [e0, List.getElem?_append_left (by simpa using hj), List.getElem?_replicate, if_pos hj]
      rw [(List.getElem?_eq_some_iff.1 h1).2]; decide
  have e2 : (fsN F i)[i]? = some fz := by rw [e0, List.getElem?_append_right (by simp)]; simp
  unfold tAlloc
  rw [if_pos (by rfl), e1]
  simp only
  rw [e2]
  simp only [Prod.mk.injEq, true_and]
  rw [e0, List.set_append_right _ _ (by simp)]
  simp only [List.length_replicate, Nat.sub_self, List.set_cons_zero]
  unfold fsN
  rw [List.replicate_succ', List.append_assoc]
  rfl
def kzi (F N i : Nat) : KS := { kz0 F N with fs := fsN F i }
theorem kzi_cnt (F N i : Nat) : (kzi F N i).cnt 0 := ⟨by simp [kzi, kz0, dz], by simp [kzi, kz0], by simp [kzi, kz0], by simp [kzi, kz0], by simp [kzi, kz0], by simp [kzi, kz0], by simp [kzi, kz0], fun y hy => by
  simp only [kzi, fsN, List.mem_append] at hy
  rcases hy with hy | hy
  · rw [List.eq_of_mem_replicate hy]; simp [f1, fz]
  · rw [List.eq_of_mem_replicate hy]; simp [fz]⟩
theorem kzi_zero (F N : Nat) : kzi F N 0 = kz0 F N := by unfold kzi kz0 fsN; simp
def psN (i : Nat) : List PSl := (List.range i).map (fun (j : Nat) => PSl.e ((j : Nat) : Int))
theorem psN_succ (i : Nat) : psN (i + 1) = psN i ++ [PSl.e (i : Int)] := by unfold psN; rw [List.range_succ]; simp
theorem psN_len (i : Nat) : (psN i).length = i := by simp [psN]
theorem elt_sl : Elt Tryz.prog 165 169 (.agg #[.int .i64 0, .int .i64 0, .int .i64 0, .int .i64 0, .int .i64 0, .complex .f64 0 0, .bool false]) 7 64 := ⟨Tryz.underlying165, by kernel_rfl, rfl, by decide, by decide⟩
theorem slv_one (x : PSl) : ∀ u ∈ x.vals, u.oneCell' = true := by intro u hu; simp [PSl.vals] at hu; rcases hu with rfl | rfl | rfl | rfl | rfl | rfl | rfl <;> rfl
/-- A pool that is being made. -/
structure NPl (w w' : World) (B : Nat) (ka : KA) (k : KS) (pg j : Nat) (A : Option Addr) (c : Nat) : Prop where
  kn : Kn w' B ka k
  g : Bk w' pg 167 [.pointer (some ⟨ka.g, 0, none⟩), .slice A j c, .int .i64 0, .int .i64 0]
  l : Ow w' 169 7 A j c ((psN j).flatMap PSl.vals)
  q : Pq B w w'
  fr : ∀ b ∈ bks A, w.heap.size ≤ b
  gB : w.heap.size ≤ pg
section
variable {R : Ending → World → Prop} {w w1 w' : World} {B m F N pg j c : Nat} {ka ka' : KA} {k k' : KS} {A : Option Addr}
theorem NPl.off0 (h : NPl w w1 B ka k pg j A c) (hk : Kp [] w1 w') : NPl w w' B ka k pg j A c := ⟨h.kn.off0 hk, h.g.kp hk (by simp), h.l.kp hk (by simp), h.q.trans (Pq.of0 hk), h.fr, h.gB⟩
theorem NPl.kcall (h : NPl w w1 B ka k pg j A c) (q : Kq B w1 w') (n9 : Kn w' B ka' k' ∧ ka'.g = ka.g ∧ ka'.bT = ka.bT) : NPl w w' B ka' k' pg j A c := by
  refine ⟨n9.1, by rw [n9.2.1]; exact q.bk h.g (by decide), ?_, h.q.trans q.pq, h.fr, h.gB⟩
  have hty := h.l.ty
  refine ⟨h.l.1, ?_⟩
  rcases h.l.2 with hn | ⟨g, cap, cur, hv, hb, hg, rest⟩
  · exact .inl hn
  · refine .inr ⟨g, cap, cur, hv, hb, ?_, rest⟩
    injection hv with hA; subst hA
    have ht := hty g (by simp [bks])
    rw [q.block g (Array.getElem?_eq_some_iff.1 hg).1 (.inr ⟨_, by decide, ht⟩)]; exact hg
theorem NPl.app (h : NPl w w1 B ka k pg j A c) (hB : B ≤ w.heap.size) {o : Obj} {w5 : World} {A5 : Option Addr} {c5 : Nat} (hk5 : Kp (bks A) (w1.drew.alloc o) w5) (ho5 : Ow w5 169 7 A5 (j + 1) c5 ((psN j).flatMap PSl.vals ++ (PSl.e (j : Int)).vals)) (hA5 : A5 = A ∨ A5 = some ⟨(w1.drew.alloc o).heap.size, 0, none⟩) :
    NPl w (w5.setCell ⟨pg, 1, none⟩ (.slice A5 (j + 1 : Nat) c5)) B ka k pg (j + 1) A5 c5 := by
  have hV := h.off0 ((Kp.refl [] w1).drew.alloc o)
  have z := hV.q.size
  have bg5 := hV.g.off hk5 (Off.bks hV.l.ty (by decide))
  have k5 := hV.kn.offP hk5 (fun e e1 e2 => Off.bks hV.l.ty e1)
  have ks : Kp [pg] w5 (w5.setCell ⟨pg, 1, none⟩ (.slice A5 (j + 1 : Nat) c5)) := (Kp.refl _ _).setCell (p := ⟨pg, 1, none⟩) (.inl (by simp)) _
  have hgB := h.gB
  refine ⟨k5.offP ks (fun e e1 e2 => Off.one bg5.ty e2), (bg5.set_ 1 _).cast rfl, ?_, (hV.q.thn hk5 hB (fun s hs => hV.fr s hs)).thn ks hB (fun s hs => by simp at hs; omega), ?_, hgB⟩
  · rw [psN_succ, List.flatMap_append, List.flatMap_singleton]
    exact ho5.off ks (Off.one bg5.ty (by decide))
  · exact bks_app hA5 hV.fr z
/-- It is made. -/
theorem NPl.fin (h : NPl w w' B ka k pg j A c) (hj : 1 ≤ j) (hj2 : j ≤ 256) (hB : B ≤ w.heap.size) : ∃ pa : PA, pa.g = pg ∧ w.heap.size ≤ pa.l ∧ KPl w' B ka k pa ⟨psN j, 0, 0⟩ := by
  rcases h.l.2 with ⟨_, h0⟩ | ⟨g, cap, cur, hv, hb, hg, h1, h2, h3, h4⟩
  · omega
  · injection hv with hA hn hc
    subst hA
    have hfr := h.fr g (by simp [bks])
    have hgB := h.gB
    refine ⟨⟨pg, g, c⟩, rfl, hfr, ⟨h.kn, ⟨?_, ?_, by rw [psN_len]; exact hj, by rw [psN_len]; exact hj2⟩, by show B ≤ pg; omega, by show B ≤ g; omega⟩⟩
    · rw [psN_len]; exact h.g
    · refine ⟨cur.toList.drop (j * 7), ?_⟩
      have e : (psN j).flatMap PSl.vals ++ cur.toList.drop (j * 7) = cur.toList := by rw [← h4, List.take_append_drop]
      show Bk w' g _ ((psN j).flatMap PSl.vals ++ _)
      rw [e]
      unfold Bk
      rw [Array.toArray_toList]
      exact hg
set_option maxHeartbeats 4000000 in
theorem pnew_any (hK : Kn w B ka (kz0 F N)) (n : Nat) (hn1 : 1 ≤ n) (hnF : n ≤ F) (hn2 : n ≤ 256)
    (h : ∀ ka' pa w', Pq B w w' → KPl w' B ka' (kzi F N n) pa ⟨psN n, 0, 0⟩ → ka'.g = ka.g → ka'.bT = ka.bT → w.heap.size ≤ pa.g → w.heap.size ≤ pa.l → R (.returned (.tuple #[.pointer (some ⟨pa.g, 0, none⟩), .int .i64 0])) w') :
    Calls Tryz.prog 22 #[.pointer (some ⟨ka.g, 0, none⟩), .int .i64 n] w R := by
  have H := Lib.hid h
  have HK := Lib.hid hK
  have hB := hK.hB
  clear h hK
  go_enter Tryz.func22, Tryz.ntmps22
  go_upto_region 6 with (fail)
  refine gen_worldK (fun W => ∃ pg, w.heap.size = pg ∧ Hid (NPl w W B ka (kzi F N 0) pg 0 none 0)) ⟨_, rfl, Lib.hid ⟨by rw [kzi_zero]; exact HK.out.off0 ((Kp.refl _ _).alloc _), (Bk.new' _ _ _).cast rfl, Ow.nil, Pq.of0 ((Kp.refl _ _).alloc _), by simp [bks], Nat.le_refl _⟩⟩ ?_
  rintro W ⟨pg, hpg, hW⟩
  rw [hpg]
  clear HK hpg
  go_wp2
  go_loopw [7, 8, 25] (fun _ _ iv wr => ∃ (j : Nat) (ka' : KA) (A : Option Addr) (c : Nat), j ≤ n ∧ iv = .int .i64 j ∧ Hid (ka'.g = ka.g ∧ ka'.bT = ka.bT) ∧ Hid (NPl w wr B ka' (kzi F N j) pg j A c)) (fun _ _ iv _ => n - (intOf iv).toNat)
  case atStart => exact ⟨0, ka, none, 0, Nat.zero_le _, rfl, Lib.hid ⟨rfl, rfl⟩, hW⟩
  case round =>
    obtain ⟨j, ka1, A, c, hj, rfl, hka, hw⟩ := hrel
    by_cases hlt : j < n
    · have HC : Hid (∀ (R : Ending → World → Prop), (∀ A4 c4 w' ka2, Hid (ka2.g = ka.g ∧ ka2.bT = ka.bT) → Hid (NPl w w' B ka2 (kzi F N (j + 1)) pg j A c) → R (.returned (.tuple #[.agg #[.int .i64 j, .slice A4 0 c4], .int .i64 0])) w') → Calls Tryz.prog 9 #[.pointer (some ⟨ka.g, 0, none⟩), .agg #[.int .i64 1, .int .i64 1, .int .i64 0, .int .i64 0, .int .i64 0, .slice none 0 0, .slice none 0 0, .slice none 0 0]] wr R) := Lib.hid (fun R h => by
        rw [← hka.out.1]
        refine kcall_any (x := numP 1 1) hw.out.kn (kzi_cnt F N j) (by omega) (numP_ok _ _ _) (fun nn AA len c2 l' e k' a' w2 hst q n9 hl ht => ?_)
        have h1 := hst.out
        unfold kStep at h1
        rw [if_neg (by simp [numP]), if_pos (by simp [numP])] at h1
        have h2 : kFB (kzi F N j) (numP 1 1) = ⟨(j : Int), [], 0, kzi F N (j + 1)⟩ := by
          unfold kFB
          rw [if_pos (show (numP 1 1).op = 1 from rfl)]
          show KR.mk (tAlloc (fsN F j) 1).1 [] (tAlloc (fsN F j) 1).2.1 { kzi F N j with fs := (tAlloc (fsN F j) 1).2.2 } = _
          rw [tAlloc_fsN (by omega)]; rfl
        rw [h2] at h1
        injection h1 with e1 e2 e3 e4
        subst e1; subst e2; subst e3; subst e4
        subst hl
        exact h AA c2 w2 a' (Lib.hid ⟨n9.2.1.trans hka.out.1, n9.2.2.trans hka.out.2⟩) (Lib.hid (hw.out.kcall q n9)))
      clear hW
      go_upto_region 16 with (go_at_call 9; (refine HC.out _ ?_; intro A4 c4 w4 ka4 hka4 h4))
      refine gen_worldK (fun W2 => ∃ ab, w4.heap.size = ab ∧ Hid (NPl w W2 B ka4 (kzi F N (j + 1)) pg j A c ∧ Bk W2 ab 39 [.int .i64 j, .slice A4 0 c4])) ⟨_, rfl, Lib.hid ⟨h4.out.off0 ((Kp.refl _ _).alloc _), (Bk.new' _ _ _).cast rfl⟩⟩ ?_
      rintro W2 ⟨ab, hab, hW2⟩
      rw [hab]
      have q1 : W2.cell? ⟨pg, 1, none⟩ = some (.slice A j c) := hW2.out.1.g.cell 1
      have q1a : ∀ o, (W2.alloc o).cell? ⟨pg, 1, none⟩ = some (.slice A j c) := fun o => (hW2.out.1.g.alloc o).cell 1
      have s0 : W2.cell? ⟨ab, 0, none⟩ = some (.int .i64 j) := hW2.out.2.cell 0
      have s0a : ∀ o, (W2.alloc o).cell? ⟨ab, 0, none⟩ = some (.int .i64 j) := fun o => (hW2.out.2.alloc o).cell 0
      clear HC h4 hab hw
      go_region_law (refine step_app rfl (.tmp 55) (.tmp 59) _ rfl elt_sl A j c _ (by simp [Act.eval, Act.put]) (hW2.out.1.l.drew.alloc _) [] (some ⟨W2.heap.size, 0, none⟩) 1 1 (PSl.e j).vals (by simp [Act.eval, Act.put]) (Rd.of_bk ((Bk.newAt rfl _ _).cast rfl) (by simp)) rfl (slv_one _) (by omega) ?_; intro A5 c5 w5 ho5 hk5 hA5; have bg5 := (hW2.out.1.g.drew.alloc (.cells #[.int .i64 j, .int .i64 0, .int .i64 0, .int .i64 0, .int .i64 0, .complex .f64 0 0, .bool false] 169)).off hk5 (Off.bks (hW2.out.1.l.drew.alloc _).ty (by decide)); have e5 : w5.cell? ⟨pg, 1, none⟩ = some (.slice A j c) := bg5.cell 1; have f5 := bg5.frozen 1; have BG5 := Lib.hid bg5; clear bg5)
      all_goals
        go_wp2
        exact ⟨⟨j + 1, ka4, A5, c5, by omega, by go_num, hka4, Lib.hid (hW2.out.1.app hB hk5 ho5 hA5)⟩, by simp [intOf]; omega⟩
    · obtain rfl : j = n := by omega
      obtain ⟨pa, e1, e2, z⟩ := hw.out.fin hn1 hn2 hB
      have hgB := hw.out.gB
      subst e1
      go_wp2
      exact H.out ka1 pa _ hw.out.q z hka.out.1 hka.out.2 hgB e2
end
end
end Go.Proofs.YtedblbpmlbjnhaaGreat
