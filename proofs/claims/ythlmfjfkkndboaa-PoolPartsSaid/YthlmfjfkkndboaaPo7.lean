/- A pool gets a block that it reads. -/
import Derived.Test.YthlmfjfkkndboaaPo6
namespace Go.Proofs.Ythlmfjfkkndboaa
open Go.RowKit Go.Shelf
set_option linter.unusedVariables false
set_option linter.unusedSimpArgs false
set_option maxRecDepth 100000
section
variable {R : Ending → World → Prop} {w w' : World} {B m : Nat} {ka ka' : KA} {k k' : KS} {pa : PA} {p : PS}
/-- The kernel's reading of a block. -/
theorem kc6_any (h0 : KPl w B ka k pa p) (hm : k.cnt m) (hm2 : m ≤ 10000) (b : Int) : Hid (∀ (R : Ending → World → Prop) (w1 : World), Kp [] w w1 → (∀ A len c w', Hid (∃ ka', Pq B w w' ∧ KPl w' B ka' k pa p ∧ ka'.g = ka.g ∧ ka'.bT = ka.bT) → Hid ((dRead k.d 1 b).2.length = len ∧ Tb w' 5 A (bts (dRead k.d 1 b).2)) → Hid (Kq B w1 w') → R (.returned (.tuple #[.agg #[.int .i64 0, .slice A len c], .int .i64 (dRead k.d 1 b).1])) w') →
    Calls Try.prog 35 #[.pointer (some ⟨ka.g, 0, none⟩), .agg #[.int .i64 6, .int .i64 1, .int .i64 b, .int .i64 0, .int .i64 0, .slice none 0 0, .slice none 0 0, .slice none 0 0]] w1 R) := Lib.hid (fun R w1 k1 h => by
  refine kcall_any (x := ⟨6, 1, b, 0, 0, none, 0, 0, [], none, 0, 0, [], none, 0, 0, []⟩) (h0.kn.off0 k1) hm hm2 ⟨Tb.nil, rfl, by show 0 ≤ _; omega, fun _ => ⟨rfl, rfl⟩, Tb.nil, rfl, by show 0 ≤ _; omega, fun _ => ⟨rfl, rfl⟩, by simp, Tb.nil, rfl, by show 0 ≤ _; omega, fun _ => ⟨rfl, rfl⟩, by simp⟩ (fun nn AA len c2 l' e k' a' w2 hst q n9 hl ht => ?_)
  have h1 := hst.out
  unfold kStep at h1
  rw [if_neg (by simp), if_pos (by simp)] at h1
  unfold kFB at h1
  rw [if_neg (by simp), if_neg (by simp), if_neg (by simp), if_neg (by simp), if_neg (by simp), if_pos rfl] at h1
  injection h1 with e1 e2 e3 e4
  subst e1; subst e2; subst e3; subst e4
  exact h AA len c2 w2 (Lib.hid ⟨a', (Pq.of0 k1).trans q.pq, (h0.off0 k1).kcall q n9, n9.2.1, n9.2.2⟩) (Lib.hid ⟨hl, ht⟩) (Lib.hid q))
theorem Pq.thn {w1 w2 : World} {S : List Nat} (h : Pq B w w1) (k : Kp S w1 w2) (hB : B ≤ w.heap.size) (hs : ∀ s ∈ S, w.heap.size ≤ s) : Pq B w w2 :=
  ⟨k.os.trans h.os, k.tape.trans h.tape, k.output.trans h.output, Nat.le_trans h.size k.size, fun b hb hc => (k.block b (Nat.lt_of_lt_of_le hb h.size) (fun hm => by have := hs b hm; omega)).trans (h.block b hb hc)⟩
theorem pTake_bd {k : KS} {p : PS} (h : p.bd m) : (pTake k p).2.bd m := by
  have key : ∀ (n : Nat) (p : PS), p.bd m → (pRnd k n p).2.bd m := by
    intro n
    induction n with
    | zero => intro p h; exact h
    | succ n ih =>
      intro p h
      unfold pRnd
      cases hx : p.sl[p.hand]? with
      | none => exact h
      | some x =>
        have hm := h.pi x (List.mem_of_getElem? hx)
        simp only
        split
        · refine ⟨fun y hy => ?_, h.f0, h.f1⟩
          rcases mem_set hy with rfl | hy
          · exact ⟨by simp [PSl.e], by simp [PSl.e]⟩
          · exact h.pi y hy
        · refine ih _ ⟨fun y hy => ?_, h.f0, h.f1⟩
          rcases mem_set hy with rfl | hy
          · exact hm
          · exact h.pi y hy
  unfold pTake
  split
  · exact h
  · exact key _ _ h
set_option maxHeartbeats 4000000 in
theorem pget_read (h0 : KPl w B ka k pa p) (hbd : p.bd m) (hm : k.cnt m) (hm2 : m ≤ 10000) (b n : Int) (re im : Nat) (hn0 : 0 ≤ n) (hn1 : n ≤ 256) (hf : p.sl.findIdx? (hasB b) = none) {i : Nat} {x : PSl} (ht : (pTake k p).1 = some i) (hx : (pTake k p).2.sl[i]? = some x)
    (h1 : (dRead k.d 1 b).1 ≠ 0 → ∀ ka' w', Pq B w w' → KPl w' B ka' k pa (pTake k p).2 → ka'.g = ka.g → ka'.bT = ka.bT → R (.returned (.tuple #[.int .i64 0, .int .i64 (dRead k.d 1 b).1])) w')
    (h2 : (dRead k.d 1 b).1 = 0 → ∀ ka' w', Pq B w w' → KPl w' B ka' { k with fs := (tWrite k.fs 1 x.f 0 (dRead k.d 1 b).2).2 } pa { (pTake k p).2 with sl := (pTake k p).2.sl.set i ⟨x.f, 1, b, x.pi + 1, n, re, im, true⟩, fills := (pTake k p).2.fills + 1 } → ka'.g = ka.g → ka'.bT = ka.bT → R (.returned (.tuple #[.int .i64 x.f, .int .i64 0])) w') :
    Calls Try.prog 32 #[.pointer (some ⟨pa.g, 0, none⟩), .int .i64 b, .int .i64 n, .complex .f64 re im] w R := by
  have HF := pgf_any h0 b
  have e : pfind p pa.l (hasB b) = none := by unfold pfind; rw [hf]
  rw [e] at HF
  have HT : Hid (∀ (R : Ending → World → Prop) (w1 : World), Kp [] w w1 → (∀ w', Pq B w1 w' → KPl w' B ka k pa (pTake k p).2 → R (.returned (.pointer (some ⟨pa.l, i * 7, none⟩))) w') → Calls Try.prog 69 #[.pointer (some ⟨pa.g, 0, none⟩)] w1 R) := Lib.hid (fun R w1 k1 h => ptake_any (h0.off0 k1) (fun w' q z => by rw [ht]; exact h w' q z))
  have hB0 := h0.kn.hB
  have hbd1 : (pTake k p).2.bd m := pTake_bd hbd
  have hlen : (dRead k.d 1 b).1 = 0 → (dRead k.d 1 b).2.length = 256 := by
    unfold dRead
    split
    · rename_i hz
      have hq := dMay_ok hz
      intro _
      rw [h0.kn.d.ok.see hq.1 hq.2.1]
    · rename_i hz
      intro h; exact absurd h hz
  obtain ⟨p1, hp1⟩ : ∃ p1, (pTake k p).2 = p1 := ⟨_, rfl⟩
  rw [hp1] at h1 h2 HT hx hbd1
  obtain ⟨E, hE⟩ : ∃ E, (dRead k.d 1 b).1 = E := ⟨_, rfl⟩
  obtain ⟨l, hL⟩ : ∃ l, (dRead k.d 1 b).2 = l := ⟨_, rfl⟩
  rw [hE] at h1 h2
  rw [hL] at h2
  rw [hE, hL] at hlen
  have HLEN := Lib.hid hlen
  clear hlen
  have H1 := Lib.hid h1
  have H2 := Lib.hid h2
  have HE := Lib.hid (And.intro hE hL)
  have HM := Lib.hid hm
  have HX := Lib.hid hx
  have hxi := hbd1.pi x (List.mem_of_getElem? hx)
  have hfi := And.intro hbd1.f0 hbd1.f1
  obtain ⟨x0, x1⟩ := hxi
  obtain ⟨y0, y1⟩ := hfi
  clear h1 h2 h0 hf ht hp1 hE hL hm hx e hbd hbd1
  go_enter Try.func32, Try.ntmps32
  go_upto_region 10 with (first | (go_at_call 72; (refine HF.out _ _ _ ((Kp.refl _ _).alloc _) ((Bk.new' _ _ _).cell 0) ?_; intro w2 k2)) | (go_at_call 69; (refine HT.out _ _ (((Kp.refl [] w).alloc _).trans k2) ?_; intro w3 q3 z3)))
  refine gen_worldK (fun W => ∃ cb, w.heap.size = cb ∧ Hid (KPl W B ka k pa p1 ∧ Bk W cb 3 [.int .i64 b] ∧ Pq B w W)) ⟨_, rfl, Lib.hid ⟨z3, q3.bk (((Bk.new' w 3 #[.int .i64 b]).cast rfl).kp k2 (by simp)) (by decide), ((Pq.of0 ((Kp.refl [] w).alloc _)).trans (Pq.of0 k2)).trans q3⟩⟩ ?_
  rintro W ⟨cb, hcb, hW⟩
  rw [hcb]
  have q0 := hW.out.2.1.cell 0
  have g0 : W.cell? ⟨pa.g, 0, none⟩ = some (.pointer (some ⟨ka.g, 0, none⟩)) := hW.out.1.pl.g.cell 0
  simp only [List.getElem?_cons_zero] at q0
  have q0a : ∀ o, (W.alloc o).cell? ⟨cb, 0, none⟩ = some (.int .i64 b) := fun o => (hW.out.2.1.alloc o).cell 0
  have g0a : ∀ o, (W.alloc o).cell? ⟨pa.g, 0, none⟩ = some (.pointer (some ⟨ka.g, 0, none⟩)) := fun o => (hW.out.1.pl.g.alloc o).cell 0
  have HC := kc6_any hW.out.1 HM.out hm2 b
  rw [HE.out.1, HE.out.2] at HC
  clear hcb k2 q3 z3 HF HT
  go_cut [11, 12] from 33 (fun bv ev W' => ∃ (ab : Nat) (ka' : KA) (A : Option Addr) (c : Nat), bv = .pointer (some ⟨ab, 0, none⟩) ∧ ev = .int .i64 E ∧ Hid (ka'.g = ka.g ∧ ka'.bT = ka.bT) ∧ Hid (Pq B w W' ∧ KPl W' B ka' k pa p1 ∧ Bk W' ab 73 [.int .i64 0, .slice A l.length c] ∧ Bk W' cb 3 [.int .i64 b] ∧ Tb W' 5 A (bts l)))
  case first =>
    go_region_law (first | (go_simp; go_at_call 35; ((refine HC.out _ _ (Kp.refl [] W).drew ?_); intro A len c w5 h5 l5 q5)) | (go_simp; go_at_call 35; ((refine HC.out _ _ ((Kp.refl [] W).alloc _).drew ?_); intro A len c w5 h5 l5 q5; have r5 := q5.out.bk (((Bk.new' W 73 #[.int .i64 0, .slice none 0 0]).cast rfl).drew) (by decide); obtain ⟨s0, s1, t0, t1⟩ := bk2t r5; have R5 := Lib.hid r5; clear r5)))
    all_goals
      go_wp2_with fail
      go_meet
      obtain ⟨ka', u1, u2, u3, u4⟩ := h5.out
      obtain ⟨rfl, u6⟩ := l5.out
      first
      | exact ⟨w5.heap.size, ka', A, c, rfl, rfl, Lib.hid ⟨u3, u4⟩, Lib.hid (by
          have kv := (Kp.refl [] w5).alloc (.cells #[.int .i64 0, .slice A l.length c] 73)
          exact ⟨hW.out.2.2.trans (u1.trans (Pq.of0 kv)), u2.off0 kv, (Bk.new' _ _ _).cast rfl, ((q5.out.bk hW.out.2.1.drew (by decide))).kp kv (by simp), u6.kp kv (Off.nil _ _)⟩)⟩
      | exact ⟨W.heap.size, ka', A, c, rfl, rfl, Lib.hid ⟨u3, u4⟩, Lib.hid (by
          obtain ⟨bb, kb⟩ := bk2set R5.out (.int .i64 0) (.slice A l.length c)
          have oA : ∀ e, 73 ≠ e → Off w5 [W.heap.size] e := fun e he => Off.one R5.out.ty he
          refine ⟨(hW.out.2.2.trans u1).thn kb hB0 (by intro s hs; have h8 := hW.out.2.2.size; simp at hs; omega), ⟨u2.kn.offA kb oA, u2.pl.off kb (oA _ (by decide)) (oA _ (by decide)), u2.gB, u2.lB⟩, bb, ?_, u6.kp kb (oA _ (by decide))⟩
          exact (q5.out.bk (hW.out.2.1.alloc _).drew (by decide)).off kb (oA _ (by decide)))⟩
  case rest =>
    obtain ⟨ab, ka', A, c, rfl, rfl, hka, hwc⟩ := hcut
    by_cases hE0 : E = 0
    · subst hE0
      have g3 : wc.cell? ⟨pa.g, 3, none⟩ = some (.int .i64 p1.fills) := hwc.out.2.1.pl.g.cell 3
      have f3 := hwc.out.2.1.pl.g.frozen 3
      clear q0 g0 q0a g0a HC
      go_upto_region 14 with (fail)
      refine gen_worldK (fun W2 => Hid (Pq B w W2 ∧ KPl W2 B ka' k pa { p1 with fills := p1.fills + 1 } ∧ Bk W2 ab 73 [.int .i64 0, .slice A l.length c] ∧ Bk W2 cb 3 [.int .i64 b] ∧ Tb W2 5 A (bts l))) (by
        obtain ⟨u1, u2, u3, u4, u5⟩ := hwc.out
        obtain ⟨z1, z2⟩ := u2.putG 3 (.int .i64 (p1.fills + 1)) (p' := { p1 with fills := p1.fills + 1 }) rfl u2.pl.hh rfl
        exact Lib.hid ⟨u1.trans z2, z1, z2.bk u3 (by decide), z2.bk u4 (by decide), z2.tb u5 (by decide)⟩) ?_
      intro W2 hW2
      clear g3 f3 hwc
      obtain ⟨_, s1, _, _⟩ := bk2t hW2.out.2.2.1
      have HX2 : Hid (({ p1 with fills := p1.fills + 1 } : PS).sl[i]? = some x) := HX
      have hAn : A = none → l.length = 0 ∧ c = 0 := by
        have hl256 := HLEN.out rfl
        rintro rfl
        obtain ⟨_, _, _, e9, _⟩ := hW2.out.2.2.2.2 (by intro e9; have h9 := bts_len l; rw [e9] at h9; simp at h9; omega)
        cases e9
      have HWr : Hid (∀ (R : Ending → World → Prop), (∀ ka2 w', Hid (Pq B w w' ∧ KPl w' B ka2 { k with fs := (tWrite k.fs 1 x.f 0 l).2 } pa { p1 with fills := p1.fills + 1 } ∧ Bk w' cb 3 [.int .i64 b]) → Hid (ka2.g = ka.g ∧ ka2.bT = ka.bT) → R (.returned (.tuple #[])) w') → Calls Try.prog 70 #[.pointer (some ⟨pa.g, 0, none⟩), .pointer (some ⟨pa.l, i * 7, none⟩), .slice A l.length c] W2 R) := Lib.hid (fun R h => by
        refine pwrite_any hW2.out.2.1 HM.out hm2 HX2.out hW2.out.2.2.2.2 rfl (by have := HLEN.out rfl; omega) hAn (fun ka2 w' q z e1 e2 => ?_)
        exact h ka2 w' (Lib.hid ⟨hW2.out.1.trans q.pq, z, q.bk hW2.out.2.2.2.1 (by decide)⟩) (Lib.hid ⟨e1.trans hka.out.1, e2.trans hka.out.2⟩))
      go_upto_region 15 with (go_at_call 70; ((refine HWr.out _ ?_); intro ka2 W3 h3 e3))
      obtain ⟨_, c1, c2, c3, c4, c5, c6⟩ := h3.out.2.1.pl.cells HX2.out
      have f9 := h3.out.2.1.pl.free
      have q9 := h3.out.2.2.cell 0
      simp only [List.getElem?_cons_zero] at q9
      go_region
      go_upto_region 16 with (fail)
      refine gen_worldK (fun W4 => Hid (Pq B w W4 ∧ KPl W4 B ka2 { k with fs := (tWrite k.fs 1 x.f 0 l).2 } pa { p1 with sl := p1.sl.set i ⟨x.f, 1, b, x.pi, n, re, im, x.ma⟩, fills := p1.fills + 1 })) (by
        obtain ⟨u1, u2, u3⟩ := h3.out
        have hi := (List.getElem?_eq_some_iff.1 HX2.out).1
        have at_ : ∀ y : PSl, (p1.sl.set i y)[i]? = some y := fun y => by simp [show i < p1.sl.length from hi]
        obtain ⟨f', kd', bl', pi', n', re', im', ma'⟩ := x
        obtain ⟨z1, v1⟩ := u2.put HX2.out (x' := ⟨f', 1, bl', pi', n', re', im', ma'⟩) (j := 1) (v := .int .i64 1) (by omega) rfl
        obtain ⟨z2, v2⟩ := z1.put (at_ _) (x' := ⟨f', 1, b, pi', n', re', im', ma'⟩) (j := 2) (v := .int .i64 b) (by omega) rfl
        simp only [List.set_set] at z2
        obtain ⟨z3, v3⟩ := z2.put (at_ _) (x' := ⟨f', 1, b, pi', n, re', im', ma'⟩) (j := 4) (v := .int .i64 n) (by omega) rfl
        simp only [List.set_set] at z3
        obtain ⟨z4, v4⟩ := z3.put (at_ _) (x' := ⟨f', 1, b, pi', n, re, im, ma'⟩) (j := 5) (v := .complex .f64 re im) (by omega) rfl
        simp only [List.set_set] at z4
        have kd := (Kp.refl [] ((((W3.setCell ⟨pa.l, i * 7 + 1, none⟩ (.int .i64 1)).setCell ⟨pa.l, i * 7 + 2, none⟩ (.int .i64 b)).setCell ⟨pa.l, i * 7 + 4, none⟩ (.int .i64 n)).setCell ⟨pa.l, i * 7 + 5, none⟩ (.complex .f64 re im))).drew
        exact Lib.hid ⟨((((u1.trans v1).trans v2).trans v3).trans v4).trans (Pq.of0 kd), z4.off0 kd⟩) ?_
      intro W4 hW4
      clear c1 c2 c3 c4 c5 c6 f9 q9 h3
      have hi4 : (p1.sl.set i ⟨x.f, 1, b, x.pi, n, re, im, x.ma⟩)[i]? = some ⟨x.f, 1, b, x.pi, n, re, im, x.ma⟩ := by
        have hi := (List.getElem?_eq_some_iff.1 HX2.out).1
        simp [show i < p1.sl.length from hi]
      have HX4 := Lib.hid hi4
      have C4 := hW4.out.2.pl.cells hi4
      have f4 := hW4.out.2.pl.free
      simp only at C4
      obtain ⟨c0, c1, c2, c3, c4, c5, c6⟩ := C4
      clear hi4
      go_wp2
      obtain ⟨z1, z2⟩ := hW4.out.2.pinned HX4.out
      simp only [List.set_set] at z1
      exact H2.out (by trivial) ka2 _ (hW4.out.1.trans z2) z1 e3.out.1 e3.out.2
    · go_wp2
      exact H1.out hE0 ka' _ hwc.out.1 hwc.out.2.1 hka.out.1 hka.out.2
end
end Go.Proofs.Ythlmfjfkkndboaa
