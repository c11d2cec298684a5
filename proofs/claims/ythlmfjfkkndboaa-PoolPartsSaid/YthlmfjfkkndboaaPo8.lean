/- A pool's Get and Head, whole. -/
import Derived.Test.YthlmfjfkkndboaaPo7
namespace Go.Proofs.Ythlmfjfkkndboaa
open Go.RowKit Go.Shelf
set_option linter.unusedVariables false
set_option linter.unusedSimpArgs false
set_option maxRecDepth 100000
/-- What Head tells and turns. -/
def HeadR (k : KS) (p : PS) (l : List UInt8) (f e : Int) (p' : PS) (k' : KS) : Prop :=
  (256 < l.length ∧ f = 0 ∧ e = 2 ∧ p' = p ∧ k' = k) ∨
  (l.length ≤ 256 ∧ (pTake k p).1 = none ∧ f = 0 ∧ e = 80 ∧ p' = (pTake k p).2 ∧ k' = k) ∨
  (l.length ≤ 256 ∧ ∃ i x, (pTake k p).1 = some i ∧ (pTake k p).2.sl[i]? = some x ∧ f = x.f ∧ e = 0 ∧
    p' = { (pTake k p).2 with sl := (pTake k p).2.sl.set i ⟨x.f, 2, x.bl, 1, l.length, (partN l l.length).1, (partN l l.length).2, x.ma⟩ } ∧ k' = { k with fs := (tWrite k.fs 1 x.f 0 l).2 })
section
variable {R : Ending → World → Prop} {w w' : World} {B m : Nat} {ka ka' : KA} {k k' : KS} {pa : PA} {p : PS}
theorem pget_any (h0 : KPl w B ka k pa p) (hbd : p.bd m) (hm : k.cnt m) (hm2 : m ≤ 10000) (b n : Int) (re im : Nat)
    (h : ∀ f e p' k' ka' w', Hid (GetR k p b n re im f e p' k') → Pq B w w' → KPl w' B ka' k' pa p' → ka'.g = ka.g → ka'.bT = ka.bT → R (.returned (.tuple #[.int .i64 f, .int .i64 e])) w') :
    Calls Try.prog 32 #[.pointer (some ⟨pa.g, 0, none⟩), .int .i64 b, .int .i64 n, .complex .f64 re im] w R := by
  by_cases hn : 0 ≤ n ∧ n ≤ 256
  · cases hf : p.sl.findIdx? (hasB b) with
    | some i =>
      obtain ⟨x, hx, _⟩ := idx_at hf
      exact pget_hit h0 hbd (by omega) b n re im hn.1 hn.2 hf hx (fun w' q z => h _ _ _ _ ka w' (Lib.hid (.inr (.inl ⟨hn, i, x, hf, hx, rfl, rfl, rfl, rfl⟩))) q z rfl rfl)
    | none =>
      cases ht : (pTake k p).1 with
      | none => exact pget_none h0 b n re im hn.1 hn.2 hf ht (fun w' q z => h _ _ _ _ ka w' (Lib.hid (.inr (.inr (.inl ⟨hn, hf, ht, rfl, rfl, rfl, rfl⟩)))) q z rfl rfl)
      | some i =>
        obtain ⟨x, hx⟩ := ptake_at k p h0.pl.hh ht
        exact pget_read h0 hbd hm hm2 b n re im hn.1 hn.2 hf ht hx
          (fun hE ka' w' q z e1 e2 => h _ _ _ _ ka' w' (Lib.hid (.inr (.inr (.inr ⟨hn, hf, i, x, ht, hx, .inl ⟨hE, rfl, rfl, rfl, rfl⟩⟩)))) q z e1 e2)
          (fun hE ka' w' q z e1 e2 => h _ _ _ _ ka' w' (Lib.hid (.inr (.inr (.inr ⟨hn, hf, i, x, ht, hx, .inr ⟨hE, rfl, rfl, rfl, rfl⟩⟩)))) q z e1 e2)
  · exact pget_bad h0 b n re im hn (fun w' k' => h _ _ _ _ ka w' (Lib.hid (.inl ⟨hn, rfl, rfl, rfl, rfl⟩)) (Pq.of0 k') (h0.off0 k') rfl rfl)
set_option maxHeartbeats 4000000 in
theorem phead_any (h0 : KPl w B ka k pa p) (hm : k.cnt m) (hm2 : m ≤ 10000) {A : Option Addr} {n c : Nat} {l : List UInt8} (hr : Tb w 5 A (bts l)) (hl : l.length = n) (hn : n ≤ 1000000) (hA : A = none → n = 0 ∧ c = 0)
    (h : ∀ f e p' k' ka' w', Hid (HeadR k p l f e p' k') → Pq B w w' → KPl w' B ka' k' pa p' → ka'.g = ka.g → ka'.bT = ka.bT → R (.returned (.tuple #[.int .i64 f, .int .i64 e])) w') :
    Calls Try.prog 30 #[.pointer (some ⟨pa.g, 0, none⟩), .slice A n c] w R := by
  have H := Lib.hid h
  by_cases h256 : 256 < n
  · clear h hr
    go_enter Try.func30, Try.ntmps30
    go_wp2
    exact H.out _ _ _ _ ka _ (Lib.hid (.inl ⟨by omega, rfl, rfl, rfl, rfl⟩)) (Pq.refl _ _) h0 rfl rfl
  · cases ht : (pTake k p).1 with
    | none =>
      have HT : Hid (∀ (R : Ending → World → Prop), (∀ w', Pq B w w' → KPl w' B ka k pa (pTake k p).2 → R (.returned (.pointer none)) w') → Calls Try.prog 69 #[.pointer (some ⟨pa.g, 0, none⟩)] w R) := Lib.hid (fun R h => ptake_any h0 (fun w' q z => by rw [ht]; exact h w' q z))
      have HR : Hid (HeadR k p l 0 80 (pTake k p).2 k) := Lib.hid (.inr (.inl ⟨by omega, ht, rfl, rfl, rfl, rfl⟩))
      clear h h0 hr ht
      go_enter Try.func30, Try.ntmps30
      go_wp2_with (go_at_call 69; (refine HT.out _ ?_; intro w3 q3 z3))
      exact H.out _ _ _ _ ka _ HR q3 z3 rfl rfl
    | some i =>
      obtain ⟨x, hx⟩ := ptake_at k p h0.pl.hh ht
      have HT : Hid (∀ (R : Ending → World → Prop), (∀ w', Pq B w w' → KPl w' B ka k pa (pTake k p).2 → R (.returned (.pointer (some ⟨pa.l, i * 7, none⟩))) w') → Calls Try.prog 69 #[.pointer (some ⟨pa.g, 0, none⟩)] w R) := Lib.hid (fun R h => ptake_any h0 (fun w' q z => by rw [ht]; exact h w' q z))
      obtain ⟨p1, hp1⟩ : ∃ p1, (pTake k p).2 = p1 := ⟨_, rfl⟩
      obtain ⟨P, hP⟩ : ∃ P, partN l n = P := ⟨_, rfl⟩
      have HR : Hid (HeadR k p l x.f 0 { p1 with sl := p1.sl.set i ⟨x.f, 2, x.bl, 1, n, P.1, P.2, x.ma⟩ } { k with fs := (tWrite k.fs 1 x.f 0 l).2 }) := Lib.hid (.inr (.inr ⟨by omega, i, x, ht, hx, rfl, rfl, by rw [hp1, hl, hP], rfl⟩))
      rw [hp1] at HT hx
      have HX := Lib.hid hx
      have HL := Lib.hid hl
      have HTb := Lib.hid hr
      have HM := Lib.hid hm
      have HPn := Lib.hid hP
      clear h h0 ht hx hr hp1 hm hl hP
      go_enter Try.func30, Try.ntmps30
      go_upto_region 8 with (go_at_call 69; (refine HT.out _ ?_; intro w3 q3 z3))
      refine gen_worldK (fun W => Hid (KPl W B ka k pa p1 ∧ Pq B w W)) (Lib.hid ⟨z3, q3⟩) ?_
      intro W hW
      have HWr : Hid (∀ (R : Ending → World → Prop), (∀ ka2 w', Hid (Pq B w w' ∧ KPl w' B ka2 { k with fs := (tWrite k.fs 1 x.f 0 l).2 } pa p1) → Hid (ka2.g = ka.g ∧ ka2.bT = ka.bT) → R (.returned (.tuple #[])) w') → Calls Try.prog 70 #[.pointer (some ⟨pa.g, 0, none⟩), .pointer (some ⟨pa.l, i * 7, none⟩), .slice A n c] W R) := Lib.hid (fun R h => by
        refine pwrite_any hW.out.1 HM.out hm2 HX.out (hW.out.2.tb HTb.out (by decide)) HL.out (by omega) hA (fun ka2 w' q z e1 e2 => ?_)
        exact h ka2 w' (Lib.hid ⟨hW.out.2.trans q.pq, z⟩) (Lib.hid ⟨e1, e2⟩))
      clear q3 z3 HT
      go_upto_region 9 with (go_at_call 70; ((refine HWr.out _ ?_); intro ka2 W3 h3 e3))
      obtain ⟨c0, c1, c2, c3, c4, c5, c6⟩ := h3.out.2.pl.cells HX.out
      have f9 := h3.out.2.pl.free
      clear HWr
      go_upto_region 10 with (fail)
      refine gen_worldK (fun W4 => Hid (Pq B w W4 ∧ KPl W4 B ka2 { k with fs := (tWrite k.fs 1 x.f 0 l).2 } pa { p1 with sl := p1.sl.set i ⟨x.f, 2, x.bl, 1, n, x.re, x.im, x.ma⟩ })) (by
        obtain ⟨u1, u2⟩ := h3.out
        have hi := (List.getElem?_eq_some_iff.1 HX.out).1
        have at_ : ∀ y : PSl, (p1.sl.set i y)[i]? = some y := fun y => by simp [show i < p1.sl.length from hi]
        obtain ⟨f', kd', bl', pi', n', re', im', ma'⟩ := x
        obtain ⟨z1, v1⟩ := u2.put HX.out (x' := ⟨f', 2, bl', pi', n', re', im', ma'⟩) (j := 1) (v := .int .i64 2) (by omega) rfl
        obtain ⟨z2, v2⟩ := z1.put (at_ _) (x' := ⟨f', 2, bl', pi', n, re', im', ma'⟩) (j := 4) (v := .int .i64 n) (by omega) rfl
        simp only [List.set_set] at z2
        obtain ⟨z3, v3⟩ := z2.put (at_ _) (x' := ⟨f', 2, bl', 1, n, re', im', ma'⟩) (j := 3) (v := .int .i64 1) (by omega) rfl
        simp only [List.set_set] at z3
        exact Lib.hid ⟨((u1.trans v1).trans v2).trans v3, z3⟩) ?_
      intro W4 hW4
      clear c0 c1 c2 c3 c4 c5 c6 f9 h3
      have hi4 : (p1.sl.set i ⟨x.f, 2, x.bl, 1, n, x.re, x.im, x.ma⟩)[i]? = some ⟨x.f, 2, x.bl, 1, n, x.re, x.im, x.ma⟩ := by
        have hi := (List.getElem?_eq_some_iff.1 HX.out).1
        simp [show i < p1.sl.length from hi]
      have HX4 := Lib.hid hi4
      clear hi4
      have HSp : Hid (∀ (R : Ending → World → Prop), (∀ w', Kp [] W4 w' → R (.returned (.tuple #[.complex .f64 P.1 P.2, .int .i64 0])) w') → Calls Try.prog 71 #[.slice A n c] W4 R) := Lib.hid (fun R h => by
        refine spart_any (hW4.out.1.tb HTb.out (by decide)).rd0 HL.out (by omega) (fun w' _ _ k' => ?_)
        rw [HPn.out]; exact h w' k')
      go_upto_region 11 with (go_at_call 71; ((refine HSp.out _ ?_); intro W5 k5; have hW5 := Lib.hid (hW4.out.2.off0 k5); obtain ⟨c0, c1, c2, c3, c4, c5, c6⟩ := hW5.out.pl.cells HX4.out; have f5 := hW5.out.pl.free))
      refine gen_worldK (fun W6 => Hid (Pq B w W6 ∧ KPl W6 B ka2 { k with fs := (tWrite k.fs 1 x.f 0 l).2 } pa { p1 with sl := p1.sl.set i ⟨x.f, 2, x.bl, 1, n, P.1, P.2, x.ma⟩ })) (by
        obtain ⟨z1, v1⟩ := hW5.out.put HX4.out (x' := ⟨x.f, 2, x.bl, 1, n, P.1, P.2, x.ma⟩) (j := 5) (v := .complex .f64 P.1 P.2) (by omega) rfl
        simp only [List.set_set] at z1
        exact Lib.hid ⟨(hW4.out.1.trans (Pq.of0 k5)).trans v1, z1⟩) ?_
      intro W6 hW6
      clear c0 c1 c2 c3 c4 c5 c6 f5 hW5 hW4 HSp
      have hi6 : (p1.sl.set i ⟨x.f, 2, x.bl, 1, n, P.1, P.2, x.ma⟩)[i]? = some ⟨x.f, 2, x.bl, 1, n, P.1, P.2, x.ma⟩ := by
        have hi := (List.getElem?_eq_some_iff.1 HX.out).1
        simp [show i < p1.sl.length from hi]
      have C6 := (hW6.out.2.pl.cells hi6).1
      simp only at C6
      clear hi6
      go_wp2
      exact H.out _ _ _ _ ka2 _ HR hW6.out.1 hW6.out.2 e3.out.1 e3.out.2
end
end Go.Proofs.Ythlmfjfkkndboaa
