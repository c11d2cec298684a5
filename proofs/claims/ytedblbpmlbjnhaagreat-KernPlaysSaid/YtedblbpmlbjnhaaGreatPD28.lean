/- Kernel.Call. Kernel.Arrive where the first filter takes all; Depart; the kernel's own. -/
import Derived.Test.YtedblbpmlbjnhaaGreatPD27
namespace Go.Proofs.YtedblbpmlbjnhaaGreat
/-! ### Kernel.Call. -/
section
open Go.RowKit Go.Shelf
set_option linter.unusedVariables false
set_option linter.unusedSimpArgs false
set_option maxRecDepth 100000
/-- What a call does. -/
def kStep (k : KS) (x : Kc) (n : Int) (l : List UInt8) (e : Int) (k' : KS) : Prop :=
  if x.env < 1 ∨ 2 < x.env ∨ x.op < 1 ∨ 13 < x.op then n = 0 ∧ l = [] ∧ e = 1 ∧ k' = k
  else if x.op ≤ 8 then kFB k x = ⟨n, l, e, k'⟩
  else if x.op = 9 then kBind k x n e k' ∧ l = []
  else if x.op = 10 then kUnb k x e k' ∧ n = 0 ∧ l = []
  else if x.op = 11 then kSend k x n e k' ∧ l = []
  else if x.op = 12 then
    if x.env = 1 then (k.q1 = [] ∧ n = 0 ∧ l = [] ∧ e = 11 ∧ k' = k) ∨ (∃ y q, k.q1 = y :: q ∧ n = 0 ∧ l = y.l ∧ e = 0 ∧ k' = { k with f1 := k.f1 + 1, q1 := q })
    else (k.q2 = [] ∧ n = 0 ∧ l = [] ∧ e = 11 ∧ k' = k) ∨ (∃ y q, k.q2 = y :: q ∧ n = 0 ∧ l = y.l ∧ e = 0 ∧ k' = { k with f2 := k.f2 + 1, q2 := q })
  else n = k.dn ∧ l = [] ∧ e = 0 ∧ k' = k
section
variable {R : Ending → World → Prop} {w : World} {B m : Nat} {a : KA} {k : KS}
theorem Kc.ok.kp {w w' : World} {x : Kc} (h : x.ok w) (hk : Kp [] w w') : x.ok w' :=
  ⟨h.s.kp hk (Off.nil _ _), h.sl, h.sm, h.s0, h.p.kp hk (Off.nil _ _), h.pl, h.pm, h.p0, h.po, h.l.kp hk (Off.nil _ _), h.ll, h.lm, h.l0, h.lo⟩
theorem Kc.ok.kq {B : Nat} {w w' : World} {x : Kc} (h : x.ok w) (hk : Kq B w w') : x.ok w' :=
  ⟨hk.tb h.s (by decide), h.sl, h.sm, h.s0, hk.tb h.p (by decide), h.pl, h.pm, h.p0, h.po, hk.tb h.l (by decide), h.ll, h.lm, h.l0, h.lo⟩
set_option maxHeartbeats 4000000 in
theorem kc_1 (hK : Kn w B a k) (hm : k.cnt m) (hm2 : m ≤ 10000) (x : Kc) (hx : x.ok w) (he1 : 1 ≤ x.env) (he2 : x.env ≤ 2) (hop : x.op = 1)
    (h : (∀ n A len cc l e k' a' w', Hid (kStep k x n l e k') → Kq B w w' → (Kn w' B a' k' ∧ a'.g = a.g ∧ a'.bT = a.bT) → l.length = len → Tb w' 5 A (bts l) → R (.returned (.tuple #[.agg #[.int .i64 n, .slice A len cc], .int .i64 e])) w')) :
    Calls Tryz.prog 9 #[.pointer (some ⟨a.g, 0, none⟩), .agg #[.int .i64 1, .int .i64 x.env, .int .i64 x.a, .int .i64 x.b, .int .i64 x.c, .slice x.A5 x.n5 x.c5, .slice x.A6 x.n6 x.c6, .slice x.A7 x.n7 x.c7]] w R := by
  have H := Lib.hid h
  have HK := Lib.hid hK
  have HX := Lib.hid hx
  have HM := Lib.hid hm
  have HF : Hid (∀ (R : Ending → World → Prop) (w1 : World), Kp [] w w1 → (∀ n A len cc l e k' a' w', Hid (kStep k x n l e k') → Kq B w1 w' → (Kn w' B a' k' ∧ a'.g = a.g ∧ a'.bT = a.bT) → l.length = len → Tb w' 5 A (bts l) → R (.returned (.tuple #[.agg #[.int .i64 n, .slice A len cc], .int .i64 e])) w') → Calls Tryz.prog 53 #[.pointer (some ⟨a.g, 0, none⟩), .agg #[.int .i64 1, .int .i64 x.env, .int .i64 x.a, .int .i64 x.b, .int .i64 x.c, .slice x.A5 x.n5 x.c5, .slice x.A6 x.n6 x.c6, .slice x.A7 x.n7 x.c7]] w1 R) := Lib.hid (fun R w1 k1 h => kfb_1 (HK.out.off0 k1) HM.out hm2 x (HX.out.kp k1) hop (fun n A len cc l e k' a' w' hs q n9 hl ht => h n A len cc l e k' a' w' (Lib.hid (by unfold kStep; rw [if_neg (by omega), if_pos (by omega)]; exact hs.out)) q n9 hl ht))
  clear h hK hx hm
  have hn1 : ¬ x.env < 1 := by omega
  have hn2 : ¬ 2 < x.env := by omega
  go_enter Tryz.func9, Tryz.ntmps9
  go_upto_region 1 with (fail)
  refine gen_worldK (fun W => ∃ cb, w.heap.size = cb ∧ Kp [] w W ∧ Bk W cb 45 (x.cs 1) ∧ Bk W (cb + 1) 39 [.int .i64 0, .slice none 0 0]) ⟨_, rfl, ((Kp.refl _ _).alloc _).alloc _, ((Bk.new' _ _ _).alloc _).cast rfl, (Bk.newAt (by simp) _ _).cast rfl⟩ ?_
  rintro W ⟨cb, hcb, kW, bC, bR⟩
  rw [hcb]
  have hb0 : w.heap.size ≤ cb := by omega
  obtain ⟨p0, p1, p2, p3, p4, p5, p6, p7⟩ := bk8 bC
  have BR := Lib.hid bR
  have KW := Lib.hid kW
  have hBB := HK.out.hB
  clear bC bR kW
  go_wp2_with (go_at_call 53; ((refine HF.out _ _ KW.out ?_); intro n A len cc l e k' a' w2 hs q2 n2 hl ht; have r2 := q2.bk BR.out (by decide); obtain ⟨s0, s1, f0, f1⟩ := bk2t r2; have R2 := Lib.hid r2; clear r2))
  obtain ⟨bb, kb⟩ := bk2set R2.out (.int .i64 n) (.slice A len cc)
  have hrt := Bk.ty R2.out
  obtain ⟨W9, hW9⟩ : ∃ W9, ((w2.setCell ⟨cb + 1, 0, none⟩ (.int .i64 n)).setCell ⟨cb + 1, 1, none⟩ (.slice A len cc)) = W9 := ⟨_, rfl⟩
  rw [hW9] at bb kb ⊢
  obtain ⟨g0, g1, _⟩ := bk2t bb
  exact bodyPost_ret (v := .tuple #[.agg #[.int .i64 n, .slice A len cc], .int .i64 e]) (by simp [results, Tryz.results9, go_sem, g0, g1]; try rfl) rfl (H.out n A len cc l e k' a' W9 hs (((Kq.of0 KW.out).trans q2).thn kb hBB (by intro s hs; simp at hs; omega)) ⟨n2.1.offA kb (fun e he => Off.one hrt he), n2.2⟩ hl (ht.kp kb (Off.one hrt (by decide))))
set_option maxHeartbeats 4000000 in
theorem kc_2 (hK : Kn w B a k) (hm : k.cnt m) (hm2 : m ≤ 10000) (x : Kc) (hx : x.ok w) (he1 : 1 ≤ x.env) (he2 : x.env ≤ 2) (hop : x.op = 2)
    (h : (∀ n A len cc l e k' a' w', Hid (kStep k x n l e k') → Kq B w w' → (Kn w' B a' k' ∧ a'.g = a.g ∧ a'.bT = a.bT) → l.length = len → Tb w' 5 A (bts l) → R (.returned (.tuple #[.agg #[.int .i64 n, .slice A len cc], .int .i64 e])) w')) :
    Calls Tryz.prog 9 #[.pointer (some ⟨a.g, 0, none⟩), .agg #[.int .i64 2, .int .i64 x.env, .int .i64 x.a, .int .i64 x.b, .int .i64 x.c, .slice x.A5 x.n5 x.c5, .slice x.A6 x.n6 x.c6, .slice x.A7 x.n7 x.c7]] w R := by
  have H := Lib.hid h
  have HK := Lib.hid hK
  have HX := Lib.hid hx
  have HM := Lib.hid hm
  have HF : Hid (∀ (R : Ending → World → Prop) (w1 : World), Kp [] w w1 → (∀ n A len cc l e k' a' w', Hid (kStep k x n l e k') → Kq B w1 w' → (Kn w' B a' k' ∧ a'.g = a.g ∧ a'.bT = a.bT) → l.length = len → Tb w' 5 A (bts l) → R (.returned (.tuple #[.agg #[.int .i64 n, .slice A len cc], .int .i64 e])) w') → Calls Tryz.prog 53 #[.pointer (some ⟨a.g, 0, none⟩), .agg #[.int .i64 2, .int .i64 x.env, .int .i64 x.a, .int .i64 x.b, .int .i64 x.c, .slice x.A5 x.n5 x.c5, .slice x.A6 x.n6 x.c6, .slice x.A7 x.n7 x.c7]] w1 R) := Lib.hid (fun R w1 k1 h => kfb_2 (HK.out.off0 k1) HM.out hm2 x (HX.out.kp k1) hop (fun n A len cc l e k' a' w' hs q n9 hl ht => h n A len cc l e k' a' w' (Lib.hid (by unfold kStep; rw [if_neg (by omega), if_pos (by omega)]; exact hs.out)) q n9 hl ht))
  clear h hK hx hm
  have hn1 : ¬ x.env < 1 := by omega
  have hn2 : ¬ 2 < x.env := by omega
  go_enter Tryz.func9, Tryz.ntmps9
  go_upto_region 1 with (fail)
  refine gen_worldK (fun W => ∃ cb, w.heap.size = cb ∧ Kp [] w W ∧ Bk W cb 45 (x.cs 2) ∧ Bk W (cb + 1) 39 [.int .i64 0, .slice none 0 0]) ⟨_, rfl, ((Kp.refl _ _).alloc _).alloc _, ((Bk.new' _ _ _).alloc _).cast rfl, (Bk.newAt (by simp) _ _).cast rfl⟩ ?_
  rintro W ⟨cb, hcb, kW, bC, bR⟩
  rw [hcb]
  have hb0 : w.heap.size ≤ cb := by omega
  obtain ⟨p0, p1, p2, p3, p4, p5, p6, p7⟩ := bk8 bC
  have BR := Lib.hid bR
  have KW := Lib.hid kW
  have hBB := HK.out.hB
  clear bC bR kW
  go_wp2_with (go_at_call 53; ((refine HF.out _ _ KW.out ?_); intro n A len cc l e k' a' w2 hs q2 n2 hl ht; have r2 := q2.bk BR.out (by decide); obtain ⟨s0, s1, f0, f1⟩ := bk2t r2; have R2 := Lib.hid r2; clear r2))
  obtain ⟨bb, kb⟩ := bk2set R2.out (.int .i64 n) (.slice A len cc)
  have hrt := Bk.ty R2.out
  obtain ⟨W9, hW9⟩ : ∃ W9, ((w2.setCell ⟨cb + 1, 0, none⟩ (.int .i64 n)).setCell ⟨cb + 1, 1, none⟩ (.slice A len cc)) = W9 := ⟨_, rfl⟩
  rw [hW9] at bb kb ⊢
  obtain ⟨g0, g1, _⟩ := bk2t bb
  exact bodyPost_ret (v := .tuple #[.agg #[.int .i64 n, .slice A len cc], .int .i64 e]) (by simp [results, Tryz.results9, go_sem, g0, g1]; try rfl) rfl (H.out n A len cc l e k' a' W9 hs (((Kq.of0 KW.out).trans q2).thn kb hBB (by intro s hs; simp at hs; omega)) ⟨n2.1.offA kb (fun e he => Off.one hrt he), n2.2⟩ hl (ht.kp kb (Off.one hrt (by decide))))
set_option maxHeartbeats 4000000 in
theorem kc_3 (hK : Kn w B a k) (hm : k.cnt m) (hm2 : m ≤ 10000) (x : Kc) (hx : x.ok w) (he1 : 1 ≤ x.env) (he2 : x.env ≤ 2) (hop : x.op = 3)
    (h : (∀ n A len cc l e k' a' w', Hid (kStep k x n l e k') → Kq B w w' → (Kn w' B a' k' ∧ a'.g = a.g ∧ a'.bT = a.bT) → l.length = len → Tb w' 5 A (bts l) → R (.returned (.tuple #[.agg #[.int .i64 n, .slice A len cc], .int .i64 e])) w')) :
    Calls Tryz.prog 9 #[.pointer (some ⟨a.g, 0, none⟩), .agg #[.int .i64 3, .int .i64 x.env, .int .i64 x.a, .int .i64 x.b, .int .i64 x.c, .slice x.A5 x.n5 x.c5, .slice x.A6 x.n6 x.c6, .slice x.A7 x.n7 x.c7]] w R := by
  have H := Lib.hid h
  have HK := Lib.hid hK
  have HX := Lib.hid hx
  have HM := Lib.hid hm
  have HF : Hid (∀ (R : Ending → World → Prop) (w1 : World), Kp [] w w1 → (∀ n A len cc l e k' a' w', Hid (kStep k x n l e k') → Kq B w1 w' → (Kn w' B a' k' ∧ a'.g = a.g ∧ a'.bT = a.bT) → l.length = len → Tb w' 5 A (bts l) → R (.returned (.tuple #[.agg #[.int .i64 n, .slice A len cc], .int .i64 e])) w') → Calls Tryz.prog 53 #[.pointer (some ⟨a.g, 0, none⟩), .agg #[.int .i64 3, .int .i64 x.env, .int .i64 x.a, .int .i64 x.b, .int .i64 x.c, .slice x.A5 x.n5 x.c5, .slice x.A6 x.n6 x.c6, .slice x.A7 x.n7 x.c7]] w1 R) := Lib.hid (fun R w1 k1 h => kfb_3 (HK.out.off0 k1) HM.out hm2 x (HX.out.kp k1) hop (fun n A len cc l e k' a' w' hs q n9 hl ht => h n A len cc l e k' a' w' (Lib.hid (by unfold kStep; rw [if_neg (by omega), if_pos (by omega)]; exact hs.out)) q n9 hl ht))
  clear h hK hx hm
  have hn1 : ¬ x.env < 1 := by omega
  have hn2 : ¬ 2 < x.env := by omega
  go_enter Tryz.func9, Tryz.ntmps9
  go_upto_region 1 with (fail)
  refine gen_worldK (fun W => ∃ cb, w.heap.size = cb ∧ Kp [] w W ∧ Bk W cb 45 (x.cs 3) ∧ Bk W (cb + 1) 39 [.int .i64 0, .slice none 0 0]) ⟨_, rfl, ((Kp.refl _ _).alloc _).alloc _, ((Bk.new' _ _ _).alloc _).cast rfl, (Bk.newAt (by simp) _ _).cast rfl⟩ ?_
  rintro W ⟨cb, hcb, kW, bC, bR⟩
  rw [hcb]
  have hb0 : w.heap.size ≤ cb := by omega
  obtain ⟨p0, p1, p2, p3, p4, p5, p6, p7⟩ := bk8 bC
  have BR := Lib.hid bR
  have KW := Lib.hid kW
  have hBB := HK.out.hB
  clear bC bR kW
  go_wp2_with (go_at_call 53; ((refine HF.out _ _ KW.out ?_); intro n A len cc l e k' a' w2 hs q2 n2 hl ht; have r2 := q2.bk BR.out (by decide); obtain ⟨s0, s1, f0, f1⟩ := bk2t r2; have R2 := Lib.hid r2; clear r2))
  obtain ⟨bb, kb⟩ := bk2set R2.out (.int .i64 n) (.slice A len cc)
  have hrt := Bk.ty R2.out
  obtain ⟨W9, hW9⟩ : ∃ W9, ((w2.setCell ⟨cb + 1, 0, none⟩ (.int .i64 n)).setCell ⟨cb + 1, 1, none⟩ (.slice A len cc)) = W9 := ⟨_, rfl⟩
  rw [hW9] at bb kb ⊢
  obtain ⟨g0, g1, _⟩ := bk2t bb
  exact bodyPost_ret (v := .tuple #[.agg #[.int .i64 n, .slice A len cc], .int .i64 e]) (by simp [results, Tryz.results9, go_sem, g0, g1]; try rfl) rfl (H.out n A len cc l e k' a' W9 hs (((Kq.of0 KW.out).trans q2).thn kb hBB (by intro s hs; simp at hs; omega)) ⟨n2.1.offA kb (fun e he => Off.one hrt he), n2.2⟩ hl (ht.kp kb (Off.one hrt (by decide))))
set_option maxHeartbeats 4000000 in
theorem kc_4 (hK : Kn w B a k) (hm : k.cnt m) (hm2 : m ≤ 10000) (x : Kc) (hx : x.ok w) (he1 : 1 ≤ x.env) (he2 : x.env ≤ 2) (hop : x.op = 4)
    (h : (∀ n A len cc l e k' a' w', Hid (kStep k x n l e k') → Kq B w w' → (Kn w' B a' k' ∧ a'.g = a.g ∧ a'.bT = a.bT) → l.length = len → Tb w' 5 A (bts l) → R (.returned (.tuple #[.agg #[.int .i64 n, .slice A len cc], .int .i64 e])) w')) :
    Calls Tryz.prog 9 #[.pointer (some ⟨a.g, 0, none⟩), .agg #[.int .i64 4, .int .i64 x.env, .int .i64 x.a, .int .i64 x.b, .int .i64 x.c, .slice x.A5 x.n5 x.c5, .slice x.A6 x.n6 x.c6, .slice x.A7 x.n7 x.c7]] w R := by
  have H := Lib.hid h
  have HK := Lib.hid hK
  have HX := Lib.hid hx
  have HM := Lib.hid hm
  have HF : Hid (∀ (R : Ending → World → Prop) (w1 : World), Kp [] w w1 → (∀ n A len cc l e k' a' w', Hid (kStep k x n l e k') → Kq B w1 w' → (Kn w' B a' k' ∧ a'.g = a.g ∧ a'.bT = a.bT) → l.length = len → Tb w' 5 A (bts l) → R (.returned (.tuple #[.agg #[.int .i64 n, .slice A len cc], .int .i64 e])) w') → Calls Tryz.prog 53 #[.pointer (some ⟨a.g, 0, none⟩), .agg #[.int .i64 4, .int .i64 x.env, .int .i64 x.a, .int .i64 x.b, .int .i64 x.c, .slice x.A5 x.n5 x.c5, .slice x.A6 x.n6 x.c6, .slice x.A7 x.n7 x.c7]] w1 R) := Lib.hid (fun R w1 k1 h => kfb_4 (HK.out.off0 k1) HM.out hm2 x (HX.out.kp k1) hop (fun n A len cc l e k' a' w' hs q n9 hl ht => h n A len cc l e k' a' w' (Lib.hid (by unfold kStep; rw [if_neg (by omega), if_pos (by omega)]; exact hs.out)) q n9 hl ht))
  clear h hK hx hm
  have hn1 : ¬ x.env < 1 := by omega
  have hn2 : ¬ 2 < x.env := by omega
  go_enter Tryz.func9, Tryz.ntmps9
  go_upto_region 1 with (fail)
  refine gen_worldK (fun W => ∃ cb, w.heap.size = cb ∧ Kp [] w W ∧ Bk W cb 45 (x.cs 4) ∧ Bk W (cb + 1) 39 [.int .i64 0, .slice none 0 0]) ⟨_, rfl, ((Kp.refl _ _).alloc _).alloc _, ((Bk.new' _ _ _).alloc _).cast rfl, (Bk.newAt (by simp) _ _).cast rfl⟩ ?_
  rintro W ⟨cb, hcb, kW, bC, bR⟩
  rw [hcb]
  have hb0 : w.heap.size ≤ cb := by omega
  obtain ⟨p0, p1, p2, p3, p4, p5, p6, p7⟩ := bk8 bC
  have BR := Lib.hid bR
  have KW := Lib.hid kW
  have hBB := HK.out.hB
  clear bC bR kW
  go_wp2_with (go_at_call 53; ((refine HF.out _ _ KW.out ?_); intro n A len cc l e k' a' w2 hs q2 n2 hl ht; have r2 := q2.bk BR.out (by decide); obtain ⟨s0, s1, f0, f1⟩ := bk2t r2; have R2 := Lib.hid r2; clear r2))
  obtain ⟨bb, kb⟩ := bk2set R2.out (.int .i64 n) (.slice A len cc)
  have hrt := Bk.ty R2.out
  obtain ⟨W9, hW9⟩ : ∃ W9, ((w2.setCell ⟨cb + 1, 0, none⟩ (.int .i64 n)).setCell ⟨cb + 1, 1, none⟩ (.slice A len cc)) = W9 := ⟨_, rfl⟩
  rw [hW9] at bb kb ⊢
  obtain ⟨g0, g1, _⟩ := bk2t bb
  exact bodyPost_ret (v := .tuple #[.agg #[.int .i64 n, .slice A len cc], .int .i64 e]) (by simp [results, Tryz.results9, go_sem, g0, g1]; try rfl) rfl (H.out n A len cc l e k' a' W9 hs (((Kq.of0 KW.out).trans q2).thn kb hBB (by intro s hs; simp at hs; omega)) ⟨n2.1.offA kb (fun e he => Off.one hrt he), n2.2⟩ hl (ht.kp kb (Off.one hrt (by decide))))
set_option maxHeartbeats 4000000 in
theorem kc_5 (hK : Kn w B a k) (hm : k.cnt m) (hm2 : m ≤ 10000) (x : Kc) (hx : x.ok w) (he1 : 1 ≤ x.env) (he2 : x.env ≤ 2) (hop : x.op = 5)
    (h : (∀ n A len cc l e k' a' w', Hid (kStep k x n l e k') → Kq B w w' → (Kn w' B a' k' ∧ a'.g = a.g ∧ a'.bT = a.bT) → l.length = len → Tb w' 5 A (bts l) → R (.returned (.tuple #[.agg #[.int .i64 n, .slice A len cc], .int .i64 e])) w')) :
    Calls Tryz.prog 9 #[.pointer (some ⟨a.g, 0, none⟩), .agg #[.int .i64 5, .int .i64 x.env, .int .i64 x.a, .int .i64 x.b, .int .i64 x.c, .slice x.A5 x.n5 x.c5, .slice x.A6 x.n6 x.c6, .slice x.A7 x.n7 x.c7]] w R := by
  have H := Lib.hid h
  have HK := Lib.hid hK
  have HX := Lib.hid hx
  have HM := Lib.hid hm
  have HF : Hid (∀ (R : Ending → World → Prop) (w1 : World), Kp [] w w1 → (∀ n A len cc l e k' a' w', Hid (kStep k x n l e k') → Kq B w1 w' → (Kn w' B a' k' ∧ a'.g = a.g ∧ a'.bT = a.bT) → l.length = len → Tb w' 5 A (bts l) → R (.returned (.tuple #[.agg #[.int .i64 n, .slice A len cc], .int .i64 e])) w') → Calls Tryz.prog 53 #[.pointer (some ⟨a.g, 0, none⟩), .agg #[.int .i64 5, .int .i64 x.env, .int .i64 x.a, .int .i64 x.b, .int .i64 x.c, .slice x.A5 x.n5 x.c5, .slice x.A6 x.n6 x.c6, .slice x.A7 x.n7 x.c7]] w1 R) := Lib.hid (fun R w1 k1 h => kfb_5 (HK.out.off0 k1) HM.out hm2 x (HX.out.kp k1) hop (fun n A len cc l e k' a' w' hs q n9 hl ht => h n A len cc l e k' a' w' (Lib.hid (by unfold kStep; rw [if_neg (by omega), if_pos (by omega)]; exact hs.out)) q n9 hl ht))
  clear h hK hx hm
  have hn1 : ¬ x.env < 1 := by omega
  have hn2 : ¬ 2 < x.env := by omega
  go_enter Tryz.func9, Tryz.ntmps9
  go_upto_region 1 with (fail)
  refine gen_worldK (fun W => ∃ cb, w.heap.size = cb ∧ Kp [] w W ∧ Bk W cb 45 (x.cs 5) ∧ Bk W (cb + 1) 39 [.int .i64 0, .slice none 0 0]) ⟨_, rfl, ((Kp.refl _ _).alloc _).alloc _, ((Bk.new' _ _ _).alloc _).cast rfl, (Bk.newAt (by simp) _ _).cast rfl⟩ ?_
  rintro W ⟨cb, hcb, kW, bC, bR⟩
  rw [hcb]
  have hb0 : w.heap.size ≤ cb := by omega
  obtain ⟨p0, p1, p2, p3, p4, p5, p6, p7⟩ := bk8 bC
  have BR := Lib.hid bR
  have KW := Lib.hid kW
  have hBB := HK.out.hB
  clear bC bR kW
  go_wp2_with (go_at_call 53; ((refine HF.out _ _ KW.out ?_); intro n A len cc l e k' a' w2 hs q2 n2 hl ht; have r2 := q2.bk BR.out (by decide); obtain ⟨s0, s1, f0, f1⟩ := bk2t r2; have R2 := Lib.hid r2; clear r2))
  obtain ⟨bb, kb⟩ := bk2set R2.out (.int .i64 n) (.slice A len cc)
  have hrt := Bk.ty R2.out
  obtain ⟨W9, hW9⟩ : ∃ W9, ((w2.setCell ⟨cb + 1, 0, none⟩ (.int .i64 n)).setCell ⟨cb + 1, 1, none⟩ (.slice A len cc)) = W9 := ⟨_, rfl⟩
  rw [hW9] at bb kb ⊢
  obtain ⟨g0, g1, _⟩ := bk2t bb
  exact bodyPost_ret (v := .tuple #[.agg #[.int .i64 n, .slice A len cc], .int .i64 e]) (by simp [results, Tryz.results9, go_sem, g0, g1]; try rfl) rfl (H.out n A len cc l e k' a' W9 hs (((Kq.of0 KW.out).trans q2).thn kb hBB (by intro s hs; simp at hs; omega)) ⟨n2.1.offA kb (fun e he => Off.one hrt he), n2.2⟩ hl (ht.kp kb (Off.one hrt (by decide))))
set_option maxHeartbeats 4000000 in
theorem kc_6 (hK : Kn w B a k) (hm : k.cnt m) (hm2 : m ≤ 10000) (x : Kc) (hx : x.ok w) (he1 : 1 ≤ x.env) (he2 : x.env ≤ 2) (hop : x.op = 6)
    (h : (∀ n A len cc l e k' a' w', Hid (kStep k x n l e k') → Kq B w w' → (Kn w' B a' k' ∧ a'.g = a.g ∧ a'.bT = a.bT) → l.length = len → Tb w' 5 A (bts l) → R (.returned (.tuple #[.agg #[.int .i64 n, .slice A len cc], .int .i64 e])) w')) :
    Calls Tryz.prog 9 #[.pointer (some ⟨a.g, 0, none⟩), .agg #[.int .i64 6, .int .i64 x.env, .int .i64 x.a, .int .i64 x.b, .int .i64 x.c, .slice x.A5 x.n5 x.c5, .slice x.A6 x.n6 x.c6, .slice x.A7 x.n7 x.c7]] w R := by
  have H := Lib.hid h
  have HK := Lib.hid hK
  have HX := Lib.hid hx
  have HM := Lib.hid hm
  have HF : Hid (∀ (R : Ending → World → Prop) (w1 : World), Kp [] w w1 → (∀ n A len cc l e k' a' w', Hid (kStep k x n l e k') → Kq B w1 w' → (Kn w' B a' k' ∧ a'.g = a.g ∧ a'.bT = a.bT) → l.length = len → Tb w' 5 A (bts l) → R (.returned (.tuple #[.agg #[.int .i64 n, .slice A len cc], .int .i64 e])) w') → Calls Tryz.prog 47 #[.pointer (some ⟨a.g, 0, none⟩), .agg #[.int .i64 6, .int .i64 x.env, .int .i64 x.a, .int .i64 x.b, .int .i64 x.c, .slice x.A5 x.n5 x.c5, .slice x.A6 x.n6 x.c6, .slice x.A7 x.n7 x.c7]] w1 R) := Lib.hid (fun R w1 k1 h => kfb_6 (HK.out.off0 k1) HM.out hm2 x (HX.out.kp k1) hop (fun n A len cc l e k' a' w' hs q n9 hl ht => h n A len cc l e k' a' w' (Lib.hid (by unfold kStep; rw [if_neg (by omega), if_pos (by omega)]; exact hs.out)) q n9 hl ht))
  clear h hK hx hm
  have hn1 : ¬ x.env < 1 := by omega
  have hn2 : ¬ 2 < x.env := by omega
  go_enter Tryz.func9, Tryz.ntmps9
  go_upto_region 1 with (fail)
  refine gen_worldK (fun W => ∃ cb, w.heap.size = cb ∧ Kp [] w W ∧ Bk W cb 45 (x.cs 6) ∧ Bk W (cb + 1) 39 [.int .i64 0, .slice none 0 0]) ⟨_, rfl, ((Kp.refl _ _).alloc _).alloc _, ((Bk.new' _ _ _).alloc _).cast rfl, (Bk.newAt (by simp) _ _).cast rfl⟩ ?_
  rintro W ⟨cb, hcb, kW, bC, bR⟩
  rw [hcb]
  have hb0 : w.heap.size ≤ cb := by omega
  obtain ⟨p0, p1, p2, p3, p4, p5, p6, p7⟩ := bk8 bC
  have BR := Lib.hid bR
  have KW := Lib.hid kW
  have hBB := HK.out.hB
  clear bC bR kW
  go_wp2_with (go_at_call 47; ((refine HF.out _ _ KW.out ?_); intro n A len cc l e k' a' w2 hs q2 n2 hl ht; have r2 := q2.bk BR.out (by decide); obtain ⟨s0, s1, f0, f1⟩ := bk2t r2; have R2 := Lib.hid r2; clear r2))
  obtain ⟨bb, kb⟩ := bk2set R2.out (.int .i64 n) (.slice A len cc)
  have hrt := Bk.ty R2.out
  obtain ⟨W9, hW9⟩ : ∃ W9, ((w2.setCell ⟨cb + 1, 0, none⟩ (.int .i64 n)).setCell ⟨cb + 1, 1, none⟩ (.slice A len cc)) = W9 := ⟨_, rfl⟩
  rw [hW9] at bb kb ⊢
  obtain ⟨g0, g1, _⟩ := bk2t bb
  exact bodyPost_ret (v := .tuple #[.agg #[.int .i64 n, .slice A len cc], .int .i64 e]) (by simp [results, Tryz.results9, go_sem, g0, g1]; try rfl) rfl (H.out n A len cc l e k' a' W9 hs (((Kq.of0 KW.out).trans q2).thn kb hBB (by intro s hs; simp at hs; omega)) ⟨n2.1.offA kb (fun e he => Off.one hrt he), n2.2⟩ hl (ht.kp kb (Off.one hrt (by decide))))
set_option maxHeartbeats 4000000 in
theorem kc_7 (hK : Kn w B a k) (hm : k.cnt m) (hm2 : m ≤ 10000) (x : Kc) (hx : x.ok w) (he1 : 1 ≤ x.env) (he2 : x.env ≤ 2) (hop : x.op = 7)
    (h : (∀ n A len cc l e k' a' w', Hid (kStep k x n l e k') → Kq B w w' → (Kn w' B a' k' ∧ a'.g = a.g ∧ a'.bT = a.bT) → l.length = len → Tb w' 5 A (bts l) → R (.returned (.tuple #[.agg #[.int .i64 n, .slice A len cc], .int .i64 e])) w')) :
    Calls Tryz.prog 9 #[.pointer (some ⟨a.g, 0, none⟩), .agg #[.int .i64 7, .int .i64 x.env, .int .i64 x.a, .int .i64 x.b, .int .i64 x.c, .slice x.A5 x.n5 x.c5, .slice x.A6 x.n6 x.c6, .slice x.A7 x.n7 x.c7]] w R := by
  have H := Lib.hid h
  have HK := Lib.hid hK
  have HX := Lib.hid hx
  have HM := Lib.hid hm
  have HF : Hid (∀ (R : Ending → World → Prop) (w1 : World), Kp [] w w1 → (∀ n A len cc l e k' a' w', Hid (kStep k x n l e k') → Kq B w1 w' → (Kn w' B a' k' ∧ a'.g = a.g ∧ a'.bT = a.bT) → l.length = len → Tb w' 5 A (bts l) → R (.returned (.tuple #[.agg #[.int .i64 n, .slice A len cc], .int .i64 e])) w') → Calls Tryz.prog 47 #[.pointer (some ⟨a.g, 0, none⟩), .agg #[.int .i64 7, .int .i64 x.env, .int .i64 x.a, .int .i64 x.b, .int .i64 x.c, .slice x.A5 x.n5 x.c5, .slice x.A6 x.n6 x.c6, .slice x.A7 x.n7 x.c7]] w1 R) := Lib.hid (fun R w1 k1 h => kfb_7 (HK.out.off0 k1) HM.out hm2 x (HX.out.kp k1) hop (fun n A len cc l e k' a' w' hs q n9 hl ht => h n A len cc l e k' a' w' (Lib.hid (by unfold kStep; rw [if_neg (by omega), if_pos (by omega)]; exact hs.out)) q n9 hl ht))
  clear h hK hx hm
  have hn1 : ¬ x.env < 1 := by omega
  have hn2 : ¬ 2 < x.env := by omega
  go_enter Tryz.func9, Tryz.ntmps9
  go_upto_region 1 with (fail)
  refine gen_worldK (fun W => ∃ cb, w.heap.size = cb ∧ Kp [] w W ∧ Bk W cb 45 (x.cs 7) ∧ Bk W (cb + 1) 39 [.int .i64 0, .slice none 0 0]) ⟨_, rfl, ((Kp.refl _ _).alloc _).alloc _, ((Bk.new' _ _ _).alloc _).cast rfl, (Bk.newAt (by simp) _ _).cast rfl⟩ ?_
  rintro W ⟨cb, hcb, kW, bC, bR⟩
  rw [hcb]
  have hb0 : w.heap.size ≤ cb := by omega
  obtain ⟨p0, p1, p2, p3, p4, p5, p6, p7⟩ := bk8 bC
  have BR := Lib.hid bR
  have KW := Lib.hid kW
  have hBB := HK.out.hB
  clear bC bR kW
  go_wp2_with (go_at_call 47; ((refine HF.out _ _ KW.out ?_); intro n A len cc l e k' a' w2 hs q2 n2 hl ht; have r2 := q2.bk BR.out (by decide); obtain ⟨s0, s1, f0, f1⟩ := bk2t r2; have R2 := Lib.hid r2; clear r2))
  obtain ⟨bb, kb⟩ := bk2set R2.out (.int .i64 n) (.slice A len cc)
  have hrt := Bk.ty R2.out
  obtain ⟨W9, hW9⟩ : ∃ W9, ((w2.setCell ⟨cb + 1, 0, none⟩ (.int .i64 n)).setCell ⟨cb + 1, 1, none⟩ (.slice A len cc)) = W9 := ⟨_, rfl⟩
  rw [hW9] at bb kb ⊢
  obtain ⟨g0, g1, _⟩ := bk2t bb
  exact bodyPost_ret (v := .tuple #[.agg #[.int .i64 n, .slice A len cc], .int .i64 e]) (by simp [results, Tryz.results9, go_sem, g0, g1]; try rfl) rfl (H.out n A len cc l e k' a' W9 hs (((Kq.of0 KW.out).trans q2).thn kb hBB (by intro s hs; simp at hs; omega)) ⟨n2.1.offA kb (fun e he => Off.one hrt he), n2.2⟩ hl (ht.kp kb (Off.one hrt (by decide))))
set_option maxHeartbeats 4000000 in
theorem kc_8 (hK : Kn w B a k) (hm : k.cnt m) (hm2 : m ≤ 10000) (x : Kc) (hx : x.ok w) (he1 : 1 ≤ x.env) (he2 : x.env ≤ 2) (hop : x.op = 8)
    (h : (∀ n A len cc l e k' a' w', Hid (kStep k x n l e k') → Kq B w w' → (Kn w' B a' k' ∧ a'.g = a.g ∧ a'.bT = a.bT) → l.length = len → Tb w' 5 A (bts l) → R (.returned (.tuple #[.agg #[.int .i64 n, .slice A len cc], .int .i64 e])) w')) :
    Calls Tryz.prog 9 #[.pointer (some ⟨a.g, 0, none⟩), .agg #[.int .i64 8, .int .i64 x.env, .int .i64 x.a, .int .i64 x.b, .int .i64 x.c, .slice x.A5 x.n5 x.c5, .slice x.A6 x.n6 x.c6, .slice x.A7 x.n7 x.c7]] w R := by
  have H := Lib.hid h
  have HK := Lib.hid hK
  have HX := Lib.hid hx
  have HM := Lib.hid hm
  have HF : Hid (∀ (R : Ending → World → Prop) (w1 : World), Kp [] w w1 → (∀ n A len cc l e k' a' w', Hid (kStep k x n l e k') → Kq B w1 w' → (Kn w' B a' k' ∧ a'.g = a.g ∧ a'.bT = a.bT) → l.length = len → Tb w' 5 A (bts l) → R (.returned (.tuple #[.agg #[.int .i64 n, .slice A len cc], .int .i64 e])) w') → Calls Tryz.prog 47 #[.pointer (some ⟨a.g, 0, none⟩), .agg #[.int .i64 8, .int .i64 x.env, .int .i64 x.a, .int .i64 x.b, .int .i64 x.c, .slice x.A5 x.n5 x.c5, .slice x.A6 x.n6 x.c6, .slice x.A7 x.n7 x.c7]] w1 R) := Lib.hid (fun R w1 k1 h => kfb_8 (HK.out.off0 k1) HM.out hm2 x (HX.out.kp k1) hop (fun n A len cc l e k' a' w' hs q n9 hl ht => h n A len cc l e k' a' w' (Lib.hid (by unfold kStep; rw [if_neg (by omega), if_pos (by omega)]; exact hs.out)) q n9 hl ht))
  clear h hK hx hm
  have hn1 : ¬ x.env < 1 := by omega
  have hn2 : ¬ 2 < x.env := by omega
  go_enter Tryz.func9, Tryz.ntmps9
  go_upto_region 1 with (fail)
  refine gen_worldK (fun W => ∃ cb, w.heap.size = cb ∧ Kp [] w W ∧ Bk W cb 45 (x.cs 8) ∧ Bk W (cb + 1) 39 [.int .i64 0, .slice none 0 0]) ⟨_, rfl, ((Kp.refl _ _).alloc _).alloc _, ((Bk.new' _ _ _).alloc _).cast rfl, (Bk.newAt (by simp) _ _).cast rfl⟩ ?_
  rintro W ⟨cb, hcb, kW, bC, bR⟩
  rw [hcb]
  have hb0 : w.heap.size ≤ cb := by omega
  obtain ⟨p0, p1, p2, p3, p4, p5, p6, p7⟩ := bk8 bC
  have BR := Lib.hid bR
  have KW := Lib.hid kW
  have hBB := HK.out.hB
  clear bC bR kW
  go_wp2_with (go_at_call 47; ((refine HF.out _ _ KW.out ?_); intro n A len cc l e k' a' w2 hs q2 n2 hl ht; have r2 := q2.bk BR.out (by decide); obtain ⟨s0, s1, f0, f1⟩ := bk2t r2; have R2 := Lib.hid r2; clear r2))
  obtain ⟨bb, kb⟩ := bk2set R2.out (.int .i64 n) (.slice A len cc)
  have hrt := Bk.ty R2.out
  obtain ⟨W9, hW9⟩ : ∃ W9, ((w2.setCell ⟨cb + 1, 0, none⟩ (.int .i64 n)).setCell ⟨cb + 1, 1, none⟩ (.slice A len cc)) = W9 := ⟨_, rfl⟩
  rw [hW9] at bb kb ⊢
  obtain ⟨g0, g1, _⟩ := bk2t bb
  exact bodyPost_ret (v := .tuple #[.agg #[.int .i64 n, .slice A len cc], .int .i64 e]) (by simp [results, Tryz.results9, go_sem, g0, g1]; try rfl) rfl (H.out n A len cc l e k' a' W9 hs (((Kq.of0 KW.out).trans q2).thn kb hBB (by intro s hs; simp at hs; omega)) ⟨n2.1.offA kb (fun e he => Off.one hrt he), n2.2⟩ hl (ht.kp kb (Off.one hrt (by decide))))
set_option maxHeartbeats 4000000 in
theorem kc_9 (hK : Kn w B a k) (hm : k.cnt m) (hm2 : m ≤ 10000) (x : Kc) (hx : x.ok w) (he1 : 1 ≤ x.env) (he2 : x.env ≤ 2) (hop : x.op = 9)
    (h : (∀ n A len cc l e k' a' w', Hid (kStep k x n l e k') → Kq B w w' → (Kn w' B a' k' ∧ a'.g = a.g ∧ a'.bT = a.bT) → l.length = len → Tb w' 5 A (bts l) → R (.returned (.tuple #[.agg #[.int .i64 n, .slice A len cc], .int .i64 e])) w')) :
    Calls Tryz.prog 9 #[.pointer (some ⟨a.g, 0, none⟩), .agg #[.int .i64 9, .int .i64 x.env, .int .i64 x.a, .int .i64 x.b, .int .i64 x.c, .slice x.A5 x.n5 x.c5, .slice x.A6 x.n6 x.c6, .slice x.A7 x.n7 x.c7]] w R := by
  have H := Lib.hid h
  have HK := Lib.hid hK
  have HX := Lib.hid hx
  have HM := Lib.hid hm
  have HF : Hid (∀ (R : Ending → World → Prop) (w1 : World), Kp [] w w1 → (∀ n A len cc l e k' a' w', Hid (kStep k x n l e k') → Kq B w1 w' → (Kn w' B a' k' ∧ a'.g = a.g ∧ a'.bT = a.bT) → l.length = len → Tb w' 5 A (bts l) → R (.returned (.tuple #[.agg #[.int .i64 n, .slice A len cc], .int .i64 e])) w') → Calls Tryz.prog 48 #[.pointer (some ⟨a.g, 0, none⟩), .agg #[.int .i64 9, .int .i64 x.env, .int .i64 x.a, .int .i64 x.b, .int .i64 x.c, .slice x.A5 x.n5 x.c5, .slice x.A6 x.n6 x.c6, .slice x.A7 x.n7 x.c7]] w1 R) := Lib.hid (fun R w1 k1 h => kbind_any (HK.out.off0 k1) HM.out hm2 x (HX.out.kp k1) (fun n e k' a' w' hs q n9 => h n none 0 0 [] e k' a' w' (Lib.hid (by unfold kStep; rw [if_neg (by omega), if_neg (by omega), if_pos hop]; exact ⟨hs.out, rfl⟩)) q n9 rfl Tb.nil))
  clear h hK hx hm
  have hn1 : ¬ x.env < 1 := by omega
  have hn2 : ¬ 2 < x.env := by omega
  go_enter Tryz.func9, Tryz.ntmps9
  go_upto_region 1 with (fail)
  refine gen_worldK (fun W => ∃ cb, w.heap.size = cb ∧ Kp [] w W ∧ Bk W cb 45 (x.cs 9) ∧ Bk W (cb + 1) 39 [.int .i64 0, .slice none 0 0]) ⟨_, rfl, ((Kp.refl _ _).alloc _).alloc _, ((Bk.new' _ _ _).alloc _).cast rfl, (Bk.newAt (by simp) _ _).cast rfl⟩ ?_
  rintro W ⟨cb, hcb, kW, bC, bR⟩
  rw [hcb]
  have hb0 : w.heap.size ≤ cb := by omega
  obtain ⟨p0, p1, p2, p3, p4, p5, p6, p7⟩ := bk8 bC
  have BR := Lib.hid bR
  have KW := Lib.hid kW
  have hBB := HK.out.hB
  clear bC bR kW
  go_wp2_with (go_at_call 48; ((refine HF.out _ _ KW.out ?_); intro n A len cc l e k' a' w2 hs q2 n2 hl ht; have r2 := q2.bk BR.out (by decide); obtain ⟨s0, s1, f0, f1⟩ := bk2t r2; have R2 := Lib.hid r2; clear r2))
  obtain ⟨bb, kb⟩ := bk2set R2.out (.int .i64 n) (.slice A len cc)
  have hrt := Bk.ty R2.out
  obtain ⟨W9, hW9⟩ : ∃ W9, ((w2.setCell ⟨cb + 1, 0, none⟩ (.int .i64 n)).setCell ⟨cb + 1, 1, none⟩ (.slice A len cc)) = W9 := ⟨_, rfl⟩
  rw [hW9] at bb kb ⊢
  obtain ⟨g0, g1, _⟩ := bk2t bb
  exact bodyPost_ret (v := .tuple #[.agg #[.int .i64 n, .slice A len cc], .int .i64 e]) (by simp [results, Tryz.results9, go_sem, g0, g1]; try rfl) rfl (H.out n A len cc l e k' a' W9 hs (((Kq.of0 KW.out).trans q2).thn kb hBB (by intro s hs; simp at hs; omega)) ⟨n2.1.offA kb (fun e he => Off.one hrt he), n2.2⟩ hl (ht.kp kb (Off.one hrt (by decide))))
set_option maxHeartbeats 4000000 in
theorem kc_10 (hK : Kn w B a k) (hm : k.cnt m) (hm2 : m ≤ 10000) (x : Kc) (hx : x.ok w) (he1 : 1 ≤ x.env) (he2 : x.env ≤ 2) (hop : x.op = 10)
    (h : (∀ n A len cc l e k' a' w', Hid (kStep k x n l e k') → Kq B w w' → (Kn w' B a' k' ∧ a'.g = a.g ∧ a'.bT = a.bT) → l.length = len → Tb w' 5 A (bts l) → R (.returned (.tuple #[.agg #[.int .i64 n, .slice A len cc], .int .i64 e])) w')) :
    Calls Tryz.prog 9 #[.pointer (some ⟨a.g, 0, none⟩), .agg #[.int .i64 10, .int .i64 x.env, .int .i64 x.a, .int .i64 x.b, .int .i64 x.c, .slice x.A5 x.n5 x.c5, .slice x.A6 x.n6 x.c6, .slice x.A7 x.n7 x.c7]] w R := by
  have H := Lib.hid h
  have HK := Lib.hid hK
  have HX := Lib.hid hx
  have HM := Lib.hid hm
  have HF : Hid (∀ (R : Ending → World → Prop) (w1 : World), Kp [] w w1 → (∀ n A len cc l e k' a' w', Hid (kStep k x n l e k') → Kq B w1 w' → (Kn w' B a' k' ∧ a'.g = a.g ∧ a'.bT = a.bT) → l.length = len → Tb w' 5 A (bts l) → R (.returned (.tuple #[.agg #[.int .i64 n, .slice A len cc], .int .i64 e])) w') → Calls Tryz.prog 49 #[.pointer (some ⟨a.g, 0, none⟩), .agg #[.int .i64 10, .int .i64 x.env, .int .i64 x.a, .int .i64 x.b, .int .i64 x.c, .slice x.A5 x.n5 x.c5, .slice x.A6 x.n6 x.c6, .slice x.A7 x.n7 x.c7]] w1 R) := Lib.hid (fun R w1 k1 h => kunb_any (HK.out.off0 k1) HM.out hm2 x (HX.out.kp k1) (fun e k' a' w' hs q n9 => h 0 none 0 0 [] e k' a' w' (Lib.hid (by unfold kStep; rw [if_neg (by omega), if_neg (by omega), if_neg (by omega), if_pos hop]; exact ⟨hs.out, rfl, rfl⟩)) q n9 rfl Tb.nil))
  clear h hK hx hm
  have hn1 : ¬ x.env < 1 := by omega
  have hn2 : ¬ 2 < x.env := by omega
  go_enter Tryz.func9, Tryz.ntmps9
  go_upto_region 1 with (fail)
  refine gen_worldK (fun W => ∃ cb, w.heap.size = cb ∧ Kp [] w W ∧ Bk W cb 45 (x.cs 10) ∧ Bk W (cb + 1) 39 [.int .i64 0, .slice none 0 0]) ⟨_, rfl, ((Kp.refl _ _).alloc _).alloc _, ((Bk.new' _ _ _).alloc _).cast rfl, (Bk.newAt (by simp) _ _).cast rfl⟩ ?_
  rintro W ⟨cb, hcb, kW, bC, bR⟩
  rw [hcb]
  have hb0 : w.heap.size ≤ cb := by omega
  obtain ⟨p0, p1, p2, p3, p4, p5, p6, p7⟩ := bk8 bC
  have BR := Lib.hid bR
  have KW := Lib.hid kW
  have hBB := HK.out.hB
  clear bC bR kW
  go_wp2_with (go_at_call 49; ((refine HF.out _ _ KW.out ?_); intro n A len cc l e k' a' w2 hs q2 n2 hl ht; have r2 := q2.bk BR.out (by decide); obtain ⟨s0, s1, f0, f1⟩ := bk2t r2; have R2 := Lib.hid r2; clear r2))
  obtain ⟨bb, kb⟩ := bk2set R2.out (.int .i64 n) (.slice A len cc)
  have hrt := Bk.ty R2.out
  obtain ⟨W9, hW9⟩ : ∃ W9, ((w2.setCell ⟨cb + 1, 0, none⟩ (.int .i64 n)).setCell ⟨cb + 1, 1, none⟩ (.slice A len cc)) = W9 := ⟨_, rfl⟩
  rw [hW9] at bb kb ⊢
  obtain ⟨g0, g1, _⟩ := bk2t bb
  exact bodyPost_ret (v := .tuple #[.agg #[.int .i64 n, .slice A len cc], .int .i64 e]) (by simp [results, Tryz.results9, go_sem, g0, g1]; try rfl) rfl (H.out n A len cc l e k' a' W9 hs (((Kq.of0 KW.out).trans q2).thn kb hBB (by intro s hs; simp at hs; omega)) ⟨n2.1.offA kb (fun e he => Off.one hrt he), n2.2⟩ hl (ht.kp kb (Off.one hrt (by decide))))
set_option maxHeartbeats 4000000 in
theorem kc_11 (hK : Kn w B a k) (hm : k.cnt m) (hm2 : m ≤ 10000) (x : Kc) (hx : x.ok w) (he1 : 1 ≤ x.env) (he2 : x.env ≤ 2) (hop : x.op = 11)
    (h : (∀ n A len cc l e k' a' w', Hid (kStep k x n l e k') → Kq B w w' → (Kn w' B a' k' ∧ a'.g = a.g ∧ a'.bT = a.bT) → l.length = len → Tb w' 5 A (bts l) → R (.returned (.tuple #[.agg #[.int .i64 n, .slice A len cc], .int .i64 e])) w')) :
    Calls Tryz.prog 9 #[.pointer (some ⟨a.g, 0, none⟩), .agg #[.int .i64 11, .int .i64 x.env, .int .i64 x.a, .int .i64 x.b, .int .i64 x.c, .slice x.A5 x.n5 x.c5, .slice x.A6 x.n6 x.c6, .slice x.A7 x.n7 x.c7]] w R := by
  have H := Lib.hid h
  have HK := Lib.hid hK
  have HX := Lib.hid hx
  have HM := Lib.hid hm
  have HF : Hid (∀ (R : Ending → World → Prop) (w1 : World), Kp [] w w1 → (∀ n A len cc l e k' a' w', Hid (kStep k x n l e k') → Kq B w1 w' → (Kn w' B a' k' ∧ a'.g = a.g ∧ a'.bT = a.bT) → l.length = len → Tb w' 5 A (bts l) → R (.returned (.tuple #[.agg #[.int .i64 n, .slice A len cc], .int .i64 e])) w') → Calls Tryz.prog 50 #[.pointer (some ⟨a.g, 0, none⟩), .agg #[.int .i64 11, .int .i64 x.env, .int .i64 x.a, .int .i64 x.b, .int .i64 x.c, .slice x.A5 x.n5 x.c5, .slice x.A6 x.n6 x.c6, .slice x.A7 x.n7 x.c7]] w1 R) := Lib.hid (fun R w1 k1 h => ksend_any (HK.out.off0 k1) HM.out hm2 x (HX.out.kp k1) (fun n e k' a' w' hs q n9 => h n none 0 0 [] e k' a' w' (Lib.hid (by unfold kStep; rw [if_neg (by omega), if_neg (by omega), if_neg (by omega), if_neg (by omega), if_pos hop]; exact ⟨hs.out, rfl⟩)) q n9 rfl Tb.nil))
  clear h hK hx hm
  have hn1 : ¬ x.env < 1 := by omega
  have hn2 : ¬ 2 < x.env := by omega
  go_enter Tryz.func9, Tryz.ntmps9
  go_upto_region 1 with (fail)
  refine gen_worldK (fun W => ∃ cb, w.heap.size = cb ∧ Kp [] w W ∧ Bk W cb 45 (x.cs 11) ∧ Bk W (cb + 1) 39 [.int .i64 0, .slice none 0 0]) ⟨_, rfl, ((Kp.refl _ _).alloc _).alloc _, ((Bk.new' _ _ _).alloc _).cast rfl, (Bk.newAt (by simp) _ _).cast rfl⟩ ?_
  rintro W ⟨cb, hcb, kW, bC, bR⟩
  rw [hcb]
  have hb0 : w.heap.size ≤ cb := by omega
  obtain ⟨p0, p1, p2, p3, p4, p5, p6, p7⟩ := bk8 bC
  have BR := Lib.hid bR
  have KW := Lib.hid kW
  have hBB := HK.out.hB
  clear bC bR kW
  go_wp2_with (go_at_call 50; ((refine HF.out _ _ KW.out ?_); intro n A len cc l e k' a' w2 hs q2 n2 hl ht; have r2 := q2.bk BR.out (by decide); obtain ⟨s0, s1, f0, f1⟩ := bk2t r2; have R2 := Lib.hid r2; clear r2))
  obtain ⟨bb, kb⟩ := bk2set R2.out (.int .i64 n) (.slice A len cc)
  have hrt := Bk.ty R2.out
  obtain ⟨W9, hW9⟩ : ∃ W9, ((w2.setCell ⟨cb + 1, 0, none⟩ (.int .i64 n)).setCell ⟨cb + 1, 1, none⟩ (.slice A len cc)) = W9 := ⟨_, rfl⟩
  rw [hW9] at bb kb ⊢
  obtain ⟨g0, g1, _⟩ := bk2t bb
  exact bodyPost_ret (v := .tuple #[.agg #[.int .i64 n, .slice A len cc], .int .i64 e]) (by simp [results, Tryz.results9, go_sem, g0, g1]; try rfl) rfl (H.out n A len cc l e k' a' W9 hs (((Kq.of0 KW.out).trans q2).thn kb hBB (by intro s hs; simp at hs; omega)) ⟨n2.1.offA kb (fun e he => Off.one hrt he), n2.2⟩ hl (ht.kp kb (Off.one hrt (by decide))))
set_option maxHeartbeats 4000000 in
theorem kc_13 (hK : Kn w B a k) (hm : k.cnt m) (hm2 : m ≤ 10000) (x : Kc) (hx : x.ok w) (he1 : 1 ≤ x.env) (he2 : x.env ≤ 2) (hop : x.op = 13)
    (h : (∀ n A len cc l e k' a' w', Hid (kStep k x n l e k') → Kq B w w' → (Kn w' B a' k' ∧ a'.g = a.g ∧ a'.bT = a.bT) → l.length = len → Tb w' 5 A (bts l) → R (.returned (.tuple #[.agg #[.int .i64 n, .slice A len cc], .int .i64 e])) w')) :
    Calls Tryz.prog 9 #[.pointer (some ⟨a.g, 0, none⟩), .agg #[.int .i64 13, .int .i64 x.env, .int .i64 x.a, .int .i64 x.b, .int .i64 x.c, .slice x.A5 x.n5 x.c5, .slice x.A6 x.n6 x.c6, .slice x.A7 x.n7 x.c7]] w R := by
  have H := Lib.hid h
  have HK := Lib.hid hK
  have HX := Lib.hid hx
  have HM := Lib.hid hm
  clear h hK hx hm
  have hn1 : ¬ x.env < 1 := by omega
  have hn2 : ¬ 2 < x.env := by omega
  go_enter Tryz.func9, Tryz.ntmps9
  go_upto_region 1 with (fail)
  refine gen_worldK (fun W => ∃ cb, w.heap.size = cb ∧ Kp [] w W ∧ Bk W cb 45 (x.cs 13) ∧ Bk W (cb + 1) 39 [.int .i64 0, .slice none 0 0]) ⟨_, rfl, ((Kp.refl _ _).alloc _).alloc _, ((Bk.new' _ _ _).alloc _).cast rfl, (Bk.newAt (by simp) _ _).cast rfl⟩ ?_
  rintro W ⟨cb, hcb, kW, bC, bR⟩
  rw [hcb]
  have hb0 : w.heap.size ≤ cb := by omega
  obtain ⟨p0, p1, p2, p3, p4, p5, p6, p7⟩ := bk8 bC
  have BR := Lib.hid bR
  have KW := Lib.hid kW
  have hBB := HK.out.hB
  have c8 : W.cell? ⟨a.g, 8, none⟩ = some (.int .i64 k.dn) := (HK.out.off0 kW).cell 8
  obtain ⟨s0, s1, f0, f1⟩ := bk2t bR
  clear bC bR kW
  go_wp2
  obtain ⟨bb, kb⟩ := bk2set BR.out (.int .i64 k.dn) (.slice none 0 0)
  have hrt := Bk.ty BR.out
  obtain ⟨W9, hW9⟩ : ∃ W9, ((W.setCell ⟨cb + 1, 0, none⟩ (.int .i64 k.dn)).setCell ⟨cb + 1, 1, none⟩ (.slice none 0 0)) = W9 := ⟨_, rfl⟩
  rw [hW9] at bb kb ⊢
  obtain ⟨g0, g1, _⟩ := bk2t bb
  exact bodyPost_ret (v := .tuple #[.agg #[.int .i64 k.dn, .slice none 0 0], .int .i64 0]) (by simp [results, Tryz.results9, go_sem, g0, g1]; try rfl) rfl (H.out k.dn none 0 0 [] 0 k a W9 (Lib.hid (by simp [kStep, hop]; omega)) (Kq.of0 (KW.out.thn kb (fun s hs => .inr (by simp at hs; omega)))) ⟨HK.out.off0 (KW.out.thn kb (fun s hs => .inr (by simp at hs; omega))), rfl, rfl⟩ rfl Tb.nil)
set_option maxHeartbeats 4000000 in
theorem kc_12_1 (hK : Kn w B a k) (hm : k.cnt m) (hm2 : m ≤ 10000) (x : Kc) (hx : x.ok w) (hop : x.op = 12) (he : x.env = 1)
    (h : (∀ n A len cc l e k' a' w', Hid (kStep k x n l e k') → Kq B w w' → (Kn w' B a' k' ∧ a'.g = a.g ∧ a'.bT = a.bT) → l.length = len → Tb w' 5 A (bts l) → R (.returned (.tuple #[.agg #[.int .i64 n, .slice A len cc], .int .i64 e])) w')) :
    Calls Tryz.prog 9 #[.pointer (some ⟨a.g, 0, none⟩), .agg #[.int .i64 12, .int .i64 1, .int .i64 x.a, .int .i64 x.b, .int .i64 x.c, .slice x.A5 x.n5 x.c5, .slice x.A6 x.n6 x.c6, .slice x.A7 x.n7 x.c7]] w R := by
  have H := Lib.hid h
  have HK := Lib.hid hK
  have HX := Lib.hid hx
  have HM := Lib.hid hm
  clear h hK hx hm
  go_enter Tryz.func9, Tryz.ntmps9
  go_upto_region 1 with (fail)
  refine gen_worldK (fun W => ∃ cb, w.heap.size = cb ∧ Kp [] w W ∧ Bk W cb 45 (x.cs 12) ∧ Bk W (cb + 1) 39 [.int .i64 0, .slice none 0 0]) ⟨_, rfl, ((Kp.refl _ _).alloc _).alloc _, ((Bk.new' _ _ _).alloc _).cast (by simp [Kc.cs, he]), (Bk.newAt (by simp) _ _).cast rfl⟩ ?_
  rintro W ⟨cb, hcb, kW, bC, bR⟩
  rw [hcb]
  have hb0 : w.heap.size ≤ cb := by omega
  obtain ⟨p0, p1, p2, p3, p4, p5, p6, p7⟩ := bk8 bC
  have BR := Lib.hid bR
  have KW := Lib.hid kW
  have hBB := HK.out.hB
  have kn := HK.out.off0 kW
  have KN := Lib.hid kn
  have BC := Lib.hid bC
  rw [he] at p1
  have HS : Hid (∀ w', Kp ([a.s1, a.r1] ++ [cb + 1]) W w' → w'.cell? ⟨a.g, 5, none⟩ = some (.pointer (some ⟨a.s1, 0, none⟩)) ∧ w'.cell? ⟨cb, 1, none⟩ = some (.int .i64 1)) := Lib.hid (fun w' k' => by
    have o1 : ∀ e, 199 ≠ e → 37 ≠ e → 39 ≠ e → Off W ([a.s1, a.r1] ++ [cb + 1]) e := fun e h1 h2 h3 => Off.app (Off.app (S := [a.s1]) (S' := [a.r1]) (Off.one KN.out.i1.hs.ty h1) (Off.one KN.out.r1 h2)) (Off.one BR.out.ty h3)
    exact ⟨(KN.out.g.off k' (o1 _ (by decide) (by decide) (by decide))).cell 5, by rw [← he]; exact (BC.out.off k' (o1 _ (by decide) (by decide) (by decide))).cell 1⟩)
  have HR2 : Hid (∀ w', Kp [a.s1, a.r1] W w' → Bk w' (cb + 1) 39 [.int .i64 0, .slice none 0 0]) := Lib.hid (fun w' k' => BR.out.off k' (Off.app (S := [a.s1]) (S' := [a.r1]) (Off.one KN.out.i1.hs.ty (by decide)) (Off.one KN.out.r1 (by decide))))
  have hc1 := HM.out.c1
  obtain ⟨q0, q1⟩ := HS.out W (Kp.refl _ _)
  obtain ⟨⟨j0, j1⟩, ⟨j2, j3⟩⟩ := bk2 bR
  clear bC bR kW kn
  go_upto_region 17 with (fail)
  have HT : Hid (∀ (R : Ending → World → Prop) (w1 : World), Kp [] W w1 → (∀ A len cc l e k' w', Hid (kStep k x 0 l e k') → Kp [a.s1, a.r1] w1 w' → Kn w' B a k' → l.length = len → Tb w' 5 A (bts l) → R (.returned (.tuple #[.slice A len cc, .int .i64 e])) w') → Calls Tryz.prog 52 #[.pointer (some ⟨a.s1, 0, none⟩)] w1 R) := Lib.hid (fun R w1 k1 h => by
    have kn1 := KN.out.off0 k1
    refine rtake_any kn1.i1 kn1.new.n1 (by omega) (fun hq w' kk => h none 0 0 [] 11 k w' (Lib.hid ?_) (kk.mono (by simp)) (kn1.off0 kk) rfl Tb.nil) (fun y q hq w' kk rr tb => h y.A y.n y.c y.l 0 _ w' (Lib.hid ?_) kk (kn1.set1 kk rr).1 (kn1.i1.data y (by rw [hq.out]; simp)).1 tb)
    · simp [kStep, hop, he, hq]
    · simp only [kStep, hop, he]
      simp [hq.out])
  go_region_held_law (fun w' => w'.cell? ⟨a.g, 5, none⟩ = some (.pointer (some ⟨a.s1, 0, none⟩)) ∧ w'.cell? ⟨cb, 1, none⟩ = some (.int .i64 1)) ((refine HS.out _ ?_; repeat (first | with_reducible exact kk3.mono (fun s hs => .inl (List.mem_append_left _ hs)) | with_reducible exact kk2.mono (fun s hs => .inl (List.mem_append_left _ hs)) | with_reducible exact Kp.refl _ _ | with_reducible refine Kp.drew ?_ | with_reducible refine Kp.setCell ?_ (.inl (by simp)) _))) (first | (go_simp; go_at_call 52; (refine HT.out _ _ (by repeat (first | with_reducible exact Kp.refl _ _ | with_reducible refine Kp.drew ?_)) ?_); intro A len cc l e k' w2 hs k2 n2 hl ht; have kk2 : Kp [a.s1, a.r1] W w2 := Kp.trans (by repeat (first | with_reducible exact Kp.refl _ _ | with_reducible refine Kp.drew ?_)) k2) | (go_simp; go_at_call 51; (refine told_any _ _ _ _ _ ?_); intro w3 k3; have kk3 : Kp [a.s1, a.r1] W w3 := kk2.trans (k3.mono (by simp)); have r3 := HR2.out w3 kk3; obtain ⟨⟨u0, u1⟩, ⟨v0, v1⟩⟩ := bk2 r3))
  all_goals
   have R3 := Lib.hid r3
   clear r3
   go_wp2
   obtain ⟨bb, kb⟩ := bk2set R3.out (.int .i64 0) (.slice A len cc)
   have hrt := Bk.ty R3.out
   obtain ⟨W9, hW9⟩ : ∃ W9, ((w3.setCell ⟨cb + 1, 0, none⟩ (.int .i64 0)).setCell ⟨cb + 1, 1, none⟩ (.slice A len cc)) = W9 := ⟨_, rfl⟩
   rw [hW9] at bb kb ⊢
   obtain ⟨g0, g1, _⟩ := bk2t bb
   exact bodyPost_ret (v := .tuple #[.agg #[.int .i64 0, .slice A len cc], .int .i64 e]) (by simp [results, Tryz.results9, go_sem, g0, g1]; try rfl) rfl (H.out 0 A len cc l e k' a W9 hs (Kq.thn (Kq.of (((KW.out.mono (by simp)).trans kk2).trans (k3.mono (by simp))) (by intro s hs; simp at hs; rcases hs with rfl | rfl; exact HK.out.new.s1; exact HK.out.new.r1) (fun e he => Off.app (S := [a.s1]) (S' := [a.r1]) (Off.one HK.out.i1.hs.ty (by rintro rfl; exact he (by decide))) (Off.one HK.out.r1 (by rintro rfl; exact he (by decide))))) kb hBB (by intro s hs; simp at hs; omega)) ⟨(n2.off0 k3).offA kb (fun e he => Off.one hrt he), rfl, rfl⟩ hl ((ht.kp k3 (Off.nil _ _)).kp kb (Off.one hrt (by decide))))
set_option maxHeartbeats 4000000 in
theorem kc_12_2 (hK : Kn w B a k) (hm : k.cnt m) (hm2 : m ≤ 10000) (x : Kc) (hx : x.ok w) (hop : x.op = 12) (he : x.env = 2)
    (h : (∀ n A len cc l e k' a' w', Hid (kStep k x n l e k') → Kq B w w' → (Kn w' B a' k' ∧ a'.g = a.g ∧ a'.bT = a.bT) → l.length = len → Tb w' 5 A (bts l) → R (.returned (.tuple #[.agg #[.int .i64 n, .slice A len cc], .int .i64 e])) w')) :
    Calls Tryz.prog 9 #[.pointer (some ⟨a.g, 0, none⟩), .agg #[.int .i64 12, .int .i64 2, .int .i64 x.a, .int .i64 x.b, .int .i64 x.c, .slice x.A5 x.n5 x.c5, .slice x.A6 x.n6 x.c6, .slice x.A7 x.n7 x.c7]] w R := by
  have H := Lib.hid h
  have HK := Lib.hid hK
  have HX := Lib.hid hx
  have HM := Lib.hid hm
  clear h hK hx hm
  go_enter Tryz.func9, Tryz.ntmps9
  go_upto_region 1 with (fail)
  refine gen_worldK (fun W => ∃ cb, w.heap.size = cb ∧ Kp [] w W ∧ Bk W cb 45 (x.cs 12) ∧ Bk W (cb + 1) 39 [.int .i64 0, .slice none 0 0]) ⟨_, rfl, ((Kp.refl _ _).alloc _).alloc _, ((Bk.new' _ _ _).alloc _).cast (by simp [Kc.cs, he]), (Bk.newAt (by simp) _ _).cast rfl⟩ ?_
  rintro W ⟨cb, hcb, kW, bC, bR⟩
  rw [hcb]
  have hb0 : w.heap.size ≤ cb := by omega
  obtain ⟨p0, p1, p2, p3, p4, p5, p6, p7⟩ := bk8 bC
  have BR := Lib.hid bR
  have KW := Lib.hid kW
  have hBB := HK.out.hB
  have kn := HK.out.off0 kW
  have KN := Lib.hid kn
  have BC := Lib.hid bC
  rw [he] at p1
  have HS : Hid (∀ w', Kp ([a.s2, a.r2] ++ [cb + 1]) W w' → w'.cell? ⟨a.g, 6, none⟩ = some (.pointer (some ⟨a.s2, 0, none⟩)) ∧ w'.cell? ⟨cb, 1, none⟩ = some (.int .i64 2)) := Lib.hid (fun w' k' => by
    have o1 : ∀ e, 199 ≠ e → 37 ≠ e → 39 ≠ e → Off W ([a.s2, a.r2] ++ [cb + 1]) e := fun e h1 h2 h3 => Off.app (Off.app (S := [a.s2]) (S' := [a.r2]) (Off.one KN.out.i2.hs.ty h1) (Off.one KN.out.r2 h2)) (Off.one BR.out.ty h3)
    exact ⟨(KN.out.g.off k' (o1 _ (by decide) (by decide) (by decide))).cell 6, by rw [← he]; exact (BC.out.off k' (o1 _ (by decide) (by decide) (by decide))).cell 1⟩)
  have HR2 : Hid (∀ w', Kp [a.s2, a.r2] W w' → Bk w' (cb + 1) 39 [.int .i64 0, .slice none 0 0]) := Lib.hid (fun w' k' => BR.out.off k' (Off.app (S := [a.s2]) (S' := [a.r2]) (Off.one KN.out.i2.hs.ty (by decide)) (Off.one KN.out.r2 (by decide))))
  have hc2 := HM.out.c2
  obtain ⟨q0, q1⟩ := HS.out W (Kp.refl _ _)
  obtain ⟨⟨j0, j1⟩, ⟨j2, j3⟩⟩ := bk2 bR
  clear bC bR kW kn
  go_upto_region 17 with (fail)
  have HT : Hid (∀ (R : Ending → World → Prop) (w1 : World), Kp [] W w1 → (∀ A len cc l e k' w', Hid (kStep k x 0 l e k') → Kp [a.s2, a.r2] w1 w' → Kn w' B a k' → l.length = len → Tb w' 5 A (bts l) → R (.returned (.tuple #[.slice A len cc, .int .i64 e])) w') → Calls Tryz.prog 52 #[.pointer (some ⟨a.s2, 0, none⟩)] w1 R) := Lib.hid (fun R w1 k1 h => by
    have kn1 := KN.out.off0 k1
    refine rtake_any kn1.i2 kn1.new.n2 (by omega) (fun hq w' kk => h none 0 0 [] 11 k w' (Lib.hid ?_) (kk.mono (by simp)) (kn1.off0 kk) rfl Tb.nil) (fun y q hq w' kk rr tb => h y.A y.n y.c y.l 0 _ w' (Lib.hid ?_) kk (kn1.set2 kk rr).1 (kn1.i2.data y (by rw [hq.out]; simp)).1 tb)
    · simp [kStep, hop, he, hq]
    · simp only [kStep, hop, he]
      simp [hq.out])
  go_region_held_law (fun w' => w'.cell? ⟨a.g, 6, none⟩ = some (.pointer (some ⟨a.s2, 0, none⟩)) ∧ w'.cell? ⟨cb, 1, none⟩ = some (.int .i64 2)) ((refine HS.out _ ?_; repeat (first | with_reducible exact kk3.mono (fun s hs => .inl (List.mem_append_left _ hs)) | with_reducible exact kk2.mono (fun s hs => .inl (List.mem_append_left _ hs)) | with_reducible exact Kp.refl _ _ | with_reducible refine Kp.drew ?_ | with_reducible refine Kp.setCell ?_ (.inl (by simp)) _))) (first | (go_simp; go_at_call 52; (refine HT.out _ _ (by repeat (first | with_reducible exact Kp.refl _ _ | with_reducible refine Kp.drew ?_)) ?_); intro A len cc l e k' w2 hs k2 n2 hl ht; have kk2 : Kp [a.s2, a.r2] W w2 := Kp.trans (by repeat (first | with_reducible exact Kp.refl _ _ | with_reducible refine Kp.drew ?_)) k2) | (go_simp; go_at_call 51; (refine told_any _ _ _ _ _ ?_); intro w3 k3; have kk3 : Kp [a.s2, a.r2] W w3 := kk2.trans (k3.mono (by simp)); have r3 := HR2.out w3 kk3; obtain ⟨⟨u0, u1⟩, ⟨v0, v1⟩⟩ := bk2 r3))
  all_goals
   have R3 := Lib.hid r3
   clear r3
   go_wp2
   obtain ⟨bb, kb⟩ := bk2set R3.out (.int .i64 0) (.slice A len cc)
   have hrt := Bk.ty R3.out
   obtain ⟨W9, hW9⟩ : ∃ W9, ((w3.setCell ⟨cb + 1, 0, none⟩ (.int .i64 0)).setCell ⟨cb + 1, 1, none⟩ (.slice A len cc)) = W9 := ⟨_, rfl⟩
   rw [hW9] at bb kb ⊢
   obtain ⟨g0, g1, _⟩ := bk2t bb
   exact bodyPost_ret (v := .tuple #[.agg #[.int .i64 0, .slice A len cc], .int .i64 e]) (by simp [results, Tryz.results9, go_sem, g0, g1]; try rfl) rfl (H.out 0 A len cc l e k' a W9 hs (Kq.thn (Kq.of (((KW.out.mono (by simp)).trans kk2).trans (k3.mono (by simp))) (by intro s hs; simp at hs; rcases hs with rfl | rfl; exact HK.out.new.s2; exact HK.out.new.r2) (fun e he => Off.app (S := [a.s2]) (S' := [a.r2]) (Off.one HK.out.i2.hs.ty (by rintro rfl; exact he (by decide))) (Off.one HK.out.r2 (by rintro rfl; exact he (by decide))))) kb hBB (by intro s hs; simp at hs; omega)) ⟨(n2.off0 k3).offA kb (fun e he => Off.one hrt he), rfl, rfl⟩ hl ((ht.kp k3 (Off.nil _ _)).kp kb (Off.one hrt (by decide))))
set_option maxHeartbeats 4000000 in
theorem kc_b1 (hK : Kn w B a k) (hm : k.cnt m) (hm2 : m ≤ 10000) (x : Kc) (hx : x.ok w) (hbad : x.env < 1)
    (h : (∀ n A len cc l e k' a' w', Hid (kStep k x n l e k') → Kq B w w' → (Kn w' B a' k' ∧ a'.g = a.g ∧ a'.bT = a.bT) → l.length = len → Tb w' 5 A (bts l) → R (.returned (.tuple #[.agg #[.int .i64 n, .slice A len cc], .int .i64 e])) w')) :
    Calls Tryz.prog 9 #[.pointer (some ⟨a.g, 0, none⟩), .agg #[.int .i64 x.op, .int .i64 x.env, .int .i64 x.a, .int .i64 x.b, .int .i64 x.c, .slice x.A5 x.n5 x.c5, .slice x.A6 x.n6 x.c6, .slice x.A7 x.n7 x.c7]] w R := by
  have H := Lib.hid h
  have HK := Lib.hid hK
  have HX := Lib.hid hx
  have HM := Lib.hid hm
  clear h hK hx hm
  go_enter Tryz.func9, Tryz.ntmps9
  go_upto_region 1 with (fail)
  refine gen_worldK (fun W => ∃ cb, w.heap.size = cb ∧ Kp [] w W ∧ Bk W cb 45 (x.cs x.op) ∧ Bk W (cb + 1) 39 [.int .i64 0, .slice none 0 0]) ⟨_, rfl, ((Kp.refl _ _).alloc _).alloc _, ((Bk.new' _ _ _).alloc _).cast rfl, (Bk.newAt (by simp) _ _).cast rfl⟩ ?_
  rintro W ⟨cb, hcb, kW, bC, bR⟩
  rw [hcb]
  have hb0 : w.heap.size ≤ cb := by omega
  obtain ⟨p0, p1, p2, p3, p4, p5, p6, p7⟩ := bk8 bC
  have BR := Lib.hid bR
  have KW := Lib.hid kW
  have hBB := HK.out.hB
  obtain ⟨s0, s1, f0, f1⟩ := bk2t bR
  clear bC bR kW
  go_wp2
  obtain ⟨bb, kb⟩ := bk2set BR.out (.int .i64 0) (.slice none 0 0)
  have hrt := Bk.ty BR.out
  obtain ⟨W9, hW9⟩ : ∃ W9, ((W.setCell ⟨cb + 1, 0, none⟩ (.int .i64 0)).setCell ⟨cb + 1, 1, none⟩ (.slice none 0 0)) = W9 := ⟨_, rfl⟩
  rw [hW9] at bb kb ⊢
  obtain ⟨g0, g1, _⟩ := bk2t bb
  exact bodyPost_ret (v := .tuple #[.agg #[.int .i64 0, .slice none 0 0], .int .i64 1]) (by simp [results, Tryz.results9, go_sem, g0, g1]; try rfl) rfl (H.out 0 none 0 0 [] 1 k a W9 (Lib.hid (by unfold kStep; rw [if_pos (by omega)]; exact ⟨rfl, rfl, rfl, rfl⟩)) (Kq.of0 (KW.out.thn kb (fun s hs => .inr (by simp at hs; omega)))) ⟨HK.out.off0 (KW.out.thn kb (fun s hs => .inr (by simp at hs; omega))), rfl, rfl⟩ rfl Tb.nil)
set_option maxHeartbeats 4000000 in
theorem kc_b2 (hK : Kn w B a k) (hm : k.cnt m) (hm2 : m ≤ 10000) (x : Kc) (hx : x.ok w) (hbad : 2 < x.env)
    (h : (∀ n A len cc l e k' a' w', Hid (kStep k x n l e k') → Kq B w w' → (Kn w' B a' k' ∧ a'.g = a.g ∧ a'.bT = a.bT) → l.length = len → Tb w' 5 A (bts l) → R (.returned (.tuple #[.agg #[.int .i64 n, .slice A len cc], .int .i64 e])) w')) :
    Calls Tryz.prog 9 #[.pointer (some ⟨a.g, 0, none⟩), .agg #[.int .i64 x.op, .int .i64 x.env, .int .i64 x.a, .int .i64 x.b, .int .i64 x.c, .slice x.A5 x.n5 x.c5, .slice x.A6 x.n6 x.c6, .slice x.A7 x.n7 x.c7]] w R := by
  have H := Lib.hid h
  have HK := Lib.hid hK
  have HX := Lib.hid hx
  have HM := Lib.hid hm
  clear h hK hx hm
  have hn1 : ¬ x.env < 1 := by omega
  go_enter Tryz.func9, Tryz.ntmps9
  go_upto_region 1 with (fail)
  refine gen_worldK (fun W => ∃ cb, w.heap.size = cb ∧ Kp [] w W ∧ Bk W cb 45 (x.cs x.op) ∧ Bk W (cb + 1) 39 [.int .i64 0, .slice none 0 0]) ⟨_, rfl, ((Kp.refl _ _).alloc _).alloc _, ((Bk.new' _ _ _).alloc _).cast rfl, (Bk.newAt (by simp) _ _).cast rfl⟩ ?_
  rintro W ⟨cb, hcb, kW, bC, bR⟩
  rw [hcb]
  have hb0 : w.heap.size ≤ cb := by omega
  obtain ⟨p0, p1, p2, p3, p4, p5, p6, p7⟩ := bk8 bC
  have BR := Lib.hid bR
  have KW := Lib.hid kW
  have hBB := HK.out.hB
  obtain ⟨s0, s1, f0, f1⟩ := bk2t bR
  clear bC bR kW
  go_wp2
  obtain ⟨bb, kb⟩ := bk2set BR.out (.int .i64 0) (.slice none 0 0)
  have hrt := Bk.ty BR.out
  obtain ⟨W9, hW9⟩ : ∃ W9, ((W.setCell ⟨cb + 1, 0, none⟩ (.int .i64 0)).setCell ⟨cb + 1, 1, none⟩ (.slice none 0 0)) = W9 := ⟨_, rfl⟩
  rw [hW9] at bb kb ⊢
  obtain ⟨g0, g1, _⟩ := bk2t bb
  exact bodyPost_ret (v := .tuple #[.agg #[.int .i64 0, .slice none 0 0], .int .i64 1]) (by simp [results, Tryz.results9, go_sem, g0, g1]; try rfl) rfl (H.out 0 none 0 0 [] 1 k a W9 (Lib.hid (by unfold kStep; rw [if_pos (by omega)]; exact ⟨rfl, rfl, rfl, rfl⟩)) (Kq.of0 (KW.out.thn kb (fun s hs => .inr (by simp at hs; omega)))) ⟨HK.out.off0 (KW.out.thn kb (fun s hs => .inr (by simp at hs; omega))), rfl, rfl⟩ rfl Tb.nil)
set_option maxHeartbeats 4000000 in
theorem kc_b3 (hK : Kn w B a k) (hm : k.cnt m) (hm2 : m ≤ 10000) (x : Kc) (hx : x.ok w) (hbad : x.op < 1) (he1 : 1 ≤ x.env) (he2 : x.env ≤ 2)
    (h : (∀ n A len cc l e k' a' w', Hid (kStep k x n l e k') → Kq B w w' → (Kn w' B a' k' ∧ a'.g = a.g ∧ a'.bT = a.bT) → l.length = len → Tb w' 5 A (bts l) → R (.returned (.tuple #[.agg #[.int .i64 n, .slice A len cc], .int .i64 e])) w')) :
    Calls Tryz.prog 9 #[.pointer (some ⟨a.g, 0, none⟩), .agg #[.int .i64 x.op, .int .i64 x.env, .int .i64 x.a, .int .i64 x.b, .int .i64 x.c, .slice x.A5 x.n5 x.c5, .slice x.A6 x.n6 x.c6, .slice x.A7 x.n7 x.c7]] w R := by
  have H := Lib.hid h
  have HK := Lib.hid hK
  have HX := Lib.hid hx
  have HM := Lib.hid hm
  clear h hK hx hm
  have hn1 : ¬ x.env < 1 := by omega
  have hn2 : ¬ 2 < x.env := by omega
  go_enter Tryz.func9, Tryz.ntmps9
  go_upto_region 1 with (fail)
  refine gen_worldK (fun W => ∃ cb, w.heap.size = cb ∧ Kp [] w W ∧ Bk W cb 45 (x.cs x.op) ∧ Bk W (cb + 1) 39 [.int .i64 0, .slice none 0 0]) ⟨_, rfl, ((Kp.refl _ _).alloc _).alloc _, ((Bk.new' _ _ _).alloc _).cast rfl, (Bk.newAt (by simp) _ _).cast rfl⟩ ?_
  rintro W ⟨cb, hcb, kW, bC, bR⟩
  rw [hcb]
  have hb0 : w.heap.size ≤ cb := by omega
  obtain ⟨p0, p1, p2, p3, p4, p5, p6, p7⟩ := bk8 bC
  have BR := Lib.hid bR
  have KW := Lib.hid kW
  have hBB := HK.out.hB
  obtain ⟨s0, s1, f0, f1⟩ := bk2t bR
  clear bC bR kW
  go_wp2
  obtain ⟨bb, kb⟩ := bk2set BR.out (.int .i64 0) (.slice none 0 0)
  have hrt := Bk.ty BR.out
  obtain ⟨W9, hW9⟩ : ∃ W9, ((W.setCell ⟨cb + 1, 0, none⟩ (.int .i64 0)).setCell ⟨cb + 1, 1, none⟩ (.slice none 0 0)) = W9 := ⟨_, rfl⟩
  rw [hW9] at bb kb ⊢
  obtain ⟨g0, g1, _⟩ := bk2t bb
  exact bodyPost_ret (v := .tuple #[.agg #[.int .i64 0, .slice none 0 0], .int .i64 1]) (by simp [results, Tryz.results9, go_sem, g0, g1]; try rfl) rfl (H.out 0 none 0 0 [] 1 k a W9 (Lib.hid (by unfold kStep; rw [if_pos (by omega)]; exact ⟨rfl, rfl, rfl, rfl⟩)) (Kq.of0 (KW.out.thn kb (fun s hs => .inr (by simp at hs; omega)))) ⟨HK.out.off0 (KW.out.thn kb (fun s hs => .inr (by simp at hs; omega))), rfl, rfl⟩ rfl Tb.nil)
set_option maxHeartbeats 4000000 in
theorem kc_b4 (hK : Kn w B a k) (hm : k.cnt m) (hm2 : m ≤ 10000) (x : Kc) (hx : x.ok w) (hbad : 13 < x.op) (he1 : 1 ≤ x.env) (he2 : x.env ≤ 2)
    (h : (∀ n A len cc l e k' a' w', Hid (kStep k x n l e k') → Kq B w w' → (Kn w' B a' k' ∧ a'.g = a.g ∧ a'.bT = a.bT) → l.length = len → Tb w' 5 A (bts l) → R (.returned (.tuple #[.agg #[.int .i64 n, .slice A len cc], .int .i64 e])) w')) :
    Calls Tryz.prog 9 #[.pointer (some ⟨a.g, 0, none⟩), .agg #[.int .i64 x.op, .int .i64 x.env, .int .i64 x.a, .int .i64 x.b, .int .i64 x.c, .slice x.A5 x.n5 x.c5, .slice x.A6 x.n6 x.c6, .slice x.A7 x.n7 x.c7]] w R := by
  have H := Lib.hid h
  have HK := Lib.hid hK
  have HX := Lib.hid hx
  have HM := Lib.hid hm
  clear h hK hx hm
  have hn1 : ¬ x.env < 1 := by omega
  have hn2 : ¬ 2 < x.env := by omega
  have hn3 : ¬ x.op < 1 := by omega
  go_enter Tryz.func9, Tryz.ntmps9
  go_upto_region 1 with (fail)
  refine gen_worldK (fun W => ∃ cb, w.heap.size = cb ∧ Kp [] w W ∧ Bk W cb 45 (x.cs x.op) ∧ Bk W (cb + 1) 39 [.int .i64 0, .slice none 0 0]) ⟨_, rfl, ((Kp.refl _ _).alloc _).alloc _, ((Bk.new' _ _ _).alloc _).cast rfl, (Bk.newAt (by simp) _ _).cast rfl⟩ ?_
  rintro W ⟨cb, hcb, kW, bC, bR⟩
  rw [hcb]
  have hb0 : w.heap.size ≤ cb := by omega
  obtain ⟨p0, p1, p2, p3, p4, p5, p6, p7⟩ := bk8 bC
  have BR := Lib.hid bR
  have KW := Lib.hid kW
  have hBB := HK.out.hB
  obtain ⟨s0, s1, f0, f1⟩ := bk2t bR
  clear bC bR kW
  go_wp2
  obtain ⟨bb, kb⟩ := bk2set BR.out (.int .i64 0) (.slice none 0 0)
  have hrt := Bk.ty BR.out
  obtain ⟨W9, hW9⟩ : ∃ W9, ((W.setCell ⟨cb + 1, 0, none⟩ (.int .i64 0)).setCell ⟨cb + 1, 1, none⟩ (.slice none 0 0)) = W9 := ⟨_, rfl⟩
  rw [hW9] at bb kb ⊢
  obtain ⟨g0, g1, _⟩ := bk2t bb
  exact bodyPost_ret (v := .tuple #[.agg #[.int .i64 0, .slice none 0 0], .int .i64 1]) (by simp [results, Tryz.results9, go_sem, g0, g1]; try rfl) rfl (H.out 0 none 0 0 [] 1 k a W9 (Lib.hid (by unfold kStep; rw [if_pos (by omega)]; exact ⟨rfl, rfl, rfl, rfl⟩)) (Kq.of0 (KW.out.thn kb (fun s hs => .inr (by simp at hs; omega)))) ⟨HK.out.off0 (KW.out.thn kb (fun s hs => .inr (by simp at hs; omega))), rfl, rfl⟩ rfl Tb.nil)
theorem kcall_any (hK : Kn w B a k) (hm : k.cnt m) (hm2 : m ≤ 10000) (x : Kc) (hx : x.ok w)
    (h : (∀ n A len cc l e k' a' w', Hid (kStep k x n l e k') → Kq B w w' → (Kn w' B a' k' ∧ a'.g = a.g ∧ a'.bT = a.bT) → l.length = len → Tb w' 5 A (bts l) → R (.returned (.tuple #[.agg #[.int .i64 n, .slice A len cc], .int .i64 e])) w')) :
    Calls Tryz.prog 9 #[.pointer (some ⟨a.g, 0, none⟩), .agg #[.int .i64 x.op, .int .i64 x.env, .int .i64 x.a, .int .i64 x.b, .int .i64 x.c, .slice x.A5 x.n5 x.c5, .slice x.A6 x.n6 x.c6, .slice x.A7 x.n7 x.c7]] w R := by
  by_cases e1 : x.env < 1
  · exact kc_b1 hK hm hm2 x hx e1 h
  by_cases e2 : 2 < x.env
  · exact kc_b2 hK hm hm2 x hx e2 h
  have f1 : 1 ≤ x.env := by omega
  have f2 : x.env ≤ 2 := by omega
  by_cases e3 : x.op < 1
  · exact kc_b3 hK hm hm2 x hx e3 f1 f2 h
  by_cases e4 : 13 < x.op
  · exact kc_b4 hK hm hm2 x hx e4 f1 f2 h
  rcases (by omega : x.op = 1 ∨ x.op = 2 ∨ x.op = 3 ∨ x.op = 4 ∨ x.op = 5 ∨ x.op = 6 ∨ x.op = 7 ∨ x.op = 8 ∨ x.op = 9 ∨ x.op = 10 ∨ x.op = 11 ∨ x.op = 12 ∨ x.op = 13) with o | o | o | o | o | o | o | o | o | o | o | o | o
  · rw [o]; exact kc_1 hK hm hm2 x hx f1 f2 o h
  · rw [o]; exact kc_2 hK hm hm2 x hx f1 f2 o h
  · rw [o]; exact kc_3 hK hm hm2 x hx f1 f2 o h
  · rw [o]; exact kc_4 hK hm hm2 x hx f1 f2 o h
  · rw [o]; exact kc_5 hK hm hm2 x hx f1 f2 o h
  · rw [o]; exact kc_6 hK hm hm2 x hx f1 f2 o h
  · rw [o]; exact kc_7 hK hm hm2 x hx f1 f2 o h
  · rw [o]; exact kc_8 hK hm hm2 x hx f1 f2 o h
  · rw [o]; exact kc_9 hK hm hm2 x hx f1 f2 o h
  · rw [o]; exact kc_10 hK hm hm2 x hx f1 f2 o h
  · rw [o]; exact kc_11 hK hm hm2 x hx f1 f2 o h
  · rw [o]
    rcases (by omega : x.env = 1 ∨ x.env = 2) with q | q
    · rw [q]; exact kc_12_1 hK hm hm2 x hx o q h
    · rw [q]; exact kc_12_2 hK hm hm2 x hx o q h
  · rw [o]; exact kc_13 hK hm hm2 x hx f1 f2 o h
end
end
/-! ### Kernel.Arrive where the first filter takes all; Depart; the kernel's own. -/
section
open Go.RowKit Go.Shelf
set_option linter.unusedVariables false
set_option linter.unusedSimpArgs false
set_option maxRecDepth 100000
section
variable {R : Ending → World → Prop} {w : World} {B m : Nat} {a : KA} {k : KS}
set_option maxHeartbeats 1000000 in
theorem ktab_any (hK : Kn w B a k) (h : R (.returned (.pointer (some ⟨a.bT, 0, none⟩))) w) : Calls Tryz.prog 17 #[.pointer (some ⟨a.g, 0, none⟩)] w R := by
  have c0 : w.cell? ⟨a.g, 0, none⟩ = some (.pointer (some ⟨a.bT, 0, none⟩)) := hK.cell 0
  clear hK
  go_enter Tryz.func17, Tryz.ntmps17
  go_wp2
  exact h
end
end
end Go.Proofs.YtedblbpmlbjnhaaGreat
