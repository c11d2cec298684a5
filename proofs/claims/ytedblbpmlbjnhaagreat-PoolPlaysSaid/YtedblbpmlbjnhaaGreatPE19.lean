/- Kernel.Call. Kernel.Arrive where the first filter takes all; Depart; the kernel's own. The document's kernel in memory. -/
import Derived.Test.YtedblbpmlbjnhaaGreatPE18
import Derived.Test.YtedblbpmlbjnhaaGreatPE16
import Derived.Test.YtedblbpmlbjnhaaGreatPE17
namespace Go.Proofs.YtedblbpmlbjnhaaGreat
/-! ### Kernel.Call. -/
section
open Go.RowKit Go.Shelf
set_option linter.unusedVariables false
set_option linter.unusedSimpArgs false
set_option maxRecDepth 100000
/-- What a call does. -/
def kStep (k : KS) (x : Kc) (n : Int) (l : List UInt8) (e : Int) (k' : KS) : Prop :=
  if x.env < 1 ∨ 2 < x.env ∨ x.op < 1 ∨ 13 < x.op then n = 0 ∧ l = [] ∧ e = 1 ∧ k' = k
  else if x.op ≤ 8 then kFB k x = ⟨n, l, e, k'⟩
  else if x.op = 9 then kBind k x n e k' ∧ l = []
  else if x.op = 10 then kUnb k x e k' ∧ n = 0 ∧ l = []
  else if x.op = 11 then kSend k x n e k' ∧ l = []
  else if x.op = 12 then
    if x.env = 1 then (k.q1 = [] ∧ n = 0 ∧ l = [] ∧ e = 11 ∧ k' = k) ∨ (∃ y q, k.q1 = y :: q ∧ n = 0 ∧ l = y.l ∧ e = 0 ∧ k' = { k with f1 := k.f1 + 1, q1 := q })
    else (k.q2 = [] ∧ n = 0 ∧ l = [] ∧ e = 11 ∧ k' = k) ∨ (∃ y q, k.q2 = y :: q ∧ n = 0 ∧ l = y.l ∧ e = 0 ∧ k' = { k with f2 := k.f2 + 1, q2 := q })
  else n = k.dn ∧ l = [] ∧ e = 0 ∧ k' = k
section
variable {R : Ending → World → Prop} {w : World} {B m : Nat} {a : KA} {k : KS}
theorem Kc.ok.kp {w w' : World} {x : Kc} (h : x.ok w) (hk : Kp [] w w') : x.ok w' :=
  ⟨h.s.kp hk (Off.nil _ _), h.sl, h.sm, h.s0, h.p.kp hk (Off.nil _ _), h.pl, h.pm, h.p0, h.po, h.l.kp hk (Off.nil _ _), h.ll, h.lm, h.l0, h.lo⟩
theorem Kc.ok.kq {B : Nat} {w w' : World} {x : Kc} (h : x.ok w) (hk : Kq B w w') : x.ok w' :=
  ⟨hk.tb h.s (by decide), h.sl, h.sm, h.s0, hk.tb h.p (by decide), h.pl, h.pm, h.p0, h.po, hk.tb h.l (by decide), h.ll, h.lm, h.l0, h.lo⟩
set_option maxHeartbeats 4000000 in
theorem kc_1 (hK : Kn w B a k) (hm : k.cnt m) (hm2 : m ≤ 10000) (x : Kc) (hx : x.ok w) (he1 : 1 ≤ x.env) (he2 : x.env ≤ 2) (hop : x.op = 1)
    (h : (∀ n A len cc l e k' a' w', Hid (kStep k x n l e k') → Kq B w w' → (Kn w' B a' k' ∧ a'.g = a.g ∧ a'.bT = a.bT) → l.length = len → Tb w' 5 A (bts l) → R (.returned (.tuple #[.agg #[.int .i64 n, .slice A len cc], .int .i64 e])) w')) :
    Calls Tryz.prog 9 #[.pointer (some ⟨a.g, 0, none⟩), .agg #[.int .i64 1, .int .i64 x.env, .int .i64 x.a, .int .i64 x.b, .int .i64 x.c, .slice x.A5 x.n5 x.c5, .slice x.A6 x.n6 x.c6, .slice x.A7 x.n7 x.c7]] w R := by
  have H := Lib.hid h
  have HK := Lib.hid hK
  have HX := Lib.hid hx
  have HM := Lib.hid hm
  have HF : Hid (∀ (R : Ending → World → Prop) (w1 : World), Kp [] w w1 → (∀ n A len cc l e k' a' w', Hid (kStep k x n l e k') → Kq B w1 w' → (Kn w' B a' k' ∧ a'.g = a.g ∧ a'.bT = a.bT) → l.length = len → Tb w' 5 A (bts l) → R (.returned (.tuple #[.agg #[.int .i64 n, .slice A len cc], .int .i64 e])) w') → Calls Tryz.prog 53 #[.pointer (some ⟨a.g, 0, none⟩), .agg #[.int .i64 1, .int .i64 x.env, .int .i64 x.a, .int .i64 x.b, .int .i64 x.c, .slice x.A5 x.n5 x.c5, .slice x.A6 x.n6 x.c6, .slice x.A7 x.n7 x.c7]] w1 R) := Lib.hid (fun R w1 k1 h => kfb_1 (HK.out.off0 k1) HM.out hm2 x (HX.out.kp k1) hop (fun n A len cc l e k' a' w' hs q n9 hl ht => h n A len cc l e k' a' w' (Lib.hid (by unfold kStep; rw [if_neg (by omega), if_pos (by omega)]; exact hs.out)) q n9 hl ht))
  clear h hK hx hm
  have hn1 : ¬ x.env < 1 := by omega
  have hn2 : ¬ 2 < x.env := by omega
  go_enter Tryz.func9, Tryz.ntmps9
  go_upto_region 1 with (fail)
  refine gen_worldK (fun W => ∃ cb, w.heap.size = cb ∧ Kp [] w W ∧ Bk W cb 45 (x.cs 1) ∧ Bk W (cb + 1) 39 [.int .i64 0, .slice none 0 0]) ⟨_, rfl, ((Kp.refl _ _).alloc _).alloc _, ((Bk.new' _ _ _).alloc _).cast rfl, (Bk.newAt (by simp) _ _).cast rfl⟩ ?_
  rintro W ⟨cb, hcb, kW, bC, bR⟩
  rw [hcb]
  have hb0 : w.heap.size ≤ cb := by omega
  obtain ⟨p0, p1, p2, p3, p4, p5, p6, p7⟩ := bk8 bC
  have BR := Lib.hid bR
  have KW := Lib.hid kW
  have hBB := HK.out.hB
  clear bC bR kW
  go_wp2_with (go_at_call 53; ((refine HF.out _ _ KW.out ?_); intro n A len cc l e k' a' w2 hs q2 n2 hl ht; have r2 := q2.bk BR.out (by decide); obtain ⟨s0, s1, f0, f1⟩ := bk2t r2; have R2 := Lib.hid r2; clear r2))
  obtain ⟨bb, kb⟩ := bk2set R2.out (.int .i64 n) (.slice A len cc)
  have hrt := Bk.ty R2.out
  obtain ⟨W9, hW9⟩ : ∃ W9, ((w2.setCell ⟨cb + 1, 0, none⟩ (.int .i64 n)).setCell ⟨cb + 1, 1, none⟩ (.slice A len cc)) = W9 := ⟨_, rfl⟩
  rw [hW9] at bb kb ⊢
  obtain ⟨g0, g1, _⟩ := bk2t bb
  exact bodyPost_ret (v := .tuple #[.agg #[.int .i64 n, .slice A len cc], .int .i64 e]) (by simp [results, Tryz.results9, go_sem, g0, g1]; try rfl) rfl (H.out n A len cc l e k' a' W9 hs (((Kq.of0 KW.out).trans q2).thn kb hBB (by intro s hs; simp at hs; omega)) ⟨n2.1.offA kb (fun e he => Off.one hrt he), n2.2⟩ hl (ht.kp kb (Off.one hrt (by decide))))
set_option maxHeartbeats 4000000 in
theorem kc_2 (hK : Kn w B a k) (hm : k.cnt m) (hm2 : m ≤ 10000) (x : Kc) (hx : x.ok w) (he1 : 1 ≤ x.env) (he2 : x.env ≤ 2) (hop : x.op = 2)
    (h : (∀ n A len cc l e k' a' w', Hid (kStep k x n l e k') → Kq B w w' → (Kn w' B a' k' ∧ a'.g = a.g ∧ a'.bT = a.bT) → l.length = len → Tb w' 5 A (bts l) → R (.returned (.tuple #[.agg #[.int .i64 n, .slice A len cc], .int .i64 e])) w')) :
    Calls Tryz.prog 9 #[.pointer (some ⟨a.g, 0, none⟩), .agg #[.int .i64 2, .int .i64 x.env, .int .i64 x.a, .int .i64 x.b, .int .i64 x.c, .slice x.A5 x.n5 x.c5, .slice x.A6 x.n6 x.c6, .slice x.A7 x.n7 x.c7]] w R := by
  have H := Lib.hid h
  have HK := Lib.hid hK
  have HX := Lib.hid hx
  have HM := Lib.hid hm
  have HF : Hid (∀ (R : Ending → World → Prop) (w1 : World), Kp [] w w1 → (∀ n A len cc l e k' a' w', Hid (kStep k x n l e k') → Kq B w1 w' → (Kn w' B a' k' ∧ a'.g = a.g ∧ a'.bT = a.bT) → l.length = len → Tb w' 5 A (bts l) → R (.returned (.tuple #[.agg #[.int .i64 n, .slice A len cc], .int .i64 e])) w') → Calls Tryz.prog 53 #[.pointer (some ⟨a.g, 0, none⟩), .agg #[.int .i64 2, .int .i64 x.env, .int .i64 x.a, .int .i64 x.b, .int .i64 x.c, .slice x.A5 x.n5 x.c5, .slice x.A6 x.n6 x.c6, .slice x.A7 x.n7 x.c7]] w1 R) := Lib.hid (fun R w1 k1 h => kfb_2 (HK.out.off0 k1) HM.out hm2 x (HX.out.kp k1) hop (fun n A len cc l e k' a' w' hs q n9 hl ht => h n A len cc l e k' a' w' (Lib.hid (by unfold kStep; rw [if_neg (by omega), if_pos (by omega)]; exact hs.out)) q n9 hl ht))
  clear h hK hx hm
  have hn1 : ¬ x.env < 1 := by omega
  have hn2 : ¬ 2 < x.env := by omega
  go_enter Tryz.func9, Tryz.ntmps9
  go_upto_region 1 with (fail)
  refine gen_worldK (fun W => ∃ cb, w.heap.size = cb ∧ Kp [] w W ∧ Bk W cb 45 (x.cs 2) ∧ Bk W (cb + 1) 39 [.int .i64 0, .slice none 0 0]) ⟨_, rfl, ((Kp.refl _ _).alloc _).alloc _, ((Bk.new' _ _ _).alloc _).cast rfl, (Bk.newAt (by simp) _ _).cast rfl⟩ ?_
  rintro W ⟨cb, hcb, kW, bC, bR⟩
  rw [hcb]
  have hb0 : w.heap.size ≤ cb := by omega
  obtain ⟨p0, p1, p2, p3, p4, p5, p6, p7⟩ := bk8 bC
  have BR := Lib.hid bR
  have KW := Lib.hid kW
  have hBB := HK.out.hB
  clear bC bR kW
  go_wp2_with (go_at_call 53; ((refine HF.out _ _ KW.out ?_); intro n A len cc l e k' a' w2 hs q2 n2 hl ht; have r2 := q2.bk BR.out (by decide); obtain ⟨s0, s1, f0, f1⟩ := bk2t r2; have R2 := Lib.hid r2; clear r2))
  obtain ⟨bb, kb⟩ := bk2set R2.out (.int .i64 n) (.slice A len cc)
  have hrt := Bk.ty R2.out
  obtain ⟨W9, hW9⟩ : ∃ W9, ((w2.setCell ⟨cb + 1, 0, none⟩ (.int .i64 n)).setCell ⟨cb + 1, 1, none⟩ (.slice A len cc)) = W9 := ⟨_, rfl⟩
  rw [hW9] at bb kb ⊢
  obtain ⟨g0, g1, _⟩ := bk2t bb
  exact bodyPost_ret (v := .tuple #[.agg #[.int .i64 n, .slice A len cc], .int .i64 e]) (by simp [results, Tryz.results9, go_sem, g0, g1]; try rfl) rfl (H.out n A len cc l e k' a' W9 hs (((Kq.of0 KW.out).trans q2).thn kb hBB (by intro s hs; simp at hs; omega)) ⟨n2.1.offA kb (fun e he => Off.one hrt he), n2.2⟩ hl (ht.kp kb (Off.one hrt (by decide))))
set_option maxHeartbeats 4000000 in
theorem kc_3 (hK : Kn w B a k) (hm : k.cnt m) (hm2 : m ≤ 10000) (x : Kc) (hx : x.ok w) (he1 : 1 ≤ x.env) (he2 : x.env ≤ 2) (hop : x.op = 3)
    (h : (∀ n A len cc l e k' a' w', Hid (kStep k x n l e k') → Kq B w w' → (Kn w' B a' k' ∧ a'.g = a.g ∧ a'.bT = a.bT) → l.length = len → Tb w' 5 A (bts l) → R (.returned (.tuple #[.agg #[.int .i64 n, .slice A len cc], .int .i64 e])) w')) :
    Calls Tryz.prog 9 #[.pointer (some ⟨a.g, 0, none⟩), .agg #[.int .i64 3, .int .i64 x.env, .int .i64 x.a, .int .i64 x.b, .int .i64 x.c, .slice x.A5 x.n5 x.c5, .slice x.A6 x.n6 x.c6, .slice x.A7 x.n7 x.c7]] w R := by
  have H := Lib.hid h
  have HK := Lib.hid hK
  have HX := Lib.hid hx
  have HM := Lib.hid hm
  have HF : Hid (∀ (R : Ending → World → Prop) (w1 : World), Kp [] w w1 → (∀ n A len cc l e k' a' w', Hid (kStep k x n l e k') → Kq B w1 w' → (Kn w' B a' k' ∧ a'.g = a.g ∧ a'.bT = a.bT) → l.length = len → Tb w' 5 A (bts l) → R (.returned (.tuple #[.agg #[.int .i64 n, .slice A len cc], .int .i64 e])) w') → Calls Tryz.prog 53 #[.pointer (some ⟨a.g, 0, none⟩), .agg #[.int .i64 3, .int .i64 x.env, .int .i64 x.a, .int .i64 x.b, .int .i64 x.c, .slice x.A5 x.n5 x.c5, .slice x.A6 x.n6 x.c6, .slice x.A7 x.n7 x.c7]] w1 R) := Lib.hid (fun R w1 k1 h => kfb_3 (HK.out.off0 k1) HM.out hm2 x (HX.out.kp k1) hop (fun n A len cc l e k' a' w' hs q n9 hl ht => h n A len cc l e k' a' w' (Lib.hid (by unfold kStep; rw [if_neg (by omega), if_pos (by omega)]; exact hs.out)) q n9 hl ht))
  clear h hK hx hm
  have hn1 : ¬ x.env < 1 := by omega
  have hn2 : ¬ 2 < x.env := by omega
  go_enter Tryz.func9, Tryz.ntmps9
  go_upto_region 1 with (fail)
  refine gen_worldK (fun W => ∃ cb, w.heap.size = cb ∧ Kp [] w W ∧ Bk W cb 45 (x.cs 3) ∧ Bk W (cb + 1) 39 [.int .i64 0, .slice none 0 0]) ⟨_, rfl, ((Kp.refl _ _).alloc _).alloc _, ((Bk.new' _ _ _).alloc _).cast rfl, (Bk.newAt (by simp) _ _).cast rfl⟩ ?_
  rintro W ⟨cb, hcb, kW, bC, bR⟩
  rw [hcb]
  have hb0 : w.heap.size ≤ cb := by omega
  obtain ⟨p0, p1, p2, p3, p4, p5, p6, p7⟩ := bk8 bC
  have BR := Lib.hid bR
  have KW := Lib.hid kW
  have hBB := HK.out.hB
  clear bC bR kW
  go_wp2_with (go_at_call 53; ((refine HF.out _ _ KW.out ?_); intro n A len cc l e k' a' w2 hs q2 n2 hl ht; have r2 := q2.bk BR.out (by decide); obtain ⟨s0, s1, f0, f1⟩ := bk2t r2; have R2 := Lib.hid r2; clear r2))
  obtain ⟨bb, kb⟩ := bk2set R2.out (.int .i64 n) (.slice A len cc)
  have hrt := Bk.ty R2.out
  obtain ⟨W9, hW9⟩ : ∃ W9, ((w2.setCell ⟨cb + 1, 0, none⟩ (.int .i64 n)).setCell ⟨cb + 1, 1, none⟩ (.slice A len cc)) = W9 := ⟨_, rfl⟩
  rw [hW9] at bb kb ⊢
  obtain ⟨g0, g1, _⟩ := bk2t bb
  exact bodyPost_ret (v := .tuple #[.agg #[.int .i64 n, .slice A len cc], .int .i64 e]) (by simp [results, Tryz.results9, go_sem, g0, g1]; try rfl) rfl (H.out n A len cc l e k' a' W9 hs (((Kq.of0 KW.out).trans q2).thn kb hBB (by intro s hs; simp at hs; omega)) ⟨n2.1.offA kb (fun e he => Off.one hrt he), n2.2⟩ hl (ht.kp kb (Off.one hrt (by decide))))
set_option maxHeartbeats 4000000 in
theorem kc_4 (hK : Kn w B a k) (hm : k.cnt m) (hm2 : m ≤ 10000) (x : Kc) (hx : x.ok w) (he1 : 1 ≤ x.env) (he2 : x.env ≤ 2) (hop : x.op = 4)
    (h : (∀ n A len cc l e k' a' w', Hid (kStep k x n l e k') → Kq B w w' → (Kn w' B a' k' ∧ a'.g = a.g ∧ a'.bT = a.bT) → l.length = len → Tb w' 5 A (bts l) → R (.returned (.tuple #[.agg #[.int .i64 n, .slice A len cc], .int .i64 e])) w')) :
    Calls Tryz.prog 9 #[.pointer (some ⟨a.g, 0, none⟩), .agg #[.int .i64 4, .int .i64 x.env, .int .i64 x.a, .int .i64 x.b, .int .i64 x.c, .slice x.A5 x.n5 x.c5, .slice x.A6 x.n6 x.c6, .slice x.A7 x.n7 x.c7]] w R := by
  have H := Lib.hid h
  have HK := Lib.hid hK
  have HX := Lib.hid hx
  have HM := Lib.hid hm
  have HF : Hid (∀ (R : Ending → World → Prop) (w1 : World), Kp [] w w1 → (∀ n A len cc l e k' a' w', Hid (kStep k x n l e k') → Kq B w1 w' → (Kn w' B a' k' ∧ a'.g = a.g ∧ a'.bT = a.bT) → l.length = len → Tb w' 5 A (bts l) → R (.returned (.tuple #[.agg #[.int .i64 n, .slice A len cc], .int .i64 e])) w') → Calls Tryz.prog 53 #[.pointer (some ⟨a.g, 0, none⟩), .agg #[.int .i64 4, .int .i64 x.env, .int .i64 x.a, .int .i64 x.b, .int .i64 x.c, .slice x.A5 x.n5 x.c5, .slice x.A6 x.n6 x.c6, .slice x.A7 x.n7 x.c7]] w1 R) := Lib.hid (fun R w1 k1 h => kfb_4 (HK.out.off0 k1) HM.out hm2 x (HX.out.kp k1) hop (fun n A len cc l e k' a' w' hs q n9 hl ht => h n A len cc l e k' a' w' (Lib.hid (by unfold kStep; rw [if_neg (by omega), if_pos (by omega)]; exact hs.out)) q n9 hl ht))
  clear h hK hx hm
  have hn1 : ¬ x.env < 1 := by omega
  have hn2 : ¬ 2 < x.env := by omega
  go_enter Tryz.func9, Tryz.ntmps9
  go_upto_region 1 with (fail)
  refine gen_worldK (fun W => ∃ cb, w.heap.size = cb ∧ Kp [] w W ∧ Bk W cb 45 (x.cs 4) ∧ Bk W (cb + 1) 39 [.int .i64 0, .slice none 0 0]) ⟨_, rfl, ((Kp.refl _ _).alloc _).alloc _, ((Bk.new' _ _ _).alloc _).cast rfl, (Bk.newAt (by simp) _ _).cast rfl⟩ ?_
  rintro W ⟨cb, hcb, kW, bC, bR⟩
  rw [hcb]
  have hb0 : w.heap.size ≤ cb := by omega
  obtain ⟨p0, p1, p2, p3, p4, p5, p6, p7⟩ := bk8 bC
  have BR := Lib.hid bR
  have KW := Lib.hid kW
  have hBB := HK.out.hB
  clear bC bR kW
  go_wp2_with (go_at_call 53; ((refine HF.out _ _ KW.out ?_); intro n A len cc l e k' a' w2 hs q2 n2 hl ht; have r2 := q2.bk BR.out (by decide); obtain ⟨s0, s1, f0, f1⟩ := bk2t r2; have R2 := Lib.hid r2; clear r2))
  obtain ⟨bb, kb⟩ := bk2set R2.out (.int .i64 n) (.slice A len cc)
  have hrt := Bk.ty R2.out
  obtain ⟨W9, hW9⟩ : ∃ W9, ((w2.setCell ⟨cb + 1, 0, none⟩ (.int .i64 n)).setCell ⟨cb + 1, 1, none⟩ (.slice A len cc)) = W9 := ⟨_, rfl⟩
  rw [hW9] at bb kb ⊢
  obtain ⟨g0, g1, _⟩ := bk2t bb
  exact bodyPost_ret (v := .tuple #[.agg #[.int .i64 n, .slice A len cc], .int .i64 e]) (by simp [results, Tryz.results9, go_sem, g0, g1]; try rfl) rfl (H.out n A len cc l e k' a' W9 hs (((Kq.of0 KW.out).trans q2).thn kb hBB (by intro s hs; simp at hs; omega)) ⟨n2.1.offA kb (fun e he => Off.one hrt he), n2.2⟩ hl (ht.kp kb (Off.one hrt (by decide))))
set_option maxHeartbeats 4000000 in
theorem kc_5 (hK : Kn w B a k) (hm : k.cnt m) (hm2 : m ≤ 10000) (x : Kc) (hx : x.ok w) (he1 : 1 ≤ x.env) (he2 : x.env ≤ 2) (hop : x.op = 5)
    (h : (∀ n A len cc l e k' a' w', Hid (kStep k x n l e k') → Kq B w w' → (Kn w' B a' k' ∧ a'.g = a.g ∧ a'.bT = a.bT) → l.length = len → Tb w' 5 A (bts l) → R (.returned (.tuple #[.agg #[.int .i64 n, .slice A len cc], .int .i64 e])) w')) :
    Calls Tryz.prog 9 #[.pointer (some ⟨a.g, 0, none⟩), .agg #[.int .i64 5, .int .i64 x.env, .int .i64 x.a, .int .i64 x.b, .int .i64 x.c, .slice x.A5 x.n5 x.c5, .slice x.A6 x.n6 x.c6, .slice x.A7 x.n7 x.c7]] w R := by
  have H := Lib.hid h
  have HK := Lib.hid hK
  have HX := Lib.hid hx
  have HM := Lib.hid hm
  have HF : Hid (∀ (R : Ending → World → Prop) (w1 : World), Kp [] w w1 → (∀ n A len cc l e k' a' w', Hid (kStep k x n l e k') → Kq B w1 w' → (Kn w' B a' k' ∧ a'.g = a.g ∧ a'.bT = a.bT) → l.length = len → Tb w' 5 A (bts l) → R (.returned (.tuple #[.agg #[.int .i64 n, .slice A len cc], .int .i64 e])) w') → Calls Tryz.prog 53 #[.pointer (some ⟨a.g, 0, none⟩), .agg #[.int .i64 5, .int .i64 x.env, .int .i64 x.a, .int .i64 x.b, .int .i64 x.c, .slice x.A5 x.n5 x.c5, .slice x.A6 x.n6 x.c6, .slice x.A7 x.n7 x.c7]] w1 R) := Lib.hid (fun R w1 k1 h => kfb_5 (HK.out.off0 k1) HM.out hm2 x (HX.out.kp k1) hop (fun n A len cc l e k' a' w' hs q n9 hl ht => h n A len cc l e k' a' w' (Lib.hid (by unfold kStep; rw [if_neg (by omega), if_pos (by omega)]; exact hs.out)) q n9 hl ht))
  clear h hK hx hm
  have hn1 : ¬ x.env < 1 := by omega
  have hn2 : ¬ 2 < x.env := by omega
  go_enter Tryz.func9, Tryz.ntmps9
  go_upto_region 1 with (fail)
  refine gen_worldK (fun W => ∃ cb, w.heap.size = cb ∧ Kp [] w W ∧ Bk W cb 45 (x.cs 5) ∧ Bk W (cb + 1) 39 [.int .i64 0, .slice none 0 0]) ⟨_, rfl, ((Kp.refl _ _).alloc _).alloc _, ((Bk.new' _ _ _).alloc _).cast rfl, (Bk.newAt (by simp) _ _).cast rfl⟩ ?_
  rintro W ⟨cb, hcb, kW, bC, bR⟩
  rw [hcb]
  have hb0 : w.heap.size ≤ cb := by omega
  obtain ⟨p0, p1, p2, p3, p4, p5, p6, p7⟩ := bk8 bC
  have BR := Lib.hid bR
  have KW := Lib.hid kW
  have hBB := HK.out.hB
  clear bC bR kW
  go_wp2_with (go_at_call 53; ((refine HF.out _ _ KW.out ?_); intro n A len cc l e k' a' w2 hs q2 n2 hl ht; have r2 := q2.bk BR.out (by decide); obtain ⟨s0, s1, f0, f1⟩ := bk2t r2; have R2 := Lib.hid r2; clear r2))
  obtain ⟨bb, kb⟩ := bk2set R2.out (.int .i64 n) (.slice A len cc)
  have hrt := Bk.ty R2.out
  obtain ⟨W9, hW9⟩ : ∃ W9, ((w2.setCell ⟨cb + 1, 0, none⟩ (.int .i64 n)).setCell ⟨cb + 1, 1, none⟩ (.slice A len cc)) = W9 := ⟨_, rfl⟩
  rw [hW9] at bb kb ⊢
  obtain ⟨g0, g1, _⟩ := bk2t bb
  exact bodyPost_ret (v := .tuple #[.agg #[.int .i64 n, .slice A len cc], .int .i64 e]) (by simp [results, Tryz.results9, go_sem, g0, g1]; try rfl) rfl (H.out n A len cc l e k' a' W9 hs (((Kq.of0 KW.out).trans q2).thn kb hBB (by intro s hs; simp at hs; omega)) ⟨n2.1.offA kb (fun e he => Off.one hrt he), n2.2⟩ hl (ht.kp kb (Off.one hrt (by decide))))
set_option maxHeartbeats 4000000 in
theorem kc_6 (hK : Kn w B a k) (hm : k.cnt m) (hm2 : m ≤ 10000) (x : Kc) (hx : x.ok w) (he1 : 1 ≤ x.env) (he2 : x.env ≤ 2) (hop : x.op = 6)
    (h : (∀ n A len cc l e k' a' w', Hid (kStep k x n l e k') → Kq B w w' → (Kn w' B a' k' ∧ a'.g = a.g ∧ a'.bT = a.bT) → l.length = len → Tb w' 5 A (bts l) → R (.returned (.tuple #[.agg #[.int .i64 n, .slice A len cc], .int .i64 e])) w')) :
    Calls Tryz.prog 9 #[.pointer (some ⟨a.g, 0, none⟩), .agg #[.int .i64 6, .int .i64 x.env, .int .i64 x.a, .int .i64 x.b, .int .i64 x.c, .slice x.A5 x.n5 x.c5, .slice x.A6 x.n6 x.c6, .slice x.A7 x.n7 x.c7]] w R := by
  have H := Lib.hid h
  have HK := Lib.hid hK
  have HX := Lib.hid hx
  have HM := Lib.hid hm
  have HF : Hid (∀ (R : Ending → World → Prop) (w1 : World), Kp [] w w1 → (∀ n A len cc l e k' a' w', Hid (kStep k x n l e k') → Kq B w1 w' → (Kn w' B a' k' ∧ a'.g = a.g ∧ a'.bT = a.bT) → l.length = len → Tb w' 5 A (bts l) → R (.returned (.tuple #[.agg #[.int .i64 n, .slice A len cc], .int .i64 e])) w') → Calls Tryz.prog 47 #[.pointer (some ⟨a.g, 0, none⟩), .agg #[.int .i64 6, .int .i64 x.env, .int .i64 x.a, .int .i64 x.b, .int .i64 x.c, .slice x.A5 x.n5 x.c5, .slice x.A6 x.n6 x.c6, .slice x.A7 x.n7 x.c7]] w1 R) := Lib.hid (fun R w1 k1 h => kfb_6 (HK.out.off0 k1) HM.out hm2 x (HX.out.kp k1) hop (fun n A len cc l e k' a' w' hs q n9 hl ht => h n A len cc l e k' a' w' (Lib.hid (by unfold kStep; rw [if_neg (by omega), if_pos (by omega)]; exact hs.out)) q n9 hl ht))
  clear h hK hx hm
  have hn1 : ¬ x.env < 1 := by omega
  have hn2 : ¬ 2 < x.env := by omega
  go_enter Tryz.func9, Tryz.ntmps9
  go_upto_region 1 with (fail)
  refine gen_worldK (fun W => ∃ cb, w.heap.size = cb ∧ Kp [] w W ∧ Bk W cb 45 (x.cs 6) ∧ Bk W (cb + 1) 39 [.int .i64 0, .slice none 0 0]) ⟨_, rfl, ((Kp.refl _ _).alloc _).alloc _, ((Bk.new' _ _ _).alloc _).cast rfl, (Bk.newAt (by simp) _ _).cast rfl⟩ ?_
  rintro W ⟨cb, hcb, kW, bC, bR⟩
  rw [hcb]
  have hb0 : w.heap.size ≤ cb := by omega
  obtain ⟨p0, p1, p2, p3, p4, p5, p6, p7⟩ := bk8 bC
  have BR := Lib.hid bR
  have KW := Lib.hid kW
  have hBB := HK.out.hB
  clear bC bR kW
  go_wp2_with (go_at_call 47; ((refine HF.out _ _ KW.out ?_); intro n A len cc l e k' a' w2 hs q2 n2 hl ht; have r2 := q2.bk BR.out (by decide); obtain ⟨s0, s1, f0, f1⟩ := bk2t r2; have R2 := Lib.hid r2; clear r2))
  obtain ⟨bb, kb⟩ := bk2set R2.out (.int .i64 n) (.slice A len cc)
  have hrt := Bk.ty R2.out
  obtain ⟨W9, hW9⟩ : ∃ W9, ((w2.setCell ⟨cb + 1, 0, none⟩ (.int .i64 n)).setCell ⟨cb + 1, 1, none⟩ (.slice A len cc)) = W9 := ⟨_, rfl⟩
  rw [hW9] at bb kb ⊢
  obtain ⟨g0, g1, _⟩ := bk2t bb
  exact bodyPost_ret (v := .tuple #[.agg #[.int .i64 n, .slice A len cc], .int .i64 e]) (by simp [results, Tryz.results9, go_sem, g0, g1]; try rfl) rfl (H.out n A len cc l e k' a' W9 hs (((Kq.of0 KW.out).trans q2).thn kb hBB (by intro s hs; simp at hs; omega)) ⟨n2.1.offA kb (fun e he => Off.one hrt he), n2.2⟩ hl (ht.kp kb (Off.one hrt (by decide))))
set_option maxHeartbeats 4000000 in
theorem kc_7 (hK : Kn w B a k) (hm : k.cnt m) (hm2 : m ≤ 10000) (x : Kc) (hx : x.ok w) (he1 : 1 ≤ x.env) (he2 : x.env ≤ 2) (hop : x.op = 7)
    (h : (∀ n A len cc l e k' a' w', Hid (kStep k x n l e k') → Kq B w w' → (Kn w' B a' k' ∧ a'.g = a.g ∧ a'.bT = a.bT) → l.length = len → Tb w' 5 A (bts l) → R (.returned (.tuple #[.agg #[.int .i64 n, .slice A len cc], .int .i64 e])) w')) :
    Calls Tryz.prog 9 #[.pointer (some ⟨a.g, 0, none⟩), .agg #[.int .i64 7, .int .i64 x.env, .int .i64 x.a, .int .i64 x.b, .int .i64 x.c, .slice x.A5 x.n5 x.c5, .slice x.A6 x.n6 x.c6, .slice x.A7 x.n7 x.c7]] w R := by
  have H := Lib.hid h
  have HK := Lib.hid hK
  have HX := Lib.hid hx
  have HM := Lib.hid hm
  have HF : Hid (∀ (R : Ending → World → Prop) (w1 : World), Kp [] w w1 → (∀ n A len cc l e k' a' w', Hid (kStep k x n l e k') → Kq B w1 w' → (Kn w' B a' k' ∧ a'.g = a.g ∧ a'.bT = a.bT) → l.length = len → Tb w' 5 A (bts l) → R (.returned (.tuple #[.agg #[.int .i64 n, .slice A len cc], .int .i64 e])) w') → Calls Tryz.prog 47 #[.pointer (some ⟨a.g, 0, none⟩), .agg #[.int .i64 7, .int .i64 x.env, .int .i64 x.a, .int .i64 x.b, .int .i64 x.c, .slice x.A5 x.n5 x.c5, .slice x.A6 x.n6 x.c6, .slice x.A7 x.n7 x.c7]] w1 R) := Lib.hid (fun R w1 k1 h => kfb_7 (HK.out.off0 k1) HM.out hm2 x (HX.out.kp k1) hop (fun n A len cc l e k' a' w' hs q n9 hl ht => h n A len cc l e k' a' w' (Lib.hid (by unfold kStep; rw [if_neg (by omega), if_pos (by omega)]; exact hs.out)) q n9 hl ht))
  clear h hK hx hm
  have hn1 : ¬ x.env < 1 := by omega
  have hn2 : ¬ 2 < x.env := by omega
  go_enter Tryz.func9, Tryz.ntmps9
  go_upto_region 1 with (fail)
  refine gen_worldK (fun W => ∃ cb, w.heap.size = cb ∧ Kp [] w W ∧ Bk W cb 45 (x.cs 7) ∧ Bk W (cb + 1) 39 [.int .i64 0, .slice none 0 0]) ⟨_, rfl, ((Kp.refl _ _).alloc _).alloc _, ((Bk.new' _ _ _).alloc _).cast rfl, (Bk.newAt (by simp) _ _).cast rfl⟩ ?_
  rintro W ⟨cb, hcb, kW, bC, bR⟩
  rw [hcb]
  have hb0 : w.heap.size ≤ cb := by omega
  obtain ⟨p0, p1, p2, p3, p4, p5, p6, p7⟩ := bk8 bC
  have BR := Lib.hid bR
  have KW := Lib.hid kW
  have hBB := HK.out.hB
  clear bC bR kW
  go_wp2_with (go_at_call 47; ((refine HF.out _ _ KW.out ?_); intro n A len cc l e k' a' w2 hs q2 n2 hl ht; have r2 := q2.bk BR.out (by decide); obtain ⟨s0, s1, f0, f1⟩ := bk2t r2; have R2 := Lib.hid r2; clear r2))
  obtain ⟨bb, kb⟩ := bk2set R2.out (.int .i64 n) (.slice A len cc)
  have hrt := Bk.ty R2.out
  obtain ⟨W9, hW9⟩ : ∃ W9, ((w2.setCell ⟨cb + 1, 0, none⟩ (.int .i64 n)).setCell ⟨cb + 1, 1, none⟩ (.slice A len cc)) = W9 := ⟨_, rfl⟩
  rw [hW9] at bb kb ⊢
  obtain ⟨g0, g1, _⟩ := bk2t bb
  exact bodyPost_ret (v := .tuple #[.agg #[.int .i64 n, .slice A len cc], .int .i64 e]) (by simp [results, Tryz.results9, go_sem, g0, g1]; try rfl) rfl (H.out n A len cc l e k' a' W9 hs (((Kq.of0 KW.out).trans q2).thn kb hBB (by intro s hs; simp at hs; omega)) ⟨n2.1.offA kb (fun e he => Off.one hrt he), n2.2⟩ hl (ht.kp kb (Off.one hrt (by decide))))
set_option maxHeartbeats 4000000 in
theorem kc_8 (hK : Kn w B a k) (hm : k.cnt m) (hm2 : m ≤ 10000) (x : Kc) (hx : x.ok w) (he1 : 1 ≤ x.env) (he2 : x.env ≤ 2) (hop : x.op = 8)
    (h : (∀ n A len cc l e k' a' w', Hid (kStep k x n l e k') → Kq B w w' → (Kn w' B a' k' ∧ a'.g = a.g ∧ a'.bT = a.bT) → l.length = len → Tb w' 5 A (bts l) → R (.returned (.tuple #[.agg #[.int .i64 n, .slice A len cc], .int .i64 e])) w')) :
    Calls Tryz.prog 9 #[.pointer (some ⟨a.g, 0, none⟩), .agg #[.int .i64 8, .int .i64 x.env, .int .i64 x.a, .int .i64 x.b, .int .i64 x.c, .slice x.A5 x.n5 x.c5, .slice x.A6 x.n6 x.c6, .slice x.A7 x.n7 x.c7]] w R := by
  have H := Lib.hid h
  have HK := Lib.hid hK
  have HX := Lib.hid hx
  have HM := Lib.hid hm
  have HF : Hid (∀ (R : Ending → World → Prop) (w1 : World), Kp [] w w1 → (∀ n A len cc l e k' a' w', Hid (kStep k x n l e k') → Kq B w1 w' → (Kn w' B a' k' ∧ a'.g = a.g ∧ a'.bT = a.bT) → l.length = len → Tb w' 5 A (bts l) → R (.returned (.tuple #[.agg #[.int .i64 n, .slice A len cc], .int .i64 e])) w') → Calls Tryz.prog 47 #[.pointer (some ⟨a.g, 0, none⟩), .agg #[.int .i64 8, .int .i64 x.env, .int .i64 x.a, .int .i64 x.b, .int .i64 x.c, .slice x.A5 x.n5 x.c5, .slice x.A6 x.n6 x.c6, .slice x.A7 x.n7 x.c7]] w1 R) := Lib.hid (fun R w1 k1 h => kfb_8 (HK.out.off0 k1) HM.out hm2 x (HX.out.kp k1) hop (fun n A len cc l e k' a' w' hs q n9 hl ht => h n A len cc l e k' a' w' (Lib.hid (by unfold kStep; rw [if_neg (by omega), if_pos (by omega)]; exact hs.out)) q n9 hl ht))
  clear h hK hx hm
  have hn1 : ¬ x.env < 1 := by omega
  have hn2 : ¬ 2 < x.env := by omega
  go_enter Tryz.func9, Tryz.ntmps9
  go_upto_region 1 with (fail)
  refine gen_worldK (fun W => ∃ cb, w.heap.size = cb ∧ Kp [] w W ∧ Bk W cb 45 (x.cs 8) ∧ Bk W (cb + 1) 39 [.int .i64 0, .slice none 0 0]) ⟨_, rfl, ((Kp.refl _ _).alloc _).alloc _, ((Bk.new' _ _ _).alloc _).cast rfl, (Bk.newAt (by simp) _ _).cast rfl⟩ ?_
  rintro W ⟨cb, hcb, kW, bC, bR⟩
  rw [hcb]
  have hb0 : w.heap.size ≤ cb := by omega
  obtain ⟨p0, p1, p2, p3, p4, p5, p6, p7⟩ := bk8 bC
  have BR := Lib.hid bR
  have KW := Lib.hid kW
  have hBB := HK.out.hB
  clear bC bR kW
  go_wp2_with (go_at_call 47; ((refine HF.out _ _ KW.out ?_); intro n A len cc l e k' a' w2 hs q2 n2 hl ht; have r2 := q2.bk BR.out (by decide); obtain ⟨s0, s1, f0, f1⟩ := bk2t r2; have R2 := Lib.hid r2; clear r2))
  obtain ⟨bb, kb⟩ := bk2set R2.out (.int .i64 n) (.slice A len cc)
  have hrt := Bk.ty R2.out
  obtain ⟨W9, hW9⟩ : ∃ W9, ((w2.setCell ⟨cb + 1, 0, none⟩ (.int .i64 n)).setCell ⟨cb + 1, 1, none⟩ (.slice A len cc)) = W9 := ⟨_, rfl⟩
  rw [hW9] at bb kb ⊢
  obtain ⟨g0, g1, _⟩ := bk2t bb
  exact bodyPost_ret (v := .tuple #[.agg #[.int .i64 n, .slice A len cc], .int .i64 e]) (by simp [results, Tryz.results9, go_sem, g0, g1]; try rfl) rfl (H.out n A len cc l e k' a' W9 hs (((Kq.of0 KW.out).trans q2).thn kb hBB (by intro s hs; simp at hs; omega)) ⟨n2.1.offA kb (fun e he => Off.one hrt he), n2.2⟩ hl (ht.kp kb (Off.one hrt (by decide))))
set_option maxHeartbeats 4000000 in
theorem kc_9 (hK : Kn w B a k) (hm : k.cnt m) (hm2 : m ≤ 10000) (x : Kc) (hx : x.ok w) (he1 : 1 ≤ x.env) (he2 : x.env ≤ 2) (hop : x.op = 9)
    (h : (∀ n A len cc l e k' a' w', Hid (kStep k x n l e k') → Kq B w w' → (Kn w' B a' k' ∧ a'.g = a.g ∧ a'.bT = a.bT) → l.length = len → Tb w' 5 A (bts l) → R (.returned (.tuple #[.agg #[.int .i64 n, .slice A len cc], .int .i64 e])) w')) :
    Calls Tryz.prog 9 #[.pointer (some ⟨a.g, 0, none⟩), .agg #[.int .i64 9, .int .i64 x.env, .int .i64 x.a, .int .i64 x.b, .int .i64 x.c, .slice x.A5 x.n5 x.c5, .slice x.A6 x.n6 x.c6, .slice x.A7 x.n7 x.c7]] w R := by
  have H := Lib.hid h
  have HK := Lib.hid hK
  have HX := Lib.hid hx
  have HM := Lib.hid hm
  have HF : Hid (∀ (R : Ending → World → Prop) (w1 : World), Kp [] w w1 → (∀ n A len cc l e k' a' w', Hid (kStep k x n l e k') → Kq B w1 w' → (Kn w' B a' k' ∧ a'.g = a.g ∧ a'.bT = a.bT) → l.length = len → Tb w' 5 A (bts l) → R (.returned (.tuple #[.agg #[.int .i64 n, .slice A len cc], .int .i64 e])) w') → Calls Tryz.prog 48 #[.pointer (some ⟨a.g, 0, none⟩), .agg #[.int .i64 9, .int .i64 x.env, .int .i64 x.a, .int .i64 x.b, .int .i64 x.c, .slice x.A5 x.n5 x.c5, .slice x.A6 x.n6 x.c6, .slice x.A7 x.n7 x.c7]] w1 R) := Lib.hid (fun R w1 k1 h => kbind_any (HK.out.off0 k1) HM.out hm2 x (HX.out.kp k1) (fun n e k' a' w' hs q n9 => h n none 0 0 [] e k' a' w' (Lib.hid (by unfold kStep; rw [if_neg (by omega), if_neg (by omega), if_pos hop]; exact ⟨hs.out, rfl⟩)) q n9 rfl Tb.nil))
  clear h hK hx hm
  have hn1 : ¬ x.env < 1 := by omega
  have hn2 : ¬ 2 < x.env := by omega
  go_enter Tryz.func9, Tryz.ntmps9
  go_upto_region 1 with (fail)
  refine gen_worldK (fun W => ∃ cb, w.heap.size = cb ∧ Kp [] w W ∧ Bk W cb 45 (x.cs 9) ∧ Bk W (cb + 1) 39 [.int .i64 0, .slice none 0 0]) ⟨_, rfl, ((Kp.refl _ _).alloc _).alloc _, ((Bk.new' _ _ _).alloc _).cast rfl, (Bk.newAt (by simp) _ _).cast rfl⟩ ?_
  rintro W ⟨cb, hcb, kW, bC, bR⟩
  rw [hcb]
  have hb0 : w.heap.size ≤ cb := by omega
  obtain ⟨p0, p1, p2, p3, p4, p5, p6, p7⟩ := bk8 bC
  have BR := Lib.hid bR
  have KW := Lib.hid kW
  have hBB := HK.out.hB
  clear bC bR kW
  go_wp2_with (go_at_call 48; ((refine HF.out _ _ KW.out ?_); intro n A len cc l e k' a' w2 hs q2 n2 hl ht; have r2 := q2.bk BR.out (by decide); obtain ⟨s0, s1, f0, f1⟩ := bk2t r2; have R2 := Lib.hid r2; clear r2))
  obtain ⟨bb, kb⟩ := bk2set R2.out (.int .i64 n) (.slice A len cc)
  have hrt := Bk.ty R2.out
  obtain ⟨W9, hW9⟩ : ∃ W9, ((w2.setCell ⟨cb + 1, 0, none⟩ (.int .i64 n)).setCell ⟨cb + 1, 1, none⟩ (.slice A len cc)) = W9 := ⟨_, rfl⟩
  rw [hW9] at bb kb ⊢
  obtain ⟨g0, g1, _⟩ := bk2t bb
  exact bodyPost_ret (v := .tuple #[.agg #[.int .i64 n, .slice A len cc], .int .i64 e]) (by simp [results, Tryz.results9, go_sem, g0, g1]; try rfl) rfl (H.out n A len cc l e k' a' W9 hs (((Kq.of0 KW.out).trans q2).thn kb hBB (by intro s hs; simp at hs; omega)) ⟨n2.1.offA kb (fun e he => Off.one hrt he), n2.2⟩ hl (ht.kp kb (Off.one hrt (by decide))))
set_option maxHeartbeats 4000000 in
theorem kc_10 (hK : Kn w B a k) (hm : k.cnt m) (hm2 : m ≤ 10000) (x : Kc) (hx : x.ok w) (he1 : 1 ≤ x.env) (he2 : x.env ≤ 2) (hop : x.op = 10)
    (h : (∀ n A len cc l e k' a' w', Hid (kStep k x n l e k') → Kq B w w' → (Kn w' B a' k' ∧ a'.g = a.g ∧ a'.bT = a.bT) → l.length = len → Tb w' 5 A (bts l) → R (.returned (.tuple #[.agg #[.int .i64 n, .slice A len cc], .int .i64 e])) w')) :
    Calls Tryz.prog 9 #[.pointer (some ⟨a.g, 0, none⟩), .agg #[.int .i64 10, .int .i64 x.env, .int .i64 x.a, .int .i64 x.b, .int .i64 x.c, .slice x.A5 x.n5 x.c5, .slice x.A6 x.n6 x.c6, .slice x.A7 x.n7 x.c7]] w R := by
  have H := Lib.hid h
  have HK := Lib.hid hK
  have HX := Lib.hid hx
  have HM := Lib.hid hm
  have HF : Hid (∀ (R : Ending → World → Prop) (w1 : World), Kp [] w w1 → (∀ n A len cc l e k' a' w', Hid (kStep k x n l e k') → Kq B w1 w' → (Kn w' B a' k' ∧ a'.g = a.g ∧ a'.bT = a.bT) → l.length = len → Tb w' 5 A (bts l) → R (.returned (.tuple #[.agg #[.int .i64 n, .slice A len cc], .int .i64 e])) w') → Calls Tryz.prog 49 #[.pointer (some ⟨a.g, 0, none⟩), .agg #[.int .i64 10, .int .i64 x.env, .int .i64 x.a, .int .i64 x.b, .int .i64 x.c, .slice x.A5 x.n5 x.c5, .slice x.A6 x.n6 x.c6, .slice x.A7 x.n7 x.c7]] w1 R) := Lib.hid (fun R w1 k1 h => kunb_any (HK.out.off0 k1) HM.out hm2 x (HX.out.kp k1) (fun e k' a' w' hs q n9 => h 0 none 0 0 [] e k' a' w' (Lib.hid (by unfold kStep; rw [if_neg (by omega), if_neg (by omega), if_neg (by omega), if_pos hop]; exact ⟨hs.out, rfl, rfl⟩)) q n9 rfl Tb.nil))
  clear h hK hx hm
  have hn1 : ¬ x.env < 1 := by omega
  have hn2 : ¬ 2 < x.env := by omega
  go_enter Tryz.func9, Tryz.ntmps9
  go_upto_region 1 with (fail)
  refine gen_worldK (fun W => ∃ cb, w.heap.size = cb ∧ Kp [] w W ∧ Bk W cb 45 (x.cs 10) ∧ Bk W (cb + 1) 39 [.int .i64 0, .slice none 0 0]) ⟨_, rfl, ((Kp.refl _ _).alloc _).alloc _, ((Bk.new' _ _ _).alloc _).cast rfl, (Bk.newAt (by simp) _ _).cast rfl⟩ ?_
  rintro W ⟨cb, hcb, kW, bC, bR⟩
  rw [hcb]
  have hb0 : w.heap.size ≤ cb := by omega
  obtain ⟨p0, p1, p2, p3, p4, p5, p6, p7⟩ := bk8 bC
  have BR := Lib.hid bR
  have KW := Lib.hid kW
  have hBB := HK.out.hB
  clear bC bR kW
  go_wp2_with (go_at_call 49; ((refine HF.out _ _ KW.out ?_); intro n A len cc l e k' a' w2 hs q2 n2 hl ht; have r2 := q2.bk BR.out (by decide); obtain ⟨s0, s1, f0, f1⟩ := bk2t r2; have R2 := Lib.hid r2; clear r2))
  obtain ⟨bb, kb⟩ := bk2set R2.out (.int .i64 n) (.slice A len cc)
  have hrt := Bk.ty R2.out
  obtain ⟨W9, hW9⟩ : ∃ W9, ((w2.setCell ⟨cb + 1, 0, none⟩ (.int .i64 n)).setCell ⟨cb + 1, 1, none⟩ (.slice A len cc)) = W9 := ⟨_, rfl⟩
  rw [hW9] at bb kb ⊢
  obtain ⟨g0, g1, _⟩ := bk2t bb
  exact bodyPost_ret (v := .tuple #[.agg #[.int .i64 n, .slice A len cc], .int .i64 e]) (by simp [results, Tryz.results9, go_sem, g0, g1]; try rfl) rfl (H.out n A len cc l e k' a' W9 hs (((Kq.of0 KW.out).trans q2).thn kb hBB (by intro s hs; simp at hs; omega)) ⟨n2.1.offA kb (fun e he => Off.one hrt he), n2.2⟩ hl (ht.kp kb (Off.one hrt (by decide))))
set_option maxHeartbeats 4000000 in
theorem kc_11 (hK : Kn w B a k) (hm : k.cnt m) (hm2 : m ≤ 10000) (x : Kc) (hx : x.ok w) (he1 : 1 ≤ x.env) (he2 : x.env ≤ 2) (hop : x.op = 11)
    (h : (∀ n A len cc l e k' a' w', Hid (kStep k x n l e k') → Kq B w w' → (Kn w' B a' k' ∧ a'.g = a.g ∧ a'.bT = a.bT) → l.length = len → Tb w' 5 A (bts l) → R (.returned (.tuple #[.agg #[.int .i64 n, .slice A len cc], .int .i64 e])) w')) :
    Calls Tryz.prog 9 #[.pointer (some ⟨a.g, 0, none⟩), .agg #[.int .i64 11, .int .i64 x.env, .int .i64 x.a, .int .i64 x.b, .int .i64 x.c, .slice x.A5 x.n5 x.c5, .slice x.A6 x.n6 x.c6, .slice x.A7 x.n7 x.c7]] w R := by
  have H := Lib.hid h
  have HK := Lib.hid hK
  have HX := Lib.hid hx
  have HM := Lib.hid hm
  have HF : Hid (∀ (R : Ending → World → Prop) (w1 : World), Kp [] w w1 → (∀ n A len cc l e k' a' w', Hid (kStep k x n l e k') → Kq B w1 w' → (Kn w' B a' k' ∧ a'.g = a.g ∧ a'.bT = a.bT) → l.length = len → Tb w' 5 A (bts l) → R (.returned (.tuple #[.agg #[.int .i64 n, .slice A len cc], .int .i64 e])) w') → Calls Tryz.prog 50 #[.pointer (some ⟨a.g, 0, none⟩), .agg #[.int .i64 11, .int .i64 x.env, .int .i64 x.a, .int .i64 x.b, .int .i64 x.c, .slice x.A5 x.n5 x.c5, .slice x.A6 x.n6 x.c6, .slice x.A7 x.n7 x.c7]] w1 R) := Lib.hid (fun R w1 k1 h => ksend_any (HK.out.off0 k1) HM.out hm2 x (HX.out.kp k1) (fun n e k' a' w' hs q n9 => h n none 0 0 [] e k' a' w' (Lib.hid (by unfold kStep; rw [if_neg (by omega), if_neg (by omega), if_neg (by omega), if_neg (by omega), if_pos hop]; exact ⟨hs.out, rfl⟩)) q n9 rfl Tb.nil))
  clear h hK hx hm
  have hn1 : ¬ x.env < 1 := by omega
  have hn2 : ¬ 2 < x.env := by omega
  go_enter Tryz.func9, Tryz.ntmps9
  go_upto_region 1 with (fail)
  refine gen_worldK (fun W => ∃ cb, w.heap.size = cb ∧ Kp [] w W ∧ Bk W cb 45 (x.cs 11) ∧ Bk W (cb + 1) 39 [.int .i64 0, .slice none 0 0]) ⟨_, rfl, ((Kp.refl _ _).alloc _).alloc _, ((Bk.new' _ _ _).alloc _).cast rfl, (Bk.newAt (by simp) _ _).cast rfl⟩ ?_
  rintro W ⟨cb, hcb, kW, bC, bR⟩
  rw [hcb]
  have hb0 : w.heap.size ≤ cb := by omega
  obtain ⟨p0, p1, p2, p3, p4, p5, p6, p7⟩ := bk8 bC
  have BR := Lib.hid bR
  have KW := Lib.hid kW
  have hBB := HK.out.hB
  clear bC bR kW
  go_wp2_with (go_at_call 50; ((refine HF.out _ _ KW.out ?_); intro n A len cc l e k' a' w2 hs q2 n2 hl ht; have r2 := q2.bk BR.out (by decide); obtain ⟨s0, s1, f0, f1⟩ := bk2t r2; have R2 := Lib.hid r2; clear r2))
  obtain ⟨bb, kb⟩ := bk2set R2.out (.int .i64 n) (.slice A len cc)
  have hrt := Bk.ty R2.out
  obtain ⟨W9, hW9⟩ : ∃ W9, ((w2.setCell ⟨cb + 1, 0, none⟩ (.int .i64 n)).setCell ⟨cb + 1, 1, none⟩ (.slice A len cc)) = W9 := ⟨_, rfl⟩
  rw [hW9] at bb kb ⊢
  obtain ⟨g0, g1, _⟩ := bk2t bb
  exact bodyPost_ret (v := .tuple #[.agg #[.int .i64 n, .slice A len cc], .int .i64 e]) (by simp [results, Tryz.results9, go_sem, g0, g1]; try rfl) rfl (H.out n A len cc l e k' a' W9 hs (((Kq.of0 KW.out).trans q2).thn kb hBB (by intro s hs; simp at hs; omega)) ⟨n2.1.offA kb (fun e he => Off.one hrt he), n2.2⟩ hl (ht.kp kb (Off.one hrt (by decide))))
set_option maxHeartbeats 4000000 in
theorem kc_13 (hK : Kn w B a k) (hm : k.cnt m) (hm2 : m ≤ 10000) (x : Kc) (hx : x.ok w) (he1 : 1 ≤ x.env) (he2 : x.env ≤ 2) (hop : x.op = 13)
    (h : (∀ n A len cc l e k' a' w', Hid (kStep k x n l e k') → Kq B w w' → (Kn w' B a' k' ∧ a'.g = a.g ∧ a'.bT = a.bT) → l.length = len → Tb w' 5 A (bts l) → R (.returned (.tuple #[.agg #[.int .i64 n, .slice A len cc], .int .i64 e])) w')) :
    Calls Tryz.prog 9 #[.pointer (some ⟨a.g, 0, none⟩), .agg #[.int .i64 13, .int .i64 x.env, .int .i64 x.a, .int .i64 x.b, .int .i64 x.c, .slice x.A5 x.n5 x.c5, .slice x.A6 x.n6 x.c6, .slice x.A7 x.n7 x.c7]] w R := by
  have H := Lib.hid h
  have HK := Lib.hid hK
  have HX := Lib.hid hx
  have HM := Lib.hid hm
  clear h hK hx hm
  have hn1 : ¬ x.env < 1 := by omega
  have hn2 : ¬ 2 < x.env := by omega
  go_enter Tryz.func9, Tryz.ntmps9
  go_upto_region 1 with (fail)
  refine gen_worldK (fun W => ∃ cb, w.heap.size = cb ∧ Kp [] w W ∧ Bk W cb 45 (x.cs 13) ∧ Bk W (cb + 1) 39 [.int .i64 0, .slice none 0 0]) ⟨_, rfl, ((Kp.refl _ _).alloc _).alloc _, ((Bk.new' _ _ _).alloc _).cast rfl, (Bk.newAt (by simp) _ _).cast rfl⟩ ?_
  rintro W ⟨cb, hcb, kW, bC, bR⟩
  rw [hcb]
  have hb0 : w.heap.size ≤ cb := by omega
  obtain ⟨p0, p1, p2, p3, p4, p5, p6, p7⟩ := bk8 bC
  have BR := Lib.hid bR
  have KW := Lib.hid kW
  have hBB := HK.out.hB
  have c8 : W.cell? ⟨a.g, 8, none⟩ = some (.int .i64 k.dn) := (HK.out.off0 kW).cell 8
  obtain ⟨s0, s1, f0, f1⟩ := bk2t bR
  clear bC bR kW
  go_wp2
  obtain ⟨bb, kb⟩ := bk2set BR.out (.int .i64 k.dn) (.slice none 0 0)
  have hrt := Bk.ty BR.out
  obtain ⟨W9, hW9⟩ : ∃ W9, ((W.setCell ⟨cb + 1, 0, none⟩ (.int .i64 k.dn)).setCell ⟨cb + 1, 1, none⟩ (.slice none 0 0)) = W9 := ⟨_, rfl⟩
  rw [hW9] at bb kb ⊢
  obtain ⟨g0, g1, _⟩ := bk2t bb
  exact bodyPost_ret (v := .tuple #[.agg #[.int .i64 k.dn, .slice none 0 0], .int .i64 0]) (by simp [results, Tryz.results9, go_sem, g0, g1]; try rfl) rfl (H.out k.dn none 0 0 [] 0 k a W9 (Lib.hid (by simp [kStep, hop]; omega)) (Kq.of0 (KW.out.thn kb (fun s hs => .inr (by simp at hs; omega)))) ⟨HK.out.off0 (KW.out.thn kb (fun s hs => .inr (by simp at hs; omega))), rfl, rfl⟩ rfl Tb.nil)
set_option maxHeartbeats 4000000 in
theorem kc_12_1 (hK : Kn w B a k) (hm : k.cnt m) (hm2 : m ≤ 10000) (x : Kc) (hx : x.ok w) (hop : x.op = 12) (he : x.env = 1)
    (h : (∀ n A len cc l e k' a' w', Hid (kStep k x n l e k') → Kq B w w' → (Kn w' B a' k' ∧ a'.g = a.g ∧ a'.bT = a.bT) → l.length = len → Tb w' 5 A (bts l) → R (.returned (.tuple #[.agg #[.int .i64 n, .slice A len cc], .int .i64 e])) w')) :
    Calls Tryz.prog 9 #[.pointer (some ⟨a.g, 0, none⟩), .agg #[.int .i64 12, .int .i64 1, .int .i64 x.a, .int .i64 x.b, .int .i64 x.c, .slice x.A5 x.n5 x.c5, .slice x.A6 x.n6 x.c6, .slice x.A7 x.n7 x.c7]] w R := by
  have H := Lib.hid h
  have HK := Lib.hid hK
  have HX := Lib.hid hx
  have HM := Lib.hid hm
  clear h hK hx hm
  go_enter Tryz.func9, Tryz.ntmps9
  go_upto_region 1 with (fail)
  refine gen_worldK (fun W => ∃ cb, w.heap.size = cb ∧ Kp [] w W ∧ Bk W cb 45 (x.cs 12) ∧ Bk W (cb + 1) 39 [.int .i64 0, .slice none 0 0]) ⟨_, rfl, ((Kp.refl _ _).alloc _).alloc _, ((Bk.new' _ _ _).alloc _).cast (by simp [Kc.cs, he]), (Bk.newAt (by simp) _ _).cast rfl⟩ ?_
  rintro W ⟨cb, hcb, kW, bC, bR⟩
  rw [hcb]
  have hb0 : w.heap.size ≤ cb := by omega
  obtain ⟨p0, p1, p2, p3, p4, p5, p6, p7⟩ := bk8 bC
  have BR := Lib.hid bR
  have KW := Lib.hid kW
  have hBB := HK.out.hB
  have kn := HK.out.off0 kW
  have KN := Lib.hid kn
  have BC := Lib.hid bC
  rw [he] at p1
  have HS : Hid (∀ w', Kp ([a.s1, a.r1] ++ [cb + 1]) W w' → w'.cell? ⟨a.g, 5, none⟩ = some (.pointer (some ⟨a.s1, 0, none⟩)) ∧ w'.cell? ⟨cb, 1, none⟩ = some (.int .i64 1)) := Lib.hid (fun w' k' => by
    have o1 : ∀ e, 199 ≠ e → 37 ≠ e → 39 ≠ e → Off W ([a.s1, a.r1] ++ [cb + 1]) e := fun e h1 h2 h3 => Off.app (Off.app (S := [a.s1]) (S' := [a.r1]) (Off.one KN.out.i1.hs.ty h1) (Off.one KN.out.r1 h2)) (Off.one BR.out.ty h3)
    exact ⟨(KN.out.g.off k' (o1 _ (by decide) (by decide) (by decide))).cell 5, by rw [← he]; exact (BC.out.off k' (o1 _ (by decide) (by decide) (by decide))).cell 1⟩)
  have HR2 : Hid (∀ w', Kp [a.s1, a.r1] W w' → Bk w' (cb + 1) 39 [.int .i64 0, .slice none 0 0]) := Lib.hid (fun w' k' => BR.out.off k' (Off.app (S := [a.s1]) (S' := [a.r1]) (Off.one KN.out.i1.hs.ty (by decide)) (Off.one KN.out.r1 (by decide))))
  have hc1 := HM.out.c1
  obtain ⟨q0, q1⟩ := HS.out W (Kp.refl _ _)
  obtain ⟨⟨j0, j1⟩, ⟨j2, j3⟩⟩ := bk2 bR
  clear bC bR kW kn
  go_upto_region 17 with (fail)
  have HT : Hid (∀ (R : Ending → World → Prop) (w1 : World), Kp [] W w1 → (∀ A len cc l e k' w', Hid (kStep k x 0 l e k') → Kp [a.s1, a.r1] w1 w' → Kn w' B a k' → l.length = len → Tb w' 5 A (bts l) → R (.returned (.tuple #[.slice A len cc, .int .i64 e])) w') → Calls Tryz.prog 52 #[.pointer (some ⟨a.s1, 0, none⟩)] w1 R) := Lib.hid (fun R w1 k1 h => by
    have kn1 := KN.out.off0 k1
    refine rtake_any kn1.i1 kn1.new.n1 (by omega) (fun hq w' kk => h none 0 0 [] 11 k w' (Lib.hid ?_) (kk.mono (by simp)) (kn1.off0 kk) rfl Tb.nil) (fun y q hq w' kk rr tb => h y.A y.n y.c y.l 0 _ w' (Lib.hid ?_) kk (kn1.set1 kk rr).1 (kn1.i1.data y (by rw [hq.out]; simp)).1 tb)
    · simp [kStep, hop, he, hq]
    · simp only [kStep, hop, he]
      simp [hq.out])
  go_region_held_law (fun w' => w'.cell? ⟨a.g, 5, none⟩ = some (.pointer (some ⟨a.s1, 0, none⟩)) ∧ w'.cell? ⟨cb, 1, none⟩ = some (.int .i64 1)) ((refine HS.out _ ?_; repeat (first | with_reducible exact kk3.mono (fun s hs => .inl (List.mem_append_left _ hs)) | with_reducible exact kk2.mono (fun s hs => .inl (List.mem_append_left _ hs)) | with_reducible exact Kp.refl _ _ | with_reducible refine Kp.drew ?_ | with_reducible refine Kp.setCell ?_ (.inl (by simp)) _))) (first | (go_simp; go_at_call 52; (refine HT.out _ _ (by repeat (first | with_reducible exact Kp.refl _ _ | with_reducible refine Kp.drew ?_)) ?_); intro A len cc l e k' w2 hs k2 n2 hl ht; have kk2 : Kp [a.s1, a.r1] W w2 := Kp.trans (by repeat (first | with_reducible exact Kp.refl _ _ | with_reducible refine Kp.drew ?_)) k2) | (go_simp; go_at_call 51; (refine told_any _ _ _ _ _ ?_); intro w3 k3; have kk3 : Kp [a.s1, a.r1] W w3 := kk2.trans (k3.mono (by simp)); have r3 := HR2.out w3 kk3; obtain ⟨⟨u0, u1⟩, ⟨v0, v1⟩⟩ := bk2 r3))
  all_goals
   have R3 := Lib.hid r3
   clear r3
   go_wp2
   obtain ⟨bb, kb⟩ := bk2set R3.out (.int .i64 0) (.slice A len cc)
   have hrt := Bk.ty R3.out
   obtain ⟨W9, hW9⟩ : ∃ W9, ((w3.setCell ⟨cb + 1, 0, none⟩ (.int .i64 0)).setCell ⟨cb + 1, 1, none⟩ (.slice A len cc)) = W9 := ⟨_, rfl⟩
   rw [hW9] at bb kb ⊢
   obtain ⟨g0, g1, _⟩ := bk2t bb
   exact bodyPost_ret (v := .tuple #[.agg #[.int .i64 0, .slice A len cc], .int .i64 e]) (by simp [results, Tryz.results9, go_sem, g0, g1]; try rfl) rfl (H.out 0 A len cc l e k' a W9 hs (Kq.thn (Kq.of (((KW.out.mono (by simp)).trans kk2).trans (k3.mono (by simp))) (by intro s hs; simp at hs; rcases hs with rfl | rfl; exact HK.out.new.s1; exact HK.out.new.r1) (fun e he => Off.app (S := [a.s1]) (S' := [a.r1]) (Off.one HK.out.i1.hs.ty (by rintro rfl; exact he (by decide))) (Off.one HK.out.r1 (by rintro rfl; exact he (by decide))))) kb hBB (by intro s hs; simp at hs; omega)) ⟨(n2.off0 k3).offA kb (fun e he => Off.one hrt he), rfl, rfl⟩ hl ((ht.kp k3 (Off.nil _ _)).kp kb (Off.one hrt (by decide))))
set_option maxHeartbeats 4000000 in
theorem kc_12_2 (hK : Kn w B a k) (hm : k.cnt m) (hm2 : m ≤ 10000) (x : Kc) (hx : x.ok w) (hop : x.op = 12) (he : x.env = 2)
    (h : (∀ n A len cc l e k' a' w', Hid (kStep k x n l e k') → Kq B w w' → (Kn w' B a' k' ∧ a'.g = a.g ∧ a'.bT = a.bT) → l.length = len → Tb w' 5 A (bts l) → R (.returned (.tuple #[.agg #[.int .i64 n, .slice A len cc], .int .i64 e])) w')) :
    Calls Tryz.prog 9 #[.pointer (some ⟨a.g, 0, none⟩), .agg #[.int .i64 12, .int .i64 2, .int .i64 x.a, .int .i64 x.b, .int .i64 x.c, .slice x.A5 x.n5 x.c5, .slice x.A6 x.n6 x.c6, .slice x.A7 x.n7 x.c7]] w R := by
  have H := Lib.hid h
  have HK := Lib.hid hK
  have HX := Lib.hid hx
  have HM := Lib.hid hm
  clear h hK hx hm
  go_enter Tryz.func9, Tryz.ntmps9
  go_upto_region 1 with (fail)
  refine gen_worldK (fun W => ∃ cb, w.heap.size = cb ∧ Kp [] w W ∧ Bk W cb 45 (x.cs 12) ∧ Bk W (cb + 1) 39 [.int .i64 0, .slice none 0 0]) ⟨_, rfl, ((Kp.refl _ _).alloc _).alloc _, ((Bk.new' _ _ _).alloc _).cast (by simp [Kc.cs, he]), (Bk.newAt (by simp) _ _).cast rfl⟩ ?_
  rintro W ⟨cb, hcb, kW, bC, bR⟩
  rw [hcb]
  have hb0 : w.heap.size ≤ cb := by omega
  obtain ⟨p0, p1, p2, p3, p4, p5, p6, p7⟩ := bk8 bC
  have BR := Lib.hid bR
  have KW := Lib.hid kW
  have hBB := HK.out.hB
  have kn := HK.out.off0 kW
  have KN := Lib.hid kn
  have BC := Lib.hid bC
  rw [he] at p1
  have HS : Hid (∀ w', Kp ([a.s2, a.r2] ++ [cb + 1]) W w' → w'.cell? ⟨a.g, 6, none⟩ = some (.pointer (some ⟨a.s2, 0, none⟩)) ∧ w'.cell? ⟨cb, 1, none⟩ = some (.int .i64 2)) := Lib.hid (fun w' k' => by
    have o1 : ∀ e, 199 ≠ e → 37 ≠ e → 39 ≠ e → Off W ([a.s2, a.r2] ++ [cb + 1]) e := fun e h1 h2 h3 => Off.app (Off.app (S := [a.s2]) (S' := [a.r2]) (Off.one KN.out.i2.hs.ty h1) (Off.one KN.out.r2 h2)) (Off.one BR.out.ty h3)
    exact ⟨(KN.out.g.off k' (o1 _ (by decide) (by decide) (by decide))).cell 6, by rw [← he]; exact (BC.out.off k' (o1 _ (by decide) (by decide) (by decide))).cell 1⟩)
  have HR2 : Hid (∀ w', Kp [a.s2, a.r2] W w' → Bk w' (cb + 1) 39 [.int .i64 0, .slice none 0 0]) := Lib.hid (fun w' k' => BR.out.off k' (Off.app (S := [a.s2]) (S' := [a.r2]) (Off.one KN.out.i2.hs.ty (by decide)) (Off.one KN.out.r2 (by decide))))
  have hc2 := HM.out.c2
  obtain ⟨q0, q1⟩ := HS.out W (Kp.refl _ _)
  obtain ⟨⟨j0, j1⟩, ⟨j2, j3⟩⟩ := bk2 bR
  clear bC bR kW kn
  go_upto_region 17 with (fail)
  have HT : Hid (∀ (R : Ending → World → Prop) (w1 : World), Kp [] W w1 → (∀ A len cc l e k' w', Hid (kStep k x 0 l e k') → Kp [a.s2, a.r2] w1 w' → Kn w' B a k' → l.length = len → Tb w' 5 A (bts l) → R (.returned (.tuple #[.slice A len cc, .int .i64 e])) w') → Calls Tryz.prog 52 #[.pointer (some ⟨a.s2, 0, none⟩)] w1 R) := Lib.hid (fun R w1 k1 h => by
    have kn1 := KN.out.off0 k1
    refine rtake_any kn1.i2 kn1.new.n2 (by omega) (fun hq w' kk => h none 0 0 [] 11 k w' (Lib.hid ?_) (kk.mono (by simp)) (kn1.off0 kk) rfl Tb.nil) (fun y q hq w' kk rr tb => h y.A y.n y.c y.l 0 _ w' (Lib.hid ?_) kk (kn1.set2 kk rr).1 (kn1.i2.data y (by rw [hq.out]; simp)).1 tb)
    · simp [kStep, hop, he, hq]
    · simp only [kStep, hop, he]
      simp [hq.out])
  go_region_held_law (fun w' => w'.cell? ⟨a.g, 6, none⟩ = some (.pointer (some ⟨a.s2, 0, none⟩)) ∧ w'.cell? ⟨cb, 1, none⟩ = some (.int .i64 2)) ((refine HS.out _ ?_; repeat (first | with_reducible exact kk3.mono (fun s hs => .inl (List.mem_append_left _ hs)) | with_reducible exact kk2.mono (fun s hs => .inl (List.mem_append_left _ hs)) | with_reducible exact Kp.refl _ _ | with_reducible refine Kp.drew ?_ | with_reducible refine Kp.setCell ?_ (.inl (by simp)) _))) (first | (go_simp; go_at_call 52; (refine HT.out _ _ (by repeat (first | with_reducible exact Kp.refl _ _ | with_reducible refine Kp.drew ?_)) ?_); intro A len cc l e k' w2 hs k2 n2 hl ht; have kk2 : Kp [a.s2, a.r2] W w2 := Kp.trans (by repeat (first | with_reducible exact Kp.refl _ _ | with_reducible refine Kp.drew ?_)) k2) | (go_simp; go_at_call 51; (refine told_any _ _ _ _ _ ?_); intro w3 k3; have kk3 : Kp [a.s2, a.r2] W w3 := kk2.trans (k3.mono (by simp)); have r3 := HR2.out w3 kk3; obtain ⟨⟨u0, u1⟩, ⟨v0, v1⟩⟩ := bk2 r3))
  all_goals
   have R3 := Lib.hid r3
   clear r3
   go_wp2
   obtain ⟨bb, kb⟩ := bk2set R3.out (.int .i64 0) (.slice A len cc)
   have hrt := Bk.ty R3.out
   obtain ⟨W9, hW9⟩ : ∃ W9, ((w3.setCell ⟨cb + 1, 0, none⟩ (.int .i64 0)).setCell ⟨cb + 1, 1, none⟩ (.slice A len cc)) = W9 := ⟨_, rfl⟩
   rw [hW9] at bb kb ⊢
   obtain ⟨g0, g1, _⟩ := bk2t bb
   exact bodyPost_ret (v := .tuple #[.agg #[.int .i64 0, .slice A len cc], .int .i64 e]) (by simp [results, Tryz.results9, go_sem, g0, g1]; try rfl) rfl (H.out 0 A len cc l e k' a W9 hs (Kq.thn (Kq.of (((KW.out.mono (by simp)).trans kk2).trans (k3.mono (by simp))) (by intro s hs; simp at hs; rcases hs with rfl | rfl; exact HK.out.new.s2; exact HK.out.new.r2) (fun e he => Off.app (S := [a.s2]) (S' := [a.r2]) (Off.one HK.out.i2.hs.ty (by rintro rfl; exact he (by decide))) (Off.one HK.out.r2 (by rintro rfl; exact he (by decide))))) kb hBB (by intro s hs; simp at hs; omega)) ⟨(n2.off0 k3).offA kb (fun e he => Off.one hrt he), rfl, rfl⟩ hl ((ht.kp k3 (Off.nil _ _)).kp kb (Off.one hrt (by decide))))
set_option maxHeartbeats 4000000 in
theorem kc_b1 (hK : Kn w B a k) (hm : k.cnt m) (hm2 : m ≤ 10000) (x : Kc) (hx : x.ok w) (hbad : x.env < 1)
    (h : (∀ n A len cc l e k' a' w', Hid (kStep k x n l e k') → Kq B w w' → (Kn w' B a' k' ∧ a'.g = a.g ∧ a'.bT = a.bT) → l.length = len → Tb w' 5 A (bts l) → R (.returned (.tuple #[.agg #[.int .i64 n, .slice A len cc], .int .i64 e])) w')) :
    Calls Tryz.prog 9 #[.pointer (some ⟨a.g, 0, none⟩), .agg #[.int .i64 x.op, .int .i64 x.env, .int .i64 x.a, .int .i64 x.b, .int .i64 x.c, .slice x.A5 x.n5 x.c5, .slice x.A6 x.n6 x.c6, .slice x.A7 x.n7 x.c7]] w R := by
  have H := Lib.hid h
  have HK := Lib.hid hK
  have HX := Lib.hid hx
  have HM := Lib.hid hm
  clear h hK hx hm
  go_enter Tryz.func9, Tryz.ntmps9
  go_upto_region 1 with (fail)
  refine gen_worldK (fun W => ∃ cb, w.heap.size = cb ∧ Kp [] w W ∧ Bk W cb 45 (x.cs x.op) ∧ Bk W (cb + 1) 39 [.int .i64 0, .slice none 0 0]) ⟨_, rfl, ((Kp.refl _ _).alloc _).alloc _, ((Bk.new' _ _ _).alloc _).cast rfl, (Bk.newAt (by simp) _ _).cast rfl⟩ ?_
  rintro W ⟨cb, hcb, kW, bC, bR⟩
  rw [hcb]
  have hb0 : w.heap.size ≤ cb := by omega
  obtain ⟨p0, p1, p2, p3, p4, p5, p6, p7⟩ := bk8 bC
  have BR := Lib.hid bR
  have KW := Lib.hid kW
  have hBB := HK.out.hB
  obtain ⟨s0, s1, f0, f1⟩ := bk2t bR
  clear bC bR kW
  go_wp2
  obtain ⟨bb, kb⟩ := bk2set BR.out (.int .i64 0) (.slice none 0 0)
  have hrt := Bk.ty BR.out
  obtain ⟨W9, hW9⟩ : ∃ W9, ((W.setCell ⟨cb + 1, 0, none⟩ (.int .i64 0)).setCell ⟨cb + 1, 1, none⟩ (.slice none 0 0)) = W9 := ⟨_, rfl⟩
  rw [hW9] at bb kb ⊢
  obtain ⟨g0, g1, _⟩ := bk2t bb
  exact bodyPost_ret (v := .tuple #[.agg #[.int .i64 0, .slice none 0 0], .int .i64 1]) (by simp [results, Tryz.results9, go_sem, g0, g1]; try rfl) rfl (H.out 0 none 0 0 [] 1 k a W9 (Lib.hid (by unfold kStep; rw [if_pos (by omega)]; exact ⟨rfl, rfl, rfl, rfl⟩)) (Kq.of0 (KW.out.thn kb (fun s hs => .inr (by simp at hs; omega)))) ⟨HK.out.off0 (KW.out.thn kb (fun s hs => .inr (by simp at hs; omega))), rfl, rfl⟩ rfl Tb.nil)
set_option maxHeartbeats 4000000 in
theorem kc_b2 (hK : Kn w B a k) (hm : k.cnt m) (hm2 : m ≤ 10000) (x : Kc) (hx : x.ok w) (hbad : 2 < x.env)
    (h : (∀ n A len cc l e k' a' w', Hid (kStep k x n l e k') → Kq B w w' → (Kn w' B a' k' ∧ a'.g = a.g ∧ a'.bT = a.bT) → l.length = len → Tb w' 5 A (bts l) → R (.returned (.tuple #[.agg #[.int .i64 n, .slice A len cc], .int .i64 e])) w')) :
    Calls Tryz.prog 9 #[.pointer (some ⟨a.g, 0, none⟩), .agg #[.int .i64 x.op, .int .i64 x.env, .int .i64 x.a, .int .i64 x.b, .int .i64 x.c, .slice x.A5 x.n5 x.c5, .slice x.A6 x.n6 x.c6, .slice x.A7 x.n7 x.c7]] w R := by
  have H := Lib.hid h
  have HK := Lib.hid hK
  have HX := Lib.hid hx
  have HM := Lib.hid hm
  clear h hK hx hm
  have hn1 : ¬ x.env < 1 := by omega
  go_enter Tryz.func9, Tryz.ntmps9
  go_upto_region 1 with (fail)
  refine gen_worldK (fun W => ∃ cb, w.heap.size = cb ∧ Kp [] w W ∧ Bk W cb 45 (x.cs x.op) ∧ Bk W (cb + 1) 39 [.int .i64 0, .slice none 0 0]) ⟨_, rfl, ((Kp.refl _ _).alloc _).alloc _, ((Bk.new' _ _ _).alloc _).cast rfl, (Bk.newAt (by simp) _ _).cast rfl⟩ ?_
  rintro W ⟨cb, hcb, kW, bC, bR⟩
  rw [hcb]
  have hb0 : w.heap.size ≤ cb := by omega
  obtain ⟨p0, p1, p2, p3, p4, p5, p6, p7⟩ := bk8 bC
  have BR := Lib.hid bR
  have KW := Lib.hid kW
  have hBB := HK.out.hB
  obtain ⟨s0, s1, f0, f1⟩ := bk2t bR
  clear bC bR kW
  go_wp2
  obtain ⟨bb, kb⟩ := bk2set BR.out (.int .i64 0) (.slice none 0 0)
  have hrt := Bk.ty BR.out
  obtain ⟨W9, hW9⟩ : ∃ W9, ((W.setCell ⟨cb + 1, 0, none⟩ (.int .i64 0)).setCell ⟨cb + 1, 1, none⟩ (.slice none 0 0)) = W9 := ⟨_, rfl⟩
  rw [hW9] at bb kb ⊢
  obtain ⟨g0, g1, _⟩ := bk2t bb
  exact bodyPost_ret (v := .tuple #[.agg #[.int .i64 0, .slice none 0 0], .int .i64 1]) (by simp [results, Tryz.results9, go_sem, g0, g1]; try rfl) rfl (H.out 0 none 0 0 [] 1 k a W9 (Lib.hid (by unfold kStep; rw [if_pos (by omega)]; exact ⟨rfl, rfl, rfl, rfl⟩)) (Kq.of0 (KW.out.thn kb (fun s hs => .inr (by simp at hs; omega)))) ⟨HK.out.off0 (KW.out.thn kb (fun s hs => .inr (by simp at hs; omega))), rfl, rfl⟩ rfl Tb.nil)
set_option maxHeartbeats 4000000 in
theorem kc_b3 (hK : Kn w B a k) (hm : k.cnt m) (hm2 : m ≤ 10000) (x : Kc) (hx : x.ok w) (hbad : x.op < 1) (he1 : 1 ≤ x.env) (he2 : x.env ≤ 2)
    (h : (∀ n A len cc l e k' a' w', Hid (kStep k x n l e k') → Kq B w w' → (Kn w' B a' k' ∧ a'.g = a.g ∧ a'.bT = a.bT) → l.length = len → Tb w' 5 A (bts l) → R (.returned (.tuple #[.agg #[.int .i64 n, .slice A len cc], .int .i64 e])) w')) :
    Calls Tryz.prog 9 #[.pointer (some ⟨a.g, 0, none⟩), .agg #[.int .i64 x.op, .int .i64 x.env, .int .i64 x.a, .int .i64 x.b, .int .i64 x.c, .slice x.A5 x.n5 x.c5, .slice x.A6 x.n6 x.c6, .slice x.A7 x.n7 x.c7]] w R := by
  have H := Lib.hid h
  have HK := Lib.hid hK
  have HX := Lib.hid hx
  have HM := Lib.hid hm
  clear h hK hx hm
  have hn1 : ¬ x.env < 1 := by omega
  have hn2 : ¬ 2 < x.env := by omega
  go_enter Tryz.func9, Tryz.ntmps9
  go_upto_region 1 with (fail)
  refine gen_worldK (fun W => ∃ cb, w.heap.size = cb ∧ Kp [] w W ∧ Bk W cb 45 (x.cs x.op) ∧ Bk W (cb + 1) 39 [.int .i64 0, .slice none 0 0]) ⟨_, rfl, ((Kp.refl _ _).alloc _).alloc _, ((Bk.new' _ _ _).alloc _).cast rfl, (Bk.newAt (by simp) _ _).cast rfl⟩ ?_
  rintro W ⟨cb, hcb, kW, bC, bR⟩
  rw [hcb]
  have hb0 : w.heap.size ≤ cb := by omega
  obtain ⟨p0, p1, p2, p3, p4, p5, p6, p7⟩ := bk8 bC
  have BR := Lib.hid bR
  have KW := Lib.hid kW
  have hBB := HK.out.hB
  obtain ⟨s0, s1, f0, f1⟩ := bk2t bR
  clear bC bR kW
  go_wp2
  obtain ⟨bb, kb⟩ := bk2set BR.out (.int .i64 0) (.slice none 0 0)
  have hrt := Bk.ty BR.out
  obtain ⟨W9, hW9⟩ : ∃ W9, ((W.setCell ⟨cb + 1, 0, none⟩ (.int .i64 0)).setCell ⟨cb + 1, 1, none⟩ (.slice none 0 0)) = W9 := ⟨_, rfl⟩
  rw [hW9] at bb kb ⊢
  obtain ⟨g0, g1, _⟩ := bk2t bb
  exact bodyPost_ret (v := .tuple #[.agg #[.int .i64 0, .slice none 0 0], .int .i64 1]) (by simp [results, Tryz.results9, go_sem, g0, g1]; try rfl) rfl (H.out 0 none 0 0 [] 1 k a W9 (Lib.hid (by unfold kStep; rw [if_pos (by omega)]; exact ⟨rfl, rfl, rfl, rfl⟩)) (Kq.of0 (KW.out.thn kb (fun s hs => .inr (by simp at hs; omega)))) ⟨HK.out.off0 (KW.out.thn kb (fun s hs => .inr (by simp at hs; omega))), rfl, rfl⟩ rfl Tb.nil)
set_option maxHeartbeats 4000000 in
theorem kc_b4 (hK : Kn w B a k) (hm : k.cnt m) (hm2 : m ≤ 10000) (x : Kc) (hx : x.ok w) (hbad : 13 < x.op) (he1 : 1 ≤ x.env) (he2 : x.env ≤ 2)
    (h : (∀ n A len cc l e k' a' w', Hid (kStep k x n l e k') → Kq B w w' → (Kn w' B a' k' ∧ a'.g = a.g ∧ a'.bT = a.bT) → l.length = len → Tb w' 5 A (bts l) → R (.returned (.tuple #[.agg #[.int .i64 n, .slice A len cc], .int .i64 e])) w')) :
    Calls Tryz.prog 9 #[.pointer (some ⟨a.g, 0, none⟩), .agg #[.int .i64 x.op, .int .i64 x.env, .int .i64 x.a, .int .i64 x.b, .int .i64 x.c, .slice x.A5 x.n5 x.c5, .slice x.A6 x.n6 x.c6, .slice x.A7 x.n7 x.c7]] w R := by
  have H := Lib.hid h
  have HK := Lib.hid hK
  have HX := Lib.hid hx
  have HM := Lib.hid hm
  clear h hK hx hm
  have hn1 : ¬ x.env < 1 := by omega
  have hn2 : ¬ 2 < x.env := by omega
  have hn3 : ¬ x.op < 1 := by omega
  go_enter Tryz.func9, Tryz.ntmps9
  go_upto_region 1 with (fail)
  refine gen_worldK (fun W => ∃ cb, w.heap.size = cb ∧ Kp [] w W ∧ Bk W cb 45 (x.cs x.op) ∧ Bk W (cb + 1) 39 [.int .i64 0, .slice none 0 0]) ⟨_, rfl, ((Kp.refl _ _).alloc _).alloc _, ((Bk.new' _ _ _).alloc _).cast rfl, (Bk.newAt (by simp) _ _).cast rfl⟩ ?_
  rintro W ⟨cb, hcb, kW, bC, bR⟩
  rw [hcb]
  have hb0 : w.heap.size ≤ cb := by omega
  obtain ⟨p0, p1, p2, p3, p4, p5, p6, p7⟩ := bk8 bC
  have BR := Lib.hid bR
  have KW := Lib.hid kW
  have hBB := HK.out.hB
  obtain ⟨s0, s1, f0, f1⟩ := bk2t bR
  clear bC bR kW
  go_wp2
  obtain ⟨bb, kb⟩ := bk2set BR.out (.int .i64 0) (.slice none 0 0)
  have hrt := Bk.ty BR.out
  obtain ⟨W9, hW9⟩ : ∃ W9, ((W.setCell ⟨cb + 1, 0, none⟩ (.int .i64 0)).setCell ⟨cb + 1, 1, none⟩ (.slice none 0 0)) = W9 := ⟨_, rfl⟩
  rw [hW9] at bb kb ⊢
  obtain ⟨g0, g1, _⟩ := bk2t bb
  exact bodyPost_ret (v := .tuple #[.agg #[.int .i64 0, .slice none 0 0], .int .i64 1]) (by simp [results, Tryz.results9, go_sem, g0, g1]; try rfl) rfl (H.out 0 none 0 0 [] 1 k a W9 (Lib.hid (by unfold kStep; rw [if_pos (by omega)]; exact ⟨rfl, rfl, rfl, rfl⟩)) (Kq.of0 (KW.out.thn kb (fun s hs => .inr (by simp at hs; omega)))) ⟨HK.out.off0 (KW.out.thn kb (fun s hs => .inr (by simp at hs; omega))), rfl, rfl⟩ rfl Tb.nil)
theorem kcall_any (hK : Kn w B a k) (hm : k.cnt m) (hm2 : m ≤ 10000) (x : Kc) (hx : x.ok w)
    (h : (∀ n A len cc l e k' a' w', Hid (kStep k x n l e k') → Kq B w w' → (Kn w' B a' k' ∧ a'.g = a.g ∧ a'.bT = a.bT) → l.length = len → Tb w' 5 A (bts l) → R (.returned (.tuple #[.agg #[.int .i64 n, .slice A len cc], .int .i64 e])) w')) :
    Calls Tryz.prog 9 #[.pointer (some ⟨a.g, 0, none⟩), .agg #[.int .i64 x.op, .int .i64 x.env, .int .i64 x.a, .int .i64 x.b, .int .i64 x.c, .slice x.A5 x.n5 x.c5, .slice x.A6 x.n6 x.c6, .slice x.A7 x.n7 x.c7]] w R := by
  by_cases e1 : x.env < 1
  · exact kc_b1 hK hm hm2 x hx e1 h
  by_cases e2 : 2 < x.env
  · exact kc_b2 hK hm hm2 x hx e2 h
  have f1 : 1 ≤ x.env := by omega
  have f2 : x.env ≤ 2 := by omega
  by_cases e3 : x.op < 1
  · exact kc_b3 hK hm hm2 x hx e3 f1 f2 h
  by_cases e4 : 13 < x.op
  · exact kc_b4 hK hm hm2 x hx e4 f1 f2 h
  rcases (by omega : x.op = 1 ∨ x.op = 2 ∨ x.op = 3 ∨ x.op = 4 ∨ x.op = 5 ∨ x.op = 6 ∨ x.op = 7 ∨ x.op = 8 ∨ x.op = 9 ∨ x.op = 10 ∨ x.op = 11 ∨ x.op = 12 ∨ x.op = 13) with o | o | o | o | o | o | o | o | o | o | o | o | o
  · rw [o]; exact kc_1 hK hm hm2 x hx f1 f2 o h
  · rw [o]; exact kc_2 hK hm hm2 x hx f1 f2 o h
  · rw [o]; exact kc_3 hK hm hm2 x hx f1 f2 o h
  · rw [o]; exact kc_4 hK hm hm2 x hx f1 f2 o h
  · rw [o]; exact kc_5 hK hm hm2 x hx f1 f2 o h
  · rw [o]; exact kc_6 hK hm hm2 x hx f1 f2 o h
  · rw [o]; exact kc_7 hK hm hm2 x hx f1 f2 o h
  · rw [o]; exact kc_8 hK hm hm2 x hx f1 f2 o h
  · rw [o]; exact kc_9 hK hm hm2 x hx f1 f2 o h
  · rw [o]; exact kc_10 hK hm hm2 x hx f1 f2 o h
  · rw [o]; exact kc_11 hK hm hm2 x hx f1 f2 o h
  · rw [o]
    rcases (by omega : x.env = 1 ∨ x.env = 2) with q | q
    · rw [q]; exact kc_12_1 hK hm hm2 x hx o q h
    · rw [q]; exact kc_12_2 hK hm hm2 x hx o q h
  · rw [o]; exact kc_13 hK hm hm2 x hx f1 f2 o h
end
end
/-! ### Kernel.Arrive where the first filter takes all; Depart; the kernel's own. -/
section
open Go.RowKit Go.Shelf
set_option linter.unusedVariables false
set_option linter.unusedSimpArgs false
set_option maxRecDepth 100000
section
variable {R : Ending → World → Prop} {w : World} {B m : Nat} {a : KA} {k : KS}
set_option maxHeartbeats 1000000 in
theorem ktab_any (hK : Kn w B a k) (h : R (.returned (.pointer (some ⟨a.bT, 0, none⟩))) w) : Calls Tryz.prog 17 #[.pointer (some ⟨a.g, 0, none⟩)] w R := by
  have c0 : w.cell? ⟨a.g, 0, none⟩ = some (.pointer (some ⟨a.bT, 0, none⟩)) := hK.cell 0
  clear hK
  go_enter Tryz.func17, Tryz.ntmps17
  go_wp2
  exact h
end
end
/-! ### The document's kernel in memory. -/
section
open Go.RowKit Go.Shelf
set_option linter.unusedVariables false
set_option linter.unusedSimpArgs false
set_option maxRecDepth 100000

theorem Kq.nb {B : Nat} {w w' : World} (h : Kq B w w') {N : List Nat} {A : Option Addr} {e : Nat} {xs : List Value} (hb : Nb w N e A xs) (he : e ∉ MT) : Nb w' N e A xs := fun hx => by
  obtain ⟨b, off, cs, rfl, hn, hz, hc⟩ := hb hx
  exact ⟨b, off, cs, rfl, hn, h.bz hz he, hc⟩
theorem Kq.tw {B : Nat} {w w' : World} (h : Kq B w w') {b e : Nat} {xs : List Value} (hb : Tw w b e xs) (he : e ∉ MT) : Tw w' b e xs := by
  obtain ⟨ys, hb⟩ := hb
  exact ⟨ys, h.bk hb he⟩
theorem RT.kq {B : Nat} {w w' : World} {bM bO bH bB : Nat} {fs : List Fr} (h : RT w bM bO bH bB fs) (k : Kq B w w') : RT w' bM bO bH bB fs := by
  obtain ⟨c0, c1, c2, ht⟩ := h.t
  exact ⟨⟨c0, c1, c2, k.bk ht (by decide)⟩, k.tw h.o (by decide), k.tw h.h (by decide), k.tw h.b (by decide), h.ne, h.n1⟩
theorem Dm.kq {B : Nat} {w w' : World} {bD bB bO c : Nat} {A : Option Addr} {d : DkS} (h : Dm w bD bB bO A c d) (k : Kq B w w') : Dm w' bD bB bO A c d := by
  obtain ⟨cb, co, hb⟩ := h.dd
  exact ⟨⟨cb, co, k.bk hb (by decide)⟩, k.tw h.b (by decide), k.tw h.o (by decide), k.nb h.ln (by decide), h.ne, h.ok⟩
theorem Dm.kpS {S' : List Nat} {w w' : World} {bD bB bO c : Nat} {A : Option Addr} {d : DkS} (h : Dm w bD bB bO A c d) (k : Kp S' w w') (h0 : bD ∉ S') (h1 : bB ∉ S') (h2 : bO ∉ S') (hl : Nb w' [bD, bB] 225 A (d.ln.flatMap mwV)) : Dm w' bD bB bO A c d := by
  obtain ⟨cb, co, hb⟩ := h.dd
  exact ⟨⟨cb, co, hb.kp k h0⟩, h.b.kp k h1, h.o.kp k h2, hl, h.ne, h.ok⟩
/-- Where the document's kernel lies. -/
structure QA where
  g : Nat
  bM : Nat
  bO : Nat
  bH : Nat
  bB : Nat
  bD : Nat
  pB : Nat
  pO : Nat
  dA : Option Addr
  dc : Nat
  fA : Option Addr
  fc : Nat
  i1 : Option Addr
  c1 : Nat
  i2 : Option Addr
  c2 : Nat
  oA : Option Addr
  oc : Nat
/-- The blocks that its calls write. -/
def QA.own (q : QA) : List Nat := [q.g, q.bO, q.bH, q.bB, q.bD, q.pB]
def QA.cells (q : QA) (k : KS) : List Value :=
  [.pointer (some ⟨q.bM, 0, none⟩), .pointer (some ⟨q.bD, 0, none⟩), .slice q.fA k.fl.length q.fc, .int .i64 k.nx, .slice none 0 0, .slice q.i1 k.q1.length q.c1, .slice q.i2 k.q2.length q.c2, .slice q.oA k.qo.length q.oc, .int .i64 (k.fo + k.qo.length : Nat), .int .i64 k.dn]
def bkey (x : Bnd) : Int × Int × List FOp := (x.id, x.env, x.p)
def tkey (x : Tq) : Int × List Pc := (x.env, x.l)
def tvals (x : Tq) : List Value := [.int .i64 x.env, .slice x.A x.n x.c]
theorem tvals_len (x : Tq) : (tvals x).length = 2 := rfl
def slV (x : Sl) : Value := .string (S x.l)
structure QF (w0 w : World) (N : List Nat) (A : Option Addr) (fl ys : List Bnd) : Prop where
  key : ys.map bkey = fl.map bkey
  rd : Nb w N 139 A (ys.flatMap Bnd.vals)
  p : ∀ y ∈ ys, y.p.length = y.n ∧ y.n ≤ 1000 ∧ (∀ o ∈ y.p, o.ok) ∧ Rd w0 [] y.A (y.p.flatMap FOp.vals)
structure QO (w0 w : World) (N : List Nat) (A : Option Addr) (qo ys : List Tq) : Prop where
  key : ys.map tkey = qo.map tkey
  rd : Nb w N 142 A (ys.flatMap tvals)
  p : ∀ y ∈ ys, y.l.length = y.n ∧ y.n ≤ 100 ∧ (∀ o ∈ y.l, o.ok) ∧ Rd w0 [] y.A (y.l.flatMap Pc.vals)
structure Qn (w0 : World) (B : Nat) (w : World) (q : QA) (k : KS) : Prop where
  old : Kp [] w0 w
  hB : w0.heap.size ≤ B
  g : Bk w q.g 67 (q.cells k)
  t : RT w q.bM q.bO q.bH q.bB k.fs
  d : Dm w q.bD q.pB q.pO q.dA q.dc k.d
  f : ∃ ys, QF w0 w q.own q.fA k.fl ys
  in1 : Nb w q.own 9 q.i1 (k.q1.map slV)
  in2 : Nb w q.own 9 q.i2 (k.q2.map slV)
  o : ∃ ys, QO w0 w q.own q.oA k.qo ys
  new : ∀ s ∈ q.own, B ≤ s
  nM : B ≤ q.bM
  nO : B ≤ q.pO ∧ q.pO ≠ q.bO ∧ q.pO ≠ q.bH ∧ q.pB ≠ q.bB
  cp : k.fl.length ≤ q.fc ∧ k.q1.length ≤ q.c1 ∧ k.q2.length ≤ q.c2 ∧ k.qo.length ≤ q.oc
section
variable {w0 w w' : World} {B : Nat} {q : QA} {k : KS} {N S' : List Nat}
theorem QF.kp {A : Option Addr} {fl ys : List Bnd} (h : QF w0 w N A fl ys) (hk : Kp S' w w') (hs : ∀ s ∈ S', s ∈ N ∨ w.heap.size ≤ s) : QF w0 w' N A fl ys := ⟨h.key, h.rd.kp hk hs, h.p⟩
theorem QO.kp {A : Option Addr} {fl ys : List Tq} (h : QO w0 w N A fl ys) (hk : Kp S' w w') (hs : ∀ s ∈ S', s ∈ N ∨ w.heap.size ≤ s) : QO w0 w' N A fl ys := ⟨h.key, h.rd.kp hk hs, h.p⟩
theorem Qn.kp (h : Qn w0 B w q k) (hk : Kp [] w w') : Qn w0 B w' q k := by
  obtain ⟨ys, hf⟩ := h.f
  obtain ⟨zs, ho⟩ := h.o
  exact ⟨h.old.trans hk, h.hB, h.g.kp hk (by simp), h.t.kp hk (by simp) (by simp) (by simp) (by simp), h.d.kp hk, ⟨ys, hf.kp hk (by simp)⟩, h.in1.kp hk (by simp), h.in2.kp hk (by simp), ⟨zs, ho.kp hk (by simp)⟩, h.new, h.nM, h.nO, h.cp⟩
/-- The program's kernel's calls keep it. -/
theorem Qn.kq {B' : Nat} (h : Qn w0 B w q k) (hk : Kq B' w w') (hB : w0.heap.size ≤ B') : Qn w0 B w' q k := by
  obtain ⟨ys, hf⟩ := h.f
  obtain ⟨zs, ho⟩ := h.o
  exact ⟨hk.old h.old hB, h.hB, hk.bk h.g (by decide), h.t.kq hk, h.d.kq hk, ⟨ys, hf.key, hk.nb hf.rd (by decide), hf.p⟩, hk.nb h.in1 (by decide), hk.nb h.in2 (by decide), ⟨zs, ho.key, hk.nb ho.rd (by decide), ho.p⟩, h.new, h.nM, h.nO, h.cp⟩
theorem Nb.offS {A : Option Addr} {e : Nat} {xs : List Value} (h : Nb w N e A xs) (hS : Off w S' e) : Nb w S' e A xs := fun hx => by
  obtain ⟨b, off, cs, rfl, hb, hz, hc⟩ := h hx
  exact ⟨b, off, cs, rfl, hS.nin ⟨cs, hz⟩, hz, hc⟩
theorem Qn.offO (hq : Qn w0 B w q k) : ∀ e, 67 ≠ e → 3 ≠ e → 9 ≠ e → 74 ≠ e → Off w q.own e := by
  obtain ⟨d0, d1, hd⟩ := hq.d.dd
  intro e h1 h2 h3 h4 s hs _
  have ty : ∀ {g t : Nat} {xs : List Value}, Tw w g t xs → Ty w g t := fun ⟨ys, hh⟩ => hh.ty
  simp only [QA.own, List.mem_cons, List.not_mem_nil, or_false] at hs
  rcases hs with rfl | rfl | rfl | rfl | rfl | rfl
  · exact ⟨_, hq.g.ty, h1⟩
  · exact ⟨_, ty hq.t.o, h2⟩
  · exact ⟨_, ty hq.t.h, h2⟩
  · exact ⟨_, ty hq.t.b, h3⟩
  · exact ⟨_, hd.ty, h4⟩
  · exact ⟨_, ty hq.d.b, h3⟩
theorem Qn.ln (h : Qn w0 B w q k) : Nb w q.own 225 q.dA (k.d.ln.flatMap mwV) := h.d.ln.offS (h.offO _ (by decide) (by decide) (by decide) (by decide))
theorem Qn.lt (hq : Qn w0 B w q k) : ∀ s ∈ q.own, s < w.heap.size := by
  obtain ⟨d0, d1, hd⟩ := hq.d.dd
  intro s hs
  simp only [QA.own, List.mem_cons, List.not_mem_nil, or_false] at hs
  rcases hs with rfl | rfl | rfl | rfl | rfl | rfl
  · exact hq.g.lt
  · exact hq.t.o.lt
  · exact hq.t.h.lt
  · exact hq.t.b.lt
  · exact hd.lt
  · exact hq.d.b.lt
/-- None of its blocks is another's. -/
theorem Qn.nes (h : Qn w0 B w q k) : q.g ∉ [q.bO, q.bH, q.bB] ∧ q.g ∉ [q.bD, q.pB] ∧ q.bM ∉ q.own ∧ q.bO ∉ [q.g, q.bD, q.pB] ∧ q.bH ∉ [q.g, q.bD, q.pB] ∧ q.bB ∉ [q.g, q.bD, q.pB] ∧ q.bD ∉ [q.g, q.bO, q.bH, q.bB] ∧ q.pB ∉ [q.g, q.bO, q.bH, q.bB] ∧ q.pO ∉ q.own := by
  obtain ⟨c0, c1, c2, ht⟩ := h.t.t
  obtain ⟨d0, d1, hd⟩ := h.d.dd
  have n1 := h.t.o.ne_bk h.g (by decide)
  have n2 := h.t.h.ne_bk h.g (by decide)
  have n3 := h.t.b.ne_bk h.g (by decide)
  have n4 : q.bD ≠ q.g := hd.ne_ h.g (by decide)
  have n5 := h.d.b.ne_bk h.g (by decide)
  have n6 := h.d.o.ne_bk h.g (by decide)
  have m1 := h.t.o.ne_bk hd (by decide)
  have m2 := h.t.h.ne_bk hd (by decide)
  have m3 := h.t.b.ne_bk hd (by decide)
  have m4 := h.t.o.ne_ h.d.b (by decide)
  have m5 := h.t.h.ne_ h.d.b (by decide)
  have m6 := h.d.o.ne_bk hd (by decide)
  have m7 := h.d.o.ne_ h.d.b (by decide)
  have m8 := h.d.o.ne_ h.t.b (by decide)
  have k1 : q.bM ≠ q.g := ht.ne_ h.g (by decide)
  have k2 := h.t.o.ne_bk ht (by decide)
  have k3 := h.t.h.ne_bk ht (by decide)
  have k4 := h.t.b.ne_bk ht (by decide)
  have k5 : q.bM ≠ q.bD := ht.ne_ hd (by decide)
  have k6 := h.d.b.ne_bk ht (by decide)
  obtain ⟨_, o1, o2, o3⟩ := h.nO
  have hne := h.d.ne
  unfold QA.own
  simp only [List.mem_cons, List.not_mem_nil, or_false, not_or]
  exact ⟨⟨n1.symm, n2.symm, n3.symm⟩, ⟨n4.symm, n5.symm⟩, ⟨k1, k2.symm, k3.symm, k4.symm, k5, k6.symm⟩, ⟨n1, m1, m4⟩, ⟨n2, m2, m5⟩, ⟨n3, m3, o3.symm⟩, ⟨n4, m1.symm, m2.symm, m3.symm⟩, ⟨n5, m4.symm, m5.symm, o3⟩, ⟨n6, o1, o2, m8, m6, m7⟩⟩
theorem Qn.own1 (q : QA) : ∀ s ∈ [q.bO, q.bH, q.bB], s ∈ q.own := by intro s hs; simp [QA.own] at hs ⊢; rcases hs with rfl | rfl | rfl <;> simp
theorem Qn.own2 (q : QA) : ∀ s ∈ [q.bD, q.pB], s ∈ q.own := by intro s hs; simp [QA.own] at hs ⊢; rcases hs with rfl | rfl <;> simp
theorem Qn.own3 (q : QA) : ∀ s ∈ [q.g], s ∈ q.own := by intro s hs; simp at hs; subst hs; simp [QA.own]
theorem Qn.oldS (h : Qn w0 B w q k) (hk : Kp S' w w') (hs : ∀ s ∈ S', s ∈ q.own) : Kp [] w0 w' := h.old.thn hk (fun s hm => .inr (Nat.le_trans h.hB (h.new s (hs s hm))))
/-- The frames turned. -/
theorem Qn.setT (h : Qn w0 B w q k) (hk : Kp [q.bO, q.bH, q.bB] w w') {fs' : List Fr} (t' : RT w' q.bM q.bO q.bH q.bB fs') : Qn w0 B w' q { k with fs := fs' } ∧ Kp q.own w w' := by
  obtain ⟨ys, hf⟩ := h.f
  obtain ⟨zs, ho⟩ := h.o
  obtain ⟨e1, e2, e3, e4, e5, e6, e7, e8, e9⟩ := h.nes
  have hs : ∀ s ∈ [q.bO, q.bH, q.bB], s ∈ q.own ∨ w.heap.size ≤ s := fun s hm => .inl (Qn.own1 q s hm)
  have hl := h.ln.kp hk hs
  refine ⟨⟨h.oldS hk (Qn.own1 q), h.hB, h.g.kp hk e1, t', h.d.kpS hk (fun hm => e7 (List.mem_cons_of_mem _ hm)) (fun hm => e8 (List.mem_cons_of_mem _ hm)) (fun hm => e9 (Qn.own1 q _ hm)) (hl.sub (Qn.own2 q)), ⟨ys, hf.kp hk hs⟩, h.in1.kp hk hs, h.in2.kp hk hs, ⟨zs, ho.kp hk hs⟩, h.new, h.nM, h.nO, h.cp⟩, hk.mono (fun s hm => .inl (Qn.own1 q s hm))⟩
/-- The disk turned. -/
theorem Qn.setD (h : Qn w0 B w q k) (hk : Kp [q.bD, q.pB] w w') {A' : Option Addr} {c' : Nat} {d' : DkS} (t' : Dm w' q.bD q.pB q.pO A' c' d') :
    Qn w0 B w' { q with dA := A', dc := c' } { k with d := d' } ∧ Kp q.own w w' := by
  obtain ⟨ys, hf⟩ := h.f
  obtain ⟨zs, ho⟩ := h.o
  obtain ⟨e1, e2, e3, e4, e5, e6, e7, e8, e9⟩ := h.nes
  have hs : ∀ s ∈ [q.bD, q.pB], s ∈ q.own ∨ w.heap.size ≤ s := fun s hm => .inl (Qn.own2 q s hm)
  exact ⟨⟨h.oldS hk (Qn.own2 q), h.hB, h.g.kp hk e2, h.t.kp hk (fun hm => e3 (Qn.own2 q _ hm)) (fun hm => e4 (List.mem_cons_of_mem _ hm)) (fun hm => e5 (List.mem_cons_of_mem _ hm)) (fun hm => e6 (List.mem_cons_of_mem _ hm)), t', ⟨ys, hf.kp hk hs⟩, h.in1.kp hk hs, h.in2.kp hk hs, ⟨zs, ho.kp hk hs⟩, h.new, h.nM, h.nO, h.cp⟩, hk.mono (fun s hm => .inl (Qn.own2 q s hm))⟩
/-- The kernel's own block turned. -/
theorem Qn.setG (h : Qn w0 B w q k) (hk : Kp [q.g] w w') {fA' i1' i2' oA' : Option Addr} {fc' c1' c2' oc' : Nat} {k' : KS} (ht : k'.fs = k.fs) (hd : k'.d = k.d) (hg : Bk w' q.g 67 (QA.cells { q with fA := fA', fc := fc', i1 := i1', c1 := c1', i2 := i2', c2 := c2', oA := oA', oc := oc' } k'))
    (hf : ∃ ys, QF w0 w' q.own fA' k'.fl ys) (h1 : Nb w' q.own 9 i1' (k'.q1.map slV)) (h2 : Nb w' q.own 9 i2' (k'.q2.map slV)) (ho : ∃ ys, QO w0 w' q.own oA' k'.qo ys) (hcp : k'.fl.length ≤ fc' ∧ k'.q1.length ≤ c1' ∧ k'.q2.length ≤ c2' ∧ k'.qo.length ≤ oc') :
    Qn w0 B w' { q with fA := fA', fc := fc', i1 := i1', c1 := c1', i2 := i2', c2 := c2', oA := oA', oc := oc' } k' ∧ Kp q.own w w' := by
  obtain ⟨e1, e2, e3, e4, e5, e6, e7, e8, e9⟩ := h.nes
  have hs : ∀ s ∈ [q.g], s ∈ q.own ∨ w.heap.size ≤ s := fun s hm => .inl (Qn.own3 q s hm)
  have hl := h.ln.kp hk hs
  refine ⟨⟨h.oldS hk (Qn.own3 q), h.hB, hg, by rw [ht]; exact h.t.kp hk (fun hm => e3 (Qn.own3 q _ hm)) (fun hm => e4 (by simp at hm; simp [hm])) (fun hm => e5 (by simp at hm; simp [hm])) (fun hm => e6 (by simp at hm; simp [hm])), ?_, hf, h1, h2, ho, h.new, h.nM, h.nO, hcp⟩, hk.mono (fun s hm => .inl (Qn.own3 q s hm))⟩
  rw [hd]
  exact h.d.kpS hk (fun hm => e7 (by simp at hm; simp [hm])) (fun hm => e8 (by simp at hm; simp [hm])) (fun hm => e9 (Qn.own3 q _ hm)) (hl.sub (Qn.own2 q))
/-- The document's calls keep the program's kernel. -/
theorem Kn.offQ {B2 : Nat} {a : KA} {k2 : KS} (h : Kn w B2 a k2) (hq : Qn w0 B w q k) (hB : a.g < B) (hk : Kp q.own w w') : Kn w' B2 a k2 := by
  have o := hq.offO
  have hbo : a.bO ∉ q.own := fun hm => by have := hq.new _ hm; have := h.new.og; omega
  have z : ∀ e, e ∈ [114, 163, 245, 247, 144, 128, 199, 37, 5, 202, 120, 187, 239, 195] → Off w q.own e := by
    intro e he
    simp only [List.mem_cons, List.not_mem_nil, or_false] at he
    rcases he with rfl | rfl | rfl | rfl | rfl | rfl | rfl | rfl | rfl | rfl | rfl | rfl | rfl | rfl <;> exact o _ (by decide) (by decide) (by decide) (by decide)
  refine ⟨h.g.off hk (z _ (by decide)), h.t.kp hk ((z _ (by decide)).nin h.t.t.ty) ((z _ (by decide)).nin h.t.l.ty), ⟨h.d.dd.off hk (z _ (by decide)), h.d.l.off hk (z _ (by decide)), h.d.o.kp hk hbo, h.d.ln.off hk (z _ (by decide)), h.d.ok⟩, h.fl.off hk (z _ (by decide)), fun x hx => ⟨(h.fd x hx).1, (h.fd x hx).2.1, (h.fd x hx).2.2.kp hk (z _ (by decide))⟩, ?_, ?_, ?_, h.new⟩
  · exact h.i1.off hk ((z _ (by decide)).nin h.i1.hs.ty) ((z _ (by decide)).nin h.r1) (z _ (by decide))
  · exact h.i2.off hk ((z _ (by decide)).nin h.i2.hs.ty) ((z _ (by decide)).nin h.r2) (z _ (by decide))
  · exact h.o.off hk ((z _ (by decide)).nin h.o.hs.ty) ((z _ (by decide)).nin h.ro) (z _ (by decide))
end
end
end Go.Proofs.YtedblbpmlbjnhaaGreat
