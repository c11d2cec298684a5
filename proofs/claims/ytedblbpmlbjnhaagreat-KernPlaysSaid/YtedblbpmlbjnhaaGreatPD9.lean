/- pantlerlaw09.Of: the document's call as the program's. The walks of a disk's calls. -/
import Derived.Test.YtedblbpmlbjnhaaGreatPD8
import Derived.Test.YtedblbpmlbjnhaaGreatPD5
import Derived.Deep.DeepCutAuto
import Derived.Deep.Cut
import Derived.Deep.RegionHeldLaw
import Derived.Deep.MidRow
import Derived.Deep.WholeRow
namespace Go.Proofs.YtedblbpmlbjnhaaGreat
/-! ### pantlerlaw09.Of: the document's call as the program's. -/
section
open Go.RowKit Go.Shelf
set_option linter.unusedVariables false
set_option linter.unusedSimpArgs false
set_option maxRecDepth 100000

theorem elt_op : Elt Tryz.prog 42 128 (.agg #[.int .i64 0, .int .u32 0, .int .i64 0, .int .i64 0]) 4 32 := ⟨Tryz.underlying42, by kernel_rfl, rfl, by decide, by decide⟩
/-- A slice whose block is new. -/
def Fresh (B : Nat) (A : Option Addr) : Prop := ∀ b ∈ bks A, B ≤ b
/-- The program's call, in cells. -/
def kcC (x : Cl) (A5 : Option Addr) (c5 : Nat) (A6 : Option Addr) (n6 c6 : Nat) (A7 : Option Addr) (n7 c7 : Nat) : List Value :=
  [.int .i64 x.op, .int .i64 x.env, .int .i64 x.a, .int .i64 x.b, .int .i64 x.c, .slice A5 x.s.size c5, .slice A6 n6 c6, .slice A7 n7 c7]
structure OfS (w W : World) (x : Cl) (cb rb xb : Nat) (A5 : Option Addr) (c5 : Nat) (A6 : Option Addr) (n6 c6 : Nat) (A7 : Option Addr) (c7 : Nat) (ops : List FOp) : Prop where
  kp : Kp [] w W
  b : Bk W cb 34 x.vals
  r : Bk W rb 45 [.int .i64 0, .int .i64 0, .int .i64 0, .int .i64 0, .int .i64 0, .slice none 0 0, .slice none 0 0, .slice none 0 0]
  xx : Bk W xb 45 (kcC x A5 c5 A6 n6 c6 A7 x.l.n c7)
  a5 : Tb W 5 A5 (bts x.s.data.toList)
  f5 : Fresh w.heap.size A5
  a6 : Ow W 128 4 A6 n6 c6 (ops.flatMap FOp.vals)
  f6 : Fresh w.heap.size A6
  a7 : Ow W 187 3 A7 x.l.n c7 (x.l.l.flatMap Pc.vals)
  f7 : Fresh w.heap.size A7
  h1 : w.heap.size ≤ cb
  h2 : w.heap.size ≤ rb
  h3 : w.heap.size ≤ xb
  ne : rb ≠ xb
  s5 : A5 = none → False
theorem bk8 {w : World} {g tt : Nat} {a b c d e f k l : Value} (h : Bk w g tt [a, b, c, d, e, f, k, l]) : (w.cell? ⟨g, 0, none⟩ = some a ∧ w.cell? ⟨g, 1, none⟩ = some b ∧ w.cell? ⟨g, 2, none⟩ = some c ∧ w.cell? ⟨g, 3, none⟩ = some d ∧ w.cell? ⟨g, 4, none⟩ = some e ∧ w.cell? ⟨g, 5, none⟩ = some f ∧ w.cell? ⟨g, 6, none⟩ = some k ∧ w.cell? ⟨g, 7, none⟩ = some l) :=
  ⟨h.cell 0, h.cell 1, h.cell 2, h.cell 3, h.cell 4, h.cell 5, h.cell 6, h.cell 7⟩
theorem bk8f {w : World} {g tt : Nat} {a b c d e f k l : Value} (h : Bk w g tt [a, b, c, d, e, f, k, l]) : (w.frozen? ⟨g, 0, none⟩ = false ∧ w.frozen? ⟨g, 1, none⟩ = false ∧ w.frozen? ⟨g, 2, none⟩ = false ∧ w.frozen? ⟨g, 3, none⟩ = false ∧ w.frozen? ⟨g, 4, none⟩ = false ∧ w.frozen? ⟨g, 5, none⟩ = false ∧ w.frozen? ⟨g, 6, none⟩ = false ∧ w.frozen? ⟨g, 7, none⟩ = false) :=
  ⟨h.frozen 0, h.frozen 1, h.frozen 2, h.frozen 3, h.frozen 4, h.frozen 5, h.frozen 6, h.frozen 7⟩
def kz : List Value := [.int .i64 0, .int .i64 0, .int .i64 0, .int .i64 0, .int .i64 0, .slice none 0 0, .slice none 0 0, .slice none 0 0]
theorem Bk.at_ {w : World} {g g' t : Nat} {cs : List Value} (h : Bk w g t cs) (e : g = g') : Bk w g' t cs := e ▸ h
theorem nb_a {V w7 : World} {cs : Array Value} {t : Nat} (k7 : Kp [] (V.alloc (.cells cs t)) w7) : Bk w7 V.heap.size t cs.toList := (Bk.newAt rfl _ _).kp k7 (by simp)
theorem nb_ad {V w7 : World} {cs : Array Value} {t : Nat} (k7 : Kp [] (V.alloc (.cells cs t)).drew w7) : Bk w7 V.heap.size t cs.toList := Bk.kp (w := (V.alloc (.cells cs t)).drew) (Bk.newAt (w := V) rfl _ _) k7 (by simp)
theorem nb_b {V V' w7 : World} {cs : Array Value} {t : Nat} (k7 : Kp [] V' w7) (k : Kp [] (V.alloc (.cells cs t)).drew V') : Bk w7 V.heap.size t cs.toList := nb_ad (k.trans k7)
theorem bk8set {W : World} {g t : Nat} {cs : List Value} (h : Bk W g t kz) (a b c d e f k l : Value) : Bk ((((((((W.setCell ⟨g, 0, none⟩ a).setCell ⟨g, 1, none⟩ b).setCell ⟨g, 2, none⟩ c).setCell ⟨g, 3, none⟩ d).setCell ⟨g, 4, none⟩ e).setCell ⟨g, 5, none⟩ f).setCell ⟨g, 6, none⟩ k).setCell ⟨g, 7, none⟩ l) g t [a, b, c, d, e, f, k, l] ∧
    Kp [g] W ((((((((W.setCell ⟨g, 0, none⟩ a).setCell ⟨g, 1, none⟩ b).setCell ⟨g, 2, none⟩ c).setCell ⟨g, 3, none⟩ d).setCell ⟨g, 4, none⟩ e).setCell ⟨g, 5, none⟩ f).setCell ⟨g, 6, none⟩ k).setCell ⟨g, 7, none⟩ l) :=
  ⟨((((((((h.set_ 0 a).set_ 1 b).set_ 2 c).set_ 3 d).set_ 4 e).set_ 5 f).set_ 6 k).set_ 7 l).cast rfl, by repeat (first | with_reducible exact Kp.refl _ _ | with_reducible refine Kp.setCell ?_ (.inl (by simp)) _)⟩
theorem fin_a {w W V : World} {x : Cl} {cb xb : Nat} {A5 A7 : Option Addr} {c5 c7 : Nat} (kW : Kp [] w W) (h1 : w.heap.size ≤ cb) (b : Bk W cb 34 x.vals) (r : Bk W (cb + 1) 45 kz)
    (hx : xb = V.heap.size) (k : Kp [] W V) (a5 : Tb V 5 A5 (bts x.s.data.toList)) (f5 : Fresh w.heap.size A5) (s5 : A5 = none → False) (a7 : Ow V 187 3 A7 x.l.n c7 (x.l.l.flatMap Pc.vals)) (f7 : Fresh w.heap.size A7) :
    OfS w (V.alloc (.cells #[.int .i64 x.op, .int .i64 x.env, .int .i64 x.a, .int .i64 x.b, .int .i64 x.c, .slice A5 x.s.size c5, .slice none 0 0, .slice A7 x.l.n c7] 45)) x cb (cb + 1) xb A5 c5 none 0 0 A7 c7 [] := by
  subst hx
  have z := kW.size
  have z2 := k.size
  have hr := r.lt
  exact ⟨(kW.trans k).alloc _, (b.kp k (by simp)).alloc _, (r.kp k (by simp)).alloc _, (Bk.newAt rfl _ _).cast rfl, a5.kp ((Kp.refl [] _).alloc _) (Off.nil _ _), f5, Ow.nil, by simp [Fresh, bks], a7.alloc _, f7, h1, by omega, by omega, by omega, s5⟩
theorem fin_s {w W V : World} {x : Cl} {cb xb : Nat} {A5 A7 : Option Addr} {c5 c7 : Nat} (kW : Kp [] w W) (h1 : w.heap.size ≤ cb) (b : Bk W cb 34 x.vals) (r : Bk W (cb + 1) 45 kz)
    (hx : W.heap.size ≤ xb) (X : Bk V xb 45 kz) (k : Kp [] W V) (a5 : Tb V 5 A5 (bts x.s.data.toList)) (f5 : Fresh w.heap.size A5) (s5 : A5 = none → False) (a7 : Ow V 187 3 A7 x.l.n c7 (x.l.l.flatMap Pc.vals)) (f7 : Fresh w.heap.size A7) :
    OfS w ((((((((V.setCell ⟨xb, 0, none⟩ (.int .i64 x.op)).setCell ⟨xb, 1, none⟩ (.int .i64 x.env)).setCell ⟨xb, 2, none⟩ (.int .i64 x.a)).setCell ⟨xb, 3, none⟩ (.int .i64 x.b)).setCell ⟨xb, 4, none⟩ (.int .i64 x.c)).setCell ⟨xb, 5, none⟩ (.slice A5 x.s.size c5)).setCell ⟨xb, 6, none⟩ (.slice none 0 0)).setCell ⟨xb, 7, none⟩ (.slice A7 x.l.n c7)) x cb (cb + 1) xb A5 c5 none 0 0 A7 c7 [] := by
  have z := kW.size
  have hr := r.lt
  have hc := b.lt
  obtain ⟨hb, hk⟩ := bk8set (cs := []) X (.int .i64 x.op) (.int .i64 x.env) (.int .i64 x.a) (.int .i64 x.b) (.int .i64 x.c) (.slice A5 x.s.size c5) (.slice none 0 0) (.slice A7 x.l.n c7)
  exact ⟨(kW.trans k).thn hk (fun s hs => .inr (by simp at hs; omega)), (b.kp k (by simp)).kp hk (by simp; omega), (r.kp k (by simp)).kp hk (by simp; omega), hb.cast rfl, a5.kp hk (Off.one X.ty (by decide)), f5, Ow.nil, by simp [Fresh, bks], a7.off hk (Off.one X.ty (by decide)), f7, h1, by omega, by omega, by omega, s5⟩
theorem OfS.app {w W W1 w5 : World} {x : Cl} {cb rb xb n6 c6 c5 c7 c3 : Nat} {A5 A6 A7 A3 : Option Addr} {ops : List FOp} (h : OfS w W x cb rb xb A5 c5 A6 n6 c6 A7 c7 ops) (y : FOp) (k1 : Kp [] W W1)
    (ho : Ow w5 128 4 A3 (n6 + 1) c3 (ops.flatMap FOp.vals ++ y.vals)) (hk : Kp (bks A6) W1 w5) (hA : A3 = A6 ∨ A3 = some ⟨W1.heap.size, 0, none⟩) :
    (w5.cell? ⟨xb, 6, none⟩ = some (.slice A6 n6 c6) ∧ w5.frozen? ⟨xb, 6, none⟩ = false ∧ Kp (bks A6) W w5 ∧ Bk w5 cb 34 x.vals) ∧ OfS w (w5.setCell ⟨xb, 6, none⟩ (.slice A3 (n6 + 1) c3)) x cb rb xb A5 c5 A3 (n6 + 1) c3 A7 c7 (ops ++ [y]) := by
  have kk : Kp (bks A6) W w5 := (k1.mono (by simp)).thn hk (fun s hs => .inl hs)
  have hx := h.xx.off kk (Off.bks h.a6.ty (by decide))
  have hb := h.b.off kk (Off.bks h.a6.ty (by decide))
  have hr := h.r.off kk (Off.bks h.a6.ty (by decide))
  have ha5 := h.a5.kp kk (Off.bks h.a6.ty (by decide))
  have ha7 := h.a7.off kk (Off.bks h.a6.ty (by decide))
  have ks : Kp [xb] w5 (w5.setCell ⟨xb, 6, none⟩ (.slice A3 (n6 + 1) c3)) := (Kp.refl _ _).setCell (p := ⟨xb, 6, none⟩) (.inl (by simp)) _
  have z := h.kp.size
  have z1 := k1.size
  have h3 := h.h3
  refine ⟨⟨hx.cell 6, hx.frozen 6, kk, hb⟩, ⟨?_, hb.kp ks (by simpa using hx.ne_ hb (by decide) ∘ Eq.symm), hr.kp ks (by simpa using h.ne), (hx.set_ 6 _).cast rfl, ha5.kp ks (Off.one hx.ty (by decide)), h.f5, (ho.off ks (Off.one hx.ty (by decide))).cast rfl (by simp [List.flatMap_append]), ?_, ha7.off ks (Off.one hx.ty (by decide)), h.f7, h.h1, h.h2, h.h3, h.ne, h.s5⟩⟩
  · exact (h.kp.thn kk (fun s hs => .inr (h.f6 s hs))).thn ks (fun s hs => .inr (by simp at hs; omega))
  · intro b hb
    rcases hA with rfl | rfl
    · exact h.f6 b hb
    · simp [bks] at hb; omega
/-- The conversion of a string to bytes, its world a letter. -/
theorem conv_letter (s : ByteArray) : ∃ (bw : World → World) (cw : World → Nat), (∀ W, (convert 9 37 (.string s)).run Tryz.prog W = .ok (.slice (some ⟨W.heap.size, 0, none⟩) s.size (cw W)) (bw W)) ∧ (∀ W, (bw W).heap.size = W.heap.size + 1) ∧
    (∀ (S : List Nat) (a w : World), Kp S a w → Kp S a (bw w)) ∧ (∀ (w : World) (b : Nat), b = w.heap.size → Tb (bw w) 5 (some ⟨b, 0, none⟩) (bts s.data.toList)) :=
  ⟨fun W => Lib.bytesWorld W 5 s, fun W => grownCap W s.size 0 5, fun W => conv_sb W s, fun W => Lib.bytesWorld_size _ _ _, fun S a w k => k.bytesWorld _ _, fun w b hb => Tb.fresh w hb⟩
set_option maxHeartbeats 4000000 in
theorem of09_any {R : Ending → World → Prop} (x : Cl) (w : World) (hp : Rd w [] x.p.A (x.p.l.flatMap FOp.vals)) (hpl : x.p.l.length = x.p.n) (hpn : x.p.n ≤ 100) (hl : Rd w [] x.l.A (x.l.l.flatMap Pc.vals)) (hll : x.l.l.length = x.l.n) (hln : x.l.n ≤ 100)
    (h : ∀ A5 c5 A6 c6 A7 c7 w', Kp [] w w' → Tb w' 5 A5 (bts x.s.data.toList) → Fresh w.heap.size A5 → Ow w' 128 4 A6 x.p.n c6 (x.p.l.flatMap FOp.vals) → Fresh w.heap.size A6 → Ow w' 187 3 A7 x.l.n c7 (x.l.l.flatMap Pc.vals) → Fresh w.heap.size A7 → (A5 = none → False) → R (.returned (.agg #[.int .i64 x.op, .int .i64 x.env, .int .i64 x.a, .int .i64 x.b, .int .i64 x.c, .slice A5 x.s.size c5, .slice A6 x.p.n c6, .slice A7 x.l.n c7])) w') :
    Calls Tryz.prog 10 #[.agg #[.int .i64 x.op, .int .i64 x.env, .int .i64 x.a, .int .i64 x.b, .int .i64 x.c, .string x.s, .slice x.p.A x.p.n x.p.c, .slice x.l.A x.l.n x.l.c]] w R := by
  have H := Lib.hid h
  have HP := Lib.hid hp
  have HPL := Lib.hid hpl
  have HLL := Lib.hid hll
  have HOf : Hid (∀ (R : Ending → World → Prop) (w1 : World), Kp [] w w1 → (∀ A' c' w', Kp [] w1 w' → Ow w' 187 3 A' x.l.n c' (x.l.l.flatMap Pc.vals) → Fresh w.heap.size A' → R (.returned (.slice A' x.l.n c')) w') → Calls Tryz.prog 35 #[.slice x.l.A x.l.n x.l.c] w1 R) :=
    Lib.hid (fun R w1 k1 h1 => of_any (hl.kp k1 (by simp)) hll (by omega) (fun A' c' w' a b c => h1 A' c' w' a b (fun q hq => Nat.le_trans k1.size (c q hq))))
  clear h hp hpl hl hll
  go_enter Tryz.func10, Tryz.ntmps10
  go_upto_region 1 with (fail)
  refine gen_worldK (fun W => ∃ cb, w.heap.size = cb ∧ Kp [] w W ∧ Bk W cb 34 x.vals ∧ Bk W (cb + 1) 45 [.int .i64 0, .int .i64 0, .int .i64 0, .int .i64 0, .int .i64 0, .slice none 0 0, .slice none 0 0, .slice none 0 0]) ⟨_, rfl, ((Kp.refl _ _).alloc _).alloc _, ((Bk.new' _ _ _).alloc _).cast rfl, (Bk.newAt (by simp) _ _).cast rfl⟩ ?_
  rintro W ⟨cb, hcb, kW, bC, bR⟩
  rw [hcb]
  have HS : Hid (∀ w', Kp [] W w' → w'.cell? ⟨cb, 0, none⟩ = some (.int .i64 x.op) ∧ w'.cell? ⟨cb, 1, none⟩ = some (.int .i64 x.env) ∧ w'.cell? ⟨cb, 2, none⟩ = some (.int .i64 x.a) ∧ w'.cell? ⟨cb, 3, none⟩ = some (.int .i64 x.b) ∧ w'.cell? ⟨cb, 4, none⟩ = some (.int .i64 x.c) ∧ w'.cell? ⟨cb, 5, none⟩ = some (.string x.s) ∧ w'.cell? ⟨cb, 6, none⟩ = some (.slice x.p.A x.p.n x.p.c) ∧ w'.cell? ⟨cb, 7, none⟩ = some (.slice x.l.A x.l.n x.l.c)) := Lib.hid (fun w' k' => bk8 (bC.kp k' (by simp)))
  obtain ⟨bw, cw, hcs, hsz, hbk, hbr⟩ := conv_letter x.s
  have HBK := Lib.hid hbk
  have HBR := Lib.hid hbr
  have HZ := Lib.hid hsz
  have hbc : ∀ (V : World) (cs : Array Value) (t i : Nat), (bw (V.alloc (.cells cs t))).cell? ⟨V.heap.size, i, none⟩ = cs[i]? := fun V cs t i => by rw [((Bk.newAt rfl t cs).kp (hbk [] _ _ (Kp.refl [] _)) (by simp)).cell]; simp
  have hbd : ∀ (V : World) (cs : Array Value) (t i : Nat), (bw (V.alloc (.cells cs t)).drew).cell? ⟨V.heap.size, i, none⟩ = cs[i]? := fun V cs t i => by rw [(Bk.kp (w := (V.alloc (.cells cs t)).drew) (Bk.newAt (w := V) rfl t cs) (hbk [] _ _ (Kp.refl [] _)) (by simp)).cell]; simp
  have hbf : ∀ (V : World) (cs : Array Value) (t i : Nat), (bw (V.alloc (.cells cs t))).frozen? ⟨V.heap.size, i, none⟩ = false := fun V cs t i => by rw [((Bk.newAt rfl t cs).kp (hbk [] _ _ (Kp.refl [] _)) (by simp)).frozen]
  have hbg : ∀ (V : World) (cs : Array Value) (t i : Nat), (bw (V.alloc (.cells cs t)).drew).frozen? ⟨V.heap.size, i, none⟩ = false := fun V cs t i => by rw [(Bk.kp (w := (V.alloc (.cells cs t)).drew) (Bk.newAt (w := V) rfl t cs) (hbk [] _ _ (Kp.refl [] _)) (by simp)).frozen]
  clear hbk hbr
  obtain ⟨q0, q1, q2, q3, q4, q5, q6, q7⟩ := HS.out W (Kp.refl _ _)
  have KW := Lib.hid kW
  have BC := Lib.hid bC
  have BR := Lib.hid bR
  have hb0 : w.heap.size ≤ cb := by omega
  clear kW bC bR hcb
  go_cut [3] from 4 (fun s3 W' => ∃ (xb : Nat) (A5 : Option Addr) (c5 : Nat) (A7 : Option Addr) (c7 : Nat), s3 = .pointer (some ⟨xb, 0, none⟩) ∧ Hid (OfS w W' x cb (cb + 1) xb A5 c5 none 0 0 A7 c7 []))
  case first =>
   go_region_held_law (fun w' => w'.cell? ⟨cb, 0, none⟩ = some (.int .i64 x.op) ∧ w'.cell? ⟨cb, 1, none⟩ = some (.int .i64 x.env) ∧ w'.cell? ⟨cb, 2, none⟩ = some (.int .i64 x.a) ∧ w'.cell? ⟨cb, 3, none⟩ = some (.int .i64 x.b) ∧ w'.cell? ⟨cb, 4, none⟩ = some (.int .i64 x.c) ∧ w'.cell? ⟨cb, 5, none⟩ = some (.string x.s) ∧ w'.cell? ⟨cb, 6, none⟩ = some (.slice x.p.A x.p.n x.p.c) ∧ w'.cell? ⟨cb, 7, none⟩ = some (.slice x.l.A x.l.n x.l.c)) ((refine HS.out _ ?_; repeat (first | with_reducible assumption | with_reducible exact Kp.refl _ W | with_reducible refine Kp.drew ?_ | with_reducible refine Kp.alloc ?_ _ | with_reducible refine HBK.out _ _ _ ?_ | (with_reducible refine Kp.setCell ?_ (.inr (by first | (simp; done) | (have := XB.out; simp; omega) | (have := kk7.size; simp; omega))) _)))) (first | (go_simp; go_at_call 35; (refine HOf.out _ _ (KW.out.trans (by repeat (first | with_reducible exact Kp.refl _ W | with_reducible refine Kp.drew ?_ | with_reducible refine Kp.alloc ?_ _ | with_reducible refine HBK.out _ _ _ ?_))) ?_); intro A7 c7 w7 k7 o7 b7; have kk7 := Kp.trans (show Kp [] W _ by repeat (first | with_reducible exact Kp.refl _ W | with_reducible refine Kp.drew ?_ | with_reducible refine Kp.alloc ?_ _ | with_reducible refine HBK.out _ _ _ ?_)) k7; (try ((first | ((with_reducible have x7 := (nb_ad k7).cast (cs' := kz) rfl); (obtain ⟨xb, hxb⟩ : ∃ xb, W.heap.size = xb := ⟨_, rfl⟩)) | ((with_reducible have x7 := (nb_b k7 (HBK.out _ _ _ (Kp.refl [] _))).cast (cs' := kz) rfl); (obtain ⟨xb, hxb⟩ : ∃ xb, W.heap.size = xb := ⟨_, rfl⟩)) | ((have x7 := ((nb_a k7).at_ (show _ = W.heap.size + 1 from HZ.out _)).cast (cs' := kz) rfl); (obtain ⟨xb, hxb⟩ : ∃ xb, W.heap.size + 1 = xb := ⟨_, rfl⟩))); rw [hxb] at x7; simp only [hxb]; have x7d := bk8 (x7.kp (HBK.out [] _ _ (Kp.refl [] w7)) (by simp)); have x7g := bk8f (x7.kp (HBK.out [] _ _ (Kp.refl [] w7)) (by simp)); obtain ⟨_, _, _, _, _, _, _, _⟩ := x7d; obtain ⟨_, _, _, _, _, _, _, _⟩ := x7g; obtain ⟨_, _, _, _, _, _, _, _⟩ := bk8 x7; obtain ⟨_, _, _, _, _, _, _, _⟩ := bk8f x7; have X7 := Lib.hid x7; have XB := Lib.hid hxb; clear x7 hxb))))
   · have zz := KW.out.size
     have z7 := kk7.size
     go_wp2_with fail
     go_meet
     exact ⟨_, _, _, _, _, rfl, Lib.hid (fin_a KW.out hb0 BC.out BR.out rfl kk7 ((HBR.out W.drew _ (by first | rfl | simp)).kp k7 (Off.nil _ _)) (by simp [Fresh, bks]; omega) (fun h => by cases h) o7 b7)⟩
   · have zz := KW.out.size
     have z7 := kk7.size
     go_wp2_with fail
     go_meet
     exact ⟨_, _, _, _, _, rfl, Lib.hid (fin_s KW.out hb0 BC.out BR.out (by have := XB.out; omega) X7.out kk7 (((HBR.out W.drew _ (by first | rfl | simp)).kp (S := []) ((Kp.refl _ _).alloc _) (Off.nil _ _)).kp k7 (Off.nil _ _)) (by simp [Fresh, bks]; omega) (fun h => by cases h) o7 b7)⟩
   · have zz := KW.out.size
     have z7 := kk7.size
     go_wp2_with fail
     go_meet
     exact ⟨_, _, _, _, _, rfl, Lib.hid (fin_a KW.out hb0 BC.out BR.out (HZ.out _).symm (HBK.out _ _ _ kk7) (HBR.out _ _ (by first | rfl | simp)) (by simp [Fresh, bks]; omega) (fun h => by cases h) (o7.kp (HBK.out [] _ _ (Kp.refl [] _)) (by simp)) b7)⟩
   · have zz := KW.out.size
     have z7 := kk7.size
     go_wp2_with fail
     go_meet
     exact ⟨_, _, _, _, _, rfl, Lib.hid (fin_s KW.out hb0 BC.out BR.out (by omega) (((Bk.newAt rfl _ _).kp (HBK.out [] _ _ (Kp.refl [] _)) (by simp)).cast rfl) (HBK.out _ _ _ (kk7.alloc _)) (HBR.out _ _ (by first | rfl | simp)) (by simp [Fresh, bks]; omega) (fun h => by cases h) ((o7.alloc _).kp (HBK.out [] _ _ (Kp.refl [] _)) (by simp)) b7)⟩
   · have zz := KW.out.size
     have z7 := kk7.size
     go_wp2_with fail
     go_meet
     exact ⟨_, _, _, _, _, rfl, Lib.hid (fin_s KW.out hb0 BC.out BR.out (by have := XB.out; omega) X7.out kk7 ((HBR.out (W.alloc _).drew _ (by have := XB.out; simp; omega)).kp k7 (Off.nil _ _)) (by have := XB.out; simp [Fresh, bks]; omega) (fun h => by cases h) o7 b7)⟩
   · have zz := KW.out.size
     have z7 := kk7.size
     go_wp2_with fail
     go_meet
     exact ⟨_, _, _, _, _, rfl, Lib.hid (fin_s KW.out hb0 BC.out BR.out (by have := XB.out; omega) (X7.out.kp (HBK.out [] _ _ (Kp.refl [] _)) (by simp)) (HBK.out _ _ _ kk7) (HBR.out _ _ (by first | rfl | simp)) (by simp [Fresh, bks]; omega) (fun h => by cases h) (o7.kp (HBK.out [] _ _ (Kp.refl [] _)) (by simp)) b7)⟩
  case rest =>
    obtain ⟨xb, A5, c5, A7, c7, rfl, hS⟩ := hcut
    clear q0 q1 q2 q3 q4 q5 q6 q7 HS HOf HBK HBR HZ hcs hsz hbc hbd hbf hbg KW BC BR bw cw
    have hpl := HPL.out
    go_wp2
    go_loopw [4] (fun iv wr => ∃ (k : Nat) (A6 : Option Addr) (c6 : Nat) (ops : List FOp), k ≤ x.p.n ∧ iv = .int .i64 k ∧ Hid (x.p.l.take k = ops) ∧ Hid (OfS w wr x cb (cb + 1) xb A5 c5 A6 k c6 A7 c7 ops)) (fun iv _ => x.p.n - (intOf iv).toNat)
    case atStart => exact ⟨0, none, 0, [], Nat.zero_le _, rfl, Lib.hid rfl, hS⟩
    case round =>
      obtain ⟨k, A6, c6, ops, hk, rfl, htk, hS⟩ := hrel
      obtain ⟨q0, q1, q2, q3, q4, q5, q6, q7⟩ := bk8 hS.out.b
      obtain ⟨p0, p1, p2, p3, p4, p5, p6, p7⟩ := bk8 hS.out.xx
      obtain ⟨r0, r1, r2, r3, r4, r5, r6, r7⟩ := bk8 hS.out.r
      by_cases hlt : k < x.p.n
      · obtain ⟨y, hy, _⟩ := get_lt (l := x.p.l) (k := k) (by omega)
        obtain ⟨b, off, ha, _, hgl, hc⟩ := rd_at (HP.out.kp hS.out.kp (by simp)) ovals_len (by omega) hy
        have hc0 := hc 0 _ rfl
        have hc1 := hc 1 _ rfl
        have hc2 := hc 2 _ rfl
        have hc3 := hc 3 _ rfl
        rw [Nat.add_zero] at hc0
        rw [ha] at q6
        have HY := Lib.hid hy
        clear hc hy ha r0 r1 r2 r3 r4 r5 r6 r7 p0 p1 p2 p3 p4 p5 p7 q0 q1 q2 q3 q4 q5 q7
        go_wp2
        have p6a : ∀ o, (wr.alloc o).cell? ⟨xb, 6, none⟩ = some (.slice A6 k c6) := fun o => (hS.out.xx.alloc o).cell 6
        have HSr := Lib.hid hS
        have HSS : Hid (∀ w', Kp [] wr w' → w'.cell? ⟨xb, 6, none⟩ = some (.slice A6 k c6) ∧ w'.cell? ⟨cb, 6, none⟩ = some (.slice (some ⟨b, off, none⟩) x.p.n x.p.c) ∧ w'.cell? ⟨b, off + k * 4, none⟩ = some (.int .i64 y.c) ∧ w'.cell? ⟨b, off + k * 4 + 1, none⟩ = some (.int .u32 y.k) ∧ w'.cell? ⟨b, off + k * 4 + 2, none⟩ = some (.int .i64 y.t) ∧ w'.cell? ⟨b, off + k * 4 + 3, none⟩ = some (.int .i64 y.f)) := Lib.hid (fun w' k' => ⟨(k'.cell hS.out.xx.lt (by simp)).trans p6, (k'.cell hS.out.b.lt (by simp)).trans q6, (k'.cell hgl (by simp)).trans hc0, (k'.cell hgl (by simp)).trans hc1, (k'.cell hgl (by simp)).trans hc2, (k'.cell hgl (by simp)).trans hc3⟩)
        clear hS
        go_region_law (refine step_app rfl (.tmp 30) (.tmp 36) _ rfl elt_op A6 k c6 _ (by simp [Act.eval, Act.put]) (HSr.out.out.a6.drew.alloc _) [] (some ⟨wr.heap.size, 0, none⟩) 1 1 (FOp.vals y) (by simp [Act.eval, Act.put]) (Rd.of_bk ((Bk.newAt rfl _ _).cast rfl) (by simp)) rfl (ovals_one _) (by omega) ?_; intro A3 c3 w5 ho5 hk5 hA5; obtain ⟨⟨qn, en, kk5, bb5⟩, hs5⟩ := HSr.out.out.app y ((Kp.refl [] wr).drew.alloc _) ho5 hk5 hA5)
        all_goals
          go_wp2
          exact ⟨⟨k + 1, A3, c3, ops ++ [y], by omega, by go_num, Lib.hid (by rw [← htk.out, List.take_succ_eq_append_getElem (by omega)]; congr 1; have := HY.out; rw [List.getElem?_eq_getElem (by omega)] at this; simpa using this), Lib.hid hs5⟩, by simp [intOf]; omega⟩
      · obtain rfl : k = x.p.n := by omega
        have e : ops = x.p.l := by rw [← htk.out, ← hpl, List.take_length]
        subst e
        have f := bk8f hS.out.r
        have hrn := hS.out.ne
        clear q0 q1 q2 q3 q4 q5 q7
        obtain ⟨f0, f1, f2, f3, f4, f5, f6, f7⟩ := f
        go_wp2
        obtain ⟨hb, hkk⟩ := bk8set (cs := []) (show Bk wr (cb + 1) 45 kz from hS.out.r) (.int .i64 x.op) (.int .i64 x.env) (.int .i64 x.a) (.int .i64 x.b) (.int .i64 x.c) (.slice A5 x.s.size c5) (.slice A6 x.p.n c6) (.slice A7 x.l.n c7)
        obtain ⟨W9, hW9⟩ : ∃ W9, ((((((((wr.setCell ⟨cb + 1, 0, none⟩ (.int .i64 x.op)).setCell ⟨cb + 1, 1, none⟩ (.int .i64 x.env)).setCell ⟨cb + 1, 2, none⟩ (.int .i64 x.a)).setCell ⟨cb + 1, 3, none⟩ (.int .i64 x.b)).setCell ⟨cb + 1, 4, none⟩ (.int .i64 x.c)).setCell ⟨cb + 1, 5, none⟩ (.slice A5 x.s.size c5)).setCell ⟨cb + 1, 6, none⟩ (.slice A6 x.p.n c6)).setCell ⟨cb + 1, 7, none⟩ (.slice A7 x.l.n c7)) = W9 := ⟨_, rfl⟩
        rw [hW9] at hb hkk ⊢
        have hty := hS.out.r.ty
        have h2 := hS.out.h2
        obtain ⟨g0, g1, g2, g3, g4, g5, g6, g7⟩ := bk8 hb
        exact bodyPost_ret (v := .agg #[.int .i64 x.op, .int .i64 x.env, .int .i64 x.a, .int .i64 x.b, .int .i64 x.c, .slice A5 x.s.size c5, .slice A6 x.p.n c6, .slice A7 x.l.n c7]) (by simp [results, Tryz.results10, go_sem, g0, g1, g2, g3, g4, g5, g6, g7]; try rfl) rfl (H.out A5 c5 A6 c6 A7 c7 W9 (hS.out.kp.thn hkk (fun s hs => .inr (by simp at hs; omega))) (hS.out.a5.kp hkk (Off.one hty (by decide))) hS.out.f5 (hS.out.a6.off hkk (Off.one hty (by decide))) hS.out.f6 (hS.out.a7.off hkk (Off.one hty (by decide))) hS.out.f7 hS.out.s5)
end
/-! ### The walks of a disk's calls. -/
section
open Go.RowKit Go.Shelf
set_option linter.unusedVariables false
set_option linter.unusedSimpArgs false
set_option maxRecDepth 100000
section
variable {R : Ending → World → Prop} {w : World} {bD bL bO c : Nat} {A : Option Addr} {d : DkS}

set_option maxHeartbeats 1000000 in
theorem may_any (hd : Dsk w bD bL bO A c d) (env b : Int) (h : R (.returned (.int .i64 (dMay d env b))) w) :
    Calls Tryz.prog 139 #[.pointer (some ⟨bD, 0, none⟩), .int .i64 env, .int .i64 b] w R := by
  have c0 := hd.dd.cell 0
  have c1 := hd.dd.cell 1
  have c3 := hd.dd.cell 3
  simp only [List.getElem?_cons_zero, List.getElem?_cons_succ] at c0 c1 c3
  have hn := hd.ok.n1
  have ho := hd.ok.ow
  cases hof : d.off with
  | true =>
    have hm : dMay d env b = 30 := by simp [dMay, hof]
    rw [hm] at h
    rw [hof] at c3
    clear hm hd hof ho hn
    go_enter Tryz.func139, Tryz.ntmps139
    go_wp2
    exact h
  | false =>
    rw [hof] at c3
    by_cases h0 : b < 0
    · have hm : dMay d env b = 31 := by simp [dMay, hof, h0]
      rw [hm] at h
      clear hm hd hof
      go_enter Tryz.func139, Tryz.ntmps139
      go_wp2
      exact h
    · by_cases h1 : (d.bl.length : Int) ≤ b
      · have hm : dMay d env b = 31 := by simp [dMay, hof, h1]
        rw [hm] at h
        clear hm hd ho hof
        go_enter Tryz.func139, Tryz.ntmps139
        go_wp2
        exact h
      · obtain ⟨k, rfl⟩ : ∃ k : Nat, b = k := ⟨b.toNat, by omega⟩
        have hk : k < d.ow.length := by omega
        have e := List.getElem?_eq_getElem hk
        obtain ⟨o, hoe⟩ : ∃ o, d.ow[k] = o := ⟨_, rfl⟩
        rw [hoe] at e
        have ce : w.cell? ⟨bO, k, none⟩ = some (.int .i64 o) := by rw [hd.o.cell]; exact ints_at e
        have hm : dMay d env k = if o = 0 ∨ o ≠ env then 20 else 0 := by
          unfold dMay
          rw [if_neg (by simp [hof]), if_neg (by omega), Int.toNat_natCast, e]
        rw [hm] at h
        have H := Lib.hid h
        clear hm hd ho hoe e h hof
        by_cases h2 : o = 0
        · have b2 : (o == 0) = true := by simp [h2]
          have HH := rcast H.out (congrArg (Value.int .i64) (if_pos (Or.inl h2)))
          clear h2 H
          go_enter Tryz.func139, Tryz.ntmps139
          go_wp2
          exact HH
        · have b2 : (o == 0) = false := by simp [h2]
          by_cases h3 : o = env
          · have b3 : (o != env) = false := by simp [h3]
            have HH := rcast H.out (congrArg (Value.int .i64) (if_neg (fun h => h.elim h2 (fun h => h h3))))
            clear h2 h3 H
            go_enter Tryz.func139, Tryz.ntmps139
            go_wp2
            exact HH
          · have b3 : (o != env) = true := by simp [h3]
            have HH := rcast H.out (congrArg (Value.int .i64) (if_pos (Or.inr h3)))
            clear h2 h3 H
            go_enter Tryz.func139, Tryz.ntmps139
            go_wp2
            exact HH
theorem Rd.sub' {N : List Nat} {A : Option Addr} {xs ys : List Value} (h : Rd w N A xs) (e : xs = ys) : Rd w N A ys := e ▸ h
theorem lastOf_nil (b : Int) : lastOf [] b = none := rfl
theorem lastOf_snoc {l : List Wr} {k : Nat} {x : Wr} (hx : l[k]? = some x) (b : Int) : lastOf (l.take (k + 1)) b = if x.b = b then some x.s else lastOf (l.take k) b := by
  have hk : k < l.length := (List.getElem?_eq_some_iff.1 hx).1
  have e : l[k] = x := (List.getElem?_eq_some_iff.1 hx).2
  unfold lastOf
  rw [List.take_succ_eq_append_getElem hk, e, List.reverse_append]
  by_cases h : x.b = b <;> simp [h]
theorem Dsk.wr (hd : Dsk w bD bL bO A c d) {k : Nat} {x : Wr} (hx : d.ln[k]? = some x) : ∃ g, A = some ⟨g, 0, none⟩ ∧ w.rangeAt g (k * 257) (wcells x) := by
  have hk : k < d.ln.length := (List.getElem?_eq_some_iff.1 hx).1
  obtain ⟨b, off, hA, _, _, hc⟩ := rd_at (hd.ln.rd (N := []) (by simp)) wcells_len (by omega) hx
  obtain ⟨g, hg, _⟩ := hd.ln.form (by omega)
  rw [hg] at hA
  injection hA with hA
  injection hA with h1 h2
  subst h1; subst h2
  exact ⟨g, hg, fun j v hv => by have := hc j v hv; rwa [Nat.zero_add] at this⟩
theorem info_wr : (Tryz.prog.info? 247).map (·.size) = some 257 := by kernel_rfl
theorem wcells_one {x : Wr} (h : x.s.length = 256) : ∀ v ∈ wcells x, v.oneCell' = true := by
  intro v hv
  rw [wcells_eq h] at hv
  simp only [List.mem_cons] at hv
  rcases hv with rfl | hv
  · rfl
  · exact bts_one _ v hv
theorem zc_wr : Tryz.zeroCells247.size = 257 := by kernel_rfl
/-- A write into the box that was just made. -/
theorem box_write (W : World) {x : Wr} (h : x.s.length = 256) : (storeCells ⟨W.heap.size, 0, none⟩ (wcells x)).run Tryz.prog (W.alloc (.cells Tryz.zeroCells247 247)) = .ok () (W.alloc (.cells (wcells x).toArray 247)) := by
  have := run_storeCells_new (P := Tryz.prog) W 247 Tryz.zeroCells247 (wcells x).toArray (by rw [List.size_toArray, wcells_len]; exact info_wr) (by rw [zc_wr]; simp [wcells_len]) (all_oneCell_toArray (wcells_one h))
  simpa using this
set_option maxHeartbeats 1000000 in
theorem dread_any (hd : Dsk w bD bL bO A c d) (hlm : d.ln.length ≤ 1000000) (env b : Int)
    (h : ∀ e l A' c' w', Hid (dRead d env b = (e, l)) → Kp [] w w' → Ow w' 5 1 A' l.length c' (bts l) → (∀ b ∈ bks A', w.heap.size ≤ b) → R (.returned (.tuple #[.slice A' l.length c', .int .i64 e])) w') :
    Calls Tryz.prog 94 #[.pointer (some ⟨bD, 0, none⟩), .int .i64 env, .int .i64 b] w R := by
  have H := Lib.hid h
  clear h
  by_cases hm : dMay d env b = 0
  · have HM : Hid (∀ (R : Ending → World → Prop), R (.returned (.int .i64 0)) w → Calls Tryz.prog 139 #[.pointer (some ⟨bD, 0, none⟩), .int .i64 env, .int .i64 b] w R) := Lib.hid (fun R h => may_any hd env b (by rw [hm]; exact h))
    obtain ⟨hb0, hb1, _, _⟩ := dMay_ok hm
    obtain ⟨bb, rfl⟩ : ∃ k : Nat, b = k := ⟨b.toNat, by omega⟩
    have c0 := hd.dd.cell 0
    have c2 := hd.dd.cell 2
    simp only [List.getElem?_cons_zero, List.getElem?_cons_succ] at c0 c2
    have HD := Lib.hid hd
    have HMM := Lib.hid hm
    clear hd hm
    go_enter Tryz.func94, Tryz.ntmps94
    go_wp2_with (go_at_call 139; refine HM.out _ ?_)
    go_loopw [9] (fun iv wr => ∃ k : Nat, k ≤ d.ln.length ∧ iv = .int .i64 ((k : Int) - 1) ∧ Hid (Kp [] w wr) ∧ Hid (lastOf d.ln bb = lastOf (d.ln.take k) bb)) (fun iv _ => (intOf iv + 1).toNat)
    case atStart => exact ⟨d.ln.length, Nat.le_refl _, by go_num, Lib.hid (Kp.refl _ _), Lib.hid (by rw [List.take_length])⟩
    case round =>
      obtain ⟨k, hk, rfl, kr, hlast⟩ := hrel
      have c0' := (kr.out.cell HD.out.dd.lt (by simp)).trans c0
      have c2' := (kr.out.cell HD.out.dd.lt (by simp)).trans c2
      clear c0 c2
      cases k with
      | zero =>
        have hse : dSee d bb = (d.bl[bb]?).getD [] := by have := hlast.out; rw [List.take_zero, lastOf_nil] at this; simp [dSee, this]
        have hp : (dSee d bb).length = 256 := HD.out.ok.see hb0 hb1
        have hrd : ∀ W, Kp [] wr W → Rd W [] (some ⟨bL, bb * 256, none⟩) (bts (dSee d bb)) := fun W kW _ => by
          have hdr := HD.out.off (kr.out.trans kW) (Off.nil _ _) (Off.nil _ _) (Off.nil _ _) (Off.nil _ _)
          refine ⟨bL, bb * 256, rfl, by simp, hdr.l.lt, fun j u hu => ?_⟩
          have hbl : bb < d.bl.length := by omega
          have e := List.getElem?_eq_getElem hbl
          rw [hse, e] at hu hp
          simp only [Option.getD_some] at hu hp
          rw [hdr.l.cell, flat_get pcells_len e (by rw [bts_get] at hu; rcases Nat.lt_or_ge j 256 with h | h; exact h; rw [List.getElem?_eq_none (by omega)] at hu; cases hu), pcells_eq hp]
          exact hu
        have HR := Lib.hid hrd
        have HP := Lib.hid hp
        clear hse hp hrd
        go_wp2_with (go_at_call 60; ((refine clone_some (N := []) (xs := bts (dSee d bb)) (HR.out _ (Kp.refl _ _)) (bts_one _) (by rw [bts_len]; exact HP.out) (by omega) ?_); intro g c' w1 g11 g12 g13))
        exact rcast (H.out 0 (dSee d bb) (some ⟨g, 0, none⟩) c' w1 (by simp [Hid, dRead, HMM.out]) (kr.out.trans g13) (by rw [HP.out]; exact g12) (by have := kr.out.size; simp [bks]; omega)) (by rw [HP.out]; rfl)
      | succ j =>
        obtain ⟨x, hx, hxm⟩ := get_lt (l := d.ln) (k := j) (by omega)
        have hdr := HD.out.off kr.out (Off.nil _ _) (Off.nil _ _) (Off.nil _ _) (Off.nil _ _)
        obtain ⟨g, hg, hrg⟩ := hdr.wr hx
        rw [hg] at c2'
        obtain ⟨hx0, hx1, hx2⟩ := HD.out.ok.ln x hxm
        have hls := lastOf_snoc hx bb
        have hst := box_write wr hx2
        have hwl := wcells_len x
        have hw0 : ∀ h : 0 < (wcells x).length, (wcells x)[0]'h = .int .i64 x.b := fun h => by simp [wcells_eq hx2]
        have HBX : Hid (Bk (wr.alloc (.cells (wcells x).toArray 247)) wr.heap.size 247 (wcells x)) := Lib.hid ((Bk.newAt rfl _ _).cast rfl)
        have HW := Lib.hid (wcells_eq hx2)
        have HX2 := Lib.hid hx2
        have HLS := Lib.hid hls
        clear hx hg hdr hls hx2
        by_cases hbx : x.b = bb
        · have hq : (x.b == (bb : Int)) = true := by simp [hbx]
          have HBB := Lib.hid hbx
          clear hbx
          go_wp2
          refine wp_load_mid 247 (.tmp 33) rfl g (j * 257) rfl (wcells x) _ hrg Tryz.underlying247 rfl (by rw [wcells_len]; exact info_wr) ?_
          clear hrg
          go_wp2_with (go_at_call 60; ((refine clone_some (N := []) (xs := bts x.s) ?_ (bts_one _) ?_ ?_ (fun g c' w1 g11 g12 g13 => ?_))))
          · exact (Rd.of_bk_at (o := 1) HBX.out (by simp)).sub' (by rw [HW.out]; rfl)
          · rw [bts_len]; exact HX2.out
          · omega
          · have hse : dSee d bb = x.s := by have := hlast.out; rw [HLS.out, if_pos HBB.out] at this; simp [dSee, this]
            have hx2 := HX2.out
            exact rcast (H.out 0 x.s (some ⟨g, 0, none⟩) c' w1 (by simp [Hid, dRead, HMM.out, hse]) ((kr.out.alloc _).trans g13) (by rw [hx2]; exact g12) (by have := kr.out.size; simp at g11; simp [bks]; omega)) (by rw [hx2]; rfl)
        · have hq : (x.b == (bb : Int)) = false := by simp [hbx]
          have HBB := Lib.hid hbx
          clear hbx
          go_wp2
          refine wp_load_mid 247 (.tmp 33) rfl g (j * 257) rfl (wcells x) _ hrg Tryz.underlying247 rfl (by rw [wcells_len]; exact info_wr) ?_
          clear hrg
          go_wp2
          exact ⟨⟨j, by omega, by go_num, Lib.hid (kr.out.alloc _), Lib.hid (by rw [hlast.out, HLS.out, if_neg HBB.out])⟩, by simp [intOf] <;> omega⟩
  · have HM : Hid (∀ (R : Ending → World → Prop), R (.returned (.int .i64 (dMay d env b))) w → Calls Tryz.prog 139 #[.pointer (some ⟨bD, 0, none⟩), .int .i64 env, .int .i64 b] w R) := Lib.hid (fun R h => may_any hd env b h)
    have HH := H.out (dMay d env b) [] none 0 w (by simp [Hid, dRead, hm]) (Kp.refl _ _) Ow.nil (by simp [bks])
    clear hd
    go_enter Tryz.func94, Tryz.ntmps94
    go_wp2_with (go_at_call 139; refine HM.out _ ?_)
    exact HH
end
end
end Go.Proofs.YtedblbpmlbjnhaaGreat
