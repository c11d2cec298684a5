/- A kernel's calls about frames and blocks. A kernel's filters: bind, unbind. -/
import Derived.Test.YtedblbpmlbjnhaaGreatPD22
import Derived.Test.YtedblbpmlbjnhaaGreatPD6
import Derived.Deep.RegionHeldLaw
namespace Go.Proofs.YtedblbpmlbjnhaaGreat
/-! ### A kernel's calls about frames and blocks. -/
section
open Go.RowKit Go.Shelf
set_option linter.unusedVariables false
set_option linter.unusedSimpArgs false
set_option maxRecDepth 100000

/-- A call as the program has it. -/
structure Kc where
  op : Int
  env : Int
  a : Int
  b : Int
  c : Int
  A5 : Option Addr
  n5 : Nat
  c5 : Nat
  s : List UInt8
  A6 : Option Addr
  n6 : Nat
  c6 : Nat
  p : List FOp
  A7 : Option Addr
  n7 : Nat
  c7 : Nat
  l : List Pc
structure Kc.ok (w : World) (x : Kc) : Prop where
  s : Tb w 5 x.A5 (bts x.s)
  sl : x.s.length = x.n5
  sm : x.n5 ≤ 1000000
  s0 : x.A5 = none → x.n5 = 0 ∧ x.c5 = 0
  p : Tb w 128 x.A6 (x.p.flatMap FOp.vals)
  pl : x.p.length = x.n6
  pm : x.n6 ≤ 1000
  p0 : x.A6 = none → x.n6 = 0 ∧ x.c6 = 0
  po : ∀ o ∈ x.p, o.ok
  l : Tb w 187 x.A7 (x.l.flatMap Pc.vals)
  ll : x.l.length = x.n7
  lm : x.n7 ≤ 1000
  l0 : x.A7 = none → x.n7 = 0 ∧ x.c7 = 0
  lo : ∀ q ∈ x.l, q.ok
def Kc.cs (x : Kc) (op : Int) : List Value := [.int .i64 op, .int .i64 x.env, .int .i64 x.a, .int .i64 x.b, .int .i64 x.c, .slice x.A5 x.n5 x.c5, .slice x.A6 x.n6 x.c6, .slice x.A7 x.n7 x.c7]
/-- What a call answers. -/
structure KR where
  n : Int
  l : List UInt8
  e : Int
  k : KS
/-- A call about frames or blocks. -/
def kFB (k : KS) (x : Kc) : KR :=
  if x.op = 1 then ⟨(tAlloc k.fs x.env).1, [], (tAlloc k.fs x.env).2.1, { k with fs := (tAlloc k.fs x.env).2.2 }⟩
  else if x.op = 2 then ⟨0, [], (tFree k.fs x.env x.a).1, { k with fs := (tFree k.fs x.env x.a).2 }⟩
  else if x.op = 3 then ⟨0, [], (tGive k.fs x.env x.a x.b).1, { k with fs := (tGive k.fs x.env x.a x.b).2 }⟩
  else if x.op = 4 then ⟨0, (tRead k.fs x.env x.a x.b x.c).2, (tRead k.fs x.env x.a x.b x.c).1, k⟩
  else if x.op = 5 then ⟨0, [], (tWrite k.fs x.env x.a x.b x.s).1, { k with fs := (tWrite k.fs x.env x.a x.b x.s).2 }⟩
  else if x.op = 6 then ⟨0, (dRead k.d x.env x.a).2, (dRead k.d x.env x.a).1, k⟩
  else if x.op = 7 then ⟨0, [], (dWrite k.d x.env x.a x.s).1, { k with d := (dWrite k.d x.env x.a x.s).2 }⟩
  else ⟨0, [], (dSyncE k.d).1, { k with d := (dSyncE k.d).2 }⟩
section
variable {R : Ending → World → Prop} {w : World} {B m : Nat} {a : KA} {k : KS}
theorem Kn.hB (h : Kn w B a k) : B ≤ w.heap.size := by have := h.new.g; have := h.g.lt; omega
set_option maxHeartbeats 1000000 in
theorem told_any (A : Option Addr) (n c : Nat) (e : Int) (w : World) (h : ∀ w', Kp [] w w' → R (.returned (.tuple #[.agg #[.int .i64 0, .slice A n c], .int .i64 e])) w') : Calls Tryz.prog 51 #[.slice A n c, .int .i64 e] w R := by
  have H := Lib.hid h
  clear h
  go_enter Tryz.func51, Tryz.ntmps51
  go_wp2
  exact bodyPost_ret (v := .tuple #[.agg #[.int .i64 0, .slice A n c], .int .i64 e]) (by simp [results, Tryz.results51, go_sem]; try rfl) rfl (H.out _ ((Kp.refl _ _).alloc _))
set_option maxHeartbeats 4000000 in
theorem kfb_1 (hK : Kn w B a k) (hm : k.cnt m) (hm2 : m ≤ 10000) (x : Kc) (hx : x.ok w) (hop : x.op = 1)
    (h : ∀ n A len cc l e k' a' w', Hid (kFB k x = ⟨n, l, e, k'⟩) → Kq B w w' → (Kn w' B a' k' ∧ a'.g = a.g ∧ a'.bT = a.bT) → l.length = len → Tb w' 5 A (bts l) → R (.returned (.tuple #[.agg #[.int .i64 n, .slice A len cc], .int .i64 e])) w') :
    Calls Tryz.prog 53 #[.pointer (some ⟨a.g, 0, none⟩), .agg #[.int .i64 1, .int .i64 x.env, .int .i64 x.a, .int .i64 x.b, .int .i64 x.c, .slice x.A5 x.n5 x.c5, .slice x.A6 x.n6 x.c6, .slice x.A7 x.n7 x.c7]] w R := by
  have H := Lib.hid h
  have HK := Lib.hid hK
  have HX := Lib.hid hx
  have HM := Lib.hid hm
  have hlm : k.d.ln.length ≤ 1000000 := by have := hm.ln; omega
  clear h hK hx hm
  go_enter Tryz.func53, Tryz.ntmps53
  go_upto_region 3 with (fail)
  refine gen_worldK (fun W => ∃ cb, w.heap.size = cb ∧ Kp [] w W ∧ Bk W cb 45 (x.cs 1) ∧ Bk W (cb + 1) 39 [.int .i64 0, .slice none 0 0]) ⟨_, rfl, ((Kp.refl _ _).alloc _).alloc _, ((Bk.new' _ _ _).alloc _).cast rfl, (Bk.newAt (by simp) _ _).cast rfl⟩ ?_
  rintro W ⟨cb, hcb, kW, bC, bR⟩
  rw [hcb]
  have hb0 : w.heap.size ≤ cb := by omega
  have kn := HK.out.off0 kW
  have KN := Lib.hid kn
  have HL : Hid (∀ e, 239 ≠ e → Off W ([a.bL]) e) := Lib.hid (fun e he => Off.one KN.out.t.l.ty he)
  have HS : Hid (∀ w', Kp (([a.bL]) ++ [cb + 1]) W w' → w'.cell? ⟨a.g, 0, none⟩ = some (.pointer (some ⟨a.bT, 0, none⟩)) ∧ w'.cell? ⟨cb, 1, none⟩ = some (.int .i64 x.env) ∧ w'.cell? ⟨cb, 2, none⟩ = some (.int .i64 x.a) ∧ w'.cell? ⟨cb, 3, none⟩ = some (.int .i64 x.b) ∧ w'.cell? ⟨cb, 4, none⟩ = some (.int .i64 x.c) ∧ w'.cell? ⟨cb, 5, none⟩ = some (.slice x.A5 x.n5 x.c5)) := Lib.hid (fun w' k' => by
    have og : Off W (([a.bL]) ++ [cb + 1]) 114 := Off.app (HL.out _ (by decide)) (Off.one bR.ty (by decide))
    have oc : Off W (([a.bL]) ++ [cb + 1]) 45 := Off.app (HL.out _ (by decide)) (Off.one bR.ty (by decide))
    have hc := bC.off k' oc
    exact ⟨(kn.g.off k' og).cell 0, hc.cell 1, hc.cell 2, hc.cell 3, hc.cell 4, hc.cell 5⟩)
  obtain ⟨q0, q1, q2, q3, q4, q5⟩ := HS.out W (Kp.refl _ _)
  have hrl := bR.lt
  have HRn : Hid (∀ w', Kp ([a.bL]) W w' → Bk w' (cb + 1) 39 [.int .i64 0, .slice none 0 0]) := Lib.hid (fun w' k' => bR.off k' (HL.out _ (by decide)))
  have HXd : Hid (x.ok W) := Lib.hid ⟨HX.out.s.kp kW (Off.nil _ _), HX.out.sl, HX.out.sm, HX.out.s0, HX.out.p.kp kW (Off.nil _ _), HX.out.pl, HX.out.pm, HX.out.p0, HX.out.po, HX.out.l.kp kW (Off.nil _ _), HX.out.ll, HX.out.lm, HX.out.l0, HX.out.lo⟩
  have KW := Lib.hid kW
  obtain ⟨⟨s0, s1⟩, ⟨f0, f1⟩⟩ := bk2 bR
  clear kW bC bR kn hcb
  go_region_held_law (fun w' => w'.cell? ⟨a.g, 0, none⟩ = some (.pointer (some ⟨a.bT, 0, none⟩)) ∧ w'.cell? ⟨cb, 1, none⟩ = some (.int .i64 x.env) ∧ w'.cell? ⟨cb, 2, none⟩ = some (.int .i64 x.a) ∧ w'.cell? ⟨cb, 3, none⟩ = some (.int .i64 x.b) ∧ w'.cell? ⟨cb, 4, none⟩ = some (.int .i64 x.c) ∧ w'.cell? ⟨cb, 5, none⟩ = some (.slice x.A5 x.n5 x.c5)) ((refine HS.out _ ?_; repeat (first | with_reducible exact kk3 | with_reducible exact kk2 | with_reducible exact Kp.refl _ _ | with_reducible refine Kp.drew ?_ | with_reducible refine Kp.setCell ?_ (.inl (by simp)) _))) (first | (go_simp; go_at_call 109; (refine alloc_any (KN.out.t.kp (S := []) (by repeat (first | with_reducible exact Kp.refl _ _ | with_reducible refine Kp.drew ?_)) (by simp) (by simp)) x.env ?_); intro f e fs' w2 hq k2 t2; have kk2 : Kp (([a.bL]) ++ [cb + 1]) W w2 := Kp.trans (by repeat (first | with_reducible exact Kp.refl _ _ | with_reducible refine Kp.drew ?_)) (k2.mono (fun s hs => .inl (List.mem_append_left _ hs))); have r2 := HRn.out w2 (Kp.trans (by repeat (first | with_reducible exact Kp.refl _ _ | with_reducible refine Kp.drew ?_)) k2); obtain ⟨⟨t0, t1⟩, ⟨y0, y1⟩⟩ := bk2 r2) | (go_simp; go_at_call 104; (refine only_any f e _ ?_); intro w3 k3; have kk3 : Kp (([a.bL]) ++ [cb + 1]) W w3 := kk2.trans (k3.mono (by simp)); have r3 := r2.kp k3 (by simp); obtain ⟨⟨u0, u1⟩, ⟨v0, v1⟩⟩ := bk2 r3))
  all_goals
    go_wp2
    obtain ⟨bb, kb⟩ := bk2set r3 (.int .i64 f) (.slice none 0 0)
    have hoA : ∀ e, 39 ≠ e → Off w3 [cb + 1] e := fun e he => Off.one r3.ty he
    obtain ⟨W9, hW9⟩ : ∃ W9, ((w3.setCell ⟨cb + 1, 0, none⟩ (.int .i64 f)).setCell ⟨cb + 1, 1, none⟩ (.slice none 0 0)) = W9 := ⟨_, rfl⟩
    rw [hW9] at bb kb ⊢
    obtain ⟨g0, g1, _⟩ := bk2t bb
    have kF : Kp ([a.bL]) w W9 := (((KW.out.drew.mono (by simp)).thn k2 (fun s hs => .inl hs)).trans (k3.mono (by simp))).thn kb (fun s hs => .inr (by simp at hs; omega))
    have t3 := t2.kp k3 (by simp) (by simp)
    have t9 := t3.kp kb ((hoA _ (by decide)).nin t3.t.ty) ((hoA _ (by decide)).nin t3.l.ty)
    obtain ⟨n9, q9⟩ := HK.out.setT kF t9
    exact bodyPost_ret (v := .tuple #[.agg #[.int .i64 f, .slice none 0 0], .int .i64 e]) (by simp [results, Tryz.results53, go_sem, g0, g1]; try rfl) rfl (H.out f none 0 0 [] e _ _ W9 (by simp [Hid, kFB, hop, hq.out]) q9 ⟨n9, rfl, rfl⟩ rfl Tb.nil)
set_option maxHeartbeats 4000000 in
theorem kfb_2 (hK : Kn w B a k) (hm : k.cnt m) (hm2 : m ≤ 10000) (x : Kc) (hx : x.ok w) (hop : x.op = 2)
    (h : ∀ n A len cc l e k' a' w', Hid (kFB k x = ⟨n, l, e, k'⟩) → Kq B w w' → (Kn w' B a' k' ∧ a'.g = a.g ∧ a'.bT = a.bT) → l.length = len → Tb w' 5 A (bts l) → R (.returned (.tuple #[.agg #[.int .i64 n, .slice A len cc], .int .i64 e])) w') :
    Calls Tryz.prog 53 #[.pointer (some ⟨a.g, 0, none⟩), .agg #[.int .i64 2, .int .i64 x.env, .int .i64 x.a, .int .i64 x.b, .int .i64 x.c, .slice x.A5 x.n5 x.c5, .slice x.A6 x.n6 x.c6, .slice x.A7 x.n7 x.c7]] w R := by
  have H := Lib.hid h
  have HK := Lib.hid hK
  have HX := Lib.hid hx
  have HM := Lib.hid hm
  have hlm : k.d.ln.length ≤ 1000000 := by have := hm.ln; omega
  clear h hK hx hm
  go_enter Tryz.func53, Tryz.ntmps53
  go_upto_region 5 with (fail)
  refine gen_worldK (fun W => ∃ cb, w.heap.size = cb ∧ Kp [] w W ∧ Bk W cb 45 (x.cs 2) ∧ Bk W (cb + 1) 39 [.int .i64 0, .slice none 0 0]) ⟨_, rfl, ((Kp.refl _ _).alloc _).alloc _, ((Bk.new' _ _ _).alloc _).cast rfl, (Bk.newAt (by simp) _ _).cast rfl⟩ ?_
  rintro W ⟨cb, hcb, kW, bC, bR⟩
  rw [hcb]
  have hb0 : w.heap.size ≤ cb := by omega
  have kn := HK.out.off0 kW
  have KN := Lib.hid kn
  have HL : Hid (∀ e, 239 ≠ e → Off W ([a.bL]) e) := Lib.hid (fun e he => Off.one KN.out.t.l.ty he)
  have HS : Hid (∀ w', Kp (([a.bL]) ++ [cb + 1]) W w' → w'.cell? ⟨a.g, 0, none⟩ = some (.pointer (some ⟨a.bT, 0, none⟩)) ∧ w'.cell? ⟨cb, 1, none⟩ = some (.int .i64 x.env) ∧ w'.cell? ⟨cb, 2, none⟩ = some (.int .i64 x.a) ∧ w'.cell? ⟨cb, 3, none⟩ = some (.int .i64 x.b) ∧ w'.cell? ⟨cb, 4, none⟩ = some (.int .i64 x.c) ∧ w'.cell? ⟨cb, 5, none⟩ = some (.slice x.A5 x.n5 x.c5)) := Lib.hid (fun w' k' => by
    have og : Off W (([a.bL]) ++ [cb + 1]) 114 := Off.app (HL.out _ (by decide)) (Off.one bR.ty (by decide))
    have oc : Off W (([a.bL]) ++ [cb + 1]) 45 := Off.app (HL.out _ (by decide)) (Off.one bR.ty (by decide))
    have hc := bC.off k' oc
    exact ⟨(kn.g.off k' og).cell 0, hc.cell 1, hc.cell 2, hc.cell 3, hc.cell 4, hc.cell 5⟩)
  obtain ⟨q0, q1, q2, q3, q4, q5⟩ := HS.out W (Kp.refl _ _)
  have hrl := bR.lt
  have HRn : Hid (∀ w', Kp ([a.bL]) W w' → Bk w' (cb + 1) 39 [.int .i64 0, .slice none 0 0]) := Lib.hid (fun w' k' => bR.off k' (HL.out _ (by decide)))
  have HXd : Hid (x.ok W) := Lib.hid ⟨HX.out.s.kp kW (Off.nil _ _), HX.out.sl, HX.out.sm, HX.out.s0, HX.out.p.kp kW (Off.nil _ _), HX.out.pl, HX.out.pm, HX.out.p0, HX.out.po, HX.out.l.kp kW (Off.nil _ _), HX.out.ll, HX.out.lm, HX.out.l0, HX.out.lo⟩
  have KW := Lib.hid kW
  obtain ⟨⟨s0, s1⟩, ⟨f0, f1⟩⟩ := bk2 bR
  clear kW bC bR kn hcb
  go_region_held_law (fun w' => w'.cell? ⟨a.g, 0, none⟩ = some (.pointer (some ⟨a.bT, 0, none⟩)) ∧ w'.cell? ⟨cb, 1, none⟩ = some (.int .i64 x.env) ∧ w'.cell? ⟨cb, 2, none⟩ = some (.int .i64 x.a) ∧ w'.cell? ⟨cb, 3, none⟩ = some (.int .i64 x.b) ∧ w'.cell? ⟨cb, 4, none⟩ = some (.int .i64 x.c) ∧ w'.cell? ⟨cb, 5, none⟩ = some (.slice x.A5 x.n5 x.c5)) ((refine HS.out _ ?_; repeat (first | with_reducible exact kk3 | with_reducible exact kk2 | with_reducible exact Kp.refl _ _ | with_reducible refine Kp.drew ?_ | with_reducible refine Kp.setCell ?_ (.inl (by simp)) _))) (first | (go_simp; go_at_call 110; (refine free_any (KN.out.t.kp (S := []) (by repeat (first | with_reducible exact Kp.refl _ _ | with_reducible refine Kp.drew ?_)) (by simp) (by simp)) x.env x.a ?_); intro e fs' w2 hq k2 t2; have kk2 : Kp (([a.bL]) ++ [cb + 1]) W w2 := Kp.trans (by repeat (first | with_reducible exact Kp.refl _ _ | with_reducible refine Kp.drew ?_)) (k2.mono (fun s hs => .inl (List.mem_append_left _ hs))); have r2 := HRn.out w2 (Kp.trans (by repeat (first | with_reducible exact Kp.refl _ _ | with_reducible refine Kp.drew ?_)) k2); obtain ⟨⟨t0, t1⟩, ⟨y0, y1⟩⟩ := bk2 r2))
  all_goals
    go_wp2
    obtain ⟨bb, kb⟩ := bk2set r2 (.int .i64 0) (.slice none 0 0)
    have hoA : ∀ e, 39 ≠ e → Off w2 [cb + 1] e := fun e he => Off.one r2.ty he
    obtain ⟨W9, hW9⟩ : ∃ W9, ((w2.setCell ⟨cb + 1, 0, none⟩ (.int .i64 0)).setCell ⟨cb + 1, 1, none⟩ (.slice none 0 0)) = W9 := ⟨_, rfl⟩
    rw [hW9] at bb kb ⊢
    obtain ⟨g0, g1, _⟩ := bk2t bb
    have kF : Kp ([a.bL]) w W9 := (((KW.out.drew.mono (by simp)).thn k2 (fun s hs => .inl hs))).thn kb (fun s hs => .inr (by simp at hs; omega))
    have t9 := t2.kp kb ((hoA _ (by decide)).nin t2.t.ty) ((hoA _ (by decide)).nin t2.l.ty)
    obtain ⟨n9, q9⟩ := HK.out.setT kF t9
    exact bodyPost_ret (v := .tuple #[.agg #[.int .i64 0, .slice none 0 0], .int .i64 e]) (by simp [results, Tryz.results53, go_sem, g0, g1]; try rfl) rfl (H.out 0 none 0 0 [] e _ _ W9 (by simp [Hid, kFB, hop, hq.out]) q9 ⟨n9, rfl, rfl⟩ rfl Tb.nil)
set_option maxHeartbeats 4000000 in
theorem kfb_3 (hK : Kn w B a k) (hm : k.cnt m) (hm2 : m ≤ 10000) (x : Kc) (hx : x.ok w) (hop : x.op = 3)
    (h : ∀ n A len cc l e k' a' w', Hid (kFB k x = ⟨n, l, e, k'⟩) → Kq B w w' → (Kn w' B a' k' ∧ a'.g = a.g ∧ a'.bT = a.bT) → l.length = len → Tb w' 5 A (bts l) → R (.returned (.tuple #[.agg #[.int .i64 n, .slice A len cc], .int .i64 e])) w') :
    Calls Tryz.prog 53 #[.pointer (some ⟨a.g, 0, none⟩), .agg #[.int .i64 3, .int .i64 x.env, .int .i64 x.a, .int .i64 x.b, .int .i64 x.c, .slice x.A5 x.n5 x.c5, .slice x.A6 x.n6 x.c6, .slice x.A7 x.n7 x.c7]] w R := by
  have H := Lib.hid h
  have HK := Lib.hid hK
  have HX := Lib.hid hx
  have HM := Lib.hid hm
  have hlm : k.d.ln.length ≤ 1000000 := by have := hm.ln; omega
  clear h hK hx hm
  go_enter Tryz.func53, Tryz.ntmps53
  go_upto_region 7 with (fail)
  refine gen_worldK (fun W => ∃ cb, w.heap.size = cb ∧ Kp [] w W ∧ Bk W cb 45 (x.cs 3) ∧ Bk W (cb + 1) 39 [.int .i64 0, .slice none 0 0]) ⟨_, rfl, ((Kp.refl _ _).alloc _).alloc _, ((Bk.new' _ _ _).alloc _).cast rfl, (Bk.newAt (by simp) _ _).cast rfl⟩ ?_
  rintro W ⟨cb, hcb, kW, bC, bR⟩
  rw [hcb]
  have hb0 : w.heap.size ≤ cb := by omega
  have kn := HK.out.off0 kW
  have KN := Lib.hid kn
  have HL : Hid (∀ e, 239 ≠ e → Off W ([a.bL]) e) := Lib.hid (fun e he => Off.one KN.out.t.l.ty he)
  have HS : Hid (∀ w', Kp (([a.bL]) ++ [cb + 1]) W w' → w'.cell? ⟨a.g, 0, none⟩ = some (.pointer (some ⟨a.bT, 0, none⟩)) ∧ w'.cell? ⟨cb, 1, none⟩ = some (.int .i64 x.env) ∧ w'.cell? ⟨cb, 2, none⟩ = some (.int .i64 x.a) ∧ w'.cell? ⟨cb, 3, none⟩ = some (.int .i64 x.b) ∧ w'.cell? ⟨cb, 4, none⟩ = some (.int .i64 x.c) ∧ w'.cell? ⟨cb, 5, none⟩ = some (.slice x.A5 x.n5 x.c5)) := Lib.hid (fun w' k' => by
    have og : Off W (([a.bL]) ++ [cb + 1]) 114 := Off.app (HL.out _ (by decide)) (Off.one bR.ty (by decide))
    have oc : Off W (([a.bL]) ++ [cb + 1]) 45 := Off.app (HL.out _ (by decide)) (Off.one bR.ty (by decide))
    have hc := bC.off k' oc
    exact ⟨(kn.g.off k' og).cell 0, hc.cell 1, hc.cell 2, hc.cell 3, hc.cell 4, hc.cell 5⟩)
  obtain ⟨q0, q1, q2, q3, q4, q5⟩ := HS.out W (Kp.refl _ _)
  have hrl := bR.lt
  have HRn : Hid (∀ w', Kp ([a.bL]) W w' → Bk w' (cb + 1) 39 [.int .i64 0, .slice none 0 0]) := Lib.hid (fun w' k' => bR.off k' (HL.out _ (by decide)))
  have HXd : Hid (x.ok W) := Lib.hid ⟨HX.out.s.kp kW (Off.nil _ _), HX.out.sl, HX.out.sm, HX.out.s0, HX.out.p.kp kW (Off.nil _ _), HX.out.pl, HX.out.pm, HX.out.p0, HX.out.po, HX.out.l.kp kW (Off.nil _ _), HX.out.ll, HX.out.lm, HX.out.l0, HX.out.lo⟩
  have KW := Lib.hid kW
  obtain ⟨⟨s0, s1⟩, ⟨f0, f1⟩⟩ := bk2 bR
  clear kW bC bR kn hcb
  go_region_held_law (fun w' => w'.cell? ⟨a.g, 0, none⟩ = some (.pointer (some ⟨a.bT, 0, none⟩)) ∧ w'.cell? ⟨cb, 1, none⟩ = some (.int .i64 x.env) ∧ w'.cell? ⟨cb, 2, none⟩ = some (.int .i64 x.a) ∧ w'.cell? ⟨cb, 3, none⟩ = some (.int .i64 x.b) ∧ w'.cell? ⟨cb, 4, none⟩ = some (.int .i64 x.c) ∧ w'.cell? ⟨cb, 5, none⟩ = some (.slice x.A5 x.n5 x.c5)) ((refine HS.out _ ?_; repeat (first | with_reducible exact kk3 | with_reducible exact kk2 | with_reducible exact Kp.refl _ _ | with_reducible refine Kp.drew ?_ | with_reducible refine Kp.setCell ?_ (.inl (by simp)) _))) (first | (go_simp; go_at_call 111; (refine give_any (KN.out.t.kp (S := []) (by repeat (first | with_reducible exact Kp.refl _ _ | with_reducible refine Kp.drew ?_)) (by simp) (by simp)) x.env x.a x.b ?_); intro e fs' w2 hq k2 t2; have kk2 : Kp (([a.bL]) ++ [cb + 1]) W w2 := Kp.trans (by repeat (first | with_reducible exact Kp.refl _ _ | with_reducible refine Kp.drew ?_)) (k2.mono (fun s hs => .inl (List.mem_append_left _ hs))); have r2 := HRn.out w2 (Kp.trans (by repeat (first | with_reducible exact Kp.refl _ _ | with_reducible refine Kp.drew ?_)) k2); obtain ⟨⟨t0, t1⟩, ⟨y0, y1⟩⟩ := bk2 r2))
  all_goals
    go_wp2
    obtain ⟨bb, kb⟩ := bk2set r2 (.int .i64 0) (.slice none 0 0)
    have hoA : ∀ e, 39 ≠ e → Off w2 [cb + 1] e := fun e he => Off.one r2.ty he
    obtain ⟨W9, hW9⟩ : ∃ W9, ((w2.setCell ⟨cb + 1, 0, none⟩ (.int .i64 0)).setCell ⟨cb + 1, 1, none⟩ (.slice none 0 0)) = W9 := ⟨_, rfl⟩
    rw [hW9] at bb kb ⊢
    obtain ⟨g0, g1, _⟩ := bk2t bb
    have kF : Kp ([a.bL]) w W9 := (((KW.out.drew.mono (by simp)).thn k2 (fun s hs => .inl hs))).thn kb (fun s hs => .inr (by simp at hs; omega))
    have t9 := t2.kp kb ((hoA _ (by decide)).nin t2.t.ty) ((hoA _ (by decide)).nin t2.l.ty)
    obtain ⟨n9, q9⟩ := HK.out.setT kF t9
    exact bodyPost_ret (v := .tuple #[.agg #[.int .i64 0, .slice none 0 0], .int .i64 e]) (by simp [results, Tryz.results53, go_sem, g0, g1]; try rfl) rfl (H.out 0 none 0 0 [] e _ _ W9 (by simp [Hid, kFB, hop, hq.out]) q9 ⟨n9, rfl, rfl⟩ rfl Tb.nil)
set_option maxHeartbeats 4000000 in
theorem kfb_4 (hK : Kn w B a k) (hm : k.cnt m) (hm2 : m ≤ 10000) (x : Kc) (hx : x.ok w) (hop : x.op = 4)
    (h : ∀ n A len cc l e k' a' w', Hid (kFB k x = ⟨n, l, e, k'⟩) → Kq B w w' → (Kn w' B a' k' ∧ a'.g = a.g ∧ a'.bT = a.bT) → l.length = len → Tb w' 5 A (bts l) → R (.returned (.tuple #[.agg #[.int .i64 n, .slice A len cc], .int .i64 e])) w') :
    Calls Tryz.prog 53 #[.pointer (some ⟨a.g, 0, none⟩), .agg #[.int .i64 4, .int .i64 x.env, .int .i64 x.a, .int .i64 x.b, .int .i64 x.c, .slice x.A5 x.n5 x.c5, .slice x.A6 x.n6 x.c6, .slice x.A7 x.n7 x.c7]] w R := by
  have H := Lib.hid h
  have HK := Lib.hid hK
  have HX := Lib.hid hx
  have HM := Lib.hid hm
  have hlm : k.d.ln.length ≤ 1000000 := by have := hm.ln; omega
  clear h hK hx hm
  go_enter Tryz.func53, Tryz.ntmps53
  go_upto_region 9 with (fail)
  refine gen_worldK (fun W => ∃ cb, w.heap.size = cb ∧ Kp [] w W ∧ Bk W cb 45 (x.cs 4) ∧ Bk W (cb + 1) 39 [.int .i64 0, .slice none 0 0]) ⟨_, rfl, ((Kp.refl _ _).alloc _).alloc _, ((Bk.new' _ _ _).alloc _).cast rfl, (Bk.newAt (by simp) _ _).cast rfl⟩ ?_
  rintro W ⟨cb, hcb, kW, bC, bR⟩
  rw [hcb]
  have hb0 : w.heap.size ≤ cb := by omega
  have kn := HK.out.off0 kW
  have KN := Lib.hid kn
  have HL : Hid (∀ e, True → Off W (([] : List Nat)) e) := Lib.hid (fun e _ => Off.nil _ _)
  have HS : Hid (∀ w', Kp ((([] : List Nat)) ++ [cb + 1]) W w' → w'.cell? ⟨a.g, 0, none⟩ = some (.pointer (some ⟨a.bT, 0, none⟩)) ∧ w'.cell? ⟨cb, 1, none⟩ = some (.int .i64 x.env) ∧ w'.cell? ⟨cb, 2, none⟩ = some (.int .i64 x.a) ∧ w'.cell? ⟨cb, 3, none⟩ = some (.int .i64 x.b) ∧ w'.cell? ⟨cb, 4, none⟩ = some (.int .i64 x.c) ∧ w'.cell? ⟨cb, 5, none⟩ = some (.slice x.A5 x.n5 x.c5)) := Lib.hid (fun w' k' => by
    have og : Off W ((([] : List Nat)) ++ [cb + 1]) 114 := Off.app (HL.out _ trivial) (Off.one bR.ty (by decide))
    have oc : Off W ((([] : List Nat)) ++ [cb + 1]) 45 := Off.app (HL.out _ trivial) (Off.one bR.ty (by decide))
    have hc := bC.off k' oc
    exact ⟨(kn.g.off k' og).cell 0, hc.cell 1, hc.cell 2, hc.cell 3, hc.cell 4, hc.cell 5⟩)
  obtain ⟨q0, q1, q2, q3, q4, q5⟩ := HS.out W (Kp.refl _ _)
  have hrl := bR.lt
  have HRn : Hid (∀ w', Kp (([] : List Nat)) W w' → Bk w' (cb + 1) 39 [.int .i64 0, .slice none 0 0]) := Lib.hid (fun w' k' => bR.off k' (HL.out _ trivial))
  have HXd : Hid (x.ok W) := Lib.hid ⟨HX.out.s.kp kW (Off.nil _ _), HX.out.sl, HX.out.sm, HX.out.s0, HX.out.p.kp kW (Off.nil _ _), HX.out.pl, HX.out.pm, HX.out.p0, HX.out.po, HX.out.l.kp kW (Off.nil _ _), HX.out.ll, HX.out.lm, HX.out.l0, HX.out.lo⟩
  have KW := Lib.hid kW
  obtain ⟨⟨s0, s1⟩, ⟨f0, f1⟩⟩ := bk2 bR
  clear kW bC bR kn hcb
  go_region_held_law (fun w' => w'.cell? ⟨a.g, 0, none⟩ = some (.pointer (some ⟨a.bT, 0, none⟩)) ∧ w'.cell? ⟨cb, 1, none⟩ = some (.int .i64 x.env) ∧ w'.cell? ⟨cb, 2, none⟩ = some (.int .i64 x.a) ∧ w'.cell? ⟨cb, 3, none⟩ = some (.int .i64 x.b) ∧ w'.cell? ⟨cb, 4, none⟩ = some (.int .i64 x.c) ∧ w'.cell? ⟨cb, 5, none⟩ = some (.slice x.A5 x.n5 x.c5)) ((refine HS.out _ ?_; repeat (first | with_reducible exact kk3 | with_reducible exact kk2 | with_reducible exact Kp.refl _ _ | with_reducible refine Kp.drew ?_ | with_reducible refine Kp.setCell ?_ (.inl (by simp)) _))) (first | (go_simp; go_at_call 72; (refine read_any (KN.out.t.kp (S := []) (by repeat (first | with_reducible exact Kp.refl _ _ | with_reducible refine Kp.drew ?_)) (by simp) (by simp)) x.env x.a x.b x.c ?_); intro e l A cc w2 hq k2 o2 b2; have kk2 : Kp ((([] : List Nat)) ++ [cb + 1]) W w2 := Kp.trans (by repeat (first | with_reducible exact Kp.refl _ _ | with_reducible refine Kp.drew ?_)) (k2.mono (fun s hs => .inl (List.mem_append_left _ hs))); have r2 := HRn.out w2 (Kp.trans (by repeat (first | with_reducible exact Kp.refl _ _ | with_reducible refine Kp.drew ?_)) k2); obtain ⟨⟨t0, t1⟩, ⟨y0, y1⟩⟩ := bk2 r2) | (go_simp; go_at_call 51; (refine told_any A l.length cc e _ ?_); intro w3 k3; have kk3 : Kp ((([] : List Nat)) ++ [cb + 1]) W w3 := kk2.trans (k3.mono (by simp)); have r3 := r2.kp k3 (by simp); obtain ⟨⟨u0, u1⟩, ⟨v0, v1⟩⟩ := bk2 r3))
  all_goals
    go_wp2
    obtain ⟨bb, kb⟩ := bk2set r3 (.int .i64 0) (.slice A l.length cc)
    have hoA : ∀ e, 39 ≠ e → Off w3 [cb + 1] e := fun e he => Off.one r3.ty he
    obtain ⟨W9, hW9⟩ : ∃ W9, ((w3.setCell ⟨cb + 1, 0, none⟩ (.int .i64 0)).setCell ⟨cb + 1, 1, none⟩ (.slice A l.length cc)) = W9 := ⟨_, rfl⟩
    rw [hW9] at bb kb ⊢
    obtain ⟨g0, g1, _⟩ := bk2t bb
    have kF : Kp (([] : List Nat)) w W9 := (((KW.out.drew.mono (by simp)).thn k2 (fun s hs => .inl hs)).trans (k3.mono (by simp))).thn kb (fun s hs => .inr (by simp at hs; omega))
    have o9 := ((o2.tb).kp k3 (Off.nil _ _)).kp kb (hoA _ (by decide))
    exact bodyPost_ret (v := .tuple #[.agg #[.int .i64 0, .slice A l.length cc], .int .i64 e]) (by simp [results, Tryz.results53, go_sem, g0, g1]; try rfl) rfl (H.out 0 A l.length cc l e k a W9 (by simp [Hid, kFB, hop, hq.out]) (Kq.of0 kF) ⟨HK.out.off0 kF, rfl, rfl⟩ rfl o9)
set_option maxHeartbeats 4000000 in
theorem kfb_5 (hK : Kn w B a k) (hm : k.cnt m) (hm2 : m ≤ 10000) (x : Kc) (hx : x.ok w) (hop : x.op = 5)
    (h : ∀ n A len cc l e k' a' w', Hid (kFB k x = ⟨n, l, e, k'⟩) → Kq B w w' → (Kn w' B a' k' ∧ a'.g = a.g ∧ a'.bT = a.bT) → l.length = len → Tb w' 5 A (bts l) → R (.returned (.tuple #[.agg #[.int .i64 n, .slice A len cc], .int .i64 e])) w') :
    Calls Tryz.prog 53 #[.pointer (some ⟨a.g, 0, none⟩), .agg #[.int .i64 5, .int .i64 x.env, .int .i64 x.a, .int .i64 x.b, .int .i64 x.c, .slice x.A5 x.n5 x.c5, .slice x.A6 x.n6 x.c6, .slice x.A7 x.n7 x.c7]] w R := by
  have H := Lib.hid h
  have HK := Lib.hid hK
  have HX := Lib.hid hx
  have HM := Lib.hid hm
  have hlm : k.d.ln.length ≤ 1000000 := by have := hm.ln; omega
  clear h hK hx hm
  go_enter Tryz.func53, Tryz.ntmps53
  go_upto_region 10 with (fail)
  refine gen_worldK (fun W => ∃ cb, w.heap.size = cb ∧ Kp [] w W ∧ Bk W cb 45 (x.cs 5) ∧ Bk W (cb + 1) 39 [.int .i64 0, .slice none 0 0]) ⟨_, rfl, ((Kp.refl _ _).alloc _).alloc _, ((Bk.new' _ _ _).alloc _).cast rfl, (Bk.newAt (by simp) _ _).cast rfl⟩ ?_
  rintro W ⟨cb, hcb, kW, bC, bR⟩
  rw [hcb]
  have hb0 : w.heap.size ≤ cb := by omega
  have kn := HK.out.off0 kW
  have KN := Lib.hid kn
  have HL : Hid (∀ e, 239 ≠ e → Off W ([a.bL]) e) := Lib.hid (fun e he => Off.one KN.out.t.l.ty he)
  have HS : Hid (∀ w', Kp (([a.bL]) ++ [cb + 1]) W w' → w'.cell? ⟨a.g, 0, none⟩ = some (.pointer (some ⟨a.bT, 0, none⟩)) ∧ w'.cell? ⟨cb, 1, none⟩ = some (.int .i64 x.env) ∧ w'.cell? ⟨cb, 2, none⟩ = some (.int .i64 x.a) ∧ w'.cell? ⟨cb, 3, none⟩ = some (.int .i64 x.b) ∧ w'.cell? ⟨cb, 4, none⟩ = some (.int .i64 x.c) ∧ w'.cell? ⟨cb, 5, none⟩ = some (.slice x.A5 x.n5 x.c5)) := Lib.hid (fun w' k' => by
    have og : Off W (([a.bL]) ++ [cb + 1]) 114 := Off.app (HL.out _ (by decide)) (Off.one bR.ty (by decide))
    have oc : Off W (([a.bL]) ++ [cb + 1]) 45 := Off.app (HL.out _ (by decide)) (Off.one bR.ty (by decide))
    have hc := bC.off k' oc
    exact ⟨(kn.g.off k' og).cell 0, hc.cell 1, hc.cell 2, hc.cell 3, hc.cell 4, hc.cell 5⟩)
  obtain ⟨q0, q1, q2, q3, q4, q5⟩ := HS.out W (Kp.refl _ _)
  have hrl := bR.lt
  have HRn : Hid (∀ w', Kp ([a.bL]) W w' → Bk w' (cb + 1) 39 [.int .i64 0, .slice none 0 0]) := Lib.hid (fun w' k' => bR.off k' (HL.out _ (by decide)))
  have HXd : Hid (x.ok W) := Lib.hid ⟨HX.out.s.kp kW (Off.nil _ _), HX.out.sl, HX.out.sm, HX.out.s0, HX.out.p.kp kW (Off.nil _ _), HX.out.pl, HX.out.pm, HX.out.p0, HX.out.po, HX.out.l.kp kW (Off.nil _ _), HX.out.ll, HX.out.lm, HX.out.l0, HX.out.lo⟩
  have KW := Lib.hid kW
  obtain ⟨⟨s0, s1⟩, ⟨f0, f1⟩⟩ := bk2 bR
  clear kW bC bR kn hcb
  go_region_held_law (fun w' => w'.cell? ⟨a.g, 0, none⟩ = some (.pointer (some ⟨a.bT, 0, none⟩)) ∧ w'.cell? ⟨cb, 1, none⟩ = some (.int .i64 x.env) ∧ w'.cell? ⟨cb, 2, none⟩ = some (.int .i64 x.a) ∧ w'.cell? ⟨cb, 3, none⟩ = some (.int .i64 x.b) ∧ w'.cell? ⟨cb, 4, none⟩ = some (.int .i64 x.c) ∧ w'.cell? ⟨cb, 5, none⟩ = some (.slice x.A5 x.n5 x.c5)) ((refine HS.out _ ?_; repeat (first | with_reducible exact kk3 | with_reducible exact kk2 | with_reducible exact Kp.refl _ _ | with_reducible refine Kp.drew ?_ | with_reducible refine Kp.setCell ?_ (.inl (by simp)) _))) (first | (go_simp; go_at_call 112; (refine write_any (KN.out.t.kp (S := []) (by repeat (first | with_reducible exact Kp.refl _ _ | with_reducible refine Kp.drew ?_)) (by simp) (by simp)) x.env x.a x.b ((HXd.out.s.kp (by repeat (first | with_reducible exact Kp.refl _ _ | with_reducible refine Kp.drew ?_)) (Off.nil _ _)).rd (HL.out _ (by decide))) HXd.out.sl HXd.out.sm HXd.out.s0 ?_); intro e fs' w2 hq k2 t2; have kk2 : Kp (([a.bL]) ++ [cb + 1]) W w2 := Kp.trans (by repeat (first | with_reducible exact Kp.refl _ _ | with_reducible refine Kp.drew ?_)) (k2.mono (fun s hs => .inl (List.mem_append_left _ hs))); have r2 := HRn.out w2 (Kp.trans (by repeat (first | with_reducible exact Kp.refl _ _ | with_reducible refine Kp.drew ?_)) k2); obtain ⟨⟨t0, t1⟩, ⟨y0, y1⟩⟩ := bk2 r2))
  all_goals
    go_wp2
    obtain ⟨bb, kb⟩ := bk2set r2 (.int .i64 0) (.slice none 0 0)
    have hoA : ∀ e, 39 ≠ e → Off w2 [cb + 1] e := fun e he => Off.one r2.ty he
    obtain ⟨W9, hW9⟩ : ∃ W9, ((w2.setCell ⟨cb + 1, 0, none⟩ (.int .i64 0)).setCell ⟨cb + 1, 1, none⟩ (.slice none 0 0)) = W9 := ⟨_, rfl⟩
    rw [hW9] at bb kb ⊢
    obtain ⟨g0, g1, _⟩ := bk2t bb
    have kF : Kp ([a.bL]) w W9 := (((KW.out.drew.mono (by simp)).thn k2 (fun s hs => .inl hs))).thn kb (fun s hs => .inr (by simp at hs; omega))
    have t9 := t2.kp kb ((hoA _ (by decide)).nin t2.t.ty) ((hoA _ (by decide)).nin t2.l.ty)
    obtain ⟨n9, q9⟩ := HK.out.setT kF t9
    exact bodyPost_ret (v := .tuple #[.agg #[.int .i64 0, .slice none 0 0], .int .i64 e]) (by simp [results, Tryz.results53, go_sem, g0, g1]; try rfl) rfl (H.out 0 none 0 0 [] e _ _ W9 (by simp [Hid, kFB, hop, hq.out]) q9 ⟨n9, rfl, rfl⟩ rfl Tb.nil)
set_option maxHeartbeats 4000000 in
theorem kfb_6 (hK : Kn w B a k) (hm : k.cnt m) (hm2 : m ≤ 10000) (x : Kc) (hx : x.ok w) (hop : x.op = 6)
    (h : ∀ n A len cc l e k' a' w', Hid (kFB k x = ⟨n, l, e, k'⟩) → Kq B w w' → (Kn w' B a' k' ∧ a'.g = a.g ∧ a'.bT = a.bT) → l.length = len → Tb w' 5 A (bts l) → R (.returned (.tuple #[.agg #[.int .i64 n, .slice A len cc], .int .i64 e])) w') :
    Calls Tryz.prog 47 #[.pointer (some ⟨a.g, 0, none⟩), .agg #[.int .i64 6, .int .i64 x.env, .int .i64 x.a, .int .i64 x.b, .int .i64 x.c, .slice x.A5 x.n5 x.c5, .slice x.A6 x.n6 x.c6, .slice x.A7 x.n7 x.c7]] w R := by
  have H := Lib.hid h
  have HK := Lib.hid hK
  have HX := Lib.hid hx
  have HM := Lib.hid hm
  have hlm : k.d.ln.length ≤ 1000000 := by have := hm.ln; omega
  clear h hK hx hm
  go_enter Tryz.func47, Tryz.ntmps47
  go_upto_region 3 with (fail)
  refine gen_worldK (fun W => ∃ cb, w.heap.size = cb ∧ Kp [] w W ∧ Bk W cb 45 (x.cs 6) ∧ Bk W (cb + 1) 39 [.int .i64 0, .slice none 0 0]) ⟨_, rfl, ((Kp.refl _ _).alloc _).alloc _, ((Bk.new' _ _ _).alloc _).cast rfl, (Bk.newAt (by simp) _ _).cast rfl⟩ ?_
  rintro W ⟨cb, hcb, kW, bC, bR⟩
  rw [hcb]
  have hb0 : w.heap.size ≤ cb := by omega
  have kn := HK.out.off0 kW
  have KN := Lib.hid kn
  have HL : Hid (∀ e, True → Off W (([] : List Nat)) e) := Lib.hid (fun e _ => Off.nil _ _)
  have HS : Hid (∀ w', Kp ((([] : List Nat)) ++ [cb + 1]) W w' → w'.cell? ⟨a.g, 1, none⟩ = some (.pointer (some ⟨a.bD, 0, none⟩)) ∧ w'.cell? ⟨cb, 1, none⟩ = some (.int .i64 x.env) ∧ w'.cell? ⟨cb, 2, none⟩ = some (.int .i64 x.a) ∧ w'.cell? ⟨cb, 3, none⟩ = some (.int .i64 x.b) ∧ w'.cell? ⟨cb, 4, none⟩ = some (.int .i64 x.c) ∧ w'.cell? ⟨cb, 5, none⟩ = some (.slice x.A5 x.n5 x.c5)) := Lib.hid (fun w' k' => by
    have og : Off W ((([] : List Nat)) ++ [cb + 1]) 114 := Off.app (HL.out _ trivial) (Off.one bR.ty (by decide))
    have oc : Off W ((([] : List Nat)) ++ [cb + 1]) 45 := Off.app (HL.out _ trivial) (Off.one bR.ty (by decide))
    have hc := bC.off k' oc
    exact ⟨(kn.g.off k' og).cell 1, hc.cell 1, hc.cell 2, hc.cell 3, hc.cell 4, hc.cell 5⟩)
  obtain ⟨q0, q1, q2, q3, q4, q5⟩ := HS.out W (Kp.refl _ _)
  have hrl := bR.lt
  have HRn : Hid (∀ w', Kp (([] : List Nat)) W w' → Bk w' (cb + 1) 39 [.int .i64 0, .slice none 0 0]) := Lib.hid (fun w' k' => bR.off k' (HL.out _ trivial))
  have HXd : Hid (x.ok W) := Lib.hid ⟨HX.out.s.kp kW (Off.nil _ _), HX.out.sl, HX.out.sm, HX.out.s0, HX.out.p.kp kW (Off.nil _ _), HX.out.pl, HX.out.pm, HX.out.p0, HX.out.po, HX.out.l.kp kW (Off.nil _ _), HX.out.ll, HX.out.lm, HX.out.l0, HX.out.lo⟩
  have KW := Lib.hid kW
  obtain ⟨⟨s0, s1⟩, ⟨f0, f1⟩⟩ := bk2 bR
  clear kW bC bR kn hcb
  go_region_held_law (fun w' => w'.cell? ⟨a.g, 1, none⟩ = some (.pointer (some ⟨a.bD, 0, none⟩)) ∧ w'.cell? ⟨cb, 1, none⟩ = some (.int .i64 x.env) ∧ w'.cell? ⟨cb, 2, none⟩ = some (.int .i64 x.a) ∧ w'.cell? ⟨cb, 3, none⟩ = some (.int .i64 x.b) ∧ w'.cell? ⟨cb, 4, none⟩ = some (.int .i64 x.c) ∧ w'.cell? ⟨cb, 5, none⟩ = some (.slice x.A5 x.n5 x.c5)) ((refine HS.out _ ?_; repeat (first | with_reducible exact kk3 | with_reducible exact kk2 | with_reducible exact Kp.refl _ _ | with_reducible refine Kp.drew ?_ | with_reducible refine Kp.setCell ?_ (.inl (by simp)) _))) (first | (go_simp; go_at_call 94; (refine dread_any (KN.out.off0 (by repeat (first | with_reducible exact Kp.refl _ _ | with_reducible refine Kp.drew ?_))).d hlm x.env x.a ?_); intro e l A cc w2 hq k2 o2 b2; have kk2 : Kp ((([] : List Nat)) ++ [cb + 1]) W w2 := Kp.trans (by repeat (first | with_reducible exact Kp.refl _ _ | with_reducible refine Kp.drew ?_)) (k2.mono (fun s hs => .inl (List.mem_append_left _ hs))); have r2 := HRn.out w2 (Kp.trans (by repeat (first | with_reducible exact Kp.refl _ _ | with_reducible refine Kp.drew ?_)) k2); obtain ⟨⟨t0, t1⟩, ⟨y0, y1⟩⟩ := bk2 r2) | (go_simp; go_at_call 51; (refine told_any A l.length cc e _ ?_); intro w3 k3; have kk3 : Kp ((([] : List Nat)) ++ [cb + 1]) W w3 := kk2.trans (k3.mono (by simp)); have r3 := r2.kp k3 (by simp); obtain ⟨⟨u0, u1⟩, ⟨v0, v1⟩⟩ := bk2 r3))
  all_goals
    go_wp2
    obtain ⟨bb, kb⟩ := bk2set r3 (.int .i64 0) (.slice A l.length cc)
    have hoA : ∀ e, 39 ≠ e → Off w3 [cb + 1] e := fun e he => Off.one r3.ty he
    obtain ⟨W9, hW9⟩ : ∃ W9, ((w3.setCell ⟨cb + 1, 0, none⟩ (.int .i64 0)).setCell ⟨cb + 1, 1, none⟩ (.slice A l.length cc)) = W9 := ⟨_, rfl⟩
    rw [hW9] at bb kb ⊢
    obtain ⟨g0, g1, _⟩ := bk2t bb
    have kF : Kp (([] : List Nat)) w W9 := (((KW.out.drew.mono (by simp)).thn k2 (fun s hs => .inl hs)).trans (k3.mono (by simp))).thn kb (fun s hs => .inr (by simp at hs; omega))
    have o9 := ((o2.tb).kp k3 (Off.nil _ _)).kp kb (hoA _ (by decide))
    exact bodyPost_ret (v := .tuple #[.agg #[.int .i64 0, .slice A l.length cc], .int .i64 e]) (by simp [results, Tryz.results47, go_sem, g0, g1]; try rfl) rfl (H.out 0 A l.length cc l e k a W9 (by simp [Hid, kFB, hop, hq.out]) (Kq.of0 kF) ⟨HK.out.off0 kF, rfl, rfl⟩ rfl o9)
set_option maxHeartbeats 4000000 in
theorem kfb_7 (hK : Kn w B a k) (hm : k.cnt m) (hm2 : m ≤ 10000) (x : Kc) (hx : x.ok w) (hop : x.op = 7)
    (h : ∀ n A len cc l e k' a' w', Hid (kFB k x = ⟨n, l, e, k'⟩) → Kq B w w' → (Kn w' B a' k' ∧ a'.g = a.g ∧ a'.bT = a.bT) → l.length = len → Tb w' 5 A (bts l) → R (.returned (.tuple #[.agg #[.int .i64 n, .slice A len cc], .int .i64 e])) w') :
    Calls Tryz.prog 47 #[.pointer (some ⟨a.g, 0, none⟩), .agg #[.int .i64 7, .int .i64 x.env, .int .i64 x.a, .int .i64 x.b, .int .i64 x.c, .slice x.A5 x.n5 x.c5, .slice x.A6 x.n6 x.c6, .slice x.A7 x.n7 x.c7]] w R := by
  have H := Lib.hid h
  have HK := Lib.hid hK
  have HX := Lib.hid hx
  have HM := Lib.hid hm
  have hlm : k.d.ln.length ≤ 1000000 := by have := hm.ln; omega
  clear h hK hx hm
  go_enter Tryz.func47, Tryz.ntmps47
  go_upto_region 5 with (fail)
  refine gen_worldK (fun W => ∃ cb, w.heap.size = cb ∧ Kp [] w W ∧ Bk W cb 45 (x.cs 7) ∧ Bk W (cb + 1) 39 [.int .i64 0, .slice none 0 0]) ⟨_, rfl, ((Kp.refl _ _).alloc _).alloc _, ((Bk.new' _ _ _).alloc _).cast rfl, (Bk.newAt (by simp) _ _).cast rfl⟩ ?_
  rintro W ⟨cb, hcb, kW, bC, bR⟩
  rw [hcb]
  have hb0 : w.heap.size ≤ cb := by omega
  have kn := HK.out.off0 kW
  have KN := Lib.hid kn
  have HL : Hid (∀ e, 163 ≠ e → 247 ≠ e → Off W ((a.bD :: bks a.dA)) e) := Lib.hid (fun e h1 h2 => Off.app (S := [a.bD]) (Off.one KN.out.d.dd.ty h1) (Off.bks KN.out.d.ln.ty h2))
  have HS : Hid (∀ w', Kp (((a.bD :: bks a.dA)) ++ [cb + 1]) W w' → w'.cell? ⟨a.g, 1, none⟩ = some (.pointer (some ⟨a.bD, 0, none⟩)) ∧ w'.cell? ⟨cb, 1, none⟩ = some (.int .i64 x.env) ∧ w'.cell? ⟨cb, 2, none⟩ = some (.int .i64 x.a) ∧ w'.cell? ⟨cb, 3, none⟩ = some (.int .i64 x.b) ∧ w'.cell? ⟨cb, 4, none⟩ = some (.int .i64 x.c) ∧ w'.cell? ⟨cb, 5, none⟩ = some (.slice x.A5 x.n5 x.c5)) := Lib.hid (fun w' k' => by
    have og : Off W (((a.bD :: bks a.dA)) ++ [cb + 1]) 114 := Off.app (HL.out _ (by decide) (by decide)) (Off.one bR.ty (by decide))
    have oc : Off W (((a.bD :: bks a.dA)) ++ [cb + 1]) 45 := Off.app (HL.out _ (by decide) (by decide)) (Off.one bR.ty (by decide))
    have hc := bC.off k' oc
    exact ⟨(kn.g.off k' og).cell 1, hc.cell 1, hc.cell 2, hc.cell 3, hc.cell 4, hc.cell 5⟩)
  obtain ⟨q0, q1, q2, q3, q4, q5⟩ := HS.out W (Kp.refl _ _)
  have hrl := bR.lt
  have HRn : Hid (∀ w', Kp ((a.bD :: bks a.dA)) W w' → Bk w' (cb + 1) 39 [.int .i64 0, .slice none 0 0]) := Lib.hid (fun w' k' => bR.off k' (HL.out _ (by decide) (by decide)))
  have HXd : Hid (x.ok W) := Lib.hid ⟨HX.out.s.kp kW (Off.nil _ _), HX.out.sl, HX.out.sm, HX.out.s0, HX.out.p.kp kW (Off.nil _ _), HX.out.pl, HX.out.pm, HX.out.p0, HX.out.po, HX.out.l.kp kW (Off.nil _ _), HX.out.ll, HX.out.lm, HX.out.l0, HX.out.lo⟩
  have KW := Lib.hid kW
  obtain ⟨⟨s0, s1⟩, ⟨f0, f1⟩⟩ := bk2 bR
  clear kW bC bR kn hcb
  go_region_held_law (fun w' => w'.cell? ⟨a.g, 1, none⟩ = some (.pointer (some ⟨a.bD, 0, none⟩)) ∧ w'.cell? ⟨cb, 1, none⟩ = some (.int .i64 x.env) ∧ w'.cell? ⟨cb, 2, none⟩ = some (.int .i64 x.a) ∧ w'.cell? ⟨cb, 3, none⟩ = some (.int .i64 x.b) ∧ w'.cell? ⟨cb, 4, none⟩ = some (.int .i64 x.c) ∧ w'.cell? ⟨cb, 5, none⟩ = some (.slice x.A5 x.n5 x.c5)) ((refine HS.out _ ?_; repeat (first | with_reducible exact kk3 | with_reducible exact kk2 | with_reducible exact Kp.refl _ _ | with_reducible refine Kp.drew ?_ | with_reducible refine Kp.setCell ?_ (.inl (by simp)) _))) (first | (go_simp; go_at_call 95; (refine dwrite_any (KN.out.off0 (by repeat (first | with_reducible exact Kp.refl _ _ | with_reducible refine Kp.drew ?_))).d hlm x.env x.a (HXd.out.s.kp (by repeat (first | with_reducible exact Kp.refl _ _ | with_reducible refine Kp.drew ?_)) (Off.nil _ _)) HXd.out.sl HXd.out.sm ?_); intro e A' c' d' w2 hq k2 d2 a2; have kk2 : Kp (((a.bD :: bks a.dA)) ++ [cb + 1]) W w2 := Kp.trans (by repeat (first | with_reducible exact Kp.refl _ _ | with_reducible refine Kp.drew ?_)) (k2.mono (fun s hs => .inl (List.mem_append_left _ hs))); have r2 := HRn.out w2 (Kp.trans (by repeat (first | with_reducible exact Kp.refl _ _ | with_reducible refine Kp.drew ?_)) k2); obtain ⟨⟨t0, t1⟩, ⟨y0, y1⟩⟩ := bk2 r2))
  all_goals
    go_wp2
    obtain ⟨bb, kb⟩ := bk2set r2 (.int .i64 0) (.slice none 0 0)
    have hoA : ∀ e, 39 ≠ e → Off w2 [cb + 1] e := fun e he => Off.one r2.ty he
    obtain ⟨W9, hW9⟩ : ∃ W9, ((w2.setCell ⟨cb + 1, 0, none⟩ (.int .i64 0)).setCell ⟨cb + 1, 1, none⟩ (.slice none 0 0)) = W9 := ⟨_, rfl⟩
    rw [hW9] at bb kb ⊢
    obtain ⟨g0, g1, _⟩ := bk2t bb
    have kF : Kp ((a.bD :: bks a.dA)) w W9 := (((KW.out.drew.mono (by simp)).thn k2 (fun s hs => .inl hs))).thn kb (fun s hs => .inr (by simp at hs; omega))
    have d9 := d2.off kb (hoA _ (by decide)) (hoA _ (by decide)) (hoA _ (by decide)) (hoA _ (by decide))
    have hBw := HK.out.hB
    have kWs := KW.out.size
    obtain ⟨n9, q9⟩ := HK.out.setD kF d9 (by rcases a2 with rfl | h2; exact HK.out.new.dA; intro b hb; have := h2 b hb; simp at this; omega) (by intro s hs; simp at hs; rcases hs with rfl | hs; exact HK.out.new.bD; exact HK.out.new.dA s hs) (fun e h1 _ h2 => Off.app (S := [a.bD]) (Off.one HK.out.d.dd.ty h1) (Off.bks HK.out.d.ln.ty h2))
    exact bodyPost_ret (v := .tuple #[.agg #[.int .i64 0, .slice none 0 0], .int .i64 e]) (by simp [results, Tryz.results47, go_sem, g0, g1]; try rfl) rfl (H.out 0 none 0 0 [] e _ _ W9 (by simp [Hid, kFB, hop, hq.out]) q9 ⟨n9, rfl, rfl⟩ rfl Tb.nil)
set_option maxHeartbeats 4000000 in
theorem kfb_8 (hK : Kn w B a k) (hm : k.cnt m) (hm2 : m ≤ 10000) (x : Kc) (hx : x.ok w) (hop : x.op = 8)
    (h : ∀ n A len cc l e k' a' w', Hid (kFB k x = ⟨n, l, e, k'⟩) → Kq B w w' → (Kn w' B a' k' ∧ a'.g = a.g ∧ a'.bT = a.bT) → l.length = len → Tb w' 5 A (bts l) → R (.returned (.tuple #[.agg #[.int .i64 n, .slice A len cc], .int .i64 e])) w') :
    Calls Tryz.prog 47 #[.pointer (some ⟨a.g, 0, none⟩), .agg #[.int .i64 8, .int .i64 x.env, .int .i64 x.a, .int .i64 x.b, .int .i64 x.c, .slice x.A5 x.n5 x.c5, .slice x.A6 x.n6 x.c6, .slice x.A7 x.n7 x.c7]] w R := by
  have H := Lib.hid h
  have HK := Lib.hid hK
  have HX := Lib.hid hx
  have HM := Lib.hid hm
  have hlm : k.d.ln.length ≤ 1000000 := by have := hm.ln; omega
  clear h hK hx hm
  go_enter Tryz.func47, Tryz.ntmps47
  go_upto_region 6 with (fail)
  refine gen_worldK (fun W => ∃ cb, w.heap.size = cb ∧ Kp [] w W ∧ Bk W cb 45 (x.cs 8) ∧ Bk W (cb + 1) 39 [.int .i64 0, .slice none 0 0]) ⟨_, rfl, ((Kp.refl _ _).alloc _).alloc _, ((Bk.new' _ _ _).alloc _).cast rfl, (Bk.newAt (by simp) _ _).cast rfl⟩ ?_
  rintro W ⟨cb, hcb, kW, bC, bR⟩
  rw [hcb]
  have hb0 : w.heap.size ≤ cb := by omega
  have kn := HK.out.off0 kW
  have KN := Lib.hid kn
  have HL : Hid (∀ e, 163 ≠ e → 245 ≠ e → Off W ([a.bD, a.bP]) e) := Lib.hid (fun e h1 h2 => Off.app (S := [a.bD]) (S' := [a.bP]) (Off.one KN.out.d.dd.ty h1) (Off.one KN.out.d.l.ty h2))
  have HS : Hid (∀ w', Kp (([a.bD, a.bP]) ++ [cb + 1]) W w' → w'.cell? ⟨a.g, 1, none⟩ = some (.pointer (some ⟨a.bD, 0, none⟩)) ∧ w'.cell? ⟨cb, 1, none⟩ = some (.int .i64 x.env) ∧ w'.cell? ⟨cb, 2, none⟩ = some (.int .i64 x.a) ∧ w'.cell? ⟨cb, 3, none⟩ = some (.int .i64 x.b) ∧ w'.cell? ⟨cb, 4, none⟩ = some (.int .i64 x.c) ∧ w'.cell? ⟨cb, 5, none⟩ = some (.slice x.A5 x.n5 x.c5)) := Lib.hid (fun w' k' => by
    have og : Off W (([a.bD, a.bP]) ++ [cb + 1]) 114 := Off.app (HL.out _ (by decide) (by decide)) (Off.one bR.ty (by decide))
    have oc : Off W (([a.bD, a.bP]) ++ [cb + 1]) 45 := Off.app (HL.out _ (by decide) (by decide)) (Off.one bR.ty (by decide))
    have hc := bC.off k' oc
    exact ⟨(kn.g.off k' og).cell 1, hc.cell 1, hc.cell 2, hc.cell 3, hc.cell 4, hc.cell 5⟩)
  obtain ⟨q0, q1, q2, q3, q4, q5⟩ := HS.out W (Kp.refl _ _)
  have hrl := bR.lt
  have HRn : Hid (∀ w', Kp ([a.bD, a.bP]) W w' → Bk w' (cb + 1) 39 [.int .i64 0, .slice none 0 0]) := Lib.hid (fun w' k' => bR.off k' (HL.out _ (by decide) (by decide)))
  have HXd : Hid (x.ok W) := Lib.hid ⟨HX.out.s.kp kW (Off.nil _ _), HX.out.sl, HX.out.sm, HX.out.s0, HX.out.p.kp kW (Off.nil _ _), HX.out.pl, HX.out.pm, HX.out.p0, HX.out.po, HX.out.l.kp kW (Off.nil _ _), HX.out.ll, HX.out.lm, HX.out.l0, HX.out.lo⟩
  have KW := Lib.hid kW
  obtain ⟨⟨s0, s1⟩, ⟨f0, f1⟩⟩ := bk2 bR
  clear kW bC bR kn hcb
  go_wp2_with ((go_at_call 96; (refine sync_any (KN.out.off0 (by repeat (first | with_reducible exact Kp.refl _ _ | with_reducible refine Kp.drew ?_))).d hlm ?_); intro e A' c' d' w2 hq k2 d2 a2; have kk2 : Kp (([a.bD, a.bP]) ++ [cb + 1]) W w2 := Kp.trans (by repeat (first | with_reducible exact Kp.refl _ _ | with_reducible refine Kp.drew ?_)) (k2.mono (fun s hs => .inl (List.mem_append_left _ hs))); have r2 := HRn.out w2 (Kp.trans (by repeat (first | with_reducible exact Kp.refl _ _ | with_reducible refine Kp.drew ?_)) k2); obtain ⟨⟨t0, t1⟩, ⟨y0, y1⟩⟩ := bk2 r2); obtain ⟨t0, t1, y0, y1⟩ := bk2t r2)
  all_goals
    obtain ⟨bb, kb⟩ := bk2set r2 (.int .i64 0) (.slice none 0 0)
    have hoA : ∀ e, 39 ≠ e → Off w2 [cb + 1] e := fun e he => Off.one r2.ty he
    obtain ⟨W9, hW9⟩ : ∃ W9, ((w2.setCell ⟨cb + 1, 0, none⟩ (.int .i64 0)).setCell ⟨cb + 1, 1, none⟩ (.slice none 0 0)) = W9 := ⟨_, rfl⟩
    rw [hW9] at bb kb ⊢
    obtain ⟨g0, g1, _⟩ := bk2t bb
    have kF : Kp ([a.bD, a.bP]) w W9 := (((KW.out.mono (by simp)).thn k2 (fun s hs => .inl hs))).thn kb (fun s hs => .inr (by simp at hs; omega))
    have d9 := d2.off kb (hoA _ (by decide)) (hoA _ (by decide)) (hoA _ (by decide)) (hoA _ (by decide))
    obtain ⟨n9, q9⟩ := HK.out.setD kF d9 (by rcases a2 with rfl | rfl; exact HK.out.new.dA; simp [Fresh, bks]) (by intro s hs; simp at hs; rcases hs with rfl | rfl; exact HK.out.new.bD; exact HK.out.new.bP) (fun e h1 h2 _ => Off.app (S := [a.bD]) (S' := [a.bP]) (Off.one HK.out.d.dd.ty h1) (Off.one HK.out.d.l.ty h2))
    exact bodyPost_ret (v := .tuple #[.agg #[.int .i64 0, .slice none 0 0], .int .i64 e]) (by simp [results, Tryz.results47, go_sem, g0, g1]; try rfl) rfl (H.out 0 none 0 0 [] e _ _ W9 (by simp [Hid, kFB, hop, hq.out]) q9 ⟨n9, rfl, rfl⟩ rfl Tb.nil)
end
end
/-! ### A kernel's filters: bind, unbind. -/
section
open Go.RowKit Go.Shelf
set_option linter.unusedVariables false
set_option linter.unusedSimpArgs false
set_option maxRecDepth 100000

theorem elt_bd : Elt Tryz.prog 109 144 (.agg #[.int .i64 0, .int .i64 0, .slice none 0 0]) 3 40 := ⟨Tryz.underlying109, by kernel_rfl, rfl, by decide, by decide⟩
theorem Kq.thn {B : Nat} {w w1 w2 : World} {S : List Nat} (h : Kq B w w1) (k : Kp S w1 w2) (hB : B ≤ w.heap.size) (hs : ∀ s ∈ S, w.heap.size ≤ s) : Kq B w w2 :=
  ⟨k.os.trans h.os, k.tape.trans h.tape, k.output.trans h.output, Nat.le_trans h.size k.size, fun b hb hc => (k.block b (Nat.lt_of_lt_of_le hb h.size) (fun hm => by have := hs b hm; omega)).trans (h.block b hb hc)⟩
/-- A store into a block of the caller's own, of another type than all of the kernel's. -/
theorem Kn.offA {B : Nat} {w w' : World} {a : KA} {k : KS} {S : List Nat} (h : Kn w B a k) (hk : Kp S w w') (o : ∀ e, 39 ≠ e → Off w S e) : Kn w' B a k :=
  ⟨h.g.off hk (o _ (by decide)), h.t.kp hk ((o _ (by decide)).nin h.t.t.ty) ((o _ (by decide)).nin h.t.l.ty), h.d.off hk (o _ (by decide)) (o _ (by decide)) (o _ (by decide)) (o _ (by decide)), h.fl.off hk (o _ (by decide)), fun x hx => ⟨(h.fd x hx).1, (h.fd x hx).2.1, (h.fd x hx).2.2.kp hk (o _ (by decide))⟩, h.i1.off hk ((o _ (by decide)).nin h.i1.hs.ty) ((o _ (by decide)).nin h.r1) (o _ (by decide)), h.i2.off hk ((o _ (by decide)).nin h.i2.hs.ty) ((o _ (by decide)).nin h.r2) (o _ (by decide)), h.o.off hk ((o _ (by decide)).nin h.o.hs.ty) ((o _ (by decide)).nin h.ro) (o _ (by decide)), h.new⟩
/-- What bind does. -/
def kBind (k : KS) (x : Kc) (n e : Int) (k' : KS) : Prop :=
  (8 ≤ k.fl.length ∧ n = 0 ∧ e = 10 ∧ k' = k) ∨ (k.fl.length < 8 ∧ fchk x.p = false ∧ n = 0 ∧ e = 40 ∧ k' = k) ∨
  (k.fl.length < 8 ∧ fchk x.p = true ∧ n = k.nx ∧ e = 0 ∧ ∃ y : Bnd, y.id = k.nx ∧ y.env = x.env ∧ y.p = x.p ∧ k' = { k with fl := k.fl ++ [y], nx := k.nx + 1 })
section
variable {R : Ending → World → Prop} {w : World} {B m : Nat} {a : KA} {k : KS}
theorem kbind_fin {w V w3 w5 : World} {B rb : Nat} {a : KA} {k : KS} {x : Kc} {A3 A5 : Option Addr} {c3 c5 : Nat} {o : Obj} (hK : Kn w B a k) (K0 : Kp [a.g] w V) (bG : Bk V a.g 114 (a.cells { k with nx := k.nx + 1 })) (hfl : Ow V 144 3 a.fA k.fl.length a.fc (k.fl.flatMap Bnd.vals))
    (hfd : ∀ y ∈ k.fl, y.p.length = y.n ∧ y.n ≤ 64 ∧ Tb V 128 y.A (y.p.flatMap FOp.vals)) (bR : Bk V rb 39 [.int .i64 0, .slice none 0 0]) (k3 : Kp [] V w3) (o3 : Ow w3 128 4 A3 x.n6 c3 (x.p.flatMap FOp.vals)) (hpl : x.p.length = x.n6) (hp64 : x.n6 ≤ 64)
    (ho5 : Ow w5 144 3 A5 (k.fl.length + 1) c5 (k.fl.flatMap Bnd.vals ++ Bnd.vals ⟨k.nx, x.env, A3, x.n6, c3, x.p⟩)) (hk5 : Kp (bks a.fA) (w3.alloc o) w5) (hA5 : A5 = a.fA ∨ A5 = some ⟨(w3.alloc o).heap.size, 0, none⟩) :
    Kn (w5.setCell ⟨a.g, 2, none⟩ (.slice A5 (k.fl.length + 1) c5)) B { a with fA := A5, fc := c5 } { k with fl := k.fl ++ [⟨k.nx, x.env, A3, x.n6, c3, x.p⟩], nx := k.nx + 1, dn := k.dn } ∧ Kq B w (w5.setCell ⟨a.g, 2, none⟩ (.slice A5 (k.fl.length + 1) c5)) ∧
      Bk (w5.setCell ⟨a.g, 2, none⟩ (.slice A5 (k.fl.length + 1) c5)) rb 39 [.int .i64 0, .slice none 0 0] ∧ Kp (a.g :: bks a.fA) w (w5.setCell ⟨a.g, 2, none⟩ (.slice A5 (k.fl.length + 1) c5)) := by
  have k35 : Kp (bks a.fA) V w5 := ((k3.alloc o).mono (by simp)).thn hk5 (fun s hs => .inl hs)
  have oV : ∀ e, 144 ≠ e → Off V (bks a.fA) e := fun e he => Off.bks hfl.ty he
  have g5 := bG.off k35 (oV _ (by decide))
  have ks : Kp [a.g] w5 (w5.setCell ⟨a.g, 2, none⟩ (.slice A5 (k.fl.length + 1) c5)) := (Kp.refl _ _).setCell (p := ⟨a.g, 2, none⟩) (.inl (by simp)) _
  have o5 : ∀ e, 114 ≠ e → Off w5 [a.g] e := fun e he => Off.one g5.ty he
  have kF : Kp (a.g :: bks a.fA) w (w5.setCell ⟨a.g, 2, none⟩ (.slice A5 (k.fl.length + 1) c5)) := ((K0.mono (by simp)).thn k35 (fun s hs => .inl (by simp [hs]))).thn ks (fun s hs => .inl (by simp at hs; simp [hs]))
  have r5 := (bR.off k35 (oV _ (by decide))).off ks (o5 _ (by decide))
  have hB := hK.hB
  have z0 := K0.size
  have z3 := k3.size
  have k3w : Kp (bks a.fA) w3 w5 := ((Kp.refl [] w3).alloc o |>.mono (by simp)).thn hk5 (fun s hs => .inl hs)
  have of3 : ∀ e, 144 ≠ e → Off w3 (bks a.fA) e := fun e he => Off.bks (hfl.kp k3 (by simp)).ty he
  obtain ⟨n9, q9⟩ := hK.setF (fA' := A5) (fc' := c5) (nx' := k.nx + 1) (dn' := k.dn) (fl' := k.fl ++ [⟨k.nx, x.env, A3, x.n6, c3, x.p⟩]) kF ((g5.set_ 2 _).cast (by simp [KA.cells])) ((ho5.off ks (o5 _ (by decide))).cast (by simp) (by simp [List.flatMap_append])) (by
      rcases hA5 with rfl | rfl
      · exact hK.new.fA
      · intro b hb; simp [bks] at hb; omega) (by
      intro y hy
      rcases List.mem_append.1 hy with hy | hy
      · obtain ⟨e1, e2, e3⟩ := hfd y hy
        exact ⟨e1, e2, (e3.kp k35 (oV _ (by decide))).kp ks (o5 _ (by decide))⟩
      · simp at hy; subst hy
        exact ⟨hpl, hp64, (o3.tb.kp k3w (of3 _ (by decide))).kp ks (o5 _ (by decide))⟩)
  exact ⟨n9, q9, r5, kF⟩
set_option maxHeartbeats 4000000 in
theorem kbind_any (hK : Kn w B a k) (hm : k.cnt m) (hm2 : m ≤ 10000) (x : Kc) (hx : x.ok w)
    (h : ∀ n e k' a' w', Hid (kBind k x n e k') → Kq B w w' → (Kn w' B a' k' ∧ a'.g = a.g ∧ a'.bT = a.bT) → R (.returned (.tuple #[.agg #[.int .i64 n, .slice none 0 0], .int .i64 e])) w') :
    Calls Tryz.prog 48 #[.pointer (some ⟨a.g, 0, none⟩), .agg #[.int .i64 9, .int .i64 x.env, .int .i64 x.a, .int .i64 x.b, .int .i64 x.c, .slice x.A5 x.n5 x.c5, .slice x.A6 x.n6 x.c6, .slice x.A7 x.n7 x.c7]] w R := by
  have H := Lib.hid h
  have HK := Lib.hid hK
  have HX := Lib.hid hx
  have hnx := hm.nx
  have hfl8 := hm.fl
  clear h hK hx hm
  go_enter Tryz.func48, Tryz.ntmps48
  go_upto_region 1 with (fail)
  refine gen_worldK (fun W => ∃ cb, w.heap.size = cb ∧ Kp [] w W ∧ Bk W cb 45 (x.cs 9) ∧ Bk W (cb + 1) 39 [.int .i64 0, .slice none 0 0]) ⟨_, rfl, ((Kp.refl _ _).alloc _).alloc _, ((Bk.new' _ _ _).alloc _).cast rfl, (Bk.newAt (by simp) _ _).cast rfl⟩ ?_
  rintro W ⟨cb, hcb, kW, bC, bR⟩
  rw [hcb]
  have hb0 : w.heap.size ≤ cb := by omega
  have kn := HK.out.off0 kW
  have c2 : W.cell? ⟨a.g, 2, none⟩ = some (.slice a.fA k.fl.length a.fc) := kn.cell 2
  have p6 := bC.cell 6
  simp only [Kc.cs, List.getElem?_cons_zero, List.getElem?_cons_succ] at p6
  have KN := Lib.hid kn
  have KW := Lib.hid kW
  have BC := Lib.hid bC
  have BR := Lib.hid bR
  have hXd : x.ok W := ⟨HX.out.s.kp kW (Off.nil _ _), HX.out.sl, HX.out.sm, HX.out.s0, HX.out.p.kp kW (Off.nil _ _), HX.out.pl, HX.out.pm, HX.out.p0, HX.out.po, HX.out.l.kp kW (Off.nil _ _), HX.out.ll, HX.out.lm, HX.out.l0, HX.out.lo⟩
  have HXd := Lib.hid hXd
  have hrl := bR.lt
  clear kn kW bC bR hcb hXd
  by_cases h8 : 8 ≤ k.fl.length
  · obtain ⟨s0, s1, f0, f1⟩ := bk2t BR.out
    go_wp2
    obtain ⟨bb, kb⟩ := bk2set BR.out (.int .i64 0) (.slice none 0 0)
    obtain ⟨W9, hW9⟩ : ∃ W9, ((W.setCell ⟨cb + 1, 0, none⟩ (.int .i64 0)).setCell ⟨cb + 1, 1, none⟩ (.slice none 0 0)) = W9 := ⟨_, rfl⟩
    rw [hW9] at bb kb ⊢
    obtain ⟨g0, g1, _⟩ := bk2t bb
    have kF : Kp [] w W9 := KW.out.thn kb (fun s hs => .inr (by simp at hs; omega))
    exact bodyPost_ret (v := .tuple #[.agg #[.int .i64 0, .slice none 0 0], .int .i64 10]) (by simp [results, Tryz.results48, go_sem, g0, g1]; try rfl) rfl (H.out 0 10 k a W9 (Lib.hid (.inl ⟨h8, rfl, rfl, rfl⟩)) (Kq.of0 kF) ⟨HK.out.off0 kF, rfl, rfl⟩)
  · cases hck : fchk x.p with
    | false =>
      go_wp2_with (go_at_call 97; ((refine fcheck_any HXd.out.p.rd0 HXd.out.pl (by have := HXd.out.pm; omega) HXd.out.po ?_); rw [hck]; intro w2 k2; obtain ⟨s0, s1, f0, f1⟩ := bk2t (BR.out.kp k2 (by simp))))
      obtain ⟨bb, kb⟩ := bk2set (BR.out.kp k2 (by simp)) (.int .i64 0) (.slice none 0 0)
      obtain ⟨W9, hW9⟩ : ∃ W9, ((w2.setCell ⟨cb + 1, 0, none⟩ (.int .i64 0)).setCell ⟨cb + 1, 1, none⟩ (.slice none 0 0)) = W9 := ⟨_, rfl⟩
      rw [hW9] at bb kb ⊢
      obtain ⟨g0, g1, _⟩ := bk2t bb
      have kF : Kp [] w W9 := (KW.out.trans k2).thn kb (fun s hs => .inr (by simp at hs; omega))
      exact bodyPost_ret (v := .tuple #[.agg #[.int .i64 0, .slice none 0 0], .int .i64 40]) (by simp [results, Tryz.results48, go_sem, g0, g1]; try rfl) rfl (H.out 0 40 k a W9 (Lib.hid (.inr (.inl ⟨by omega, hck, rfl, rfl, rfl⟩))) (Kq.of0 kF) ⟨HK.out.off0 kF, rfl, rfl⟩)
    | true =>
      go_upto_region 8 with (go_at_call 97; ((refine fcheck_any HXd.out.p.rd0 HXd.out.pl (by have := HXd.out.pm; omega) HXd.out.po ?_); rw [hck]; intro w2 k2; have kn2 := KN.out.off0 k2; have c3 : w2.cell? ⟨a.g, 3, none⟩ = some (.int .i64 k.nx) := kn2.cell 3; have f3 := kn2.g.frozen 3; have KN2 := Lib.hid kn2; clear kn2))
      refine gen_worldK (fun V => Kp [a.g] w2 V ∧ Bk V a.g 114 (a.cells { k with nx := k.nx + 1 })) ⟨(Kp.refl _ _).setCell (p := ⟨a.g, 3, none⟩) (.inl (by simp)) _, (KN2.out.g.set_ 3 _).cast (by simp [KA.cells])⟩ ?_
      rintro V ⟨kV, bG⟩
      have og : ∀ e, 114 ≠ e → Off w2 [a.g] e := fun e he => Off.one KN2.out.g.ty he
      have hfl : Ow V 144 3 a.fA k.fl.length a.fc (k.fl.flatMap Bnd.vals) := KN2.out.fl.off kV (og _ (by decide))
      have hfd : ∀ y ∈ k.fl, y.p.length = y.n ∧ y.n ≤ 64 ∧ Tb V 128 y.A (y.p.flatMap FOp.vals) := fun y hy => ⟨(KN2.out.fd y hy).1, (KN2.out.fd y hy).2.1, (KN2.out.fd y hy).2.2.kp kV (og _ (by decide))⟩
      have bC := (BC.out.kp k2 (by simp)).off kV (og _ (by decide))
      have bR := (BR.out.kp k2 (by simp)).off kV (og _ (by decide))
      have hxp : Tb V 128 x.A6 (x.p.flatMap FOp.vals) := (HXd.out.p.kp k2 (Off.nil _ _)).kp kV (og _ (by decide))
      have K0 : Hid (Kp [a.g] w V) := Lib.hid (((KW.out.trans k2).mono (by simp)).trans kV)
      have oL : ∀ e, 114 ≠ e → 144 ≠ e → Off V (a.g :: bks a.fA) e := fun e h1 h2 => Off.app (S := [a.g]) (Off.one bG.ty h1) (Off.bks hfl.ty h2)
      have HS : Hid (∀ w', Kp (a.g :: bks a.fA) V w' → w'.cell? ⟨cb, 1, none⟩ = some (.int .i64 x.env) ∧ w'.cell? ⟨cb, 6, none⟩ = some (.slice x.A6 x.n6 x.c6)) := Lib.hid (fun w' k' => ⟨(bC.off k' (oL _ (by decide) (by decide))).cell 1, (bC.off k' (oL _ (by decide) (by decide))).cell 6⟩)
      have HOL := Lib.hid oL
      have d2 : V.cell? ⟨a.g, 2, none⟩ = some (.slice a.fA k.fl.length a.fc) := bG.cell 2
      have HG := Lib.hid bG
      have HFl := Lib.hid hfl
      have HFd := Lib.hid hfd
      have HR := Lib.hid bR
      have HXp := Lib.hid hxp
      have hpl := HXd.out.pl
      have hpm := HXd.out.pm
      have hrl2 := bR.lt
      have hgl := bG.lt
      obtain ⟨q0, q1⟩ := HS.out V (Kp.refl _ _)
      have HX0 := Lib.hid HXd.out.p0
      clear kV bG og hfl hfd bC bR hxp oL k2 c2 c3 f3 p6
      have HCK := Lib.hid hck
      have hp64 : x.n6 ≤ 64 := by
        have h64 : x.p.length ≤ 64 := by simp [fchk] at hck; exact hck.1.1.2
        omega
      clear hck
      go_cut [7] from 33 (fun s7 W' => s7 = .int .i64 k.nx ∧ ∃ (A5 : Option Addr) (c5 : Nat) (y : Bnd), y.id = k.nx ∧ y.env = x.env ∧ y.p = x.p ∧ Hid (Kn W' B { a with fA := A5, fc := c5 } { k with fl := k.fl ++ [y], nx := k.nx + 1 }) ∧ Hid (Kq B w W') ∧ Hid (Bk W' (cb + 1) 39 [.int .i64 0, .slice none 0 0]) ∧ w.heap.size ≤ W'.heap.size)
      case first =>
       go_region_law (first | (go_simp; go_at_call 98; (refine cloneop_any (xs := x.p.flatMap FOp.vals) ((HXp.out.kp (by repeat (first | with_reducible exact Kp.refl _ _ | with_reducible refine Kp.drew ?_)) (Off.nil _ _)).rd0) (by intro u hu; rw [List.mem_flatMap] at hu; obtain ⟨o, _, hu⟩ := hu; exact ovals_one o u hu) (by rw [flat_len ovals_len, hpl]) (by omega) HX0.out ?_); intro A3 c3 w3 k3 o3 fr3; have k3v : Kp [] V w3 := Kp.trans (by repeat (first | with_reducible exact Kp.refl _ _ | with_reducible refine Kp.drew ?_)) k3; have kk3 : Kp (a.g :: bks a.fA) V w3 := k3v.mono (by simp); have bg3 := HG.out.kp k3v (by simp); have e2 : w3.cell? ⟨a.g, 2, none⟩ = some (.slice a.fA k.fl.length a.fc) := bg3.cell 2; obtain ⟨q2, q3⟩ := HS.out w3 kk3; have e3 : ∀ o, (w3.alloc o).cell? ⟨a.g, 2, none⟩ = some (.slice a.fA k.fl.length a.fc) := fun o => (bg3.alloc o).cell 2; have BG3 := Lib.hid bg3; clear bg3) | (refine step_app rfl (.tmp 37) (.tmp 45) _ rfl elt_bd a.fA k.fl.length a.fc _ (by simp [Act.eval, Act.put]) ((HFl.out.kp k3v (by simp)).alloc _) [] (some ⟨w3.heap.size, 0, none⟩) 1 1 (Bnd.vals ⟨k.nx, x.env, A3, x.n6, c3, x.p⟩) (by simp [Act.eval, Act.put]) (Rd.of_bk ((Bk.newAt rfl _ _).cast rfl) (by simp)) rfl (bvals_one _) (by omega) ?_; intro A5 c5 w5 ho5 hk5 hA5; have kk4 : Kp (bks a.fA) V w5 := ((k3v.alloc _).mono (by simp)).thn hk5 (fun s hs => .inl hs); have kk5 : Kp (a.g :: bks a.fA) V w5 := kk4.mono (fun s hs => .inl (by simp [hs])); have bg5 := HG.out.off kk4 (Off.bks HFl.out.ty (by decide)); have e5 : w5.cell? ⟨a.g, 2, none⟩ = some (.slice a.fA k.fl.length a.fc) := bg5.cell 2; have f5 := bg5.frozen 2; have BG5 := Lib.hid bg5; clear bg5))
       all_goals
        go_wp2_with fail
        go_meet
        obtain ⟨n9, q9, r9, k9⟩ := kbind_fin (x := x) HK.out K0.out HG.out HFl.out HFd.out HR.out k3v o3 hpl hp64 ho5 hk5 hA5
        exact ⟨rfl, _, _, _, rfl, rfl, rfl, Lib.hid n9, Lib.hid q9, Lib.hid r9, k9.size⟩
      case rest =>
        obtain ⟨rfl, A5, c5, y, y1, y2, y3, n9, q9, r9, hz⟩ := hcut
        clear d2 q0 q1
        obtain ⟨s0, s1, f0, f1⟩ := bk2t r9.out
        go_wp2
        obtain ⟨bb, kb⟩ := bk2set r9.out (.int .i64 k.nx) (.slice none 0 0)
        obtain ⟨W9, hW9⟩ : ∃ W9, ((wc.setCell ⟨cb + 1, 0, none⟩ (.int .i64 k.nx)).setCell ⟨cb + 1, 1, none⟩ (.slice none 0 0)) = W9 := ⟨_, rfl⟩
        rw [hW9] at bb kb ⊢
        obtain ⟨g0, g1, _⟩ := bk2t bb
        have hBB := HK.out.hB
        exact bodyPost_ret (v := .tuple #[.agg #[.int .i64 k.nx, .slice none 0 0], .int .i64 0]) (by simp [results, Tryz.results48, go_sem, g0, g1]; try rfl) rfl (H.out k.nx 0 _ _ W9 (Lib.hid (.inr (.inr ⟨by omega, HCK.out, rfl, rfl, y, y1, y2, y3, rfl⟩))) (q9.out.thn kb hBB (by intro s hs; simp at hs; omega)) ⟨n9.out.offA kb (fun e he => Off.one r9.out.ty he), rfl, rfl⟩)
end
end
end Go.Proofs.YtedblbpmlbjnhaaGreat
