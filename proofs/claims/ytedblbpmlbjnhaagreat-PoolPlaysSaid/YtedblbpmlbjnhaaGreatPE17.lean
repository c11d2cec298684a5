/- pantlerref07: Check and number walked. pantlerref07: Run walked. A kernel's calls about frames and blocks. -/
import Derived.Test.YtedblbpmlbjnhaaGreatPE12
import Derived.Test.YtedblbpmlbjnhaaGreatPE16
import Derived.Test.YtedblbpmlbjnhaaGreatPE11
import Derived.Test.YtedblbpmlbjnhaaGreatPE9
import Derived.Test.YtedblbpmlbjnhaaGreatPE15
import Derived.Test.YtedblbpmlbjnhaaGreatPE4
import Derived.Deep.RegionHeldLaw
namespace Go.Proofs.YtedblbpmlbjnhaaGreat
/-! ### pantlerref07: Check and number walked. -/
section
open Go.RowKit Go.Shelf
set_option linter.unusedVariables false
set_option linter.unusedSimpArgs false
set_option maxRecDepth 100000
section
variable {R : Ending → World → Prop} {w : World}
end
end
/-! ### pantlerref07: Run walked. -/
section
open Go.RowKit Go.Shelf
set_option linter.unusedVariables false
set_option linter.unusedSimpArgs false
set_option maxRecDepth 100000
section
variable {R : Ending → World → Prop} {w : World}
end
end
/-! ### A kernel's calls about frames and blocks. -/
section
open Go.RowKit Go.Shelf
set_option linter.unusedVariables false
set_option linter.unusedSimpArgs false
set_option maxRecDepth 100000

/-- A call as the program has it. -/
structure Kc where
  op : Int
  env : Int
  a : Int
  b : Int
  c : Int
  A5 : Option Addr
  n5 : Nat
  c5 : Nat
  s : List UInt8
  A6 : Option Addr
  n6 : Nat
  c6 : Nat
  p : List FOp
  A7 : Option Addr
  n7 : Nat
  c7 : Nat
  l : List Pc
structure Kc.ok (w : World) (x : Kc) : Prop where
  s : Tb w 5 x.A5 (bts x.s)
  sl : x.s.length = x.n5
  sm : x.n5 ≤ 1000000
  s0 : x.A5 = none → x.n5 = 0 ∧ x.c5 = 0
  p : Tb w 128 x.A6 (x.p.flatMap FOp.vals)
  pl : x.p.length = x.n6
  pm : x.n6 ≤ 1000
  p0 : x.A6 = none → x.n6 = 0 ∧ x.c6 = 0
  po : ∀ o ∈ x.p, o.ok
  l : Tb w 187 x.A7 (x.l.flatMap Pc.vals)
  ll : x.l.length = x.n7
  lm : x.n7 ≤ 1000
  l0 : x.A7 = none → x.n7 = 0 ∧ x.c7 = 0
  lo : ∀ q ∈ x.l, q.ok
def Kc.cs (x : Kc) (op : Int) : List Value := [.int .i64 op, .int .i64 x.env, .int .i64 x.a, .int .i64 x.b, .int .i64 x.c, .slice x.A5 x.n5 x.c5, .slice x.A6 x.n6 x.c6, .slice x.A7 x.n7 x.c7]
/-- What a call answers. -/
structure KR where
  n : Int
  l : List UInt8
  e : Int
  k : KS
/-- A call about frames or blocks. -/
def kFB (k : KS) (x : Kc) : KR :=
  if x.op = 1 then ⟨(tAlloc k.fs x.env).1, [], (tAlloc k.fs x.env).2.1, { k with fs := (tAlloc k.fs x.env).2.2 }⟩
  else if x.op = 2 then ⟨0, [], (tFree k.fs x.env x.a).1, { k with fs := (tFree k.fs x.env x.a).2 }⟩
  else if x.op = 3 then ⟨0, [], (tGive k.fs x.env x.a x.b).1, { k with fs := (tGive k.fs x.env x.a x.b).2 }⟩
  else if x.op = 4 then ⟨0, (tRead k.fs x.env x.a x.b x.c).2, (tRead k.fs x.env x.a x.b x.c).1, k⟩
  else if x.op = 5 then ⟨0, [], (tWrite k.fs x.env x.a x.b x.s).1, { k with fs := (tWrite k.fs x.env x.a x.b x.s).2 }⟩
  else if x.op = 6 then ⟨0, (dRead k.d x.env x.a).2, (dRead k.d x.env x.a).1, k⟩
  else if x.op = 7 then ⟨0, [], (dWrite k.d x.env x.a x.s).1, { k with d := (dWrite k.d x.env x.a x.s).2 }⟩
  else ⟨0, [], (dSyncE k.d).1, { k with d := (dSyncE k.d).2 }⟩
section
variable {R : Ending → World → Prop} {w : World} {B m : Nat} {a : KA} {k : KS}
theorem Kn.hB (h : Kn w B a k) : B ≤ w.heap.size := by have := h.new.g; have := h.g.lt; omega
set_option maxHeartbeats 1000000 in
theorem told_any (A : Option Addr) (n c : Nat) (e : Int) (w : World) (h : ∀ w', Kp [] w w' → R (.returned (.tuple #[.agg #[.int .i64 0, .slice A n c], .int .i64 e])) w') : Calls Tryz.prog 51 #[.slice A n c, .int .i64 e] w R := by
  have H := Lib.hid h
  clear h
  go_enter Tryz.func51, Tryz.ntmps51
  go_wp2
  exact bodyPost_ret (v := .tuple #[.agg #[.int .i64 0, .slice A n c], .int .i64 e]) (by simp [results, Tryz.results51, go_sem]; try rfl) rfl (H.out _ ((Kp.refl _ _).alloc _))
set_option maxHeartbeats 4000000 in
theorem kfb_1 (hK : Kn w B a k) (hm : k.cnt m) (hm2 : m ≤ 10000) (x : Kc) (hx : x.ok w) (hop : x.op = 1)
    (h : ∀ n A len cc l e k' a' w', Hid (kFB k x = ⟨n, l, e, k'⟩) → Kq B w w' → (Kn w' B a' k' ∧ a'.g = a.g ∧ a'.bT = a.bT) → l.length = len → Tb w' 5 A (bts l) → R (.returned (.tuple #[.agg #[.int .i64 n, .slice A len cc], .int .i64 e])) w') :
    Calls Tryz.prog 53 #[.pointer (some ⟨a.g, 0, none⟩), .agg #[.int .i64 1, .int .i64 x.env, .int .i64 x.a, .int .i64 x.b, .int .i64 x.c, .slice x.A5 x.n5 x.c5, .slice x.A6 x.n6 x.c6, .slice x.A7 x.n7 x.c7]] w R := by
  have H := Lib.hid h
  have HK := Lib.hid hK
  have HX := Lib.hid hx
  have HM := Lib.hid hm
  have hlm : k.d.ln.length ≤ 1000000 := by have := hm.ln; omega
  clear h hK hx hm
  go_enter Tryz.func53, Tryz.ntmps53
  go_upto_region 3 with (fail)
  refine gen_worldK (fun W => ∃ cb, w.heap.size = cb ∧ Kp [] w W ∧ Bk W cb 45 (x.cs 1) ∧ Bk W (cb + 1) 39 [.int .i64 0, .slice none 0 0]) ⟨_, rfl, ((Kp.refl _ _).alloc _).alloc _, ((Bk.new' _ _ _).alloc _).cast rfl, (Bk.newAt (by simp) _ _).cast rfl⟩ ?_
  rintro W ⟨cb, hcb, kW, bC, bR⟩
  rw [hcb]
  have hb0 : w.heap.size ≤ cb := by omega
  have kn := HK.out.off0 kW
  have KN := Lib.hid kn
  have HL : Hid (∀ e, 239 ≠ e → Off W ([a.bL]) e) := Lib.hid (fun e he => Off.one KN.out.t.l.ty he)
  have HS : Hid (∀ w', Kp (([a.bL]) ++ [cb + 1]) W w' → w'.cell? ⟨a.g, 0, none⟩ = some (.pointer (some ⟨a.bT, 0, none⟩)) ∧ w'.cell? ⟨cb, 1, none⟩ = some (.int .i64 x.env) ∧ w'.cell? ⟨cb, 2, none⟩ = some (.int .i64 x.a) ∧ w'.cell? ⟨cb, 3, none⟩ = some (.int .i64 x.b) ∧ w'.cell? ⟨cb, 4, none⟩ = some (.int .i64 x.c) ∧ w'.cell? ⟨cb, 5, none⟩ = some (.slice x.A5 x.n5 x.c5)) := Lib.hid (fun w' k' => by
    have og : Off W (([a.bL]) ++ [cb + 1]) 114 := Off.app (HL.out _ (by decide)) (Off.one bR.ty (by decide))
    have oc : Off W (([a.bL]) ++ [cb + 1]) 45 := Off.app (HL.out _ (by decide)) (Off.one bR.ty (by decide))
    have hc := bC.off k' oc
    exact ⟨(kn.g.off k' og).cell 0, hc.cell 1, hc.cell 2, hc.cell 3, hc.cell 4, hc.cell 5⟩)
  obtain ⟨q0, q1, q2, q3, q4, q5⟩ := HS.out W (Kp.refl _ _)
  have hrl := bR.lt
  have HRn : Hid (∀ w', Kp ([a.bL]) W w' → Bk w' (cb + 1) 39 [.int .i64 0, .slice none 0 0]) := Lib.hid (fun w' k' => bR.off k' (HL.out _ (by decide)))
  have HXd : Hid (x.ok W) := Lib.hid ⟨HX.out.s.kp kW (Off.nil _ _), HX.out.sl, HX.out.sm, HX.out.s0, HX.out.p.kp kW (Off.nil _ _), HX.out.pl, HX.out.pm, HX.out.p0, HX.out.po, HX.out.l.kp kW (Off.nil _ _), HX.out.ll, HX.out.lm, HX.out.l0, HX.out.lo⟩
  have KW := Lib.hid kW
  obtain ⟨⟨s0, s1⟩, ⟨f0, f1⟩⟩ := bk2 bR
  clear kW bC bR kn hcb
  go_region_held_law (fun w' => w'.cell? ⟨a.g, 0, none⟩ = some (.pointer (some ⟨a.bT, 0, none⟩)) ∧ w'.cell? ⟨cb, 1, none⟩ = some (.int .i64 x.env) ∧ w'.cell? ⟨cb, 2, none⟩ = some (.int .i64 x.a) ∧ w'.cell? ⟨cb, 3, none⟩ = some (.int .i64 x.b) ∧ w'.cell? ⟨cb, 4, none⟩ = some (.int .i64 x.c) ∧ w'.cell? ⟨cb, 5, none⟩ = some (.slice x.A5 x.n5 x.c5)) ((refine HS.out _ ?_; repeat (first | with_reducible exact kk3 | with_reducible exact kk2 | with_reducible exact Kp.refl _ _ | with_reducible refine Kp.drew ?_ | with_reducible refine Kp.setCell ?_ (.inl (by simp)) _))) (first | (go_simp; go_at_call 109; (refine alloc_any (KN.out.t.kp (S := []) (by repeat (first | with_reducible exact Kp.refl _ _ | with_reducible refine Kp.drew ?_)) (by simp) (by simp)) x.env ?_); intro f e fs' w2 hq k2 t2; have kk2 : Kp (([a.bL]) ++ [cb + 1]) W w2 := Kp.trans (by repeat (first | with_reducible exact Kp.refl _ _ | with_reducible refine Kp.drew ?_)) (k2.mono (fun s hs => .inl (List.mem_append_left _ hs))); have r2 := HRn.out w2 (Kp.trans (by repeat (first | with_reducible exact Kp.refl _ _ | with_reducible refine Kp.drew ?_)) k2); obtain ⟨⟨t0, t1⟩, ⟨y0, y1⟩⟩ := bk2 r2) | (go_simp; go_at_call 104; (refine only_any f e _ ?_); intro w3 k3; have kk3 : Kp (([a.bL]) ++ [cb + 1]) W w3 := kk2.trans (k3.mono (by simp)); have r3 := r2.kp k3 (by simp); obtain ⟨⟨u0, u1⟩, ⟨v0, v1⟩⟩ := bk2 r3))
  all_goals
    go_wp2
    obtain ⟨bb, kb⟩ := bk2set r3 (.int .i64 f) (.slice none 0 0)
    have hoA : ∀ e, 39 ≠ e → Off w3 [cb + 1] e := fun e he => Off.one r3.ty he
    obtain ⟨W9, hW9⟩ : ∃ W9, ((w3.setCell ⟨cb + 1, 0, none⟩ (.int .i64 f)).setCell ⟨cb + 1, 1, none⟩ (.slice none 0 0)) = W9 := ⟨_, rfl⟩
    rw [hW9] at bb kb ⊢
    obtain ⟨g0, g1, _⟩ := bk2t bb
    have kF : Kp ([a.bL]) w W9 := (((KW.out.drew.mono (by simp)).thn k2 (fun s hs => .inl hs)).trans (k3.mono (by simp))).thn kb (fun s hs => .inr (by simp at hs; omega))
    have t3 := t2.kp k3 (by simp) (by simp)
    have t9 := t3.kp kb ((hoA _ (by decide)).nin t3.t.ty) ((hoA _ (by decide)).nin t3.l.ty)
    obtain ⟨n9, q9⟩ := HK.out.setT kF t9
    exact bodyPost_ret (v := .tuple #[.agg #[.int .i64 f, .slice none 0 0], .int .i64 e]) (by simp [results, Tryz.results53, go_sem, g0, g1]; try rfl) rfl (H.out f none 0 0 [] e _ _ W9 (by simp [Hid, kFB, hop, hq.out]) q9 ⟨n9, rfl, rfl⟩ rfl Tb.nil)
set_option maxHeartbeats 4000000 in
theorem kfb_2 (hK : Kn w B a k) (hm : k.cnt m) (hm2 : m ≤ 10000) (x : Kc) (hx : x.ok w) (hop : x.op = 2)
    (h : ∀ n A len cc l e k' a' w', Hid (kFB k x = ⟨n, l, e, k'⟩) → Kq B w w' → (Kn w' B a' k' ∧ a'.g = a.g ∧ a'.bT = a.bT) → l.length = len → Tb w' 5 A (bts l) → R (.returned (.tuple #[.agg #[.int .i64 n, .slice A len cc], .int .i64 e])) w') :
    Calls Tryz.prog 53 #[.pointer (some ⟨a.g, 0, none⟩), .agg #[.int .i64 2, .int .i64 x.env, .int .i64 x.a, .int .i64 x.b, .int .i64 x.c, .slice x.A5 x.n5 x.c5, .slice x.A6 x.n6 x.c6, .slice x.A7 x.n7 x.c7]] w R := by
  have H := Lib.hid h
  have HK := Lib.hid hK
  have HX := Lib.hid hx
  have HM := Lib.hid hm
  have hlm : k.d.ln.length ≤ 1000000 := by have := hm.ln; omega
  clear h hK hx hm
  go_enter Tryz.func53, Tryz.ntmps53
  go_upto_region 5 with (fail)
  refine gen_worldK (fun W => ∃ cb, w.heap.size = cb ∧ Kp [] w W ∧ Bk W cb 45 (x.cs 2) ∧ Bk W (cb + 1) 39 [.int .i64 0, .slice none 0 0]) ⟨_, rfl, ((Kp.refl _ _).alloc _).alloc _, ((Bk.new' _ _ _).alloc _).cast rfl, (Bk.newAt (by simp) _ _).cast rfl⟩ ?_
  rintro W ⟨cb, hcb, kW, bC, bR⟩
  rw [hcb]
  have hb0 : w.heap.size ≤ cb := by omega
  have kn := HK.out.off0 kW
  have KN := Lib.hid kn
  have HL : Hid (∀ e, 239 ≠ e → Off W ([a.bL]) e) := Lib.hid (fun e he => Off.one KN.out.t.l.ty he)
  have HS : Hid (∀ w', Kp (([a.bL]) ++ [cb + 1]) W w' → w'.cell? ⟨a.g, 0, none⟩ = some (.pointer (some ⟨a.bT, 0, none⟩)) ∧ w'.cell? ⟨cb, 1, none⟩ = some (.int .i64 x.env) ∧ w'.cell? ⟨cb, 2, none⟩ = some (.int .i64 x.a) ∧ w'.cell? ⟨cb, 3, none⟩ = some (.int .i64 x.b) ∧ w'.cell? ⟨cb, 4, none⟩ = some (.int .i64 x.c) ∧ w'.cell? ⟨cb, 5, none⟩ = some (.slice x.A5 x.n5 x.c5)) := Lib.hid (fun w' k' => by
    have og : Off W (([a.bL]) ++ [cb + 1]) 114 := Off.app (HL.out _ (by decide)) (Off.one bR.ty (by decide))
    have oc : Off W (([a.bL]) ++ [cb + 1]) 45 := Off.app (HL.out _ (by decide)) (Off.one bR.ty (by decide))
    have hc := bC.off k' oc
    exact ⟨(kn.g.off k' og).cell 0, hc.cell 1, hc.cell 2, hc.cell 3, hc.cell 4, hc.cell 5⟩)
  obtain ⟨q0, q1, q2, q3, q4, q5⟩ := HS.out W (Kp.refl _ _)
  have hrl := bR.lt
  have HRn : Hid (∀ w', Kp ([a.bL]) W w' → Bk w' (cb + 1) 39 [.int .i64 0, .slice none 0 0]) := Lib.hid (fun w' k' => bR.off k' (HL.out _ (by decide)))
  have HXd : Hid (x.ok W) := Lib.hid ⟨HX.out.s.kp kW (Off.nil _ _), HX.out.sl, HX.out.sm, HX.out.s0, HX.out.p.kp kW (Off.nil _ _), HX.out.pl, HX.out.pm, HX.out.p0, HX.out.po, HX.out.l.kp kW (Off.nil _ _), HX.out.ll, HX.out.lm, HX.out.l0, HX.out.lo⟩
  have KW := Lib.hid kW
  obtain ⟨⟨s0, s1⟩, ⟨f0, f1⟩⟩ := bk2 bR
  clear kW bC bR kn hcb
  go_region_held_law (fun w' => w'.cell? ⟨a.g, 0, none⟩ = some (.pointer (some ⟨a.bT, 0, none⟩)) ∧ w'.cell? ⟨cb, 1, none⟩ = some (.int .i64 x.env) ∧ w'.cell? ⟨cb, 2, none⟩ = some (.int .i64 x.a) ∧ w'.cell? ⟨cb, 3, none⟩ = some (.int .i64 x.b) ∧ w'.cell? ⟨cb, 4, none⟩ = some (.int .i64 x.c) ∧ w'.cell? ⟨cb, 5, none⟩ = some (.slice x.A5 x.n5 x.c5)) ((refine HS.out _ ?_; repeat (first | with_reducible exact kk3 | with_reducible exact kk2 | with_reducible exact Kp.refl _ _ | with_reducible refine Kp.drew ?_ | with_reducible refine Kp.setCell ?_ (.inl (by simp)) _))) (first | (go_simp; go_at_call 110; (refine free_any (KN.out.t.kp (S := []) (by repeat (first | with_reducible exact Kp.refl _ _ | with_reducible refine Kp.drew ?_)) (by simp) (by simp)) x.env x.a ?_); intro e fs' w2 hq k2 t2; have kk2 : Kp (([a.bL]) ++ [cb + 1]) W w2 := Kp.trans (by repeat (first | with_reducible exact Kp.refl _ _ | with_reducible refine Kp.drew ?_)) (k2.mono (fun s hs => .inl (List.mem_append_left _ hs))); have r2 := HRn.out w2 (Kp.trans (by repeat (first | with_reducible exact Kp.refl _ _ | with_reducible refine Kp.drew ?_)) k2); obtain ⟨⟨t0, t1⟩, ⟨y0, y1⟩⟩ := bk2 r2))
  all_goals
    go_wp2
    obtain ⟨bb, kb⟩ := bk2set r2 (.int .i64 0) (.slice none 0 0)
    have hoA : ∀ e, 39 ≠ e → Off w2 [cb + 1] e := fun e he => Off.one r2.ty he
    obtain ⟨W9, hW9⟩ : ∃ W9, ((w2.setCell ⟨cb + 1, 0, none⟩ (.int .i64 0)).setCell ⟨cb + 1, 1, none⟩ (.slice none 0 0)) = W9 := ⟨_, rfl⟩
    rw [hW9] at bb kb ⊢
    obtain ⟨g0, g1, _⟩ := bk2t bb
    have kF : Kp ([a.bL]) w W9 := (((KW.out.drew.mono (by simp)).thn k2 (fun s hs => .inl hs))).thn kb (fun s hs => .inr (by simp at hs; omega))
    have t9 := t2.kp kb ((hoA _ (by decide)).nin t2.t.ty) ((hoA _ (by decide)).nin t2.l.ty)
    obtain ⟨n9, q9⟩ := HK.out.setT kF t9
    exact bodyPost_ret (v := .tuple #[.agg #[.int .i64 0, .slice none 0 0], .int .i64 e]) (by simp [results, Tryz.results53, go_sem, g0, g1]; try rfl) rfl (H.out 0 none 0 0 [] e _ _ W9 (by simp [Hid, kFB, hop, hq.out]) q9 ⟨n9, rfl, rfl⟩ rfl Tb.nil)
set_option maxHeartbeats 4000000 in
theorem kfb_3 (hK : Kn w B a k) (hm : k.cnt m) (hm2 : m ≤ 10000) (x : Kc) (hx : x.ok w) (hop : x.op = 3)
    (h : ∀ n A len cc l e k' a' w', Hid (kFB k x = ⟨n, l, e, k'⟩) → Kq B w w' → (Kn w' B a' k' ∧ a'.g = a.g ∧ a'.bT = a.bT) → l.length = len → Tb w' 5 A (bts l) → R (.returned (.tuple #[.agg #[.int .i64 n, .slice A len cc], .int .i64 e])) w') :
    Calls Tryz.prog 53 #[.pointer (some ⟨a.g, 0, none⟩), .agg #[.int .i64 3, .int .i64 x.env, .int .i64 x.a, .int .i64 x.b, .int .i64 x.c, .slice x.A5 x.n5 x.c5, .slice x.A6 x.n6 x.c6, .slice x.A7 x.n7 x.c7]] w R := by
  have H := Lib.hid h
  have HK := Lib.hid hK
  have HX := Lib.hid hx
  have HM := Lib.hid hm
  have hlm : k.d.ln.length ≤ 1000000 := by have := hm.ln; omega
  clear h hK hx hm
  go_enter Tryz.func53, Tryz.ntmps53
  go_upto_region 7 with (fail)
  refine gen_worldK (fun W => ∃ cb, w.heap.size = cb ∧ Kp [] w W ∧ Bk W cb 45 (x.cs 3) ∧ Bk W (cb + 1) 39 [.int .i64 0, .slice none 0 0]) ⟨_, rfl, ((Kp.refl _ _).alloc _).alloc _, ((Bk.new' _ _ _).alloc _).cast rfl, (Bk.newAt (by simp) _ _).cast rfl⟩ ?_
  rintro W ⟨cb, hcb, kW, bC, bR⟩
  rw [hcb]
  have hb0 : w.heap.size ≤ cb := by omega
  have kn := HK.out.off0 kW
  have KN := Lib.hid kn
  have HL : Hid (∀ e, 239 ≠ e → Off W ([a.bL]) e) := Lib.hid (fun e he => Off.one KN.out.t.l.ty he)
  have HS : Hid (∀ w', Kp (([a.bL]) ++ [cb + 1]) W w' → w'.cell? ⟨a.g, 0, none⟩ = some (.pointer (some ⟨a.bT, 0, none⟩)) ∧ w'.cell? ⟨cb, 1, none⟩ = some (.int .i64 x.env) ∧ w'.cell? ⟨cb, 2, none⟩ = some (.int .i64 x.a) ∧ w'.cell? ⟨cb, 3, none⟩ = some (.int .i64 x.b) ∧ w'.cell? ⟨cb, 4, none⟩ = some (.int .i64 x.c) ∧ w'.cell? ⟨cb, 5, none⟩ = some (.slice x.A5 x.n5 x.c5)) := Lib.hid (fun w' k' => by
    have og : Off W (([a.bL]) ++ [cb + 1]) 114 := Off.app (HL.out _ (by decide)) (Off.one bR.ty (by decide))
    have oc : Off W (([a.bL]) ++ [cb + 1]) 45 := Off.app (HL.out _ (by decide)) (Off.one bR.ty (by decide))
    have hc := bC.off k' oc
    exact ⟨(kn.g.off k' og).cell 0, hc.cell 1, hc.cell 2, hc.cell 3, hc.cell 4, hc.cell 5⟩)
  obtain ⟨q0, q1, q2, q3, q4, q5⟩ := HS.out W (Kp.refl _ _)
  have hrl := bR.lt
  have HRn : Hid (∀ w', Kp ([a.bL]) W w' → Bk w' (cb + 1) 39 [.int .i64 0, .slice none 0 0]) := Lib.hid (fun w' k' => bR.off k' (HL.out _ (by decide)))
  have HXd : Hid (x.ok W) := Lib.hid ⟨HX.out.s.kp kW (Off.nil _ _), HX.out.sl, HX.out.sm, HX.out.s0, HX.out.p.kp kW (Off.nil _ _), HX.out.pl, HX.out.pm, HX.out.p0, HX.out.po, HX.out.l.kp kW (Off.nil _ _), HX.out.ll, HX.out.lm, HX.out.l0, HX.out.lo⟩
  have KW := Lib.hid kW
  obtain ⟨⟨s0, s1⟩, ⟨f0, f1⟩⟩ := bk2 bR
  clear kW bC bR kn hcb
  go_region_held_law (fun w' => w'.cell? ⟨a.g, 0, none⟩ = some (.pointer (some ⟨a.bT, 0, none⟩)) ∧ w'.cell? ⟨cb, 1, none⟩ = some (.int .i64 x.env) ∧ w'.cell? ⟨cb, 2, none⟩ = some (.int .i64 x.a) ∧ w'.cell? ⟨cb, 3, none⟩ = some (.int .i64 x.b) ∧ w'.cell? ⟨cb, 4, none⟩ = some (.int .i64 x.c) ∧ w'.cell? ⟨cb, 5, none⟩ = some (.slice x.A5 x.n5 x.c5)) ((refine HS.out _ ?_; repeat (first | with_reducible exact kk3 | with_reducible exact kk2 | with_reducible exact Kp.refl _ _ | with_reducible refine Kp.drew ?_ | with_reducible refine Kp.setCell ?_ (.inl (by simp)) _))) (first | (go_simp; go_at_call 111; (refine give_any (KN.out.t.kp (S := []) (by repeat (first | with_reducible exact Kp.refl _ _ | with_reducible refine Kp.drew ?_)) (by simp) (by simp)) x.env x.a x.b ?_); intro e fs' w2 hq k2 t2; have kk2 : Kp (([a.bL]) ++ [cb + 1]) W w2 := Kp.trans (by repeat (first | with_reducible exact Kp.refl _ _ | with_reducible refine Kp.drew ?_)) (k2.mono (fun s hs => .inl (List.mem_append_left _ hs))); have r2 := HRn.out w2 (Kp.trans (by repeat (first | with_reducible exact Kp.refl _ _ | with_reducible refine Kp.drew ?_)) k2); obtain ⟨⟨t0, t1⟩, ⟨y0, y1⟩⟩ := bk2 r2))
  all_goals
    go_wp2
    obtain ⟨bb, kb⟩ := bk2set r2 (.int .i64 0) (.slice none 0 0)
    have hoA : ∀ e, 39 ≠ e → Off w2 [cb + 1] e := fun e he => Off.one r2.ty he
    obtain ⟨W9, hW9⟩ : ∃ W9, ((w2.setCell ⟨cb + 1, 0, none⟩ (.int .i64 0)).setCell ⟨cb + 1, 1, none⟩ (.slice none 0 0)) = W9 := ⟨_, rfl⟩
    rw [hW9] at bb kb ⊢
    obtain ⟨g0, g1, _⟩ := bk2t bb
    have kF : Kp ([a.bL]) w W9 := (((KW.out.drew.mono (by simp)).thn k2 (fun s hs => .inl hs))).thn kb (fun s hs => .inr (by simp at hs; omega))
    have t9 := t2.kp kb ((hoA _ (by decide)).nin t2.t.ty) ((hoA _ (by decide)).nin t2.l.ty)
    obtain ⟨n9, q9⟩ := HK.out.setT kF t9
    exact bodyPost_ret (v := .tuple #[.agg #[.int .i64 0, .slice none 0 0], .int .i64 e]) (by simp [results, Tryz.results53, go_sem, g0, g1]; try rfl) rfl (H.out 0 none 0 0 [] e _ _ W9 (by simp [Hid, kFB, hop, hq.out]) q9 ⟨n9, rfl, rfl⟩ rfl Tb.nil)
set_option maxHeartbeats 4000000 in
theorem kfb_4 (hK : Kn w B a k) (hm : k.cnt m) (hm2 : m ≤ 10000) (x : Kc) (hx : x.ok w) (hop : x.op = 4)
    (h : ∀ n A len cc l e k' a' w', Hid (kFB k x = ⟨n, l, e, k'⟩) → Kq B w w' → (Kn w' B a' k' ∧ a'.g = a.g ∧ a'.bT = a.bT) → l.length = len → Tb w' 5 A (bts l) → R (.returned (.tuple #[.agg #[.int .i64 n, .slice A len cc], .int .i64 e])) w') :
    Calls Tryz.prog 53 #[.pointer (some ⟨a.g, 0, none⟩), .agg #[.int .i64 4, .int .i64 x.env, .int .i64 x.a, .int .i64 x.b, .int .i64 x.c, .slice x.A5 x.n5 x.c5, .slice x.A6 x.n6 x.c6, .slice x.A7 x.n7 x.c7]] w R := by
  have H := Lib.hid h
  have HK := Lib.hid hK
  have HX := Lib.hid hx
  have HM := Lib.hid hm
  have hlm : k.d.ln.length ≤ 1000000 := by have := hm.ln; omega
  clear h hK hx hm
  go_enter Tryz.func53, Tryz.ntmps53
  go_upto_region 9 with (fail)
  refine gen_worldK (fun W => ∃ cb, w.heap.size = cb ∧ Kp [] w W ∧ Bk W cb 45 (x.cs 4) ∧ Bk W (cb + 1) 39 [.int .i64 0, .slice none 0 0]) ⟨_, rfl, ((Kp.refl _ _).alloc _).alloc _, ((Bk.new' _ _ _).alloc _).cast rfl, (Bk.newAt (by simp) _ _).cast rfl⟩ ?_
  rintro W ⟨cb, hcb, kW, bC, bR⟩
  rw [hcb]
  have hb0 : w.heap.size ≤ cb := by omega
  have kn := HK.out.off0 kW
  have KN := Lib.hid kn
  have HL : Hid (∀ e, True → Off W (([] : List Nat)) e) := Lib.hid (fun e _ => Off.nil _ _)
  have HS : Hid (∀ w', Kp ((([] : List Nat)) ++ [cb + 1]) W w' → w'.cell? ⟨a.g, 0, none⟩ = some (.pointer (some ⟨a.bT, 0, none⟩)) ∧ w'.cell? ⟨cb, 1, none⟩ = some (.int .i64 x.env) ∧ w'.cell? ⟨cb, 2, none⟩ = some (.int .i64 x.a) ∧ w'.cell? ⟨cb, 3, none⟩ = some (.int .i64 x.b) ∧ w'.cell? ⟨cb, 4, none⟩ = some (.int .i64 x.c) ∧ w'.cell? ⟨cb, 5, none⟩ = some (.slice x.A5 x.n5 x.c5)) := Lib.hid (fun w' k' => by
    have og : Off W ((([] : List Nat)) ++ [cb + 1]) 114 := Off.app (HL.out _ trivial) (Off.one bR.ty (by decide))
    have oc : Off W ((([] : List Nat)) ++ [cb + 1]) 45 := Off.app (HL.out _ trivial) (Off.one bR.ty (by decide))
    have hc := bC.off k' oc
    exact ⟨(kn.g.off k' og).cell 0, hc.cell 1, hc.cell 2, hc.cell 3, hc.cell 4, hc.cell 5⟩)
  obtain ⟨q0, q1, q2, q3, q4, q5⟩ := HS.out W (Kp.refl _ _)
  have hrl := bR.lt
  have HRn : Hid (∀ w', Kp (([] : List Nat)) W w' → Bk w' (cb + 1) 39 [.int .i64 0, .slice none 0 0]) := Lib.hid (fun w' k' => bR.off k' (HL.out _ trivial))
  have HXd : Hid (x.ok W) := Lib.hid ⟨HX.out.s.kp kW (Off.nil _ _), HX.out.sl, HX.out.sm, HX.out.s0, HX.out.p.kp kW (Off.nil _ _), HX.out.pl, HX.out.pm, HX.out.p0, HX.out.po, HX.out.l.kp kW (Off.nil _ _), HX.out.ll, HX.out.lm, HX.out.l0, HX.out.lo⟩
  have KW := Lib.hid kW
  obtain ⟨⟨s0, s1⟩, ⟨f0, f1⟩⟩ := bk2 bR
  clear kW bC bR kn hcb
  go_region_held_law (fun w' => w'.cell? ⟨a.g, 0, none⟩ = some (.pointer (some ⟨a.bT, 0, none⟩)) ∧ w'.cell? ⟨cb, 1, none⟩ = some (.int .i64 x.env) ∧ w'.cell? ⟨cb, 2, none⟩ = some (.int .i64 x.a) ∧ w'.cell? ⟨cb, 3, none⟩ = some (.int .i64 x.b) ∧ w'.cell? ⟨cb, 4, none⟩ = some (.int .i64 x.c) ∧ w'.cell? ⟨cb, 5, none⟩ = some (.slice x.A5 x.n5 x.c5)) ((refine HS.out _ ?_; repeat (first | with_reducible exact kk3 | with_reducible exact kk2 | with_reducible exact Kp.refl _ _ | with_reducible refine Kp.drew ?_ | with_reducible refine Kp.setCell ?_ (.inl (by simp)) _))) (first | (go_simp; go_at_call 72; (refine read_any (KN.out.t.kp (S := []) (by repeat (first | with_reducible exact Kp.refl _ _ | with_reducible refine Kp.drew ?_)) (by simp) (by simp)) x.env x.a x.b x.c ?_); intro e l A cc w2 hq k2 o2 b2; have kk2 : Kp ((([] : List Nat)) ++ [cb + 1]) W w2 := Kp.trans (by repeat (first | with_reducible exact Kp.refl _ _ | with_reducible refine Kp.drew ?_)) (k2.mono (fun s hs => .inl (List.mem_append_left _ hs))); have r2 := HRn.out w2 (Kp.trans (by repeat (first | with_reducible exact Kp.refl _ _ | with_reducible refine Kp.drew ?_)) k2); obtain ⟨⟨t0, t1⟩, ⟨y0, y1⟩⟩ := bk2 r2) | (go_simp; go_at_call 51; (refine told_any A l.length cc e _ ?_); intro w3 k3; have kk3 : Kp ((([] : List Nat)) ++ [cb + 1]) W w3 := kk2.trans (k3.mono (by simp)); have r3 := r2.kp k3 (by simp); obtain ⟨⟨u0, u1⟩, ⟨v0, v1⟩⟩ := bk2 r3))
  all_goals
    go_wp2
    obtain ⟨bb, kb⟩ := bk2set r3 (.int .i64 0) (.slice A l.length cc)
    have hoA : ∀ e, 39 ≠ e → Off w3 [cb + 1] e := fun e he => Off.one r3.ty he
    obtain ⟨W9, hW9⟩ : ∃ W9, ((w3.setCell ⟨cb + 1, 0, none⟩ (.int .i64 0)).setCell ⟨cb + 1, 1, none⟩ (.slice A l.length cc)) = W9 := ⟨_, rfl⟩
    rw [hW9] at bb kb ⊢
    obtain ⟨g0, g1, _⟩ := bk2t bb
    have kF : Kp (([] : List Nat)) w W9 := (((KW.out.drew.mono (by simp)).thn k2 (fun s hs => .inl hs)).trans (k3.mono (by simp))).thn kb (fun s hs => .inr (by simp at hs; omega))
    have o9 := ((o2.tb).kp k3 (Off.nil _ _)).kp kb (hoA _ (by decide))
    exact bodyPost_ret (v := .tuple #[.agg #[.int .i64 0, .slice A l.length cc], .int .i64 e]) (by simp [results, Tryz.results53, go_sem, g0, g1]; try rfl) rfl (H.out 0 A l.length cc l e k a W9 (by simp [Hid, kFB, hop, hq.out]) (Kq.of0 kF) ⟨HK.out.off0 kF, rfl, rfl⟩ rfl o9)
set_option maxHeartbeats 4000000 in
theorem kfb_5 (hK : Kn w B a k) (hm : k.cnt m) (hm2 : m ≤ 10000) (x : Kc) (hx : x.ok w) (hop : x.op = 5)
    (h : ∀ n A len cc l e k' a' w', Hid (kFB k x = ⟨n, l, e, k'⟩) → Kq B w w' → (Kn w' B a' k' ∧ a'.g = a.g ∧ a'.bT = a.bT) → l.length = len → Tb w' 5 A (bts l) → R (.returned (.tuple #[.agg #[.int .i64 n, .slice A len cc], .int .i64 e])) w') :
    Calls Tryz.prog 53 #[.pointer (some ⟨a.g, 0, none⟩), .agg #[.int .i64 5, .int .i64 x.env, .int .i64 x.a, .int .i64 x.b, .int .i64 x.c, .slice x.A5 x.n5 x.c5, .slice x.A6 x.n6 x.c6, .slice x.A7 x.n7 x.c7]] w R := by
  have H := Lib.hid h
  have HK := Lib.hid hK
  have HX := Lib.hid hx
  have HM := Lib.hid hm
  have hlm : k.d.ln.length ≤ 1000000 := by have := hm.ln; omega
  clear h hK hx hm
  go_enter Tryz.func53, Tryz.ntmps53
  go_upto_region 10 with (fail)
  refine gen_worldK (fun W => ∃ cb, w.heap.size = cb ∧ Kp [] w W ∧ Bk W cb 45 (x.cs 5) ∧ Bk W (cb + 1) 39 [.int .i64 0, .slice none 0 0]) ⟨_, rfl, ((Kp.refl _ _).alloc _).alloc _, ((Bk.new' _ _ _).alloc _).cast rfl, (Bk.newAt (by simp) _ _).cast rfl⟩ ?_
  rintro W ⟨cb, hcb, kW, bC, bR⟩
  rw [hcb]
  have hb0 : w.heap.size ≤ cb := by omega
  have kn := HK.out.off0 kW
  have KN := Lib.hid kn
  have HL : Hid (∀ e, 239 ≠ e → Off W ([a.bL]) e) := Lib.hid (fun e he => Off.one KN.out.t.l.ty he)
  have HS : Hid (∀ w', Kp (([a.bL]) ++ [cb + 1]) W w' → w'.cell? ⟨a.g, 0, none⟩ = some (.pointer (some ⟨a.bT, 0, none⟩)) ∧ w'.cell? ⟨cb, 1, none⟩ = some (.int .i64 x.env) ∧ w'.cell? ⟨cb, 2, none⟩ = some (.int .i64 x.a) ∧ w'.cell? ⟨cb, 3, none⟩ = some (.int .i64 x.b) ∧ w'.cell? ⟨cb, 4, none⟩ = some (.int .i64 x.c) ∧ w'.cell? ⟨cb, 5, none⟩ = some (.slice x.A5 x.n5 x.c5)) := Lib.hid (fun w' k' => by
    have og : Off W (([a.bL]) ++ [cb + 1]) 114 := Off.app (HL.out _ (by decide)) (Off.one bR.ty (by decide))
    have oc : Off W (([a.bL]) ++ [cb + 1]) 45 := Off.app (HL.out _ (by decide)) (Off.one bR.ty (by decide))
    have hc := bC.off k' oc
    exact ⟨(kn.g.off k' og).cell 0, hc.cell 1, hc.cell 2, hc.cell 3, hc.cell 4, hc.cell 5⟩)
  obtain ⟨q0, q1, q2, q3, q4, q5⟩ := HS.out W (Kp.refl _ _)
  have hrl := bR.lt
  have HRn : Hid (∀ w', Kp ([a.bL]) W w' → Bk w' (cb + 1) 39 [.int .i64 0, .slice none 0 0]) := Lib.hid (fun w' k' => bR.off k' (HL.out _ (by decide)))
  have HXd : Hid (x.ok W) := Lib.hid ⟨HX.out.s.kp kW (Off.nil _ _), HX.out.sl, HX.out.sm, HX.out.s0, HX.out.p.kp kW (Off.nil _ _), HX.out.pl, HX.out.pm, HX.out.p0, HX.out.po, HX.out.l.kp kW (Off.nil _ _), HX.out.ll, HX.out.lm, HX.out.l0, HX.out.lo⟩
  have KW := Lib.hid kW
  obtain ⟨⟨s0, s1⟩, ⟨f0, f1⟩⟩ := bk2 bR
  clear kW bC bR kn hcb
  go_region_held_law (fun w' => w'.cell? ⟨a.g, 0, none⟩ = some (.pointer (some ⟨a.bT, 0, none⟩)) ∧ w'.cell? ⟨cb, 1, none⟩ = some (.int .i64 x.env) ∧ w'.cell? ⟨cb, 2, none⟩ = some (.int .i64 x.a) ∧ w'.cell? ⟨cb, 3, none⟩ = some (.int .i64 x.b) ∧ w'.cell? ⟨cb, 4, none⟩ = some (.int .i64 x.c) ∧ w'.cell? ⟨cb, 5, none⟩ = some (.slice x.A5 x.n5 x.c5)) ((refine HS.out _ ?_; repeat (first | with_reducible exact kk3 | with_reducible exact kk2 | with_reducible exact Kp.refl _ _ | with_reducible refine Kp.drew ?_ | with_reducible refine Kp.setCell ?_ (.inl (by simp)) _))) (first | (go_simp; go_at_call 112; (refine write_any (KN.out.t.kp (S := []) (by repeat (first | with_reducible exact Kp.refl _ _ | with_reducible refine Kp.drew ?_)) (by simp) (by simp)) x.env x.a x.b ((HXd.out.s.kp (by repeat (first | with_reducible exact Kp.refl _ _ | with_reducible refine Kp.drew ?_)) (Off.nil _ _)).rd (HL.out _ (by decide))) HXd.out.sl HXd.out.sm HXd.out.s0 ?_); intro e fs' w2 hq k2 t2; have kk2 : Kp (([a.bL]) ++ [cb + 1]) W w2 := Kp.trans (by repeat (first | with_reducible exact Kp.refl _ _ | with_reducible refine Kp.drew ?_)) (k2.mono (fun s hs => .inl (List.mem_append_left _ hs))); have r2 := HRn.out w2 (Kp.trans (by repeat (first | with_reducible exact Kp.refl _ _ | with_reducible refine Kp.drew ?_)) k2); obtain ⟨⟨t0, t1⟩, ⟨y0, y1⟩⟩ := bk2 r2))
  all_goals
    go_wp2
    obtain ⟨bb, kb⟩ := bk2set r2 (.int .i64 0) (.slice none 0 0)
    have hoA : ∀ e, 39 ≠ e → Off w2 [cb + 1] e := fun e he => Off.one r2.ty he
    obtain ⟨W9, hW9⟩ : ∃ W9, ((w2.setCell ⟨cb + 1, 0, none⟩ (.int .i64 0)).setCell ⟨cb + 1, 1, none⟩ (.slice none 0 0)) = W9 := ⟨_, rfl⟩
    rw [hW9] at bb kb ⊢
    obtain ⟨g0, g1, _⟩ := bk2t bb
    have kF : Kp ([a.bL]) w W9 := (((KW.out.drew.mono (by simp)).thn k2 (fun s hs => .inl hs))).thn kb (fun s hs => .inr (by simp at hs; omega))
    have t9 := t2.kp kb ((hoA _ (by decide)).nin t2.t.ty) ((hoA _ (by decide)).nin t2.l.ty)
    obtain ⟨n9, q9⟩ := HK.out.setT kF t9
    exact bodyPost_ret (v := .tuple #[.agg #[.int .i64 0, .slice none 0 0], .int .i64 e]) (by simp [results, Tryz.results53, go_sem, g0, g1]; try rfl) rfl (H.out 0 none 0 0 [] e _ _ W9 (by simp [Hid, kFB, hop, hq.out]) q9 ⟨n9, rfl, rfl⟩ rfl Tb.nil)
set_option maxHeartbeats 4000000 in
theorem kfb_6 (hK : Kn w B a k) (hm : k.cnt m) (hm2 : m ≤ 10000) (x : Kc) (hx : x.ok w) (hop : x.op = 6)
    (h : ∀ n A len cc l e k' a' w', Hid (kFB k x = ⟨n, l, e, k'⟩) → Kq B w w' → (Kn w' B a' k' ∧ a'.g = a.g ∧ a'.bT = a.bT) → l.length = len → Tb w' 5 A (bts l) → R (.returned (.tuple #[.agg #[.int .i64 n, .slice A len cc], .int .i64 e])) w') :
    Calls Tryz.prog 47 #[.pointer (some ⟨a.g, 0, none⟩), .agg #[.int .i64 6, .int .i64 x.env, .int .i64 x.a, .int .i64 x.b, .int .i64 x.c, .slice x.A5 x.n5 x.c5, .slice x.A6 x.n6 x.c6, .slice x.A7 x.n7 x.c7]] w R := by
  have H := Lib.hid h
  have HK := Lib.hid hK
  have HX := Lib.hid hx
  have HM := Lib.hid hm
  have hlm : k.d.ln.length ≤ 1000000 := by have := hm.ln; omega
  clear h hK hx hm
  go_enter Tryz.func47, Tryz.ntmps47
  go_upto_region 3 with (fail)
  refine gen_worldK (fun W => ∃ cb, w.heap.size = cb ∧ Kp [] w W ∧ Bk W cb 45 (x.cs 6) ∧ Bk W (cb + 1) 39 [.int .i64 0, .slice none 0 0]) ⟨_, rfl, ((Kp.refl _ _).alloc _).alloc _, ((Bk.new' _ _ _).alloc _).cast rfl, (Bk.newAt (by simp) _ _).cast rfl⟩ ?_
  rintro W ⟨cb, hcb, kW, bC, bR⟩
  rw [hcb]
  have hb0 : w.heap.size ≤ cb := by omega
  have kn := HK.out.off0 kW
  have KN := Lib.hid kn
  have HL : Hid (∀ e, True → Off W (([] : List Nat)) e) := Lib.hid (fun e _ => Off.nil _ _)
  have HS : Hid (∀ w', Kp ((([] : List Nat)) ++ [cb + 1]) W w' → w'.cell? ⟨a.g, 1, none⟩ = some (.pointer (some ⟨a.bD, 0, none⟩)) ∧ w'.cell? ⟨cb, 1, none⟩ = some (.int .i64 x.env) ∧ w'.cell? ⟨cb, 2, none⟩ = some (.int .i64 x.a) ∧ w'.cell? ⟨cb, 3, none⟩ = some (.int .i64 x.b) ∧ w'.cell? ⟨cb, 4, none⟩ = some (.int .i64 x.c) ∧ w'.cell? ⟨cb, 5, none⟩ = some (.slice x.A5 x.n5 x.c5)) := Lib.hid (fun w' k' => by
    have og : Off W ((([] : List Nat)) ++ [cb + 1]) 114 := Off.app (HL.out _ trivial) (Off.one bR.ty (by decide))
    have oc : Off W ((([] : List Nat)) ++ [cb + 1]) 45 := Off.app (HL.out _ trivial) (Off.one bR.ty (by decide))
    have hc := bC.off k' oc
    exact ⟨(kn.g.off k' og).cell 1, hc.cell 1, hc.cell 2, hc.cell 3, hc.cell 4, hc.cell 5⟩)
  obtain ⟨q0, q1, q2, q3, q4, q5⟩ := HS.out W (Kp.refl _ _)
  have hrl := bR.lt
  have HRn : Hid (∀ w', Kp (([] : List Nat)) W w' → Bk w' (cb + 1) 39 [.int .i64 0, .slice none 0 0]) := Lib.hid (fun w' k' => bR.off k' (HL.out _ trivial))
  have HXd : Hid (x.ok W) := Lib.hid ⟨HX.out.s.kp kW (Off.nil _ _), HX.out.sl, HX.out.sm, HX.out.s0, HX.out.p.kp kW (Off.nil _ _), HX.out.pl, HX.out.pm, HX.out.p0, HX.out.po, HX.out.l.kp kW (Off.nil _ _), HX.out.ll, HX.out.lm, HX.out.l0, HX.out.lo⟩
  have KW := Lib.hid kW
  obtain ⟨⟨s0, s1⟩, ⟨f0, f1⟩⟩ := bk2 bR
  clear kW bC bR kn hcb
  go_region_held_law (fun w' => w'.cell? ⟨a.g, 1, none⟩ = some (.pointer (some ⟨a.bD, 0, none⟩)) ∧ w'.cell? ⟨cb, 1, none⟩ = some (.int .i64 x.env) ∧ w'.cell? ⟨cb, 2, none⟩ = some (.int .i64 x.a) ∧ w'.cell? ⟨cb, 3, none⟩ = some (.int .i64 x.b) ∧ w'.cell? ⟨cb, 4, none⟩ = some (.int .i64 x.c) ∧ w'.cell? ⟨cb, 5, none⟩ = some (.slice x.A5 x.n5 x.c5)) ((refine HS.out _ ?_; repeat (first | with_reducible exact kk3 | with_reducible exact kk2 | with_reducible exact Kp.refl _ _ | with_reducible refine Kp.drew ?_ | with_reducible refine Kp.setCell ?_ (.inl (by simp)) _))) (first | (go_simp; go_at_call 94; (refine dread_any (KN.out.off0 (by repeat (first | with_reducible exact Kp.refl _ _ | with_reducible refine Kp.drew ?_))).d hlm x.env x.a ?_); intro e l A cc w2 hq k2 o2 b2; have kk2 : Kp ((([] : List Nat)) ++ [cb + 1]) W w2 := Kp.trans (by repeat (first | with_reducible exact Kp.refl _ _ | with_reducible refine Kp.drew ?_)) (k2.mono (fun s hs => .inl (List.mem_append_left _ hs))); have r2 := HRn.out w2 (Kp.trans (by repeat (first | with_reducible exact Kp.refl _ _ | with_reducible refine Kp.drew ?_)) k2); obtain ⟨⟨t0, t1⟩, ⟨y0, y1⟩⟩ := bk2 r2) | (go_simp; go_at_call 51; (refine told_any A l.length cc e _ ?_); intro w3 k3; have kk3 : Kp ((([] : List Nat)) ++ [cb + 1]) W w3 := kk2.trans (k3.mono (by simp)); have r3 := r2.kp k3 (by simp); obtain ⟨⟨u0, u1⟩, ⟨v0, v1⟩⟩ := bk2 r3))
  all_goals
    go_wp2
    obtain ⟨bb, kb⟩ := bk2set r3 (.int .i64 0) (.slice A l.length cc)
    have hoA : ∀ e, 39 ≠ e → Off w3 [cb + 1] e := fun e he => Off.one r3.ty he
    obtain ⟨W9, hW9⟩ : ∃ W9, ((w3.setCell ⟨cb + 1, 0, none⟩ (.int .i64 0)).setCell ⟨cb + 1, 1, none⟩ (.slice A l.length cc)) = W9 := ⟨_, rfl⟩
    rw [hW9] at bb kb ⊢
    obtain ⟨g0, g1, _⟩ := bk2t bb
    have kF : Kp (([] : List Nat)) w W9 := (((KW.out.drew.mono (by simp)).thn k2 (fun s hs => .inl hs)).trans (k3.mono (by simp))).thn kb (fun s hs => .inr (by simp at hs; omega))
    have o9 := ((o2.tb).kp k3 (Off.nil _ _)).kp kb (hoA _ (by decide))
    exact bodyPost_ret (v := .tuple #[.agg #[.int .i64 0, .slice A l.length cc], .int .i64 e]) (by simp [results, Tryz.results47, go_sem, g0, g1]; try rfl) rfl (H.out 0 A l.length cc l e k a W9 (by simp [Hid, kFB, hop, hq.out]) (Kq.of0 kF) ⟨HK.out.off0 kF, rfl, rfl⟩ rfl o9)
set_option maxHeartbeats 4000000 in
theorem kfb_7 (hK : Kn w B a k) (hm : k.cnt m) (hm2 : m ≤ 10000) (x : Kc) (hx : x.ok w) (hop : x.op = 7)
    (h : ∀ n A len cc l e k' a' w', Hid (kFB k x = ⟨n, l, e, k'⟩) → Kq B w w' → (Kn w' B a' k' ∧ a'.g = a.g ∧ a'.bT = a.bT) → l.length = len → Tb w' 5 A (bts l) → R (.returned (.tuple #[.agg #[.int .i64 n, .slice A len cc], .int .i64 e])) w') :
    Calls Tryz.prog 47 #[.pointer (some ⟨a.g, 0, none⟩), .agg #[.int .i64 7, .int .i64 x.env, .int .i64 x.a, .int .i64 x.b, .int .i64 x.c, .slice x.A5 x.n5 x.c5, .slice x.A6 x.n6 x.c6, .slice x.A7 x.n7 x.c7]] w R := by
  have H := Lib.hid h
  have HK := Lib.hid hK
  have HX := Lib.hid hx
  have HM := Lib.hid hm
  have hlm : k.d.ln.length ≤ 1000000 := by have := hm.ln; omega
  clear h hK hx hm
  go_enter Tryz.func47, Tryz.ntmps47
  go_upto_region 5 with (fail)
  refine gen_worldK (fun W => ∃ cb, w.heap.size = cb ∧ Kp [] w W ∧ Bk W cb 45 (x.cs 7) ∧ Bk W (cb + 1) 39 [.int .i64 0, .slice none 0 0]) ⟨_, rfl, ((Kp.refl _ _).alloc _).alloc _, ((Bk.new' _ _ _).alloc _).cast rfl, (Bk.newAt (by simp) _ _).cast rfl⟩ ?_
  rintro W ⟨cb, hcb, kW, bC, bR⟩
  rw [hcb]
  have hb0 : w.heap.size ≤ cb := by omega
  have kn := HK.out.off0 kW
  have KN := Lib.hid kn
  have HL : Hid (∀ e, 163 ≠ e → 247 ≠ e → Off W ((a.bD :: bks a.dA)) e) := Lib.hid (fun e h1 h2 => Off.app (S := [a.bD]) (Off.one KN.out.d.dd.ty h1) (Off.bks KN.out.d.ln.ty h2))
  have HS : Hid (∀ w', Kp (((a.bD :: bks a.dA)) ++ [cb + 1]) W w' → w'.cell? ⟨a.g, 1, none⟩ = some (.pointer (some ⟨a.bD, 0, none⟩)) ∧ w'.cell? ⟨cb, 1, none⟩ = some (.int .i64 x.env) ∧ w'.cell? ⟨cb, 2, none⟩ = some (.int .i64 x.a) ∧ w'.cell? ⟨cb, 3, none⟩ = some (.int .i64 x.b) ∧ w'.cell? ⟨cb, 4, none⟩ = some (.int .i64 x.c) ∧ w'.cell? ⟨cb, 5, none⟩ = some (.slice x.A5 x.n5 x.c5)) := Lib.hid (fun w' k' => by
    have og : Off W (((a.bD :: bks a.dA)) ++ [cb + 1]) 114 := Off.app (HL.out _ (by decide) (by decide)) (Off.one bR.ty (by decide))
    have oc : Off W (((a.bD :: bks a.dA)) ++ [cb + 1]) 45 := Off.app (HL.out _ (by decide) (by decide)) (Off.one bR.ty (by decide))
    have hc := bC.off k' oc
    exact ⟨(kn.g.off k' og).cell 1, hc.cell 1, hc.cell 2, hc.cell 3, hc.cell 4, hc.cell 5⟩)
  obtain ⟨q0, q1, q2, q3, q4, q5⟩ := HS.out W (Kp.refl _ _)
  have hrl := bR.lt
  have HRn : Hid (∀ w', Kp ((a.bD :: bks a.dA)) W w' → Bk w' (cb + 1) 39 [.int .i64 0, .slice none 0 0]) := Lib.hid (fun w' k' => bR.off k' (HL.out _ (by decide) (by decide)))
  have HXd : Hid (x.ok W) := Lib.hid ⟨HX.out.s.kp kW (Off.nil _ _), HX.out.sl, HX.out.sm, HX.out.s0, HX.out.p.kp kW (Off.nil _ _), HX.out.pl, HX.out.pm, HX.out.p0, HX.out.po, HX.out.l.kp kW (Off.nil _ _), HX.out.ll, HX.out.lm, HX.out.l0, HX.out.lo⟩
  have KW := Lib.hid kW
  obtain ⟨⟨s0, s1⟩, ⟨f0, f1⟩⟩ := bk2 bR
  clear kW bC bR kn hcb
  go_region_held_law (fun w' => w'.cell? ⟨a.g, 1, none⟩ = some (.pointer (some ⟨a.bD, 0, none⟩)) ∧ w'.cell? ⟨cb, 1, none⟩ = some (.int .i64 x.env) ∧ w'.cell? ⟨cb, 2, none⟩ = some (.int .i64 x.a) ∧ w'.cell? ⟨cb, 3, none⟩ = some (.int .i64 x.b) ∧ w'.cell? ⟨cb, 4, none⟩ = some (.int .i64 x.c) ∧ w'.cell? ⟨cb, 5, none⟩ = some (.slice x.A5 x.n5 x.c5)) ((refine HS.out _ ?_; repeat (first | with_reducible exact kk3 | with_reducible exact kk2 | with_reducible exact Kp.refl _ _ | with_reducible refine Kp.drew ?_ | with_reducible refine Kp.setCell ?_ (.inl (by simp)) _))) (first | (go_simp; go_at_call 95; (refine dwrite_any (KN.out.off0 (by repeat (first | with_reducible exact Kp.refl _ _ | with_reducible refine Kp.drew ?_))).d hlm x.env x.a (HXd.out.s.kp (by repeat (first | with_reducible exact Kp.refl _ _ | with_reducible refine Kp.drew ?_)) (Off.nil _ _)) HXd.out.sl HXd.out.sm ?_); intro e A' c' d' w2 hq k2 d2 a2; have kk2 : Kp (((a.bD :: bks a.dA)) ++ [cb + 1]) W w2 := Kp.trans (by repeat (first | with_reducible exact Kp.refl _ _ | with_reducible refine Kp.drew ?_)) (k2.mono (fun s hs => .inl (List.mem_append_left _ hs))); have r2 := HRn.out w2 (Kp.trans (by repeat (first | with_reducible exact Kp.refl _ _ | with_reducible refine Kp.drew ?_)) k2); obtain ⟨⟨t0, t1⟩, ⟨y0, y1⟩⟩ := bk2 r2))
  all_goals
    go_wp2
    obtain ⟨bb, kb⟩ := bk2set r2 (.int .i64 0) (.slice none 0 0)
    have hoA : ∀ e, 39 ≠ e → Off w2 [cb + 1] e := fun e he => Off.one r2.ty he
    obtain ⟨W9, hW9⟩ : ∃ W9, ((w2.setCell ⟨cb + 1, 0, none⟩ (.int .i64 0)).setCell ⟨cb + 1, 1, none⟩ (.slice none 0 0)) = W9 := ⟨_, rfl⟩
    rw [hW9] at bb kb ⊢
    obtain ⟨g0, g1, _⟩ := bk2t bb
    have kF : Kp ((a.bD :: bks a.dA)) w W9 := (((KW.out.drew.mono (by simp)).thn k2 (fun s hs => .inl hs))).thn kb (fun s hs => .inr (by simp at hs; omega))
    have d9 := d2.off kb (hoA _ (by decide)) (hoA _ (by decide)) (hoA _ (by decide)) (hoA _ (by decide))
    have hBw := HK.out.hB
    have kWs := KW.out.size
    obtain ⟨n9, q9⟩ := HK.out.setD kF d9 (by rcases a2 with rfl | h2; exact HK.out.new.dA; intro b hb; have := h2 b hb; simp at this; omega) (by intro s hs; simp at hs; rcases hs with rfl | hs; exact HK.out.new.bD; exact HK.out.new.dA s hs) (fun e h1 _ h2 => Off.app (S := [a.bD]) (Off.one HK.out.d.dd.ty h1) (Off.bks HK.out.d.ln.ty h2))
    exact bodyPost_ret (v := .tuple #[.agg #[.int .i64 0, .slice none 0 0], .int .i64 e]) (by simp [results, Tryz.results47, go_sem, g0, g1]; try rfl) rfl (H.out 0 none 0 0 [] e _ _ W9 (by simp [Hid, kFB, hop, hq.out]) q9 ⟨n9, rfl, rfl⟩ rfl Tb.nil)
set_option maxHeartbeats 4000000 in
theorem kfb_8 (hK : Kn w B a k) (hm : k.cnt m) (hm2 : m ≤ 10000) (x : Kc) (hx : x.ok w) (hop : x.op = 8)
    (h : ∀ n A len cc l e k' a' w', Hid (kFB k x = ⟨n, l, e, k'⟩) → Kq B w w' → (Kn w' B a' k' ∧ a'.g = a.g ∧ a'.bT = a.bT) → l.length = len → Tb w' 5 A (bts l) → R (.returned (.tuple #[.agg #[.int .i64 n, .slice A len cc], .int .i64 e])) w') :
    Calls Tryz.prog 47 #[.pointer (some ⟨a.g, 0, none⟩), .agg #[.int .i64 8, .int .i64 x.env, .int .i64 x.a, .int .i64 x.b, .int .i64 x.c, .slice x.A5 x.n5 x.c5, .slice x.A6 x.n6 x.c6, .slice x.A7 x.n7 x.c7]] w R := by
  have H := Lib.hid h
  have HK := Lib.hid hK
  have HX := Lib.hid hx
  have HM := Lib.hid hm
  have hlm : k.d.ln.length ≤ 1000000 := by have := hm.ln; omega
  clear h hK hx hm
  go_enter Tryz.func47, Tryz.ntmps47
  go_upto_region 6 with (fail)
  refine gen_worldK (fun W => ∃ cb, w.heap.size = cb ∧ Kp [] w W ∧ Bk W cb 45 (x.cs 8) ∧ Bk W (cb + 1) 39 [.int .i64 0, .slice none 0 0]) ⟨_, rfl, ((Kp.refl _ _).alloc _).alloc _, ((Bk.new' _ _ _).alloc _).cast rfl, (Bk.newAt (by simp) _ _).cast rfl⟩ ?_
  rintro W ⟨cb, hcb, kW, bC, bR⟩
  rw [hcb]
  have hb0 : w.heap.size ≤ cb := by omega
  have kn := HK.out.off0 kW
  have KN := Lib.hid kn
  have HL : Hid (∀ e, 163 ≠ e → 245 ≠ e → Off W ([a.bD, a.bP]) e) := Lib.hid (fun e h1 h2 => Off.app (S := [a.bD]) (S' := [a.bP]) (Off.one KN.out.d.dd.ty h1) (Off.one KN.out.d.l.ty h2))
  have HS : Hid (∀ w', Kp (([a.bD, a.bP]) ++ [cb + 1]) W w' → w'.cell? ⟨a.g, 1, none⟩ = some (.pointer (some ⟨a.bD, 0, none⟩)) ∧ w'.cell? ⟨cb, 1, none⟩ = some (.int .i64 x.env) ∧ w'.cell? ⟨cb, 2, none⟩ = some (.int .i64 x.a) ∧ w'.cell? ⟨cb, 3, none⟩ = some (.int .i64 x.b) ∧ w'.cell? ⟨cb, 4, none⟩ = some (.int .i64 x.c) ∧ w'.cell? ⟨cb, 5, none⟩ = some (.slice x.A5 x.n5 x.c5)) := Lib.hid (fun w' k' => by
    have og : Off W (([a.bD, a.bP]) ++ [cb + 1]) 114 := Off.app (HL.out _ (by decide) (by decide)) (Off.one bR.ty (by decide))
    have oc : Off W (([a.bD, a.bP]) ++ [cb + 1]) 45 := Off.app (HL.out _ (by decide) (by decide)) (Off.one bR.ty (by decide))
    have hc := bC.off k' oc
    exact ⟨(kn.g.off k' og).cell 1, hc.cell 1, hc.cell 2, hc.cell 3, hc.cell 4, hc.cell 5⟩)
  obtain ⟨q0, q1, q2, q3, q4, q5⟩ := HS.out W (Kp.refl _ _)
  have hrl := bR.lt
  have HRn : Hid (∀ w', Kp ([a.bD, a.bP]) W w' → Bk w' (cb + 1) 39 [.int .i64 0, .slice none 0 0]) := Lib.hid (fun w' k' => bR.off k' (HL.out _ (by decide) (by decide)))
  have HXd : Hid (x.ok W) := Lib.hid ⟨HX.out.s.kp kW (Off.nil _ _), HX.out.sl, HX.out.sm, HX.out.s0, HX.out.p.kp kW (Off.nil _ _), HX.out.pl, HX.out.pm, HX.out.p0, HX.out.po, HX.out.l.kp kW (Off.nil _ _), HX.out.ll, HX.out.lm, HX.out.l0, HX.out.lo⟩
  have KW := Lib.hid kW
  obtain ⟨⟨s0, s1⟩, ⟨f0, f1⟩⟩ := bk2 bR
  clear kW bC bR kn hcb
  go_wp2_with ((go_at_call 96; (refine sync_any (KN.out.off0 (by repeat (first | with_reducible exact Kp.refl _ _ | with_reducible refine Kp.drew ?_))).d hlm ?_); intro e A' c' d' w2 hq k2 d2 a2; have kk2 : Kp (([a.bD, a.bP]) ++ [cb + 1]) W w2 := Kp.trans (by repeat (first | with_reducible exact Kp.refl _ _ | with_reducible refine Kp.drew ?_)) (k2.mono (fun s hs => .inl (List.mem_append_left _ hs))); have r2 := HRn.out w2 (Kp.trans (by repeat (first | with_reducible exact Kp.refl _ _ | with_reducible refine Kp.drew ?_)) k2); obtain ⟨⟨t0, t1⟩, ⟨y0, y1⟩⟩ := bk2 r2); obtain ⟨t0, t1, y0, y1⟩ := bk2t r2)
  all_goals
    obtain ⟨bb, kb⟩ := bk2set r2 (.int .i64 0) (.slice none 0 0)
    have hoA : ∀ e, 39 ≠ e → Off w2 [cb + 1] e := fun e he => Off.one r2.ty he
    obtain ⟨W9, hW9⟩ : ∃ W9, ((w2.setCell ⟨cb + 1, 0, none⟩ (.int .i64 0)).setCell ⟨cb + 1, 1, none⟩ (.slice none 0 0)) = W9 := ⟨_, rfl⟩
    rw [hW9] at bb kb ⊢
    obtain ⟨g0, g1, _⟩ := bk2t bb
    have kF : Kp ([a.bD, a.bP]) w W9 := (((KW.out.mono (by simp)).thn k2 (fun s hs => .inl hs))).thn kb (fun s hs => .inr (by simp at hs; omega))
    have d9 := d2.off kb (hoA _ (by decide)) (hoA _ (by decide)) (hoA _ (by decide)) (hoA _ (by decide))
    obtain ⟨n9, q9⟩ := HK.out.setD kF d9 (by rcases a2 with rfl | rfl; exact HK.out.new.dA; simp [Fresh, bks]) (by intro s hs; simp at hs; rcases hs with rfl | rfl; exact HK.out.new.bD; exact HK.out.new.bP) (fun e h1 h2 _ => Off.app (S := [a.bD]) (S' := [a.bP]) (Off.one HK.out.d.dd.ty h1) (Off.one HK.out.d.l.ty h2))
    exact bodyPost_ret (v := .tuple #[.agg #[.int .i64 0, .slice none 0 0], .int .i64 e]) (by simp [results, Tryz.results47, go_sem, g0, g1]; try rfl) rfl (H.out 0 none 0 0 [] e _ _ W9 (by simp [Hid, kFB, hop, hq.out]) q9 ⟨n9, rfl, rfl⟩ rfl Tb.nil)
end
end
end Go.Proofs.YtedblbpmlbjnhaaGreat
