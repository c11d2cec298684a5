/- A kernel's filters: bind, unbind. A kernel's filters: unbind; transfers: send. A kernel's transfers: send. -/
import Derived.Test.YtedblbpmlbjnhaaGreatPE17
namespace Go.Proofs.YtedblbpmlbjnhaaGreat
/-! ### A kernel's filters: bind, unbind. -/
section
open Go.RowKit Go.Shelf
set_option linter.unusedVariables false
set_option linter.unusedSimpArgs false
set_option maxRecDepth 100000

theorem elt_bd : Elt Tryz.prog 109 144 (.agg #[.int .i64 0, .int .i64 0, .slice none 0 0]) 3 40 := ⟨Tryz.underlying109, by kernel_rfl, rfl, by decide, by decide⟩
theorem Kq.thn {B : Nat} {w w1 w2 : World} {S : List Nat} (h : Kq B w w1) (k : Kp S w1 w2) (hB : B ≤ w.heap.size) (hs : ∀ s ∈ S, w.heap.size ≤ s) : Kq B w w2 :=
  ⟨k.os.trans h.os, k.tape.trans h.tape, k.output.trans h.output, Nat.le_trans h.size k.size, fun b hb hc => (k.block b (Nat.lt_of_lt_of_le hb h.size) (fun hm => by have := hs b hm; omega)).trans (h.block b hb hc)⟩
/-- A store into a block of the caller's own, of another type than all of the kernel's. -/
theorem Kn.offA {B : Nat} {w w' : World} {a : KA} {k : KS} {S : List Nat} (h : Kn w B a k) (hk : Kp S w w') (o : ∀ e, 39 ≠ e → Off w S e) : Kn w' B a k :=
  ⟨h.g.off hk (o _ (by decide)), h.t.kp hk ((o _ (by decide)).nin h.t.t.ty) ((o _ (by decide)).nin h.t.l.ty), h.d.off hk (o _ (by decide)) (o _ (by decide)) (o _ (by decide)) (o _ (by decide)), h.fl.off hk (o _ (by decide)), fun x hx => ⟨(h.fd x hx).1, (h.fd x hx).2.1, (h.fd x hx).2.2.kp hk (o _ (by decide))⟩, h.i1.off hk ((o _ (by decide)).nin h.i1.hs.ty) ((o _ (by decide)).nin h.r1) (o _ (by decide)), h.i2.off hk ((o _ (by decide)).nin h.i2.hs.ty) ((o _ (by decide)).nin h.r2) (o _ (by decide)), h.o.off hk ((o _ (by decide)).nin h.o.hs.ty) ((o _ (by decide)).nin h.ro) (o _ (by decide)), h.new⟩
/-- What bind does. -/
def kBind (k : KS) (x : Kc) (n e : Int) (k' : KS) : Prop :=
  (8 ≤ k.fl.length ∧ n = 0 ∧ e = 10 ∧ k' = k) ∨ (k.fl.length < 8 ∧ fchk x.p = false ∧ n = 0 ∧ e = 40 ∧ k' = k) ∨
  (k.fl.length < 8 ∧ fchk x.p = true ∧ n = k.nx ∧ e = 0 ∧ ∃ y : Bnd, y.id = k.nx ∧ y.env = x.env ∧ y.p = x.p ∧ k' = { k with fl := k.fl ++ [y], nx := k.nx + 1 })
section
variable {R : Ending → World → Prop} {w : World} {B m : Nat} {a : KA} {k : KS}
theorem kbind_fin {w V w3 w5 : World} {B rb : Nat} {a : KA} {k : KS} {x : Kc} {A3 A5 : Option Addr} {c3 c5 : Nat} {o : Obj} (hK : Kn w B a k) (K0 : Kp [a.g] w V) (bG : Bk V a.g 114 (a.cells { k with nx := k.nx + 1 })) (hfl : Ow V 144 3 a.fA k.fl.length a.fc (k.fl.flatMap Bnd.vals))
    (hfd : ∀ y ∈ k.fl, y.p.length = y.n ∧ y.n ≤ 64 ∧ Tb V 128 y.A (y.p.flatMap FOp.vals)) (bR : Bk V rb 39 [.int .i64 0, .slice none 0 0]) (k3 : Kp [] V w3) (o3 : Ow w3 128 4 A3 x.n6 c3 (x.p.flatMap FOp.vals)) (hpl : x.p.length = x.n6) (hp64 : x.n6 ≤ 64)
    (ho5 : Ow w5 144 3 A5 (k.fl.length + 1) c5 (k.fl.flatMap Bnd.vals ++ Bnd.vals ⟨k.nx, x.env, A3, x.n6, c3, x.p⟩)) (hk5 : Kp (bks a.fA) (w3.alloc o) w5) (hA5 : A5 = a.fA ∨ A5 = some ⟨(w3.alloc o).heap.size, 0, none⟩) :
    Kn (w5.setCell ⟨a.g, 2, none⟩ (.slice A5 (k.fl.length + 1) c5)) B { a with fA := A5, fc := c5 } { k with fl := k.fl ++ [⟨k.nx, x.env, A3, x.n6, c3, x.p⟩], nx := k.nx + 1, dn := k.dn } ∧ Kq B w (w5.setCell ⟨a.g, 2, none⟩ (.slice A5 (k.fl.length + 1) c5)) ∧
      Bk (w5.setCell ⟨a.g, 2, none⟩ (.slice A5 (k.fl.length + 1) c5)) rb 39 [.int .i64 0, .slice none 0 0] ∧ Kp (a.g :: bks a.fA) w (w5.setCell ⟨a.g, 2, none⟩ (.slice A5 (k.fl.length + 1) c5)) := by
  have k35 : Kp (bks a.fA) V w5 := ((k3.alloc o).mono (by simp)).thn hk5 (fun s hs => .inl hs)
  have oV : ∀ e, 144 ≠ e → Off V (bks a.fA) e := fun e he => Off.bks hfl.ty he
  have g5 := bG.off k35 (oV _ (by decide))
  have ks : Kp [a.g] w5 (w5.setCell ⟨a.g, 2, none⟩ (.slice A5 (k.fl.length + 1) c5)) := (Kp.refl _ _).setCell (p := ⟨a.g, 2, none⟩) (.inl (by simp)) _
  have o5 : ∀ e, 114 ≠ e → Off w5 [a.g] e := fun e he => Off.one g5.ty he
  have kF : Kp (a.g :: bks a.fA) w (w5.setCell ⟨a.g, 2, none⟩ (.slice A5 (k.fl.length + 1) c5)) := ((K0.mono (by simp)).thn k35 (fun s hs => .inl (by simp [hs]))).thn ks (fun s hs => .inl (by simp at hs; simp [hs]))
  have r5 := (bR.off k35 (oV _ (by decide))).off ks (o5 _ (by decide))
  have hB := hK.hB
  have z0 := K0.size
  have z3 := k3.size
  have k3w : Kp (bks a.fA) w3 w5 := ((Kp.refl [] w3).alloc o |>.mono (by simp)).thn hk5 (fun s hs => .inl hs)
  have of3 : ∀ e, 144 ≠ e → Off w3 (bks a.fA) e := fun e he => Off.bks (hfl.kp k3 (by simp)).ty he
  obtain ⟨n9, q9⟩ := hK.setF (fA' := A5) (fc' := c5) (nx' := k.nx + 1) (dn' := k.dn) (fl' := k.fl ++ [⟨k.nx, x.env, A3, x.n6, c3, x.p⟩]) kF ((g5.set_ 2 _).cast (by simp [KA.cells])) ((ho5.off ks (o5 _ (by decide))).cast (by simp) (by simp [List.flatMap_append])) (by
      rcases hA5 with rfl | rfl
      · exact hK.new.fA
      · intro b hb; simp [bks] at hb; omega) (by
      intro y hy
      rcases List.mem_append.1 hy with hy | hy
      · obtain ⟨e1, e2, e3⟩ := hfd y hy
        exact ⟨e1, e2, (e3.kp k35 (oV _ (by decide))).kp ks (o5 _ (by decide))⟩
      · simp at hy; subst hy
        exact ⟨hpl, hp64, (o3.tb.kp k3w (of3 _ (by decide))).kp ks (o5 _ (by decide))⟩)
  exact ⟨n9, q9, r5, kF⟩
set_option maxHeartbeats 4000000 in
theorem kbind_any (hK : Kn w B a k) (hm : k.cnt m) (hm2 : m ≤ 10000) (x : Kc) (hx : x.ok w)
    (h : ∀ n e k' a' w', Hid (kBind k x n e k') → Kq B w w' → (Kn w' B a' k' ∧ a'.g = a.g ∧ a'.bT = a.bT) → R (.returned (.tuple #[.agg #[.int .i64 n, .slice none 0 0], .int .i64 e])) w') :
    Calls Tryz.prog 48 #[.pointer (some ⟨a.g, 0, none⟩), .agg #[.int .i64 9, .int .i64 x.env, .int .i64 x.a, .int .i64 x.b, .int .i64 x.c, .slice x.A5 x.n5 x.c5, .slice x.A6 x.n6 x.c6, .slice x.A7 x.n7 x.c7]] w R := by
  have H := Lib.hid h
  have HK := Lib.hid hK
  have HX := Lib.hid hx
  have hnx := hm.nx
  have hfl8 := hm.fl
  clear h hK hx hm
  go_enter Tryz.func48, Tryz.ntmps48
  go_upto_region 1 with (fail)
  refine gen_worldK (fun W => ∃ cb, w.heap.size = cb ∧ Kp [] w W ∧ Bk W cb 45 (x.cs 9) ∧ Bk W (cb + 1) 39 [.int .i64 0, .slice none 0 0]) ⟨_, rfl, ((Kp.refl _ _).alloc _).alloc _, ((Bk.new' _ _ _).alloc _).cast rfl, (Bk.newAt (by simp) _ _).cast rfl⟩ ?_
  rintro W ⟨cb, hcb, kW, bC, bR⟩
  rw [hcb]
  have hb0 : w.heap.size ≤ cb := by omega
  have kn := HK.out.off0 kW
  have c2 : W.cell? ⟨a.g, 2, none⟩ = some (.slice a.fA k.fl.length a.fc) := kn.cell 2
  have p6 := bC.cell 6
  simp only [Kc.cs, List.getElem?_cons_zero, List.getElem?_cons_succ] at p6
  have KN := Lib.hid kn
  have KW := Lib.hid kW
  have BC := Lib.hid bC
  have BR := Lib.hid bR
  have hXd : x.ok W := ⟨HX.out.s.kp kW (Off.nil _ _), HX.out.sl, HX.out.sm, HX.out.s0, HX.out.p.kp kW (Off.nil _ _), HX.out.pl, HX.out.pm, HX.out.p0, HX.out.po, HX.out.l.kp kW (Off.nil _ _), HX.out.ll, HX.out.lm, HX.out.l0, HX.out.lo⟩
  have HXd := Lib.hid hXd
  have hrl := bR.lt
  clear kn kW bC bR hcb hXd
  by_cases h8 : 8 ≤ k.fl.length
  · obtain ⟨s0, s1, f0, f1⟩ := bk2t BR.out
    go_wp2
    obtain ⟨bb, kb⟩ := bk2set BR.out (.int .i64 0) (.slice none 0 0)
    obtain ⟨W9, hW9⟩ : ∃ W9, ((W.setCell ⟨cb + 1, 0, none⟩ (.int .i64 0)).setCell ⟨cb + 1, 1, none⟩ (.slice none 0 0)) = W9 := ⟨_, rfl⟩
    rw [hW9] at bb kb ⊢
    obtain ⟨g0, g1, _⟩ := bk2t bb
    have kF : Kp [] w W9 := KW.out.thn kb (fun s hs => .inr (by simp at hs; omega))
    exact bodyPost_ret (v := .tuple #[.agg #[.int .i64 0, .slice none 0 0], .int .i64 10]) (by simp [results, Tryz.results48, go_sem, g0, g1]; try rfl) rfl (H.out 0 10 k a W9 (Lib.hid (.inl ⟨h8, rfl, rfl, rfl⟩)) (Kq.of0 kF) ⟨HK.out.off0 kF, rfl, rfl⟩)
  · cases hck : fchk x.p with
    | false =>
      go_wp2_with (go_at_call 97; ((refine fcheck_any HXd.out.p.rd0 HXd.out.pl (by have := HXd.out.pm; omega) HXd.out.po ?_); rw [hck]; intro w2 k2; obtain ⟨s0, s1, f0, f1⟩ := bk2t (BR.out.kp k2 (by simp))))
      obtain ⟨bb, kb⟩ := bk2set (BR.out.kp k2 (by simp)) (.int .i64 0) (.slice none 0 0)
      obtain ⟨W9, hW9⟩ : ∃ W9, ((w2.setCell ⟨cb + 1, 0, none⟩ (.int .i64 0)).setCell ⟨cb + 1, 1, none⟩ (.slice none 0 0)) = W9 := ⟨_, rfl⟩
      rw [hW9] at bb kb ⊢
      obtain ⟨g0, g1, _⟩ := bk2t bb
      have kF : Kp [] w W9 := (KW.out.trans k2).thn kb (fun s hs => .inr (by simp at hs; omega))
      exact bodyPost_ret (v := .tuple #[.agg #[.int .i64 0, .slice none 0 0], .int .i64 40]) (by simp [results, Tryz.results48, go_sem, g0, g1]; try rfl) rfl (H.out 0 40 k a W9 (Lib.hid (.inr (.inl ⟨by omega, hck, rfl, rfl, rfl⟩))) (Kq.of0 kF) ⟨HK.out.off0 kF, rfl, rfl⟩)
    | true =>
      go_upto_region 8 with (go_at_call 97; ((refine fcheck_any HXd.out.p.rd0 HXd.out.pl (by have := HXd.out.pm; omega) HXd.out.po ?_); rw [hck]; intro w2 k2; have kn2 := KN.out.off0 k2; have c3 : w2.cell? ⟨a.g, 3, none⟩ = some (.int .i64 k.nx) := kn2.cell 3; have f3 := kn2.g.frozen 3; have KN2 := Lib.hid kn2; clear kn2))
      refine gen_worldK (fun V => Kp [a.g] w2 V ∧ Bk V a.g 114 (a.cells { k with nx := k.nx + 1 })) ⟨(Kp.refl _ _).setCell (p := ⟨a.g, 3, none⟩) (.inl (by simp)) _, (KN2.out.g.set_ 3 _).cast (by simp [KA.cells])⟩ ?_
      rintro V ⟨kV, bG⟩
      have og : ∀ e, 114 ≠ e → Off w2 [a.g] e := fun e he => Off.one KN2.out.g.ty he
      have hfl : Ow V 144 3 a.fA k.fl.length a.fc (k.fl.flatMap Bnd.vals) := KN2.out.fl.off kV (og _ (by decide))
      have hfd : ∀ y ∈ k.fl, y.p.length = y.n ∧ y.n ≤ 64 ∧ Tb V 128 y.A (y.p.flatMap FOp.vals) := fun y hy => ⟨(KN2.out.fd y hy).1, (KN2.out.fd y hy).2.1, (KN2.out.fd y hy).2.2.kp kV (og _ (by decide))⟩
      have bC := (BC.out.kp k2 (by simp)).off kV (og _ (by decide))
      have bR := (BR.out.kp k2 (by simp)).off kV (og _ (by decide))
      have hxp : Tb V 128 x.A6 (x.p.flatMap FOp.vals) := (HXd.out.p.kp k2 (Off.nil _ _)).kp kV (og _ (by decide))
      have K0 : Hid (Kp [a.g] w V) := Lib.hid (((KW.out.trans k2).mono (by simp)).trans kV)
      have oL : ∀ e, 114 ≠ e → 144 ≠ e → Off V (a.g :: bks a.fA) e := fun e h1 h2 => Off.app (S := [a.g]) (Off.one bG.ty h1) (Off.bks hfl.ty h2)
      have HS : Hid (∀ w', Kp (a.g :: bks a.fA) V w' → w'.cell? ⟨cb, 1, none⟩ = some (.int .i64 x.env) ∧ w'.cell? ⟨cb, 6, none⟩ = some (.slice x.A6 x.n6 x.c6)) := Lib.hid (fun w' k' => ⟨(bC.off k' (oL _ (by decide) (by decide))).cell 1, (bC.off k' (oL _ (by decide) (by decide))).cell 6⟩)
      have HOL := Lib.hid oL
      have d2 : V.cell? ⟨a.g, 2, none⟩ = some (.slice a.fA k.fl.length a.fc) := bG.cell 2
      have HG := Lib.hid bG
      have HFl := Lib.hid hfl
      have HFd := Lib.hid hfd
      have HR := Lib.hid bR
      have HXp := Lib.hid hxp
      have hpl := HXd.out.pl
      have hpm := HXd.out.pm
      have hrl2 := bR.lt
      have hgl := bG.lt
      obtain ⟨q0, q1⟩ := HS.out V (Kp.refl _ _)
      have HX0 := Lib.hid HXd.out.p0
      clear kV bG og hfl hfd bC bR hxp oL k2 c2 c3 f3 p6
      have HCK := Lib.hid hck
      have hp64 : x.n6 ≤ 64 := by
        have h64 : x.p.length ≤ 64 := by simp [fchk] at hck; exact hck.1.1.2
        omega
      clear hck
      go_cut [7] from 33 (fun s7 W' => s7 = .int .i64 k.nx ∧ ∃ (A5 : Option Addr) (c5 : Nat) (y : Bnd), y.id = k.nx ∧ y.env = x.env ∧ y.p = x.p ∧ Hid (Kn W' B { a with fA := A5, fc := c5 } { k with fl := k.fl ++ [y], nx := k.nx + 1 }) ∧ Hid (Kq B w W') ∧ Hid (Bk W' (cb + 1) 39 [.int .i64 0, .slice none 0 0]) ∧ w.heap.size ≤ W'.heap.size)
      case first =>
       go_region_law (first | (go_simp; go_at_call 98; (refine cloneop_any (xs := x.p.flatMap FOp.vals) ((HXp.out.kp (by repeat (first | with_reducible exact Kp.refl _ _ | with_reducible refine Kp.drew ?_)) (Off.nil _ _)).rd0) (by intro u hu; rw [List.mem_flatMap] at hu; obtain ⟨o, _, hu⟩ := hu; exact ovals_one o u hu) (by rw [flat_len ovals_len, hpl]) (by omega) HX0.out ?_); intro A3 c3 w3 k3 o3 fr3; have k3v : Kp [] V w3 := Kp.trans (by repeat (first | with_reducible exact Kp.refl _ _ | with_reducible refine Kp.drew ?_)) k3; have kk3 : Kp (a.g :: bks a.fA) V w3 := k3v.mono (by simp); have bg3 := HG.out.kp k3v (by simp); have e2 : w3.cell? ⟨a.g, 2, none⟩ = some (.slice a.fA k.fl.length a.fc) := bg3.cell 2; obtain ⟨q2, q3⟩ := HS.out w3 kk3; have e3 : ∀ o, (w3.alloc o).cell? ⟨a.g, 2, none⟩ = some (.slice a.fA k.fl.length a.fc) := fun o => (bg3.alloc o).cell 2; have BG3 := Lib.hid bg3; clear bg3) | (refine step_app rfl (.tmp 37) (.tmp 45) _ rfl elt_bd a.fA k.fl.length a.fc _ (by simp [Act.eval, Act.put]) ((HFl.out.kp k3v (by simp)).alloc _) [] (some ⟨w3.heap.size, 0, none⟩) 1 1 (Bnd.vals ⟨k.nx, x.env, A3, x.n6, c3, x.p⟩) (by simp [Act.eval, Act.put]) (Rd.of_bk ((Bk.newAt rfl _ _).cast rfl) (by simp)) rfl (bvals_one _) (by omega) ?_; intro A5 c5 w5 ho5 hk5 hA5; have kk4 : Kp (bks a.fA) V w5 := ((k3v.alloc _).mono (by simp)).thn hk5 (fun s hs => .inl hs); have kk5 : Kp (a.g :: bks a.fA) V w5 := kk4.mono (fun s hs => .inl (by simp [hs])); have bg5 := HG.out.off kk4 (Off.bks HFl.out.ty (by decide)); have e5 : w5.cell? ⟨a.g, 2, none⟩ = some (.slice a.fA k.fl.length a.fc) := bg5.cell 2; have f5 := bg5.frozen 2; have BG5 := Lib.hid bg5; clear bg5))
       all_goals
        go_wp2_with fail
        go_meet
        obtain ⟨n9, q9, r9, k9⟩ := kbind_fin (x := x) HK.out K0.out HG.out HFl.out HFd.out HR.out k3v o3 hpl hp64 ho5 hk5 hA5
        exact ⟨rfl, _, _, _, rfl, rfl, rfl, Lib.hid n9, Lib.hid q9, Lib.hid r9, k9.size⟩
      case rest =>
        obtain ⟨rfl, A5, c5, y, y1, y2, y3, n9, q9, r9, hz⟩ := hcut
        clear d2 q0 q1
        obtain ⟨s0, s1, f0, f1⟩ := bk2t r9.out
        go_wp2
        obtain ⟨bb, kb⟩ := bk2set r9.out (.int .i64 k.nx) (.slice none 0 0)
        obtain ⟨W9, hW9⟩ : ∃ W9, ((wc.setCell ⟨cb + 1, 0, none⟩ (.int .i64 k.nx)).setCell ⟨cb + 1, 1, none⟩ (.slice none 0 0)) = W9 := ⟨_, rfl⟩
        rw [hW9] at bb kb ⊢
        obtain ⟨g0, g1, _⟩ := bk2t bb
        have hBB := HK.out.hB
        exact bodyPost_ret (v := .tuple #[.agg #[.int .i64 k.nx, .slice none 0 0], .int .i64 0]) (by simp [results, Tryz.results48, go_sem, g0, g1]; try rfl) rfl (H.out k.nx 0 _ _ W9 (Lib.hid (.inr (.inr ⟨by omega, HCK.out, rfl, rfl, y, y1, y2, y3, rfl⟩))) (q9.out.thn kb hBB (by intro s hs; simp at hs; omega)) ⟨n9.out.offA kb (fun e he => Off.one r9.out.ty he), rfl, rfl⟩)
end
end
/-! ### A kernel's filters: unbind; transfers: send. -/
section
open Go.RowKit Go.Shelf
set_option linter.unusedVariables false
set_option linter.unusedSimpArgs false
set_option maxRecDepth 100000
section
variable {R : Ending → World → Prop} {w : World} {B m : Nat} {a : KA} {k : KS}
/-- What unbind does. -/
def kUnb (k : KS) (x : Kc) (e : Int) (k' : KS) : Prop :=
  (k.fl.findIdx? (bhit x.a x.env) = none ∧ e = 11 ∧ k' = k) ∨ (∃ i, k.fl.findIdx? (bhit x.a x.env) = some i ∧ e = 0 ∧ k' = { k with fl := k.fl.eraseIdx i })
set_option maxHeartbeats 4000000 in
theorem kunb_any (hK : Kn w B a k) (hm : k.cnt m) (hm2 : m ≤ 10000) (x : Kc) (hx : x.ok w)
    (h : ∀ e k' a' w', Hid (kUnb k x e k') → Kq B w w' → (Kn w' B a' k' ∧ a'.g = a.g ∧ a'.bT = a.bT) → R (.returned (.tuple #[.agg #[.int .i64 0, .slice none 0 0], .int .i64 e])) w') :
    Calls Tryz.prog 49 #[.pointer (some ⟨a.g, 0, none⟩), .agg #[.int .i64 10, .int .i64 x.env, .int .i64 x.a, .int .i64 x.b, .int .i64 x.c, .slice x.A5 x.n5 x.c5, .slice x.A6 x.n6 x.c6, .slice x.A7 x.n7 x.c7]] w R := by
  have H := Lib.hid h
  have HK := Lib.hid hK
  have HX := Lib.hid hx
  have hfl8 := hm.fl
  clear h hK hx hm
  go_enter Tryz.func49, Tryz.ntmps49
  go_upto_region 1 with (fail)
  refine gen_worldK (fun W => ∃ cb, w.heap.size = cb ∧ Kp [] w W ∧ Bk W cb 45 (x.cs 10) ∧ Bk W (cb + 1) 39 [.int .i64 0, .slice none 0 0]) ⟨_, rfl, ((Kp.refl _ _).alloc _).alloc _, ((Bk.new' _ _ _).alloc _).cast rfl, (Bk.newAt (by simp) _ _).cast rfl⟩ ?_
  rintro W ⟨cb, hcb, kW, bC, bR⟩
  rw [hcb]
  have hb0 : w.heap.size ≤ cb := by omega
  have kn := HK.out.off0 kW
  have c2 : W.cell? ⟨a.g, 2, none⟩ = some (.slice a.fA k.fl.length a.fc) := kn.cell 2
  have KN := Lib.hid kn
  have KW := Lib.hid kW
  have HC : Hid (W.cell? ⟨cb, 1, none⟩ = some (.int .i64 x.env) ∧ W.cell? ⟨cb, 2, none⟩ = some (.int .i64 x.a)) := Lib.hid ⟨bC.cell 1, bC.cell 2⟩
  have BR := Lib.hid bR
  have hrl := bR.lt
  have hBB := HK.out.hB
  clear kn kW bC bR hcb
  cases hfi : k.fl.findIdx? (bhit x.a x.env) with
  | none =>
    have hbi : bidx k.fl x.a x.env = -1 := by unfold bidx; rw [hfi]
    have HFI := Lib.hid hfi
    clear hfi
    go_wp2_with (go_at_call 99; (refine bidx_any (KN.out.fl.rd (by simp)) rfl (by omega) x.a x.env HC.out.1 HC.out.2 ?_); rw [hbi]; intro w2 k2; obtain ⟨s0, s1, f0, f1⟩ := bk2t (BR.out.kp k2 (by simp)))
    obtain ⟨bb, kb⟩ := bk2set (BR.out.kp k2 (by simp)) (.int .i64 0) (.slice none 0 0)
    obtain ⟨W9, hW9⟩ : ∃ W9, ((w2.setCell ⟨cb + 1, 0, none⟩ (.int .i64 0)).setCell ⟨cb + 1, 1, none⟩ (.slice none 0 0)) = W9 := ⟨_, rfl⟩
    rw [hW9] at bb kb ⊢
    obtain ⟨g0, g1, _⟩ := bk2t bb
    have kF : Kp [] w W9 := (KW.out.trans k2).thn kb (fun s hs => .inr (by simp at hs; omega))
    exact bodyPost_ret (v := .tuple #[.agg #[.int .i64 0, .slice none 0 0], .int .i64 11]) (by simp [results, Tryz.results49, go_sem, g0, g1]; try rfl) rfl (H.out 11 k a W9 (Lib.hid (.inl ⟨HFI.out, rfl, rfl⟩)) (Kq.of0 kF) ⟨HK.out.off0 kF, rfl, rfl⟩)
  | some i =>
    have hbi : bidx k.fl x.a x.env = i := by unfold bidx; rw [hfi]
    have HFI := Lib.hid hfi
    have hil : i < k.fl.length := by
      obtain ⟨h1, _⟩ := List.findIdx?_eq_some_iff_getElem.1 hfi
      exact h1
    obtain ⟨mm, hmm⟩ : ∃ mm, k.fl.length = mm + 1 := ⟨k.fl.length - 1, by omega⟩
    obtain ⟨gf, hgf, _⟩ := KN.out.fl.form (by omega)
    have hflo := KN.out.fl
    rw [hgf, hmm] at hflo
    rw [hgf, hmm] at c2
    have HFl := Lib.hid hflo
    have HMM := Lib.hid hmm
    have HGF := Lib.hid hgf
    have hm8 : mm + 1 ≤ 8 := by omega
    have him : i ≤ mm := by omega
    clear hfi hflo hmm hgf
    have hi2 : ¬ (i : Int) < 0 := by omega
    go_wp2_with (first | (go_at_call 99; (refine bidx_any (HFl.out.rd (by simp)) HMM.out (by omega) x.a x.env HC.out.1 HC.out.2 ?_); rw [hbi]; intro w2 k2; have d2 : w2.cell? ⟨a.g, 2, none⟩ = some (.slice (some ⟨gf, 0, none⟩) (mm + 1) a.fc) := (by have := (KN.out.off0 k2).cell 2; rw [this]; simp [KA.cells, HGF.out, HMM.out])) | (go_at_call 101; (refine delete_any (HFl.out.kp k2 (by simp)) HMM.out (by omega) (by omega) ?_); intro w3 k3 o3; have og : Off w2 [gf] 114 := Off.one ((HFl.out.kp k2 (by simp)).ty gf (by simp [bks])) (by decide); have oa : Off w2 [gf] 39 := Off.one ((HFl.out.kp k2 (by simp)).ty gf (by simp [bks])) (by decide); have bg3 := (KN.out.g.kp k2 (by simp)).off k3 og; have e2 : w3.cell? ⟨a.g, 2, none⟩ = some (.slice (some ⟨gf, 0, none⟩) (mm + 1) a.fc) := (by rw [bg3.cell 2]; simp [KA.cells, HGF.out, HMM.out]); have e3 := bg3.frozen 2; have br3 := (BR.out.kp k2 (by simp)).off k3 oa; have hne9 : cb + 1 ≠ a.g := br3.ne_ bg3 (by decide); obtain ⟨s0, s1, f0, f1⟩ := bk2t br3; have BG3 := Lib.hid bg3; have BR3 := Lib.hid br3; clear bg3 br3 og oa))
    have ks : Kp [a.g] w3 (w3.setCell ⟨a.g, 2, none⟩ (.slice (some ⟨gf, 0, none⟩) mm a.fc)) := (Kp.refl _ _).setCell (p := ⟨a.g, 2, none⟩) (.inl (by simp)) _
    have o3K : ∀ e, 114 ≠ e → Off w3 [a.g] e := fun e he => Off.one BG3.out.ty he
    obtain ⟨V9, hV9⟩ : ∃ V9, w3.setCell ⟨a.g, 2, none⟩ (.slice (some ⟨gf, 0, none⟩) mm a.fc) = V9 := ⟨_, rfl⟩
    have hg9 := BG3.out.set_ 2 (.slice (some ⟨gf, 0, none⟩) mm a.fc)
    rw [hV9] at ks hg9 ⊢
    have hel : (k.fl.eraseIdx i).length = mm := by rw [List.length_eraseIdx_of_lt hil, HMM.out]; rfl
    have kF : Kp (a.g :: bks a.fA) w V9 := (((KW.out.trans k2).mono (by simp)).thn k3 (fun s hs => .inl (by rw [HGF.out]; simp at hs; simp [bks, hs]))).thn ks (fun s hs => .inl (by simp at hs; simp [hs]))
    have ofl : ∀ e, 144 ≠ e → Off w2 [gf] e := fun e he => Off.one ((HFl.out.kp k2 (by simp)).ty gf (by simp [bks])) he
    obtain ⟨n9, q9⟩ := HK.out.setF (fA' := some ⟨gf, 0, none⟩) (fc' := a.fc) (nx' := k.nx) (dn' := k.dn) (fl' := k.fl.eraseIdx i) kF (hg9.cast (by simp [KA.cells, hel])) ((o3.off ks (o3K _ (by decide))).cast hel.symm rfl) (by rw [← HGF.out]; exact HK.out.new.fA) (fun y hy => by
      obtain ⟨e1, e2, e3⟩ := KN.out.fd y (List.mem_of_mem_eraseIdx hy)
      exact ⟨e1, e2, ((e3.kp k2 (Off.nil _ _)).kp k3 (ofl _ (by decide))).kp ks (o3K _ (by decide))⟩)
    have br9 := BR3.out.off ks (o3K _ (by decide))
    obtain ⟨bb, kb⟩ := bk2set br9 (.int .i64 0) (.slice none 0 0)
    obtain ⟨W9, hW9⟩ : ∃ W9, ((V9.setCell ⟨cb + 1, 0, none⟩ (.int .i64 0)).setCell ⟨cb + 1, 1, none⟩ (.slice none 0 0)) = W9 := ⟨_, rfl⟩
    rw [hW9] at bb kb ⊢
    obtain ⟨g0, g1, _⟩ := bk2t bb
    exact bodyPost_ret (v := .tuple #[.agg #[.int .i64 0, .slice none 0 0], .int .i64 0]) (by simp [results, Tryz.results49, go_sem, g0, g1]; try rfl) rfl (H.out 0 _ _ W9 (Lib.hid (.inr ⟨i, HFI.out, rfl, rfl⟩)) (q9.thn kb hBB (by intro s hs; simp at hs; omega)) ⟨n9.offA kb (fun e he => Off.one br9.ty he), rfl, rfl⟩)
end
end
/-! ### A kernel's transfers: send. -/
section
open Go.RowKit Go.Shelf
set_option linter.unusedVariables false
set_option linter.unusedSimpArgs false
set_option maxRecDepth 100000
section
variable {R : Ending → World → Prop} {w : World} {B m : Nat} {a : KA} {k : KS}
/-- What send does. -/
def kSend (k : KS) (x : Kc) (n e : Int) (k' : KS) : Prop :=
  (k.qo.length = 16 ∧ n = 0 ∧ e = 10 ∧ k' = k) ∨ (k.qo.length < 16 ∧ checkE k.fs x.env x.l ≠ 0 ∧ n = 0 ∧ e = checkE k.fs x.env x.l ∧ k' = k) ∨
  (k.qo.length < 16 ∧ checkE k.fs x.env x.l = 0 ∧ n = (k.fo + k.qo.length : Nat) ∧ e = 0 ∧ ∃ y : Tq, y.env = x.env ∧ y.l = x.l ∧ k' = { k with fs := holdAll k.fs x.env x.l, qo := k.qo ++ [y] })
theorem checkE_len {fs : List Fr} {env : Int} {l : List Pc} (h : checkE fs env l = 0) : l.length ≤ 16 := by
  unfold checkE at h
  split at h
  · omega
  · split at h
    · omega
    · split at h
      · omega
      · omega
set_option maxHeartbeats 4000000 in
theorem ksend_any (hK : Kn w B a k) (hm : k.cnt m) (hm2 : m ≤ 10000) (x : Kc) (hx : x.ok w)
    (h : ∀ n e k' a' w', Hid (kSend k x n e k') → Kq B w w' → (Kn w' B a' k' ∧ a'.g = a.g ∧ a'.bT = a.bT) → R (.returned (.tuple #[.agg #[.int .i64 n, .slice none 0 0], .int .i64 e])) w') :
    Calls Tryz.prog 50 #[.pointer (some ⟨a.g, 0, none⟩), .agg #[.int .i64 11, .int .i64 x.env, .int .i64 x.a, .int .i64 x.b, .int .i64 x.c, .slice x.A5 x.n5 x.c5, .slice x.A6 x.n6 x.c6, .slice x.A7 x.n7 x.c7]] w R := by
  have H := Lib.hid h
  have HK := Lib.hid hK
  have HX := Lib.hid hx
  have hco := hm.co
  have hho : hoB k.fs 1000000 := fun y hy => by have := hm.ho y hy; omega
  have HHO := Lib.hid hho
  clear h hK hx hm hho
  go_enter Tryz.func50, Tryz.ntmps50
  go_upto_region 1 with (fail)
  refine gen_worldK (fun W => ∃ cb, w.heap.size = cb ∧ Kp [] w W ∧ Bk W cb 45 (x.cs 11) ∧ Bk W (cb + 1) 39 [.int .i64 0, .slice none 0 0]) ⟨_, rfl, ((Kp.refl _ _).alloc _).alloc _, ((Bk.new' _ _ _).alloc _).cast rfl, (Bk.newAt (by simp) _ _).cast rfl⟩ ?_
  rintro W ⟨cb, hcb, kW, bC, bR⟩
  rw [hcb]
  have hb0 : w.heap.size ≤ cb := by omega
  have kn := HK.out.off0 kW
  have c7 : W.cell? ⟨a.g, 7, none⟩ = some (.pointer (some ⟨a.so, 0, none⟩)) := kn.cell 7
  have hroom := kn.o.room
  have KN := Lib.hid kn
  have KW := Lib.hid kW
  have BC := Lib.hid bC
  have BR := Lib.hid bR
  have hrl := bR.lt
  have hBB := HK.out.hB
  clear kn kW bC bR hcb
  by_cases h16 : k.qo.length = 16
  · have e16 : ((16 : Int) - (k.qo.length : Int) == 0) = true := by simp; omega
    go_wp2_with (go_at_call 102; (refine troom_any (by omega) hroom KN.out.o.hs ?_); intro w2 k2; obtain ⟨s0, s1, f0, f1⟩ := bk2t (BR.out.kp k2 (by simp)))
    obtain ⟨bb, kb⟩ := bk2set (BR.out.kp k2 (by simp)) (.int .i64 0) (.slice none 0 0)
    obtain ⟨W9, hW9⟩ : ∃ W9, ((w2.setCell ⟨cb + 1, 0, none⟩ (.int .i64 0)).setCell ⟨cb + 1, 1, none⟩ (.slice none 0 0)) = W9 := ⟨_, rfl⟩
    rw [hW9] at bb kb ⊢
    obtain ⟨g0, g1, _⟩ := bk2t bb
    have kF : Kp [] w W9 := (KW.out.trans k2).thn kb (fun s hs => .inr (by simp at hs; omega))
    exact bodyPost_ret (v := .tuple #[.agg #[.int .i64 0, .slice none 0 0], .int .i64 10]) (by simp [results, Tryz.results50, go_sem, g0, g1]; try rfl) rfl (H.out 0 10 k a W9 (Lib.hid (.inl ⟨h16, rfl, rfl, rfl⟩)) (Kq.of0 kF) ⟨HK.out.off0 kF, rfl, rfl⟩)
  · have e16 : ((16 : Int) - (k.qo.length : Int) == 0) = false := by simp; omega
    have hlt : k.qo.length < 16 := by omega
    clear h16
    go_upto_region 3 with (go_at_call 102; (refine troom_any (by omega) hroom KN.out.o.hs ?_); intro w2 k2; have d0 : w2.cell? ⟨a.g, 0, none⟩ = some (.pointer (some ⟨a.bT, 0, none⟩)) := (KN.out.off0 k2).cell 0)
    have kw2 := KW.out.trans k2
    have hTb : Tb w2 187 x.A7 (x.l.flatMap Pc.vals) := HX.out.l.kp kw2 (Off.nil _ _)
    have bC2 := BC.out.kp k2 (by simp)
    have bR2 := BR.out.kp k2 (by simp)
    have kn2 := KN.out.off0 k2
    have oL : ∀ e, 239 ≠ e → Off w2 [a.bL] e := fun e he => Off.one kn2.t.l.ty he
    have HS : Hid (∀ w', Kp [a.bL] w2 w' → w'.cell? ⟨a.g, 0, none⟩ = some (.pointer (some ⟨a.bT, 0, none⟩)) ∧ w'.cell? ⟨cb, 1, none⟩ = some (.int .i64 x.env) ∧ w'.cell? ⟨cb, 7, none⟩ = some (.slice x.A7 x.n7 x.c7)) := Lib.hid (fun w' k' => ⟨(kn2.g.off k' (oL _ (by decide))).cell 0, (bC2.off k' (oL _ (by decide))).cell 1, (bC2.off k' (oL _ (by decide))).cell 7⟩)
    obtain ⟨q0, q1, q7⟩ := HS.out w2 (Kp.refl _ _)
    have KN2 := Lib.hid kn2
    have KW2 := Lib.hid kw2
    have BC2 := Lib.hid bC2
    have BR2 := Lib.hid bR2
    have HTb := Lib.hid hTb
    have HOL := Lib.hid oL
    have hxl := HX.out.ll
    have hxm := HX.out.lm
    have HXO := Lib.hid HX.out.lo
    have HX0 := Lib.hid HX.out.l0
    clear kn2 kw2 bC2 bR2 hTb oL k2 d0 c7
    obtain ⟨E, hE⟩ : ∃ E, checkE k.fs x.env x.l = E := ⟨_, rfl⟩
    have HE := Lib.hid hE
    have HGh : Hid (∀ (R : Ending → World → Prop) (w3 : World), Kp [] w2 w3 → (∀ fs' w', Hid (fs' = if E = 0 then holdAll k.fs x.env x.l else k.fs) → Kp [a.bL] w3 w' → Tab w' a.bT a.bL fs' → R (.returned (.int .i64 E)) w') → Calls Tryz.prog 103 #[.pointer (some ⟨a.bT, 0, none⟩), .int .i64 x.env, .slice x.A7 x.n7 x.c7] w3 R) := Lib.hid (fun R w3 k3 h => by
      refine ghold_any (N := [a.bL]) (KN2.out.t.kp k3 (by simp) (by simp)) x.env ((HTb.out.kp k3 (Off.nil _ _)).rd (Off.one (KN2.out.t.l.kp k3 (by simp)).ty (by decide))) (fun s hs => .inl hs) hxl (by omega) HXO.out HHO.out (fun fs' w' hq kk tt => ?_)
      have := hq.out
      injection this with _ h2
      rw [hE] at h2 ⊢
      exact h fs' w' h2 kk tt)
    clear hE
    go_region_held_law (fun w' => w'.cell? ⟨a.g, 0, none⟩ = some (.pointer (some ⟨a.bT, 0, none⟩)) ∧ w'.cell? ⟨cb, 1, none⟩ = some (.int .i64 x.env) ∧ w'.cell? ⟨cb, 7, none⟩ = some (.slice x.A7 x.n7 x.c7)) ((refine HS.out _ ?_; repeat (first | with_reducible exact kk3 | with_reducible exact Kp.refl _ _ | with_reducible refine Kp.drew ?_))) ((go_simp; go_at_call 103; (refine HGh.out _ _ (by repeat (first | with_reducible exact Kp.refl _ _ | with_reducible refine Kp.drew ?_)) ?_); intro fs' w3 hfs k3 t3; have kk3 : Kp [a.bL] w2 w3 := Kp.trans (by repeat (first | with_reducible exact Kp.refl _ _ | with_reducible refine Kp.drew ?_)) k3))
    have kF3 : Kp [a.bL] w w3 := (KW2.out.mono (by simp)).trans kk3
    obtain ⟨n3, q3⟩ := HK.out.setT kF3 t3
    have bR3 := BR2.out.off kk3 (HOL.out _ (by decide))
    have bC3 := BC2.out.off kk3 (HOL.out _ (by decide))
    have hT3 := HTb.out.kp kk3 (HOL.out _ (by decide))
    have N3 := Lib.hid n3
    have Q3 := Lib.hid q3
    have BR3 := Lib.hid bR3
    have BC3 := Lib.hid bC3
    have HT3 := Lib.hid hT3
    have HFS := Lib.hid hfs
    clear n3 q3 bR3 bC3 hT3 t3 k3 hfs q0 q1 q7 HS HGh
    by_cases hE0 : E = 0
    · subst hE0
      have hfe : fs' = holdAll k.fs x.env x.l := by rw [HFS.out, if_pos rfl]
      subst hfe
      have hl16 := checkE_len HE.out
      have oL : ∀ e, 202 ≠ e → 120 ≠ e → Off w3 [a.so, a.ro] e := fun e h1 h2 => Off.app (S := [a.so]) (S' := [a.ro]) (Off.one N3.out.o.hs.ty h1) (Off.one N3.out.ro h2)
      have HOL3 := Lib.hid oL
      have HS : Hid (∀ w', Kp ([a.so, a.ro] ++ [cb + 1]) w3 w' → w'.cell? ⟨a.g, 7, none⟩ = some (.pointer (some ⟨a.so, 0, none⟩)) ∧ w'.cell? ⟨cb, 1, none⟩ = some (.int .i64 x.env) ∧ w'.cell? ⟨cb, 7, none⟩ = some (.slice x.A7 x.n7 x.c7)) := Lib.hid (fun w' k' => by
        have og : Off w3 ([a.so, a.ro] ++ [cb + 1]) 114 := Off.app (HOL3.out _ (by decide) (by decide)) (Off.one BR3.out.ty (by decide))
        have oc : Off w3 ([a.so, a.ro] ++ [cb + 1]) 45 := Off.app (HOL3.out _ (by decide) (by decide)) (Off.one BR3.out.ty (by decide))
        exact ⟨(N3.out.g.off k' og).cell 7, (BC3.out.off k' oc).cell 1, (BC3.out.off k' oc).cell 7⟩)
      have HRr : Hid (∀ w', Kp [a.so, a.ro] w3 w' → Bk w' (cb + 1) 39 [.int .i64 0, .slice none 0 0]) := Lib.hid (fun w' k' => BR3.out.off k' (HOL3.out _ (by decide) (by decide)))
      clear oL
      obtain ⟨q0, q1, q7⟩ := HS.out w3 (Kp.refl _ _)
      go_upto_region 6 with (fail)
      obtain ⟨⟨i0, i1⟩, ⟨j0, j1⟩⟩ := bk2 BR3.out
      go_region_held_law (fun w' => w'.cell? ⟨a.g, 7, none⟩ = some (.pointer (some ⟨a.so, 0, none⟩)) ∧ w'.cell? ⟨cb, 1, none⟩ = some (.int .i64 x.env) ∧ w'.cell? ⟨cb, 7, none⟩ = some (.slice x.A7 x.n7 x.c7)) ((refine HS.out _ ?_; repeat (first | with_reducible exact kk6.mono (fun s hs => .inl (List.mem_append_left _ hs)) | with_reducible exact kk5.mono (fun s hs => .inl (List.mem_append_left _ hs)) | with_reducible exact kk4.mono (fun s hs => .inl (List.mem_append_left _ hs)) | with_reducible exact Kp.refl _ _ | with_reducible refine Kp.drew ?_ | (with_reducible refine Kp.setCell ?_ (.inl (by simp)) _)))) (first | (go_simp; go_at_call 106; (refine clonepc_any (xs := x.l.flatMap Pc.vals) ((HT3.out.kp (by repeat (first | with_reducible exact Kp.refl _ _ | with_reducible refine Kp.drew ?_)) (Off.nil _ _)).rd0) (by intro u hu; rw [List.mem_flatMap] at hu; obtain ⟨o, _, hu⟩ := hu; exact pvals_one o u hu) (by rw [flat_len pvals_len, hxl]) (by omega) HX0.out ?_); intro A4 c4 w4 k4 o4 fr4; have k4v : Kp [] w3 w4 := Kp.trans (by repeat (first | with_reducible exact Kp.refl _ _ | with_reducible refine Kp.drew ?_)) k4; have kk4 : Kp [a.so, a.ro] w3 w4 := k4v.mono (by simp)) | (go_simp; go_at_call 105; (refine tput_any (x := ⟨x.env, A4, x.n7, c4, x.l⟩) (N3.out.off0 k4v).o N3.out.new.n7 (by show k.fo + k.qo.length ≤ _; omega) ⟨hxl, by show x.n7 ≤ 100; omega, o4.tb⟩ (fun hh => absurd hh (by show ¬ k.qo.length = 16; omega)) (fun _ w5 k5 o5 => ?_)); have kk5 : Kp [a.so, a.ro] w3 w5 := kk4.trans k5) | (go_simp; go_at_call 104; (refine only_any _ _ _ ?_); intro w6 k6; have kk6 : Kp [a.so, a.ro] w3 w6 := kk5.trans (k6.mono (by simp)); have r6 := HRr.out w6 kk6; obtain ⟨⟨u0, u1⟩, ⟨v0, v1⟩⟩ := bk2 r6))
      all_goals
        obtain ⟨n5, q5⟩ := (N3.out.off0 k4v).setO k5 o5
        have n6 := n5.off0 k6
        have q6 := ((Q3.out.trans (Kq.of0 (B := B) k4v)).trans q5).trans (Kq.of0 k6)
        have N6 := Lib.hid n6
        have Q6 := Lib.hid q6
        have R6 := Lib.hid r6
        clear n5 q5 n6 q6
        go_wp2
        obtain ⟨bb, kb⟩ := bk2set R6.out (.int .i64 ((k.fo : Int) + k.qo.length)) (.slice none 0 0)
        obtain ⟨W9, hW9⟩ : ∃ W9, ((w6.setCell ⟨cb + 1, 0, none⟩ (.int .i64 ((k.fo : Int) + k.qo.length))).setCell ⟨cb + 1, 1, none⟩ (.slice none 0 0)) = W9 := ⟨_, rfl⟩
        rw [hW9] at bb kb ⊢
        obtain ⟨g0, g1, _⟩ := bk2t bb
        exact bodyPost_ret (v := .tuple #[.agg #[.int .i64 ((k.fo : Int) + k.qo.length), .slice none 0 0], .int .i64 0]) (by simp [results, Tryz.results50, go_sem, g0, g1]; try rfl) rfl (H.out _ 0 _ _ W9 (Lib.hid (.inr (.inr ⟨hlt, HE.out, by simp, rfl, _, rfl, rfl, rfl⟩))) (Q6.out.thn kb hBB (by intro s hs; simp at hs; omega)) ⟨N6.out.offA kb (fun e he => Off.one R6.out.ty he), rfl, rfl⟩)
    · have hE1 : (E != 0) = true := by simp [hE0]
      have hfe : fs' = k.fs := by rw [HFS.out, if_neg hE0]
      have HE0 := Lib.hid hE0
      obtain ⟨s0, s1, f0, f1⟩ := bk2t BR3.out
      clear hE0
      go_wp2
      obtain ⟨bb, kb⟩ := bk2set BR3.out (.int .i64 0) (.slice none 0 0)
      obtain ⟨W9, hW9⟩ : ∃ W9, ((w3.setCell ⟨cb + 1, 0, none⟩ (.int .i64 0)).setCell ⟨cb + 1, 1, none⟩ (.slice none 0 0)) = W9 := ⟨_, rfl⟩
      rw [hW9] at bb kb ⊢
      obtain ⟨g0, g1, _⟩ := bk2t bb
      subst hfe
      exact bodyPost_ret (v := .tuple #[.agg #[.int .i64 0, .slice none 0 0], .int .i64 E]) (by simp [results, Tryz.results50, go_sem, g0, g1]; try rfl) rfl (H.out 0 E _ _ W9 (Lib.hid (.inr (.inl ⟨hlt, by rw [HE.out]; exact HE0.out, rfl, HE.out.symm, rfl⟩))) (Q3.out.thn kb hBB (by intro s hs; simp at hs; omega)) ⟨N3.out.offA kb (fun e he => Off.one BR3.out.ty he), rfl, rfl⟩)
end
end
end Go.Proofs.YtedblbpmlbjnhaaGreat
