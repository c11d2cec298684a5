/- GatherPlays: the calls over both tables. pantlerref09: Call at ops 9 (bind) and 11 (send). pantlerref09: Call at ops 11 (send) and 12 (receive). -/
import Derived.Test.YtedblbpmlbjnhaaGreatPE29
import Derived.Test.YtedblbpmlbjnhaaGreatPE30
import Derived.Test.YtedblbpmlbjnhaaGreatPE26
import Derived.Test.YtedblbpmlbjnhaaGreatPE27
import Derived.Test.YtedblbpmlbjnhaaGreatPE11
import Derived.Test.YtedblbpmlbjnhaaGreatPE18
namespace Go.Proofs.YtedblbpmlbjnhaaGreat
/-! ### GatherPlays: the calls over both tables. -/
section
open Go.RowKit
set_option linter.unusedVariables false
set_option linter.unusedSimpArgs false
set_option maxRecDepth 100000
/-- Every frame is nobody's or an environment's. -/
def Own3 (fs : List Fr) : Prop := ∀ x ∈ fs, x.ow = 0 ∨ envB x.ow = true
/-- A frame that is held is an environment's. -/
def OwH (fs : List Fr) : Prop := ∀ x ∈ fs, x.ho ≠ 0 → envB x.ow = true
theorem Own3.turn {fs fs' : List Fr} {a : Ac} (h : Own3 fs) (t : Turn fs a fs') : Own3 fs' := by
  rcases t with rfl | ⟨i, x, x', hx, rfl, _, t⟩
  · exact h
  · intro y hy
    rcases mem_set hy with rfl | hy
    · have hxo := h x (List.mem_of_getElem? hx)
      rcases t with ⟨_, _, he, rfl⟩ | ⟨_, _, _, ho, he, ⟨_, _, rfl⟩ | ⟨_, _, hn, rfl⟩ | ⟨_, _, rfl⟩ | ⟨_, rfl⟩⟩ | ⟨_, _, _, _, _, rfl⟩
      · exact .inr he
      · exact .inl rfl
      · exact .inr hn
      · exact hxo
      · exact hxo
      · exact hxo
    · exact h y hy
theorem OwH.turn {fs fs' : List Fr} {a : Ac} (h : OwH fs) (hb : ∀ x ∈ fs, 0 ≤ x.ho) (t : Turn fs a fs') : OwH fs' := by
  rcases t with rfl | ⟨i, x, x', hx, rfl, _, t⟩
  · exact h
  · intro y hy
    rcases mem_set hy with rfl | hy
    · have hxo := h x (List.mem_of_getElem? hx)
      have hx0 := hb x (List.mem_of_getElem? hx)
      rcases t with ⟨_, hw, he, rfl⟩ | ⟨_, _, _, ho, he, ⟨_, hh, rfl⟩ | ⟨_, hh, hn, rfl⟩ | ⟨_, hh, rfl⟩ | ⟨_, rfl⟩⟩ | ⟨_, _, _, _, hh, rfl⟩
      · intro _; exact he
      · intro h0; exact absurd (show (fz).ho = 0 from rfl) h0
      · intro h0; exact hn
      · intro h0; exact hxo h0
      · intro _; show envB x.ow = true; rw [ho]; exact he
      · intro _; exact hxo hh
    · exact h y hy
/-- What holds of a table in the law. -/
structure GOk (m : Int) (fs : List Fr) : Prop where
  b : ∀ x ∈ fs, 0 ≤ x.ho ∧ x.ho ≤ m
  o : Own3 fs
  h : OwH fs
theorem GOk.mono {m m' : Int} {fs : List Fr} (h : GOk m fs) (hm : m ≤ m') : GOk m' fs := ⟨fun x hx => by have := h.b x hx; omega, h.o, h.h⟩
theorem GOk.hold1 {m : Int} {fs : List Fr} {env : Int} (h : GOk m fs) (f : Int) : GOk (m + 1) (tHold fs env f).2 := by
  unfold tHold
  split
  · rename_i hw
    split
    · exact h.mono (by omega)
    · rename_i x hx
      have hxm := List.mem_of_getElem? (fat_some hx).2
      have hb := h.b x hxm
      have he : envB x.ow = true := by
        unfold ownE at hw
        split at hw
        · rename_i hen
          rw [hx] at hw
          simp only at hw
          split at hw
          · rename_i he; rw [he]; exact hen
          · simp at hw
        · simp at hw
      refine ⟨fun y hy => ?_, fun y hy => ?_, fun y hy h0 => ?_⟩
      · rcases mem_set hy with rfl | hy
        · constructor
          · show 0 ≤ x.ho + 1; omega
          · show x.ho + 1 ≤ _; omega
        · have := h.b y hy; omega
      · rcases mem_set hy with rfl | hy
        · exact h.o x hxm
        · exact h.o y hy
      · rcases mem_set hy with rfl | hy
        · exact he
        · exact h.h y hy h0
  · exact h.mono (by omega)
theorem GOk.gHoldAll {env : Int} : ∀ (l : List Pc) {m : Int} {fs : List Fr}, GOk m fs → GOk (m + l.length) (holdAll fs env l)
  | [], m, fs, h => by
    have e : m + (([] : List Pc).length : Int) = m := by simp
    rw [e]; exact h
  | p :: l, m, fs, h => by
    have := GOk.gHoldAll (env := env) l (h.hold1 (env := env) p.f)
    have e : m + ((p :: l).length : Int) = m + 1 + (l.length : Int) := by rw [List.length_cons]; omega
    rw [e]; exact this
theorem GOk.gDropAll {m : Int} {fs : List Fr} {l : List Pc} (h : GOk m fs) (hd : dropOk fs l) : GOk m (dropAll fs l) := by
  have hk := ok_okD l fs (fun x hx => (h.b x hx).1) hd
  have key : ∀ y ∈ dropAll fs l, ∃ x ∈ fs, y.ow = x.ow ∧ 0 ≤ y.ho ∧ y.ho ≤ x.ho := by
    intro y hy
    obtain ⟨j, hj⟩ := List.getElem?_of_mem hy
    have hjl := (List.getElem?_eq_some_iff.1 hj).1
    rw [dropAll_len] at hjl
    have hx : fs[j]? = some (fs[j]'hjl) := List.getElem?_eq_getElem _
    have hm := List.mem_of_getElem? hx
    generalize fs[j]'hjl = x at hx hm
    rw [dropAll_at l fs hd j x hx] at hj
    injection hj with hj
    subst hj
    refine ⟨x, hm, rfl, ?_, by show x.ho - _ ≤ x.ho; omega⟩
    show 0 ≤ x.ho - (cntF l (j : Int) : Int)
    have hb := h.b x hm
    by_cases hc : cntF l (j : Int) = 0
    · omega
    · have hpos : 0 < l.countP (fun p => p.f == (j : Int)) := by unfold cntF at hc; omega
      obtain ⟨q, hq, hqf⟩ := List.countP_pos_iff.1 hpos
      have hqf' : q.f = (j : Int) := by simpa using hqf
      obtain ⟨z, hz, hzc⟩ := hk q hq
      rw [hqf'] at hz hzc
      have : fat fs (j : Int) = some x := by unfold fat; rw [if_pos (by omega)]; simpa using hx
      rw [this] at hz
      injection hz with hz
      subst hz
      omega
  refine ⟨fun y hy => ?_, fun y hy => ?_, fun y hy h0 => ?_⟩
  · obtain ⟨x, hx, _, h1, h2⟩ := key y hy
    have := h.b x hx; omega
  · obtain ⟨x, hx, e, _, _⟩ := key y hy
    rw [e]; exact h.o x hx
  · obtain ⟨x, hx, e, h1, h2⟩ := key y hy
    rw [e]
    exact h.h x hx (by omega)
/-- Where both tables lie. -/
structure GA where
  bT : Nat
  bL : Nat
  bM : Nat
  bO : Nat
  bH : Nat
  bB : Nat
structure GA.ok (w : World) (g : GA) : Prop where
  l : w.heap.size ≤ g.bL
  o : w.heap.size ≤ g.bO
  h : w.heap.size ≤ g.bH
  b : w.heap.size ≤ g.bB
  t : g.bT < g.bM ∧ g.bT < g.bO ∧ g.bT < g.bH ∧ g.bT < g.bB
  n : g.bL < g.bM ∧ g.bL < g.bO ∧ g.bL < g.bH ∧ g.bL < g.bB
/-- Both tables in memory. -/
structure G2 (w wr : World) (g : GA) (f1 f2 : List Fr) : Prop where
  k : Kp [] w wr
  a : g.ok w
  t : Tab wr g.bT g.bL f1
  m : RT wr g.bM g.bO g.bH g.bB f2
section
variable {R : Ending → World → Prop} {w w1 w' : World} {g : GA} {f1 f2 : List Fr}
theorem G2.kp (h : G2 w w1 g f1 f2) (hk : Kp [] w1 w') : G2 w w' g f1 f2 := ⟨h.k.trans hk, h.a, h.t.kp hk (by simp) (by simp), h.m.kp hk (by simp) (by simp) (by simp) (by simp)⟩
/-- A list of pieces that was made anew. -/
structure PL (w : World) (g : GA) (A : Option Addr) (n c : Nat) (l : List Pc) : Prop where
  o : Ow w 187 3 A n c (l.flatMap Pc.vals)
  f : ∀ b ∈ bks A, b ≠ g.bL
theorem PL.rd {A : Option Addr} {n c : Nat} {l : List Pc} (h : PL w1 g A n c l) : Rd w1 [g.bL] A (l.flatMap Pc.vals) := h.o.rd (fun b hb => by simpa using h.f b hb)
theorem PL.cap {A : Option Addr} {n c : Nat} {l : List Pc} (h : PL w1 g A n c l) : n ≤ c := by
  rcases h.o.2 with ⟨hv, h0⟩ | ⟨g', cap, cur, hv, _, _, hnc, _⟩
  · simp at hv; omega
  · simp at hv; omega
variable {A : Option Addr} {n c : Nat} {l : List Pc}
def holdE (fs : List Fr) (env : Int) (l : List Pc) : List Fr := if checkE fs env l = 0 then holdAll fs env l else fs
end
end
/-! ### pantlerref09: Call at ops 9 (bind) and 11 (send). -/
section
open Go.RowKit Go.Shelf
set_option linter.unusedVariables false
set_option linter.unusedSimpArgs false
set_option maxRecDepth 100000
theorem elt_rt : Elt Tryz.prog 65 142 (.agg #[.int .i64 0, .slice none 0 0]) 2 32 := ⟨Tryz.underlying65, by kernel_rfl, rfl, by decide, by decide⟩
/-- What a call came in with. -/
structure QC (w0 : World) (c : Cl) : Prop where
  p : Rd w0 [] c.p.A (c.p.l.flatMap FOp.vals)
  pl : c.p.l.length = c.p.n
  pm : c.p.n ≤ 1000
  po : ∀ o ∈ c.p.l, o.ok
  l : Rd w0 [] c.l.A (c.l.l.flatMap Pc.vals)
  ll : c.l.l.length = c.l.n
  lm : c.l.n ≤ 1000
  lo : ∀ o ∈ c.l.l, o.ok
section
variable {R : Ending → World → Prop} {w0 w : World} {B m : Nat} {q : QA} {k : KS}
theorem Ow.capn {w : World} {e sz n c : Nat} {A : Option Addr} {xs : List Value} (h : Ow w e sz A n c xs) : n ≤ c := by
  rcases h.2 with ⟨hv, h0⟩ | ⟨g, cap, cur, hv, _, _, h1, _⟩
  · omega
  · injection hv with _ _ hc; omega
theorem tvals1 (ys : List Tq) : ∀ u ∈ ys.flatMap tvals, u.oneCell' = true := by
  intro u hu
  obtain ⟨x, _, hu⟩ := List.mem_flatMap.1 hu
  simp [tvals] at hu
  rcases hu with rfl | rfl <;> rfl
theorem QF.len {w0 w : World} {N : List Nat} {A : Option Addr} {fl ys : List Bnd} (h : QF w0 w N A fl ys) : ys.length = fl.length := by have := congrArg List.length h.key; simpa using this
theorem QO.len {w0 w : World} {N : List Nat} {A : Option Addr} {fl ys : List Tq} (h : QO w0 w N A fl ys) : ys.length = fl.length := by have := congrArg List.length h.key; simpa using this
end
end
/-! ### pantlerref09: Call at ops 11 (send) and 12 (receive). -/
section
open Go.RowKit Go.Shelf
set_option linter.unusedVariables false
set_option linter.unusedSimpArgs false
set_option maxRecDepth 100000
section
variable {R : Ending → World → Prop} {w0 w : World} {B m : Nat} {q : QA} {k : KS}
theorem rd_own {w0 w : World} {N : List Nat} {A : Option Addr} {xs : List Value} {B : Nat} (hr : Rd w0 [] A xs) (hk : Kp [] w0 w) (hN : ∀ s ∈ N, B ≤ s) (hB : w0.heap.size ≤ B) : Rd w N A xs := fun hx => by
  obtain ⟨b, off, rfl, _, hl, hc⟩ := hr hx
  obtain ⟨b', off', e, _, hl', hc'⟩ := (hr.kp hk (by simp)) hx
  injection e with e
  injection e with e1 e2
  subst e1; subst e2
  exact ⟨b, off, rfl, fun hm => by have := hN _ hm; omega, hl', hc'⟩
set_option maxHeartbeats 8000000 in
theorem rc_11 (hQ : Qn w0 B w q k) (hb : hoB k.fs 1000000) (hm : k.fo + k.qo.length ≤ 1000000) (hr16 : k.qo.length ≤ 16) (c : Cl) (hc : QC w0 c) (he1 : 1 ≤ c.env) (he2 : c.env ≤ 2)
    (h0 : k.qo.length = 16 → RcP R w0 B w q k 0 [] 10) (h1 : k.qo.length < 16 → checkE k.fs c.env c.l.l ≠ 0 → RcP R w0 B w q k 0 [] (checkE k.fs c.env c.l.l))
    (h2 : k.qo.length < 16 → checkE k.fs c.env c.l.l = 0 → ∀ y : Tq, tkey y = (c.env, c.l.l) → RcP R w0 B w q { k with fs := holdAll k.fs c.env c.l.l, qo := k.qo ++ [y] } (k.fo + k.qo.length : Nat) [] 0) :
    Calls Tryz.prog 11 #[.pointer (some ⟨q.g, 0, none⟩), .agg #[.int .i64 11, .int .i64 c.env, .int .i64 c.a, .int .i64 c.b, .int .i64 c.c, .string c.s, .slice c.p.A c.p.n c.p.c, .slice c.l.A c.l.n c.l.c]] w R := by
  have H0 := Lib.hid h0
  have H1 := Lib.hid h1
  have H2 := Lib.hid h2
  have HQ := Lib.hid hQ
  have HC := Lib.hid hc
  have hn1 : ¬ c.env < 1 := by omega
  have hn2 : ¬ 2 < c.env := by omega
  have hcn := hc.lm
  obtain ⟨e, he⟩ : ∃ e, checkE k.fs c.env c.l.l = e := ⟨_, rfl⟩
  have hlo : c.l.l = [] ∨ True := .inr trivial
  have HCk : Hid (∀ (R : Ending → World → Prop) (w1 : World), Kp [] w w1 → (∀ w', Kp [q.bO, q.bH, q.bB] w1 w' → RT w' q.bM q.bO q.bH q.bB (if e = 0 then holdAll k.fs c.env c.l.l else k.fs) → R (.returned (.int .i64 e)) w') → Calls Tryz.prog 57 #[.pointer (some ⟨q.bM, 0, none⟩), .int .i64 c.env, .slice c.l.A c.l.n c.l.c] w1 R) := Lib.hid (fun R w1 k1 h => rhold_any (hQ.kp k1).t c.env (rd_own hc.l (hQ.old.trans k1) (fun s hs => hQ.new s (Qn.own1 q s hs)) hQ.hB) hc.ll (by omega) hc.lo hb (fun w' k' ht => by rw [he] at ht ⊢; exact h w' k' ht))
  have c7 : ∀ o, (w.alloc o).cell? ⟨q.g, 7, none⟩ = some (.slice q.oA k.qo.length q.oc) := fun o => (hQ.g.alloc o).cell 7
  have HB := Lib.hid he
  clear h0 h1 h2 hQ he hc hb
  by_cases h8 : k.qo.length = 16
  · have g1 : decide ((16 : Int) ≤ (k.qo.length : Int)) = true := by simp; omega
    have g2 : decide (16 ≤ k.qo.length) = true := by simp; omega
    have HX := Lib.hid (H0.out h8)
    clear HCk h8 H0 H1 H2
    go_enter Tryz.func11, Tryz.ntmps11
    go_wp2
    first | exact rcast (HX.out q _ ((Kp.refl _ _).alloc _) (HQ.out.kp ((Kp.refl _ _).alloc _)) rfl ⟨rfl, rfl⟩) rfl | exact bodyPost_ret (v := .tuple #[.int .i64 0, .string (S []), .int .i64 10]) (by simp [results, Tryz.results11, go_sem]; try rfl) rfl (HX.out q _ ((Kp.refl _ _).alloc _) (HQ.out.kp ((Kp.refl _ _).alloc _)) rfl ⟨rfl, rfl⟩)
  · have g1 : decide ((16 : Int) ≤ (k.qo.length : Int)) = false := by simp; omega
    have g2 : decide (16 ≤ k.qo.length) = false := by simp; omega
    have h8' : k.qo.length < 16 := by omega
    have BX : Hid (∀ W', Kp [] (w.alloc (.cells #[.int .i64 11, .int .i64 c.env, .int .i64 c.a, .int .i64 c.b, .int .i64 c.c, .string c.s, .slice c.p.A c.p.n c.p.c, .slice c.l.A c.l.n c.l.c] 34)) W' → Bk W' w.heap.size 34 [.int .i64 11, .int .i64 c.env, .int .i64 c.a, .int .i64 c.b, .int .i64 c.c, .string c.s, .slice c.p.A c.p.n c.p.c, .slice c.l.A c.l.n c.l.c]) := Lib.hid (fun W' k' => ((Bk.newAt rfl _ _).cast rfl).kp k' (by simp))
    go_enter Tryz.func11, Tryz.ntmps11
    go_upto_region 42 with (fail)
    refine genV (fun W => ∃ gx, w.heap.size = gx ∧ Kp [] w W ∧ Bk W gx 34 [.int .i64 11, .int .i64 c.env, .int .i64 c.a, .int .i64 c.b, .int .i64 c.c, .string c.s, .slice c.p.A c.p.n c.p.c, .slice c.l.A c.l.n c.l.c]) ⟨_, rfl, (Kp.refl _ _).alloc _, BX.out _ (Kp.refl _ _)⟩ ?_
    rintro W ⟨gx, hgx, kW, bW⟩
    rw [hgx]
    have QW := Lib.hid (HQ.out.kp kW)
    have KW := Lib.hid kW
    have hgq : gx ∉ [q.bO, q.bH, q.bB] := fun hm => by have h1 := HQ.out.t.o.lt; have h2 := HQ.out.t.h.lt; have h3 := HQ.out.t.b.lt; simp at hm; omega
    have HS : Hid (∀ W', Kp [q.bO, q.bH, q.bB] W W' → (fun w' : World => w'.cell? ⟨q.g, 0, none⟩ = some (.pointer (some ⟨q.bM, 0, none⟩)) ∧ w'.cell? ⟨gx, 1, none⟩ = some (.int .i64 c.env) ∧ w'.cell? ⟨gx, 7, none⟩ = some (.slice c.l.A c.l.n c.l.c)) W') := Lib.hid (fun W' k' => ⟨(QW.out.g.kp k' QW.out.nes.1).cell 0, (bW.kp k' hgq).cell 1, (bW.kp k' hgq).cell 7⟩)
    have HBX : Hid (∀ W', Kp [q.bO, q.bH, q.bB] W W' → Bk W' gx 34 [.int .i64 11, .int .i64 c.env, .int .i64 c.a, .int .i64 c.b, .int .i64 c.c, .string c.s, .slice c.p.A c.p.n c.p.c, .slice c.l.A c.l.n c.l.c]) := Lib.hid (fun W' k' => bW.kp k' hgq)
    clear hgx kW bW hgq BX c7
    go_region_held_law (fun w' => w'.cell? ⟨q.g, 0, none⟩ = some (.pointer (some ⟨q.bM, 0, none⟩)) ∧ w'.cell? ⟨gx, 1, none⟩ = some (.int .i64 c.env) ∧ w'.cell? ⟨gx, 7, none⟩ = some (.slice c.l.A c.l.n c.l.c)) (first | with_reducible exact HS.out _ (Kp.drew (Kp.refl _ _)) | with_reducible exact HS.out _ kk2) (first | (go_simp; go_at_call 57; (refine HCk.out _ _ (KW.out.trans (by repeat (first | with_reducible exact Kp.refl _ _ | with_reducible refine Kp.drew ?_))) ?_); intro w2 kk ht2; have kk2 : Kp [q.bO, q.bH, q.bB] W w2 := ((Kp.refl [q.bO, q.bH, q.bB] W).drew).trans kk))
    obtain ⟨q2, k2⟩ := QW.out.setT kk2 ht2
    have bX := HBX.out w2 kk2
    have Q2 := Lib.hid q2
    have K2 := Lib.hid (((KW.out.mono (by simp)).thn k2 (fun s hs => .inl hs)))
    clear HS HBX ht2 q2 k2 HCk kk
    by_cases h9 : e = 0
    · subst h9
      have HX := Lib.hid (H2.out h8' HB.out)
      clear H0 H1 H2 h8 g1 g2
      go_upto_region 45 with (fail)
      have QZ : Hid (Qn w0 B w2 q { k with fs := holdAll k.fs c.env c.l.l }) := Lib.hid (by simpa using Q2.out)
      clear Q2
      obtain ⟨W0, hW0⟩ : ∃ W0, w2 = W0 := ⟨_, rfl⟩
      subst hW0
      obtain ⟨ys, hys⟩ := QZ.out.o
      have HYS := Lib.hid hys
      have hyl := hys.len
      have HRd : Hid (∀ W, Kp [] w2 W → Rd W [] q.oA (ys.flatMap tvals)) := Lib.hid (fun W k' => (hys.rd.kp k' (by simp)).rd.sub (by simp))
      have HLN : Hid ((ys.flatMap tvals).length = k.qo.length * 2) := Lib.hid (by rw [flat_len tvals_len, hyl])
      have HMW : Hid (∀ u ∈ ys.flatMap tvals, u.oneCell' = true) := Lib.hid (tvals1 ys)
      have HNW : Hid (∀ u ∈ tvals ⟨c.env, c.l.A, c.l.n, c.l.c, c.l.l⟩, u.oneCell' = true) := Lib.hid (by intro u hu; simp [tvals] at hu; rcases hu with rfl | rfl <;> rfl)
      have HW0 : Hid (∀ W, Kp [] w2 W → Bk W q.g 67 [.pointer (some ⟨q.bM, 0, none⟩), .pointer (some ⟨q.bD, 0, none⟩), .slice q.fA k.fl.length q.fc, .int .i64 k.nx, .slice none 0 0, .slice q.i1 k.q1.length q.c1, .slice q.i2 k.q2.length q.c2, .slice q.oA k.qo.length q.oc, .int .i64 (k.fo + k.qo.length : Nat), .int .i64 k.dn]) := Lib.hid (fun W k' => QZ.out.g.kp k' (by simp))
      have HX0 : Hid (∀ W, Kp [] w2 W → Bk W gx 34 [.int .i64 11, .int .i64 c.env, .int .i64 c.a, .int .i64 c.b, .int .i64 c.c, .string c.s, .slice c.p.A c.p.n c.p.c, .slice c.l.A c.l.n c.l.c]) := Lib.hid (fun W k' => bX.kp k' (by simp))
      have hwsz : w.heap.size ≤ w2.heap.size := K2.out.size
      have hl16 := checkE_len HB.out
      have Fin : Hid (∀ (A' : Option Addr) (c' : Nat) (W9 : World), Kp [] w2 W9 → Ow W9 142 2 A' (k.qo.length + 1) c' (ys.flatMap tvals ++ tvals ⟨c.env, c.l.A, c.l.n, c.l.c, c.l.l⟩) → Fresh w2.heap.size A' →
          Bk (W9.setCell ⟨q.g, 7, none⟩ (.slice A' (k.qo.length + 1) c')) q.g 67 ([.pointer (some ⟨q.bM, 0, none⟩), .pointer (some ⟨q.bD, 0, none⟩), .slice q.fA k.fl.length q.fc, .int .i64 k.nx, .slice none 0 0, .slice q.i1 k.q1.length q.c1, .slice q.i2 k.q2.length q.c2, .slice A' (k.qo.length + 1) c', .int .i64 (k.fo + k.qo.length : Nat), .int .i64 k.dn]) ∧
          R (.returned (.tuple #[.int .i64 (k.fo + k.qo.length : Nat), .string (S []), .int .i64 0])) ((W9.setCell ⟨q.g, 7, none⟩ (.slice A' (k.qo.length + 1) c')).setCell ⟨q.g, 8, none⟩ (.int .i64 (k.fo + k.qo.length + 1 : Nat)))) := Lib.hid (fun A' c' W9 k9 ho hfr => by
        have hb9 := (QZ.out.g.kp k9 (by simp)).set_ 7 (.slice A' (k.qo.length + 1) c')
        refine ⟨hb9.cast rfl, ?_⟩
        have kg : Kp [q.g] W9 ((W9.setCell ⟨q.g, 7, none⟩ (.slice A' (k.qo.length + 1) c')).setCell ⟨q.g, 8, none⟩ (.int .i64 (k.fo + k.qo.length + 1 : Nat))) := (((Kp.refl [q.g] W9).setCell (p := ⟨q.g, 7, none⟩) (.inl (by simp)) _).setCell (p := ⟨q.g, 8, none⟩) (.inl (by simp)) _)
        have Q9 := QZ.out.kp k9
        have hs : ∀ s ∈ [q.g], s ∈ q.own ∨ W9.heap.size ≤ s := fun s hm => .inl (Qn.own3 q s hm)
        obtain ⟨zs, hzs⟩ := Q9.f
        have hfn : ∀ b ∈ bks A', b ∉ q.own := fun b hb hm => by
          have h1 := hfr b hb
          have h2 := QZ.out.lt _ hm
          omega
        obtain ⟨r1, r2⟩ := Q9.setG (k' := { k with fs := holdAll k.fs c.env c.l.l, qo := k.qo ++ [⟨c.env, c.l.A, c.l.n, c.l.c, c.l.l⟩] }) (fA' := q.fA) (fc' := q.fc) (i1' := q.i1) (c1' := q.c1) (i2' := q.i2) (c2' := q.c2) (oA' := A') (oc' := c') kg rfl rfl ((hb9.set_ 8 _).cast (by simp [QA.cells]; try omega))
          ⟨zs, hzs.kp kg hs⟩ (Q9.in1.kp kg hs) (Q9.in2.kp kg hs) ⟨ys ++ [⟨c.env, c.l.A, c.l.n, c.l.c, c.l.l⟩], by rw [List.map_append, List.map_append, HYS.out.key], by
            rw [List.flatMap_append]
            have := (ho.nb (N := q.own) hfn).kp kg hs
            simpa using this, fun y hy => by
              rcases List.mem_append.1 hy with hy | hy
              · exact HYS.out.p y hy
              · simp at hy; subst hy; exact ⟨HC.out.ll, by have := HC.out.ll; show c.l.n ≤ 100; omega, HC.out.lo, HC.out.l⟩⟩ ⟨Q9.cp.1, Q9.cp.2.1, Q9.cp.2.2.1, by have := Ow.capn ho; simpa using this⟩
        exact HX.out ⟨c.env, c.l.A, c.l.n, c.l.c, c.l.l⟩ rfl _ _ ((K2.out.thn (k9.mono (S' := q.own) (by simp)) (fun s hs => .inl hs)).thn r2 (fun s hs => .inl hs)) r1 rfl ⟨rfl, rfl⟩)
      have hnn : k.qo.length ≤ 1000000 := by omega
      clear bX hys HX HQ
      refine nameA (fun A00 hA00 => ?_)
      have sl0 : A00.tmps.getD 0 undef = .pointer (some ⟨q.g, 0, none⟩) := by rw [hA00]; rfl
      have sl3 : A00.tmps.getD 3 undef = .pointer (some ⟨gx, 0, none⟩) := by rw [hA00]; rfl
      have sz00 : A00.tmps.size = 341 := by rw [hA00]; rfl
      have HA00 := Lib.hid hA00
      clear hA00
      refine wp_region_inv (fun b a' W => ∃ (g1 : Nat) (A1 : Option Addr) (c1 : Nat) (A2 : Option Addr) (c2 : Nat) (g2 : Nat), Hid (a'.defers = A00.defers) ∧ Hid (a'.tmps.size = A00.tmps.size) ∧ Hid (∀ k, k ∉ [286, 287, 288, 289, 290, 291, 292, 293, 294, 295, 296, 297, 298, 299, 300, 301] → a'.tmps.getD k undef = A00.tmps.getD k undef) ∧ (b 0 → a'.tmps.getD 286 undef = .pointer (some ⟨q.g, 0, none⟩)) ∧ (b 1 → a'.tmps.getD 287 undef = .slice (some ⟨g1, 0, none⟩) 0 0) ∧ (b 2 → a'.tmps.getD 288 undef = .pointer (some ⟨q.g, 0, none⟩)) ∧ (b 3 → a'.tmps.getD 289 undef = .pointer (some ⟨q.g, 0, none⟩)) ∧ (b 4 → a'.tmps.getD 290 undef = .pointer (some ⟨q.g, 7, none⟩)) ∧ (b 5 → a'.tmps.getD 291 undef = .slice q.oA k.qo.length q.oc) ∧ (b 6 → a'.tmps.getD 292 undef = .slice A1 k.qo.length c1) ∧ (b 7 → a'.tmps.getD 293 undef = .pointer (some ⟨gx, 1, none⟩)) ∧ (b 8 → a'.tmps.getD 294 undef = .int .i64 c.env) ∧ (b 9 → a'.tmps.getD 295 undef = .pointer (some ⟨gx, 7, none⟩)) ∧ (b 10 → a'.tmps.getD 296 undef = .slice c.l.A c.l.n c.l.c) ∧ (b 11 → a'.tmps.getD 297 undef = .agg #[.int .i64 c.env, .slice c.l.A c.l.n c.l.c]) ∧ (b 12 → a'.tmps.getD 298 undef = .slice (some ⟨g2, 0, none⟩) 1 1) ∧ (b 13 → a'.tmps.getD 299 undef = .slice A2 (k.qo.length + 1) c2) ∧ (b 14 → a'.tmps.getD 300 undef = .pointer (some ⟨q.g, 0, none⟩)) ∧ (b 15 → a'.tmps.getD 301 undef = .pointer (some ⟨q.g, 7, none⟩)) ∧ (b 3 → b 2) ∧ (b 4 → b 3) ∧ (b 5 → b 4) ∧ (b 6 → b 1) ∧ (b 6 → b 5) ∧ (b 8 → b 7) ∧ (b 10 → b 9) ∧ (b 11 → b 8) ∧ (b 11 → b 10) ∧ (b 12 → b 11) ∧ (b 13 → b 6) ∧ (b 13 → b 12) ∧ (b 14 → b 0) ∧ (b 15 → b 14) ∧ (b 16 → b 13) ∧ (b 16 → b 15) ∧ (¬ b 16 → Hid (Kp [] w2 W)) ∧ (b 1 → ¬ b 6 → ¬ b 16 → Hid (w2.heap.size ≤ g1 ∧ Ow W 142 2 (some ⟨g1, 0, none⟩) 0 0 [])) ∧ (b 12 → ¬ b 16 → Hid (w2.heap.size ≤ g2 ∧ Bk W g2 142 (tvals ⟨c.env, c.l.A, c.l.n, c.l.c, c.l.l⟩))) ∧ (b 1 → b 12 → ¬ b 6 → ¬ b 16 → Hid (g1 ≠ g2)) ∧ (b 6 → b 12 → ¬ b 13 → ¬ b 16 → Hid (g2 ∉ bks A1)) ∧ (b 6 → ¬ b 13 → ¬ b 16 → Hid (Fresh w2.heap.size A1 ∧ Ow W 142 2 A1 k.qo.length c1 (ys.flatMap tvals))) ∧ (b 13 → ¬ b 16 → Hid (Fresh w2.heap.size A2 ∧ Ow W 142 2 A2 (k.qo.length + 1) c2 ((ys.flatMap tvals) ++ (tvals ⟨c.env, c.l.A, c.l.n, c.l.c, c.l.l⟩)))) ∧ (b 16 → Hid (∃ W9, Kp [] w2 W9 ∧ Ow W9 142 2 A2 (k.qo.length + 1) c2 ((ys.flatMap tvals) ++ (tvals ⟨c.env, c.l.A, c.l.n, c.l.c, c.l.l⟩)) ∧ Fresh w2.heap.size A2 ∧ W = W9.setCell ⟨q.g, 7, none⟩ (.slice A2 (k.qo.length + 1) c2)))) (by kernel_rfl) (by kernel_rfl) 17 rfl ?_ ?_ ?_
      · exact ⟨0, none, 0, none, 0, 0, Lib.hid rfl, Lib.hid rfl, Lib.hid (fun _ _ => rfl), fun h => absurd h id, fun h => absurd h id, fun h => absurd h id, fun h => absurd h id, fun h => absurd h id, fun h => absurd h id, fun h => absurd h id, fun h => absurd h id, fun h => absurd h id, fun h => absurd h id, fun h => absurd h id, fun h => absurd h id, fun h => absurd h id, fun h => absurd h id, fun h => absurd h id, fun h => absurd h id, fun h => absurd h id, fun h => absurd h id, fun h => absurd h id, fun h => absurd h id, fun h => absurd h id, fun h => absurd h id, fun h => absurd h id, fun h => absurd h id, fun h => absurd h id, fun h => absurd h id, fun h => absurd h id, fun h => absurd h id, fun h => absurd h id, fun h => absurd h id, fun h => absurd h id, fun h => absurd h id, fun _ => Lib.hid ((Kp.refl _ _).drew), fun h => absurd h id, fun h => absurd h id, fun h => absurd h id, fun h => absurd h id, fun h => absurd h id, fun h => absurd h id, fun h => absurd h id⟩
      · intro b a' W i o ho hn hd hI K hK
        obtain ⟨g1, A1, c1, A2, c2, g2, ad, az, af, h0, h1, h2, h3, h4, h5, h6, h7, h8, h9, h10, h11, h12, h13, h14, h15, c3_2, c4_3, c5_4, c6_1, c6_5, c8_7, c10_9, c11_8, c11_10, c12_11, c13_6, c13_12, c14_0, c15_14, c16_13, c16_15, hK1, hg1, hg3, hne, hne2, hg2, hgF, hFin⟩ := hI
        have s0 := (af.out 0 (by decide)).trans sl0
        have s3 := (af.out 3 (by decide)).trans sl3
        match i, ho with
        | 0, ho =>
          injection ho with ho; subst ho
          have nb16 : ¬ b 16 := fun h => hn (c14_0 (c15_14 (c16_15 h)))
          have HK := Lib.hid hK
          obtain ⟨sv0, sw0⟩ := ev_of s0
          clear hK hd
          rw [if_pos (by rfl)]
          go_simp
          exact HK.out _ _ ⟨g1, A1, c1, A2, c2, g2, Lib.hid ad.out, Lib.hid (gd_size.trans az.out), Lib.hid (fun k hk => (gd_ne (by rintro rfl; exact hk (by decide))).trans (af.out k hk)), fun _ => gd_eq (by rw [az.out, sz00]; decide), gdI h1, gdI h2, gdI h3, gdI h4, gdI h5, gdI h6, gdI h7, gdI h8, gdI h9, gdI h10, gdI h11, gdI h12, gdI h13, gdI h14, gdI h15, giI c3_2, giI c4_3, giI c5_4, giI c6_1, giI c6_5, giI c8_7, giI c10_9, giI c11_8, giI c11_10, giI c12_11, giI c13_6, giI c13_12, giI c14_0, giI c15_14, giI c16_13, giI c16_15, fun n16 => (hK1 (fun z => n16 (.inr z))), fun p1 n6 n16 => (hg1 (rlI p1) (fun z => n6 (.inr z)) (fun z => n16 (.inr z))), fun p12 n16 => (hg3 (rlI p12) (fun z => n16 (.inr z))), fun p1 p12 n6 n16 => (hne (rlI p1) (rlI p12) (fun z => n6 (.inr z)) (fun z => n16 (.inr z))), fun p6 p12 n13 n16 => (hne2 (rlI p6) (rlI p12) (fun z => n13 (.inr z)) (fun z => n16 (.inr z))), fun p6 n13 n16 => (hg2 (rlI p6) (fun z => n13 (.inr z)) (fun z => n16 (.inr z))), fun p13 n16 => (hgF (rlI p13) (fun z => n16 (.inr z))), fun p16 => absurd (c14_0 (c15_14 (c16_15 (rlI p16)))) hn⟩
        | 1, ho =>
          injection ho with ho; subst ho
          have nb6 : ¬ b 6 := fun h => hn (c6_1 h)
          have nb13 : ¬ b 13 := fun h => hn (c6_1 (c13_6 h))
          have nb16 : ¬ b 16 := fun h => hn (c6_1 (c13_6 (c16_13 h)))
          have HK := Lib.hid hK
          clear hK hd
          rw [if_pos (by rfl)]
          go_simp
          exact HK.out _ _ ⟨W.heap.size, A1, c1, A2, c2, g2, Lib.hid ad.out, Lib.hid (gd_size.trans az.out), Lib.hid (fun k hk => (gd_ne (by rintro rfl; exact hk (by decide))).trans (af.out k hk)), gdI h0, fun _ => gd_eq (by rw [az.out, sz00]; decide), gdI h2, gdI h3, gdI h4, gdI h5, gdI h6, gdI h7, gdI h8, gdI h9, gdI h10, gdI h11, gdI h12, gdI h13, gdI h14, gdI h15, giI c3_2, giI c4_3, giI c5_4, giI c6_1, giI c6_5, giI c8_7, giI c10_9, giI c11_8, giI c11_10, giI c12_11, giI c13_6, giI c13_12, giI c14_0, giI c15_14, giI c16_13, giI c16_15, fun n16 => Lib.hid (((hK1 (fun z => n16 (.inr z))).out).trans ((Kp.refl [] W).alloc _)), fun p1 n6 n16 => Lib.hid (⟨(hK1 nb16).out.size, Ow.lit W _ 2 #[] 0 (by decide) rfl⟩), fun p12 n16 => Lib.hid (⟨((hg3 (rlI p12) (fun z => n16 (.inr z))).out).1, ((hg3 (rlI p12) (fun z => n16 (.inr z))).out).2.kp ((Kp.refl [] W).alloc _) (by simp)⟩), fun p1 p12 n6 n16 => Lib.hid (fun e => by have := (hg3 (rlI p12) nb16).out.2.lt; omega), fun p6 p12 n13 n16 => absurd (c6_1 (rlI p6)) hn, fun p6 n13 n16 => absurd (c6_1 (rlI p6)) hn, fun p13 n16 => absurd (c6_1 (c13_6 (rlI p13))) hn, fun p16 => absurd (c6_1 (c13_6 (c16_13 (rlI p16)))) hn⟩
        | 2, ho =>
          injection ho with ho; subst ho
          have nb6 : ¬ b 6 := fun h => hn (c3_2 (c4_3 (c5_4 (c6_5 h))))
          have nb13 : ¬ b 13 := fun h => hn (c3_2 (c4_3 (c5_4 (c6_5 (c13_6 h)))))
          have nb16 : ¬ b 16 := fun h => hn (c3_2 (c4_3 (c5_4 (c6_5 (c13_6 (c16_13 h))))))
          have HK := Lib.hid hK
          obtain ⟨sv0, sw0⟩ := ev_of s0
          clear hK hd
          rw [if_pos (by rfl)]
          go_simp
          exact HK.out _ _ ⟨g1, A1, c1, A2, c2, g2, Lib.hid ad.out, Lib.hid (gd_size.trans az.out), Lib.hid (fun k hk => (gd_ne (by rintro rfl; exact hk (by decide))).trans (af.out k hk)), gdI h0, gdI h1, fun _ => gd_eq (by rw [az.out, sz00]; decide), gdI h3, gdI h4, gdI h5, gdI h6, gdI h7, gdI h8, gdI h9, gdI h10, gdI h11, gdI h12, gdI h13, gdI h14, gdI h15, giI c3_2, giI c4_3, giI c5_4, giI c6_1, giI c6_5, giI c8_7, giI c10_9, giI c11_8, giI c11_10, giI c12_11, giI c13_6, giI c13_12, giI c14_0, giI c15_14, giI c16_13, giI c16_15, fun n16 => (hK1 (fun z => n16 (.inr z))), fun p1 n6 n16 => (hg1 (rlI p1) (fun z => n6 (.inr z)) (fun z => n16 (.inr z))), fun p12 n16 => (hg3 (rlI p12) (fun z => n16 (.inr z))), fun p1 p12 n6 n16 => (hne (rlI p1) (rlI p12) (fun z => n6 (.inr z)) (fun z => n16 (.inr z))), fun p6 p12 n13 n16 => absurd (c3_2 (c4_3 (c5_4 (c6_5 (rlI p6))))) hn, fun p6 n13 n16 => absurd (c3_2 (c4_3 (c5_4 (c6_5 (rlI p6))))) hn, fun p13 n16 => absurd (c3_2 (c4_3 (c5_4 (c6_5 (c13_6 (rlI p13)))))) hn, fun p16 => absurd (c3_2 (c4_3 (c5_4 (c6_5 (c13_6 (c16_13 (rlI p16))))))) hn⟩
        | 3, ho =>
          injection ho with ho; subst ho
          have nb6 : ¬ b 6 := fun h => hn (c4_3 (c5_4 (c6_5 h)))
          have nb13 : ¬ b 13 := fun h => hn (c4_3 (c5_4 (c6_5 (c13_6 h))))
          have nb16 : ¬ b 16 := fun h => hn (c4_3 (c5_4 (c6_5 (c13_6 (c16_13 h)))))
          have d2 : b 2 := hd ⟨2, .data⟩ (by simp) rfl
          have HK := Lib.hid hK
          have e2 := h2 d2
          obtain ⟨ev2, ew2⟩ := ev_of e2
          clear hK hd
          rw [if_pos (by rfl)]
          go_simp
          exact HK.out _ _ ⟨g1, A1, c1, A2, c2, g2, Lib.hid ad.out, Lib.hid (gd_size.trans az.out), Lib.hid (fun k hk => (gd_ne (by rintro rfl; exact hk (by decide))).trans (af.out k hk)), gdI h0, gdI h1, gdI h2, fun _ => gd_eq (by rw [az.out, sz00]; decide), gdI h4, gdI h5, gdI h6, gdI h7, gdI h8, gdI h9, gdI h10, gdI h11, gdI h12, gdI h13, gdI h14, gdI h15, fun _ => .inr d2, giI c4_3, giI c5_4, giI c6_1, giI c6_5, giI c8_7, giI c10_9, giI c11_8, giI c11_10, giI c12_11, giI c13_6, giI c13_12, giI c14_0, giI c15_14, giI c16_13, giI c16_15, fun n16 => (hK1 (fun z => n16 (.inr z))), fun p1 n6 n16 => (hg1 (rlI p1) (fun z => n6 (.inr z)) (fun z => n16 (.inr z))), fun p12 n16 => (hg3 (rlI p12) (fun z => n16 (.inr z))), fun p1 p12 n6 n16 => (hne (rlI p1) (rlI p12) (fun z => n6 (.inr z)) (fun z => n16 (.inr z))), fun p6 p12 n13 n16 => absurd (c4_3 (c5_4 (c6_5 (rlI p6)))) hn, fun p6 n13 n16 => absurd (c4_3 (c5_4 (c6_5 (rlI p6)))) hn, fun p13 n16 => absurd (c4_3 (c5_4 (c6_5 (c13_6 (rlI p13))))) hn, fun p16 => absurd (c4_3 (c5_4 (c6_5 (c13_6 (c16_13 (rlI p16)))))) hn⟩
        | 4, ho =>
          injection ho with ho; subst ho
          have nb6 : ¬ b 6 := fun h => hn (c5_4 (c6_5 h))
          have nb13 : ¬ b 13 := fun h => hn (c5_4 (c6_5 (c13_6 h)))
          have nb16 : ¬ b 16 := fun h => hn (c5_4 (c6_5 (c13_6 (c16_13 h))))
          have d3 : b 3 := hd ⟨3, .data⟩ (by simp) rfl
          have HK := Lib.hid hK
          have e3 := h3 d3
          obtain ⟨ev3, ew3⟩ := ev_of e3
          clear hK hd
          rw [if_pos (by rfl)]
          go_simp
          exact HK.out _ _ ⟨g1, A1, c1, A2, c2, g2, Lib.hid ad.out, Lib.hid (gd_size.trans az.out), Lib.hid (fun k hk => (gd_ne (by rintro rfl; exact hk (by decide))).trans (af.out k hk)), gdI h0, gdI h1, gdI h2, gdI h3, fun _ => gd_eq (by rw [az.out, sz00]; decide), gdI h5, gdI h6, gdI h7, gdI h8, gdI h9, gdI h10, gdI h11, gdI h12, gdI h13, gdI h14, gdI h15, giI c3_2, fun _ => .inr d3, giI c5_4, giI c6_1, giI c6_5, giI c8_7, giI c10_9, giI c11_8, giI c11_10, giI c12_11, giI c13_6, giI c13_12, giI c14_0, giI c15_14, giI c16_13, giI c16_15, fun n16 => (hK1 (fun z => n16 (.inr z))), fun p1 n6 n16 => (hg1 (rlI p1) (fun z => n6 (.inr z)) (fun z => n16 (.inr z))), fun p12 n16 => (hg3 (rlI p12) (fun z => n16 (.inr z))), fun p1 p12 n6 n16 => (hne (rlI p1) (rlI p12) (fun z => n6 (.inr z)) (fun z => n16 (.inr z))), fun p6 p12 n13 n16 => absurd (c5_4 (c6_5 (rlI p6))) hn, fun p6 n13 n16 => absurd (c5_4 (c6_5 (rlI p6))) hn, fun p13 n16 => absurd (c5_4 (c6_5 (c13_6 (rlI p13)))) hn, fun p16 => absurd (c5_4 (c6_5 (c13_6 (c16_13 (rlI p16))))) hn⟩
        | 5, ho =>
          injection ho with ho; subst ho
          have nb6 : ¬ b 6 := fun h => hn (c6_5 h)
          have nb13 : ¬ b 13 := fun h => hn (c6_5 (c13_6 h))
          have nb16 : ¬ b 16 := fun h => hn (c6_5 (c13_6 (c16_13 h)))
          have d4 : b 4 := hd ⟨4, .data⟩ (by simp) rfl
          have HK := Lib.hid hK
          have e4 := h4 d4
          obtain ⟨ev4, ew4⟩ := ev_of e4
          have q := (HW0.out W (hK1 nb16).out).cell 7
          simp only [List.getElem?_cons_zero, List.getElem?_cons_succ] at q
          clear hK hd
          rw [if_pos (by rfl)]
          go_simp
          exact HK.out _ _ ⟨g1, A1, c1, A2, c2, g2, Lib.hid ad.out, Lib.hid (gd_size.trans az.out), Lib.hid (fun k hk => (gd_ne (by rintro rfl; exact hk (by decide))).trans (af.out k hk)), gdI h0, gdI h1, gdI h2, gdI h3, gdI h4, fun _ => gd_eq (by rw [az.out, sz00]; decide), gdI h6, gdI h7, gdI h8, gdI h9, gdI h10, gdI h11, gdI h12, gdI h13, gdI h14, gdI h15, giI c3_2, giI c4_3, fun _ => .inr d4, giI c6_1, giI c6_5, giI c8_7, giI c10_9, giI c11_8, giI c11_10, giI c12_11, giI c13_6, giI c13_12, giI c14_0, giI c15_14, giI c16_13, giI c16_15, fun n16 => (hK1 (fun z => n16 (.inr z))), fun p1 n6 n16 => (hg1 (rlI p1) (fun z => n6 (.inr z)) (fun z => n16 (.inr z))), fun p12 n16 => (hg3 (rlI p12) (fun z => n16 (.inr z))), fun p1 p12 n6 n16 => (hne (rlI p1) (rlI p12) (fun z => n6 (.inr z)) (fun z => n16 (.inr z))), fun p6 p12 n13 n16 => absurd (c6_5 (rlI p6)) hn, fun p6 n13 n16 => absurd (c6_5 (rlI p6)) hn, fun p13 n16 => absurd (c6_5 (c13_6 (rlI p13))) hn, fun p16 => absurd (c6_5 (c13_6 (c16_13 (rlI p16)))) hn⟩
        | 6, ho =>
          injection ho with ho; subst ho
          have nb6 := hn
          have nb13 : ¬ b 13 := fun h => hn (c13_6 h)
          have nb16 : ¬ b 16 := fun h => hn (c13_6 (c16_13 h))
          have d1 : b 1 := hd ⟨1, .data⟩ (by simp) rfl
          have d5 : b 5 := hd ⟨5, .data⟩ (by simp) rfl
          have HK := Lib.hid hK
          have e1 := h1 d1
          obtain ⟨ev1, ew1⟩ := ev_of e1
          have e5 := h5 d5
          obtain ⟨ev5, ew5⟩ := ev_of e5
          clear hK hd
          rw [if_pos (by rfl)]
          refine wp_app _ (.tmp 287) (.tmp 291) 65 rfl elt_rt (some ⟨g1, 0, none⟩) 0 0 [] ev1 (hg1 d1 nb6 nb16).out.2 [] q.oA k.qo.length q.oc (ys.flatMap tvals) ev5 (HRd.out W (hK1 nb16).out) HLN.out HMW.out (by omega) (fun A1' c1' w1' ho1 hk1 hA1 => ?_)
          rw [Nat.zero_add] at ho1 ⊢
          simp only [List.nil_append] at ho1
          have ho1 := Lib.hid ho1
          exact HK.out _ _ ⟨g1, A1', c1', A2, c2, g2, Lib.hid ad.out, Lib.hid (gd_size.trans az.out), Lib.hid (fun k hk => (gd_ne (by rintro rfl; exact hk (by decide))).trans (af.out k hk)), gdI h0, gdI h1, gdI h2, gdI h3, gdI h4, gdI h5, fun _ => gd_eq (by rw [az.out, sz00]; decide), gdI h7, gdI h8, gdI h9, gdI h10, gdI h11, gdI h12, gdI h13, gdI h14, gdI h15, giI c3_2, giI c4_3, giI c5_4, fun _ => .inr d1, fun _ => .inr d5, giI c8_7, giI c10_9, giI c11_8, giI c11_10, giI c12_11, giI c13_6, giI c13_12, giI c14_0, giI c15_14, giI c16_13, giI c16_15, fun n16 => Lib.hid ((hK1 nb16).out.thn hk1 (fun s hs => .inr (by simp [bks] at hs; have := (hg1 d1 nb6 nb16).out.1; omega))), fun _ z _ => absurd (.inl rfl) z, fun p12 n16 => Lib.hid (⟨(hg3 (rlI p12) nb16).out.1, (hg3 (rlI p12) nb16).out.2.kp hk1 (by have := (hne d1 (rlI p12) nb6 nb16).out; simp [bks]; omega)⟩), fun _ _ z _ => absurd (.inl rfl) z, fun p6 p12 n13 n16 => Lib.hid (by have h9 := (hne d1 (rlI p12) nb6 nb16).out; have h8 := (hg3 (rlI p12) nb16).out.2.lt; rcases hA1 with rfl | rfl <;> simp [bks] <;> omega), fun p6 n13 n16 => Lib.hid (⟨by rcases hA1 with rfl | rfl <;> intro s hs <;> simp [bks] at hs <;> (have := (hg1 d1 nb6 nb16).out.1; have := (hK1 nb16).out.size; omega), ho1.out⟩), fun p13 n16 => absurd (c13_6 (rlI p13)) hn, fun p16 => absurd (c13_6 (c16_13 (rlI p16))) hn⟩
        | 7, ho =>
          injection ho with ho; subst ho
          have nb13 : ¬ b 13 := fun h => hn (c8_7 (c11_8 (c12_11 (c13_12 h))))
          have nb16 : ¬ b 16 := fun h => hn (c8_7 (c11_8 (c12_11 (c13_12 (c16_13 h)))))
          have HK := Lib.hid hK
          obtain ⟨sv3, sw3⟩ := ev_of s3
          clear hK hd
          rw [if_pos (by rfl)]
          go_simp
          exact HK.out _ _ ⟨g1, A1, c1, A2, c2, g2, Lib.hid ad.out, Lib.hid (gd_size.trans az.out), Lib.hid (fun k hk => (gd_ne (by rintro rfl; exact hk (by decide))).trans (af.out k hk)), gdI h0, gdI h1, gdI h2, gdI h3, gdI h4, gdI h5, gdI h6, fun _ => gd_eq (by rw [az.out, sz00]; decide), gdI h8, gdI h9, gdI h10, gdI h11, gdI h12, gdI h13, gdI h14, gdI h15, giI c3_2, giI c4_3, giI c5_4, giI c6_1, giI c6_5, giI c8_7, giI c10_9, giI c11_8, giI c11_10, giI c12_11, giI c13_6, giI c13_12, giI c14_0, giI c15_14, giI c16_13, giI c16_15, fun n16 => (hK1 (fun z => n16 (.inr z))), fun p1 n6 n16 => (hg1 (rlI p1) (fun z => n6 (.inr z)) (fun z => n16 (.inr z))), fun p12 n16 => absurd (c8_7 (c11_8 (c12_11 (rlI p12)))) hn, fun p1 p12 n6 n16 => absurd (c8_7 (c11_8 (c12_11 (rlI p12)))) hn, fun p6 p12 n13 n16 => absurd (c8_7 (c11_8 (c12_11 (rlI p12)))) hn, fun p6 n13 n16 => (hg2 (rlI p6) (fun z => n13 (.inr z)) (fun z => n16 (.inr z))), fun p13 n16 => absurd (c8_7 (c11_8 (c12_11 (c13_12 (rlI p13))))) hn, fun p16 => absurd (c8_7 (c11_8 (c12_11 (c13_12 (c16_13 (rlI p16)))))) hn⟩
        | 8, ho =>
          injection ho with ho; subst ho
          have nb13 : ¬ b 13 := fun h => hn (c11_8 (c12_11 (c13_12 h)))
          have nb16 : ¬ b 16 := fun h => hn (c11_8 (c12_11 (c13_12 (c16_13 h))))
          have d7 : b 7 := hd ⟨7, .data⟩ (by simp) rfl
          have HK := Lib.hid hK
          have e7 := h7 d7
          obtain ⟨ev7, ew7⟩ := ev_of e7
          have q := (HX0.out W (hK1 nb16).out).cell 1
          simp only [List.getElem?_cons_zero, List.getElem?_cons_succ] at q
          clear hK hd
          rw [if_pos (by rfl)]
          go_simp
          exact HK.out _ _ ⟨g1, A1, c1, A2, c2, g2, Lib.hid ad.out, Lib.hid (gd_size.trans az.out), Lib.hid (fun k hk => (gd_ne (by rintro rfl; exact hk (by decide))).trans (af.out k hk)), gdI h0, gdI h1, gdI h2, gdI h3, gdI h4, gdI h5, gdI h6, gdI h7, fun _ => gd_eq (by rw [az.out, sz00]; decide), gdI h9, gdI h10, gdI h11, gdI h12, gdI h13, gdI h14, gdI h15, giI c3_2, giI c4_3, giI c5_4, giI c6_1, giI c6_5, fun _ => .inr d7, giI c10_9, giI c11_8, giI c11_10, giI c12_11, giI c13_6, giI c13_12, giI c14_0, giI c15_14, giI c16_13, giI c16_15, fun n16 => (hK1 (fun z => n16 (.inr z))), fun p1 n6 n16 => (hg1 (rlI p1) (fun z => n6 (.inr z)) (fun z => n16 (.inr z))), fun p12 n16 => absurd (c11_8 (c12_11 (rlI p12))) hn, fun p1 p12 n6 n16 => absurd (c11_8 (c12_11 (rlI p12))) hn, fun p6 p12 n13 n16 => absurd (c11_8 (c12_11 (rlI p12))) hn, fun p6 n13 n16 => (hg2 (rlI p6) (fun z => n13 (.inr z)) (fun z => n16 (.inr z))), fun p13 n16 => absurd (c11_8 (c12_11 (c13_12 (rlI p13)))) hn, fun p16 => absurd (c11_8 (c12_11 (c13_12 (c16_13 (rlI p16))))) hn⟩
        | 9, ho =>
          injection ho with ho; subst ho
          have nb13 : ¬ b 13 := fun h => hn (c10_9 (c11_10 (c12_11 (c13_12 h))))
          have nb16 : ¬ b 16 := fun h => hn (c10_9 (c11_10 (c12_11 (c13_12 (c16_13 h)))))
          have HK := Lib.hid hK
          obtain ⟨sv3, sw3⟩ := ev_of s3
          clear hK hd
          rw [if_pos (by rfl)]
          go_simp
          exact HK.out _ _ ⟨g1, A1, c1, A2, c2, g2, Lib.hid ad.out, Lib.hid (gd_size.trans az.out), Lib.hid (fun k hk => (gd_ne (by rintro rfl; exact hk (by decide))).trans (af.out k hk)), gdI h0, gdI h1, gdI h2, gdI h3, gdI h4, gdI h5, gdI h6, gdI h7, gdI h8, fun _ => gd_eq (by rw [az.out, sz00]; decide), gdI h10, gdI h11, gdI h12, gdI h13, gdI h14, gdI h15, giI c3_2, giI c4_3, giI c5_4, giI c6_1, giI c6_5, giI c8_7, giI c10_9, giI c11_8, giI c11_10, giI c12_11, giI c13_6, giI c13_12, giI c14_0, giI c15_14, giI c16_13, giI c16_15, fun n16 => (hK1 (fun z => n16 (.inr z))), fun p1 n6 n16 => (hg1 (rlI p1) (fun z => n6 (.inr z)) (fun z => n16 (.inr z))), fun p12 n16 => absurd (c10_9 (c11_10 (c12_11 (rlI p12)))) hn, fun p1 p12 n6 n16 => absurd (c10_9 (c11_10 (c12_11 (rlI p12)))) hn, fun p6 p12 n13 n16 => absurd (c10_9 (c11_10 (c12_11 (rlI p12)))) hn, fun p6 n13 n16 => (hg2 (rlI p6) (fun z => n13 (.inr z)) (fun z => n16 (.inr z))), fun p13 n16 => absurd (c10_9 (c11_10 (c12_11 (c13_12 (rlI p13))))) hn, fun p16 => absurd (c10_9 (c11_10 (c12_11 (c13_12 (c16_13 (rlI p16)))))) hn⟩
        | 10, ho =>
          injection ho with ho; subst ho
          have nb13 : ¬ b 13 := fun h => hn (c11_10 (c12_11 (c13_12 h)))
          have nb16 : ¬ b 16 := fun h => hn (c11_10 (c12_11 (c13_12 (c16_13 h))))
          have d9 : b 9 := hd ⟨9, .data⟩ (by simp) rfl
          have HK := Lib.hid hK
          have e9 := h9 d9
          obtain ⟨ev9, ew9⟩ := ev_of e9
          have q := (HX0.out W (hK1 nb16).out).cell 7
          simp only [List.getElem?_cons_zero, List.getElem?_cons_succ] at q
          clear hK hd
          rw [if_pos (by rfl)]
          go_simp
          exact HK.out _ _ ⟨g1, A1, c1, A2, c2, g2, Lib.hid ad.out, Lib.hid (gd_size.trans az.out), Lib.hid (fun k hk => (gd_ne (by rintro rfl; exact hk (by decide))).trans (af.out k hk)), gdI h0, gdI h1, gdI h2, gdI h3, gdI h4, gdI h5, gdI h6, gdI h7, gdI h8, gdI h9, fun _ => gd_eq (by rw [az.out, sz00]; decide), gdI h11, gdI h12, gdI h13, gdI h14, gdI h15, giI c3_2, giI c4_3, giI c5_4, giI c6_1, giI c6_5, giI c8_7, fun _ => .inr d9, giI c11_8, giI c11_10, giI c12_11, giI c13_6, giI c13_12, giI c14_0, giI c15_14, giI c16_13, giI c16_15, fun n16 => (hK1 (fun z => n16 (.inr z))), fun p1 n6 n16 => (hg1 (rlI p1) (fun z => n6 (.inr z)) (fun z => n16 (.inr z))), fun p12 n16 => absurd (c11_10 (c12_11 (rlI p12))) hn, fun p1 p12 n6 n16 => absurd (c11_10 (c12_11 (rlI p12))) hn, fun p6 p12 n13 n16 => absurd (c11_10 (c12_11 (rlI p12))) hn, fun p6 n13 n16 => (hg2 (rlI p6) (fun z => n13 (.inr z)) (fun z => n16 (.inr z))), fun p13 n16 => absurd (c11_10 (c12_11 (c13_12 (rlI p13)))) hn, fun p16 => absurd (c11_10 (c12_11 (c13_12 (c16_13 (rlI p16))))) hn⟩
        | 11, ho =>
          injection ho with ho; subst ho
          have nb13 : ¬ b 13 := fun h => hn (c12_11 (c13_12 h))
          have nb16 : ¬ b 16 := fun h => hn (c12_11 (c13_12 (c16_13 h)))
          have d8 : b 8 := hd ⟨8, .data⟩ (by simp) rfl
          have d10 : b 10 := hd ⟨10, .data⟩ (by simp) rfl
          have HK := Lib.hid hK
          have e8 := h8 d8
          obtain ⟨ev8, ew8⟩ := ev_of e8
          have e10 := h10 d10
          obtain ⟨ev10, ew10⟩ := ev_of e10
          clear hK hd
          rw [if_pos (by rfl)]
          go_simp
          exact HK.out _ _ ⟨g1, A1, c1, A2, c2, g2, Lib.hid ad.out, Lib.hid (gd_size.trans az.out), Lib.hid (fun k hk => (gd_ne (by rintro rfl; exact hk (by decide))).trans (af.out k hk)), gdI h0, gdI h1, gdI h2, gdI h3, gdI h4, gdI h5, gdI h6, gdI h7, gdI h8, gdI h9, gdI h10, fun _ => gd_eq (by rw [az.out, sz00]; decide), gdI h12, gdI h13, gdI h14, gdI h15, giI c3_2, giI c4_3, giI c5_4, giI c6_1, giI c6_5, giI c8_7, giI c10_9, fun _ => .inr d8, fun _ => .inr d10, giI c12_11, giI c13_6, giI c13_12, giI c14_0, giI c15_14, giI c16_13, giI c16_15, fun n16 => (hK1 (fun z => n16 (.inr z))), fun p1 n6 n16 => (hg1 (rlI p1) (fun z => n6 (.inr z)) (fun z => n16 (.inr z))), fun p12 n16 => absurd (c12_11 (rlI p12)) hn, fun p1 p12 n6 n16 => absurd (c12_11 (rlI p12)) hn, fun p6 p12 n13 n16 => absurd (c12_11 (rlI p12)) hn, fun p6 n13 n16 => (hg2 (rlI p6) (fun z => n13 (.inr z)) (fun z => n16 (.inr z))), fun p13 n16 => absurd (c12_11 (c13_12 (rlI p13))) hn, fun p16 => absurd (c12_11 (c13_12 (c16_13 (rlI p16)))) hn⟩
        | 12, ho =>
          injection ho with ho; subst ho
          have nb13 : ¬ b 13 := fun h => hn (c13_12 h)
          have nb16 : ¬ b 16 := fun h => hn (c13_12 (c16_13 h))
          have d11 : b 11 := hd ⟨11, .data⟩ (by simp) rfl
          have HK := Lib.hid hK
          have e11 := h11 d11
          obtain ⟨ev11, ew11⟩ := ev_of e11
          clear hK hd
          rw [if_pos (by rfl)]
          go_simp
          exact HK.out _ _ ⟨g1, A1, c1, A2, c2, W.heap.size, Lib.hid ad.out, Lib.hid (gd_size.trans az.out), Lib.hid (fun k hk => (gd_ne (by rintro rfl; exact hk (by decide))).trans (af.out k hk)), gdI h0, gdI h1, gdI h2, gdI h3, gdI h4, gdI h5, gdI h6, gdI h7, gdI h8, gdI h9, gdI h10, gdI h11, fun _ => gd_eq (by rw [az.out, sz00]; decide), gdI h13, gdI h14, gdI h15, giI c3_2, giI c4_3, giI c5_4, giI c6_1, giI c6_5, giI c8_7, giI c10_9, giI c11_8, giI c11_10, fun _ => .inr d11, giI c13_6, giI c13_12, giI c14_0, giI c15_14, giI c16_13, giI c16_15, fun n16 => Lib.hid (((hK1 (fun z => n16 (.inr z))).out).trans ((Kp.refl [] W).alloc _)), fun p1 n6 n16 => Lib.hid (⟨((hg1 (rlI p1) (fun z => n6 (.inr z)) (fun z => n16 (.inr z))).out).1, ((hg1 (rlI p1) (fun z => n6 (.inr z)) (fun z => n16 (.inr z))).out).2.kp ((Kp.refl [] W).alloc _) (by simp)⟩), fun p12 n16 => Lib.hid (⟨(hK1 nb16).out.size, (Bk.newAt rfl _ _).cast rfl⟩), fun p1 p12 n6 n16 => Lib.hid (fun e => by have := (hg1 (rlI p1) (fun z => n6 (.inr z)) nb16).out.2.lt g1 (by simp [bks]); omega), fun p6 p12 n13 n16 => Lib.hid (fun hm => by have := (hg2 (rlI p6) (fun z => n13 (.inr z)) nb16).out.2.lt _ hm; omega), fun p6 n13 n16 => Lib.hid (⟨((hg2 (rlI p6) (fun z => n13 (.inr z)) (fun z => n16 (.inr z))).out).1, ((hg2 (rlI p6) (fun z => n13 (.inr z)) (fun z => n16 (.inr z))).out).2.kp ((Kp.refl [] W).alloc _) (by simp)⟩), fun p13 n16 => absurd (c13_12 (rlI p13)) hn, fun p16 => absurd (c13_12 (c16_13 (rlI p16))) hn⟩
        | 13, ho =>
          injection ho with ho; subst ho
          have nb13 := hn
          have nb16 : ¬ b 16 := fun h => hn (c16_13 h)
          have d6 : b 6 := hd ⟨6, .data⟩ (by simp) rfl
          have d12 : b 12 := hd ⟨12, .data⟩ (by simp) rfl
          have HK := Lib.hid hK
          have e6 := h6 d6
          obtain ⟨ev6, ew6⟩ := ev_of e6
          have e12 := h12 d12
          obtain ⟨ev12, ew12⟩ := ev_of e12
          clear hK hd
          rw [if_pos (by rfl)]
          refine wp_app _ (.tmp 292) (.tmp 298) 65 rfl elt_rt A1 k.qo.length c1 _ ev6 (hg2 d6 nb13 nb16).out.2 [] (some ⟨g2, 0, none⟩) 1 1 (tvals ⟨c.env, c.l.A, c.l.n, c.l.c, c.l.l⟩) ev12 (Rd.of_bk (hg3 d12 nb16).out.2 (by simp)) rfl HNW.out (by omega) (fun A2' c2' w2' ho2 hk2 hA2 => ?_)
          have ho2 := Lib.hid ho2
          exact HK.out _ _ ⟨g1, A1, c1, A2', c2', g2, Lib.hid ad.out, Lib.hid (gd_size.trans az.out), Lib.hid (fun k hk => (gd_ne (by rintro rfl; exact hk (by decide))).trans (af.out k hk)), gdI h0, gdI h1, gdI h2, gdI h3, gdI h4, gdI h5, gdI h6, gdI h7, gdI h8, gdI h9, gdI h10, gdI h11, gdI h12, fun _ => gd_eq (by rw [az.out, sz00]; decide), gdI h14, gdI h15, giI c3_2, giI c4_3, giI c5_4, giI c6_1, giI c6_5, giI c8_7, giI c10_9, giI c11_8, giI c11_10, giI c12_11, fun _ => .inr d6, fun _ => .inr d12, giI c14_0, giI c15_14, giI c16_13, giI c16_15, fun n16 => Lib.hid ((hK1 nb16).out.thn hk2 (fun s hs => .inr ((hg2 d6 nb13 nb16).out.1 s hs))), fun p1 n6 n16 => Lib.hid (absurd d6 (fun z => n6 (.inr z))), fun p12 n16 => Lib.hid (⟨(hg3 (rlI p12) nb16).out.1, (hg3 (rlI p12) nb16).out.2.kp hk2 (hne2 d6 d12 nb13 nb16).out⟩), fun p1 p12 n6 n16 => Lib.hid (absurd d6 (fun z => n6 (.inr z))), fun _ _ z _ => absurd (.inl rfl) z, fun _ z _ => absurd (.inl rfl) z, fun p13 n16 => Lib.hid (⟨by rcases hA2 with rfl | rfl; exact (hg2 d6 nb13 nb16).out.1; (intro s hs; simp [bks] at hs; have := (hK1 nb16).out.size; omega), ho2.out⟩), fun p16 => absurd (c16_13 (rlI p16)) hn⟩
        | 14, ho =>
          injection ho with ho; subst ho
          have nb16 : ¬ b 16 := fun h => hn (c15_14 (c16_15 h))
          have d0 : b 0 := hd ⟨0, .data⟩ (by simp) rfl
          have HK := Lib.hid hK
          have e0 := h0 d0
          obtain ⟨ev0, ew0⟩ := ev_of e0
          clear hK hd
          rw [if_pos (by rfl)]
          go_simp
          exact HK.out _ _ ⟨g1, A1, c1, A2, c2, g2, Lib.hid ad.out, Lib.hid (gd_size.trans az.out), Lib.hid (fun k hk => (gd_ne (by rintro rfl; exact hk (by decide))).trans (af.out k hk)), gdI h0, gdI h1, gdI h2, gdI h3, gdI h4, gdI h5, gdI h6, gdI h7, gdI h8, gdI h9, gdI h10, gdI h11, gdI h12, gdI h13, fun _ => gd_eq (by rw [az.out, sz00]; decide), gdI h15, giI c3_2, giI c4_3, giI c5_4, giI c6_1, giI c6_5, giI c8_7, giI c10_9, giI c11_8, giI c11_10, giI c12_11, giI c13_6, giI c13_12, fun _ => .inr d0, giI c15_14, giI c16_13, giI c16_15, fun n16 => (hK1 (fun z => n16 (.inr z))), fun p1 n6 n16 => (hg1 (rlI p1) (fun z => n6 (.inr z)) (fun z => n16 (.inr z))), fun p12 n16 => (hg3 (rlI p12) (fun z => n16 (.inr z))), fun p1 p12 n6 n16 => (hne (rlI p1) (rlI p12) (fun z => n6 (.inr z)) (fun z => n16 (.inr z))), fun p6 p12 n13 n16 => (hne2 (rlI p6) (rlI p12) (fun z => n13 (.inr z)) (fun z => n16 (.inr z))), fun p6 n13 n16 => (hg2 (rlI p6) (fun z => n13 (.inr z)) (fun z => n16 (.inr z))), fun p13 n16 => (hgF (rlI p13) (fun z => n16 (.inr z))), fun p16 => absurd (c15_14 (c16_15 (rlI p16))) hn⟩
        | 15, ho =>
          injection ho with ho; subst ho
          have nb16 : ¬ b 16 := fun h => hn (c16_15 h)
          have d14 : b 14 := hd ⟨14, .data⟩ (by simp) rfl
          have HK := Lib.hid hK
          have e14 := h14 d14
          obtain ⟨ev14, ew14⟩ := ev_of e14
          clear hK hd
          rw [if_pos (by rfl)]
          go_simp
          exact HK.out _ _ ⟨g1, A1, c1, A2, c2, g2, Lib.hid ad.out, Lib.hid (gd_size.trans az.out), Lib.hid (fun k hk => (gd_ne (by rintro rfl; exact hk (by decide))).trans (af.out k hk)), gdI h0, gdI h1, gdI h2, gdI h3, gdI h4, gdI h5, gdI h6, gdI h7, gdI h8, gdI h9, gdI h10, gdI h11, gdI h12, gdI h13, gdI h14, fun _ => gd_eq (by rw [az.out, sz00]; decide), giI c3_2, giI c4_3, giI c5_4, giI c6_1, giI c6_5, giI c8_7, giI c10_9, giI c11_8, giI c11_10, giI c12_11, giI c13_6, giI c13_12, giI c14_0, fun _ => .inr d14, giI c16_13, giI c16_15, fun n16 => (hK1 (fun z => n16 (.inr z))), fun p1 n6 n16 => (hg1 (rlI p1) (fun z => n6 (.inr z)) (fun z => n16 (.inr z))), fun p12 n16 => (hg3 (rlI p12) (fun z => n16 (.inr z))), fun p1 p12 n6 n16 => (hne (rlI p1) (rlI p12) (fun z => n6 (.inr z)) (fun z => n16 (.inr z))), fun p6 p12 n13 n16 => (hne2 (rlI p6) (rlI p12) (fun z => n13 (.inr z)) (fun z => n16 (.inr z))), fun p6 n13 n16 => (hg2 (rlI p6) (fun z => n13 (.inr z)) (fun z => n16 (.inr z))), fun p13 n16 => (hgF (rlI p13) (fun z => n16 (.inr z))), fun p16 => absurd (c16_15 (rlI p16)) hn⟩
        | 16, ho =>
          injection ho with ho; subst ho
          have nb16 := hn
          have d13 : b 13 := hd ⟨13, .data⟩ (by simp) rfl
          have d15 : b 15 := hd ⟨15, .data⟩ (by simp) rfl
          have HK := Lib.hid hK
          have e13 := h13 d13
          obtain ⟨ev13, ew13⟩ := ev_of e13
          have e15 := h15 d15
          obtain ⟨ev15, ew15⟩ := ev_of e15
          have zk := (hK1 nb16).out
          have zb := HW0.out W zk
          have zl := zb.lt
          have zf := zb.frozen 7
          have zc := zb.cell 7
          simp only [List.getElem?_cons_zero, List.getElem?_cons_succ] at zc
          clear hK hd
          rw [if_pos (by rfl)]
          go_simp
          exact HK.out _ _ ⟨g1, A1, c1, A2, c2, g2, ad, az, af, fun h => h0 (rlI h), fun h => h1 (rlI h), fun h => h2 (rlI h), fun h => h3 (rlI h), fun h => h4 (rlI h), fun h => h5 (rlI h), fun h => h6 (rlI h), fun h => h7 (rlI h), fun h => h8 (rlI h), fun h => h9 (rlI h), fun h => h10 (rlI h), fun h => h11 (rlI h), fun h => h12 (rlI h), fun h => h13 (rlI h), fun h => h14 (rlI h), fun h => h15 (rlI h), giI c3_2, giI c4_3, giI c5_4, giI c6_1, giI c6_5, giI c8_7, giI c10_9, giI c11_8, giI c11_10, giI c12_11, giI c13_6, giI c13_12, giI c14_0, giI c15_14, fun _ => .inr d13, fun _ => .inr d15, fun  z => absurd (.inl rfl) z, fun _ _ z => absurd (.inl rfl) z, fun _ z => absurd (.inl rfl) z, fun _ _ _ z => absurd (.inl rfl) z, fun _ _ _ z => absurd (.inl rfl) z, fun _ _ z => absurd (.inl rfl) z, fun _ z => absurd (.inl rfl) z, fun p16 => Lib.hid (⟨W, (hK1 nb16).out, (hgF d13 nb16).out.2, (hgF d13 nb16).out.1, rfl⟩)⟩
        | (n + 17), ho => exact absurd ho (by simp)
      · intro b a' W hb hI
        obtain ⟨g1, A1, c1, A2, c2, g2, ad, az, af, h0, h1, h2, h3, h4, h5, h6, h7, h8, h9, h10, h11, h12, h13, h14, h15, c3_2, c4_3, c5_4, c6_1, c6_5, c8_7, c10_9, c11_8, c11_10, c12_11, c13_6, c13_12, c14_0, c15_14, c16_13, c16_15, hK1, hg1, hg3, hne, hne2, hg2, hgF, hFin⟩ := hI
        clear hK1
        clear hg1
        clear hg3
        clear hne
        clear hne2
        clear hg2
        clear hgF
        have hFin := hFin (hb 16 (by decide))
        have ha := act_of (L := [(286, .pointer (some ⟨q.g, 0, none⟩)), (287, .slice (some ⟨g1, 0, none⟩) 0 0), (288, .pointer (some ⟨q.g, 0, none⟩)), (289, .pointer (some ⟨q.g, 0, none⟩)), (290, .pointer (some ⟨q.g, 7, none⟩)), (291, .slice q.oA k.qo.length q.oc), (292, .slice A1 k.qo.length c1), (293, .pointer (some ⟨gx, 1, none⟩)), (294, .int .i64 c.env), (295, .pointer (some ⟨gx, 7, none⟩)), (296, .slice c.l.A c.l.n c.l.c), (297, .agg #[.int .i64 c.env, .slice c.l.A c.l.n c.l.c]), (298, .slice (some ⟨g2, 0, none⟩) 1 1), (299, .slice A2 (k.qo.length + 1) c2), (300, .pointer (some ⟨q.g, 0, none⟩)), (301, .pointer (some ⟨q.g, 7, none⟩))]) (show ([286, 287, 288, 289, 290, 291, 292, 293, 294, 295, 296, 297, 298, 299, 300, 301] : List Nat).Nodup by decide) ad.out az.out af.out (by
          intro p hp
          rw [sz00]
          simp only [List.mem_cons, List.not_mem_nil, or_false] at hp
          rcases hp with rfl | rfl | rfl | rfl | rfl | rfl | rfl | rfl | rfl | rfl | rfl | rfl | rfl | rfl | rfl | rfl
          · exact ⟨show 286 < 341 by decide, h0 (hb 0 (by decide))⟩
          · exact ⟨show 287 < 341 by decide, h1 (hb 1 (by decide))⟩
          · exact ⟨show 288 < 341 by decide, h2 (hb 2 (by decide))⟩
          · exact ⟨show 289 < 341 by decide, h3 (hb 3 (by decide))⟩
          · exact ⟨show 290 < 341 by decide, h4 (hb 4 (by decide))⟩
          · exact ⟨show 291 < 341 by decide, h5 (hb 5 (by decide))⟩
          · exact ⟨show 292 < 341 by decide, h6 (hb 6 (by decide))⟩
          · exact ⟨show 293 < 341 by decide, h7 (hb 7 (by decide))⟩
          · exact ⟨show 294 < 341 by decide, h8 (hb 8 (by decide))⟩
          · exact ⟨show 295 < 341 by decide, h9 (hb 9 (by decide))⟩
          · exact ⟨show 296 < 341 by decide, h10 (hb 10 (by decide))⟩
          · exact ⟨show 297 < 341 by decide, h11 (hb 11 (by decide))⟩
          · exact ⟨show 298 < 341 by decide, h12 (hb 12 (by decide))⟩
          · exact ⟨show 299 < 341 by decide, h13 (hb 13 (by decide))⟩
          · exact ⟨show 300 < 341 by decide, h14 (hb 14 (by decide))⟩
          · exact ⟨show 301 < 341 by decide, h15 (hb 15 (by decide))⟩
          )
        rw [HA00.out] at ha
        simp only [List.foldl_cons, List.foldl_nil, Act.put, List.setIfInBounds_toArray, List.set_cons_zero, List.set_cons_succ] at ha
        clear h0 h1 h2 h3 h4 h5 h6 h7 h8 h9 h10 h11 h12 h13 h14 h15 c3_2 c4_3 c5_4 c6_1 c6_5 c8_7 c10_9 c11_8 c11_10 c12_11 c13_6 c13_12 c14_0 c15_14 c16_13 c16_15 hb ad az af HA00 sz00 sl0 sl3
        subst ha
        obtain ⟨W9, z1, z2, z3, rfl⟩ := hFin.out
        obtain ⟨y1, y2⟩ := Fin.out _ _ _ z1 z2 z3
        have Y2 := Lib.hid y2
        have f3 := y1.cell 8
        have f3z := y1.frozen 8
        have f3l := y1.lt
        simp only [List.getElem?_cons_zero, List.getElem?_cons_succ] at f3
        have hw1 : IntKind.i64.wrap (((k.fo + k.qo.length : Nat) : Int) + 1) = ((k.fo + k.qo.length + 1 : Nat) : Int) := by rw [wrapV (by omega) (by omega)]; omega
        have f4 : ((W9.setCell ⟨q.g, 7, none⟩ (.slice A2 (k.qo.length + 1) c2)).setCell ⟨q.g, 8, none⟩ (.int .i64 (k.fo + k.qo.length + 1 : Nat))).cell? ⟨q.g, 8, none⟩ = some (.int .i64 (k.fo + k.qo.length + 1 : Nat)) := (y1.set_ 8 _).cell 8
        obtain ⟨sn, hsn⟩ : ∃ sn, k.fo + k.qo.length = sn := ⟨_, rfl⟩
        rw [hsn] at hw1 f3 f4 Y2
        clear hFin z1 z2 z3 y1 y2 Fin HRd HLN HMW HNW HW0 HX0 QZ KW HYS HC K2 QW
        go_wp2
        first | exact rcast Y2.out (by simp) | exact bodyPost_ret (v := .tuple #[.int .i64 sn, .string (S []), .int .i64 0]) (by simp [results, Tryz.results11, go_sem]; try rfl) rfl Y2.out
    · have HX := Lib.hid (H1.out h8' (by rw [HB.out]; exact h9))
      have HB2 := HB.out
      have g9 : (e != 0) = true := by simpa using h9
      clear H0 H1 H2 h8 g1 g2
      have QZ : Hid (Qn w0 B w2 q k) := Lib.hid (by simpa [h9] using Q2.out)
      clear Q2 h9
      go_wp2
      first | exact rcast (HX.out q _ K2.out QZ.out rfl ⟨rfl, rfl⟩) (by rw [HB2]; rfl) | exact bodyPost_ret (v := .tuple #[.int .i64 0, .string (S []), .int .i64 e]) (by simp [results, Tryz.results11, go_sem]; try rfl) rfl (rcast (HX.out q _ K2.out QZ.out rfl ⟨rfl, rfl⟩) (by rw [HB2]))
end
end
end Go.Proofs.YtedblbpmlbjnhaaGreat
