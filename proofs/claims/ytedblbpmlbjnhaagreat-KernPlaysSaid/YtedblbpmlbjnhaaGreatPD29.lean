/- The document's kernel in memory. The document's table: calls that are refused. -/
import Derived.Test.YtedblbpmlbjnhaaGreatPD23
import Derived.Test.YtedblbpmlbjnhaaGreatPD25
import Derived.Test.YtedblbpmlbjnhaaGreatPD28
import Derived.Test.YtedblbpmlbjnhaaGreatPD13
import Derived.BigQuiet
namespace Go.Proofs.YtedblbpmlbjnhaaGreat
/-! ### The document's kernel in memory. -/
section
open Go.RowKit Go.Shelf
set_option linter.unusedVariables false
set_option linter.unusedSimpArgs false
set_option maxRecDepth 100000

theorem Kq.nb {B : Nat} {w w' : World} (h : Kq B w w') {N : List Nat} {A : Option Addr} {e : Nat} {xs : List Value} (hb : Nb w N e A xs) (he : e ∉ MT) : Nb w' N e A xs := fun hx => by
  obtain ⟨b, off, cs, rfl, hn, hz, hc⟩ := hb hx
  exact ⟨b, off, cs, rfl, hn, h.bz hz he, hc⟩
theorem Kq.tw {B : Nat} {w w' : World} (h : Kq B w w') {b e : Nat} {xs : List Value} (hb : Tw w b e xs) (he : e ∉ MT) : Tw w' b e xs := by
  obtain ⟨ys, hb⟩ := hb
  exact ⟨ys, h.bk hb he⟩
theorem RT.kq {B : Nat} {w w' : World} {bM bO bH bB : Nat} {fs : List Fr} (h : RT w bM bO bH bB fs) (k : Kq B w w') : RT w' bM bO bH bB fs := by
  obtain ⟨c0, c1, c2, ht⟩ := h.t
  exact ⟨⟨c0, c1, c2, k.bk ht (by decide)⟩, k.tw h.o (by decide), k.tw h.h (by decide), k.tw h.b (by decide), h.ne, h.n1⟩
theorem Dm.kq {B : Nat} {w w' : World} {bD bB bO c : Nat} {A : Option Addr} {d : DkS} (h : Dm w bD bB bO A c d) (k : Kq B w w') : Dm w' bD bB bO A c d := by
  obtain ⟨cb, co, hb⟩ := h.dd
  exact ⟨⟨cb, co, k.bk hb (by decide)⟩, k.tw h.b (by decide), k.tw h.o (by decide), k.nb h.ln (by decide), h.ne, h.ok⟩
theorem Dm.kpS {S' : List Nat} {w w' : World} {bD bB bO c : Nat} {A : Option Addr} {d : DkS} (h : Dm w bD bB bO A c d) (k : Kp S' w w') (h0 : bD ∉ S') (h1 : bB ∉ S') (h2 : bO ∉ S') (hl : Nb w' [bD, bB] 225 A (d.ln.flatMap mwV)) : Dm w' bD bB bO A c d := by
  obtain ⟨cb, co, hb⟩ := h.dd
  exact ⟨⟨cb, co, hb.kp k h0⟩, h.b.kp k h1, h.o.kp k h2, hl, h.ne, h.ok⟩
/-- Where the document's kernel lies. -/
structure QA where
  g : Nat
  bM : Nat
  bO : Nat
  bH : Nat
  bB : Nat
  bD : Nat
  pB : Nat
  pO : Nat
  dA : Option Addr
  dc : Nat
  fA : Option Addr
  fc : Nat
  i1 : Option Addr
  c1 : Nat
  i2 : Option Addr
  c2 : Nat
  oA : Option Addr
  oc : Nat
/-- The blocks that its calls write. -/
def QA.own (q : QA) : List Nat := [q.g, q.bO, q.bH, q.bB, q.bD, q.pB]
def QA.cells (q : QA) (k : KS) : List Value :=
  [.pointer (some ⟨q.bM, 0, none⟩), .pointer (some ⟨q.bD, 0, none⟩), .slice q.fA k.fl.length q.fc, .int .i64 k.nx, .slice none 0 0, .slice q.i1 k.q1.length q.c1, .slice q.i2 k.q2.length q.c2, .slice q.oA k.qo.length q.oc, .int .i64 (k.fo + k.qo.length : Nat), .int .i64 k.dn]
def bkey (x : Bnd) : Int × Int × List FOp := (x.id, x.env, x.p)
def tkey (x : Tq) : Int × List Pc := (x.env, x.l)
def tvals (x : Tq) : List Value := [.int .i64 x.env, .slice x.A x.n x.c]
theorem tvals_len (x : Tq) : (tvals x).length = 2 := rfl
def slV (x : Sl) : Value := .string (S x.l)
structure QF (w0 w : World) (N : List Nat) (A : Option Addr) (fl ys : List Bnd) : Prop where
  key : ys.map bkey = fl.map bkey
  rd : Nb w N 139 A (ys.flatMap Bnd.vals)
  p : ∀ y ∈ ys, y.p.length = y.n ∧ y.n ≤ 1000 ∧ (∀ o ∈ y.p, o.ok) ∧ Rd w0 [] y.A (y.p.flatMap FOp.vals)
structure QO (w0 w : World) (N : List Nat) (A : Option Addr) (qo ys : List Tq) : Prop where
  key : ys.map tkey = qo.map tkey
  rd : Nb w N 142 A (ys.flatMap tvals)
  p : ∀ y ∈ ys, y.l.length = y.n ∧ y.n ≤ 100 ∧ (∀ o ∈ y.l, o.ok) ∧ Rd w0 [] y.A (y.l.flatMap Pc.vals)
structure Qn (w0 : World) (B : Nat) (w : World) (q : QA) (k : KS) : Prop where
  old : Kp [] w0 w
  hB : w0.heap.size ≤ B
  g : Bk w q.g 67 (q.cells k)
  t : RT w q.bM q.bO q.bH q.bB k.fs
  d : Dm w q.bD q.pB q.pO q.dA q.dc k.d
  f : ∃ ys, QF w0 w q.own q.fA k.fl ys
  in1 : Nb w q.own 9 q.i1 (k.q1.map slV)
  in2 : Nb w q.own 9 q.i2 (k.q2.map slV)
  o : ∃ ys, QO w0 w q.own q.oA k.qo ys
  new : ∀ s ∈ q.own, B ≤ s
  nM : B ≤ q.bM
  nO : B ≤ q.pO ∧ q.pO ≠ q.bO ∧ q.pO ≠ q.bH ∧ q.pB ≠ q.bB
  cp : k.fl.length ≤ q.fc ∧ k.q1.length ≤ q.c1 ∧ k.q2.length ≤ q.c2 ∧ k.qo.length ≤ q.oc
section
variable {w0 w w' : World} {B : Nat} {q : QA} {k : KS} {N S' : List Nat}
theorem QF.kp {A : Option Addr} {fl ys : List Bnd} (h : QF w0 w N A fl ys) (hk : Kp S' w w') (hs : ∀ s ∈ S', s ∈ N ∨ w.heap.size ≤ s) : QF w0 w' N A fl ys := ⟨h.key, h.rd.kp hk hs, h.p⟩
theorem QO.kp {A : Option Addr} {fl ys : List Tq} (h : QO w0 w N A fl ys) (hk : Kp S' w w') (hs : ∀ s ∈ S', s ∈ N ∨ w.heap.size ≤ s) : QO w0 w' N A fl ys := ⟨h.key, h.rd.kp hk hs, h.p⟩
theorem Qn.kp (h : Qn w0 B w q k) (hk : Kp [] w w') : Qn w0 B w' q k := by
  obtain ⟨ys, hf⟩ := h.f
  obtain ⟨zs, ho⟩ := h.o
  exact ⟨h.old.trans hk, h.hB, h.g.kp hk (by simp), h.t.kp hk (by simp) (by simp) (by simp) (by simp), h.d.kp hk, ⟨ys, hf.kp hk (by simp)⟩, h.in1.kp hk (by simp), h.in2.kp hk (by simp), ⟨zs, ho.kp hk (by simp)⟩, h.new, h.nM, h.nO, h.cp⟩
/-- The program's kernel's calls keep it. -/
theorem Qn.kq {B' : Nat} (h : Qn w0 B w q k) (hk : Kq B' w w') (hB : w0.heap.size ≤ B') : Qn w0 B w' q k := by
  obtain ⟨ys, hf⟩ := h.f
  obtain ⟨zs, ho⟩ := h.o
  exact ⟨hk.old h.old hB, h.hB, hk.bk h.g (by decide), h.t.kq hk, h.d.kq hk, ⟨ys, hf.key, hk.nb hf.rd (by decide), hf.p⟩, hk.nb h.in1 (by decide), hk.nb h.in2 (by decide), ⟨zs, ho.key, hk.nb ho.rd (by decide), ho.p⟩, h.new, h.nM, h.nO, h.cp⟩
theorem Nb.offS {A : Option Addr} {e : Nat} {xs : List Value} (h : Nb w N e A xs) (hS : Off w S' e) : Nb w S' e A xs := fun hx => by
  obtain ⟨b, off, cs, rfl, hb, hz, hc⟩ := h hx
  exact ⟨b, off, cs, rfl, hS.nin ⟨cs, hz⟩, hz, hc⟩
theorem Qn.offO (hq : Qn w0 B w q k) : ∀ e, 67 ≠ e → 3 ≠ e → 9 ≠ e → 74 ≠ e → Off w q.own e := by
  obtain ⟨d0, d1, hd⟩ := hq.d.dd
  intro e h1 h2 h3 h4 s hs _
  have ty : ∀ {g t : Nat} {xs : List Value}, Tw w g t xs → Ty w g t := fun ⟨ys, hh⟩ => hh.ty
  simp only [QA.own, List.mem_cons, List.not_mem_nil, or_false] at hs
  rcases hs with rfl | rfl | rfl | rfl | rfl | rfl
  · exact ⟨_, hq.g.ty, h1⟩
  · exact ⟨_, ty hq.t.o, h2⟩
  · exact ⟨_, ty hq.t.h, h2⟩
  · exact ⟨_, ty hq.t.b, h3⟩
  · exact ⟨_, hd.ty, h4⟩
  · exact ⟨_, ty hq.d.b, h3⟩
theorem Qn.ln (h : Qn w0 B w q k) : Nb w q.own 225 q.dA (k.d.ln.flatMap mwV) := h.d.ln.offS (h.offO _ (by decide) (by decide) (by decide) (by decide))
theorem Qn.lt (hq : Qn w0 B w q k) : ∀ s ∈ q.own, s < w.heap.size := by
  obtain ⟨d0, d1, hd⟩ := hq.d.dd
  intro s hs
  simp only [QA.own, List.mem_cons, List.not_mem_nil, or_false] at hs
  rcases hs with rfl | rfl | rfl | rfl | rfl | rfl
  · exact hq.g.lt
  · exact hq.t.o.lt
  · exact hq.t.h.lt
  · exact hq.t.b.lt
  · exact hd.lt
  · exact hq.d.b.lt
/-- None of its blocks is another's. -/
theorem Qn.nes (h : Qn w0 B w q k) : q.g ∉ [q.bO, q.bH, q.bB] ∧ q.g ∉ [q.bD, q.pB] ∧ q.bM ∉ q.own ∧ q.bO ∉ [q.g, q.bD, q.pB] ∧ q.bH ∉ [q.g, q.bD, q.pB] ∧ q.bB ∉ [q.g, q.bD, q.pB] ∧ q.bD ∉ [q.g, q.bO, q.bH, q.bB] ∧ q.pB ∉ [q.g, q.bO, q.bH, q.bB] ∧ q.pO ∉ q.own := by
  obtain ⟨c0, c1, c2, ht⟩ := h.t.t
  obtain ⟨d0, d1, hd⟩ := h.d.dd
  have n1 := h.t.o.ne_bk h.g (by decide)
  have n2 := h.t.h.ne_bk h.g (by decide)
  have n3 := h.t.b.ne_bk h.g (by decide)
  have n4 : q.bD ≠ q.g := hd.ne_ h.g (by decide)
  have n5 := h.d.b.ne_bk h.g (by decide)
  have n6 := h.d.o.ne_bk h.g (by decide)
  have m1 := h.t.o.ne_bk hd (by decide)
  have m2 := h.t.h.ne_bk hd (by decide)
  have m3 := h.t.b.ne_bk hd (by decide)
  have m4 := h.t.o.ne_ h.d.b (by decide)
  have m5 := h.t.h.ne_ h.d.b (by decide)
  have m6 := h.d.o.ne_bk hd (by decide)
  have m7 := h.d.o.ne_ h.d.b (by decide)
  have m8 := h.d.o.ne_ h.t.b (by decide)
  have k1 : q.bM ≠ q.g := ht.ne_ h.g (by decide)
  have k2 := h.t.o.ne_bk ht (by decide)
  have k3 := h.t.h.ne_bk ht (by decide)
  have k4 := h.t.b.ne_bk ht (by decide)
  have k5 : q.bM ≠ q.bD := ht.ne_ hd (by decide)
  have k6 := h.d.b.ne_bk ht (by decide)
  obtain ⟨_, o1, o2, o3⟩ := h.nO
  have hne := h.d.ne
  unfold QA.own
  simp only [List.mem_cons, List.not_mem_nil, or_false, not_or]
  exact ⟨⟨n1.symm, n2.symm, n3.symm⟩, ⟨n4.symm, n5.symm⟩, ⟨k1, k2.symm, k3.symm, k4.symm, k5, k6.symm⟩, ⟨n1, m1, m4⟩, ⟨n2, m2, m5⟩, ⟨n3, m3, o3.symm⟩, ⟨n4, m1.symm, m2.symm, m3.symm⟩, ⟨n5, m4.symm, m5.symm, o3⟩, ⟨n6, o1, o2, m8, m6, m7⟩⟩
theorem Qn.own1 (q : QA) : ∀ s ∈ [q.bO, q.bH, q.bB], s ∈ q.own := by intro s hs; simp [QA.own] at hs ⊢; rcases hs with rfl | rfl | rfl <;> simp
theorem Qn.own2 (q : QA) : ∀ s ∈ [q.bD, q.pB], s ∈ q.own := by intro s hs; simp [QA.own] at hs ⊢; rcases hs with rfl | rfl <;> simp
theorem Qn.own3 (q : QA) : ∀ s ∈ [q.g], s ∈ q.own := by intro s hs; simp at hs; subst hs; simp [QA.own]
theorem Qn.oldS (h : Qn w0 B w q k) (hk : Kp S' w w') (hs : ∀ s ∈ S', s ∈ q.own) : Kp [] w0 w' := h.old.thn hk (fun s hm => .inr (Nat.le_trans h.hB (h.new s (hs s hm))))
/-- The frames turned. -/
theorem Qn.setT (h : Qn w0 B w q k) (hk : Kp [q.bO, q.bH, q.bB] w w') {fs' : List Fr} (t' : RT w' q.bM q.bO q.bH q.bB fs') : Qn w0 B w' q { k with fs := fs' } ∧ Kp q.own w w' := by
  obtain ⟨ys, hf⟩ := h.f
  obtain ⟨zs, ho⟩ := h.o
  obtain ⟨e1, e2, e3, e4, e5, e6, e7, e8, e9⟩ := h.nes
  have hs : ∀ s ∈ [q.bO, q.bH, q.bB], s ∈ q.own ∨ w.heap.size ≤ s := fun s hm => .inl (Qn.own1 q s hm)
  have hl := h.ln.kp hk hs
  refine ⟨⟨h.oldS hk (Qn.own1 q), h.hB, h.g.kp hk e1, t', h.d.kpS hk (fun hm => e7 (List.mem_cons_of_mem _ hm)) (fun hm => e8 (List.mem_cons_of_mem _ hm)) (fun hm => e9 (Qn.own1 q _ hm)) (hl.sub (Qn.own2 q)), ⟨ys, hf.kp hk hs⟩, h.in1.kp hk hs, h.in2.kp hk hs, ⟨zs, ho.kp hk hs⟩, h.new, h.nM, h.nO, h.cp⟩, hk.mono (fun s hm => .inl (Qn.own1 q s hm))⟩
/-- The disk turned. -/
theorem Qn.setD (h : Qn w0 B w q k) (hk : Kp [q.bD, q.pB] w w') {A' : Option Addr} {c' : Nat} {d' : DkS} (t' : Dm w' q.bD q.pB q.pO A' c' d') :
    Qn w0 B w' { q with dA := A', dc := c' } { k with d := d' } ∧ Kp q.own w w' := by
  obtain ⟨ys, hf⟩ := h.f
  obtain ⟨zs, ho⟩ := h.o
  obtain ⟨e1, e2, e3, e4, e5, e6, e7, e8, e9⟩ := h.nes
  have hs : ∀ s ∈ [q.bD, q.pB], s ∈ q.own ∨ w.heap.size ≤ s := fun s hm => .inl (Qn.own2 q s hm)
  exact ⟨⟨h.oldS hk (Qn.own2 q), h.hB, h.g.kp hk e2, h.t.kp hk (fun hm => e3 (Qn.own2 q _ hm)) (fun hm => e4 (List.mem_cons_of_mem _ hm)) (fun hm => e5 (List.mem_cons_of_mem _ hm)) (fun hm => e6 (List.mem_cons_of_mem _ hm)), t', ⟨ys, hf.kp hk hs⟩, h.in1.kp hk hs, h.in2.kp hk hs, ⟨zs, ho.kp hk hs⟩, h.new, h.nM, h.nO, h.cp⟩, hk.mono (fun s hm => .inl (Qn.own2 q s hm))⟩
/-- The kernel's own block turned. -/
theorem Qn.setG (h : Qn w0 B w q k) (hk : Kp [q.g] w w') {fA' i1' i2' oA' : Option Addr} {fc' c1' c2' oc' : Nat} {k' : KS} (ht : k'.fs = k.fs) (hd : k'.d = k.d) (hg : Bk w' q.g 67 (QA.cells { q with fA := fA', fc := fc', i1 := i1', c1 := c1', i2 := i2', c2 := c2', oA := oA', oc := oc' } k'))
    (hf : ∃ ys, QF w0 w' q.own fA' k'.fl ys) (h1 : Nb w' q.own 9 i1' (k'.q1.map slV)) (h2 : Nb w' q.own 9 i2' (k'.q2.map slV)) (ho : ∃ ys, QO w0 w' q.own oA' k'.qo ys) (hcp : k'.fl.length ≤ fc' ∧ k'.q1.length ≤ c1' ∧ k'.q2.length ≤ c2' ∧ k'.qo.length ≤ oc') :
    Qn w0 B w' { q with fA := fA', fc := fc', i1 := i1', c1 := c1', i2 := i2', c2 := c2', oA := oA', oc := oc' } k' ∧ Kp q.own w w' := by
  obtain ⟨e1, e2, e3, e4, e5, e6, e7, e8, e9⟩ := h.nes
  have hs : ∀ s ∈ [q.g], s ∈ q.own ∨ w.heap.size ≤ s := fun s hm => .inl (Qn.own3 q s hm)
  have hl := h.ln.kp hk hs
  refine ⟨⟨h.oldS hk (Qn.own3 q), h.hB, hg, by rw [ht]; exact h.t.kp hk (fun hm => e3 (Qn.own3 q _ hm)) (fun hm => e4 (by simp at hm; simp [hm])) (fun hm => e5 (by simp at hm; simp [hm])) (fun hm => e6 (by simp at hm; simp [hm])), ?_, hf, h1, h2, ho, h.new, h.nM, h.nO, hcp⟩, hk.mono (fun s hm => .inl (Qn.own3 q s hm))⟩
  rw [hd]
  exact h.d.kpS hk (fun hm => e7 (by simp at hm; simp [hm])) (fun hm => e8 (by simp at hm; simp [hm])) (fun hm => e9 (Qn.own3 q _ hm)) (hl.sub (Qn.own2 q))
/-- The document's calls keep the program's kernel. -/
theorem Kn.offQ {B2 : Nat} {a : KA} {k2 : KS} (h : Kn w B2 a k2) (hq : Qn w0 B w q k) (hB : a.g < B) (hk : Kp q.own w w') : Kn w' B2 a k2 := by
  have o := hq.offO
  have hbo : a.bO ∉ q.own := fun hm => by have := hq.new _ hm; have := h.new.og; omega
  have z : ∀ e, e ∈ [114, 163, 245, 247, 144, 128, 199, 37, 5, 202, 120, 187, 239, 195] → Off w q.own e := by
    intro e he
    simp only [List.mem_cons, List.not_mem_nil, or_false] at he
    rcases he with rfl | rfl | rfl | rfl | rfl | rfl | rfl | rfl | rfl | rfl | rfl | rfl | rfl | rfl <;> exact o _ (by decide) (by decide) (by decide) (by decide)
  refine ⟨h.g.off hk (z _ (by decide)), h.t.kp hk ((z _ (by decide)).nin h.t.t.ty) ((z _ (by decide)).nin h.t.l.ty), ⟨h.d.dd.off hk (z _ (by decide)), h.d.l.off hk (z _ (by decide)), h.d.o.kp hk hbo, h.d.ln.off hk (z _ (by decide)), h.d.ok⟩, h.fl.off hk (z _ (by decide)), fun x hx => ⟨(h.fd x hx).1, (h.fd x hx).2.1, (h.fd x hx).2.2.kp hk (z _ (by decide))⟩, ?_, ?_, ?_, h.new⟩
  · exact h.i1.off hk ((z _ (by decide)).nin h.i1.hs.ty) ((z _ (by decide)).nin h.r1) (z _ (by decide))
  · exact h.i2.off hk ((z _ (by decide)).nin h.i2.hs.ty) ((z _ (by decide)).nin h.r2) (z _ (by decide))
  · exact h.o.off hk ((z _ (by decide)).nin h.o.hs.ty) ((z _ (by decide)).nin h.ro) (z _ (by decide))
end
end
/-! ### The document's table: calls that are refused. -/
section
open Go.RowKit
set_option linter.unusedVariables false
set_option linter.unusedSimpArgs false
set_option maxRecDepth 100000
section
variable {R : Ending → World → Prop} {bM bO bH bB : Nat} {fs : List Fr} {w : World}

set_option maxHeartbeats 800000 in
theorem rwithin_any (a b : Int) (h1 : -9223372036854775808 ≤ a) (h2 : a ≤ 9223372036854775807) (w : World) (h : R (.returned (.bool (spanB a b))) w) : Calls Tryz.prog 113 #[.int .i64 a, .int .i64 b] w R := by
  go_enter Tryz.func113, Tryz.ntmps113
  go_wp2
  all_goals (refine rcast h (congrArg Value.bool ?_); rw [Bool.eq_iff_iff]; simp [spanB] <;> omega)

set_option maxHeartbeats 800000 in
theorem rdo_env (k e f o n : Int) (s : ByteArray) (h0 : 0 ≤ k) (h5 : k ≤ 5) (he : e ≠ 1 ∧ e ≠ 2)
    (h : ∀ w', Kp [] w w' → R (.returned (.tuple #[.int .i64 0, .string ⟨#[]⟩, .int .i64 1])) w') :
    Calls Tryz.prog 54 #[.pointer (some ⟨bM, 0, none⟩), .agg #[.int .i64 k, .int .i64 e, .int .i64 f, .int .i64 o, .int .i64 n, .string s]] w R := by
  have H := Lib.hid h
  clear h
  have b1 : (e == 1) = false := by simpa using he.1
  have b2 : (e == 2) = false := by simpa using he.2
  have hK1 := fun o => (Kp.refl [] w).alloc o
  clear he
  go_enter Tryz.func54, Tryz.ntmps54
  go_wp2
  go_ret3
  exact H.out _ (hK1 _)

set_option maxHeartbeats 800000 in
theorem rdo_rng (hT : RT w bM bO bH bB fs) (k e f o n : Int) (s : ByteArray) (h1 : 1 ≤ k) (h7 : k ≤ 7) (he : k < 6 → e = 1 ∨ e = 2) (hf : f < 0 ∨ (fs.length : Int) ≤ f)
    (h : ∀ w', Kp [] w w' → R (.returned (.tuple #[.int .i64 0, .string ⟨#[]⟩, .int .i64 1])) w') :
    Calls Tryz.prog 54 #[.pointer (some ⟨bM, 0, none⟩), .agg #[.int .i64 k, .int .i64 e, .int .i64 f, .int .i64 o, .int .i64 n, .string s]] w R := by
  have H := Lib.hid h
  clear h
  obtain ⟨c0, c1, c2, ht⟩ := hT.t
  have hn := hT.n1
  have q0 := fun o => (ht.alloc o).cell 0
  simp only [List.getElem?_cons_zero] at q0
  have hK1 := fun o => (Kp.refl [] w).alloc o
  have hk : k < 6 ∧ e = 1 ∨ k < 6 ∧ e = 2 ∨ 6 ≤ k := by
    by_cases h : k < 6
    · rcases he h with rfl | rfl
      · exact .inl ⟨h, rfl⟩
      · exact .inr (.inl ⟨h, rfl⟩)
    · exact .inr (.inr (by omega))
  clear hT ht he
  have hff : f < 0 ∨ (¬ f < 0 ∧ (fs.length : Int) ≤ f) := by omega
  clear hf
  rcases hk with ⟨h6, rfl⟩ | ⟨h6, rfl⟩ | h6 <;> rcases hff with hf | ⟨hf0, hf⟩
  all_goals go_enter Tryz.func54, Tryz.ntmps54
  all_goals go_wp2
  all_goals go_quiet (fail)
  all_goals go_wp2
  all_goals go_ret3
  all_goals exact H.out _ ((hK1 _).drewN _)

set_option maxHeartbeats 800000 in
theorem rdo_own (hT : RT w bM bO bH bB fs) (k e o n : Int) (i : Nat) (s : ByteArray) (x : Fr) (hx : fs[i]? = some x) (h1 : 1 ≤ k) (h5 : k ≤ 5) (he : e = 1 ∨ e = 2) (hne : x.ow ≠ e)
    (h : ∀ w', Kp [] w w' → R (.returned (.tuple #[.int .i64 0, .string ⟨#[]⟩, .int .i64 20])) w') :
    Calls Tryz.prog 54 #[.pointer (some ⟨bM, 0, none⟩), .agg #[.int .i64 k, .int .i64 e, .int .i64 i, .int .i64 o, .int .i64 n, .string s]] w R := by
  have H := Lib.hid h
  clear h
  obtain ⟨c0, c1, c2, ht⟩ := hT.t
  have hn := hT.n1
  have hi := lt_of hx
  have q0 := fun o => (ht.alloc o).cell 0
  have x0 := fun o => (hT.kp ((Kp.refl [] w).alloc o) (by simp) (by simp) (by simp) (by simp)).ow hx
  simp only [List.getElem?_cons_zero] at q0
  have hK1 := fun o => (Kp.refl [] w).alloc o
  have b0 : (x.ow != e) = true := by simpa using hne
  have h6 : k < 6 := by omega
  have i0 : ¬ (i : Int) < 0 := by omega
  clear hT ht hne hx
  rcases he with rfl | rfl
  all_goals
    go_enter Tryz.func54, Tryz.ntmps54
    go_wp2
    go_quiet (fail)
    go_wp2
    go_quiet (fail)
    go_wp2
    go_ret3
    exact H.out _ (((hK1 _).drewN _).drewN _)
end
end
end Go.Proofs.YtedblbpmlbjnhaaGreat
