/- A kernel in memory, and what each call turns of it. -/
import Derived.Test.YthlmfjfkkndboaaKi
import Derived.Test.YthlmfjfkkndboaaGather4
import Derived.Test.YthlmfjfkkndboaaGather5
import Derived.Test.YthlmfjfkkndboaaKn7
namespace Go.Proofs.Ythlmfjfkkndboaa
open Go.RowKit Go.Shelf
set_option linter.unusedVariables false
set_option linter.unusedSimpArgs false
set_option maxRecDepth 100000

/-- A kernel, in plain words. -/
structure KS where
  fs : List Fr
  d : DkS
  fl : List Bnd
  nx : Nat
  f1 : Nat
  q1 : List Sl
  f2 : Nat
  q2 : List Sl
  fo : Nat
  qo : List Tq
  dn : Nat
/-- Where its parts lie. -/
structure KA where
  g : Nat
  bT : Nat
  bL : Nat
  bD : Nat
  bP : Nat
  bO : Nat
  dA : Option Addr
  dc : Nat
  fA : Option Addr
  fc : Nat
  z0 : Option Addr
  s1 : Nat
  r1 : Nat
  s2 : Nat
  r2 : Nat
  so : Nat
  ro : Nat
def KA.cells (a : KA) (k : KS) : List Value :=
  [.pointer (some ⟨a.bT, 0, none⟩), .pointer (some ⟨a.bD, 0, none⟩), .slice a.fA k.fl.length a.fc, .int .i64 k.nx, .pointer a.z0, .pointer (some ⟨a.s1, 0, none⟩), .pointer (some ⟨a.s2, 0, none⟩), .pointer (some ⟨a.so, 0, none⟩), .int .i64 k.dn]
/-- No block of the kernel's is older than B. -/
structure KA.new (B : Nat) (a : KA) : Prop where
  g : B ≤ a.g
  bL : B ≤ a.bL
  bD : B ≤ a.bD
  bP : B ≤ a.bP
  dA : Fresh B a.dA
  fA : Fresh B a.fA
  s1 : B ≤ a.s1
  r1 : B ≤ a.r1
  s2 : B ≤ a.s2
  r2 : B ≤ a.r2
  so : B ≤ a.so
  ro : B ≤ a.ro
  n1 : a.s1 ≠ a.r1
  n2 : a.s2 ≠ a.r2
  n3 : a.s1 ≠ a.s2
  n4 : a.r1 ≠ a.r2
  n5 : a.s1 ≠ a.r2
  n6 : a.s2 ≠ a.r1
  n7 : a.so ≠ a.ro
/-- All numbers are bounded by the calls that were made. -/
structure KS.cnt (m : Nat) (k : KS) : Prop where
  ln : k.d.ln.length ≤ m
  nx : k.nx ≤ m
  c1 : k.f1 + k.q1.length ≤ m
  c2 : k.f2 + k.q2.length ≤ m
  co : k.fo + k.qo.length ≤ m
  dn : k.dn ≤ m
  fl : k.fl.length ≤ 8
  ho : ∀ y ∈ k.fs, 0 ≤ y.ho ∧ y.ho ≤ 16 * m
structure Kn (w : World) (B : Nat) (a : KA) (k : KS) : Prop where
  g : Bk w a.g 121 (a.cells k)
  t : Tab w a.bT a.bL k.fs
  d : Dsk w a.bD a.bP a.bO a.dA a.dc k.d
  fl : Ow w 174 3 a.fA k.fl.length a.fc (k.fl.flatMap Bnd.vals)
  fd : ∀ x ∈ k.fl, x.p.length = x.n ∧ x.n ≤ 64 ∧ Tb w 172 x.A (x.p.flatMap FOp.vals)
  i1 : Rb w a.s1 a.r1 k.f1 k.q1
  i2 : Rb w a.s2 a.r2 k.f2 k.q2
  o : Rq w a.so a.ro k.fo k.qo
  new : a.new B
/-- The types of what a kernel's calls may turn. -/
def MT : List Nat := [121, 146, 156, 187, 189, 174, 160, 44, 163, 127]
/-- What a kernel's call keeps: all blocks older than B, and all of other types. -/
structure Kq (B : Nat) (w w' : World) : Prop where
  os : w'.os = w.os
  tape : w'.tape = w.tape
  output : w'.output = w.output
  size : w.heap.size ≤ w'.heap.size
  block : ∀ b, b < w.heap.size → (b < B ∨ ∃ e, e ∉ MT ∧ Ty w b e) → w'.heap[b]? = w.heap[b]?
theorem Kq.refl (B : Nat) (w : World) : Kq B w w := ⟨rfl, rfl, rfl, Nat.le_refl _, fun _ _ _ => rfl⟩
theorem Ty.same {w w' : World} {b e : Nat} (h : Ty w b e) (hb : w'.heap[b]? = w.heap[b]?) : Ty w' b e := by
  obtain ⟨cs, z, h⟩ := h
  exact ⟨cs, z, hb.trans h⟩
theorem Kq.trans {B : Nat} {a w w' : World} (h : Kq B a w) (k : Kq B w w') : Kq B a w' :=
  ⟨k.os.trans h.os, k.tape.trans h.tape, k.output.trans h.output, Nat.le_trans h.size k.size, fun b hb hc => by
    have h1 := h.block b hb hc
    refine (k.block b (Nat.lt_of_lt_of_le hb h.size) ?_).trans h1
    rcases hc with hc | ⟨e, he, ht⟩
    · exact .inl hc
    · exact .inr ⟨e, he, ht.same h1⟩⟩
theorem Kq.of {B : Nat} {S : List Nat} {w w' : World} (h : Kp S w w') (hB : ∀ s ∈ S, B ≤ s) (hT : ∀ e, e ∉ MT → Off w S e) : Kq B w w' :=
  ⟨h.os, h.tape, h.output, h.size, fun b hb hc => h.block b hb (fun hm => by
    rcases hc with hc | ⟨e, he, ht⟩
    · have := hB b hm; omega
    · exact (hT e he).nin ht hm)⟩
theorem Kq.of0 {B : Nat} {w w' : World} (h : Kp [] w w') : Kq B w w' := Kq.of h (by simp) (fun e _ => Off.nil w e)
theorem Kq.bz {B : Nat} {w w' : World} (h : Kq B w w') {b e : Nat} {cs : List Value} (hb : Bz w b e cs) (he : e ∉ MT) : Bz w' b e cs := by
  have hl := hb.lt
  have h1 := h.block b hl (.inr ⟨e, he, cs, hb⟩)
  obtain ⟨z, hz⟩ := hb
  exact ⟨z, h1.trans hz⟩
theorem Kq.bk {B : Nat} {w w' : World} (h : Kq B w w') {b e : Nat} {cs : List Value} (hb : Bk w b e cs) (he : e ∉ MT) : Bk w' b e cs := by
  have hl := hb.lt
  exact (h.block b hl (.inr ⟨e, he, cs, hb.bz⟩)).trans hb
theorem Kq.tb {B : Nat} {w w' : World} (h : Kq B w w') {A : Option Addr} {e : Nat} {xs : List Value} (hb : Tb w e A xs) (he : e ∉ MT) : Tb w' e A xs := fun hx => by
  obtain ⟨b, off, cs, rfl, hb, hc⟩ := hb hx
  exact ⟨b, off, cs, rfl, h.bz hb he, hc⟩
theorem Kq.kp {B : Nat} {w w' : World} (h : Kq B w w') (hB : w.heap.size ≤ B) : Kp [] w w' := ⟨h.os, h.tape, h.output, h.size, fun b hb _ => h.block b hb (.inl (by omega))⟩
theorem Kq.old {B : Nat} {w0 w w' : World} (h : Kq B w w') (h0 : Kp [] w0 w) (hB : w0.heap.size ≤ B) : Kp [] w0 w' :=
  ⟨h.os.trans h0.os, h.tape.trans h0.tape, h.output.trans h0.output, Nat.le_trans h0.size h.size, fun b hb _ => (h.block b (Nat.lt_of_lt_of_le hb h0.size) (.inl (by omega))).trans (h0.block b hb (by simp))⟩
section
variable {w w' : World} {B : Nat} {a : KA} {k : KS} {S : List Nat}
theorem Kn.cell (h : Kn w B a k) (i : Nat) : w.cell? ⟨a.g, i, none⟩ = (a.cells k)[i]? := h.g.cell i
theorem Kn.off0 (h : Kn w B a k) (hk : Kp [] w w') : Kn w' B a k :=
  ⟨h.g.kp hk (by simp), h.t.kp hk (by simp) (by simp), h.d.off hk (Off.nil _ _) (Off.nil _ _) (Off.nil _ _) (Off.nil _ _), h.fl.kp hk (by simp), fun x hx => ⟨(h.fd x hx).1, (h.fd x hx).2.1, (h.fd x hx).2.2.kp hk (Off.nil _ _)⟩, h.i1.off hk (by simp) (by simp) (Off.nil _ _), h.i2.off hk (by simp) (by simp) (Off.nil _ _), h.o.off hk (by simp) (by simp) (Off.nil _ _), h.new⟩
theorem Kn.r1 (h : Kn w B a k) : Ty w a.r1 44 := by obtain ⟨cs, hcs, _⟩ := h.i1.hr; exact hcs.ty
theorem Kn.r2 (h : Kn w B a k) : Ty w a.r2 44 := by obtain ⟨cs, hcs, _⟩ := h.i2.hr; exact hcs.ty
theorem Kn.ro (h : Kn w B a k) : Ty w a.ro 127 := by obtain ⟨cs, hcs, _⟩ := h.o.hr; exact hcs.ty
/-- All but the frames, where only the frames' row turned. -/
theorem Kn.setT (h : Kn w B a k) (hk : Kp [a.bL] w w') {fs' : List Fr} (t' : Tab w' a.bT a.bL fs') : Kn w' B a { k with fs := fs' } ∧ Kq B w w' := by
  have o : ∀ e, 146 ≠ e → Off w [a.bL] e := fun e he => Off.one h.t.l.ty he
  refine ⟨⟨h.g.off hk (o _ (by decide)), t', h.d.off hk (o _ (by decide)) (o _ (by decide)) (o _ (by decide)) (o _ (by decide)), h.fl.off hk (o _ (by decide)), fun x hx => ⟨(h.fd x hx).1, (h.fd x hx).2.1, (h.fd x hx).2.2.kp hk (o _ (by decide))⟩, ?_, ?_, ?_, h.new⟩, Kq.of hk (by intro s hs; simp at hs; subst hs; exact h.new.bL) (fun e he => o e (by rintro rfl; exact he (by decide)))⟩
  · exact h.i1.off hk ((o _ (by decide)).nin h.i1.hs.ty) ((o _ (by decide)).nin h.r1) (o _ (by decide))
  · exact h.i2.off hk ((o _ (by decide)).nin h.i2.hs.ty) ((o _ (by decide)).nin h.r2) (o _ (by decide))
  · exact h.o.off hk ((o _ (by decide)).nin h.o.hs.ty) ((o _ (by decide)).nin h.ro) (o _ (by decide))
/-- The disk turned. -/
theorem Kn.setD (h : Kn w B a k) (hk : Kp S w w') {dA' : Option Addr} {dc' : Nat} {d' : DkS} (t' : Dsk w' a.bD a.bP a.bO dA' dc' d') (hA : Fresh B dA') (hB : ∀ s ∈ S, B ≤ s)
    (o : ∀ e, 156 ≠ e → 187 ≠ e → 189 ≠ e → Off w S e) : Kn w' B { a with dA := dA', dc := dc' } { k with d := d' } ∧ Kq B w w' := by
  have hn := h.new
  refine ⟨⟨h.g.off hk (o _ (by decide) (by decide) (by decide)), h.t.kp hk ((o _ (by decide) (by decide) (by decide)).nin h.t.t.ty) ((o _ (by decide) (by decide) (by decide)).nin h.t.l.ty), t', h.fl.off hk (o _ (by decide) (by decide) (by decide)), fun x hx => ⟨(h.fd x hx).1, (h.fd x hx).2.1, (h.fd x hx).2.2.kp hk (o _ (by decide) (by decide) (by decide))⟩, ?_, ?_, ?_, ⟨hn.g, hn.bL, hn.bD, hn.bP, hA, hn.fA, hn.s1, hn.r1, hn.s2, hn.r2, hn.so, hn.ro, hn.n1, hn.n2, hn.n3, hn.n4, hn.n5, hn.n6, hn.n7⟩⟩, Kq.of hk hB (fun e he => o e (by rintro rfl; exact he (by decide)) (by rintro rfl; exact he (by decide)) (by rintro rfl; exact he (by decide)))⟩
  · exact h.i1.off hk ((o _ (by decide) (by decide) (by decide)).nin h.i1.hs.ty) ((o _ (by decide) (by decide) (by decide)).nin h.r1) (o _ (by decide) (by decide) (by decide))
  · exact h.i2.off hk ((o _ (by decide) (by decide) (by decide)).nin h.i2.hs.ty) ((o _ (by decide) (by decide) (by decide)).nin h.r2) (o _ (by decide) (by decide) (by decide))
  · exact h.o.off hk ((o _ (by decide) (by decide) (by decide)).nin h.o.hs.ty) ((o _ (by decide) (by decide) (by decide)).nin h.ro) (o _ (by decide) (by decide) (by decide))
/-- The first ring turned. -/
theorem Kn.set1 (h : Kn w B a k) (hk : Kp [a.s1, a.r1] w w') {f' : Nat} {q' : List Sl} (t' : Rb w' a.s1 a.r1 f' q') : Kn w' B a { k with f1 := f', q1 := q' } ∧ Kq B w w' := by
  have o : ∀ e, 160 ≠ e → 44 ≠ e → Off w [a.s1, a.r1] e := fun e h1 h2 => Off.app (S := [a.s1]) (S' := [a.r1]) (Off.one h.i1.hs.ty h1) (Off.one h.r1 h2)
  have hn := h.new
  refine ⟨⟨h.g.off hk (o _ (by decide) (by decide)), h.t.kp hk ((o _ (by decide) (by decide)).nin h.t.t.ty) ((o _ (by decide) (by decide)).nin h.t.l.ty), h.d.off hk (o _ (by decide) (by decide)) (o _ (by decide) (by decide)) (o _ (by decide) (by decide)) (o _ (by decide) (by decide)), h.fl.off hk (o _ (by decide) (by decide)), fun x hx => ⟨(h.fd x hx).1, (h.fd x hx).2.1, (h.fd x hx).2.2.kp hk (o _ (by decide) (by decide))⟩, t', ?_, ?_, h.new⟩, Kq.of hk (by intro s hs; simp at hs; rcases hs with rfl | rfl; exact hn.s1; exact hn.r1) (fun e he => o e (by rintro rfl; exact he (by decide)) (by rintro rfl; exact he (by decide)))⟩
  · exact h.i2.off hk (by simp; exact ⟨hn.n3.symm, hn.n6⟩) (by simp; exact ⟨hn.n5.symm, hn.n4.symm⟩) (o _ (by decide) (by decide))
  · exact h.o.off hk ((o _ (by decide) (by decide)).nin h.o.hs.ty) ((o _ (by decide) (by decide)).nin h.ro) (o _ (by decide) (by decide))
/-- The second ring turned. -/
theorem Kn.set2 (h : Kn w B a k) (hk : Kp [a.s2, a.r2] w w') {f' : Nat} {q' : List Sl} (t' : Rb w' a.s2 a.r2 f' q') : Kn w' B a { k with f2 := f', q2 := q' } ∧ Kq B w w' := by
  have o : ∀ e, 160 ≠ e → 44 ≠ e → Off w [a.s2, a.r2] e := fun e h1 h2 => Off.app (S := [a.s2]) (S' := [a.r2]) (Off.one h.i2.hs.ty h1) (Off.one h.r2 h2)
  have hn := h.new
  refine ⟨⟨h.g.off hk (o _ (by decide) (by decide)), h.t.kp hk ((o _ (by decide) (by decide)).nin h.t.t.ty) ((o _ (by decide) (by decide)).nin h.t.l.ty), h.d.off hk (o _ (by decide) (by decide)) (o _ (by decide) (by decide)) (o _ (by decide) (by decide)) (o _ (by decide) (by decide)), h.fl.off hk (o _ (by decide) (by decide)), fun x hx => ⟨(h.fd x hx).1, (h.fd x hx).2.1, (h.fd x hx).2.2.kp hk (o _ (by decide) (by decide))⟩, ?_, t', ?_, h.new⟩, Kq.of hk (by intro s hs; simp at hs; rcases hs with rfl | rfl; exact hn.s2; exact hn.r2) (fun e he => o e (by rintro rfl; exact he (by decide)) (by rintro rfl; exact he (by decide)))⟩
  · exact h.i1.off hk (by simp; exact ⟨hn.n3, hn.n5⟩) (by simp; exact ⟨hn.n6.symm, hn.n4⟩) (o _ (by decide) (by decide))
  · exact h.o.off hk ((o _ (by decide) (by decide)).nin h.o.hs.ty) ((o _ (by decide) (by decide)).nin h.ro) (o _ (by decide) (by decide))
/-- The transfers turned. -/
theorem Kn.setO (h : Kn w B a k) (hk : Kp [a.so, a.ro] w w') {f' : Nat} {q' : List Tq} (t' : Rq w' a.so a.ro f' q') : Kn w' B a { k with fo := f', qo := q' } ∧ Kq B w w' := by
  have o : ∀ e, 163 ≠ e → 127 ≠ e → Off w [a.so, a.ro] e := fun e h1 h2 => Off.app (S := [a.so]) (S' := [a.ro]) (Off.one h.o.hs.ty h1) (Off.one h.ro h2)
  have hn := h.new
  refine ⟨⟨h.g.off hk (o _ (by decide) (by decide)), h.t.kp hk ((o _ (by decide) (by decide)).nin h.t.t.ty) ((o _ (by decide) (by decide)).nin h.t.l.ty), h.d.off hk (o _ (by decide) (by decide)) (o _ (by decide) (by decide)) (o _ (by decide) (by decide)) (o _ (by decide) (by decide)), h.fl.off hk (o _ (by decide) (by decide)), fun x hx => ⟨(h.fd x hx).1, (h.fd x hx).2.1, (h.fd x hx).2.2.kp hk (o _ (by decide) (by decide))⟩, ?_, ?_, t', h.new⟩, Kq.of hk (by intro s hs; simp at hs; rcases hs with rfl | rfl; exact hn.so; exact hn.ro) (fun e he => o e (by rintro rfl; exact he (by decide)) (by rintro rfl; exact he (by decide)))⟩
  · exact h.i1.off hk ((o _ (by decide) (by decide)).nin h.i1.hs.ty) ((o _ (by decide) (by decide)).nin h.r1) (o _ (by decide) (by decide))
  · exact h.i2.off hk ((o _ (by decide) (by decide)).nin h.i2.hs.ty) ((o _ (by decide) (by decide)).nin h.r2) (o _ (by decide) (by decide))
/-- The kernel's own block, and the filters' row, turned. -/
theorem Kn.setF (h : Kn w B a k) (hk : Kp (a.g :: bks a.fA) w w') {fA' : Option Addr} {fc' nx' dn' : Nat} {fl' : List Bnd} (hg : Bk w' a.g 121 ((KA.cells { a with fA := fA', fc := fc' } { k with fl := fl', nx := nx', dn := dn' })))
    (hf : Ow w' 174 3 fA' fl'.length fc' (fl'.flatMap Bnd.vals)) (hA : Fresh B fA') (hd : ∀ x ∈ fl', x.p.length = x.n ∧ x.n ≤ 64 ∧ Tb w' 172 x.A (x.p.flatMap FOp.vals)) :
    Kn w' B { a with fA := fA', fc := fc' } { k with fl := fl', nx := nx', dn := dn' } ∧ Kq B w w' := by
  have o : ∀ e, 121 ≠ e → 174 ≠ e → Off w (a.g :: bks a.fA) e := fun e h1 h2 => Off.app (S := [a.g]) (Off.one h.g.ty h1) (Off.bks h.fl.ty h2)
  have hn := h.new
  refine ⟨⟨hg, h.t.kp hk ((o _ (by decide) (by decide)).nin h.t.t.ty) ((o _ (by decide) (by decide)).nin h.t.l.ty), h.d.off hk (o _ (by decide) (by decide)) (o _ (by decide) (by decide)) (o _ (by decide) (by decide)) (o _ (by decide) (by decide)), hf, hd, ?_, ?_, ?_, ⟨hn.g, hn.bL, hn.bD, hn.bP, hn.dA, hA, hn.s1, hn.r1, hn.s2, hn.r2, hn.so, hn.ro, hn.n1, hn.n2, hn.n3, hn.n4, hn.n5, hn.n6, hn.n7⟩⟩, Kq.of hk (by intro s hs; simp at hs; rcases hs with rfl | hs; exact hn.g; exact hn.fA s hs) (fun e he => o e (by rintro rfl; exact he (by decide)) (by rintro rfl; exact he (by decide)))⟩
  · exact h.i1.off hk ((o _ (by decide) (by decide)).nin h.i1.hs.ty) ((o _ (by decide) (by decide)).nin h.r1) (o _ (by decide) (by decide))
  · exact h.i2.off hk ((o _ (by decide) (by decide)).nin h.i2.hs.ty) ((o _ (by decide) (by decide)).nin h.r2) (o _ (by decide) (by decide))
  · exact h.o.off hk ((o _ (by decide) (by decide)).nin h.o.hs.ty) ((o _ (by decide) (by decide)).nin h.ro) (o _ (by decide) (by decide))
end
end Go.Proofs.Ythlmfjfkkndboaa
