/- gather.Drop over a table, where every hold is there: the deferred closure looks at the result and goes. A kernel in memory, and what each call turns of it. A new kernel of any numbers, whole. -/
import Derived.Test.YtedblbpmlbjnhaaGreatPE14
import Derived.Defers
import Derived.Test.YtedblbpmlbjnhaaGreatPE13
import Derived.Test.YtedblbpmlbjnhaaGreatPE6
namespace Go.Proofs.YtedblbpmlbjnhaaGreat
/-! ### gather.Drop over a table, where every hold is there: the deferred closure looks at the result and goes. -/
section
open Go.RowKit
set_option linter.unusedVariables false
set_option linter.unusedSimpArgs false
set_option maxRecDepth 100000
section
variable {R : Ending → World → Prop} {bT bL : Nat} {fs : List Fr} {w : World}

def dropAll (fs : List Fr) (l : List Pc) : List Fr := l.foldl (fun fs p => (tDrop fs p.f).2) fs
def dropOk : List Fr → List Pc → Prop
  | _, [] => True
  | fs, p :: l => (tDrop fs p.f).1 = 0 ∧ dropOk (tDrop fs p.f).2 l
theorem dropOk_at : ∀ {l : List Pc} {fs : List Fr} {k : Nat} {x : Pc}, dropOk fs l → l[k]? = some x → (tDrop (dropAll fs (l.take k)) x.f).1 = 0
  | p :: l, fs, 0, x, h, hx => by simp at hx; subst hx; exact h.1
  | p :: l, fs, k + 1, x, h, hx => by
    have := dropOk_at (k := k) h.2 (by simpa using hx)
    simpa [dropAll] using this
theorem tDrop_hoB {lo hi : Int} (h : ∀ y ∈ fs, lo ≤ y.ho ∧ y.ho ≤ hi) (f : Int) : ∀ y ∈ (tDrop fs f).2, lo - 1 ≤ y.ho ∧ y.ho ≤ hi := by
  unfold tDrop
  split
  · split
    · intro y hy; have := h y hy; omega
    · rename_i x hx
      intro y hy
      rcases mem_set hy with rfl | hy
      · have := h x (List.mem_of_getElem? (fat_some hx).2); simp only; omega
      · have := h y hy; omega
  · intro y hy; have := h y hy; omega

/-- The closure where the call ends well. -/
theorem drop1_ok (e l d t : Nat) (h0 : w.cell? ⟨e, 0, none⟩ = some (.int .i64 0)) : CallsD Tryz.prog 124 #[.pointer (some ⟨e, 0, none⟩), .pointer (some ⟨l, 0, none⟩), .pointer (some ⟨d, 0, none⟩), .pointer (some ⟨t, 0, none⟩)] .returning w fun e u' w' => u' = .returning ∧ (e = .returned (.tuple #[]) ∧ w' = w) := by
  go_enter_d Tryz.func124, Tryz.ntmps124
  go_wp2
  first | go_end0 | refine bodyPost_ret (results_none rfl _ _ _) rfl ?_
  simp

set_option maxHeartbeats 1000000 in
theorem gdrop_any (hT : Tab w bT bL fs) {N : List Nat} {A : Option Addr} {n c : Nat} {l : List Pc} (hr : Rd w N A (l.flatMap Pc.vals)) (hN : ∀ s ∈ [bL], s ∈ N ∨ w.heap.size ≤ s) (hl : l.length = n) (hn : n ≤ 1000000) (hb : ∀ y ∈ fs, 0 ≤ y.ho ∧ y.ho ≤ 1000000) (hd : dropOk fs l)
    (h : ∀ w', Kp [bL] w w' → Tab w' bT bL (dropAll fs l) → R (.returned (.int .i64 0)) w') :
    Calls Tryz.prog 64 #[.pointer (some ⟨bT, 0, none⟩), .slice A n c] w R := by
  have H := Lib.hid h
  have HL := Lib.hid hl
  have HN := Lib.hid hN
  have HB := Lib.hid hb
  have HD := Lib.hid hd
  have hmf : ∀ (fn : Fn) (first cap : Array Value) (w : World), (Instr.makeFunc fn first cap).run Tryz.prog w = .ok (.func fn first cap) w := fun _ _ _ _ => rfl
  clear h hl hN hb hd
  go_enter_defers Tryz.func64, Tryz.ntmps64
  go_wp2
  have hbl := hT.l.lt
  have hbt := hT.t.lt
  have z0 : Bk _ w.heap.size 58 [.pointer (some ⟨bT, 0, none⟩)] := (((Bk.new' w 58 #[.pointer (some ⟨bT, 0, none⟩)]).alloc (.cells #[.slice A n c] 43)).alloc (.cells #[.int .i64 0] 26)).alloc (.cells #[.int .i64 0] 3)
  have z1 : Bk _ (w.heap.size + 1) 43 [.slice A n c] := ((Bk.newAt (w := w.alloc (.cells #[.pointer (some ⟨bT, 0, none⟩)] 58)) (by simp) 43 #[.slice A n c]).alloc (.cells #[.int .i64 0] 26)).alloc (.cells #[.int .i64 0] 3)
  have z2 : Bk _ (w.heap.size + 1 + 1) 26 [.int .i64 0] := (Bk.newAt (w := (w.alloc (.cells #[.pointer (some ⟨bT, 0, none⟩)] 58)).alloc (.cells #[.slice A n c] 43)) (by simp) 26 #[.int .i64 0]).alloc (.cells #[.int .i64 0] 3)
  have z3 : Bk _ (w.heap.size + 1 + 1 + 1) 3 [.int .i64 0] := Bk.newAt (w := ((w.alloc (.cells #[.pointer (some ⟨bT, 0, none⟩)] 58)).alloc (.cells #[.slice A n c] 43)).alloc (.cells #[.int .i64 0] 26)) (by simp) 3 #[.int .i64 0]
  have kz : Kp [bL] w _ := ((((Kp.refl [bL] w).alloc (.cells #[.pointer (some ⟨bT, 0, none⟩)] 58)).alloc (.cells #[.slice A n c] 43)).alloc (.cells #[.int .i64 0] 26)).alloc (.cells #[.int .i64 0] 3)
  have tz := hT.kp (((((Kp.refl [] w).alloc (.cells #[.pointer (some ⟨bT, 0, none⟩)] 58)).alloc (.cells #[.slice A n c] 43)).alloc (.cells #[.int .i64 0] 26)).alloc (.cells #[.int .i64 0] 3)) (by simp) (by simp)
  generalize (((w.alloc (.cells #[.pointer (some ⟨bT, 0, none⟩)] 58)).alloc (.cells #[.slice A n c] 43)).alloc (.cells #[.int .i64 0] 26)).alloc (.cells #[.int .i64 0] 3) = wz at *
  go_loopw [13] (fun i wr => ∃ (k : Nat) (fr : List Fr), k ≤ n ∧ i = .int .i64 k ∧ Kp [bL] w wr ∧ Tab wr bT bL fr ∧ Bk wr w.heap.size 58 [.pointer (some ⟨bT, 0, none⟩)] ∧ Bk wr (w.heap.size + 1) 43 [.slice A n c] ∧ Bk wr (w.heap.size + 1 + 1) 26 [.int .i64 0] ∧ Bk wr (w.heap.size + 1 + 1 + 1) 3 [.int .i64 k] ∧
    Hid (fr = dropAll fs (l.take k) ∧ (∀ y ∈ fr, -(k : Int) ≤ y.ho ∧ y.ho ≤ 1000000))) (fun i _ => n - (intOf i).toNat)
  case atStart => exact ⟨0, fs, Nat.zero_le _, rfl, kz, tz, z0, z1, z2, z3, rfl, by simpa using HB.out⟩
  case round =>
    obtain ⟨k, fr, hk, rfl, kr, tr, y0, y1, y2, y3, hq⟩ := hrel
    by_cases hlt : k < n
    · obtain ⟨x, hx, hm⟩ := get_lt (l := l) (k := k) (by rw [HL.out]; exact hlt)
      obtain ⟨b, off, rfl, _, _, hc⟩ := rd_at (hr.kp kr HN.out) pvals_len (by omega) hx
      have c0 := hc 0 _ rfl
      have c1 := hc 1 _ rfl
      have c2 := hc 2 _ rfl
      rw [Nat.add_zero] at c0
      have HX := Lib.hid hx
      have HE := Lib.hid (dropOk_at HD.out hx)
      have ta := fun o => tr.kp ((Kp.refl [] wr).alloc o) (by simp) (by simp)
      have ko := fun o => kr.alloc o
      have e0 := y0.cell 0
      have e3 := y3.cell 0
      simp only [List.getElem?_cons_zero] at e0 e3
      have e0a := fun o => (y0.alloc o).cell 0
      simp only [List.getElem?_cons_zero] at e0a
      have hs := kr.size
      clear hc hx
      go_wp2_with (go_at_call 126; refine drop_any (ta _) _ (fun y hy => by have := hq.out.2 y (List.mem_of_getElem? (fat_some hy).2); omega) (fun e7 f7 w7 q7 k7 t7 => ?_); (obtain rfl : e7 = 0 := by have := congrArg Prod.fst q7.out; rw [hq.out.1, HE.out] at this; exact this.symm); have x0 := (y0.alloc _).kp k7 (by simp; omega); have x1 := (y1.alloc _).kp k7 (by simp; omega); have x2 := (y2.alloc _).kp k7 (by simp; omega); have x3 := (y3.alloc _).kp k7 (by simp; omega); have g3 := x3.cell 0; have f3 := x3.frozen 0; simp only [List.getElem?_cons_zero] at g3)
      refine ⟨⟨k + 1, f7, by omega, by go_num, ((ko _).thn k7 (fun s hs => .inl hs)).setCell (.inr (by simp; omega)) _, t7.kp ((Kp.refl [w.heap.size + 1 + 1 + 1] w7).setCell (.inl (by simp)) _) (by simp; omega) (by simp; omega), x0.far (by simp <;> omega) _, x1.far (by simp <;> omega) _, x2.far (by simp <;> omega) _, (x3.set_ 0 _).cast (by go_num), Lib.hid ⟨?_, ?_⟩⟩, by simp [intOf]; omega⟩
      · have := foldl_snoc (f := fun fs (p : Pc) => (tDrop fs p.f).2) (b := fs) HX.out
        unfold dropAll
        rw [this]
        show f7 = (tDrop (dropAll fs (l.take k)) x.f).2
        rw [← hq.out.1, q7.out]
      · have := tDrop_hoB hq.out.2 x.f
        rw [q7.out] at this
        intro y hy
        have := this y hy
        omega
    · have e : l.take k = l := List.take_of_length_le (by have := HL.out; omega)
      obtain rfl : n = k := by omega
      rw [e] at hq
      clear e
      have e2 := y2.cell 0
      have f2 := y2.frozen 0
      simp only [List.getElem?_cons_zero] at e2
      go_wp2
      have v2 := y2.set_ 0 (.int .i64 0)
      have u2 := v2.cell 0
      simp only [List.set_cons_zero, List.getElem?_cons_zero] at u2
      refine leaves_cons (f := 124) (args := #[.pointer (some ⟨w.heap.size + 1 + 1, 0, none⟩), .pointer (some ⟨w.heap.size + 1, 0, none⟩), .pointer (some ⟨w.heap.size + 1 + 1 + 1, 0, none⟩), .pointer (some ⟨w.heap.size, 0, none⟩)]) (by simp) (by simp [go_sem]) ?_
      refine (drop1_ok _ _ _ _ u2).mono ?_
      rintro e u' w'' ⟨rfl, rfl, rfl⟩
      have ht := tr.kp ((Kp.refl [w.heap.size + 1 + 1] wr).setCell (p := ⟨w.heap.size + 1 + 1, 0, none⟩) (.inl (by simp)) (.int .i64 0)) (by simp; omega) (by simp; omega)
      rw [hq.out.1] at ht
      have hg := H.out _ (kr.setCell (p := ⟨w.heap.size + 1 + 1, 0, none⟩) (.inr (by simp; omega)) (.int .i64 0)) ht
      simp [Leaves, settle, results, Tryz.results64, go_sem, u2]
      exact hg
end
end
/-! ### A kernel in memory, and what each call turns of it. -/
section
open Go.RowKit Go.Shelf
set_option linter.unusedVariables false
set_option linter.unusedSimpArgs false
set_option maxRecDepth 100000

/-- A kernel, in plain words. -/
structure KS where
  fs : List Fr
  d : DkS
  fl : List Bnd
  nx : Nat
  f1 : Nat
  q1 : List Sl
  f2 : Nat
  q2 : List Sl
  fo : Nat
  qo : List Tq
  dn : Nat
/-- Where its parts lie. -/
structure KA where
  g : Nat
  bT : Nat
  bL : Nat
  bD : Nat
  bP : Nat
  bO : Nat
  dA : Option Addr
  dc : Nat
  fA : Option Addr
  fc : Nat
  z0 : Option Addr
  s1 : Nat
  r1 : Nat
  s2 : Nat
  r2 : Nat
  so : Nat
  ro : Nat
def KA.cells (a : KA) (k : KS) : List Value :=
  [.pointer (some ⟨a.bT, 0, none⟩), .pointer (some ⟨a.bD, 0, none⟩), .slice a.fA k.fl.length a.fc, .int .i64 k.nx, .pointer a.z0, .pointer (some ⟨a.s1, 0, none⟩), .pointer (some ⟨a.s2, 0, none⟩), .pointer (some ⟨a.so, 0, none⟩), .int .i64 k.dn]
/-- No block of the kernel's is older than B. -/
structure KA.new (B : Nat) (a : KA) : Prop where
  g : B ≤ a.g
  bL : B ≤ a.bL
  bD : B ≤ a.bD
  bP : B ≤ a.bP
  dA : Fresh B a.dA
  fA : Fresh B a.fA
  s1 : B ≤ a.s1
  r1 : B ≤ a.r1
  s2 : B ≤ a.s2
  r2 : B ≤ a.r2
  so : B ≤ a.so
  ro : B ≤ a.ro
  n1 : a.s1 ≠ a.r1
  n2 : a.s2 ≠ a.r2
  n3 : a.s1 ≠ a.s2
  n4 : a.r1 ≠ a.r2
  n5 : a.s1 ≠ a.r2
  n6 : a.s2 ≠ a.r1
  n7 : a.so ≠ a.ro
  og : a.bO < a.g
/-- All numbers are bounded by the calls that were made. -/
structure KS.cnt (m : Nat) (k : KS) : Prop where
  ln : k.d.ln.length ≤ m
  nx : k.nx ≤ m
  c1 : k.f1 + k.q1.length ≤ m
  c2 : k.f2 + k.q2.length ≤ m
  co : k.fo + k.qo.length ≤ m
  dn : k.dn ≤ m
  fl : k.fl.length ≤ 8
  ho : ∀ y ∈ k.fs, 0 ≤ y.ho ∧ y.ho ≤ 16 * m
structure Kn (w : World) (B : Nat) (a : KA) (k : KS) : Prop where
  g : Bk w a.g 114 (a.cells k)
  t : Tab w a.bT a.bL k.fs
  d : Dsk w a.bD a.bP a.bO a.dA a.dc k.d
  fl : Ow w 144 3 a.fA k.fl.length a.fc (k.fl.flatMap Bnd.vals)
  fd : ∀ x ∈ k.fl, x.p.length = x.n ∧ x.n ≤ 64 ∧ Tb w 128 x.A (x.p.flatMap FOp.vals)
  i1 : Rb w a.s1 a.r1 k.f1 k.q1
  i2 : Rb w a.s2 a.r2 k.f2 k.q2
  o : Rq w a.so a.ro k.fo k.qo
  new : a.new B
/-- The types of what a kernel's calls may turn. -/
def MT : List Nat := [114, 239, 163, 245, 247, 144, 199, 37, 202, 120]
/-- What a kernel's call keeps: all blocks older than B, and all of other types. -/
structure Kq (B : Nat) (w w' : World) : Prop where
  os : w'.os = w.os
  tape : w'.tape = w.tape
  output : w'.output = w.output
  size : w.heap.size ≤ w'.heap.size
  block : ∀ b, b < w.heap.size → (b < B ∨ ∃ e, e ∉ MT ∧ Ty w b e) → w'.heap[b]? = w.heap[b]?
theorem Kq.refl (B : Nat) (w : World) : Kq B w w := ⟨rfl, rfl, rfl, Nat.le_refl _, fun _ _ _ => rfl⟩
theorem Ty.same {w w' : World} {b e : Nat} (h : Ty w b e) (hb : w'.heap[b]? = w.heap[b]?) : Ty w' b e := by
  obtain ⟨cs, z, h⟩ := h
  exact ⟨cs, z, hb.trans h⟩
theorem Kq.trans {B : Nat} {a w w' : World} (h : Kq B a w) (k : Kq B w w') : Kq B a w' :=
  ⟨k.os.trans h.os, k.tape.trans h.tape, k.output.trans h.output, Nat.le_trans h.size k.size, fun b hb hc => by
    have h1 := h.block b hb hc
    refine (k.block b (Nat.lt_of_lt_of_le hb h.size) ?_).trans h1
    rcases hc with hc | ⟨e, he, ht⟩
    · exact .inl hc
    · exact .inr ⟨e, he, ht.same h1⟩⟩
theorem Kq.of {B : Nat} {S : List Nat} {w w' : World} (h : Kp S w w') (hB : ∀ s ∈ S, B ≤ s) (hT : ∀ e, e ∉ MT → Off w S e) : Kq B w w' :=
  ⟨h.os, h.tape, h.output, h.size, fun b hb hc => h.block b hb (fun hm => by
    rcases hc with hc | ⟨e, he, ht⟩
    · have := hB b hm; omega
    · exact (hT e he).nin ht hm)⟩
theorem Kq.of0 {B : Nat} {w w' : World} (h : Kp [] w w') : Kq B w w' := Kq.of h (by simp) (fun e _ => Off.nil w e)
theorem Kq.bz {B : Nat} {w w' : World} (h : Kq B w w') {b e : Nat} {cs : List Value} (hb : Bz w b e cs) (he : e ∉ MT) : Bz w' b e cs := by
  have hl := hb.lt
  have h1 := h.block b hl (.inr ⟨e, he, cs, hb⟩)
  obtain ⟨z, hz⟩ := hb
  exact ⟨z, h1.trans hz⟩
theorem Kq.bk {B : Nat} {w w' : World} (h : Kq B w w') {b e : Nat} {cs : List Value} (hb : Bk w b e cs) (he : e ∉ MT) : Bk w' b e cs := by
  have hl := hb.lt
  exact (h.block b hl (.inr ⟨e, he, cs, hb.bz⟩)).trans hb
theorem Kq.tb {B : Nat} {w w' : World} (h : Kq B w w') {A : Option Addr} {e : Nat} {xs : List Value} (hb : Tb w e A xs) (he : e ∉ MT) : Tb w' e A xs := fun hx => by
  obtain ⟨b, off, cs, rfl, hb, hc⟩ := hb hx
  exact ⟨b, off, cs, rfl, h.bz hb he, hc⟩
theorem Kq.kp {B : Nat} {w w' : World} (h : Kq B w w') (hB : w.heap.size ≤ B) : Kp [] w w' := ⟨h.os, h.tape, h.output, h.size, fun b hb _ => h.block b hb (.inl (by omega))⟩
theorem Kq.old {B : Nat} {w0 w w' : World} (h : Kq B w w') (h0 : Kp [] w0 w) (hB : w0.heap.size ≤ B) : Kp [] w0 w' :=
  ⟨h.os.trans h0.os, h.tape.trans h0.tape, h.output.trans h0.output, Nat.le_trans h0.size h.size, fun b hb _ => (h.block b (Nat.lt_of_lt_of_le hb h0.size) (.inl (by omega))).trans (h0.block b hb (by simp))⟩
section
variable {w w' : World} {B : Nat} {a : KA} {k : KS} {S : List Nat}
theorem Kn.cell (h : Kn w B a k) (i : Nat) : w.cell? ⟨a.g, i, none⟩ = (a.cells k)[i]? := h.g.cell i
theorem Kn.off0 (h : Kn w B a k) (hk : Kp [] w w') : Kn w' B a k :=
  ⟨h.g.kp hk (by simp), h.t.kp hk (by simp) (by simp), h.d.off hk (Off.nil _ _) (Off.nil _ _) (Off.nil _ _) (Off.nil _ _), h.fl.kp hk (by simp), fun x hx => ⟨(h.fd x hx).1, (h.fd x hx).2.1, (h.fd x hx).2.2.kp hk (Off.nil _ _)⟩, h.i1.off hk (by simp) (by simp) (Off.nil _ _), h.i2.off hk (by simp) (by simp) (Off.nil _ _), h.o.off hk (by simp) (by simp) (Off.nil _ _), h.new⟩
theorem Kn.r1 (h : Kn w B a k) : Ty w a.r1 37 := by obtain ⟨cs, hcs, _⟩ := h.i1.hr; exact hcs.ty
theorem Kn.r2 (h : Kn w B a k) : Ty w a.r2 37 := by obtain ⟨cs, hcs, _⟩ := h.i2.hr; exact hcs.ty
theorem Kn.ro (h : Kn w B a k) : Ty w a.ro 120 := by obtain ⟨cs, hcs, _⟩ := h.o.hr; exact hcs.ty
/-- All but the frames, where only the frames' row turned. -/
theorem Kn.setT (h : Kn w B a k) (hk : Kp [a.bL] w w') {fs' : List Fr} (t' : Tab w' a.bT a.bL fs') : Kn w' B a { k with fs := fs' } ∧ Kq B w w' := by
  have o : ∀ e, 239 ≠ e → Off w [a.bL] e := fun e he => Off.one h.t.l.ty he
  refine ⟨⟨h.g.off hk (o _ (by decide)), t', h.d.off hk (o _ (by decide)) (o _ (by decide)) (o _ (by decide)) (o _ (by decide)), h.fl.off hk (o _ (by decide)), fun x hx => ⟨(h.fd x hx).1, (h.fd x hx).2.1, (h.fd x hx).2.2.kp hk (o _ (by decide))⟩, ?_, ?_, ?_, h.new⟩, Kq.of hk (by intro s hs; simp at hs; subst hs; exact h.new.bL) (fun e he => o e (by rintro rfl; exact he (by decide)))⟩
  · exact h.i1.off hk ((o _ (by decide)).nin h.i1.hs.ty) ((o _ (by decide)).nin h.r1) (o _ (by decide))
  · exact h.i2.off hk ((o _ (by decide)).nin h.i2.hs.ty) ((o _ (by decide)).nin h.r2) (o _ (by decide))
  · exact h.o.off hk ((o _ (by decide)).nin h.o.hs.ty) ((o _ (by decide)).nin h.ro) (o _ (by decide))
/-- The disk turned. -/
theorem Kn.setD (h : Kn w B a k) (hk : Kp S w w') {dA' : Option Addr} {dc' : Nat} {d' : DkS} (t' : Dsk w' a.bD a.bP a.bO dA' dc' d') (hA : Fresh B dA') (hB : ∀ s ∈ S, B ≤ s)
    (o : ∀ e, 163 ≠ e → 245 ≠ e → 247 ≠ e → Off w S e) : Kn w' B { a with dA := dA', dc := dc' } { k with d := d' } ∧ Kq B w w' := by
  have hn := h.new
  refine ⟨⟨h.g.off hk (o _ (by decide) (by decide) (by decide)), h.t.kp hk ((o _ (by decide) (by decide) (by decide)).nin h.t.t.ty) ((o _ (by decide) (by decide) (by decide)).nin h.t.l.ty), t', h.fl.off hk (o _ (by decide) (by decide) (by decide)), fun x hx => ⟨(h.fd x hx).1, (h.fd x hx).2.1, (h.fd x hx).2.2.kp hk (o _ (by decide) (by decide) (by decide))⟩, ?_, ?_, ?_, ⟨hn.g, hn.bL, hn.bD, hn.bP, hA, hn.fA, hn.s1, hn.r1, hn.s2, hn.r2, hn.so, hn.ro, hn.n1, hn.n2, hn.n3, hn.n4, hn.n5, hn.n6, hn.n7, hn.og⟩⟩, Kq.of hk hB (fun e he => o e (by rintro rfl; exact he (by decide)) (by rintro rfl; exact he (by decide)) (by rintro rfl; exact he (by decide)))⟩
  · exact h.i1.off hk ((o _ (by decide) (by decide) (by decide)).nin h.i1.hs.ty) ((o _ (by decide) (by decide) (by decide)).nin h.r1) (o _ (by decide) (by decide) (by decide))
  · exact h.i2.off hk ((o _ (by decide) (by decide) (by decide)).nin h.i2.hs.ty) ((o _ (by decide) (by decide) (by decide)).nin h.r2) (o _ (by decide) (by decide) (by decide))
  · exact h.o.off hk ((o _ (by decide) (by decide) (by decide)).nin h.o.hs.ty) ((o _ (by decide) (by decide) (by decide)).nin h.ro) (o _ (by decide) (by decide) (by decide))
/-- The first ring turned. -/
theorem Kn.set1 (h : Kn w B a k) (hk : Kp [a.s1, a.r1] w w') {f' : Nat} {q' : List Sl} (t' : Rb w' a.s1 a.r1 f' q') : Kn w' B a { k with f1 := f', q1 := q' } ∧ Kq B w w' := by
  have o : ∀ e, 199 ≠ e → 37 ≠ e → Off w [a.s1, a.r1] e := fun e h1 h2 => Off.app (S := [a.s1]) (S' := [a.r1]) (Off.one h.i1.hs.ty h1) (Off.one h.r1 h2)
  have hn := h.new
  refine ⟨⟨h.g.off hk (o _ (by decide) (by decide)), h.t.kp hk ((o _ (by decide) (by decide)).nin h.t.t.ty) ((o _ (by decide) (by decide)).nin h.t.l.ty), h.d.off hk (o _ (by decide) (by decide)) (o _ (by decide) (by decide)) (o _ (by decide) (by decide)) (o _ (by decide) (by decide)), h.fl.off hk (o _ (by decide) (by decide)), fun x hx => ⟨(h.fd x hx).1, (h.fd x hx).2.1, (h.fd x hx).2.2.kp hk (o _ (by decide) (by decide))⟩, t', ?_, ?_, h.new⟩, Kq.of hk (by intro s hs; simp at hs; rcases hs with rfl | rfl; exact hn.s1; exact hn.r1) (fun e he => o e (by rintro rfl; exact he (by decide)) (by rintro rfl; exact he (by decide)))⟩
  · exact h.i2.off hk (by simp; exact ⟨hn.n3.symm, hn.n6⟩) (by simp; exact ⟨hn.n5.symm, hn.n4.symm⟩) (o _ (by decide) (by decide))
  · exact h.o.off hk ((o _ (by decide) (by decide)).nin h.o.hs.ty) ((o _ (by decide) (by decide)).nin h.ro) (o _ (by decide) (by decide))
/-- The second ring turned. -/
theorem Kn.set2 (h : Kn w B a k) (hk : Kp [a.s2, a.r2] w w') {f' : Nat} {q' : List Sl} (t' : Rb w' a.s2 a.r2 f' q') : Kn w' B a { k with f2 := f', q2 := q' } ∧ Kq B w w' := by
  have o : ∀ e, 199 ≠ e → 37 ≠ e → Off w [a.s2, a.r2] e := fun e h1 h2 => Off.app (S := [a.s2]) (S' := [a.r2]) (Off.one h.i2.hs.ty h1) (Off.one h.r2 h2)
  have hn := h.new
  refine ⟨⟨h.g.off hk (o _ (by decide) (by decide)), h.t.kp hk ((o _ (by decide) (by decide)).nin h.t.t.ty) ((o _ (by decide) (by decide)).nin h.t.l.ty), h.d.off hk (o _ (by decide) (by decide)) (o _ (by decide) (by decide)) (o _ (by decide) (by decide)) (o _ (by decide) (by decide)), h.fl.off hk (o _ (by decide) (by decide)), fun x hx => ⟨(h.fd x hx).1, (h.fd x hx).2.1, (h.fd x hx).2.2.kp hk (o _ (by decide) (by decide))⟩, ?_, t', ?_, h.new⟩, Kq.of hk (by intro s hs; simp at hs; rcases hs with rfl | rfl; exact hn.s2; exact hn.r2) (fun e he => o e (by rintro rfl; exact he (by decide)) (by rintro rfl; exact he (by decide)))⟩
  · exact h.i1.off hk (by simp; exact ⟨hn.n3, hn.n5⟩) (by simp; exact ⟨hn.n6.symm, hn.n4⟩) (o _ (by decide) (by decide))
  · exact h.o.off hk ((o _ (by decide) (by decide)).nin h.o.hs.ty) ((o _ (by decide) (by decide)).nin h.ro) (o _ (by decide) (by decide))
/-- The transfers turned. -/
theorem Kn.setO (h : Kn w B a k) (hk : Kp [a.so, a.ro] w w') {f' : Nat} {q' : List Tq} (t' : Rq w' a.so a.ro f' q') : Kn w' B a { k with fo := f', qo := q' } ∧ Kq B w w' := by
  have o : ∀ e, 202 ≠ e → 120 ≠ e → Off w [a.so, a.ro] e := fun e h1 h2 => Off.app (S := [a.so]) (S' := [a.ro]) (Off.one h.o.hs.ty h1) (Off.one h.ro h2)
  have hn := h.new
  refine ⟨⟨h.g.off hk (o _ (by decide) (by decide)), h.t.kp hk ((o _ (by decide) (by decide)).nin h.t.t.ty) ((o _ (by decide) (by decide)).nin h.t.l.ty), h.d.off hk (o _ (by decide) (by decide)) (o _ (by decide) (by decide)) (o _ (by decide) (by decide)) (o _ (by decide) (by decide)), h.fl.off hk (o _ (by decide) (by decide)), fun x hx => ⟨(h.fd x hx).1, (h.fd x hx).2.1, (h.fd x hx).2.2.kp hk (o _ (by decide) (by decide))⟩, ?_, ?_, t', h.new⟩, Kq.of hk (by intro s hs; simp at hs; rcases hs with rfl | rfl; exact hn.so; exact hn.ro) (fun e he => o e (by rintro rfl; exact he (by decide)) (by rintro rfl; exact he (by decide)))⟩
  · exact h.i1.off hk ((o _ (by decide) (by decide)).nin h.i1.hs.ty) ((o _ (by decide) (by decide)).nin h.r1) (o _ (by decide) (by decide))
  · exact h.i2.off hk ((o _ (by decide) (by decide)).nin h.i2.hs.ty) ((o _ (by decide) (by decide)).nin h.r2) (o _ (by decide) (by decide))
/-- The kernel's own block, and the filters' row, turned. -/
theorem Kn.setF (h : Kn w B a k) (hk : Kp (a.g :: bks a.fA) w w') {fA' : Option Addr} {fc' nx' dn' : Nat} {fl' : List Bnd} (hg : Bk w' a.g 114 ((KA.cells { a with fA := fA', fc := fc' } { k with fl := fl', nx := nx', dn := dn' })))
    (hf : Ow w' 144 3 fA' fl'.length fc' (fl'.flatMap Bnd.vals)) (hA : Fresh B fA') (hd : ∀ x ∈ fl', x.p.length = x.n ∧ x.n ≤ 64 ∧ Tb w' 128 x.A (x.p.flatMap FOp.vals)) :
    Kn w' B { a with fA := fA', fc := fc' } { k with fl := fl', nx := nx', dn := dn' } ∧ Kq B w w' := by
  have o : ∀ e, 114 ≠ e → 144 ≠ e → Off w (a.g :: bks a.fA) e := fun e h1 h2 => Off.app (S := [a.g]) (Off.one h.g.ty h1) (Off.bks h.fl.ty h2)
  have hn := h.new
  refine ⟨⟨hg, h.t.kp hk ((o _ (by decide) (by decide)).nin h.t.t.ty) ((o _ (by decide) (by decide)).nin h.t.l.ty), h.d.off hk (o _ (by decide) (by decide)) (o _ (by decide) (by decide)) (o _ (by decide) (by decide)) (o _ (by decide) (by decide)), hf, hd, ?_, ?_, ?_, ⟨hn.g, hn.bL, hn.bD, hn.bP, hn.dA, hA, hn.s1, hn.r1, hn.s2, hn.r2, hn.so, hn.ro, hn.n1, hn.n2, hn.n3, hn.n4, hn.n5, hn.n6, hn.n7, hn.og⟩⟩, Kq.of hk (by intro s hs; simp at hs; rcases hs with rfl | hs; exact hn.g; exact hn.fA s hs) (fun e he => o e (by rintro rfl; exact he (by decide)) (by rintro rfl; exact he (by decide)))⟩
  · exact h.i1.off hk ((o _ (by decide) (by decide)).nin h.i1.hs.ty) ((o _ (by decide) (by decide)).nin h.r1) (o _ (by decide) (by decide))
  · exact h.i2.off hk ((o _ (by decide) (by decide)).nin h.i2.hs.ty) ((o _ (by decide) (by decide)).nin h.r2) (o _ (by decide) (by decide))
  · exact h.o.off hk ((o _ (by decide) (by decide)).nin h.o.hs.ty) ((o _ (by decide) (by decide)).nin h.ro) (o _ (by decide) (by decide))
end
end
/-! ### A new kernel of any numbers, whole. -/
section
open Go.RowKit Go.Shelf
set_option linter.unusedVariables false
set_option linter.unusedSimpArgs false
set_option maxRecDepth 100000

def z256 : List UInt8 := List.replicate 256 0
def dz (n : Nat) : DkS := { bl := List.replicate n z256, ow := List.replicate n 0, ln := [] }
theorem z256_len : z256.length = 256 := by kernel_rfl
theorem zpg_cells : (Array.replicate 256 (Value.int .u8 0)).toList = pcells z256 := by rw [pcells_eq z256_len]; kernel_rfl
theorem made_pages (n : Nat) : (madeCells (Array.replicate 256 (Value.int .u8 0)) (n * 256)).toList = (List.replicate n z256).flatMap pcells := by
  have h := made_pieces (z := Array.replicate 256 (Value.int .u8 0)) (K := 256) (by simp) (by omega) n
  rw [h]
  induction n with
  | zero => rfl
  | succ n ih =>
    rw [List.replicate_succ, List.replicate_succ, List.flatMap_cons, List.flatMap_cons, zpg_cells]
    congr 1
    exact ih (made_pieces (z := Array.replicate 256 (Value.int .u8 0)) (K := 256) (by simp) (by omega) n)
theorem dz_ok {n : Nat} (h : n ≤ 512) : (dz n).ok := ⟨by simpa [dz] using h, by simp [dz], fun s hs => by rw [List.eq_of_mem_replicate hs]; exact z256_len, by simp [dz], by simp [dz], by simp [dz]⟩
set_option maxHeartbeats 2000000 in
theorem dnew2_any {R : Ending → World → Prop} (n : Nat) (w : World) (h1 : 1 ≤ n) (h2 : n ≤ 512) (h : ∀ bD bL bO w', w.heap.size ≤ bD → w.heap.size ≤ bL → w.heap.size ≤ bO → Kp [] w w' → Dsk w' bD bL bO none 0 (dz n) → R (.returned (.tuple #[.pointer (some ⟨bD, 0, none⟩), .int .i64 0])) w') :
    Calls Tryz.prog 41 #[.int .i64 n] w R := by
  have H := Lib.hid h
  clear h
  obtain ⟨pz, hpz⟩ : ∃ pz, Array.replicate 256 (Value.int .u8 0) = pz := ⟨_, rfl⟩
  have hinf : (Tryz.prog.info? 245).map (fun i => (i.zero, i.size, i.bytes)) = some (some (.agg pz), 256, 256) := by rw [← hpz]; exact info_page
  have hmp : (madeCells pz (n * 256)).toList = (List.replicate n z256).flatMap pcells := by rw [← hpz]; exact made_pages n
  have HMP := Lib.hid hmp
  obtain ⟨i0, hi, hz0, hz1, hz2⟩ := info_parts hinf
  obtain ⟨i1, ji, jz0, jz1, jz2⟩ := info_parts info_int
  have hmk := fun W => run_make (P := Tryz.prog) W 160 245 i0 _ Tryz.underlying160 hi hz0 .i64 .i64 n n (by omega) (by omega) (by rw [hz2]; omega) (by omega)
  have hmi := fun W => run_make (P := Tryz.prog) W 71 3 i1 _ Tryz.underlying71 ji jz0 .i64 .i64 n n (by omega) (by omega) (by rw [jz2]; omega) (by omega)
  simp only [hz1, Int.toNat_natCast] at hmk
  simp only [jz1, Int.toNat_natCast] at hmi
  clear hi hz0 hz1 hz2 ji jz0 jz1 jz2 hmp hpz hinf
  go_enter Tryz.func41, Tryz.ntmps41
  go_wp2
  go_region
  all_goals
    go_wp2
    first
    | exact rcast (H.out (w.heap.size + 1 + 1) w.heap.size (w.heap.size + 1) _ (by omega) (by omega) (by omega) ((((Kp.refl _ _).alloc _).alloc _).alloc _).drew ⟨(Bk.newAt (by simp) _ _).cast (by simp [dz]), (((Bk.new' _ _ _).alloc _).alloc _).cast HMP.out, (((Bk.newAt (by simp) _ _).alloc _).cast (made_ints n)), Ow.nil, dz_ok h2⟩) rfl
    | exact rcast (H.out (w.heap.size + 1 + 1) (w.heap.size + 1) w.heap.size _ (by omega) (by omega) (by omega) ((((Kp.refl _ _).alloc _).alloc _).alloc _).drew ⟨(Bk.newAt (by simp) _ _).cast (by simp [dz]), (((Bk.newAt (by simp) _ _).alloc _).cast HMP.out), ((((Bk.new' _ _ _).alloc _).alloc _).cast (made_ints n)), Ow.nil, dz_ok h2⟩) rfl
/-- Who has which block: the first environment all but the last quarter. -/
def own2 (n : Nat) : List Int := List.replicate (n - n / 4) 1 ++ List.replicate (n / 4) 2
theorem setR_at (os : List Int) (first : Nat) (e : Int) : ∀ (k j : Nat), first + k ≤ os.length → (setR os first k e)[j]? = if first ≤ j ∧ j < first + k then some e else os[j]?
  | 0, j, _ => by rw [setR, if_neg (by omega)]
  | k + 1, j, h => by
    rw [setR, List.getElem?_set]
    by_cases hj : first + k = j
    · rw [if_pos hj, if_pos (by rw [setR_len]; omega), if_pos (by omega)]
    · rw [if_neg hj, setR_at os first e k j (by omega)]
      by_cases hc : first ≤ j ∧ j < first + k
      · rw [if_pos hc, if_pos (by omega)]
      · rw [if_neg hc, if_neg (by omega)]
theorem grants (n : Nat) : setR (setR (List.replicate n 0) 0 (n - n / 4) 1) (n - n / 4) (n / 4) 2 = own2 n := by
  apply List.ext_getElem?
  intro j
  rw [setR_at _ _ _ _ _ (by rw [setR_len, List.length_replicate]; omega), setR_at _ _ _ _ _ (by rw [List.length_replicate]; omega)]
  unfold own2
  rw [List.getElem?_append, List.length_replicate]
  simp only [List.getElem?_replicate]
  by_cases a1 : n - n / 4 ≤ j ∧ j < n - n / 4 + n / 4
  · rw [if_pos a1, if_neg (by omega), if_pos (by omega)]
  · rw [if_neg a1]
    by_cases a2 : 0 ≤ j ∧ j < 0 + (n - n / 4)
    · rw [if_pos a2, if_pos (by omega), if_pos (by omega)]
    · rw [if_neg a2, if_neg (by omega), if_neg (by omega), if_neg (by omega)]
set_option maxHeartbeats 2000000 in
theorem rnb2_any {R : Ending → World → Prop} (w : World) (h : ∀ g l w', w.heap.size ≤ g → w.heap.size ≤ l → Kp [] w w' → Rb w' g l 0 [] → g ≠ l → R (.returned (.tuple #[.pointer (some ⟨g, 0, none⟩), .int .i64 0])) w') :
    Calls Tryz.prog 43 #[.int .i64 16] w R := by
  have H := Lib.hid h
  clear h
  obtain ⟨i0, hi, hz0, hz1, hz2⟩ := info_parts info_bs
  have hmk := fun W => run_make (P := Tryz.prog) W 197 37 i0 _ Tryz.underlying197 hi hz0 .i64 .i64 16 16 (by omega) (by omega) (by rw [hz2]; omega) (by omega)
  simp only [hz1] at hmk
  have hml : (madeCells #[Value.slice none 0 0] 16).toList.length = 16 := by have := made_pieces (z := #[Value.slice none 0 0]) (K := 1) rfl (by omega) 16; rw [show 16 = 16 * 1 by rfl, this]; simp
  have HML := Lib.hid hml
  clear hi hz0 hz1 hz2 hml
  go_enter Tryz.func43, Tryz.ntmps43
  go_wp2
  exact rcast (H.out (w.heap.size + 1) w.heap.size _ (by omega) (Nat.le_refl _) (((Kp.refl _ _).alloc _).alloc _) ⟨(Bk.newAt (by simp) _ _).cast rfl, ⟨_, (Bk.new' _ _ _).alloc _, HML.out, by simp⟩, by simp, by simp⟩ (by omega)) rfl
set_option maxHeartbeats 2000000 in
theorem rnt2_any {R : Ending → World → Prop} (w : World) (h : ∀ g l w', w.heap.size ≤ g → w.heap.size ≤ l → Kp [] w w' → Rq w' g l 0 [] → g ≠ l → R (.returned (.tuple #[.pointer (some ⟨g, 0, none⟩), .int .i64 0])) w') :
    Calls Tryz.prog 44 #[.int .i64 16] w R := by
  have H := Lib.hid h
  clear h
  obtain ⟨i0, hi, hz0, hz1, hz2⟩ := info_parts info_tr
  have hmk := fun W => run_make (P := Tryz.prog) W 200 120 i0 _ Tryz.underlying200 hi hz0 .i64 .i64 16 16 (by omega) (by omega) (by rw [hz2]; omega) (by omega)
  simp only [hz1] at hmk
  have hml : (madeCells #[Value.int .i64 0, .slice none 0 0] 32).toList.length = 32 := by have := made_pieces (z := #[Value.int .i64 0, .slice none 0 0]) (K := 2) rfl (by omega) 16; rw [show 32 = 16 * 2 by rfl, this]; simp
  have HML := Lib.hid hml
  clear hi hz0 hz1 hz2 hml
  go_enter Tryz.func44, Tryz.ntmps44
  go_wp2
  exact rcast (H.out (w.heap.size + 1) w.heap.size _ (by omega) (Nat.le_refl _) (((Kp.refl _ _).alloc _).alloc _) ⟨(Bk.newAt (by simp) _ _).cast rfl, ⟨_, (Bk.new' _ _ _).alloc _, HML.out, by simp⟩, by simp, by simp⟩ (by omega)) rfl
/-- The rings that are there after k rounds. -/
def RS (B : Nat) (wr : World) (k : Nat) (b c : Option Addr) : Prop :=
  (2 ≤ k → ∃ s r, b = some ⟨s, 0, none⟩ ∧ Rb wr s r 0 [] ∧ B ≤ s ∧ B ≤ r ∧ s ≠ r ∧ s < wr.heap.size ∧ r < wr.heap.size ∧
    (3 ≤ k → ∃ s2 r2, c = some ⟨s2, 0, none⟩ ∧ Rb wr s2 r2 0 [] ∧ B ≤ s2 ∧ B ≤ r2 ∧ s2 ≠ r2 ∧ s ≠ s2 ∧ r ≠ r2 ∧ s ≠ r2 ∧ s2 ≠ r))
theorem Rb.lt {w : World} {s r f : Nat} {q : List Sl} (h : Rb w s r f q) : s < w.heap.size ∧ r < w.heap.size := ⟨h.hs.lt, by obtain ⟨cs, hcs, _⟩ := h.hr; exact hcs.lt⟩
theorem RS.kp {B : Nat} {w w' : World} {k : Nat} {b c : Option Addr} {S : List Nat} (h : RS B w k b c) (hk : Kp S w w') (h1 : Off w S 199) (h2 : Off w S 37) (h3 : Off w S 5) : RS B w' k b c := fun h2k => by
  obtain ⟨s, r, e, rb, g1, g2, g3, g4, g5, g6⟩ := h h2k
  have t : ∀ {s r : Nat}, Rb w s r 0 [] → Rb w' s r 0 [] := fun rb => rb.off hk (h1.nin rb.hs.ty) (by obtain ⟨cs, hcs, _⟩ := rb.hr; exact h2.nin hcs.ty) h3
  have z := hk.size
  refine ⟨s, r, e, t rb, g1, g2, g3, by omega, by omega, fun h3k => ?_⟩
  obtain ⟨s2, r2, e2, rb2, q⟩ := g6 h3k
  exact ⟨s2, r2, e2, t rb2, q⟩
def kz0 (F N : Nat) : KS := ⟨List.replicate F fz, { dz N with ow := own2 N }, [], 0, 0, [], 0, [], 0, [], 0⟩
set_option maxHeartbeats 4000000 in
theorem knew2_any {R : Ending → World → Prop} (F N : Nat) (hF1 : 1 ≤ F) (hF2 : F ≤ 256) (hN1 : 4 ≤ N) (hN2 : N ≤ 512) (w : World) (h : ∀ a w', Kp [] w w' → Kn w' w.heap.size a (kz0 F N) → R (.returned (.tuple #[.pointer (some ⟨a.g, 0, none⟩), .int .i64 0])) w') :
    Calls Tryz.prog 7 #[.int .i64 F, .int .i64 N] w R := by
  have H := Lib.hid h
  clear h
  obtain ⟨q, hq⟩ : ∃ q, N / 4 = q := ⟨_, rfl⟩
  obtain ⟨p, hp⟩ : ∃ p, N - N / 4 = p := ⟨_, rfl⟩
  have hqd : (N : Int).tdiv 4 = (q : Int) := by rw [← hq, Int.tdiv_eq_ediv_of_nonneg (by omega)]; omega
  have hpd : (N : Int) - (q : Int) = (p : Int) := by omega
  have hq0 : ((q : Int) == 0) = false := by simp; omega
  have HF : Hid (∀ (R : Ending → World → Prop) (w : World), (∀ bT bL w', w.heap.size ≤ bT → w.heap.size ≤ bL → Kp [] w w' → Tab w' bT bL (List.replicate F fz) → R (.returned (.tuple #[.pointer (some ⟨bT, 0, none⟩), .int .i64 0])) w') → Calls Tryz.prog 40 #[.int .i64 F] w R) := Lib.hid (fun R w h => new_any F hF1 hF2 h)
  have HDk : Hid (∀ (R : Ending → World → Prop) (w : World), (∀ bD bL bO w', w.heap.size ≤ bD → w.heap.size ≤ bL → w.heap.size ≤ bO → Kp [] w w' → Dsk w' bD bL bO none 0 (dz N) → R (.returned (.tuple #[.pointer (some ⟨bD, 0, none⟩), .int .i64 0])) w') → Calls Tryz.prog 41 #[.int .i64 N] w R) := Lib.hid (fun R w h => dnew2_any N w (by omega) hN2 h)
  have hdc : ∀ {W : World} {bD bL bO : Nat}, Dsk W bD bL bO none 0 (dz N) → Bk W bD 163 (diskC bL bO N) := fun d => d.dd.cast (by simp [dz, diskC])
  have HG1 : Hid (∀ (R : Ending → World → Prop) (bD bL bO : Nat) (w : World), Dsk w bD bL bO none 0 (dz N) → (∀ w', Kp [bO] w w' → Bk w' bD 163 (diskC bL bO N) → Bk w' bO 3 (ints (setR (List.replicate N 0) 0 p 1)) → R (.returned (.int .i64 0)) w') → Calls Tryz.prog 42 #[.pointer (some ⟨bD, 0, none⟩), .int .i64 1, .int .i64 0, .int .i64 p] w R) := Lib.hid (fun R bD bL bO w d h => grant_any bD bL bO N 0 p 1 (List.replicate N 0) w (.inl rfl) (by simp) hN2 (by omega) (by omega) (fun j h1 h2 => by rw [List.getElem?_replicate, if_pos (by omega)]) (d.dd.ne_ d.o (by decide)) (hdc d) (show Bk w bO 3 (ints (List.replicate N 0)) from d.o) h)
  have HG2 : Hid (∀ (R : Ending → World → Prop) (bD bL bO : Nat) (w : World), bD ≠ bO → Bk w bD 163 (diskC bL bO N) → Bk w bO 3 (ints (setR (List.replicate N 0) 0 p 1)) → (∀ w', Kp [bO] w w' → Bk w' bD 163 (diskC bL bO N) → Bk w' bO 3 (ints (own2 N)) → R (.returned (.int .i64 0)) w') → Calls Tryz.prog 42 #[.pointer (some ⟨bD, 0, none⟩), .int .i64 2, .int .i64 p, .int .i64 q] w R) := Lib.hid (fun R bD bL bO w hne a b h => grant_any bD bL bO N p q 2 _ w (.inr rfl) (by rw [setR_len]; simp) hN2 (by omega) (by omega) (fun j h1 h2 => by rw [setR_at _ _ _ _ _ (by simp; omega), if_neg (by omega), List.getElem?_replicate, if_pos (by omega)]) hne a b (fun w' k x y => h w' k x (y.cast (by rw [← grants, hp, hq]))))
  clear hdc
  go_enter Tryz.func7, Tryz.ntmps7
  go_upto_region 12 with (first | (go_at_call 40; ((refine HF.out _ _ ?_); intro bT bL w1 hT hL k1 tb1)) | (go_at_call 41; ((refine HDk.out _ _ ?_); intro bD bP bO w2 hD hP hO k2 dk2)) | (go_at_call 42; ((with_reducible refine HG1.out _ _ _ _ _ dk2 ?_); intro w3 k3 bd3 bo3)) | (go_at_call 42; ((with_reducible refine HG2.out _ _ _ _ _ (dk2.dd.ne_ dk2.o (by decide)) bd3 bo3 ?_); intro w4 k4 bd4 bo4)))
  have hbt := tb1.t.lt
  have hbl := tb1.l.lt
  have z1 := k1.size
  have z2 := k2.size
  have z3 := k3.size
  have z4 := k4.size
  have hbO := dk2.o.lt
  have tO2 : ∀ e, 3 ≠ e → Off w2 [bO] e := fun e he => Off.one dk2.o.ty he
  have tO3 : ∀ e, 3 ≠ e → Off w3 [bO] e := fun e he => Off.one bo3.ty he
  have tb4 := ((tb1.kp k2 (by simp) (by simp)).kp k3 (by simp; omega) (by simp; omega)).kp k4 (by simp; omega) (by simp; omega)
  have dl4 := (dk2.l.off k3 (tO2 _ (by decide))).off k4 (tO3 _ (by decide))
  have dk4 : Dsk w4 bD bP bO none 0 { dz N with ow := own2 N } := ⟨bd4.cast (by simp [dz, diskC]), dl4, bo4, Ow.nil, ⟨(dz_ok hN2).n1, by simp [own2, dz]; omega, (dz_ok hN2).pg, (dz_ok hN2).ln, (dz_ok hN2).lf, (dz_ok hN2).ar⟩⟩
  have kk : Kp [] w w4 := ((k1.trans k2).thn k3 (fun s hs => .inr (by simp at hs; omega))).thn k4 (fun s hs => .inr (by simp at hs; omega))
  have hD0 : w.heap.size ≤ bD := by omega
  have hP0 : w.heap.size ≤ bP := by omega
  clear k1 k2 k3 k4 bd3 bo3 bd4 bo4 tb1 dk2 dl4 tO2 tO3
  go_upto_region 13 with (fail)
  refine gen_worldK (fun W => ∃ g, w4.heap.size = g ∧ Kp [] w W ∧ Bk W g 114 (kernC bT bD none none none none) ∧ Tab W bT bL (List.replicate F fz) ∧ Dsk W bD bP bO none 0 { dz N with ow := own2 N }) ⟨_, rfl, kk.alloc _, (Bk.new' _ _ _).cast rfl, tb4.kp ((Kp.refl [] _).alloc _) (by simp) (by simp), dk4.off ((Kp.refl [] _).alloc _) (Off.nil _ _) (Off.nil _ _) (Off.nil _ _) (Off.nil _ _)⟩ ?_
  rintro W ⟨g, hg, kW, bW, tW, dW⟩
  rw [hg]
  have hg0 : w.heap.size ≤ g := by omega
  have hog : bO < g := by have := dk4.o.lt; omega
  clear tb4 dk4 kk hg
  have K0 := Lib.hid kW
  have B0 := Lib.hid bW
  have T0 := Lib.hid tW
  have D0 := Lib.hid dW
  clear kW bW tW dW
  go_wp2
  go_loopw [11, 47] (fun _ iv wr => ∃ k : Nat, k ≤ 3 ∧ iv = .int .i64 k ∧ Hid (Kp [] w wr) ∧ Hid (Tab wr bT bL (List.replicate F fz)) ∧ Hid (Dsk wr bD bP bO none 0 { dz N with ow := own2 N }) ∧ ∃ a b c, Hid (Bk wr g 114 (kernC bT bD a b c none)) ∧ Hid (RS w.heap.size wr k b c)) (fun _ iv _ => 3 - (intOf iv).toNat)
  case atStart => exact ⟨0, by omega, rfl, K0, T0, D0, none, none, none, B0, Lib.hid (fun h => by omega)⟩
  case round =>
    obtain ⟨k, hk, rfl, kr, tr, dr, a, b, c, br, rs⟩ := hrel
    have hl := br.out.lt
    rcases (by omega : k = 0 ∨ k = 1 ∨ k = 2 ∨ k = 3) with rfl | rfl | rfl | rfl
    · go_upto_region 16 with (fail)
      go_region_law (first | (go_simp; go_at_call 43; (refine rnb2_any _ ?_); intro ga la w5 hga hla k5 rb5 hne5; have kd5 : Kp [] wr w5 := (Kp.refl [] wr).drew.trans k5; have b5 := br.out.kp kd5 (by simp); have e4 := b5.cell 4; have f4 := b5.frozen 4; have l5 := b5.lt; simp only [kernC, List.getElem?_cons_zero, List.getElem?_cons_succ] at e4))
      all_goals
        have hga' : wr.heap.size ≤ ga := hga
        have hla' : wr.heap.size ≤ la := hla
        have hwr := kr.out.size
        have oK : ∀ e, 114 ≠ e → Off w5 [g] e := fun e he => Off.one b5.ty he
        go_wp2
        have ks : Kp [g] w5 (w5.setCell ⟨g, 4, none⟩ (.pointer (some ⟨ga, 0, none⟩))) := (Kp.refl _ _).setCell (p := ⟨g, 4, none⟩) (.inl (by simp)) _
        refine ⟨⟨1, by omega, by first | rfl | go_num, Lib.hid ((kr.out.trans kd5).thn ks (fun s hs => .inr (by simp at hs; omega))), Lib.hid ((tr.out.kp kd5 (by simp) (by simp)).kp ks ((oK _ (by decide)).nin (tr.out.kp kd5 (by simp) (by simp)).t.ty) ((oK _ (by decide)).nin (tr.out.kp kd5 (by simp) (by simp)).l.ty)), Lib.hid ((dr.out.off kd5 (Off.nil _ _) (Off.nil _ _) (Off.nil _ _) (Off.nil _ _)).off ks (oK _ (by decide)) (oK _ (by decide)) (oK _ (by decide)) (oK _ (by decide))), _, b, c, Lib.hid ((b5.set_ 4 _).cast rfl), Lib.hid ?_⟩, by simp [intOf]⟩
        exact fun h => by omega
    · go_upto_region 16 with (fail)
      go_region_law (first | (go_simp; go_at_call 43; (refine rnb2_any _ ?_); intro ga la w5 hga hla k5 rb5 hne5; have kd5 : Kp [] wr w5 := (Kp.refl [] wr).drew.trans k5; have b5 := br.out.kp kd5 (by simp); have e4 := b5.cell 5; have f4 := b5.frozen 5; have l5 := b5.lt; simp only [kernC, List.getElem?_cons_zero, List.getElem?_cons_succ] at e4))
      all_goals
        have hga' : wr.heap.size ≤ ga := hga
        have hla' : wr.heap.size ≤ la := hla
        have hwr := kr.out.size
        have oK : ∀ e, 114 ≠ e → Off w5 [g] e := fun e he => Off.one b5.ty he
        go_wp2
        have ks : Kp [g] w5 (w5.setCell ⟨g, 5, none⟩ (.pointer (some ⟨ga, 0, none⟩))) := (Kp.refl _ _).setCell (p := ⟨g, 5, none⟩) (.inl (by simp)) _
        refine ⟨⟨2, by omega, by first | rfl | go_num, Lib.hid ((kr.out.trans kd5).thn ks (fun s hs => .inr (by simp at hs; omega))), Lib.hid ((tr.out.kp kd5 (by simp) (by simp)).kp ks ((oK _ (by decide)).nin (tr.out.kp kd5 (by simp) (by simp)).t.ty) ((oK _ (by decide)).nin (tr.out.kp kd5 (by simp) (by simp)).l.ty)), Lib.hid ((dr.out.off kd5 (Off.nil _ _) (Off.nil _ _) (Off.nil _ _) (Off.nil _ _)).off ks (oK _ (by decide)) (oK _ (by decide)) (oK _ (by decide)) (oK _ (by decide))), a, _, c, Lib.hid ((b5.set_ 5 _).cast rfl), Lib.hid ?_⟩, by simp [intOf]⟩
        exact fun _ => ⟨ga, la, rfl, rb5.off ks ((oK _ (by decide)).nin rb5.hs.ty) ((oK 37 (by decide)).nin (by obtain ⟨cs, hcs, _⟩ := rb5.hr; exact hcs.ty)) (oK _ (by decide)), by omega, by omega, hne5, by have := rb5.lt; have := ks.size; omega, by have := rb5.lt; have := ks.size; omega, fun h => by omega⟩
    · go_upto_region 16 with (fail)
      go_region_law (first | (go_simp; go_at_call 43; (refine rnb2_any _ ?_); intro ga la w5 hga hla k5 rb5 hne5; have kd5 : Kp [] wr w5 := (Kp.refl [] wr).drew.trans k5; have b5 := br.out.kp kd5 (by simp); have e4 := b5.cell 6; have f4 := b5.frozen 6; have l5 := b5.lt; simp only [kernC, List.getElem?_cons_zero, List.getElem?_cons_succ] at e4))
      all_goals
        have hga' : wr.heap.size ≤ ga := hga
        have hla' : wr.heap.size ≤ la := hla
        have hwr := kr.out.size
        have oK : ∀ e, 114 ≠ e → Off w5 [g] e := fun e he => Off.one b5.ty he
        go_wp2
        have ks : Kp [g] w5 (w5.setCell ⟨g, 6, none⟩ (.pointer (some ⟨ga, 0, none⟩))) := (Kp.refl _ _).setCell (p := ⟨g, 6, none⟩) (.inl (by simp)) _
        refine ⟨⟨3, by omega, by first | rfl | go_num, Lib.hid ((kr.out.trans kd5).thn ks (fun s hs => .inr (by simp at hs; omega))), Lib.hid ((tr.out.kp kd5 (by simp) (by simp)).kp ks ((oK _ (by decide)).nin (tr.out.kp kd5 (by simp) (by simp)).t.ty) ((oK _ (by decide)).nin (tr.out.kp kd5 (by simp) (by simp)).l.ty)), Lib.hid ((dr.out.off kd5 (Off.nil _ _) (Off.nil _ _) (Off.nil _ _) (Off.nil _ _)).off ks (oK _ (by decide)) (oK _ (by decide)) (oK _ (by decide)) (oK _ (by decide))), a, b, _, Lib.hid ((b5.set_ 6 _).cast rfl), Lib.hid ?_⟩, by simp [intOf]⟩
        intro _
        obtain ⟨s, r, e, rb, g1, g2, g3, g4, g5, _⟩ := rs.out (by omega)
        have tt : ∀ {s r : Nat}, Rb w5 s r 0 [] → Rb (w5.setCell ⟨g, 6, none⟩ (.pointer (some ⟨ga, 0, none⟩))) s r 0 [] := fun rb => rb.off ks ((oK _ (by decide)).nin rb.hs.ty) ((oK 37 (by decide)).nin (by obtain ⟨cs, hcs, _⟩ := rb.hr; exact hcs.ty)) (oK _ (by decide))
        have z5 := ks.size
        have z6 := kd5.size
        exact ⟨s, r, e, tt (rb.off kd5 (by simp) (by simp) (Off.nil _ _)), g1, g2, g3, by omega, by omega, fun _ => ⟨ga, la, rfl, tt rb5, by omega, by omega, hne5, by omega, by omega, by omega, by omega⟩⟩
    · have hwr := kr.out.size
      go_wp2_with (go_at_call 44; (refine rnt2_any _ ?_); intro ga la w5 hga hla k5 rq5 hne5; have b5 := br.out.kp k5 (by simp); have e4 := b5.cell 7; have f4 := b5.frozen 7; have l5 := b5.lt; simp only [kernC, List.getElem?_cons_zero, List.getElem?_cons_succ] at e4)
      have hga' : wr.heap.size ≤ ga := hga
      have hla' : wr.heap.size ≤ la := hla
      have oK : ∀ e, 114 ≠ e → Off w5 [g] e := fun e he => Off.one b5.ty he
      have ks : Kp [g] w5 (w5.setCell ⟨g, 7, none⟩ (.pointer (some ⟨ga, 0, none⟩))) := (Kp.refl _ _).setCell (p := ⟨g, 7, none⟩) (.inl (by simp)) _
      obtain ⟨s1, r1, e1, x1, x2, x3, x4, x5, x6, x7⟩ := ((RS.kp rs.out k5 (Off.nil _ _) (Off.nil _ _) (Off.nil _ _)).kp ks (oK _ (by decide)) (oK _ (by decide)) (oK _ (by decide))) (by omega)
      obtain ⟨s2, r2, e2, y1, y2, y3, y4, y5, y6, y7, y8⟩ := x7 (by omega)
      subst e1; subst e2
      have rq9 := rq5.off ks ((oK _ (by decide)).nin rq5.hs.ty) ((oK 120 (by decide)).nin (by obtain ⟨cs, hcs, _⟩ := rq5.hr; exact hcs.ty)) (oK _ (by decide))
      have t9 := (tr.out.kp k5 (by simp) (by simp)).kp ks ((oK _ (by decide)).nin (tr.out.kp k5 (by simp) (by simp)).t.ty) ((oK _ (by decide)).nin (tr.out.kp k5 (by simp) (by simp)).l.ty)
      have d9 := (dr.out.off k5 (Off.nil _ _) (Off.nil _ _) (Off.nil _ _) (Off.nil _ _)).off ks (oK _ (by decide)) (oK _ (by decide)) (oK _ (by decide)) (oK _ (by decide))
      exact rcast (H.out ⟨g, bT, bL, bD, bP, bO, none, 0, none, 0, a, s1, r1, s2, r2, ga, la⟩ _ ((kr.out.trans k5).thn ks (fun s hs => .inr (by simp at hs; omega))) ⟨(b5.set_ 7 _).cast rfl, t9, d9, Ow.nil, by simp [kz0], x1, y1, rq9, ⟨hg0, hL, hD0, hP0, by simp [Fresh, bks], by simp [Fresh, bks], x2, x3, y2, y3, (show w.heap.size ≤ ga by omega), (show w.heap.size ≤ la by omega), x4, y4, y5, y6, y7, y8, hne5, hog⟩⟩) rfl
end
end Go.Proofs.YtedblbpmlbjnhaaGreat
