/- Words for memory, over any program: what a call keeps ('Kp'), a block known whole ('Bk'), a slice that reads as a list ('Rd'), rows of equal pieces. The walks of package frame: what each call of a table does, said of a list of frames. bytes.Clone, over slices of bytes. -/
import Derived.WalkKit
import Derived.WalkSpells
import Derived.WalkLawsBesides
import Derived.Lib.Hide
import Derived.Deep.Draws
import Derived.Deep.AppendLies
import Derived.Maps.AppendAt
import Derived.Test.YtedblbpmlbjnhaaGreatRows
import Derived.Lib.SliceRun
import Derived.Lib.ConvBytes
import Derived.Lib.BufferRead
namespace Go.Proofs.YtedblbpmlbjnhaaGreat
/-! ### Words for memory, over any program: what a call keeps ('Kp'), a block known whole ('Bk'), a slice that reads as a list ('Rd'), rows of equal pieces. -/
section
open Go.RowKit

/-- Of the blocks that were there only those of S may have turned. -/
structure Kp (S : List Nat) (w w' : World) : Prop where
  os : w'.os = w.os
  tape : w'.tape = w.tape
  output : w'.output = w.output
  size : w.heap.size ≤ w'.heap.size
  block : ∀ k, k < w.heap.size → k ∉ S → w'.heap[k]? = w.heap[k]?

section
variable {S S' : List Nat} {a w w' w1 w2 : World}
theorem Kp.refl (S : List Nat) (w : World) : Kp S w w := ⟨rfl, rfl, rfl, Nat.le_refl _, fun _ _ _ => rfl⟩
theorem Kp.trans (h : Kp S a w) (k : Kp S w w') : Kp S a w' :=
  ⟨k.os.trans h.os, k.tape.trans h.tape, k.output.trans h.output, Nat.le_trans h.size k.size, fun i hi hn => (k.block i (Nat.lt_of_lt_of_le hi h.size) hn).trans (h.block i hi hn)⟩
theorem Kp.mono (h : Kp S w w') (hs : ∀ s ∈ S, s ∈ S' ∨ w.heap.size ≤ s) : Kp S' w w' :=
  ⟨h.os, h.tape, h.output, h.size, fun i hi hn => h.block i hi fun hm => (hs i hm).elim hn (fun hge => by omega)⟩
/-- Two steps: the second may turn blocks of S' that are new since the first began. -/
theorem Kp.thn (h : Kp S a w) (k : Kp S' w w') (hs : ∀ s ∈ S', s ∈ S ∨ a.heap.size ≤ s) : Kp S a w' :=
  ⟨k.os.trans h.os, k.tape.trans h.tape, k.output.trans h.output, Nat.le_trans h.size k.size, fun i hi hn =>
    (k.block i (Nat.lt_of_lt_of_le hi h.size) (fun hm => (hs i hm).elim hn (fun hge => by omega))).trans (h.block i hi hn)⟩
theorem Kp.drew (h : Kp S a w) : Kp S a w.drew := ⟨h.os, h.tape, h.output, h.size, h.block⟩
theorem Kp.drewN (h : Kp S a w) (n : Nat) : Kp S a (w.drewN n) := ⟨h.os, h.tape, h.output, h.size, h.block⟩
theorem Kp.alloc (h : Kp S a w) (o : Obj) : Kp S a (w.alloc o) :=
  ⟨h.os, h.tape, h.output, Nat.le_trans h.size (by simp), fun i hi hn => (Below.heap_alloc w o i (Nat.lt_of_lt_of_le hi h.size)).trans (h.block i hi hn)⟩
theorem Kp.setCell (h : Kp S a w) {p : Addr} (hp : p.block ∈ S ∨ a.heap.size ≤ p.block) (u : Value) : Kp S a (w.setCell p u) :=
  ⟨h.os, h.tape, h.output, by simpa using h.size, fun i hi hn => (Below.heap_setCell w p u i (by rintro rfl; exact hp.elim hn (fun e => by omega))).trans (h.block i hi hn)⟩
theorem Kp.setRow (h : Kp S a w) {g : Nat} (hp : g ∈ S ∨ a.heap.size ≤ g) (cs : Array Value) : Kp S a (w.setRow g cs) :=
  ⟨h.os, h.tape, h.output, by simpa using h.size, fun i hi hn => (setRow_other w g i cs (by rintro rfl; exact hp.elim hn (fun e => by omega))).trans (h.block i hi hn)⟩
theorem Kp.grown (h : Kp S a w) {row : Option Nat} (hg : w.grownBy w' row) (hr : ∀ k, row = some k → k ∈ S ∨ a.heap.size ≤ k) : Kp S a w' :=
  ⟨hg.os.trans h.os, hg.tape.trans h.tape, hg.output.trans h.output, Nat.le_trans h.size hg.size, fun i hi hn =>
    (hg.block i (Nat.lt_of_lt_of_le hi h.size) (fun e => (hr i e.symm).elim hn (fun e => by omega))).trans (h.block i hi hn)⟩
theorem Kp.of_below (h : Below w.heap.size w w') : Kp S w w' := ⟨h.os, h.tape, h.output, h.size, fun i hi _ => h.block i hi⟩
theorem Kp.below (h : Kp S w w') {B : Nat} (hs : ∀ s ∈ S, B ≤ s) (hB : B ≤ w.heap.size) : Below B w w' :=
  ⟨h.os, h.tape, h.output, h.size, fun k hk => h.block k (by omega) (fun hm => by have := hs k hm; omega)⟩
theorem Kp.below_nil (h : Kp [] w w') : Below w.heap.size w w' := h.below (by simp) (Nat.le_refl _)
theorem Kp.cell (h : Kp S w w') {p : Addr} (hp : p.block < w.heap.size) (hn : p.block ∉ S) : w'.cell? p = w.cell? p := World.cell?_of_block (w := w) (h.block p.block hp hn)
theorem Kp.frozen (h : Kp S w w') {p : Addr} (hp : p.block < w.heap.size) (hn : p.block ∉ S) : w'.frozen? p = w.frozen? p := World.frozen?_of_block (w := w) (h.block p.block hp hn)
end

/-- Block g is just these cells, of element type t, none frozen. -/
def Bk (w : World) (g t : Nat) (cs : List Value) : Prop := w.heap[g]? = some (.cells cs.toArray t (0, 0))
section
variable {w w' : World} {g t : Nat} {cs : List Value} {S : List Nat}
theorem Bk.lt (h : Bk w g t cs) : g < w.heap.size := by
  rcases Nat.lt_or_ge g w.heap.size with hlt | hge
  · exact hlt
  · unfold Bk at h; rw [Array.getElem?_eq_none hge] at h; cases h
theorem Bk.cell (h : Bk w g t cs) (i : Nat) : w.cell? ⟨g, i, none⟩ = cs[i]? := by
  rw [cell_of_row w g i _ t (0, 0) h]; simp
theorem Bk.frozen (h : Bk w g t cs) (i : Nat) : w.frozen? ⟨g, i, none⟩ = false := by
  unfold Bk at h; simp [World.frozen?, h]
theorem Bk.new (w : World) (t : Nat) (cs : List Value) : Bk (w.alloc (.cells cs.toArray t)) w.heap.size t cs := heap_alloc_new w _
theorem Bk.new' (w : World) (t : Nat) (cs : Array Value) : Bk (w.alloc (.cells cs t)) w.heap.size t cs.toList := by
  unfold Bk; rw [Array.toArray_toList]; exact heap_alloc_new w _
theorem Bk.newAt {w : World} {g : Nat} (hg : g = w.heap.size) (t : Nat) (cs : Array Value) : Bk (w.alloc (.cells cs t)) g t cs.toList := hg ▸ Bk.new' w t cs
theorem Bk.drewN (h : Bk w g t cs) (n : Nat) : Bk (w.drewN n) g t cs := h
theorem Bk.drew (h : Bk w g t cs) : Bk w.drew g t cs := h
theorem Bk.alloc (h : Bk w g t cs) (o : Obj) : Bk (w.alloc o) g t cs := (Below.heap_alloc w o g h.lt).trans h
theorem Bk.set_ (h : Bk w g t cs) (i : Nat) (u : Value) : Bk (w.setCell ⟨g, i, none⟩ u) g t (cs.set i u) := by
  unfold Bk at h ⊢
  simp [World.setCell, Array.getElem?_modify, h]
theorem Bk.far (h : Bk w g t cs) {p : Addr} (hp : g ≠ p.block) (u : Value) : Bk (w.setCell p u) g t cs := (Below.heap_setCell w p u g hp).trans h
theorem Bk.row (h : Bk w g t cs) (cs' : Array Value) : Bk (w.setRow g cs') g t cs'.toList := by
  unfold Bk at h ⊢; rw [Array.toArray_toList]; exact setRow_heap w g _ _ _ _ h
theorem Bk.farRow (h : Bk w g t cs) {g' : Nat} (hp : g ≠ g') (cs' : Array Value) : Bk (w.setRow g' cs') g t cs := (setRow_other w g' g cs' hp).trans h
theorem Bk.kp (h : Bk w g t cs) (hk : Kp S w w') (hn : g ∉ S) : Bk w' g t cs := (hk.block g h.lt hn).trans h
theorem Bk.below {B : Nat} (h : Bk w g t cs) (hb : Below B w w') (hg : g < B) : Bk w' g t cs := (hb.block g hg).trans h
theorem Bk.cast (h : Bk w g t cs) {cs' : List Value} (e : cs = cs') : Bk w g t cs' := e ▸ h
theorem Bk.ne_ {g' t' : Nat} {cs' : List Value} (h : Bk w g t cs) (h' : Bk w g' t' cs') (hne : t ≠ t') : g ≠ g' := by
  rintro rfl
  unfold Bk at h h'
  rw [h] at h'
  injection h' with h'
  injection h' with _ ht
  exact hne ht
end

/-- A slice at address A whose cells read xs; its block is none of N. -/
def Rd (w : World) (N : List Nat) (A : Option Addr) (xs : List Value) : Prop :=
  xs ≠ [] → ∃ b off, A = some ⟨b, off, none⟩ ∧ b ∉ N ∧ b < w.heap.size ∧ ∀ j u, xs[j]? = some u → w.cell? ⟨b, off + j, none⟩ = some u
section
variable {w w' : World} {N N' S : List Nat} {A : Option Addr} {xs : List Value}
theorem Rd.nil : Rd w N A [] := fun h => absurd rfl h
theorem Rd.kp (h : Rd w N A xs) (hk : Kp S w w') (hs : ∀ s ∈ S, s ∈ N ∨ w.heap.size ≤ s) : Rd w' N A xs := fun hx => by
  obtain ⟨b, off, rfl, hn, hb, hc⟩ := h hx
  refine ⟨b, off, rfl, hn, Nat.lt_of_lt_of_le hb hk.size, fun j u hu => ?_⟩
  rw [hk.cell (p := ⟨b, off + j, none⟩) hb (fun hm => (hs b hm).elim hn (fun e => by omega))]
  exact hc j u hu
theorem Rd.below (h : Rd w N A xs) (hk : Below w.heap.size w w') : Rd w' N A xs := h.kp (S := []) (Kp.of_below hk) (by simp)
theorem Rd.sub (h : Rd w N A xs) (hs : ∀ s ∈ N', s ∈ N) : Rd w N' A xs := fun hx => by
  obtain ⟨b, off, rfl, hn, rest⟩ := h hx
  exact ⟨b, off, rfl, fun hm => hn (hs b hm), rest⟩
theorem Rd.drop (h : Rd w N A xs) (k : Nat) (hk : k < xs.length) : Rd w N (A.map (·.add k)) (xs.drop k) := fun _ => by
  obtain ⟨b, off, rfl, hn, hb, hc⟩ := h (by intro e; simp [e] at hk)
  have e : (⟨b, off, none⟩ : Addr).add k = ⟨b, off + k, none⟩ := by unfold Addr.add; split <;> simp_all
  refine ⟨b, off + k, by rw [Option.map_some, e], hn, hb, fun j u hu => ?_⟩
  rw [Nat.add_assoc]
  exact hc _ u (by rw [← hu, List.getElem?_drop])
theorem Rd.take (h : Rd w N A xs) (k : Nat) : Rd w N A (xs.take k) := fun hx => by
  obtain ⟨b, off, rfl, hn, hb, hc⟩ := h (by rintro rfl; simp at hx)
  refine ⟨b, off, rfl, hn, hb, fun j u hu => hc j u ?_⟩
  rw [List.getElem?_take] at hu
  split at hu
  · exact hu
  · cases hu
theorem Rd.of_bk {g t : Nat} {cs : List Value} (h : Bk w g t cs) (hn : g ∉ N) : Rd w N (some ⟨g, 0, none⟩) cs := fun _ =>
  ⟨g, 0, rfl, hn, h.lt, fun j u hu => by rw [Nat.zero_add, h.cell, hu]⟩
theorem Rd.of_bk_at {g t o : Nat} {cs : List Value} (h : Bk w g t cs) (hn : g ∉ N) : Rd w N (some ⟨g, o, none⟩) (cs.drop o) := fun _ =>
  ⟨g, o, rfl, hn, h.lt, fun j u hu => by rw [h.cell, ← List.getElem?_drop, hu]⟩
/-- What append and copy ask of a source. -/
theorem Rd.src (h : Rd w N A xs) (hx : xs ≠ []) : ∃ ad, A = some ad ∧ ∀ j u, xs[j]? = some u → w.cell? (ad.add j) = some u := by
  obtain ⟨b, off, rfl, _, _, hc⟩ := h hx
  refine ⟨_, rfl, fun j u hu => ?_⟩
  have e : (⟨b, off, none⟩ : Addr).add j = ⟨b, off + j, none⟩ := by unfold Addr.add; split <;> simp_all
  rw [e]; exact hc j u hu
end

/-! ### rows of equal pieces -/
section
variable {α : Type} {F : α → List Value} {K : Nat}
theorem flat_len (hF : ∀ x, (F x).length = K) (l : List α) : (l.flatMap F).length = l.length * K := by
  induction l with
  | nil => simp
  | cons x l ih => simp [List.flatMap_cons, hF, ih, Nat.add_mul, Nat.add_comm]
theorem flat_get (hF : ∀ x, (F x).length = K) {l : List α} {i : Nat} {x : α} (hx : l[i]? = some x) {j : Nat} (hj : j < K) : (l.flatMap F)[i * K + j]? = (F x)[j]? := by
  induction l generalizing i with
  | nil => simp at hx
  | cons y l ih =>
    rw [List.flatMap_cons]
    cases i with
    | zero => simp at hx; subst hx; rw [List.getElem?_append_left (by rw [hF]; omega)]; simp
    | succ i =>
      have h1 : (i + 1) * K + j = K + (i * K + j) := by rw [Nat.add_mul]; omega
      rw [List.getElem?_append_right (by rw [hF, h1]; omega), hF, h1, Nat.add_sub_cancel_left]
      exact ih (by simpa using hx)
theorem flat_splice (hF : ∀ x, (F x).length = K) {l : List α} {i : Nat} {x x' : α} (hx : l[i]? = some x) {o : Nat} {cs : List Value} (ho : o + cs.length ≤ K)
    (hx' : F x' = (F x).take o ++ cs ++ (F x).drop (o + cs.length)) :
    (l.flatMap F).take (i * K + o) ++ cs ++ (l.flatMap F).drop (i * K + o + cs.length) = (l.set i x').flatMap F := by
  induction l generalizing i with
  | nil => simp at hx
  | cons y l ih =>
    cases i with
    | zero =>
      simp at hx; subst hx
      have hl := hF y
      simp only [Nat.zero_mul, Nat.zero_add, List.flatMap_cons, List.set_cons_zero, hx', List.append_assoc]
      rw [List.take_append_of_le_length (by omega), List.drop_append_of_le_length (by omega)]
    | succ i =>
      have ih' := ih (i := i) (by simpa using hx)
      have h1 : (i + 1) * K + o = K + (i * K + o) := by rw [Nat.add_mul]; omega
      simp only [List.flatMap_cons, List.set_cons_succ]
      rw [h1, ← ih', Nat.add_assoc K, List.drop_append, List.take_append, hF, Nat.add_sub_cancel_left, Nat.add_sub_cancel_left]
      rw [List.take_of_length_le (by rw [hF]; omega), List.drop_of_length_le (by rw [hF]; omega)]
      simp [Nat.add_assoc]
theorem set_eq_splice {β : Type} (l : List β) (i : Nat) (v : β) (hi : i < l.length) : l.set i v = l.take i ++ [v] ++ l.drop (i + 1) := by
  rw [List.set_eq_take_append_cons_drop, if_pos hi]; simp
theorem flat_set (hF : ∀ x, (F x).length = K) {l : List α} {i : Nat} {x x' : α} (hx : l[i]? = some x) {j : Nat} {v : Value} (hj : j < K)
    (hx' : F x' = (F x).set j v) : (l.flatMap F).set (i * K + j) v = (l.set i x').flatMap F := by
  have hi : i < l.length := by
    rcases Nat.lt_or_ge i l.length with h | h
    · exact h
    · rw [List.getElem?_eq_none h] at hx; cases hx
  have h := flat_splice hF hx (o := j) (cs := [v]) (x' := x') (by simp; omega) (by rw [hx', set_eq_splice _ _ _ (by rw [hF]; exact hj)]; rfl)
  rw [← h, set_eq_splice _ _ _ (by rw [flat_len hF]; have := Nat.mul_le_mul_right K (Nat.succ_le_of_lt hi); rw [Nat.succ_mul] at this; omega)]
  rfl
end

section
variable {P : Program} {w : World} {g tt : Nat} {cs : List Value}
theorem run_storeCells_bk (h : Bk w g tt cs) (o : Nat) (vs : List Value) (hfit : o + vs.length ≤ cs.length) (h1 : ∀ v ∈ vs, v.oneCell' = true) :
    (storeCells ⟨g, o, none⟩ vs 0).run P w = .ok () (w.setRow g (cs.take o ++ vs ++ cs.drop (o + vs.length)).toArray) := by
  have hst := run_storeCells_at P g o tt vs 0 cs.toArray w h (by simpa using hfit) h1
  simpa using hst
/-- p.b[l:h] of an array of one-cell elements behind a pointer. -/
theorem run_sliceAt_any {t e L : Nat} (ht : P.underlying t = some (.array L e)) (hs : (P.info? e).map (·.size) = some 1) (b o : Nat) (kl kh : IntKind) (l h : Int) (h0 : 0 ≤ l) (h1 : l ≤ h) (h2 : h ≤ L) :
    ∃ o', (∀ W, (Instr.sliceAt t (.pointer (some ⟨b, o, none⟩)) (some (.int kl l)) (some (.int kh h)) none).run P W = .ok (.slice (some ⟨b, o', none⟩) (h - l).toNat (L - l.toNat)) W) ∧ (o' = o + l.toNat ∨ l = L ∧ o' = o) := by
  have el : P.elem t = e := by simp [Program.elem, ht]
  have al : P.arrayLen t = L := by simp [Program.arrayLen, ht]
  have hr := fun W => run_sliceAt_array_lh (P := P) W t ⟨b, o, none⟩ (by rw [el, al]; exact ht) kl kh l h h0 h1 (by rw [al]; exact h2)
  cases hq : P.info? e with
  | none => simp [hq] at hs
  | some i =>
    have hi : i.size = 1 := by simpa [hq] using hs
    have ez : ∀ W, (sizeOf e).run P W = .ok 1 W := by intro W; simp [sizeOf, typeInfo, hq, hi]
    have en : h.toNat - l.toNat = (h - l).toNat := by omega
    by_cases hl : L = l.toNat
    · refine ⟨o, fun W => ?_, .inr ⟨by omega, rfl⟩⟩
      rw [hr, el, al, ez]
      simp [slicedAt, hl, en]
    · refine ⟨o + l.toNat, fun W => ?_, .inl rfl⟩
      rw [hr, el, al, ez]
      simp [slicedAt, hl, en, Addr.add]
/-- p.b[l:]. -/
theorem run_sliceAt_lo {t e L : Nat} (ht : P.underlying t = some (.array L e)) (hs : (P.info? e).map (·.size) = some 1) (b o : Nat) (kl : IntKind) (l : Int) (h0 : 0 ≤ l) (h2 : l ≤ L) :
    ∃ o', (∀ W, (Instr.sliceAt t (.pointer (some ⟨b, o, none⟩)) (some (.int kl l)) none none).run P W = .ok (.slice (some ⟨b, o', none⟩) (L - l.toNat) (L - l.toNat)) W) ∧ (o' = o + l.toNat ∨ l = L ∧ o' = o) := by
  have el : P.elem t = e := by simp [Program.elem, ht]
  have al : P.arrayLen t = L := by simp [Program.arrayLen, ht]
  have hr := fun W => run_sliceAt_array_l (P := P) W t ⟨b, o, none⟩ (by rw [el, al]; exact ht) kl l h0 (by rw [al]; exact h2)
  cases hq : P.info? e with
  | none => simp [hq] at hs
  | some i =>
    have hi : i.size = 1 := by simpa [hq] using hs
    have ez : ∀ W, (sizeOf e).run P W = .ok 1 W := by intro W; simp [sizeOf, typeInfo, hq, hi]
    by_cases hl : L = l.toNat
    · refine ⟨o, fun W => ?_, .inr ⟨by omega, rfl⟩⟩
      rw [hr, el, al, ez]
      simp [slicedAt, hl]
    · refine ⟨o + l.toNat, fun W => ?_, .inl rfl⟩
      rw [hr, el, al, ez]
      simp [slicedAt, hl, Addr.add]
/-- copy of m cells into a block that is known. -/
theorem run_copy_bk (h : Bk w g tt cs) (t ty e : Nat) (o dLen dCap m c2 : Nat) (A2 : Option Addr) (news : List Value) {N : List Nat} (hr : Rd w N A2 news) (hl : news.length = m)
    (hu : P.underlying t = some (.slice e)) (hs : (P.info? e).map (·.size) = some 1) (hmd : m ≤ dLen) (hfit : o + m ≤ cs.length) (h1 : ∀ v ∈ news, v.oneCell' = true) (h0 : A2 = none → m = 0 ∧ c2 = 0) :
    (Builtin.copy_ #[t, t] ty #[.slice (some ⟨g, o, none⟩) dLen dCap, .slice A2 m c2]).run P w = .ok (goInt m) (w.setRow g (cs.take o ++ news ++ cs.drop (o + m)).toArray) := by
  have key : ∀ a : Addr, (∀ j v, news[j]? = some v → w.cell? (a.add j) = some v) → (Builtin.copy_ #[t, t] ty #[.slice (some ⟨g, o, none⟩) dLen dCap, .slice (some a) m c2]).run P w = .ok (goInt m) (w.setRow g (cs.take o ++ news ++ cs.drop (o + m)).toArray) := by
    intro a ha
    have hc := run_copy_row P w t t ty e g o dLen dCap a m c2 cs.toArray tt news hu hs h (by rw [hl]; exact (Nat.min_eq_left hmd).symm) ha (by simpa [hl] using hfit) h1
    simpa [hl] using hc
  by_cases hx : news = []
  · subst hx
    simp at hl; subst hl
    rcases A2 with _ | a
    · obtain ⟨_, rfl⟩ := h0 rfl
      have hc := run_copy_nil P w t t ty e ⟨g, o, none⟩ dLen dCap hu (by rw [hs]; rfl)
      rw [hc]
      simp only [List.append_nil, Nat.add_zero, List.take_append_drop]
      rw [setRow_self w g _ tt (0, 0) h]
      rfl
    · exact key a (by intro j v hv; simp at hv)
  · obtain ⟨a, rfl, hc⟩ := hr.src hx
    exact key a hc
end

/-! ### slices of the call's own -/
/-- The blocks under a slice's address. -/
def bks : Option Addr → List Nat
  | some a => [a.block]
  | none => []
/-- The slice A, n, c of elements of type e (sz cells each) has its whole row from the head of a block; its n elements read xs. -/
def Ow (w : World) (e sz : Nat) (A : Option Addr) (n c : Nat) (xs : List Value) : Prop := w.ownsRow 0 e sz (.slice A n c) n xs
section
variable {w w' : World} {e sz n c : Nat} {A : Option Addr} {xs : List Value} {S N : List Nat}
theorem Ow.nil : Ow w e sz none 0 0 [] := World.ownsRow_nil w 0 e sz
theorem Ow.len (h : Ow w e sz A n c xs) : xs.length = n * sz := h.1
theorem Ow.lt (h : Ow w e sz A n c xs) : ∀ b ∈ bks A, b < w.heap.size := by
  intro b hb
  rcases A with _ | ad
  · cases hb
  · simp only [bks, List.mem_singleton] at hb
    exact (World.ownsRow.lt h b (by simp [Value.ownBlock, hb])).2
theorem Ow.kp (h : Ow w e sz A n c xs) (hk : Kp S w w') (hs : ∀ b ∈ bks A, b ∉ S) : Ow w' e sz A n c xs := by
  refine ⟨h.1, ?_⟩
  rcases h.2 with hn | ⟨g, cap, cur, hv, hb, hg, rest⟩
  · exact .inl hn
  · refine .inr ⟨g, cap, cur, hv, hb, ?_, rest⟩
    rw [hk.block g (Array.getElem?_eq_some_iff.1 hg).1 ?_]
    · exact hg
    · injection hv with hA; subst hA; exact hs g (by simp [bks])
theorem Ow.rd (h : Ow w e sz A n c xs) (hn : ∀ b ∈ bks A, b ∉ N) : Rd w N A xs := fun hx => by
  rcases h.2 with ⟨_, h0⟩ | ⟨g, cap, cur, hv, hb, hg, _⟩
  · have := h.1; subst h0; simp at this; exact absurd this hx
  · injection hv with hA; subst hA
    refine ⟨g, 0, rfl, hn g (by simp [bks]), (Array.getElem?_eq_some_iff.1 hg).1, fun j u hu => ?_⟩
    have := World.ownsRow.cells h (g := g) (by simp [Value.ownBlock]) j u hu
    have e : (⟨g, 0, none⟩ : Addr).add j = ⟨g, 0 + j, none⟩ := by unfold Addr.add; split <;> simp_all
    rwa [e] at this
theorem Ow.drewN (h : Ow w e sz A n c xs) (k : Nat) : Ow (w.drewN k) e sz A n c xs := h
theorem Ow.drew (h : Ow w e sz A n c xs) : Ow w.drew e sz A n c xs := h
theorem Ow.alloc (h : Ow w e sz A n c xs) (o : Obj) : Ow (w.alloc o) e sz A n c xs := World.ownsRow.alloc h o
/-- Its block, where there is one. -/
theorem Ow.form (h : Ow w e sz A n c xs) (hn : 0 < n) : ∃ g, A = some ⟨g, 0, none⟩ ∧ g < w.heap.size := by
  rcases h.2 with ⟨_, h0⟩ | ⟨g, cap, cur, hv, hb, hg, _⟩
  · omega
  · injection hv with hA; exact ⟨g, hA, (Array.getElem?_eq_some_iff.1 hg).1⟩
theorem Ow.cast (h : Ow w e sz A n c xs) {n' : Nat} {xs' : List Value} (hn : n = n') (hx : xs = xs') : Ow w e sz A n' c xs' := by subst hn; subst hx; exact h
/-- A literal row, just made. -/
theorem Ow.lit (w : World) (e sz : Nat) (cs : Array Value) (n : Nat) (hm : n ≤ maxLen) (hs : cs.size = n * sz) : Ow (w.alloc (.cells cs e)) e sz (some ⟨w.heap.size, 0, none⟩) n n cs.toList :=
  World.ownsRow_lit w cs n (Nat.zero_le _) hm hs
end

/-- What the program's tables say of a slice type t of elements e: their zero value, their cells, their bytes. -/
def Elt (P : Program) (t e : Nat) (z : Value) (sz by_ : Nat) : Prop :=
  P.underlying t = some (.slice e) ∧ (P.info? e).map (fun i => (i.zero, i.size, i.bytes)) = some (some z, sz, by_) ∧ z.cells.size = sz ∧ 0 < sz ∧ by_ ≤ 4096

section
variable {P : Program} (w : World)
theorem run_append_src_nil {t ty e : Nat} {z : Value} {sz by_ : Nat} (hE : Elt P t e z sz by_) (A : Option Addr) (n c c2 : Nat) (xs : List Value) (hown : Ow w e sz A n c xs) :
    (Builtin.append_ #[t, t] ty #[.slice A n c, .slice none 0 c2]).run P w = .ok (.slice A n c) w := by
  obtain ⟨ht, hi, _⟩ := hE
  obtain ⟨i, hi, hz, hs, hb⟩ := info_parts hi
  rcases hown.2 with ⟨hv, rfl⟩ | ⟨g, cap, cur, hv, _, _, hnc, _⟩
  · injection hv with hA hn hc; subst hA; subst hc
    simp [Builtin.append_, run_underlying ht, sizeOf, typeInfo, hi, Builtin.lenOf, Builtin.firstCells]
  · injection hv with hA hn hc; subst hA; subst hc
    simp [Builtin.append_, run_underlying ht, sizeOf, typeInfo, hi, Builtin.lenOf, Builtin.firstCells, hnc, storeCells]
theorem run_app {t ty e : Nat} {z : Value} {sz by_ : Nat} (hE : Elt P t e z sz by_) (A : Option Addr) (n c : Nat) (xs : List Value) (hown : Ow w e sz A n c xs)
    (N : List Nat) (A2 : Option Addr) (m c2 : Nat) (news : List Value) (hr : Rd w N A2 news) (hl : news.length = m * sz) (h1 : ∀ u ∈ news, u.oneCell' = true) (hb : n + m ≤ 4294967296) :
    ∃ A' c' w', (Builtin.append_ #[t, t] ty #[.slice A n c, .slice A2 m c2]).run P w = .ok (.slice A' (n + m) c') w' ∧ Ow w' e sz A' (n + m) c' (xs ++ news) ∧ Kp (bks A) w w' ∧
      (A' = A ∨ A' = some ⟨w.heap.size, 0, none⟩) := by
  have hE' := hE
  obtain ⟨ht, hi, hzs, hsz, hby⟩ := hE
  obtain ⟨i, hi, hz, hs, hby'⟩ := info_parts hi
  have h63 : n + m ≤ maxLen := by simp only [maxLen]; omega
  have hbytes : (n + m) * by_ ≤ 140737488355328 := Nat.le_trans (Nat.mul_le_mul hb hby) (by decide)
  have key : ∀ ad, (∀ j u, news[j]? = some u → w.cell? (ad.add j) = some u) → ∃ A' c' w', (Builtin.append_ #[t, t] ty #[.slice A n c, .slice (some ad) m c2]).run P w = .ok (.slice A' (n + m) c') w' ∧ Ow w' e sz A' (n + m) c' (xs ++ news) ∧ Kp (bks A) w w' ∧
      (A' = A ∨ A' = some ⟨w.heap.size, 0, none⟩) := by
    intro ad hc
    obtain ⟨v', w', hrun, h2, h3, _, h5⟩ := run_append_own_at (P := P) w 0 t ty e i z sz by_ ht hi hz hs hby' hzs hsz (.slice A n c) n xs hown ad m c2 news hl hc h1 h63 hbytes (Nat.zero_le _)
    have hk : Kp (bks A) w w' := (Kp.refl _ w).grown h3 (by
      intro k hk
      rcases A with _ | ad'
      · simp [Value.ownBlock] at hk
      · simp [Value.ownBlock] at hk; subst hk; exact .inl (by simp [bks]))
    rcases h2.2 with ⟨rfl, h0⟩ | ⟨g, cap, cur, rfl, hb', hg, hnc, hcm, hcs, htk⟩
    · have hA : A = none := by
        rcases A with _ | ad'
        · rfl
        · rcases h5 with h5 | h5 <;> simp [Value.ownBlock] at h5
      subst hA
      exact ⟨none, 0, w', by rw [hrun, h0], by unfold Ow; rw [h0] at h2 ⊢; exact h2, hk, .inl rfl⟩
    · refine ⟨some ⟨g, 0, none⟩, cap, w', hrun, h2, hk, ?_⟩
      rcases h5 with h5 | h5
      · left
        rcases hown.2 with ⟨hv, _⟩ | ⟨g', _, _, hv, _⟩
        · injection hv with hA; subst hA; simp [Value.ownBlock] at h5
        · injection hv with hA; subst hA; simp [Value.ownBlock] at h5; rw [h5]
      · right; simp [Value.ownBlock] at h5; rw [h5]
  by_cases hx : news = []
  · subst hx
    have hm : m = 0 := by
      rcases Nat.eq_zero_or_pos m with h | h
      · exact h
      · have := Nat.mul_pos h hsz; simp at hl; omega
    subst hm
    rcases A2 with _ | ad
    · exact ⟨A, c, w, run_append_src_nil w hE' A n c c2 xs hown, by simpa using hown, Kp.refl _ w, .inl rfl⟩
    · exact key ad (by intro j u hu; simp at hu)
  · obtain ⟨ad, rfl, hc⟩ := hr.src hx
    exact key ad hc
theorem wp_app {o : Oper} {a : Act} {K : Act → World → Prop} {Q : Exit → Act → World → Prop} (s x : Operand) (t : Nat)
    (ho : o.op = .call { callee := .builtin .append, args := #[s, x], argTypes := #[t, t] })
    {e : Nat} {z : Value} {sz by_ : Nat} (hE : Elt P t e z sz by_) (A : Option Addr) (n c : Nat) (xs : List Value) (hs : a.eval s = .slice A n c) (hown : Ow w e sz A n c xs)
    (N : List Nat) (A2 : Option Addr) (m c2 : Nat) (news : List Value) (hx : a.eval x = .slice A2 m c2) (hr : Rd w N A2 news) (hl : news.length = m * sz) (h1 : ∀ u ∈ news, u.oneCell' = true) (hb : n + m ≤ 4294967296)
    (h : ∀ A' c' w', Ow w' e sz A' (n + m) c' (xs ++ news) → Kp (bks A) w w' → (A' = A ∨ A' = some ⟨w.heap.size, 0, none⟩) → K (a.put o.dst (.slice A' (n + m) c')) w') : o.wp P a w K Q := by
  obtain ⟨A', c', w', hrun, h2, h3, h4⟩ := run_app (P := P) w (ty := o.type) hE A n c xs hown N A2 m c2 news hr hl h1 hb
  unfold Oper.wp execOp
  simp only [ho, resolve, invoke, builtin, Sem.run_bind, Sem.run_pure, Result.andThen_ok, List.map_toArray, List.map_cons, List.map_nil, hs, hx, hrun]
  exact h A' c' w' h2 h3 h4
/-- append onto a slice of the call's own; the source nil, empty or not. -/
theorem wpList_app {ops : Array Oper} {rest : List Oper} {o : Oper} {a : Act} {Q : Exit → Act → World → Prop} (hgd : o.guard = none) (s x : Operand) (t : Nat)
    (ho : o.op = .call { callee := .builtin .append, args := #[s, x], argTypes := #[t, t] })
    {e : Nat} {z : Value} {sz by_ : Nat} (hE : Elt P t e z sz by_) (A : Option Addr) (n c : Nat) (xs : List Value) (hs : a.eval s = .slice A n c) (hown : Ow w e sz A n c xs)
    (N : List Nat) (A2 : Option Addr) (m c2 : Nat) (news : List Value) (hx : a.eval x = .slice A2 m c2) (hr : Rd w N A2 news) (hl : news.length = m * sz) (h1 : ∀ u ∈ news, u.oneCell' = true) (hb : n + m ≤ 4294967296)
    (h : ∀ A' c' w', Ow w' e sz A' (n + m) c' (xs ++ news) → Kp (bks A) w w' → (A' = A ∨ A' = some ⟨w.heap.size, 0, none⟩) → wpList P ops Q rest (a.put o.dst (.slice A' (n + m) c')) w') : wpList P ops Q (o :: rest) a w :=
  wpList_plain hgd fun _ hK => wp_app w s x t ho hE A n c xs hs hown N A2 m c2 news hx hr hl h1 hb fun A' c' w' h2 h3 h4 => hK _ _ (h A' c' w' h2 h3 h4)
end

theorem rcast {R : Ending → World → Prop} {a b : Value} {w : World} (h : R (.returned a) w) (e : a = b) : R (.returned b) w := e ▸ h

theorem icast {a b : Int} (h : a = b) : Value.int .i64 a = .int .i64 b := by rw [h]
theorem ricast {R : Ending → World → Prop} {k : IntKind} {a b : Int} {w : World} (h : R (.returned (.int k a)) w) (e : a = b) : R (.returned (.int k b)) w := e ▸ h
theorem bks_app {A A2 : Option Addr} {B W : Nat} (h : A2 = A ∨ A2 = some ⟨W, 0, none⟩) (hA : ∀ b ∈ bks A, B ≤ b) (hB : B ≤ W) : ∀ b ∈ bks A2, B ≤ b := by
  rcases h with rfl | rfl
  · exact hA
  · intro b hb; simp [bks] at hb; omega
theorem flat_snoc {α : Type} {F : α → List Value} {l : List α} {k : Nat} {x : α} (hx : l[k]? = some x) : (l.take (k + 1)).flatMap F = (l.take k).flatMap F ++ F x := by
  have hk : k < l.length := (List.getElem?_eq_some_iff.1 hx).1
  have e : l[k] = x := (List.getElem?_eq_some_iff.1 hx).2
  rw [List.take_succ_eq_append_getElem hk, e]
  simp
/-- The k-th piece of a slice of pieces. -/
theorem rd_at {w : World} {N : List Nat} {A : Option Addr} {α : Type} {F : α → List Value} {K : Nat} {l : List α} (hr : Rd w N A (l.flatMap F)) (hF : ∀ x, (F x).length = K) (h0 : 0 < K) {k : Nat} {x : α} (hx : l[k]? = some x) :
    ∃ b off, A = some ⟨b, off, none⟩ ∧ b ∉ N ∧ b < w.heap.size ∧ ∀ j v, (F x)[j]? = some v → w.cell? ⟨b, off + k * K + j, none⟩ = some v := by
  have hk : k < l.length := (List.getElem?_eq_some_iff.1 hx).1
  obtain ⟨b, off, hA, hN, hb, hc⟩ := hr (by
    intro e
    have h := congrArg List.length e
    rw [flat_len hF] at h
    have := Nat.mul_pos (Nat.lt_of_le_of_lt (Nat.zero_le k) hk) h0
    simp at h
    omega)
  refine ⟨b, off, hA, hN, hb, fun j v hv => ?_⟩
  have hj : j < K := by rw [← hF x]; exact (List.getElem?_eq_some_iff.1 hv).1
  rw [Nat.add_assoc]
  exact hc _ v (by rw [flat_get hF hx hj]; exact hv)
/-- Bytes as cells. -/
def bts (l : List UInt8) : List Value := l.map fun c => .int .u8 c.toNat
theorem bts_len (l : List UInt8) : (bts l).length = l.length := by simp [bts]
theorem bts_get (l : List UInt8) (i : Nat) : (bts l)[i]? = (l[i]?).map fun c => .int .u8 c.toNat := by simp [bts]
theorem bts_append (a b : List UInt8) : bts (a ++ b) = bts a ++ bts b := by simp [bts]
theorem bts_one (l : List UInt8) : ∀ u ∈ bts l, u.oneCell' = true := by
  intro u hu; simp only [bts, List.mem_map] at hu; obtain ⟨c, _, rfl⟩ := hu; rfl
theorem bts_take (l : List UInt8) (k : Nat) : bts (l.take k) = (bts l).take k := by simp [bts]
theorem bts_drop (l : List UInt8) (k : Nat) : bts (l.drop k) = (bts l).drop k := by simp [bts]
end
/-! ### The walks of package frame: what each call of a table does, said of a list of frames. -/
section
open Go.RowKit
set_option linter.unusedVariables false

/-- One frame. -/
structure Fr where
  ow : Int
  ho : Int
  bs : List UInt8
def Fr.vals (x : Fr) : List Value := .int .i64 x.ow :: .int .i64 x.ho :: bts x.bs
/-- A frame's cells, 258 of them whatever is in it. -/
def fit (n : Nat) (l : List Value) : List Value := (l ++ List.replicate n undef).take n
theorem fit_len (n : Nat) (l : List Value) : (fit n l).length = n := by simp [fit]
theorem fit_eq {n : Nat} {l : List Value} (h : l.length = n) : fit n l = l := by
  unfold fit
  rw [List.take_append_of_le_length (by omega), List.take_of_length_le (by omega)]
def fcells (x : Fr) : List Value := fit 258 x.vals
theorem fcells_len (x : Fr) : (fcells x).length = 258 := fit_len _ _
theorem vals_len {x : Fr} (h : x.bs.length = 256) : x.vals.length = 258 := by simp [Fr.vals, bts_len, h]
theorem fcells_eq {x : Fr} (h : x.bs.length = 256) : fcells x = x.vals := fit_eq (vals_len h)
def fz : Fr := ⟨0, 0, List.replicate 256 0⟩

/-- A table: the struct's block, the row's block, the frames. -/
structure Tab (w : World) (bT bL : Nat) (fs : List Fr) : Prop where
  t : Bk w bT 195 [.slice (some ⟨bL, 0, none⟩) fs.length fs.length]
  l : Bk w bL 239 (fs.flatMap fcells)
  pg : ∀ x ∈ fs, x.bs.length = 256
  n1 : fs.length ≤ 256

section
variable {w w' : World} {bT bL : Nat} {fs : List Fr}
theorem Tab.ne (h : Tab w bT bL fs) : bT ≠ bL := h.t.ne_ h.l (by decide)
theorem Tab.hc (h : Tab w bT bL fs) : w.cell? ⟨bT, 0, none⟩ = some (.slice (some ⟨bL, 0, none⟩) fs.length fs.length) := h.t.cell 0
theorem Tab.at_ (h : Tab w bT bL fs) {i : Nat} {x : Fr} (hx : fs[i]? = some x) {j : Nat} (hj : j < 258) : w.cell? ⟨bL, i * 258 + j, none⟩ = x.vals[j]? := by
  rw [h.l.cell, flat_get fcells_len hx hj, fcells_eq (h.pg x (List.mem_of_getElem? hx))]
theorem Tab.ow (h : Tab w bT bL fs) {i : Nat} {x : Fr} (hx : fs[i]? = some x) : w.cell? ⟨bL, i * 258, none⟩ = some (.int .i64 x.ow) := by
  have e := h.at_ hx (j := 0) (by omega)
  rw [Nat.add_zero] at e
  exact e
theorem Tab.ho (h : Tab w bT bL fs) {i : Nat} {x : Fr} (hx : fs[i]? = some x) : w.cell? ⟨bL, i * 258 + 1, none⟩ = some (.int .i64 x.ho) := h.at_ hx (j := 1) (by omega)
theorem Tab.free (h : Tab w bT bL fs) (i : Nat) : w.frozen? ⟨bL, i, none⟩ = false := h.l.frozen i
theorem Tab.drewN (h : Tab w bT bL fs) (n : Nat) : Tab (w.drewN n) bT bL fs := ⟨h.t, h.l, h.pg, h.n1⟩
theorem Tab.kp {S : List Nat} (h : Tab w bT bL fs) (hk : Kp S w w') (h1 : bT ∉ S) (h2 : bL ∉ S) : Tab w' bT bL fs := ⟨h.t.kp hk h1, h.l.kp hk h2, h.pg, h.n1⟩
theorem Tab.pgAt (h : Tab w bT bL fs) {i : Nat} {x : Fr} (hx : fs[i]? = some x) : x.bs.length = 256 := h.pg x (List.mem_of_getElem? hx)
theorem mem_set {α : Type} {l : List α} {i : Nat} {x y : α} (h : y ∈ l.set i x) : y = x ∨ y ∈ l := (List.mem_or_eq_of_mem_set h).symm
theorem Tab.put (h : Tab w bT bL fs) {i : Nat} {x x' : Fr} (hx : fs[i]? = some x) {j : Nat} {v : Value} (hj : j < 258) (hv : x'.vals = x.vals.set j v) (hb : x'.bs.length = 256) :
    Tab (w.setCell ⟨bL, i * 258 + j, none⟩ v) bT bL (fs.set i x') := by
  refine ⟨?_, ?_, ?_, by simpa using h.n1⟩
  · rw [List.length_set]; exact h.t.far (p := ⟨bL, i * 258 + j, none⟩) h.ne v
  · exact (h.l.set_ _ v).cast (flat_set fcells_len hx hj (by rw [fcells_eq hb, fcells_eq (h.pgAt hx), hv]))
  · intro y hy
    rcases mem_set hy with rfl | hy
    · exact hb
    · exact h.pg y hy
theorem Tab.putOw (h : Tab w bT bL fs) {i : Nat} {x : Fr} (hx : fs[i]? = some x) (o : Int) : Tab (w.setCell ⟨bL, i * 258, none⟩ (.int .i64 o)) bT bL (fs.set i { x with ow := o }) := by
  have e := h.put hx (x' := { x with ow := o }) (j := 0) (v := .int .i64 o) (by omega) rfl (h.pgAt (x := x) hx)
  rw [Nat.add_zero] at e
  exact e
theorem Tab.putHo (h : Tab w bT bL fs) {i : Nat} {x : Fr} (hx : fs[i]? = some x) (o : Int) : Tab (w.setCell ⟨bL, i * 258 + 1, none⟩ (.int .i64 o)) bT bL (fs.set i { x with ho := o }) :=
  h.put hx (x' := { x with ho := o }) (j := 1) (by omega) rfl (h.pgAt (x := x) hx)
end

/-! ### the plain functions -/
def envB (n : Int) : Bool := decide (1 ≤ n ∧ n ≤ 2)
def spanB (off n : Int) : Bool := decide (0 ≤ off ∧ 0 ≤ n ∧ off + n ≤ 256)
def fat (fs : List Fr) (f : Int) : Option Fr := if 0 ≤ f then fs[f.toNat]? else none
/-- The error of 'own'. -/
def ownE (fs : List Fr) (who f : Int) : Int :=
  if envB who then match fat fs f with | none => 1 | some x => if x.ow = who then 0 else 20 else 1
def quietE (fs : List Fr) (who f : Int) : Int :=
  if ownE fs who f ≠ 0 then ownE fs who f else match fat fs f with | none => 1 | some x => if 0 < x.ho then 21 else 0
def heldE (fs : List Fr) (f : Int) : Int := match fat fs f with | none => 1 | some x => if x.ho = 0 then 1 else 0


set_option maxHeartbeats 400000 in
theorem env_any {R : Ending → World → Prop} (a : Int) (w : World) (h : R (.returned (.bool (envB a))) w) : Calls Tryz.prog 146 #[.int .i64 a] w R := by
  go_enter Tryz.func146, Tryz.ntmps146
  go_wp2
  all_goals (refine rcast h (congrArg Value.bool ?_); rw [Bool.eq_iff_iff]; simp [envB] <;> omega)

set_option maxHeartbeats 400000 in
theorem span_any {R : Ending → World → Prop} (a b : Int) (w : World) (h : R (.returned (.bool (spanB a b))) w) : Calls Tryz.prog 129 #[.int .i64 a, .int .i64 b] w R := by
  go_enter Tryz.func129, Tryz.ntmps129
  go_wp2
  all_goals (refine rcast h (congrArg Value.bool ?_); rw [Bool.eq_iff_iff]; simp [spanB] <;> omega)

theorem fat_some {fs : List Fr} {f : Int} {x : Fr} (h : fat fs f = some x) : 0 ≤ f ∧ fs[f.toNat]? = some x := by
  unfold fat at h
  split at h
  · exact ⟨‹_›, h⟩
  · cases h
theorem fat_lt {fs : List Fr} {f : Int} {x : Fr} (h : fat fs f = some x) : f < fs.length := by
  obtain ⟨h0, hx⟩ := fat_some h
  have : f.toNat < fs.length := by
    rcases Nat.lt_or_ge f.toNat fs.length with h | h
    · exact h
    · rw [List.getElem?_eq_none h] at hx; cases hx
  omega
theorem fat_none {fs : List Fr} {f : Int} (h : fat fs f = none) : f < 0 ∨ (fs.length : Int) ≤ f := by
  unfold fat at h
  split at h
  · have := List.getElem?_eq_none_iff.1 h; omega
  · omega
set_option maxHeartbeats 400000 in
theorem find_none {R : Ending → World → Prop} {bT bL : Nat} {fs : List Fr} {w : World} (hT : Tab w bT bL fs) (f : Int) (hx : fat fs f = none)
    (h : R (.returned (.tuple #[.pointer none, .int .i64 1])) w) :
    Calls Tryz.prog 127 #[.pointer (some ⟨bT, 0, none⟩), .int .i64 f] w R := by
  have hc := hT.hc
  have hn := hT.n1
  rcases fat_none hx with hl | hl
  all_goals
    clear hx hT
    go_enter Tryz.func127, Tryz.ntmps127
    go_wp2
    exact h
set_option maxHeartbeats 400000 in
theorem find_some {R : Ending → World → Prop} {bT bL : Nat} {fs : List Fr} {w : World} (hT : Tab w bT bL fs) (f : Int) {x : Fr} (hx : fat fs f = some x)
    (h : R (.returned (.tuple #[.pointer (some ⟨bL, f.toNat * 258, none⟩), .int .i64 0])) w) :
    Calls Tryz.prog 127 #[.pointer (some ⟨bT, 0, none⟩), .int .i64 f] w R := by
  have hc := hT.hc
  have hn := hT.n1
  have hl := fat_lt hx
  have h0 := (fat_some hx).1
  clear hx hT
  go_enter Tryz.func127, Tryz.ntmps127
  go_wp2
  exact h

set_option maxRecDepth 100000 in
set_option maxHeartbeats 400000 in
theorem own_any {R : Ending → World → Prop} {bT bL : Nat} {fs : List Fr} {w : World} (hT : Tab w bT bL fs) (who f : Int)
    (h1 : ∀ e, Hid (ownE fs who f = e) → e ≠ 0 → R (.returned (.tuple #[.pointer none, .int .i64 e])) w)
    (h2 : ∀ x, Hid (ownE fs who f = 0) → Hid (fat fs f = some x) → 0 ≤ f → Hid (fs[f.toNat]? = some x) → Hid (x.ow = who) → R (.returned (.tuple #[.pointer (some ⟨bL, f.toNat * 258, none⟩), .int .i64 0])) w) :
    Calls Tryz.prog 128 #[.pointer (some ⟨bT, 0, none⟩), .int .i64 who, .int .i64 f] w R := by
  cases he : envB who with
  | false =>
    have H := h1 1 (by simp [Hid, ownE, he]) (by omega)
    clear h1 h2
    go_enter Tryz.func128, Tryz.ntmps128
    go_wp2_with (go_at_call 146; refine env_any _ _ ?_)
    exact H
  | true =>
    cases hx : fat fs f with
    | none =>
      have H := h1 1 (by simp [Hid, ownE, he, hx]) (by omega)
      clear h1 h2
      go_enter Tryz.func128, Tryz.ntmps128
      go_wp2_with (first | (go_at_call 146; refine env_any _ _ ?_) | (go_at_call 127; refine find_none hT _ hx ?_))
      exact H
    | some x =>
      obtain ⟨h0, hi⟩ := fat_some hx
      have hc := hT.ow hi
      by_cases ho : x.ow = who
      · have H := h2 x (by simp [Hid, ownE, he, hx, ho]) hx h0 hi ho
        have ho' : (x.ow != who) = false := by simp [ho]
        have HX := Lib.hid hx
        clear h1 h2 ho hx
        go_enter Tryz.func128, Tryz.ntmps128
        go_wp2_with (first | (go_at_call 146; refine env_any _ _ ?_) | (go_at_call 127; refine find_some hT _ HX.out ?_))
        exact H
      · have H := h1 20 (by simp [Hid, ownE, he, hx, ho]) (by omega)
        have ho' : (x.ow != who) = true := by simp [ho]
        have HX := Lib.hid hx
        clear h1 h2 ho hx
        go_enter Tryz.func128, Tryz.ntmps128
        go_wp2_with (first | (go_at_call 146; refine env_any _ _ ?_) | (go_at_call 127; refine find_some hT _ HX.out ?_))
        exact H
end
/-! ### bytes.Clone, over slices of bytes. -/
section
open Go.RowKit
set_option linter.unusedVariables false
set_option maxRecDepth 100000

theorem elt_u8 : Elt Tryz.prog 37 5 (.int .u8 0) 1 1 := ⟨Tryz.underlying37, by kernel_rfl, rfl, by decide, by decide⟩

theorem Elt.one {P : Program} {t e : Nat} {z : Value} {sz by_ : Nat} (h : Elt P t e z sz by_) : (P.info? e).map (·.size) = some sz := by
  obtain ⟨_, hi, _⟩ := h
  obtain ⟨i, hi, _, hs, _⟩ := info_parts hi
  simp [hi, hs]

set_option maxHeartbeats 400000 in
theorem clone_some {R : Ending → World → Prop} {w : World} {N : List Nat} {ad : Addr} {n c : Nat} {xs : List Value} (hr : Rd w N (some ad) xs) (h1 : ∀ u ∈ xs, u.oneCell' = true) (hl : xs.length = n) (hn : n ≤ 2000000)
    (h : ∀ g c' w', w.heap.size ≤ g → Ow w' 5 1 (some ⟨g, 0, none⟩) n c' xs → Kp [] w w' → R (.returned (.slice (some ⟨g, 0, none⟩) n c')) w') :
    Calls Tryz.prog 60 #[.slice (some ad) n c] w R := by
  have hq := fun W => Lib.run_eql_slice_nil (P := Tryz.prog) W 37 5 (some ad) n c 0 0 Tryz.underlying37
  have H := Lib.hid h
  have HL := Lib.hid hl
  clear h hl
  go_enter Tryz.func60, Tryz.ntmps60
  go_wp2_with (at_builtin; refine wpList_app _ rfl (.tmp 5) (.tmp 6) _ rfl elt_u8 _ 0 0 [] rfl (Ow.lit w _ 1 #[] 0 (by decide) rfl) N (some ad) n c xs rfl (hr.below (Kp.below_nil ((Kp.refl _ _).alloc _))) (by rw [HL.out, Nat.mul_one]) h1 (by omega) ?_; intro A' c' w' ho hk hA)
  rcases hA with rfl | rfl
  · exact H.out _ _ _ (Nat.le_refl _) (ho.cast (Nat.zero_add n) (List.nil_append xs)) (((Kp.refl [] w).alloc _).thn hk (by simp [bks]))
  · exact H.out _ _ _ (by simp) (ho.cast (Nat.zero_add n) (List.nil_append xs)) (((Kp.refl [] w).alloc _).thn hk (by simp [bks]))

/-! ### strings and bytes -/
section
variable {w w' a : World} {S N : List Nat}
theorem conv_sb (W : World) (s : ByteArray) : (convert 9 37 (.string s)).run Tryz.prog W = .ok (.slice (some ⟨W.heap.size, 0, none⟩) s.size (grownCap W s.size 0 5)) (Lib.bytesWorld W 5 s) :=
  Lib.run_convert_string_bytes W _ _ _ s Tryz.underlying9 Tryz.underlying37 Tryz.underlying5
theorem Kp.bytesWorld (h : Kp S a w) (e : Nat) (s : ByteArray) : Kp S a (Lib.bytesWorld w e s) :=
  ⟨h.os, h.tape, h.output, by rw [Lib.bytesWorld_size]; have := h.size; omega, fun k hk hn => (Lib.bytesWorld_at_old w e s k (Nat.lt_of_lt_of_le hk h.size)).trans (h.block k hk hn)⟩
theorem rd_bytesWorld (w : World) (e : Nat) (s : ByteArray) {g : Nat} (hg : g = w.heap.size) (hN : g ∉ N) : Rd (Lib.bytesWorld w e s) N (some ⟨g, 0, none⟩) (bts s.data.toList) := fun _ =>
  ⟨g, 0, rfl, hN, by rw [Lib.bytesWorld_size]; omega, fun j u hu => by
    subst hg
    rw [bts_get] at hu
    have hj : j < s.size := by
      rcases Nat.lt_or_ge j s.size with h | h
      · exact h
      · rw [List.getElem?_eq_none (by simpa using h)] at hu; cases hu
    rw [Nat.zero_add, Lib.bytesWorld_cell w e s j hj]
    have hj' : j < s.data.toList.length := by simpa using hj
    rw [List.getElem?_eq_getElem hj'] at hu
    rw [← hu]
    have e2 : s.data[j]? = some s.data[j] := Array.getElem?_eq_getElem hj
    simp [List.getD, e2]⟩
theorem conv_bs {A : Option Addr} {n c : Nat} {l : List UInt8} (hr : Rd w N A (bts l)) (hl : l.length = n) : (convert 37 9 (.slice A n c)).run Tryz.prog w = .ok (.string ⟨l.toArray⟩) w := by
  subst hl
  rcases A with _ | ad
  · have e : l = [] := by
      cases l with
      | nil => rfl
      | cons x l => obtain ⟨_, _, h, _⟩ := hr (by simp [bts]); cases h
    subst e
    exact Lib.run_convert_nil_bytes w _ _ _ c Tryz.underlying37 Tryz.underlying5 Tryz.underlying9
  · refine run_convert_bytes_back w _ _ _ ad c l Tryz.underlying37 Tryz.underlying5 Tryz.underlying9 fun j hj => ?_
    obtain ⟨ad', h, hc⟩ := hr.src (by intro e; simp [bts] at e; subst e; simp at hj)
    cases h
    exact hc j _ (by rw [bts_get, List.getElem?_eq_getElem hj]; rfl)
end
end
end Go.Proofs.YtedblbpmlbjnhaaGreat
