/- Words for memory, over any program: what a call keeps ('Kp'), a block known whole ('Bk'), a slice that reads as a list ('Rd'), rows of equal pieces. Strings as lists of bytes: the walk's words for a string that is written 'S l'. A law's arguments opened to lists; and the law's frame: what is left to show is one call that returns true and turns no old block. Package civil: years, months, the date of a second. Drawn regions whose callees write nowhere but in blocks of their own: the class of worlds that keep all there was. Package civil: the date of a second. -/
import Derived.WalkKit
import Derived.WalkSpells
import Derived.WalkLawsBesides
import Derived.Lib.Hide
import Derived.Deep.Draws
import Derived.Deep.AppendLies
import Derived.Maps.AppendAt
import Derived.Test.YtnmafahbdfilcaaGreatDoorRows
import Derived.ProofKit
import Derived.OpenShut
import Derived.ShutString
import Derived.Deep.Slices
import Derived.Deep.Fields
import Derived.ChangeSame
import Derived.Carry
import Derived.IntWalk
import Derived.Deep.QuietTactic
import Derived.BigQuiet
import Derived.BigRegion
import Derived.Deep.Cut
namespace Go.Proofs.YtnmafahbdfilcaaGreatDoor
/-! ### Words for memory, over any program: what a call keeps ('Kp'), a block known whole ('Bk'), a slice that reads as a list ('Rd'), rows of equal pieces. -/
section
open Go.RowKit

/-- Of the blocks that were there only those of S may have turned. -/
structure Kp (S : List Nat) (w w' : World) : Prop where
  os : w'.os = w.os
  tape : w'.tape = w.tape
  output : w'.output = w.output
  size : w.heap.size ≤ w'.heap.size
  block : ∀ k, k < w.heap.size → k ∉ S → w'.heap[k]? = w.heap[k]?

section
variable {S S' : List Nat} {a w w' w1 w2 : World}
theorem Kp.refl (S : List Nat) (w : World) : Kp S w w := ⟨rfl, rfl, rfl, Nat.le_refl _, fun _ _ _ => rfl⟩
theorem Kp.trans (h : Kp S a w) (k : Kp S w w') : Kp S a w' :=
  ⟨k.os.trans h.os, k.tape.trans h.tape, k.output.trans h.output, Nat.le_trans h.size k.size, fun i hi hn => (k.block i (Nat.lt_of_lt_of_le hi h.size) hn).trans (h.block i hi hn)⟩
theorem Kp.mono (h : Kp S w w') (hs : ∀ s ∈ S, s ∈ S' ∨ w.heap.size ≤ s) : Kp S' w w' :=
  ⟨h.os, h.tape, h.output, h.size, fun i hi hn => h.block i hi fun hm => (hs i hm).elim hn (fun hge => by omega)⟩
/-- Two steps: the second may turn blocks of S' that are new since the first began. -/
theorem Kp.thn (h : Kp S a w) (k : Kp S' w w') (hs : ∀ s ∈ S', s ∈ S ∨ a.heap.size ≤ s) : Kp S a w' :=
  ⟨k.os.trans h.os, k.tape.trans h.tape, k.output.trans h.output, Nat.le_trans h.size k.size, fun i hi hn =>
    (k.block i (Nat.lt_of_lt_of_le hi h.size) (fun hm => (hs i hm).elim hn (fun hge => by omega))).trans (h.block i hi hn)⟩
theorem Kp.drew (h : Kp S a w) : Kp S a w.drew := ⟨h.os, h.tape, h.output, h.size, h.block⟩
theorem Kp.drewN (h : Kp S a w) (n : Nat) : Kp S a (w.drewN n) := ⟨h.os, h.tape, h.output, h.size, h.block⟩
theorem Kp.alloc (h : Kp S a w) (o : Obj) : Kp S a (w.alloc o) :=
  ⟨h.os, h.tape, h.output, Nat.le_trans h.size (by simp), fun i hi hn => (Below.heap_alloc w o i (Nat.lt_of_lt_of_le hi h.size)).trans (h.block i hi hn)⟩
theorem Kp.setCell (h : Kp S a w) {p : Addr} (hp : p.block ∈ S ∨ a.heap.size ≤ p.block) (u : Value) : Kp S a (w.setCell p u) :=
  ⟨h.os, h.tape, h.output, by simpa using h.size, fun i hi hn => (Below.heap_setCell w p u i (by rintro rfl; exact hp.elim hn (fun e => by omega))).trans (h.block i hi hn)⟩
theorem Kp.setRow (h : Kp S a w) {g : Nat} (hp : g ∈ S ∨ a.heap.size ≤ g) (cs : Array Value) : Kp S a (w.setRow g cs) :=
  ⟨h.os, h.tape, h.output, by simpa using h.size, fun i hi hn => (setRow_other w g i cs (by rintro rfl; exact hp.elim hn (fun e => by omega))).trans (h.block i hi hn)⟩
theorem Kp.grown (h : Kp S a w) {row : Option Nat} (hg : w.grownBy w' row) (hr : ∀ k, row = some k → k ∈ S ∨ a.heap.size ≤ k) : Kp S a w' :=
  ⟨hg.os.trans h.os, hg.tape.trans h.tape, hg.output.trans h.output, Nat.le_trans h.size hg.size, fun i hi hn =>
    (hg.block i (Nat.lt_of_lt_of_le hi h.size) (fun e => (hr i e.symm).elim hn (fun e => by omega))).trans (h.block i hi hn)⟩
theorem Kp.of_below (h : Below w.heap.size w w') : Kp S w w' := ⟨h.os, h.tape, h.output, h.size, fun i hi _ => h.block i hi⟩
theorem Kp.below (h : Kp S w w') {B : Nat} (hs : ∀ s ∈ S, B ≤ s) (hB : B ≤ w.heap.size) : Below B w w' :=
  ⟨h.os, h.tape, h.output, h.size, fun k hk => h.block k (by omega) (fun hm => by have := hs k hm; omega)⟩
theorem Kp.below_nil (h : Kp [] w w') : Below w.heap.size w w' := h.below (by simp) (Nat.le_refl _)
theorem Kp.cell (h : Kp S w w') {p : Addr} (hp : p.block < w.heap.size) (hn : p.block ∉ S) : w'.cell? p = w.cell? p := World.cell?_of_block (w := w) (h.block p.block hp hn)
theorem Kp.frozen (h : Kp S w w') {p : Addr} (hp : p.block < w.heap.size) (hn : p.block ∉ S) : w'.frozen? p = w.frozen? p := World.frozen?_of_block (w := w) (h.block p.block hp hn)
end

/-- Block g is just these cells, of element type t, none frozen. -/
def Bk (w : World) (g t : Nat) (cs : List Value) : Prop := w.heap[g]? = some (.cells cs.toArray t (0, 0))
section
variable {w w' : World} {g t : Nat} {cs : List Value} {S : List Nat}
theorem Bk.lt (h : Bk w g t cs) : g < w.heap.size := by
  rcases Nat.lt_or_ge g w.heap.size with hlt | hge
  · exact hlt
  · unfold Bk at h; rw [Array.getElem?_eq_none hge] at h; cases h
theorem Bk.cell (h : Bk w g t cs) (i : Nat) : w.cell? ⟨g, i, none⟩ = cs[i]? := by
  rw [cell_of_row w g i _ t (0, 0) h]; simp
theorem Bk.frozen (h : Bk w g t cs) (i : Nat) : w.frozen? ⟨g, i, none⟩ = false := by
  unfold Bk at h; simp [World.frozen?, h]
theorem Bk.new (w : World) (t : Nat) (cs : List Value) : Bk (w.alloc (.cells cs.toArray t)) w.heap.size t cs := heap_alloc_new w _
theorem Bk.new' (w : World) (t : Nat) (cs : Array Value) : Bk (w.alloc (.cells cs t)) w.heap.size t cs.toList := by
  unfold Bk; rw [Array.toArray_toList]; exact heap_alloc_new w _
theorem Bk.newAt {w : World} {g : Nat} (hg : g = w.heap.size) (t : Nat) (cs : Array Value) : Bk (w.alloc (.cells cs t)) g t cs.toList := hg ▸ Bk.new' w t cs
theorem Bk.drewN (h : Bk w g t cs) (n : Nat) : Bk (w.drewN n) g t cs := h
theorem Bk.drew (h : Bk w g t cs) : Bk w.drew g t cs := h
theorem Bk.alloc (h : Bk w g t cs) (o : Obj) : Bk (w.alloc o) g t cs := (Below.heap_alloc w o g h.lt).trans h
theorem Bk.set_ (h : Bk w g t cs) (i : Nat) (u : Value) : Bk (w.setCell ⟨g, i, none⟩ u) g t (cs.set i u) := by
  unfold Bk at h ⊢
  simp [World.setCell, Array.getElem?_modify, h]
theorem Bk.far (h : Bk w g t cs) {p : Addr} (hp : g ≠ p.block) (u : Value) : Bk (w.setCell p u) g t cs := (Below.heap_setCell w p u g hp).trans h
theorem Bk.row (h : Bk w g t cs) (cs' : Array Value) : Bk (w.setRow g cs') g t cs'.toList := by
  unfold Bk at h ⊢; rw [Array.toArray_toList]; exact setRow_heap w g _ _ _ _ h
theorem Bk.farRow (h : Bk w g t cs) {g' : Nat} (hp : g ≠ g') (cs' : Array Value) : Bk (w.setRow g' cs') g t cs := (setRow_other w g' g cs' hp).trans h
theorem Bk.kp (h : Bk w g t cs) (hk : Kp S w w') (hn : g ∉ S) : Bk w' g t cs := (hk.block g h.lt hn).trans h
theorem Bk.below {B : Nat} (h : Bk w g t cs) (hb : Below B w w') (hg : g < B) : Bk w' g t cs := (hb.block g hg).trans h
theorem Bk.cast (h : Bk w g t cs) {cs' : List Value} (e : cs = cs') : Bk w g t cs' := e ▸ h
theorem Bk.ne_ {g' t' : Nat} {cs' : List Value} (h : Bk w g t cs) (h' : Bk w g' t' cs') (hne : t ≠ t') : g ≠ g' := by
  rintro rfl
  unfold Bk at h h'
  rw [h] at h'
  injection h' with h'
  injection h' with _ ht
  exact hne ht
end

/-- A slice at address A whose cells read xs; its block is none of N. -/
def Rd (w : World) (N : List Nat) (A : Option Addr) (xs : List Value) : Prop :=
  xs ≠ [] → ∃ b off, A = some ⟨b, off, none⟩ ∧ b ∉ N ∧ b < w.heap.size ∧ ∀ j u, xs[j]? = some u → w.cell? ⟨b, off + j, none⟩ = some u
section
variable {w w' : World} {N N' S : List Nat} {A : Option Addr} {xs : List Value}
theorem Rd.nil : Rd w N A [] := fun h => absurd rfl h
theorem Rd.kp (h : Rd w N A xs) (hk : Kp S w w') (hs : ∀ s ∈ S, s ∈ N ∨ w.heap.size ≤ s) : Rd w' N A xs := fun hx => by
  obtain ⟨b, off, rfl, hn, hb, hc⟩ := h hx
  refine ⟨b, off, rfl, hn, Nat.lt_of_lt_of_le hb hk.size, fun j u hu => ?_⟩
  rw [hk.cell (p := ⟨b, off + j, none⟩) hb (fun hm => (hs b hm).elim hn (fun e => by omega))]
  exact hc j u hu
theorem Rd.below (h : Rd w N A xs) (hk : Below w.heap.size w w') : Rd w' N A xs := h.kp (S := []) (Kp.of_below hk) (by simp)
theorem Rd.sub (h : Rd w N A xs) (hs : ∀ s ∈ N', s ∈ N) : Rd w N' A xs := fun hx => by
  obtain ⟨b, off, rfl, hn, rest⟩ := h hx
  exact ⟨b, off, rfl, fun hm => hn (hs b hm), rest⟩
theorem Rd.drop (h : Rd w N A xs) (k : Nat) (hk : k < xs.length) : Rd w N (A.map (·.add k)) (xs.drop k) := fun _ => by
  obtain ⟨b, off, rfl, hn, hb, hc⟩ := h (by intro e; simp [e] at hk)
  have e : (⟨b, off, none⟩ : Addr).add k = ⟨b, off + k, none⟩ := by unfold Addr.add; split <;> simp_all
  refine ⟨b, off + k, by rw [Option.map_some, e], hn, hb, fun j u hu => ?_⟩
  rw [Nat.add_assoc]
  exact hc _ u (by rw [← hu, List.getElem?_drop])
theorem Rd.take (h : Rd w N A xs) (k : Nat) : Rd w N A (xs.take k) := fun hx => by
  obtain ⟨b, off, rfl, hn, hb, hc⟩ := h (by rintro rfl; simp at hx)
  refine ⟨b, off, rfl, hn, hb, fun j u hu => hc j u ?_⟩
  rw [List.getElem?_take] at hu
  split at hu
  · exact hu
  · cases hu
theorem Rd.of_bk {g t : Nat} {cs : List Value} (h : Bk w g t cs) (hn : g ∉ N) : Rd w N (some ⟨g, 0, none⟩) cs := fun _ =>
  ⟨g, 0, rfl, hn, h.lt, fun j u hu => by rw [Nat.zero_add, h.cell, hu]⟩
theorem Rd.of_bk_at {g t o : Nat} {cs : List Value} (h : Bk w g t cs) (hn : g ∉ N) : Rd w N (some ⟨g, o, none⟩) (cs.drop o) := fun _ =>
  ⟨g, o, rfl, hn, h.lt, fun j u hu => by rw [h.cell, ← List.getElem?_drop, hu]⟩
/-- What append and copy ask of a source. -/
theorem Rd.src (h : Rd w N A xs) (hx : xs ≠ []) : ∃ ad, A = some ad ∧ ∀ j u, xs[j]? = some u → w.cell? (ad.add j) = some u := by
  obtain ⟨b, off, rfl, _, _, hc⟩ := h hx
  refine ⟨_, rfl, fun j u hu => ?_⟩
  have e : (⟨b, off, none⟩ : Addr).add j = ⟨b, off + j, none⟩ := by unfold Addr.add; split <;> simp_all
  rw [e]; exact hc j u hu
end

/-! ### rows of equal pieces -/
section
variable {α : Type} {F : α → List Value} {K : Nat}
theorem flat_len (hF : ∀ x, (F x).length = K) (l : List α) : (l.flatMap F).length = l.length * K := by
  induction l with
  | nil => simp
  | cons x l ih => simp [List.flatMap_cons, hF, ih, Nat.add_mul, Nat.add_comm]
theorem flat_get (hF : ∀ x, (F x).length = K) {l : List α} {i : Nat} {x : α} (hx : l[i]? = some x) {j : Nat} (hj : j < K) : (l.flatMap F)[i * K + j]? = (F x)[j]? := by
  induction l generalizing i with
  | nil => simp at hx
  | cons y l ih =>
    rw [List.flatMap_cons]
    cases i with
    | zero => simp at hx; subst hx; rw [List.getElem?_append_left (by rw [hF]; omega)]; simp
    | succ i =>
      have h1 : (i + 1) * K + j = K + (i * K + j) := by rw [Nat.add_mul]; omega
      rw [List.getElem?_append_right (by rw [hF, h1]; omega), hF, h1, Nat.add_sub_cancel_left]
      exact ih (by simpa using hx)
theorem flat_splice (hF : ∀ x, (F x).length = K) {l : List α} {i : Nat} {x x' : α} (hx : l[i]? = some x) {o : Nat} {cs : List Value} (ho : o + cs.length ≤ K)
    (hx' : F x' = (F x).take o ++ cs ++ (F x).drop (o + cs.length)) :
    (l.flatMap F).take (i * K + o) ++ cs ++ (l.flatMap F).drop (i * K + o + cs.length) = (l.set i x').flatMap F := by
  induction l generalizing i with
  | nil => simp at hx
  | cons y l ih =>
    cases i with
    | zero =>
      simp at hx; subst hx
      have hl := hF y
      simp only [Nat.zero_mul, Nat.zero_add, List.flatMap_cons, List.set_cons_zero, hx', List.append_assoc]
      rw [List.take_append_of_le_length (by omega), List.drop_append_of_le_length (by omega)]
    | succ i =>
      have ih' := ih (i := i) (by simpa using hx)
      have h1 : (i + 1) * K + o = K + (i * K + o) := by rw [Nat.add_mul]; omega
      simp only [List.flatMap_cons, List.set_cons_succ]
      rw [h1, ← ih', Nat.add_assoc K, List.drop_append, List.take_append, hF, Nat.add_sub_cancel_left, Nat.add_sub_cancel_left]
      rw [List.take_of_length_le (by rw [hF]; omega), List.drop_of_length_le (by rw [hF]; omega)]
      simp [Nat.add_assoc]
theorem set_eq_splice {β : Type} (l : List β) (i : Nat) (v : β) (hi : i < l.length) : l.set i v = l.take i ++ [v] ++ l.drop (i + 1) := by
  rw [List.set_eq_take_append_cons_drop, if_pos hi]; simp
theorem flat_set (hF : ∀ x, (F x).length = K) {l : List α} {i : Nat} {x x' : α} (hx : l[i]? = some x) {j : Nat} {v : Value} (hj : j < K)
    (hx' : F x' = (F x).set j v) : (l.flatMap F).set (i * K + j) v = (l.set i x').flatMap F := by
  have hi : i < l.length := by
    rcases Nat.lt_or_ge i l.length with h | h
    · exact h
    · rw [List.getElem?_eq_none h] at hx; cases hx
  have h := flat_splice hF hx (o := j) (cs := [v]) (x' := x') (by simp; omega) (by rw [hx', set_eq_splice _ _ _ (by rw [hF]; exact hj)]; rfl)
  rw [← h, set_eq_splice _ _ _ (by rw [flat_len hF]; have := Nat.mul_le_mul_right K (Nat.succ_le_of_lt hi); rw [Nat.succ_mul] at this; omega)]
  rfl
end

section
variable {P : Program} {w : World} {g tt : Nat} {cs : List Value}
/-- A whole struct or array stored into a block that is known. -/
theorem run_storeVar_bk (h : Bk w g tt cs) (t o : Nat) (vs : Array Value) (hs : (P.info? t).map (·.size) = some vs.size) (hfit : o + vs.size ≤ cs.length) (h1 : ∀ v ∈ vs.toList, v.oneCell' = true) :
    (storeVar t ⟨g, o, none⟩ (.agg vs)).run P w = .ok () (w.setRow g (cs.take o ++ vs.toList ++ cs.drop (o + vs.size)).toArray) := by
  have hst := run_storeCells_at P g o tt vs.toList 0 cs.toArray w h (by simpa using hfit) h1
  cases hq : P.info? t with
  | none => simp [hq] at hs
  | some i =>
    have hi : vs.size = i.size := by simpa [hq] using hs.symm
    simp only [Nat.add_zero, Array.length_toList] at hst
    simp [storeVar, Value.cells, sizeOf, typeInfo, hq, hi, hst]
theorem run_storeCells_bk (h : Bk w g tt cs) (o : Nat) (vs : List Value) (hfit : o + vs.length ≤ cs.length) (h1 : ∀ v ∈ vs, v.oneCell' = true) :
    (storeCells ⟨g, o, none⟩ vs 0).run P w = .ok () (w.setRow g (cs.take o ++ vs ++ cs.drop (o + vs.length)).toArray) := by
  have hst := run_storeCells_at P g o tt vs 0 cs.toArray w h (by simpa using hfit) h1
  simpa using hst
/-- p.b[l:h] of an array of one-cell elements behind a pointer. -/
theorem run_sliceAt_any {t e L : Nat} (ht : P.underlying t = some (.array L e)) (hs : (P.info? e).map (·.size) = some 1) (b o : Nat) (kl kh : IntKind) (l h : Int) (h0 : 0 ≤ l) (h1 : l ≤ h) (h2 : h ≤ L) :
    ∃ o', (∀ W, (Instr.sliceAt t (.pointer (some ⟨b, o, none⟩)) (some (.int kl l)) (some (.int kh h)) none).run P W = .ok (.slice (some ⟨b, o', none⟩) (h - l).toNat (L - l.toNat)) W) ∧ (o' = o + l.toNat ∨ l = L ∧ o' = o) := by
  have el : P.elem t = e := by simp [Program.elem, ht]
  have al : P.arrayLen t = L := by simp [Program.arrayLen, ht]
  have hr := fun W => run_sliceAt_array_lh (P := P) W t ⟨b, o, none⟩ (by rw [el, al]; exact ht) kl kh l h h0 h1 (by rw [al]; exact h2)
  cases hq : P.info? e with
  | none => simp [hq] at hs
  | some i =>
    have hi : i.size = 1 := by simpa [hq] using hs
    have ez : ∀ W, (sizeOf e).run P W = .ok 1 W := by intro W; simp [sizeOf, typeInfo, hq, hi]
    have en : h.toNat - l.toNat = (h - l).toNat := by omega
    by_cases hl : L = l.toNat
    · refine ⟨o, fun W => ?_, .inr ⟨by omega, rfl⟩⟩
      rw [hr, el, al, ez]
      simp [slicedAt, hl, en]
    · refine ⟨o + l.toNat, fun W => ?_, .inl rfl⟩
      rw [hr, el, al, ez]
      simp [slicedAt, hl, en, Addr.add]
/-- p.b[l:]. -/
theorem run_sliceAt_lo {t e L : Nat} (ht : P.underlying t = some (.array L e)) (hs : (P.info? e).map (·.size) = some 1) (b o : Nat) (kl : IntKind) (l : Int) (h0 : 0 ≤ l) (h2 : l ≤ L) :
    ∃ o', (∀ W, (Instr.sliceAt t (.pointer (some ⟨b, o, none⟩)) (some (.int kl l)) none none).run P W = .ok (.slice (some ⟨b, o', none⟩) (L - l.toNat) (L - l.toNat)) W) ∧ (o' = o + l.toNat ∨ l = L ∧ o' = o) := by
  have el : P.elem t = e := by simp [Program.elem, ht]
  have al : P.arrayLen t = L := by simp [Program.arrayLen, ht]
  have hr := fun W => run_sliceAt_array_l (P := P) W t ⟨b, o, none⟩ (by rw [el, al]; exact ht) kl l h0 (by rw [al]; exact h2)
  cases hq : P.info? e with
  | none => simp [hq] at hs
  | some i =>
    have hi : i.size = 1 := by simpa [hq] using hs
    have ez : ∀ W, (sizeOf e).run P W = .ok 1 W := by intro W; simp [sizeOf, typeInfo, hq, hi]
    by_cases hl : L = l.toNat
    · refine ⟨o, fun W => ?_, .inr ⟨by omega, rfl⟩⟩
      rw [hr, el, al, ez]
      simp [slicedAt, hl]
    · refine ⟨o + l.toNat, fun W => ?_, .inl rfl⟩
      rw [hr, el, al, ez]
      simp [slicedAt, hl, Addr.add]
/-- copy of m cells into a block that is known. -/
theorem run_copy_bk (h : Bk w g tt cs) (t ty e : Nat) (o dLen dCap m c2 : Nat) (A2 : Option Addr) (news : List Value) {N : List Nat} (hr : Rd w N A2 news) (hl : news.length = m)
    (hu : P.underlying t = some (.slice e)) (hs : (P.info? e).map (·.size) = some 1) (hmd : m ≤ dLen) (hfit : o + m ≤ cs.length) (h1 : ∀ v ∈ news, v.oneCell' = true) (h0 : A2 = none → m = 0 ∧ c2 = 0) :
    (Builtin.copy_ #[t, t] ty #[.slice (some ⟨g, o, none⟩) dLen dCap, .slice A2 m c2]).run P w = .ok (goInt m) (w.setRow g (cs.take o ++ news ++ cs.drop (o + m)).toArray) := by
  have key : ∀ a : Addr, (∀ j v, news[j]? = some v → w.cell? (a.add j) = some v) → (Builtin.copy_ #[t, t] ty #[.slice (some ⟨g, o, none⟩) dLen dCap, .slice (some a) m c2]).run P w = .ok (goInt m) (w.setRow g (cs.take o ++ news ++ cs.drop (o + m)).toArray) := by
    intro a ha
    have hc := run_copy_row P w t t ty e g o dLen dCap a m c2 cs.toArray tt news hu hs h (by rw [hl]; exact (Nat.min_eq_left hmd).symm) ha (by simpa [hl] using hfit) h1
    simpa [hl] using hc
  by_cases hx : news = []
  · subst hx
    simp at hl; subst hl
    rcases A2 with _ | a
    · obtain ⟨_, rfl⟩ := h0 rfl
      have hc := run_copy_nil P w t t ty e ⟨g, o, none⟩ dLen dCap hu (by rw [hs]; rfl)
      rw [hc]
      simp only [List.append_nil, Nat.add_zero, List.take_append_drop]
      rw [setRow_self w g _ tt (0, 0) h]
      rfl
    · exact key a (by intro j v hv; simp at hv)
  · obtain ⟨a, rfl, hc⟩ := hr.src hx
    exact key a hc
end

/-! ### slices of the call's own -/
/-- The blocks under a slice's address. -/
def bks : Option Addr → List Nat
  | some a => [a.block]
  | none => []
/-- The slice A, n, c of elements of type e (sz cells each) has its whole row from the head of a block; its n elements read xs. -/
def Ow (w : World) (e sz : Nat) (A : Option Addr) (n c : Nat) (xs : List Value) : Prop := w.ownsRow 0 e sz (.slice A n c) n xs
section
variable {w w' : World} {e sz n c : Nat} {A : Option Addr} {xs : List Value} {S N : List Nat}
theorem Ow.nil : Ow w e sz none 0 0 [] := World.ownsRow_nil w 0 e sz
theorem Ow.len (h : Ow w e sz A n c xs) : xs.length = n * sz := h.1
theorem Ow.lt (h : Ow w e sz A n c xs) : ∀ b ∈ bks A, b < w.heap.size := by
  intro b hb
  rcases A with _ | ad
  · cases hb
  · simp only [bks, List.mem_singleton] at hb
    exact (World.ownsRow.lt h b (by simp [Value.ownBlock, hb])).2
theorem Ow.kp (h : Ow w e sz A n c xs) (hk : Kp S w w') (hs : ∀ b ∈ bks A, b ∉ S) : Ow w' e sz A n c xs := by
  refine ⟨h.1, ?_⟩
  rcases h.2 with hn | ⟨g, cap, cur, hv, hb, hg, rest⟩
  · exact .inl hn
  · refine .inr ⟨g, cap, cur, hv, hb, ?_, rest⟩
    rw [hk.block g (Array.getElem?_eq_some_iff.1 hg).1 ?_]
    · exact hg
    · injection hv with hA; subst hA; exact hs g (by simp [bks])
theorem Ow.rd (h : Ow w e sz A n c xs) (hn : ∀ b ∈ bks A, b ∉ N) : Rd w N A xs := fun hx => by
  rcases h.2 with ⟨_, h0⟩ | ⟨g, cap, cur, hv, hb, hg, _⟩
  · have := h.1; subst h0; simp at this; exact absurd this hx
  · injection hv with hA; subst hA
    refine ⟨g, 0, rfl, hn g (by simp [bks]), (Array.getElem?_eq_some_iff.1 hg).1, fun j u hu => ?_⟩
    have := World.ownsRow.cells h (g := g) (by simp [Value.ownBlock]) j u hu
    have e : (⟨g, 0, none⟩ : Addr).add j = ⟨g, 0 + j, none⟩ := by unfold Addr.add; split <;> simp_all
    rwa [e] at this
theorem Ow.drewN (h : Ow w e sz A n c xs) (k : Nat) : Ow (w.drewN k) e sz A n c xs := h
theorem Ow.drew (h : Ow w e sz A n c xs) : Ow w.drew e sz A n c xs := h
theorem Ow.alloc (h : Ow w e sz A n c xs) (o : Obj) : Ow (w.alloc o) e sz A n c xs := World.ownsRow.alloc h o
/-- Its block, where there is one. -/
theorem Ow.form (h : Ow w e sz A n c xs) (hn : 0 < n) : ∃ g, A = some ⟨g, 0, none⟩ ∧ g < w.heap.size := by
  rcases h.2 with ⟨_, h0⟩ | ⟨g, cap, cur, hv, hb, hg, _⟩
  · omega
  · injection hv with hA; exact ⟨g, hA, (Array.getElem?_eq_some_iff.1 hg).1⟩
theorem Ow.cast (h : Ow w e sz A n c xs) {n' : Nat} {xs' : List Value} (hn : n = n') (hx : xs = xs') : Ow w e sz A n' c xs' := by subst hn; subst hx; exact h
/-- A literal row, just made. -/
theorem Ow.lit (w : World) (e sz : Nat) (cs : Array Value) (n : Nat) (hm : n ≤ maxLen) (hs : cs.size = n * sz) : Ow (w.alloc (.cells cs e)) e sz (some ⟨w.heap.size, 0, none⟩) n n cs.toList :=
  World.ownsRow_lit w cs n (Nat.zero_le _) hm hs
end

/-- What the program's tables say of a slice type t of elements e: their zero value, their cells, their bytes. -/
def Elt (P : Program) (t e : Nat) (z : Value) (sz by_ : Nat) : Prop :=
  P.underlying t = some (.slice e) ∧ (P.info? e).map (fun i => (i.zero, i.size, i.bytes)) = some (some z, sz, by_) ∧ z.cells.size = sz ∧ 0 < sz ∧ by_ ≤ 4096

section
variable {P : Program} (w : World)
theorem run_append_src_nil {t ty e : Nat} {z : Value} {sz by_ : Nat} (hE : Elt P t e z sz by_) (A : Option Addr) (n c c2 : Nat) (xs : List Value) (hown : Ow w e sz A n c xs) :
    (Builtin.append_ #[t, t] ty #[.slice A n c, .slice none 0 c2]).run P w = .ok (.slice A n c) w := by
  obtain ⟨ht, hi, _⟩ := hE
  obtain ⟨i, hi, hz, hs, hb⟩ := info_parts hi
  rcases hown.2 with ⟨hv, rfl⟩ | ⟨g, cap, cur, hv, _, _, hnc, _⟩
  · injection hv with hA hn hc; subst hA; subst hc
    simp [Builtin.append_, run_underlying ht, sizeOf, typeInfo, hi, Builtin.lenOf, Builtin.firstCells]
  · injection hv with hA hn hc; subst hA; subst hc
    simp [Builtin.append_, run_underlying ht, sizeOf, typeInfo, hi, Builtin.lenOf, Builtin.firstCells, hnc, storeCells]
theorem run_app {t ty e : Nat} {z : Value} {sz by_ : Nat} (hE : Elt P t e z sz by_) (A : Option Addr) (n c : Nat) (xs : List Value) (hown : Ow w e sz A n c xs)
    (N : List Nat) (A2 : Option Addr) (m c2 : Nat) (news : List Value) (hr : Rd w N A2 news) (hl : news.length = m * sz) (h1 : ∀ u ∈ news, u.oneCell' = true) (hb : n + m ≤ 4294967296) :
    ∃ A' c' w', (Builtin.append_ #[t, t] ty #[.slice A n c, .slice A2 m c2]).run P w = .ok (.slice A' (n + m) c') w' ∧ Ow w' e sz A' (n + m) c' (xs ++ news) ∧ Kp (bks A) w w' ∧
      (A' = A ∨ A' = some ⟨w.heap.size, 0, none⟩) := by
  have hE' := hE
  obtain ⟨ht, hi, hzs, hsz, hby⟩ := hE
  obtain ⟨i, hi, hz, hs, hby'⟩ := info_parts hi
  have h63 : n + m ≤ maxLen := by simp only [maxLen]; omega
  have hbytes : (n + m) * by_ ≤ 140737488355328 := Nat.le_trans (Nat.mul_le_mul hb hby) (by decide)
  have key : ∀ ad, (∀ j u, news[j]? = some u → w.cell? (ad.add j) = some u) → ∃ A' c' w', (Builtin.append_ #[t, t] ty #[.slice A n c, .slice (some ad) m c2]).run P w = .ok (.slice A' (n + m) c') w' ∧ Ow w' e sz A' (n + m) c' (xs ++ news) ∧ Kp (bks A) w w' ∧
      (A' = A ∨ A' = some ⟨w.heap.size, 0, none⟩) := by
    intro ad hc
    obtain ⟨v', w', hrun, h2, h3, _, h5⟩ := run_append_own_at (P := P) w 0 t ty e i z sz by_ ht hi hz hs hby' hzs hsz (.slice A n c) n xs hown ad m c2 news hl hc h1 h63 hbytes (Nat.zero_le _)
    have hk : Kp (bks A) w w' := (Kp.refl _ w).grown h3 (by
      intro k hk
      rcases A with _ | ad'
      · simp [Value.ownBlock] at hk
      · simp [Value.ownBlock] at hk; subst hk; exact .inl (by simp [bks]))
    rcases h2.2 with ⟨rfl, h0⟩ | ⟨g, cap, cur, rfl, hb', hg, hnc, hcm, hcs, htk⟩
    · have hA : A = none := by
        rcases A with _ | ad'
        · rfl
        · rcases h5 with h5 | h5 <;> simp [Value.ownBlock] at h5
      subst hA
      exact ⟨none, 0, w', by rw [hrun, h0], by unfold Ow; rw [h0] at h2 ⊢; exact h2, hk, .inl rfl⟩
    · refine ⟨some ⟨g, 0, none⟩, cap, w', hrun, h2, hk, ?_⟩
      rcases h5 with h5 | h5
      · left
        rcases hown.2 with ⟨hv, _⟩ | ⟨g', _, _, hv, _⟩
        · injection hv with hA; subst hA; simp [Value.ownBlock] at h5
        · injection hv with hA; subst hA; simp [Value.ownBlock] at h5; rw [h5]
      · right; simp [Value.ownBlock] at h5; rw [h5]
  by_cases hx : news = []
  · subst hx
    have hm : m = 0 := by
      rcases Nat.eq_zero_or_pos m with h | h
      · exact h
      · have := Nat.mul_pos h hsz; simp at hl; omega
    subst hm
    rcases A2 with _ | ad
    · exact ⟨A, c, w, run_append_src_nil w hE' A n c c2 xs hown, by simpa using hown, Kp.refl _ w, .inl rfl⟩
    · exact key ad (by intro j u hu; simp at hu)
  · obtain ⟨ad, rfl, hc⟩ := hr.src hx
    exact key ad hc
theorem wp_app {o : Oper} {a : Act} {K : Act → World → Prop} {Q : Exit → Act → World → Prop} (s x : Operand) (t : Nat)
    (ho : o.op = .call { callee := .builtin .append, args := #[s, x], argTypes := #[t, t] })
    {e : Nat} {z : Value} {sz by_ : Nat} (hE : Elt P t e z sz by_) (A : Option Addr) (n c : Nat) (xs : List Value) (hs : a.eval s = .slice A n c) (hown : Ow w e sz A n c xs)
    (N : List Nat) (A2 : Option Addr) (m c2 : Nat) (news : List Value) (hx : a.eval x = .slice A2 m c2) (hr : Rd w N A2 news) (hl : news.length = m * sz) (h1 : ∀ u ∈ news, u.oneCell' = true) (hb : n + m ≤ 4294967296)
    (h : ∀ A' c' w', Ow w' e sz A' (n + m) c' (xs ++ news) → Kp (bks A) w w' → (A' = A ∨ A' = some ⟨w.heap.size, 0, none⟩) → K (a.put o.dst (.slice A' (n + m) c')) w') : o.wp P a w K Q := by
  obtain ⟨A', c', w', hrun, h2, h3, h4⟩ := run_app (P := P) w (ty := o.type) hE A n c xs hown N A2 m c2 news hr hl h1 hb
  unfold Oper.wp execOp
  simp only [ho, resolve, invoke, builtin, Sem.run_bind, Sem.run_pure, Result.andThen_ok, List.map_toArray, List.map_cons, List.map_nil, hs, hx, hrun]
  exact h A' c' w' h2 h3 h4
/-- append onto a slice of the call's own; the source nil, empty or not. -/
theorem wpList_app {ops : Array Oper} {rest : List Oper} {o : Oper} {a : Act} {Q : Exit → Act → World → Prop} (hgd : o.guard = none) (s x : Operand) (t : Nat)
    (ho : o.op = .call { callee := .builtin .append, args := #[s, x], argTypes := #[t, t] })
    {e : Nat} {z : Value} {sz by_ : Nat} (hE : Elt P t e z sz by_) (A : Option Addr) (n c : Nat) (xs : List Value) (hs : a.eval s = .slice A n c) (hown : Ow w e sz A n c xs)
    (N : List Nat) (A2 : Option Addr) (m c2 : Nat) (news : List Value) (hx : a.eval x = .slice A2 m c2) (hr : Rd w N A2 news) (hl : news.length = m * sz) (h1 : ∀ u ∈ news, u.oneCell' = true) (hb : n + m ≤ 4294967296)
    (h : ∀ A' c' w', Ow w' e sz A' (n + m) c' (xs ++ news) → Kp (bks A) w w' → (A' = A ∨ A' = some ⟨w.heap.size, 0, none⟩) → wpList P ops Q rest (a.put o.dst (.slice A' (n + m) c')) w') : wpList P ops Q (o :: rest) a w :=
  wpList_plain hgd fun _ hK => wp_app w s x t ho hE A n c xs hs hown N A2 m c2 news hx hr hl h1 hb fun A' c' w' h2 h3 h4 => hK _ _ (h A' c' w' h2 h3 h4)
end

theorem rcast {R : Ending → World → Prop} {a b : Value} {w : World} (h : R (.returned a) w) (e : a = b) : R (.returned b) w := e ▸ h

theorem icast {a b : Int} (h : a = b) : Value.int .i64 a = .int .i64 b := by rw [h]
theorem ricast {R : Ending → World → Prop} {k : IntKind} {a b : Int} {w : World} (h : R (.returned (.int k a)) w) (e : a = b) : R (.returned (.int k b)) w := e ▸ h
theorem bks_app {A A2 : Option Addr} {B W : Nat} (h : A2 = A ∨ A2 = some ⟨W, 0, none⟩) (hA : ∀ b ∈ bks A, B ≤ b) (hB : B ≤ W) : ∀ b ∈ bks A2, B ≤ b := by
  rcases h with rfl | rfl
  · exact hA
  · intro b hb; simp [bks] at hb; omega
theorem flat_snoc {α : Type} {F : α → List Value} {l : List α} {k : Nat} {x : α} (hx : l[k]? = some x) : (l.take (k + 1)).flatMap F = (l.take k).flatMap F ++ F x := by
  have hk : k < l.length := (List.getElem?_eq_some_iff.1 hx).1
  have e : l[k] = x := (List.getElem?_eq_some_iff.1 hx).2
  rw [List.take_succ_eq_append_getElem hk, e]
  simp
/-- The k-th piece of a slice of pieces. -/
theorem rd_at {w : World} {N : List Nat} {A : Option Addr} {α : Type} {F : α → List Value} {K : Nat} {l : List α} (hr : Rd w N A (l.flatMap F)) (hF : ∀ x, (F x).length = K) (h0 : 0 < K) {k : Nat} {x : α} (hx : l[k]? = some x) :
    ∃ b off, A = some ⟨b, off, none⟩ ∧ b ∉ N ∧ b < w.heap.size ∧ ∀ j v, (F x)[j]? = some v → w.cell? ⟨b, off + k * K + j, none⟩ = some v := by
  have hk : k < l.length := (List.getElem?_eq_some_iff.1 hx).1
  obtain ⟨b, off, hA, hN, hb, hc⟩ := hr (by
    intro e
    have h := congrArg List.length e
    rw [flat_len hF] at h
    have := Nat.mul_pos (Nat.lt_of_le_of_lt (Nat.zero_le k) hk) h0
    simp at h
    omega)
  refine ⟨b, off, hA, hN, hb, fun j v hv => ?_⟩
  have hj : j < K := by rw [← hF x]; exact (List.getElem?_eq_some_iff.1 hv).1
  rw [Nat.add_assoc]
  exact hc _ v (by rw [flat_get hF hx hj]; exact hv)
/-- Bytes as cells. -/
def bts (l : List UInt8) : List Value := l.map fun c => .int .u8 c.toNat
theorem bts_len (l : List UInt8) : (bts l).length = l.length := by simp [bts]
theorem bts_get (l : List UInt8) (i : Nat) : (bts l)[i]? = (l[i]?).map fun c => .int .u8 c.toNat := by simp [bts]
theorem bts_append (a b : List UInt8) : bts (a ++ b) = bts a ++ bts b := by simp [bts]
theorem bts_one (l : List UInt8) : ∀ u ∈ bts l, u.oneCell' = true := by
  intro u hu; simp only [bts, List.mem_map] at hu; obtain ⟨c, _, rfl⟩ := hu; rfl
theorem bts_take (l : List UInt8) (k : Nat) : bts (l.take k) = (bts l).take k := by simp [bts]
theorem bts_drop (l : List UInt8) (k : Nat) : bts (l.drop k) = (bts l).drop k := by simp [bts]
end
/-! ### Strings as lists of bytes: the walk's words for a string that is written 'S l'. -/
section
open Go.RowKit
set_option linter.unusedVariables false

/-- The string of these bytes. -/
def S (l : List UInt8) : ByteArray := ⟨l.toArray⟩
theorem S_eta (s : ByteArray) : s = S s.data.toList := by cases s; simp [S]
@[go_sem] theorem S_size (l : List UInt8) : (S l).size = l.length := by simp [S, ByteArray.size]
@[go_sem] theorem S_data (l : List UInt8) : (S l).data.toList = l := by simp [S]
@[go_sem] theorem S_toList (l : List UInt8) : (S l).toList = l := by rw [ByteArray.toList_eq, S_data]
@[go_sem] theorem S_get (l : List UInt8) (i : Nat) (h : i < (S l).size) : (S l)[i]'h = l[i]'(by rwa [S_size] at h) := by
  show (S l).data[i]'_ = _
  simp [S]
@[go_sem] theorem S_extract (l : List UInt8) (a b : Nat) : (S l).extract a b = S ((l.take b).drop a) := by
  have h := ByteArray.extract_mk l a b
  unfold S
  rw [h, List.drop_take]
@[go_sem] theorem lit_extract (l : List UInt8) (a b : Nat) : (⟨l.toArray⟩ : ByteArray).extract a b = S ((l.take b).drop a) := S_extract l a b
@[go_sem] theorem S_append (a b : List UInt8) : S a ++ S b = S (a ++ b) := by
  have : (S a ++ S b).data.toList = a ++ b := by
    simp [S]
  rw [S_eta (S a ++ S b), this]
@[go_sem] theorem S_append_lit (a b : List UInt8) : S a ++ (⟨b.toArray⟩ : ByteArray) = S (a ++ b) := S_append a b
@[go_sem] theorem lit_append_S (a b : List UInt8) : (⟨a.toArray⟩ : ByteArray) ++ S b = S (a ++ b) := S_append a b
@[go_sem] theorem lit_get (l : List UInt8) (i : Nat) (h : i < (⟨l.toArray⟩ : ByteArray).size) : (⟨l.toArray⟩ : ByteArray)[i]'h = l[i]'(by simpa [ByteArray.size] using h) := S_get l i h
theorem u8_beq (x c : UInt8) : ((x.toNat : Int) == (c.toNat : Int)) = (x == c) := by
  rw [Bool.eq_iff_iff, beq_iff_eq, beq_iff_eq]
  exact ⟨fun h => UInt8.toNat_inj.1 (by omega), fun h => by rw [h]⟩
theorem u8_bne (x c : UInt8) : ((x.toNat : Int) != (c.toNat : Int)) = (x != c) := by
  unfold bne; rw [u8_beq]
theorem S_inj {a b : List UInt8} (h : S a = S b) : a = b := by rw [← S_data a, h, S_data]
end
/-! ### A law's arguments opened to lists; and the law's frame: what is left to show is one call that returns true and turns no old block. -/
section
open Go.ChangeShapes Go.WideShapes Go.ChangeAt Go.RowKit Go.Deep
set_option linter.unusedVariables false
set_option linter.unusedSimpArgs false

/-- Old data may be asked for in any later world of the call. -/
theorem Rd.to {w w' : World} {N N' S : List Nat} {A : Option Addr} {xs : List Value} (h : Rd w N A xs) (hk : Kp S w w') (hs : ∀ s ∈ S, s ∈ N ∨ w.heap.size ≤ s) (hn : ∀ s ∈ N', s ∈ N ∨ w.heap.size ≤ s) : Rd w' N' A xs := fun hx => by
  obtain ⟨b, off, rfl, hN, hb, hc⟩ := h hx
  refine ⟨b, off, rfl, fun hm => (hn b hm).elim hN (fun e => by omega), Nat.lt_of_lt_of_le hb hk.size, fun j u hu => ?_⟩
  rw [hk.cell (p := ⟨b, off + j, none⟩) hb (fun hm => (hs b hm).elim hN (fun e => by omega))]
  exact hc j u hu

section
variable {H : Type} {enc : TypeId × Value → H} {P : Program} {W : World}
/-- Whatever reads as type t is 'vals' of some a, and 'ok' holds of it. -/
structure Opn (enc : TypeId × Value → H) (P : Program) (W : World) (t : Nat) {α : Type} (vals : α → List Value) (ok : α → Prop) : Prop where
  op : ∀ fuel cs x, DataW.trod enc P W 0 (fun _ => true) true fuel t cs = some x → ∃ a, cs = vals a ∧ ok a
theorem opn_int {t : Nat} {k : IntKind} (ht : P.underlying t = some (.int k)) : Opn enc P W t (fun n => [.int k n]) (fun n => (Lit.int k n).wf = true) :=
  ⟨fun fuel cs x h => by obtain ⟨n, hc, _, hw⟩ := DataW.trod_int ht h; exact ⟨n, hc, hw⟩⟩
theorem opn_string {t : Nat} (ht : P.underlying t = some .string) : Opn enc P W t (fun s => [.string s]) (fun s => s.size ≤ maxLen) :=
  ⟨fun fuel cs x h => by obtain ⟨n, hc, _, hw⟩ := DataW.trod_string ht h; exact ⟨n, hc, hw⟩⟩
/-- A slice that came in. -/
structure Sin (α : Type) where
  A : Option Addr
  n : Nat
  c : Nat
  l : List α
def Sin.vals {α : Type} (s : Sin α) : List Value := [.slice s.A s.n s.c]
structure Sin.ok {α : Type} (W : World) (vals : α → List Value) (okE : α → Prop) (s : Sin α) : Prop where
  len : s.l.length = s.n
  cap : s.n ≤ s.c
  max : s.c ≤ maxLen
  all : ∀ a ∈ s.l, okE a
  rd : Rd W [] s.A (s.l.flatMap vals)
  nil : s.A = none → s.n = 0 ∧ s.c = 0
theorem opn_slice {t e K : Nat} {α : Type} {vals : α → List Value} {ok : α → Prop} (ht : P.underlying t = some (.slice e)) (hK : P.cellsOf e = K) (hv : ∀ a, (vals a).length = K) (he : Opn enc P W e vals ok) :
    Opn enc P W t (Sin.vals (α := α)) (Sin.ok W vals ok) := ⟨fun fuel cs x h => by
  rcases open_slice ht h with ⟨rfl, _⟩ | ⟨a, len, cap, m, n, D, Pl, rfl, _, hl, hm, hmm, _, hi⟩
  · exact ⟨⟨none, 0, 0, []⟩, rfl, rfl, Nat.le_refl _, Nat.zero_le _, by simp, Rd.nil, fun _ => ⟨rfl, rfl⟩⟩
  · simp only [if_true] at hmm
    subst hmm
    have hex : ∀ i, i < len → ∃ y, ok y ∧ ∀ j, j < K → W.cell? ((a.add (i * K)).add j) = (vals y)[j]? := by
      intro i hil
      obtain ⟨cs', hc, htr⟩ := hi i (by omega)
      obtain ⟨y, rfl, hy⟩ := he.op _ _ _ htr
      obtain ⟨_, hcl, hat⟩ := World.cells?_some hc
      rw [hK] at hat
      exact ⟨y, hy, hat⟩
    have hlist : ∀ k, k ≤ len → ∃ l : List α, l.length = k ∧ ∀ i y, l[i]? = some y → ok y ∧ ∀ j, j < K → W.cell? ((a.add (i * K)).add j) = (vals y)[j]? := by
      intro k
      induction k with
      | zero => intro _; exact ⟨[], rfl, by simp⟩
      | succ k ih =>
        intro hk
        obtain ⟨l, hl', hl2⟩ := ih (by omega)
        obtain ⟨y, hy, hc⟩ := hex k (by omega)
        refine ⟨l ++ [y], by simp [hl'], fun i z hz => ?_⟩
        rcases Nat.lt_or_ge i l.length with h' | h'
        · rw [List.getElem?_append_left h'] at hz; exact hl2 i z hz
        · rw [List.getElem?_append_right h'] at hz
          have hil : i - l.length = 0 := by
            rcases Nat.eq_zero_or_pos (i - l.length) with e | e
            · exact e
            · rw [List.getElem?_eq_none (by simp; omega)] at hz; cases hz
          have hi' : i = k := by omega
          rw [hil] at hz
          simp at hz
          subst hz
          subst hi'
          exact ⟨hy, hc⟩
    obtain ⟨l, hll, hla⟩ := hlist len (Nat.le_refl _)
    refine ⟨⟨some a, len, _, l⟩, rfl, hll, hl, hm, ?_, ?_, fun h => by cases h⟩
    · intro y hy
      obtain ⟨i, hi'⟩ := List.getElem?_of_mem hy
      exact (hla i y hi').1
    · intro hne
      have hKp : 0 < K := by
        rcases Nat.eq_zero_or_pos K with h0 | h0
        · exfalso; apply hne
          apply List.eq_nil_of_length_eq_zero
          rw [flat_len hv, h0, Nat.mul_zero]
        · exact h0
      have hl0 : 0 < l.length := by
        cases l with
        | nil => exact absurd rfl hne
        | cons => simp
      have hcell : ∀ j u, (l.flatMap vals)[j]? = some u → W.cell? (a.add j) = some u := by
        intro j u hu
        have hj : j < l.length * K := by
          rcases Nat.lt_or_ge j (l.length * K) with h | h
          · exact h
          · rw [List.getElem?_eq_none (by rw [flat_len hv]; exact h)] at hu; cases hu
        have hq : j / K < l.length := Nat.div_lt_of_lt_mul (by rw [Nat.mul_comm]; exact hj)
        have hm' : j % K < K := Nat.mod_lt _ hKp
        have e : j / K * K + j % K = j := Nat.div_add_mod' j K
        have hx : l[j / K]? = some l[j / K] := List.getElem?_eq_getElem hq
        have h2 := (hla _ _ hx).2 _ hm'
        rw [← e, flat_get hv hx hm'] at hu
        rw [Go.Deep.add_add, e] at h2
        rw [h2]; exact hu
      obtain ⟨u0, hu0⟩ : ∃ u, (l.flatMap vals)[0]? = some u := ⟨_, List.getElem?_eq_getElem (by rw [flat_len hv]; exact Nat.mul_pos hl0 hKp)⟩
      have h0 := hcell 0 u0 hu0
      have ha0 : a.add 0 = a := rfl
      rw [ha0] at h0
      have hs : a.spot = none := by
        unfold World.cell? at h0
        split at h0
        · cases hsp : a.spot with
          | none => rfl
          | some _ => simp [hsp] at h0
        · cases h0
      obtain ⟨b, off, sp⟩ := a
      simp only at hs
      subst hs
      refine ⟨b, off, rfl, by simp, World.block_lt_of_cell? W _ h0, fun j u hu => ?_⟩
      have := hcell j u hu
      have e : (⟨b, off, none⟩ : Addr).add j = ⟨b, off + j, none⟩ := by unfold Addr.add; split <;> simp_all
      rwa [e] at this⟩
theorem top_slice {t e : Nat} {base : Nat} {α : Type} {ok : Sin α → Prop} (ht : P.underlying t = some (.slice e)) (O : Opn enc P W t (Sin.vals (α := α)) ok) {v : Value} {d : DataW H} {p : List MemPlace}
    (hv : Value.okWide P W .any base t v) (h : DataW.Trod enc P W 0 (fun _ => true) true t v d p) : ∃ s : Sin α, v = .slice s.A s.n s.c ∧ ok s := by
  obtain ⟨A, n, c, rfl⟩ := okWide_slice ht hv
  obtain ⟨fuel, hf⟩ := h
  obtain ⟨s, hs, hok⟩ := O.op _ _ _ hf
  exact ⟨s, by simpa [Sin.vals, Value.cells] using hs, hok⟩

/-- A field of one cell. -/
theorem fld {base n : Nat} {spare : Nat → Bool} {held : Bool} {fs : Array Field} {xs : List (DataW H × List MemPlace)} {cs : List Value}
    (hg : ∀ (i : Nat) (f : Field), fs[i]? = some f → DataW.trod enc P W base spare held n f.type ((cs.drop f.offset).take (P.cellsOf f.type)) = xs[i]?) (hxl : xs.length = fs.size)
    (i : Nat) {f : Field} (hf : fs[i]? = some f) (hc : P.cellsOf f.type = 1) {c : Value} (hcs : cs[f.offset]? = some c) : ∃ y, DataW.trod enc P W base spare held n f.type [c] = some y := by
  have h := hg i f hf
  have hi : i < xs.length := by rw [hxl]; exact (Array.getElem?_eq_some_iff.1 hf).1
  have e : (cs.drop f.offset).take 1 = [c] := by
    have hl : f.offset < cs.length := (List.getElem?_eq_some_iff.1 hcs).1
    have hv : cs[f.offset] = c := (List.getElem?_eq_some_iff.1 hcs).2
    rw [List.drop_eq_getElem_cons hl, hv]; rfl
  rw [hc, e, List.getElem?_eq_getElem hi] at h
  exact ⟨_, h⟩
theorem fld_int {base n : Nat} {spare : Nat → Bool} {held : Bool} {fs : Array Field} {xs : List (DataW H × List MemPlace)} {cs : List Value}
    (hg : ∀ (i : Nat) (f : Field), fs[i]? = some f → DataW.trod enc P W base spare held n f.type ((cs.drop f.offset).take (P.cellsOf f.type)) = xs[i]?) (hxl : xs.length = fs.size)
    (i : Nat) {f : Field} {k : IntKind} (hf : fs[i]? = some f) (hc : P.cellsOf f.type = 1) (ht : P.underlying f.type = some (.int k)) {c : Value} (hcs : cs[f.offset]? = some c) : ∃ m, c = .int k m ∧ (Lit.int k m).wf = true := by
  obtain ⟨y, hy⟩ := fld hg hxl i hf hc hcs
  obtain ⟨m, hm, _, hw⟩ := DataW.trod_int ht hy
  injection hm with hm
  exact ⟨m, hm, hw⟩
theorem fld_string {base n : Nat} {spare : Nat → Bool} {held : Bool} {fs : Array Field} {xs : List (DataW H × List MemPlace)} {cs : List Value}
    (hg : ∀ (i : Nat) (f : Field), fs[i]? = some f → DataW.trod enc P W base spare held n f.type ((cs.drop f.offset).take (P.cellsOf f.type)) = xs[i]?) (hxl : xs.length = fs.size)
    (i : Nat) {f : Field} (hf : fs[i]? = some f) (hc : P.cellsOf f.type = 1) (ht : P.underlying f.type = some .string) {c : Value} (hcs : cs[f.offset]? = some c) : ∃ s : ByteArray, c = .string s ∧ s.size ≤ maxLen := by
  obtain ⟨y, hy⟩ := fld hg hxl i hf hc hcs
  obtain ⟨m, hm, _, hw⟩ := DataW.trod_string ht hy
  injection hm with hm
  exact ⟨m, hm, hw⟩

/-- Readings stay where no old block has turned. -/
theorem trodAll_below (hl : laidOutB P = true) {W' : World} (hb : Below W.heap.size W W') : ∀ (ts : List TypeId) (vs : List Value) (ds : List (DataW H)) (ps : List MemPlace), (∀ t ∈ ts, P.readableRec t = true ∧ t < P.types.size) →
    (∀ x ∈ ps, x.block < W.heap.size) → DataW.TrodAll enc P W 0 (fun _ => true) true ts vs ds ps → DataW.TrodAll enc P W' 0 (fun b => decide (b < W.heap.size)) true ts vs ds ps := by
  intro ts
  induction ts with
  | nil =>
    intro vs ds ps _ _ h
    cases vs <;> cases ds <;> simp_all [DataW.TrodAll]
  | cons t ts ih =>
    intro vs ds ps hr hlt h
    obtain ⟨v, vs', d, ds', p, q, rfl, rfl, rfl, h1, h2⟩ := trodAll_cons h
    have hr1 := hr t (by simp)
    exact trodAll_cons_mk (Below.trod hl hr1.1 hr1.2 h1 hb (fun x hx => hlt x (by simp [hx]))) (ih _ _ _ (fun t' ht' => hr t' (by simp [ht'])) (fun x hx => hlt x (by simp [hx])) h2)
theorem law_post {f : Func} {s : ChangeSpec} {W' : World} {args : Array Value} {ds gs : List (DataW H)} {before : List MemPlace} {tb : Nat} (hl : laidOutB P = true) (hread : ∀ t ∈ f.params.toList, P.readableRec t = true ∧ t < P.types.size)
    (hr : f.resultTypes = #[tb]) (hu : P.underlying tb = some .bool) (hvs : s.vars = []) (hfn : (s.fn H (ds ++ gs)).results = [.lit (.bool true)]) (hfa : (s.fn H (ds ++ gs)).args = ds) (hfv : (s.fn H (ds ++ gs)).vars = [])
    (hW : DataW.Whole enc P f.params.toList s.vars false W args.toList ds gs before) (hb : Below W.heap.size W W') : s.post enc P f false true false false W args (.bool true) W' := by
  obtain ⟨p, q, hA, hV, he, hz, hn⟩ := hW
  rw [hvs] at hV
  obtain ⟨rfl, rfl⟩ := trodVars_none hV
  rw [List.append_nil] at he
  subst he
  have hWh : DataW.Whole enc P f.params.toList s.vars false W args.toList ds [] before := ⟨before, [], hA, by rw [hvs]; exact hV, by simp, hz, hn⟩
  have hlt : ∀ x ∈ before, x.block < W.heap.size := fun x hx => DataW.Whole.lt hWh x hx
  refine ⟨ds, [], before, [], before, [], ⟨before, [], hA, by rw [hvs]; exact hV, by simp, hz, hn⟩, ?_, ?_, ?_, ?_, fun h => by cases h⟩
  · rw [hfn, hr]
    exact trodAll_cons_mk (shut_bool hu true) trodAll_mk0
  · rw [hfa]
    exact trodAll_below hl hb _ _ _ _ hread hlt hA
  · rw [hfv, hvs]; rfl
  · exact World.keptBut_mono (fun x hx => ⟨hx, .inr (.inl hx)⟩) (hb.frame (· ∈ before))
end
/-- From what a law's walk gives to what its row asks. -/
theorem law_calls {f : FuncId} {args : Array Value} {w : World} (h : ∀ R : Ending → World → Prop, (∀ w', Kp [] w w' → R (.returned (.bool true)) w') → Calls Tryz.prog f args w R) :
    Calls Tryz.prog f args w fun e w' => e = .returned (.bool true) ∧ Below w.heap.size w w' := h _ fun _ hk => ⟨rfl, hk.below_nil⟩
end
/-! ### Package civil: years, months, the date of a second. -/
section
open Go.RowKit
set_option linter.unusedVariables false
set_option linter.unusedSimpArgs false
set_option maxRecDepth 100000

def leapB (y : Int) : Bool := decide (y % 4 = 0) && (!decide (y % 100 = 0) || decide (y % 400 = 0))
def oneI1 (b : Bool) : Int := if b then 1 else 0
def lenM (y m : Int) : Int := if m = 2 then 28 + oneI1 (leapB y) else if m = 4 ∨ m = 6 ∨ m = 9 ∨ m = 11 then 30 else 31
theorem leap_any {R : Ending → World → Prop} (y : Int) (w : World) (h0 : 0 ≤ y) (h1 : y ≤ 2000000) (h : R (.returned (.bool (leapB y))) w) : Calls Tryz.prog 144 #[.int .i64 y] w R := by
  have H := Lib.hid h
  clear h
  go_enter Tryz.func144, Tryz.ntmps144
  go_wp2
  all_goals (refine rcast H.out (congrArg Value.bool ?_); unfold leapB; rw [Bool.eq_iff_iff]; simp <;> omega)
theorem one_any {R : Ending → World → Prop} (b : Bool) (w : World) (h : R (.returned (.int .i64 (oneI1 b))) w) : Calls Tryz.prog 143 #[.bool b] w R := by
  have H := Lib.hid h
  clear h
  cases b
  all_goals
    go_enter Tryz.func143, Tryz.ntmps143
    go_wp2
    exact H.out
set_option maxHeartbeats 1000000 in
theorem length_any {R : Ending → World → Prop} (y m : Int) (w : World) (h0 : 0 ≤ y) (h1 : y ≤ 2000000) (m0 : 0 ≤ m) (m1 : m ≤ 100) (h : R (.returned (.int .i64 (lenM y m))) w) : Calls Tryz.prog 145 #[.int .i64 y, .int .i64 m] w R := by
  have H := Lib.hid h
  clear h
  have hb : oneI1 (leapB y) = 0 ∨ oneI1 (leapB y) = 1 := by unfold oneI1; split <;> simp
  obtain ⟨o, ho⟩ : ∃ o, oneI1 (leapB y) = o := ⟨_, rfl⟩
  have HO : Hid (lenM y m = if m = 2 then 28 + o else if m = 4 ∨ m = 6 ∨ m = 9 ∨ m = 11 then 30 else 31) := Lib.hid (by unfold lenM; rw [ho])
  have H1 : Hid (∀ (R : Ending → World → Prop) (w1 : World), R (.returned (.int .i64 o)) w1 → Calls Tryz.prog 143 #[.bool (leapB y)] w1 R) := Lib.hid (fun R w1 h => one_any _ w1 (by rw [ho]; exact h))
  rw [ho] at hb
  clear ho
  have o0 : 0 ≤ o := by omega
  have o1 : o ≤ 1 := by omega
  clear hb
  go_enter Tryz.func145, Tryz.ntmps145
  go_wp2_with (first | (go_at_call 144; (refine leap_any y _ h0 h1 ?_)) | (go_at_call 143; (refine H1.out _ _ ?_)))
  all_goals
    refine rcast H.out (congrArg (Value.int .i64) ?_)
    rw [HO.out]
    clear HO H H1
    simp_all
end
/-! ### Drawn regions whose callees write nowhere but in blocks of their own: the class of worlds that keep all there was. -/
section
open Go.RowKit
set_option linter.unusedVariables false

def KpX (w : World) : Type := {w' : World // Kp [] w w'}
instance (w : World) : Nonempty (KpX w) := ⟨⟨w, Kp.refl [] w⟩⟩
def kpw (w : World) (x : KpX w) : World := x.1
theorem kpw_kp (w : World) (x : KpX w) : Kp [] w (kpw w x) := x.2
@[go_sem] theorem kpw_cell {w : World} {x : KpX w} {p : Addr} (h : (w.cell? p).isSome = true) : (kpw w x).cell? p = w.cell? p := by
  obtain ⟨u, hu⟩ := Option.isSome_iff_exists.1 h
  exact (kpw_kp w x).cell (World.block_lt_of_cell? w p hu) (by simp)

theorem wp_region_kp {P : Program} {id : Nat} {Q : Exit → Act → World → Prop} {a : Act} {w : World} {l : List Oper} (hm : P.follows .mixedOrders = true) (hB : Region.lexB .any l.toArray = true)
    (h : wpQuiet P l.toArray (fun w' => ∃ x : KpX w, w' = kpw w x) (fun a' => ∀ w', Kp [] w w' → Q .normal a' w') l a) : (Code.region id l.toArray true).wp P Q a w :=
  wp_region_quiet (C := fun w' => ∃ x : KpX w, w' = kpw w x) hm hB ⟨⟨_, (Kp.refl [] w).drew⟩, rfl⟩ (by
    have e : (fun a' : Act => ∀ w', Kp [] w w' → Q .normal a' w') = (fun a' => ∀ w', (∃ x : KpX w, w' = kpw w x) → Q .normal a' w') := by
      funext a'; apply propext
      exact ⟨fun h w' ⟨x, hx⟩ => by rw [hx]; exact h _ x.2, fun h w' hw => h w' ⟨⟨w', hw⟩, rfl⟩⟩
    rw [← e]; simpa using h)
theorem kpx_mk {w w' : World} {x : KpX w} {v : Value} (h : Kp [] (kpw w x) w') : (Ending.returned v = Ending.returned v) ∧ ∃ y : KpX w, w' = kpw w y := ⟨rfl, ⟨w', (kpw_kp w x).trans h⟩, rfl⟩
end
/-! ### Package civil: the date of a second. -/
section
open Go.RowKit
set_option linter.unusedVariables false
set_option linter.unusedSimpArgs false
set_option maxRecDepth 100000

/-- Days ahead of a year, from the year 0 on. -/
def befY (y : Int) : Int := 365 * y + (y - 1) / 4 - (y - 1) / 100 + (y - 1) / 400
def yLen (y : Int) : Int := 365 + oneI1 (leapB y)
/-- Days of the months ahead. -/
def cumM (y : Int) : Nat → Int
  | 0 => 0
  | k + 1 => cumM y k + lenM y (k + 1)
theorem leap_01 (y : Int) : oneI1 (leapB y) = 0 ∨ oneI1 (leapB y) = 1 := by unfold oneI1; split <;> simp
theorem befY_succ (y : Int) : befY (y + 1) = befY y + yLen y := by
  unfold befY yLen oneI1 leapB
  by_cases h4 : y % 4 = 0 <;> by_cases h1 : y % 100 = 0 <;> by_cases h0 : y % 400 = 0 <;> simp [h4, h1, h0] <;> omega
theorem befY_400 (q : Int) : befY (1970 + q * 400) = befY 1970 + 146097 * q := by unfold befY; omega
theorem cumM_12 (y : Int) : cumM y 12 = yLen y := by
  unfold yLen
  simp only [cumM, lenM]
  simp
  omega
theorem lenM_pos (y m : Int) : 28 ≤ lenM y m ∧ lenM y m ≤ 31 := by
  have := leap_01 y
  unfold lenM
  split
  · omega
  · split <;> omega
theorem gen_worldC {P : Program} {c : Code} {Q : Exit → Act → World → Prop} {a : Act} {W : World} (Pr : World → Prop) (h : Pr W) (hk : ∀ W', Pr W' → Code.wp P c Q a W') : Code.wp P c Q a W := hk W h
theorem may_any {R : Ending → World → Prop} (n : Int) (w : World) (h0 : 0 ≤ n) (h1 : n ≤ 253402300799) (h : R (.returned (.bool true)) w) : Calls Tryz.prog 142 #[.int .i64 n] w R := by
  have H := Lib.hid h
  clear h
  go_enter Tryz.func142, Tryz.ntmps142
  go_wp2
  exact H.out
def dC (y m d h mi s wd : Int) : List Value := [.int .i64 y, .int .i64 m, .int .i64 d, .int .i64 h, .int .i64 mi, .int .i64 s, .int .i64 wd]
/-- The function's two structs. -/
structure CivS (w W : World) (g2 g6 : Nat) (y m d h mi s wd : Int) : Prop where
  kp : Kp [] w W
  hg : w.heap.size ≤ g2
  n6 : g2 < g6
  b2 : Bk W g2 180 (dC 0 0 0 0 0 0 0)
  b6 : Bk W g6 180 (dC y m d h mi s wd)
theorem CivS.setY {w W : World} {g2 g6 : Nat} {y m d h mi s wd : Int} (c : CivS w W g2 g6 y m d h mi s wd) (y' : Int) : CivS w (W.setCell ⟨g6, 0, none⟩ (.int .i64 y')) g2 g6 y' m d h mi s wd := by
  have h0 := c.hg; have h1 := c.n6
  exact ⟨c.kp.setCell (.inr (by simp; omega)) _, h0, h1, c.b2.far (by simp; omega) _, (c.b6.set_ 0 _).cast rfl⟩
theorem CivS.setM {w W : World} {g2 g6 : Nat} {y m d h mi s wd : Int} (c : CivS w W g2 g6 y m d h mi s wd) (m' : Int) : CivS w (W.setCell ⟨g6, 1, none⟩ (.int .i64 m')) g2 g6 y m' d h mi s wd := by
  have h0 := c.hg; have h1 := c.n6
  exact ⟨c.kp.setCell (.inr (by simp; omega)) _, h0, h1, c.b2.far (by simp; omega) _, (c.b6.set_ 1 _).cast rfl⟩
theorem CivS.setD {w W : World} {g2 g6 : Nat} {y m d h mi s wd : Int} (c : CivS w W g2 g6 y m d h mi s wd) (d' : Int) : CivS w (W.setCell ⟨g6, 2, none⟩ (.int .i64 d')) g2 g6 y m d' h mi s wd := by
  have h0 := c.hg; have h1 := c.n6
  exact ⟨c.kp.setCell (.inr (by simp; omega)) _, h0, h1, c.b2.far (by simp; omega) _, (c.b6.set_ 2 _).cast rfl⟩
theorem bk7 {w : World} {g tt : Nat} {a b c d e f k : Value} (h : Bk w g tt [a, b, c, d, e, f, k]) : (w.cell? ⟨g, 0, none⟩ = some a ∧ w.cell? ⟨g, 1, none⟩ = some b ∧ w.cell? ⟨g, 2, none⟩ = some c ∧ w.cell? ⟨g, 3, none⟩ = some d ∧ w.cell? ⟨g, 4, none⟩ = some e ∧ w.cell? ⟨g, 5, none⟩ = some f ∧ w.cell? ⟨g, 6, none⟩ = some k) ∧
    (w.frozen? ⟨g, 0, none⟩ = false ∧ w.frozen? ⟨g, 1, none⟩ = false ∧ w.frozen? ⟨g, 2, none⟩ = false ∧ w.frozen? ⟨g, 3, none⟩ = false ∧ w.frozen? ⟨g, 4, none⟩ = false ∧ w.frozen? ⟨g, 5, none⟩ = false ∧ w.frozen? ⟨g, 6, none⟩ = false) :=
  ⟨⟨h.cell 0, h.cell 1, h.cell 2, h.cell 3, h.cell 4, h.cell 5, h.cell 6⟩, h.frozen 0, h.frozen 1, h.frozen 2, h.frozen 3, h.frozen 4, h.frozen 5, h.frozen 6⟩
theorem CivS.fin {w W : World} {g2 g6 : Nat} {y m d h mi s wd : Int} (c : CivS w W g2 g6 y m d h mi s wd) :
    ∃ W', ((((((W.setCell ⟨g2, 0, none⟩ (.int .i64 y)).setCell ⟨g2, 1, none⟩ (.int .i64 m)).setCell ⟨g2, 2, none⟩ (.int .i64 d)).setCell ⟨g2, 3, none⟩ (.int .i64 h)).setCell ⟨g2, 4, none⟩ (.int .i64 mi)).setCell ⟨g2, 5, none⟩ (.int .i64 s)).setCell ⟨g2, 6, none⟩ (.int .i64 wd) = W' ∧ Kp [] w W' ∧ Bk W' g2 180 (dC y m d h mi s wd) := by
  have h0 := c.hg
  refine ⟨_, rfl, ((((((c.kp.setCell (.inr (by simp; omega)) _).setCell (.inr (by simp; omega)) _).setCell (.inr (by simp; omega)) _).setCell (.inr (by simp; omega)) _).setCell (.inr (by simp; omega)) _).setCell (.inr (by simp; omega)) _).setCell (.inr (by simp; omega)) _, ?_⟩
  exact (((((((c.b2.set_ 0 _).set_ 1 _).set_ 2 _).set_ 3 _).set_ 4 _).set_ 5 _).set_ 6 _).cast rfl
set_option maxHeartbeats 8000000 in
theorem cof_any {R : Ending → World → Prop} (n : Int) (w : World) (h0 : 0 ≤ n) (h1 : n ≤ 253402300799)
    (h : ∀ (Y : Int) (m : Nat) (d : Int), 1970 ≤ Y → Y ≤ 10400 → 1 ≤ m → m ≤ 12 → 0 ≤ d → d < lenM Y m → befY Y + cumM Y (m - 1) + d = befY 1970 + n / 86400 → ∀ w', Kp [] w w' →
      R (.returned (.tuple #[.agg #[.int .i64 Y, .int .i64 m, .int .i64 (d + 1), .int .i64 (n % 86400 / 3600), .int .i64 (n % 86400 / 60 % 60), .int .i64 (n % 60), .int .i64 ((n / 86400 + 4) % 7)], .int .i64 0])) w') :
    Calls Tryz.prog 115 #[.int .i64 n] w R := by
  have H := Lib.hid h
  clear h
  have q0 : 0 ≤ n / 86400 := by omega
  have q1 : n / 86400 ≤ 2932896 := by omega
  have r0 : 0 ≤ n % 86400 := by omega
  have r1 : n % 86400 < 86400 := by omega
  go_enter Tryz.func115, Tryz.ntmps115
  go_upto_region 5 with (go_at_call 142; (refine may_any n _ h0 h1 ?_))
  refine gen_worldC (fun W => CivS w W w.heap.size (w.heap.size + 1) 1970 1 0 (n % 86400 / 3600) (n % 86400 / 60 % 60) (n % 60) ((n / 86400 + 4) % 7)) ⟨((Kp.refl _ _).alloc _).alloc _, Nat.le_refl _, Nat.lt_succ_self _, ((Bk.new' _ _ _).alloc _).cast rfl, (Bk.newAt (by simp) _ _).cast rfl⟩ ?_
  intro W hs
  generalize n % 86400 / 3600 = hh at hs H ⊢
  generalize n % 86400 / 60 % 60 = mi at hs H ⊢
  have e6 : n % 86400 % 60 = n % 60 := by omega
  simp only [e6]
  clear e6
  generalize n % 60 = ss at hs H ⊢
  generalize (n / 86400 + 4) % 7 = wd at hs H ⊢
  generalize n / 86400 = dd at H q0 q1 ⊢
  generalize n % 86400 = sd at r0 r1 ⊢
  obtain ⟨g2, hg2⟩ : ∃ g2, w.heap.size = g2 := ⟨_, rfl⟩
  obtain ⟨g6, hg6⟩ : ∃ g6, w.heap.size + 1 = g6 := ⟨_, rfl⟩
  rw [hg6, hg2] at hs ⊢
  have hc0 := hs.b6.cell 0
  have hf0 := hs.b6.frozen 0
  simp only [dC, List.getElem?_cons_zero] at hc0
  have HS := Lib.hid hs
  clear hs hg2 hg6
  have hq : 0 ≤ dd / 146097 ∧ dd / 146097 ≤ 20 := by omega
  obtain ⟨qa, qb⟩ := hq
  have hr : 0 ≤ dd % 146097 ∧ dd % 146097 < 146097 := by omega
  obtain ⟨ra, rb⟩ := hr
  go_upto_region 6 with (fail)
  refine gen_worldC (fun W => Hid (CivS w W g2 g6 (1970 + dd / 146097 * 400) 1 0 hh mi ss wd)) (Lib.hid (HS.out.setY _)) ?_
  intro W2 HS2
  clear HS hc0 hf0
  have HB0 : Hid (befY (1970 + dd / 146097 * 400) + dd % 146097 = befY 1970 + dd) := Lib.hid (by rw [befY_400]; omega)
  have hy0 : 1970 ≤ 1970 + dd / 146097 * 400 := by omega
  have hy1 : 365 * (1970 + dd / 146097 * 400) + dd % 146097 ≤ 3796000 := by omega
  go_wp2
  go_loopw [4] (fun dv wr => ∃ (d y : Int), dv = .int .i64 d ∧ 0 ≤ d ∧ d ≤ 150000 ∧ 1970 ≤ y ∧ 365 * y + d ≤ 3796000 ∧ Hid (befY y + d = befY 1970 + dd) ∧ Hid (CivS w wr g2 g6 y 1 0 hh mi ss wd)) (fun dv _ => (intOf dv).toNat)
  case atStart => exact ⟨_, _, rfl, ra, by omega, hy0, hy1, HB0, HS2⟩
  case round =>
    obtain ⟨d, y, rfl, d0, d1, y0, y1, hB, hS⟩ := hrel
    clear hy0 hy1 ra rb qa qb
    have hc0 := hS.out.b6.cell 0
    have hf0 := hS.out.b6.frozen 0
    simp only [dC, List.getElem?_cons_zero] at hc0
    have hlo := leap_01 y
    obtain ⟨o, ho⟩ : ∃ o, oneI1 (leapB y) = o := ⟨_, rfl⟩
    have HYL : Hid (yLen y = 365 + o) := Lib.hid (by unfold yLen; rw [ho])
    have HOne : Hid (∀ (R : Ending → World → Prop) (w1 : World), R (.returned (.int .i64 o)) w1 → Calls Tryz.prog 143 #[.bool (leapB y)] w1 R) := Lib.hid (fun R w1 h => one_any _ w1 (by rw [ho]; exact h))
    rw [ho] at hlo
    have o0 : 0 ≤ o := by omega
    have o1 : o ≤ 1 := by omega
    clear hlo ho
    by_cases hge : 365 + o ≤ d
    · have HS3 := Lib.hid (hS.out.setY (y + 1))
      have HB3 : Hid (befY (y + 1) + (d - (365 + o)) = befY 1970 + dd) := Lib.hid (by rw [befY_succ, HYL.out]; have := hB.out; omega)
      go_wp2_with (first | (go_at_call 144; (refine leap_any y _ (by omega) (by omega) ?_)) | (go_at_call 143; (refine HOne.out _ _ ?_)))
      refine ⟨?_, by simp [intOf]; omega⟩
      exact ⟨d - (365 + o), y + 1, rfl, by omega, by omega, by omega, by omega, HB3, HS3⟩
    · have HD : Hid (d < yLen y) := Lib.hid (by rw [HYL.out]; omega)
      go_wp2_with (first | (go_at_call 144; (refine leap_any y _ (by omega) (by omega) ?_)) | (go_at_call 143; (refine HOne.out _ _ ?_)))
      clear hc0 hf0 hge
      go_loopw [4] (fun dv wr => ∃ (e : Int) (m : Nat), dv = .int .i64 e ∧ 0 ≤ e ∧ e ≤ 400 ∧ 1 ≤ m ∧ m ≤ 12 ∧ Hid (cumM y (m - 1) + e = d) ∧ Hid (CivS w wr g2 g6 y m 0 hh mi ss wd)) (fun dv _ => (intOf dv).toNat)
      case atStart => exact ⟨d, 1, rfl, d0, by have := HD.out; rw [HYL.out] at this; omega, by omega, by omega, Lib.hid (by simp [cumM]), hS⟩
      case round =>
        obtain ⟨e, m, rfl, e0, e1, m0, m1, hM, hS4⟩ := hrel
        have hc0 := hS4.out.b6.cell 0
        have hc1 := hS4.out.b6.cell 1
        have hf1 := hS4.out.b6.frozen 1
        have hf2 := hS4.out.b6.frozen 2
        have hc2 := hS4.out.b6.cell 2
        simp only [dC, List.getElem?_cons_zero, List.getElem?_cons_succ] at hc0 hc1 hc2
        have hlp := lenM_pos y m
        obtain ⟨L, hL⟩ : ∃ L, lenM y m = L := ⟨_, rfl⟩
        have HLc : Hid (∀ (R : Ending → World → Prop) (w1 : World), R (.returned (.int .i64 L)) w1 → Calls Tryz.prog 145 #[.int .i64 y, .int .i64 m] w1 R) := Lib.hid (fun R w1 h => length_any y m w1 (by omega) (by omega) (by omega) (by omega) (by rw [hL]; exact h))
        have HLL := Lib.hid hL
        rw [hL] at hlp
        obtain ⟨l0, l1⟩ := hlp
        have HCS : Hid (cumM y m = cumM y (m - 1) + L) := Lib.hid (by
          obtain ⟨j, rfl⟩ : ∃ j, m = j + 1 := ⟨m - 1, by omega⟩
          rw [← hL]; simp [cumM])
        clear hL
        by_cases hge : L ≤ e
        · have hm12 : m < 12 := by
            rcases Nat.lt_or_ge m 12 with h | h
            · exact h
            · exfalso
              have : m = 12 := by omega
              subst this
              have h1 := HCS.out
              rw [cumM_12] at h1
              have h2 := hM.out
              have h3 := HD.out
              omega
          have HS5 := Lib.hid (hS4.out.setM ((m : Int) + 1))
          have HM5 : Hid (cumM y (m + 1 - 1) + (e - L) = d) := Lib.hid (by
            rw [Nat.add_sub_cancel, HCS.out]; have := hM.out; omega)
          go_wp2_with (go_at_call 145; (refine HLc.out _ _ ?_))
          refine ⟨?_, by simp [intOf]; omega⟩
          exact ⟨e - L, m + 1, rfl, by omega, by omega, by omega, by omega, HM5, HS5⟩
        · have HF := Lib.hid (hS4.out.setD (e + 1))
          go_upto_region 14 with (go_at_call 145; (refine HLc.out _ _ ?_))
          refine gen_worldC (fun W => Hid (CivS w W g2 g6 y m (e + 1) hh mi ss wd)) HF ?_
          intro W5 HS5
          obtain ⟨⟨p0, p1, p2, p3, p4, p5, p6⟩, _⟩ := bk7 HS5.out.b6
          obtain ⟨⟨z0, z1, z2, z3, z4, z5, z6⟩, ⟨f0, f1, f2, f3, f4, f5, f6⟩⟩ := bk7 HS5.out.b2
          have hne : g2 ≠ g6 := by have := HS5.out.n6; omega
          clear hc0 hc1 hc2 hf1 hf2
          go_wp2
          obtain ⟨W6, hW6, k6, b6⟩ := HS5.out.fin
          obtain ⟨⟨x0, x1, x2, x3, x4, x5, x6⟩, _⟩ := bk7 b6
          rw [hW6]
          have hBB := hB.out
          have hMM := hM.out
          exact bodyPost_ret (v := .tuple #[.agg #[.int .i64 y, .int .i64 m, .int .i64 (e + 1), .int .i64 hh, .int .i64 mi, .int .i64 ss, .int .i64 wd], .int .i64 0]) (by simp [results, Tryz.results115, go_sem, x0, x1, x2, x3, x4, x5, x6]) rfl (H.out y m e y0 (by omega) m0 m1 e0 (by rw [HLL.out]; omega) (by omega) W6 k6)
end
end Go.Proofs.YtnmafahbdfilcaaGreatDoor
