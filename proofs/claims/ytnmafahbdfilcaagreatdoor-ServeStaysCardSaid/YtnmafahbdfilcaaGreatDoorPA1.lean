/- Words for memory, over any program: what a call keeps ('Kp'), a block known whole ('Bk'), a slice that reads as a list ('Rd'), rows of equal pieces. Strings as lists of bytes: the walk's words for a string that is written 'S l'. The walks of package path's small functions. Plain words for texts: cut at a byte, split at a byte, the last place of a byte; and what the shelf's words are in these. The library's contracts in the words of these texts. path.Name. -/
import Derived.WalkKit
import Derived.WalkSpells
import Derived.WalkLawsBesides
import Derived.Lib.Hide
import Derived.Deep.Draws
import Derived.Deep.AppendLies
import Derived.Maps.AppendAt
import Derived.Test.YtnmafahbdfilcaaGreatDoorRows
import Derived.Lib.SplitLaws
import Derived.Lib.IndexMore
import Derived.Lib.LastIndexLaws
import Derived.Test.YtnmafahbdfilcaaGreatDoorShelf
import Derived.Shelf.Vars
namespace Go.Proofs.YtnmafahbdfilcaaGreatDoor
/-! ### Words for memory, over any program: what a call keeps ('Kp'), a block known whole ('Bk'), a slice that reads as a list ('Rd'), rows of equal pieces. -/
section
open Go.RowKit

/-- Of the blocks that were there only those of S may have turned. -/
structure Kp (S : List Nat) (w w' : World) : Prop where
  os : w'.os = w.os
  tape : w'.tape = w.tape
  output : w'.output = w.output
  size : w.heap.size ≤ w'.heap.size
  block : ∀ k, k < w.heap.size → k ∉ S → w'.heap[k]? = w.heap[k]?

section
variable {S S' : List Nat} {a w w' w1 w2 : World}
theorem Kp.refl (S : List Nat) (w : World) : Kp S w w := ⟨rfl, rfl, rfl, Nat.le_refl _, fun _ _ _ => rfl⟩
theorem Kp.trans (h : Kp S a w) (k : Kp S w w') : Kp S a w' :=
  ⟨k.os.trans h.os, k.tape.trans h.tape, k.output.trans h.output, Nat.le_trans h.size k.size, fun i hi hn => (k.block i (Nat.lt_of_lt_of_le hi h.size) hn).trans (h.block i hi hn)⟩
theorem Kp.mono (h : Kp S w w') (hs : ∀ s ∈ S, s ∈ S' ∨ w.heap.size ≤ s) : Kp S' w w' :=
  ⟨h.os, h.tape, h.output, h.size, fun i hi hn => h.block i hi fun hm => (hs i hm).elim hn (fun hge => by omega)⟩
/-- Two steps: the second may turn blocks of S' that are new since the first began. -/
theorem Kp.thn (h : Kp S a w) (k : Kp S' w w') (hs : ∀ s ∈ S', s ∈ S ∨ a.heap.size ≤ s) : Kp S a w' :=
  ⟨k.os.trans h.os, k.tape.trans h.tape, k.output.trans h.output, Nat.le_trans h.size k.size, fun i hi hn =>
    (k.block i (Nat.lt_of_lt_of_le hi h.size) (fun hm => (hs i hm).elim hn (fun hge => by omega))).trans (h.block i hi hn)⟩
theorem Kp.drew (h : Kp S a w) : Kp S a w.drew := ⟨h.os, h.tape, h.output, h.size, h.block⟩
theorem Kp.drewN (h : Kp S a w) (n : Nat) : Kp S a (w.drewN n) := ⟨h.os, h.tape, h.output, h.size, h.block⟩
theorem Kp.alloc (h : Kp S a w) (o : Obj) : Kp S a (w.alloc o) :=
  ⟨h.os, h.tape, h.output, Nat.le_trans h.size (by simp), fun i hi hn => (Below.heap_alloc w o i (Nat.lt_of_lt_of_le hi h.size)).trans (h.block i hi hn)⟩
theorem Kp.setCell (h : Kp S a w) {p : Addr} (hp : p.block ∈ S ∨ a.heap.size ≤ p.block) (u : Value) : Kp S a (w.setCell p u) :=
  ⟨h.os, h.tape, h.output, by simpa using h.size, fun i hi hn => (Below.heap_setCell w p u i (by rintro rfl; exact hp.elim hn (fun e => by omega))).trans (h.block i hi hn)⟩
theorem Kp.setRow (h : Kp S a w) {g : Nat} (hp : g ∈ S ∨ a.heap.size ≤ g) (cs : Array Value) : Kp S a (w.setRow g cs) :=
  ⟨h.os, h.tape, h.output, by simpa using h.size, fun i hi hn => (setRow_other w g i cs (by rintro rfl; exact hp.elim hn (fun e => by omega))).trans (h.block i hi hn)⟩
theorem Kp.grown (h : Kp S a w) {row : Option Nat} (hg : w.grownBy w' row) (hr : ∀ k, row = some k → k ∈ S ∨ a.heap.size ≤ k) : Kp S a w' :=
  ⟨hg.os.trans h.os, hg.tape.trans h.tape, hg.output.trans h.output, Nat.le_trans h.size hg.size, fun i hi hn =>
    (hg.block i (Nat.lt_of_lt_of_le hi h.size) (fun e => (hr i e.symm).elim hn (fun e => by omega))).trans (h.block i hi hn)⟩
theorem Kp.of_below (h : Below w.heap.size w w') : Kp S w w' := ⟨h.os, h.tape, h.output, h.size, fun i hi _ => h.block i hi⟩
theorem Kp.below (h : Kp S w w') {B : Nat} (hs : ∀ s ∈ S, B ≤ s) (hB : B ≤ w.heap.size) : Below B w w' :=
  ⟨h.os, h.tape, h.output, h.size, fun k hk => h.block k (by omega) (fun hm => by have := hs k hm; omega)⟩
theorem Kp.below_nil (h : Kp [] w w') : Below w.heap.size w w' := h.below (by simp) (Nat.le_refl _)
theorem Kp.cell (h : Kp S w w') {p : Addr} (hp : p.block < w.heap.size) (hn : p.block ∉ S) : w'.cell? p = w.cell? p := World.cell?_of_block (w := w) (h.block p.block hp hn)
theorem Kp.frozen (h : Kp S w w') {p : Addr} (hp : p.block < w.heap.size) (hn : p.block ∉ S) : w'.frozen? p = w.frozen? p := World.frozen?_of_block (w := w) (h.block p.block hp hn)
end

/-- Block g is just these cells, of element type t, none frozen. -/
def Bk (w : World) (g t : Nat) (cs : List Value) : Prop := w.heap[g]? = some (.cells cs.toArray t (0, 0))
section
variable {w w' : World} {g t : Nat} {cs : List Value} {S : List Nat}
theorem Bk.lt (h : Bk w g t cs) : g < w.heap.size := by
  rcases Nat.lt_or_ge g w.heap.size with hlt | hge
  · exact hlt
  · unfold Bk at h; rw [Array.getElem?_eq_none hge] at h; cases h
theorem Bk.cell (h : Bk w g t cs) (i : Nat) : w.cell? ⟨g, i, none⟩ = cs[i]? := by
  rw [cell_of_row w g i _ t (0, 0) h]; simp
theorem Bk.frozen (h : Bk w g t cs) (i : Nat) : w.frozen? ⟨g, i, none⟩ = false := by
  unfold Bk at h; simp [World.frozen?, h]
theorem Bk.new (w : World) (t : Nat) (cs : List Value) : Bk (w.alloc (.cells cs.toArray t)) w.heap.size t cs := heap_alloc_new w _
theorem Bk.new' (w : World) (t : Nat) (cs : Array Value) : Bk (w.alloc (.cells cs t)) w.heap.size t cs.toList := by
  unfold Bk; rw [Array.toArray_toList]; exact heap_alloc_new w _
theorem Bk.newAt {w : World} {g : Nat} (hg : g = w.heap.size) (t : Nat) (cs : Array Value) : Bk (w.alloc (.cells cs t)) g t cs.toList := hg ▸ Bk.new' w t cs
theorem Bk.drewN (h : Bk w g t cs) (n : Nat) : Bk (w.drewN n) g t cs := h
theorem Bk.drew (h : Bk w g t cs) : Bk w.drew g t cs := h
theorem Bk.alloc (h : Bk w g t cs) (o : Obj) : Bk (w.alloc o) g t cs := (Below.heap_alloc w o g h.lt).trans h
theorem Bk.set_ (h : Bk w g t cs) (i : Nat) (u : Value) : Bk (w.setCell ⟨g, i, none⟩ u) g t (cs.set i u) := by
  unfold Bk at h ⊢
  simp [World.setCell, Array.getElem?_modify, h]
theorem Bk.far (h : Bk w g t cs) {p : Addr} (hp : g ≠ p.block) (u : Value) : Bk (w.setCell p u) g t cs := (Below.heap_setCell w p u g hp).trans h
theorem Bk.row (h : Bk w g t cs) (cs' : Array Value) : Bk (w.setRow g cs') g t cs'.toList := by
  unfold Bk at h ⊢; rw [Array.toArray_toList]; exact setRow_heap w g _ _ _ _ h
theorem Bk.farRow (h : Bk w g t cs) {g' : Nat} (hp : g ≠ g') (cs' : Array Value) : Bk (w.setRow g' cs') g t cs := (setRow_other w g' g cs' hp).trans h
theorem Bk.kp (h : Bk w g t cs) (hk : Kp S w w') (hn : g ∉ S) : Bk w' g t cs := (hk.block g h.lt hn).trans h
theorem Bk.below {B : Nat} (h : Bk w g t cs) (hb : Below B w w') (hg : g < B) : Bk w' g t cs := (hb.block g hg).trans h
theorem Bk.cast (h : Bk w g t cs) {cs' : List Value} (e : cs = cs') : Bk w g t cs' := e ▸ h
theorem Bk.ne_ {g' t' : Nat} {cs' : List Value} (h : Bk w g t cs) (h' : Bk w g' t' cs') (hne : t ≠ t') : g ≠ g' := by
  rintro rfl
  unfold Bk at h h'
  rw [h] at h'
  injection h' with h'
  injection h' with _ ht
  exact hne ht
end

/-- A slice at address A whose cells read xs; its block is none of N. -/
def Rd (w : World) (N : List Nat) (A : Option Addr) (xs : List Value) : Prop :=
  xs ≠ [] → ∃ b off, A = some ⟨b, off, none⟩ ∧ b ∉ N ∧ b < w.heap.size ∧ ∀ j u, xs[j]? = some u → w.cell? ⟨b, off + j, none⟩ = some u
section
variable {w w' : World} {N N' S : List Nat} {A : Option Addr} {xs : List Value}
theorem Rd.nil : Rd w N A [] := fun h => absurd rfl h
theorem Rd.kp (h : Rd w N A xs) (hk : Kp S w w') (hs : ∀ s ∈ S, s ∈ N ∨ w.heap.size ≤ s) : Rd w' N A xs := fun hx => by
  obtain ⟨b, off, rfl, hn, hb, hc⟩ := h hx
  refine ⟨b, off, rfl, hn, Nat.lt_of_lt_of_le hb hk.size, fun j u hu => ?_⟩
  rw [hk.cell (p := ⟨b, off + j, none⟩) hb (fun hm => (hs b hm).elim hn (fun e => by omega))]
  exact hc j u hu
theorem Rd.below (h : Rd w N A xs) (hk : Below w.heap.size w w') : Rd w' N A xs := h.kp (S := []) (Kp.of_below hk) (by simp)
theorem Rd.sub (h : Rd w N A xs) (hs : ∀ s ∈ N', s ∈ N) : Rd w N' A xs := fun hx => by
  obtain ⟨b, off, rfl, hn, rest⟩ := h hx
  exact ⟨b, off, rfl, fun hm => hn (hs b hm), rest⟩
theorem Rd.drop (h : Rd w N A xs) (k : Nat) (hk : k < xs.length) : Rd w N (A.map (·.add k)) (xs.drop k) := fun _ => by
  obtain ⟨b, off, rfl, hn, hb, hc⟩ := h (by intro e; simp [e] at hk)
  have e : (⟨b, off, none⟩ : Addr).add k = ⟨b, off + k, none⟩ := by unfold Addr.add; split <;> simp_all
  refine ⟨b, off + k, by rw [Option.map_some, e], hn, hb, fun j u hu => ?_⟩
  rw [Nat.add_assoc]
  exact hc _ u (by rw [← hu, List.getElem?_drop])
theorem Rd.take (h : Rd w N A xs) (k : Nat) : Rd w N A (xs.take k) := fun hx => by
  obtain ⟨b, off, rfl, hn, hb, hc⟩ := h (by rintro rfl; simp at hx)
  refine ⟨b, off, rfl, hn, hb, fun j u hu => hc j u ?_⟩
  rw [List.getElem?_take] at hu
  split at hu
  · exact hu
  · cases hu
theorem Rd.of_bk {g t : Nat} {cs : List Value} (h : Bk w g t cs) (hn : g ∉ N) : Rd w N (some ⟨g, 0, none⟩) cs := fun _ =>
  ⟨g, 0, rfl, hn, h.lt, fun j u hu => by rw [Nat.zero_add, h.cell, hu]⟩
theorem Rd.of_bk_at {g t o : Nat} {cs : List Value} (h : Bk w g t cs) (hn : g ∉ N) : Rd w N (some ⟨g, o, none⟩) (cs.drop o) := fun _ =>
  ⟨g, o, rfl, hn, h.lt, fun j u hu => by rw [h.cell, ← List.getElem?_drop, hu]⟩
/-- What append and copy ask of a source. -/
theorem Rd.src (h : Rd w N A xs) (hx : xs ≠ []) : ∃ ad, A = some ad ∧ ∀ j u, xs[j]? = some u → w.cell? (ad.add j) = some u := by
  obtain ⟨b, off, rfl, _, _, hc⟩ := h hx
  refine ⟨_, rfl, fun j u hu => ?_⟩
  have e : (⟨b, off, none⟩ : Addr).add j = ⟨b, off + j, none⟩ := by unfold Addr.add; split <;> simp_all
  rw [e]; exact hc j u hu
end

/-! ### rows of equal pieces -/
section
variable {α : Type} {F : α → List Value} {K : Nat}
theorem flat_len (hF : ∀ x, (F x).length = K) (l : List α) : (l.flatMap F).length = l.length * K := by
  induction l with
  | nil => simp
  | cons x l ih => simp [List.flatMap_cons, hF, ih, Nat.add_mul, Nat.add_comm]
theorem flat_get (hF : ∀ x, (F x).length = K) {l : List α} {i : Nat} {x : α} (hx : l[i]? = some x) {j : Nat} (hj : j < K) : (l.flatMap F)[i * K + j]? = (F x)[j]? := by
  induction l generalizing i with
  | nil => simp at hx
  | cons y l ih =>
    rw [List.flatMap_cons]
    cases i with
    | zero => simp at hx; subst hx; rw [List.getElem?_append_left (by rw [hF]; omega)]; simp
    | succ i =>
      have h1 : (i + 1) * K + j = K + (i * K + j) := by rw [Nat.add_mul]; omega
      rw [List.getElem?_append_right (by rw [hF, h1]; omega), hF, h1, Nat.add_sub_cancel_left]
      exact ih (by simpa using hx)
theorem flat_splice (hF : ∀ x, (F x).length = K) {l : List α} {i : Nat} {x x' : α} (hx : l[i]? = some x) {o : Nat} {cs : List Value} (ho : o + cs.length ≤ K)
    (hx' : F x' = (F x).take o ++ cs ++ (F x).drop (o + cs.length)) :
    (l.flatMap F).take (i * K + o) ++ cs ++ (l.flatMap F).drop (i * K + o + cs.length) = (l.set i x').flatMap F := by
  induction l generalizing i with
  | nil => simp at hx
  | cons y l ih =>
    cases i with
    | zero =>
      simp at hx; subst hx
      have hl := hF y
      simp only [Nat.zero_mul, Nat.zero_add, List.flatMap_cons, List.set_cons_zero, hx', List.append_assoc]
      rw [List.take_append_of_le_length (by omega), List.drop_append_of_le_length (by omega)]
    | succ i =>
      have ih' := ih (i := i) (by simpa using hx)
      have h1 : (i + 1) * K + o = K + (i * K + o) := by rw [Nat.add_mul]; omega
      simp only [List.flatMap_cons, List.set_cons_succ]
      rw [h1, ← ih', Nat.add_assoc K, List.drop_append, List.take_append, hF, Nat.add_sub_cancel_left, Nat.add_sub_cancel_left]
      rw [List.take_of_length_le (by rw [hF]; omega), List.drop_of_length_le (by rw [hF]; omega)]
      simp [Nat.add_assoc]
theorem set_eq_splice {β : Type} (l : List β) (i : Nat) (v : β) (hi : i < l.length) : l.set i v = l.take i ++ [v] ++ l.drop (i + 1) := by
  rw [List.set_eq_take_append_cons_drop, if_pos hi]; simp
theorem flat_set (hF : ∀ x, (F x).length = K) {l : List α} {i : Nat} {x x' : α} (hx : l[i]? = some x) {j : Nat} {v : Value} (hj : j < K)
    (hx' : F x' = (F x).set j v) : (l.flatMap F).set (i * K + j) v = (l.set i x').flatMap F := by
  have hi : i < l.length := by
    rcases Nat.lt_or_ge i l.length with h | h
    · exact h
    · rw [List.getElem?_eq_none h] at hx; cases hx
  have h := flat_splice hF hx (o := j) (cs := [v]) (x' := x') (by simp; omega) (by rw [hx', set_eq_splice _ _ _ (by rw [hF]; exact hj)]; rfl)
  rw [← h, set_eq_splice _ _ _ (by rw [flat_len hF]; have := Nat.mul_le_mul_right K (Nat.succ_le_of_lt hi); rw [Nat.succ_mul] at this; omega)]
  rfl
end

section
variable {P : Program} {w : World} {g tt : Nat} {cs : List Value}
/-- A whole struct or array stored into a block that is known. -/
theorem run_storeVar_bk (h : Bk w g tt cs) (t o : Nat) (vs : Array Value) (hs : (P.info? t).map (·.size) = some vs.size) (hfit : o + vs.size ≤ cs.length) (h1 : ∀ v ∈ vs.toList, v.oneCell' = true) :
    (storeVar t ⟨g, o, none⟩ (.agg vs)).run P w = .ok () (w.setRow g (cs.take o ++ vs.toList ++ cs.drop (o + vs.size)).toArray) := by
  have hst := run_storeCells_at P g o tt vs.toList 0 cs.toArray w h (by simpa using hfit) h1
  cases hq : P.info? t with
  | none => simp [hq] at hs
  | some i =>
    have hi : vs.size = i.size := by simpa [hq] using hs.symm
    simp only [Nat.add_zero, Array.length_toList] at hst
    simp [storeVar, Value.cells, sizeOf, typeInfo, hq, hi, hst]
theorem run_storeCells_bk (h : Bk w g tt cs) (o : Nat) (vs : List Value) (hfit : o + vs.length ≤ cs.length) (h1 : ∀ v ∈ vs, v.oneCell' = true) :
    (storeCells ⟨g, o, none⟩ vs 0).run P w = .ok () (w.setRow g (cs.take o ++ vs ++ cs.drop (o + vs.length)).toArray) := by
  have hst := run_storeCells_at P g o tt vs 0 cs.toArray w h (by simpa using hfit) h1
  simpa using hst
/-- p.b[l:h] of an array of one-cell elements behind a pointer. -/
theorem run_sliceAt_any {t e L : Nat} (ht : P.underlying t = some (.array L e)) (hs : (P.info? e).map (·.size) = some 1) (b o : Nat) (kl kh : IntKind) (l h : Int) (h0 : 0 ≤ l) (h1 : l ≤ h) (h2 : h ≤ L) :
    ∃ o', (∀ W, (Instr.sliceAt t (.pointer (some ⟨b, o, none⟩)) (some (.int kl l)) (some (.int kh h)) none).run P W = .ok (.slice (some ⟨b, o', none⟩) (h - l).toNat (L - l.toNat)) W) ∧ (o' = o + l.toNat ∨ l = L ∧ o' = o) := by
  have el : P.elem t = e := by simp [Program.elem, ht]
  have al : P.arrayLen t = L := by simp [Program.arrayLen, ht]
  have hr := fun W => run_sliceAt_array_lh (P := P) W t ⟨b, o, none⟩ (by rw [el, al]; exact ht) kl kh l h h0 h1 (by rw [al]; exact h2)
  cases hq : P.info? e with
  | none => simp [hq] at hs
  | some i =>
    have hi : i.size = 1 := by simpa [hq] using hs
    have ez : ∀ W, (sizeOf e).run P W = .ok 1 W := by intro W; simp [sizeOf, typeInfo, hq, hi]
    have en : h.toNat - l.toNat = (h - l).toNat := by omega
    by_cases hl : L = l.toNat
    · refine ⟨o, fun W => ?_, .inr ⟨by omega, rfl⟩⟩
      rw [hr, el, al, ez]
      simp [slicedAt, hl, en]
    · refine ⟨o + l.toNat, fun W => ?_, .inl rfl⟩
      rw [hr, el, al, ez]
      simp [slicedAt, hl, en, Addr.add]
/-- p.b[l:]. -/
theorem run_sliceAt_lo {t e L : Nat} (ht : P.underlying t = some (.array L e)) (hs : (P.info? e).map (·.size) = some 1) (b o : Nat) (kl : IntKind) (l : Int) (h0 : 0 ≤ l) (h2 : l ≤ L) :
    ∃ o', (∀ W, (Instr.sliceAt t (.pointer (some ⟨b, o, none⟩)) (some (.int kl l)) none none).run P W = .ok (.slice (some ⟨b, o', none⟩) (L - l.toNat) (L - l.toNat)) W) ∧ (o' = o + l.toNat ∨ l = L ∧ o' = o) := by
  have el : P.elem t = e := by simp [Program.elem, ht]
  have al : P.arrayLen t = L := by simp [Program.arrayLen, ht]
  have hr := fun W => run_sliceAt_array_l (P := P) W t ⟨b, o, none⟩ (by rw [el, al]; exact ht) kl l h0 (by rw [al]; exact h2)
  cases hq : P.info? e with
  | none => simp [hq] at hs
  | some i =>
    have hi : i.size = 1 := by simpa [hq] using hs
    have ez : ∀ W, (sizeOf e).run P W = .ok 1 W := by intro W; simp [sizeOf, typeInfo, hq, hi]
    by_cases hl : L = l.toNat
    · refine ⟨o, fun W => ?_, .inr ⟨by omega, rfl⟩⟩
      rw [hr, el, al, ez]
      simp [slicedAt, hl]
    · refine ⟨o + l.toNat, fun W => ?_, .inl rfl⟩
      rw [hr, el, al, ez]
      simp [slicedAt, hl, Addr.add]
/-- copy of m cells into a block that is known. -/
theorem run_copy_bk (h : Bk w g tt cs) (t ty e : Nat) (o dLen dCap m c2 : Nat) (A2 : Option Addr) (news : List Value) {N : List Nat} (hr : Rd w N A2 news) (hl : news.length = m)
    (hu : P.underlying t = some (.slice e)) (hs : (P.info? e).map (·.size) = some 1) (hmd : m ≤ dLen) (hfit : o + m ≤ cs.length) (h1 : ∀ v ∈ news, v.oneCell' = true) (h0 : A2 = none → m = 0 ∧ c2 = 0) :
    (Builtin.copy_ #[t, t] ty #[.slice (some ⟨g, o, none⟩) dLen dCap, .slice A2 m c2]).run P w = .ok (goInt m) (w.setRow g (cs.take o ++ news ++ cs.drop (o + m)).toArray) := by
  have key : ∀ a : Addr, (∀ j v, news[j]? = some v → w.cell? (a.add j) = some v) → (Builtin.copy_ #[t, t] ty #[.slice (some ⟨g, o, none⟩) dLen dCap, .slice (some a) m c2]).run P w = .ok (goInt m) (w.setRow g (cs.take o ++ news ++ cs.drop (o + m)).toArray) := by
    intro a ha
    have hc := run_copy_row P w t t ty e g o dLen dCap a m c2 cs.toArray tt news hu hs h (by rw [hl]; exact (Nat.min_eq_left hmd).symm) ha (by simpa [hl] using hfit) h1
    simpa [hl] using hc
  by_cases hx : news = []
  · subst hx
    simp at hl; subst hl
    rcases A2 with _ | a
    · obtain ⟨_, rfl⟩ := h0 rfl
      have hc := run_copy_nil P w t t ty e ⟨g, o, none⟩ dLen dCap hu (by rw [hs]; rfl)
      rw [hc]
      simp only [List.append_nil, Nat.add_zero, List.take_append_drop]
      rw [setRow_self w g _ tt (0, 0) h]
      rfl
    · exact key a (by intro j v hv; simp at hv)
  · obtain ⟨a, rfl, hc⟩ := hr.src hx
    exact key a hc
end

/-! ### slices of the call's own -/
/-- The blocks under a slice's address. -/
def bks : Option Addr → List Nat
  | some a => [a.block]
  | none => []
/-- The slice A, n, c of elements of type e (sz cells each) has its whole row from the head of a block; its n elements read xs. -/
def Ow (w : World) (e sz : Nat) (A : Option Addr) (n c : Nat) (xs : List Value) : Prop := w.ownsRow 0 e sz (.slice A n c) n xs
section
variable {w w' : World} {e sz n c : Nat} {A : Option Addr} {xs : List Value} {S N : List Nat}
theorem Ow.nil : Ow w e sz none 0 0 [] := World.ownsRow_nil w 0 e sz
theorem Ow.len (h : Ow w e sz A n c xs) : xs.length = n * sz := h.1
theorem Ow.lt (h : Ow w e sz A n c xs) : ∀ b ∈ bks A, b < w.heap.size := by
  intro b hb
  rcases A with _ | ad
  · cases hb
  · simp only [bks, List.mem_singleton] at hb
    exact (World.ownsRow.lt h b (by simp [Value.ownBlock, hb])).2
theorem Ow.kp (h : Ow w e sz A n c xs) (hk : Kp S w w') (hs : ∀ b ∈ bks A, b ∉ S) : Ow w' e sz A n c xs := by
  refine ⟨h.1, ?_⟩
  rcases h.2 with hn | ⟨g, cap, cur, hv, hb, hg, rest⟩
  · exact .inl hn
  · refine .inr ⟨g, cap, cur, hv, hb, ?_, rest⟩
    rw [hk.block g (Array.getElem?_eq_some_iff.1 hg).1 ?_]
    · exact hg
    · injection hv with hA; subst hA; exact hs g (by simp [bks])
theorem Ow.rd (h : Ow w e sz A n c xs) (hn : ∀ b ∈ bks A, b ∉ N) : Rd w N A xs := fun hx => by
  rcases h.2 with ⟨_, h0⟩ | ⟨g, cap, cur, hv, hb, hg, _⟩
  · have := h.1; subst h0; simp at this; exact absurd this hx
  · injection hv with hA; subst hA
    refine ⟨g, 0, rfl, hn g (by simp [bks]), (Array.getElem?_eq_some_iff.1 hg).1, fun j u hu => ?_⟩
    have := World.ownsRow.cells h (g := g) (by simp [Value.ownBlock]) j u hu
    have e : (⟨g, 0, none⟩ : Addr).add j = ⟨g, 0 + j, none⟩ := by unfold Addr.add; split <;> simp_all
    rwa [e] at this
theorem Ow.drewN (h : Ow w e sz A n c xs) (k : Nat) : Ow (w.drewN k) e sz A n c xs := h
theorem Ow.drew (h : Ow w e sz A n c xs) : Ow w.drew e sz A n c xs := h
theorem Ow.alloc (h : Ow w e sz A n c xs) (o : Obj) : Ow (w.alloc o) e sz A n c xs := World.ownsRow.alloc h o
/-- Its block, where there is one. -/
theorem Ow.form (h : Ow w e sz A n c xs) (hn : 0 < n) : ∃ g, A = some ⟨g, 0, none⟩ ∧ g < w.heap.size := by
  rcases h.2 with ⟨_, h0⟩ | ⟨g, cap, cur, hv, hb, hg, _⟩
  · omega
  · injection hv with hA; exact ⟨g, hA, (Array.getElem?_eq_some_iff.1 hg).1⟩
theorem Ow.cast (h : Ow w e sz A n c xs) {n' : Nat} {xs' : List Value} (hn : n = n') (hx : xs = xs') : Ow w e sz A n' c xs' := by subst hn; subst hx; exact h
/-- A literal row, just made. -/
theorem Ow.lit (w : World) (e sz : Nat) (cs : Array Value) (n : Nat) (hm : n ≤ maxLen) (hs : cs.size = n * sz) : Ow (w.alloc (.cells cs e)) e sz (some ⟨w.heap.size, 0, none⟩) n n cs.toList :=
  World.ownsRow_lit w cs n (Nat.zero_le _) hm hs
end

/-- What the program's tables say of a slice type t of elements e: their zero value, their cells, their bytes. -/
def Elt (P : Program) (t e : Nat) (z : Value) (sz by_ : Nat) : Prop :=
  P.underlying t = some (.slice e) ∧ (P.info? e).map (fun i => (i.zero, i.size, i.bytes)) = some (some z, sz, by_) ∧ z.cells.size = sz ∧ 0 < sz ∧ by_ ≤ 4096

section
variable {P : Program} (w : World)
theorem run_append_src_nil {t ty e : Nat} {z : Value} {sz by_ : Nat} (hE : Elt P t e z sz by_) (A : Option Addr) (n c c2 : Nat) (xs : List Value) (hown : Ow w e sz A n c xs) :
    (Builtin.append_ #[t, t] ty #[.slice A n c, .slice none 0 c2]).run P w = .ok (.slice A n c) w := by
  obtain ⟨ht, hi, _⟩ := hE
  obtain ⟨i, hi, hz, hs, hb⟩ := info_parts hi
  rcases hown.2 with ⟨hv, rfl⟩ | ⟨g, cap, cur, hv, _, _, hnc, _⟩
  · injection hv with hA hn hc; subst hA; subst hc
    simp [Builtin.append_, run_underlying ht, sizeOf, typeInfo, hi, Builtin.lenOf, Builtin.firstCells]
  · injection hv with hA hn hc; subst hA; subst hc
    simp [Builtin.append_, run_underlying ht, sizeOf, typeInfo, hi, Builtin.lenOf, Builtin.firstCells, hnc, storeCells]
theorem run_app {t ty e : Nat} {z : Value} {sz by_ : Nat} (hE : Elt P t e z sz by_) (A : Option Addr) (n c : Nat) (xs : List Value) (hown : Ow w e sz A n c xs)
    (N : List Nat) (A2 : Option Addr) (m c2 : Nat) (news : List Value) (hr : Rd w N A2 news) (hl : news.length = m * sz) (h1 : ∀ u ∈ news, u.oneCell' = true) (hb : n + m ≤ 4294967296) :
    ∃ A' c' w', (Builtin.append_ #[t, t] ty #[.slice A n c, .slice A2 m c2]).run P w = .ok (.slice A' (n + m) c') w' ∧ Ow w' e sz A' (n + m) c' (xs ++ news) ∧ Kp (bks A) w w' ∧
      (A' = A ∨ A' = some ⟨w.heap.size, 0, none⟩) := by
  have hE' := hE
  obtain ⟨ht, hi, hzs, hsz, hby⟩ := hE
  obtain ⟨i, hi, hz, hs, hby'⟩ := info_parts hi
  have h63 : n + m ≤ maxLen := by simp only [maxLen]; omega
  have hbytes : (n + m) * by_ ≤ 140737488355328 := Nat.le_trans (Nat.mul_le_mul hb hby) (by decide)
  have key : ∀ ad, (∀ j u, news[j]? = some u → w.cell? (ad.add j) = some u) → ∃ A' c' w', (Builtin.append_ #[t, t] ty #[.slice A n c, .slice (some ad) m c2]).run P w = .ok (.slice A' (n + m) c') w' ∧ Ow w' e sz A' (n + m) c' (xs ++ news) ∧ Kp (bks A) w w' ∧
      (A' = A ∨ A' = some ⟨w.heap.size, 0, none⟩) := by
    intro ad hc
    obtain ⟨v', w', hrun, h2, h3, _, h5⟩ := run_append_own_at (P := P) w 0 t ty e i z sz by_ ht hi hz hs hby' hzs hsz (.slice A n c) n xs hown ad m c2 news hl hc h1 h63 hbytes (Nat.zero_le _)
    have hk : Kp (bks A) w w' := (Kp.refl _ w).grown h3 (by
      intro k hk
      rcases A with _ | ad'
      · simp [Value.ownBlock] at hk
      · simp [Value.ownBlock] at hk; subst hk; exact .inl (by simp [bks]))
    rcases h2.2 with ⟨rfl, h0⟩ | ⟨g, cap, cur, rfl, hb', hg, hnc, hcm, hcs, htk⟩
    · have hA : A = none := by
        rcases A with _ | ad'
        · rfl
        · rcases h5 with h5 | h5 <;> simp [Value.ownBlock] at h5
      subst hA
      exact ⟨none, 0, w', by rw [hrun, h0], by unfold Ow; rw [h0] at h2 ⊢; exact h2, hk, .inl rfl⟩
    · refine ⟨some ⟨g, 0, none⟩, cap, w', hrun, h2, hk, ?_⟩
      rcases h5 with h5 | h5
      · left
        rcases hown.2 with ⟨hv, _⟩ | ⟨g', _, _, hv, _⟩
        · injection hv with hA; subst hA; simp [Value.ownBlock] at h5
        · injection hv with hA; subst hA; simp [Value.ownBlock] at h5; rw [h5]
      · right; simp [Value.ownBlock] at h5; rw [h5]
  by_cases hx : news = []
  · subst hx
    have hm : m = 0 := by
      rcases Nat.eq_zero_or_pos m with h | h
      · exact h
      · have := Nat.mul_pos h hsz; simp at hl; omega
    subst hm
    rcases A2 with _ | ad
    · exact ⟨A, c, w, run_append_src_nil w hE' A n c c2 xs hown, by simpa using hown, Kp.refl _ w, .inl rfl⟩
    · exact key ad (by intro j u hu; simp at hu)
  · obtain ⟨ad, rfl, hc⟩ := hr.src hx
    exact key ad hc
theorem wp_app {o : Oper} {a : Act} {K : Act → World → Prop} {Q : Exit → Act → World → Prop} (s x : Operand) (t : Nat)
    (ho : o.op = .call { callee := .builtin .append, args := #[s, x], argTypes := #[t, t] })
    {e : Nat} {z : Value} {sz by_ : Nat} (hE : Elt P t e z sz by_) (A : Option Addr) (n c : Nat) (xs : List Value) (hs : a.eval s = .slice A n c) (hown : Ow w e sz A n c xs)
    (N : List Nat) (A2 : Option Addr) (m c2 : Nat) (news : List Value) (hx : a.eval x = .slice A2 m c2) (hr : Rd w N A2 news) (hl : news.length = m * sz) (h1 : ∀ u ∈ news, u.oneCell' = true) (hb : n + m ≤ 4294967296)
    (h : ∀ A' c' w', Ow w' e sz A' (n + m) c' (xs ++ news) → Kp (bks A) w w' → (A' = A ∨ A' = some ⟨w.heap.size, 0, none⟩) → K (a.put o.dst (.slice A' (n + m) c')) w') : o.wp P a w K Q := by
  obtain ⟨A', c', w', hrun, h2, h3, h4⟩ := run_app (P := P) w (ty := o.type) hE A n c xs hown N A2 m c2 news hr hl h1 hb
  unfold Oper.wp execOp
  simp only [ho, resolve, invoke, builtin, Sem.run_bind, Sem.run_pure, Result.andThen_ok, List.map_toArray, List.map_cons, List.map_nil, hs, hx, hrun]
  exact h A' c' w' h2 h3 h4
/-- append onto a slice of the call's own; the source nil, empty or not. -/
theorem wpList_app {ops : Array Oper} {rest : List Oper} {o : Oper} {a : Act} {Q : Exit → Act → World → Prop} (hgd : o.guard = none) (s x : Operand) (t : Nat)
    (ho : o.op = .call { callee := .builtin .append, args := #[s, x], argTypes := #[t, t] })
    {e : Nat} {z : Value} {sz by_ : Nat} (hE : Elt P t e z sz by_) (A : Option Addr) (n c : Nat) (xs : List Value) (hs : a.eval s = .slice A n c) (hown : Ow w e sz A n c xs)
    (N : List Nat) (A2 : Option Addr) (m c2 : Nat) (news : List Value) (hx : a.eval x = .slice A2 m c2) (hr : Rd w N A2 news) (hl : news.length = m * sz) (h1 : ∀ u ∈ news, u.oneCell' = true) (hb : n + m ≤ 4294967296)
    (h : ∀ A' c' w', Ow w' e sz A' (n + m) c' (xs ++ news) → Kp (bks A) w w' → (A' = A ∨ A' = some ⟨w.heap.size, 0, none⟩) → wpList P ops Q rest (a.put o.dst (.slice A' (n + m) c')) w') : wpList P ops Q (o :: rest) a w :=
  wpList_plain hgd fun _ hK => wp_app w s x t ho hE A n c xs hs hown N A2 m c2 news hx hr hl h1 hb fun A' c' w' h2 h3 h4 => hK _ _ (h A' c' w' h2 h3 h4)
end

theorem rcast {R : Ending → World → Prop} {a b : Value} {w : World} (h : R (.returned a) w) (e : a = b) : R (.returned b) w := e ▸ h

theorem icast {a b : Int} (h : a = b) : Value.int .i64 a = .int .i64 b := by rw [h]
theorem ricast {R : Ending → World → Prop} {k : IntKind} {a b : Int} {w : World} (h : R (.returned (.int k a)) w) (e : a = b) : R (.returned (.int k b)) w := e ▸ h
theorem bks_app {A A2 : Option Addr} {B W : Nat} (h : A2 = A ∨ A2 = some ⟨W, 0, none⟩) (hA : ∀ b ∈ bks A, B ≤ b) (hB : B ≤ W) : ∀ b ∈ bks A2, B ≤ b := by
  rcases h with rfl | rfl
  · exact hA
  · intro b hb; simp [bks] at hb; omega
theorem flat_snoc {α : Type} {F : α → List Value} {l : List α} {k : Nat} {x : α} (hx : l[k]? = some x) : (l.take (k + 1)).flatMap F = (l.take k).flatMap F ++ F x := by
  have hk : k < l.length := (List.getElem?_eq_some_iff.1 hx).1
  have e : l[k] = x := (List.getElem?_eq_some_iff.1 hx).2
  rw [List.take_succ_eq_append_getElem hk, e]
  simp
/-- The k-th piece of a slice of pieces. -/
theorem rd_at {w : World} {N : List Nat} {A : Option Addr} {α : Type} {F : α → List Value} {K : Nat} {l : List α} (hr : Rd w N A (l.flatMap F)) (hF : ∀ x, (F x).length = K) (h0 : 0 < K) {k : Nat} {x : α} (hx : l[k]? = some x) :
    ∃ b off, A = some ⟨b, off, none⟩ ∧ b ∉ N ∧ b < w.heap.size ∧ ∀ j v, (F x)[j]? = some v → w.cell? ⟨b, off + k * K + j, none⟩ = some v := by
  have hk : k < l.length := (List.getElem?_eq_some_iff.1 hx).1
  obtain ⟨b, off, hA, hN, hb, hc⟩ := hr (by
    intro e
    have h := congrArg List.length e
    rw [flat_len hF] at h
    have := Nat.mul_pos (Nat.lt_of_le_of_lt (Nat.zero_le k) hk) h0
    simp at h
    omega)
  refine ⟨b, off, hA, hN, hb, fun j v hv => ?_⟩
  have hj : j < K := by rw [← hF x]; exact (List.getElem?_eq_some_iff.1 hv).1
  rw [Nat.add_assoc]
  exact hc _ v (by rw [flat_get hF hx hj]; exact hv)
/-- Bytes as cells. -/
def bts (l : List UInt8) : List Value := l.map fun c => .int .u8 c.toNat
theorem bts_len (l : List UInt8) : (bts l).length = l.length := by simp [bts]
theorem bts_get (l : List UInt8) (i : Nat) : (bts l)[i]? = (l[i]?).map fun c => .int .u8 c.toNat := by simp [bts]
theorem bts_append (a b : List UInt8) : bts (a ++ b) = bts a ++ bts b := by simp [bts]
theorem bts_one (l : List UInt8) : ∀ u ∈ bts l, u.oneCell' = true := by
  intro u hu; simp only [bts, List.mem_map] at hu; obtain ⟨c, _, rfl⟩ := hu; rfl
theorem bts_take (l : List UInt8) (k : Nat) : bts (l.take k) = (bts l).take k := by simp [bts]
theorem bts_drop (l : List UInt8) (k : Nat) : bts (l.drop k) = (bts l).drop k := by simp [bts]
end
/-! ### Strings as lists of bytes: the walk's words for a string that is written 'S l'. -/
section
open Go.RowKit
set_option linter.unusedVariables false

/-- The string of these bytes. -/
def S (l : List UInt8) : ByteArray := ⟨l.toArray⟩
theorem S_eta (s : ByteArray) : s = S s.data.toList := by cases s; simp [S]
@[go_sem] theorem S_size (l : List UInt8) : (S l).size = l.length := by simp [S, ByteArray.size]
@[go_sem] theorem S_data (l : List UInt8) : (S l).data.toList = l := by simp [S]
@[go_sem] theorem S_toList (l : List UInt8) : (S l).toList = l := by rw [ByteArray.toList_eq, S_data]
@[go_sem] theorem S_get (l : List UInt8) (i : Nat) (h : i < (S l).size) : (S l)[i]'h = l[i]'(by rwa [S_size] at h) := by
  show (S l).data[i]'_ = _
  simp [S]
@[go_sem] theorem S_extract (l : List UInt8) (a b : Nat) : (S l).extract a b = S ((l.take b).drop a) := by
  have h := ByteArray.extract_mk l a b
  unfold S
  rw [h, List.drop_take]
@[go_sem] theorem lit_extract (l : List UInt8) (a b : Nat) : (⟨l.toArray⟩ : ByteArray).extract a b = S ((l.take b).drop a) := S_extract l a b
@[go_sem] theorem S_append (a b : List UInt8) : S a ++ S b = S (a ++ b) := by
  have : (S a ++ S b).data.toList = a ++ b := by
    simp [S]
  rw [S_eta (S a ++ S b), this]
@[go_sem] theorem S_append_lit (a b : List UInt8) : S a ++ (⟨b.toArray⟩ : ByteArray) = S (a ++ b) := S_append a b
@[go_sem] theorem lit_append_S (a b : List UInt8) : (⟨a.toArray⟩ : ByteArray) ++ S b = S (a ++ b) := S_append a b
@[go_sem] theorem lit_get (l : List UInt8) (i : Nat) (h : i < (⟨l.toArray⟩ : ByteArray).size) : (⟨l.toArray⟩ : ByteArray)[i]'h = l[i]'(by simpa [ByteArray.size] using h) := S_get l i h
theorem u8_beq (x c : UInt8) : ((x.toNat : Int) == (c.toNat : Int)) = (x == c) := by
  rw [Bool.eq_iff_iff, beq_iff_eq, beq_iff_eq]
  exact ⟨fun h => UInt8.toNat_inj.1 (by omega), fun h => by rw [h]⟩
theorem u8_bne (x c : UInt8) : ((x.toNat : Int) != (c.toNat : Int)) = (x != c) := by
  unfold bne; rw [u8_beq]
theorem S_inj {a b : List UInt8} (h : S a = S b) : a = b := by rw [← S_data a, h, S_data]
end
/-! ### The walks of package path's small functions. -/
section
open Go.RowKit
set_option linter.unusedVariables false

/-- May a byte stand in a segment? -/
def plainB (c : UInt8) : Bool := (decide (97 ≤ c.toNat) && decide (c.toNat ≤ 122)) || (decide (65 ≤ c.toNat) && decide (c.toNat ≤ 90)) || (decide (48 ≤ c.toNat) && decide (c.toNat ≤ 57)) || decide (c.toNat = 46) || decide (c.toNat = 45) || decide (c.toNat = 95)
def segB (l : List UInt8) : Bool := !(l == []) && !(l == [46]) && !(l == [46, 46]) && l.all plainB
/-- A digit of base 16. -/
def digI (c : UInt8) : Int :=
  if 48 ≤ c.toNat ∧ c.toNat ≤ 57 then c.toNat - 48 else if 97 ≤ c.toNat ∧ c.toNat ≤ 102 then c.toNat - 87 else if 65 ≤ c.toNat ∧ c.toNat ≤ 70 then c.toNat - 55 else -1

set_option maxHeartbeats 400000 in
theorem plain_any {R : Ending → World → Prop} (c : UInt8) (w : World) (h : R (.returned (.bool (plainB c))) w) : Calls Tryz.prog 86 #[.int .u8 c.toNat] w R := by
  go_enter Tryz.func86, Tryz.ntmps86
  go_wp2
  all_goals (refine rcast h (congrArg Value.bool ?_); rw [Bool.eq_iff_iff]; simp [plainB] <;> omega)

set_option maxHeartbeats 400000 in
theorem digit_any {R : Ending → World → Prop} (c : UInt8) (w : World) (h : R (.returned (.int .i64 (digI c))) w) : Calls Tryz.prog 85 #[.int .u8 c.toNat] w R := by
  have hc := c.toNat_lt
  go_enter Tryz.func85, Tryz.ntmps85
  go_wp2
  all_goals (refine ricast h ?_; unfold digI; (repeat' split) <;> omega)
theorem all_snoc (l : List UInt8) (p : UInt8 → Bool) (k : Nat) (h : k < l.length) : (l.take (k + 1)).all p = ((l.take k).all p && p l[k]) := by
  rw [List.take_succ_eq_append_getElem h, List.all_append]; simp
theorem all_stop {l : List UInt8} {p : UInt8 → Bool} {k : Nat} {h : k < l.length} (hn : p l[k] = false) : l.all p = false := by
  rw [List.all_eq_false]; exact ⟨_, List.getElem_mem h, by simp [hn]⟩
set_option maxHeartbeats 800000 in
theorem seg_any {R : Ending → World → Prop} (l : List UInt8) (w : World) (h0 : l.length ≤ 2000000) (h : R (.returned (.bool (segB l))) w) : Calls Tryz.prog 124 #[.string (S l)] w R := by
  have H := Lib.hid h
  clear h
  by_cases e1 : l = []
  · subst e1
    go_enter Tryz.func124, Tryz.ntmps124
    go_wp2
    exact H.out
  by_cases e2 : l = [46]
  · subst e2
    go_enter Tryz.func124, Tryz.ntmps124
    go_wp2
    exact H.out
  by_cases e3 : l = [46, 46]
  · subst e3
    go_enter Tryz.func124, Tryz.ntmps124
    go_wp2
    exact H.out
  have b1 : l.isEmpty = false := by simpa using e1
  have b2 : (l == [46]) = false := by simpa using e2
  have b3 : (l == [46, 46]) = false := by simpa using e3
  have E1 := Lib.hid e1
  clear e1 e2 e3
  go_enter Tryz.func124, Tryz.ntmps124
  go_wp2
  have G2 := Lib.hid b2
  have G3 := Lib.hid b3
  clear b1 b2 b3
  go_loop [16] (fun k => ∃ n : Nat, n ≤ l.length ∧ k = .int .i64 n ∧ (l.take n).all plainB = true) (fun k => l.length - (intOf k).toNat)
  case atStart => exact ⟨0, Nat.zero_le _, rfl, by simp⟩
  case round =>
    obtain ⟨n, hn, rfl, ha⟩ := hrel
    have HA := Lib.hid ha
    clear ha
    by_cases hlt : n < l.length
    · cases hp : plainB l[n]
      · have HP := Lib.hid hp
        clear hp
        go_wp2_with (go_at_call 86; refine plain_any _ _ ?_; rw [HP.out])
        refine rcast H.out (congrArg Value.bool ?_)
        rw [segB, all_stop HP.out, Bool.and_false]
      · have HP := Lib.hid hp
        clear hp
        go_wp2_with (go_at_call 86; refine plain_any _ _ ?_; rw [HP.out])
        go_round
        case rel => exact ⟨n + 1, by omega, by go_num, by rw [all_snoc l _ n hlt, HA.out, HP.out]; rfl⟩
        case measure => simp [intOf]; omega
    · go_wp2
      refine rcast H.out (congrArg Value.bool ?_)
      have e : n = l.length := by omega
      subst e
      have := HA.out
      rw [List.take_length] at this
      rw [segB, G2.out, G3.out, this]
      have := E1.out
      simp [this]
end
/-! ### Plain words for texts: cut at a byte, split at a byte, the last place of a byte; and what the shelf's words are in these. -/
section
open Go.RowKit
set_option linter.unusedVariables false

/-- What stands ahead of the first c, and behind it. -/
def bef (c : UInt8) : List UInt8 → List UInt8
  | [] => []
  | x :: r => if x = c then [] else x :: bef c r
def aft (c : UInt8) : List UInt8 → List UInt8
  | [] => []
  | x :: r => if x = c then r else aft c r
/-- The pieces between the c's. -/
def spl (c : UInt8) : List UInt8 → List (List UInt8)
  | [] => [[]]
  | x :: r => if x = c then [] :: spl c r else (x :: (spl c r).headD []) :: (spl c r).tail
theorem index_cons (c x : UInt8) (r : List UInt8) : Lib.index (x :: r) [c] = if x = c then 0 else if Lib.index r [c] = -1 then -1 else Lib.index r [c] + 1 := by
  rw [Lib.index]
  by_cases h : x = c
  · subst h; simp [List.isPrefixOf]
  · have hp : ([c] : List UInt8).isPrefixOf (x :: r) = false := by simp [List.isPrefixOf, Ne.symm h]
    rw [hp, if_neg h]; simp
theorem index_bef (c : UInt8) (l : List UInt8) : Lib.index l [c] = if l.contains c then ((bef c l).length : Int) else -1 := by
  induction l with
  | nil => simp [Lib.index]
  | cons x r ih =>
    rw [index_cons, ih]
    by_cases h : x = c
    · subst h; simp [bef]
    · have h' : ¬ c = x := Ne.symm h
      rw [if_neg h, List.contains_cons]
      have e : (c == x) = false := by simpa using h'
      rw [e, Bool.false_or, bef, if_neg h]
      cases hc : r.contains c
      · simp
      · have : ¬ ((bef c r).length : Int) = -1 := by omega
        simp [this]
theorem bef_aft {c : UInt8} {l : List UInt8} (h : l.contains c = true) : l = bef c l ++ c :: aft c l := by
  induction l with
  | nil => simp at h
  | cons x r ih =>
    by_cases e : x = c
    · subst e; simp [bef, aft]
    · have hc : r.contains c = true := by
        rw [List.contains_cons] at h
        have e' : (c == x) = false := by simpa using Ne.symm e
        rwa [e', Bool.false_or] at h
      rw [bef, aft, if_neg e, if_neg e, List.cons_append, ← ih hc]
theorem bef_not (c : UInt8) (l : List UInt8) : (bef c l).contains c = false := by
  induction l with
  | nil => rfl
  | cons x r ih =>
    rw [bef]; split
    · rfl
    · rw [List.contains_cons, ih, Bool.or_false]; simpa using Ne.symm ‹_›
theorem bef_self {c : UInt8} {l : List UInt8} (h : l.contains c = false) : bef c l = l ∧ aft c l = [] := by
  induction l with
  | nil => exact ⟨rfl, rfl⟩
  | cons x r ih =>
    rw [List.contains_cons, Bool.or_eq_false_iff] at h
    have e : ¬ x = c := by have := h.1; simp at this; exact Ne.symm this
    obtain ⟨h1, h2⟩ := ih h.2
    rw [bef, aft, if_neg e, if_neg e, h1, h2]; exact ⟨rfl, rfl⟩
theorem bef_len (c : UInt8) (l : List UInt8) : (bef c l).length ≤ l.length := by
  induction l with
  | nil => exact Nat.le_refl _
  | cons x r ih => rw [bef]; split <;> simp <;> omega
theorem aft_len (c : UInt8) (l : List UInt8) : (aft c l).length ≤ l.length := by
  induction l with
  | nil => exact Nat.le_refl _
  | cons x r ih => rw [aft]; split <;> simp <;> omega
theorem take_bef {c : UInt8} {l : List UInt8} (h : l.contains c = true) : l.take (bef c l).length = bef c l ∧ l.drop ((bef c l).length + 1) = aft c l := by
  have e := bef_aft h
  generalize bef c l = p at e ⊢
  generalize aft c l = q at e ⊢
  subst e
  simp
theorem cut_eq (c : UInt8) (l : List UInt8) : Lib.cut l [c] = (bef c l, aft c l, l.contains c) := by
  unfold Lib.cut
  rw [index_bef]
  cases h : l.contains c
  · obtain ⟨h1, h2⟩ := bef_self h
    rw [h1, h2]; simp
  · obtain ⟨h1, h2⟩ := take_bef h
    simp only [if_true, Int.toNat_natCast]
    rw [if_pos (by omega)]
    exact Prod.ext h1 (Prod.ext h2 rfl)
theorem spl_ne (c : UInt8) (l : List UInt8) : spl c l ≠ [] := by
  cases l with
  | nil => simp [spl]
  | cons x r => rw [spl]; split <;> simp
theorem spl_eq (c : UInt8) (l : List UInt8) : spl c l = if l.contains c then bef c l :: spl c (aft c l) else [l] := by
  induction l with
  | nil => rfl
  | cons x r ih =>
    rw [spl, bef, aft, List.contains_cons]
    by_cases h : x = c
    · subst h; simp
    · have e : (c == x) = false := by simpa using Ne.symm h
      rw [if_neg h, if_neg h, if_neg h, e, Bool.false_or, ih]
      cases hc : r.contains c <;> simp
theorem splitK_eq (c : UInt8) : ∀ (k : Nat) (l : List UInt8), l.count c = k → Lib.splitK [c] 0 k l = spl c l := by
  intro k
  induction k with
  | zero =>
    intro l h
    have hc : l.contains c = false := by
      rw [List.count_eq_zero] at h
      simpa using h
    rw [spl_eq, hc]; rfl
  | succ k ih =>
    intro l h
    have hc : l.contains c = true := by
      have : 0 < l.count c := by omega
      rw [List.count_pos_iff] at this
      simpa using this
    have e := bef_aft hc
    have hn := bef_not c l
    have hi : Lib.index l [c] = ((bef c l).length : Int) := by rw [index_bef, hc]; rfl
    have hca : (aft c l).count c = k := by
      have h' := h
      rw [e, List.count_append, List.count_cons_self] at h'
      have : (bef c l).count c = 0 := by rw [List.count_eq_zero]; simpa using hn
      omega
    obtain ⟨h1, h2⟩ := take_bef hc
    have hne : ¬ (((bef c l).length : Int) == -1) = true := by rw [beq_iff_eq]; omega
    rw [Lib.splitK, hi, if_neg hne, spl_eq, hc, if_pos rfl, ← ih _ hca]
    simp only [Int.toNat_natCast, Nat.add_zero, List.length_singleton]
    rw [h1, h2]
theorem splitB_spl (c : UInt8) (l : List UInt8) : Lib.splitB (S [c]) 0 (Lib.countB (S l) (S [c])) (S l) = (spl c l).map S := by
  have hk : Lib.countB (S l) (S [c]) = l.count c := by
    show Lib.count (S l).data.toList (S [c]).data.toList = _
    rw [S_data, S_data, Lib.count_one]
  have h := Lib.splitB_data (S [c]) 0 (Lib.countB (S l) (S [c])) (S l)
  rw [S_data, S_data, splitK_eq c _ _ hk.symm] at h
  have h2 := congrArg (List.map S) h
  rw [List.map_map] at h2
  rw [← h2]
  conv => lhs; rw [← List.map_id (Lib.splitB _ _ _ _)]
  exact List.map_congr_left (fun s _ => S_eta s)
theorem spl_len (c : UInt8) (l : List UInt8) : (spl c l).length = l.count c + 1 := by
  induction l with
  | nil => rfl
  | cons x r ih =>
    rw [spl]
    split
    · rename_i h; subst h; simp [ih]
    · rename_i h
      rw [List.length_cons, List.length_tail, ih, List.count_cons_of_ne (by simpa using h)]
      omega
theorem spl_mem_len (c : UInt8) (l : List UInt8) : ∀ p ∈ spl c l, p.length ≤ l.length := by
  induction l with
  | nil => simp [spl]
  | cons x r ih =>
    intro p hp
    rw [spl] at hp
    split at hp
    · rcases List.mem_cons.1 hp with rfl | hp
      · simp
      · have := ih p hp; simp; omega
    · rcases List.mem_cons.1 hp with rfl | hp
      · cases hs : spl c r with
        | nil => simp
        | cons q qs => have := ih q (by rw [hs]; simp); simp; omega
      · have := ih p (List.mem_of_mem_tail hp); simp; omega
/-- What stands behind the last c (all of it, where there is none). -/
def lst (c : UInt8) (l : List UInt8) : List UInt8 := (l.reverse.takeWhile (fun x => !(x == c))).reverse
theorem occ_one (l : List UInt8) (c : UInt8) (k : Nat) : Lib.occAt l [c] k = (l[k]? == some c) := by
  unfold Lib.occAt
  cases h : l[k]? with
  | none =>
    rw [List.drop_eq_nil_of_le (by simpa using h)]; rfl
  | some x =>
    obtain ⟨hk, hx⟩ := List.getElem?_eq_some_iff.1 h
    rw [List.drop_eq_getElem_cons hk, hx]
    simp [List.isPrefixOf]
    exact Bool.eq_iff_iff.2 ⟨fun h => by simpa using (beq_iff_eq.1 h).symm, fun h => by simpa using (beq_iff_eq.1 h).symm⟩
theorem lst_append (c : UInt8) (a b : List UInt8) (h : b.contains c = false) : lst c (a ++ c :: b) = b := by
  unfold lst
  rw [List.reverse_append, List.reverse_cons, List.append_assoc, List.takeWhile_append_of_pos (by
    intro x hx
    have hx' : x ∈ b := by simpa using hx
    simp only [Bool.not_eq_true', beq_eq_false_iff_ne]
    rintro rfl
    have : b.contains x = true := by simpa using hx'
    rw [h] at this; cases this)]
  simp
theorem lst_none (c : UInt8) (l : List UInt8) (h : l.contains c = false) : lst c l = l := by
  unfold lst
  have e : l.reverse.takeWhile (fun x => !(x == c)) = l.reverse := by
    have := List.takeWhile_append_of_pos (p := fun x => !(x == c)) (l₁ := l.reverse) (l₂ := []) (by
      intro x hx
      have hx' : x ∈ l := by simpa using hx
      simp only [Bool.not_eq_true', beq_eq_false_iff_ne]
      rintro rfl
      have : l.contains x = true := by simpa using hx'
      rw [h] at this; cases this)
    simpa using this
  rw [e, List.reverse_reverse]
/-- strings.LastIndex at one byte: -1 and there is none; or the place ahead of 'lst'. -/
theorem last_cases (l : List UInt8) (c : UInt8) :
    (Lib.lastIndex l [c] = -1 ∧ l.contains c = false) ∨ (∃ i : Nat, Lib.lastIndex l [c] = i ∧ i < l.length ∧ l = l.take i ++ c :: l.drop (i + 1) ∧ (l.drop (i + 1)).contains c = false) := by
  unfold Lib.lastIndex
  by_cases h0 : ([c] : List UInt8).length ≤ l.length
  · rw [if_pos h0]
    have e : l.length - ([c] : List UInt8).length + 1 = l.length := by simp at h0 ⊢; omega
    rw [e]
    rcases Lib.lastOcc_spec l [c] l.length with ⟨h, hn⟩ | ⟨i, hi, h, ho, hn⟩
    · left
      refine ⟨h, ?_⟩
      rw [List.contains_eq_any_beq, List.any_eq_false]
      intro x hx
      obtain ⟨j, hj⟩ := List.getElem?_of_mem hx
      have hjl : j < l.length := (List.getElem?_eq_some_iff.1 hj).1
      have := hn j hjl
      rw [occ_one, hj] at this
      simp at this ⊢
      exact Ne.symm this
    · right
      refine ⟨i, h, hi, ?_, ?_⟩
      · rw [occ_one] at ho
        have ho' : l[i]? = some c := by simpa using ho
        have e2 : l[i] = c := (List.getElem?_eq_some_iff.1 ho').2
        rw [← e2, ← List.drop_eq_getElem_cons hi, List.take_append_drop]
      · rw [List.contains_eq_any_beq, List.any_eq_false]
        intro x hx
        obtain ⟨j, hj⟩ := List.getElem?_of_mem hx
        rw [List.getElem?_drop] at hj
        have hjl : i + 1 + j < l.length := (List.getElem?_eq_some_iff.1 hj).1
        have := hn (i + 1 + j) (by omega) hjl
        rw [occ_one, hj] at this
        simp at this ⊢
        exact Ne.symm this
  · rw [if_neg h0]
    left
    have : l = [] := by cases l with | nil => rfl | cons => simp at h0
    subst this
    exact ⟨rfl, rfl⟩
theorem last_lst (l : List UInt8) (c : UInt8) : l.drop (Lib.lastIndex l [c] + 1).toNat = lst c l := by
  rcases last_cases l c with ⟨h, hc⟩ | ⟨i, h, hi, e, hc⟩
  · rw [h, lst_none c l hc]; rfl
  · rw [h]
    conv => rhs; rw [e]
    rw [lst_append _ _ _ hc]
    congr 1
end
/-! ### The library's contracts in the words of these texts. -/
section
open Go.RowKit
set_option linter.unusedVariables false

/-- The library's variable MaxLen holds some number. -/
def Ml (w : World) : Prop := ∃ m, w.cell? ⟨0, 0, none⟩ = some (.int .i64 m)
theorem ml_of_shape {w : World} (h : w.ShapedOpen Tryz.prog) : Ml w :=
  Go.Proofs.cell_of_shapedOpen_int (zero := #[.int .i64 0]) (t := 3) h (of_decide_eq_true (by kernel_rfl)) (by kernel_rfl) rfl (by kernel_rfl) (by kernel_rfl) Tryz.underlying3
theorem Ml.kp {w w' : World} (h : Ml w) (hk : Kp [] w w') : Ml w' := by
  obtain ⟨m, hm⟩ := h
  exact ⟨m, by rw [hk.cell (World.block_lt_of_cell? w _ hm) (by simp)]; exact hm⟩
theorem Ml.kpS {S : List Nat} {w w' : World} (h : Ml w) (hk : Kp S w w') (hS : 0 ∉ S) : Ml w' := by
  obtain ⟨m, hm⟩ := h
  exact ⟨m, by rw [hk.cell (World.block_lt_of_cell? w _ hm) hS]; exact hm⟩
theorem Ml.drewN {w : World} (h : Ml w) (n : Nat) : Ml (w.drewN n) := h
section
variable {R : Ending → World → Prop} {w : World}
theorem cut_any (l : List UInt8) (c : UInt8) (hm : Ml w) (hl : l.length ≤ 2000000) (h : ∀ n, R (.returned (.tuple #[.string (S (bef c l)), .string (S (aft c l)), .bool (l.contains c)])) (w.drewN n)) :
    Calls Tryz.prog 68 #[.string (S l), .string ⟨#[c]⟩] w R := by
  obtain ⟨m, hm⟩ := hm
  refine (Tryz.strings_Cut (S l) (S [c]) m w (by rw [S_size]; omega) hm).mono fun e w' ⟨he, n, hw⟩ => ?_
  rw [S_data, S_data, cut_eq] at he
  subst he; subst hw
  exact h n
theorem pre_any (l : List UInt8) (c : UInt8) (h : R (.returned (.bool (l.head? == some c))) w) : Calls Tryz.prog 42 #[.string (S l), .string ⟨#[c]⟩] w R := by
  refine (Tryz.strings_HasPrefix (S l) (S [c]) w).mono fun e w' ⟨he, hw⟩ => ?_
  rw [S_data, S_data] at he
  have e2 : Lib.hasPrefix l [c] = (l.head? == some c) := by
    cases l with
    | nil => rfl
    | cons x r =>
      simp only [Lib.hasPrefix, List.isPrefixOf, List.head?_cons]
      exact Bool.eq_iff_iff.2 ⟨fun h => by simp at h; simp [h], fun h => by simp at h; simp [h]⟩
  rw [e2] at he
  subst he; subst hw
  exact h
/-- A row of strings, as a slice's cells. -/
def strs (ps : List (List UInt8)) : List Value := ps.map fun p => .string (S p)
theorem split_any (l : List UInt8) (c : UInt8) (hm : Ml w) (hl : l.length ≤ 2000000)
    (h : ∀ g w', w.heap.size ≤ g → Bk w' g 9 (strs (spl c l)) → Kp [] w w' → R (.returned (.slice (some ⟨g, 0, none⟩) (spl c l).length (spl c l).length)) w') :
    Calls Tryz.prog 120 #[.string (S l), .string ⟨#[c]⟩] w R := by
  obtain ⟨m, hm⟩ := hm
  refine (Tryz.strings_Split (S l) (S [c]) m w (by rw [S_size]; omega) hm (by rw [S_size]; exact Nat.le_refl 1)).mono fun e w' ⟨he, hw⟩ => ?_
  have hk : Lib.countB (S l) (S [c]) = l.count c := by
    show Lib.count (S l).data.toList (S [c]).data.toList = _
    rw [S_data, S_data, Lib.count_one]
  rw [splitB_spl] at hw
  rw [hk, ← spl_len] at he
  subst he; subst hw
  refine h _ _ (Nat.le_refl _) ?_ ((Kp.refl _ _).alloc _)
  have e : ((spl c l).map S).map Value.string = strs (spl c l) := by simp [strs]
  rw [e]
  exact Bk.new w _ _
end
end
/-! ### path.Name. -/
section
open Go.RowKit
set_option linter.unusedVariables false

def nameB (l : List UInt8) : Bool := decide (l.length ≤ 24) && (spl 47 l).all segB
theorem strs_at {ps : List (List UInt8)} {n : Nat} {p : List UInt8} (h : ps[n]? = some p) : (strs ps)[n]? = some (.string (S p)) := by simp [strs, h]
theorem allof_snoc {α : Type} (l : List α) (p : α → Bool) (k : Nat) {x : α} (h : l[k]? = some x) : (l.take (k + 1)).all p = ((l.take k).all p && p x) := by
  obtain ⟨hk, hx⟩ := List.getElem?_eq_some_iff.1 h
  rw [List.take_succ_eq_append_getElem hk, List.all_append, hx]; simp
theorem allof_stop {α : Type} {l : List α} {p : α → Bool} {x : α} {k : Nat} (h : l[k]? = some x) (hn : p x = false) : l.all p = false := by
  rw [List.all_eq_false]; exact ⟨x, List.mem_of_getElem? h, by simp [hn]⟩
set_option maxHeartbeats 800000 in
theorem name_any {R : Ending → World → Prop} (l : List UInt8) (w : World) (hm : Ml w) (h : ∀ w', Kp [] w w' → R (.returned (.bool (nameB l))) w') : Calls Tryz.prog 87 #[.string (S l)] w R := by
  have H := Lib.hid h
  clear h
  by_cases hl : l.length ≤ 24
  · go_enter Tryz.func87, Tryz.ntmps87
    go_wp2_with (go_at_call 120; refine split_any l 47 hm (by omega) ?_; intro g w1 hg hb hk)
    have HK := Lib.hid hk
    clear hk
    have hml := spl_mem_len 47 l
    have HM := Lib.hid hml
    clear hml
    have hnn : (spl 47 l).length ≤ l.length + 1 := by rw [spl_len]; have := List.count_le_length (a := (47 : UInt8)) (l := l); omega
    have HN : nameB l = (spl 47 l).all segB := by unfold nameB; rw [decide_eq_true hl, Bool.true_and]
    have HN := Lib.hid HN
    generalize spl 47 l = ps at *
    go_loop [11] (fun k => ∃ n : Nat, n ≤ ps.length ∧ k = .int .i64 n ∧ (ps.take n).all segB = true) (fun k => ps.length - (intOf k).toNat)
    case atStart => exact ⟨0, Nat.zero_le _, rfl, by simp⟩
    case round =>
      obtain ⟨n, hn, rfl, ha⟩ := hrel
      have HA := Lib.hid ha
      clear ha
      by_cases hlt : n < ps.length
      · obtain ⟨p, hp⟩ : ∃ p, ps[n]? = some p := ⟨_, List.getElem?_eq_getElem hlt⟩
        have HP := Lib.hid hp
        have hc : w1.cell? ⟨g, n, none⟩ = some (.string (S p)) := by rw [hb.cell, strs_at hp]
        have hpl := HM.out p (List.mem_of_getElem? hp)
        clear hp
        cases hs : segB p
        · have HS := Lib.hid hs
          clear hs
          go_wp2_with (go_at_call 124; refine seg_any _ _ (by omega) ?_; rw [HS.out])
          refine rcast (H.out w1 HK.out) (congrArg Value.bool ?_)
          rw [HN.out, allof_stop HP.out HS.out]
        · have HS := Lib.hid hs
          clear hs
          go_wp2_with (go_at_call 124; refine seg_any _ _ (by omega) ?_; rw [HS.out])
          go_round
          case rel => exact ⟨n + 1, by omega, by go_num, by rw [allof_snoc ps _ n HP.out, HA.out, HS.out]; rfl⟩
          case measure => simp [intOf]; omega
      · go_wp2
        refine rcast (H.out w1 HK.out) (congrArg Value.bool ?_)
        have e : n = ps.length := by omega
        subst e
        have := HA.out
        rw [List.take_length] at this
        rw [HN.out, this]
  · go_enter Tryz.func87, Tryz.ntmps87
    go_wp2
    refine rcast (H.out w (Kp.refl _ _)) (congrArg Value.bool ?_)
    unfold nameB; rw [decide_eq_false hl, Bool.false_and]
end
end Go.Proofs.YtnmafahbdfilcaaGreatDoor
