/- Strings as lists of bytes: the walk's words for a string that is written 'S l'. The document's table: its rows. -/
import Derived.Test.YtedblbpmlbjnhaaGreatPD1
import Derived.Test.YtedblbpmlbjnhaaGreatRows
import Derived.Test.YtedblbpmlbjnhaaGreatPD12
import Derived.BigRegion
import Derived.Deep.CutBlock
import Derived.Deep.RegionLaw
import Derived.Test.YtedblbpmlbjnhaaGreatPD8
namespace Go.Proofs.YtedblbpmlbjnhaaGreat
/-! ### Strings as lists of bytes: the walk's words for a string that is written 'S l'. -/
section
open Go.RowKit
set_option linter.unusedVariables false

/-- The string of these bytes. -/
def S (l : List UInt8) : ByteArray := ⟨l.toArray⟩
theorem S_eta (s : ByteArray) : s = S s.data.toList := by cases s; simp [S]
@[go_sem] theorem S_size (l : List UInt8) : (S l).size = l.length := by simp [S, ByteArray.size]
@[go_sem] theorem S_data (l : List UInt8) : (S l).data.toList = l := by simp [S]
@[go_sem] theorem S_toList (l : List UInt8) : (S l).toList = l := by rw [ByteArray.toList_eq, S_data]
@[go_sem] theorem S_get (l : List UInt8) (i : Nat) (h : i < (S l).size) : (S l)[i]'h = l[i]'(by rwa [S_size] at h) := by
  show (S l).data[i]'_ = _
  simp [S]
@[go_sem] theorem S_extract (l : List UInt8) (a b : Nat) : (S l).extract a b = S ((l.take b).drop a) := by
  have h := ByteArray.extract_mk l a b
  unfold S
  rw [h, List.drop_take]
@[go_sem] theorem lit_extract (l : List UInt8) (a b : Nat) : (⟨l.toArray⟩ : ByteArray).extract a b = S ((l.take b).drop a) := S_extract l a b
@[go_sem] theorem S_append (a b : List UInt8) : S a ++ S b = S (a ++ b) := by
  have : (S a ++ S b).data.toList = a ++ b := by
    simp [S]
  rw [S_eta (S a ++ S b), this]
@[go_sem] theorem S_append_lit (a b : List UInt8) : S a ++ (⟨b.toArray⟩ : ByteArray) = S (a ++ b) := S_append a b
@[go_sem] theorem lit_append_S (a b : List UInt8) : (⟨a.toArray⟩ : ByteArray) ++ S b = S (a ++ b) := S_append a b
@[go_sem] theorem lit_get (l : List UInt8) (i : Nat) (h : i < (⟨l.toArray⟩ : ByteArray).size) : (⟨l.toArray⟩ : ByteArray)[i]'h = l[i]'(by simpa [ByteArray.size] using h) := S_get l i h
end
/-! ### The document's table: its rows. -/
section
open Go.RowKit
set_option linter.unusedVariables false
set_option linter.unusedSimpArgs false
set_option maxRecDepth 100000

/-- A row whose first cells read xs. -/
def Tw (w : World) (g t : Nat) (xs : List Value) : Prop := ∃ ys, Bk w g t (xs ++ ys)
section
variable {w w' : World} {g t : Nat} {xs : List Value} {S : List Nat}
theorem Tw.lt (h : Tw w g t xs) : g < w.heap.size := by obtain ⟨ys, h⟩ := h; exact h.lt
theorem Tw.kp (h : Tw w g t xs) (hk : Kp S w w') (hn : g ∉ S) : Tw w' g t xs := by obtain ⟨ys, h⟩ := h; exact ⟨ys, h.kp hk hn⟩
theorem Tw.cell (h : Tw w g t xs) {i : Nat} {v : Value} (hi : xs[i]? = some v) : w.cell? ⟨g, i, none⟩ = some v := by
  obtain ⟨ys, h⟩ := h
  rw [h.cell, List.getElem?_append_left (List.getElem?_eq_some_iff.1 hi).1, hi]
theorem Tw.frozen (h : Tw w g t xs) (i : Nat) : w.frozen? ⟨g, i, none⟩ = false := by obtain ⟨ys, h⟩ := h; exact h.frozen i
theorem Tw.set_ (h : Tw w g t xs) {i : Nat} (hi : i < xs.length) (u : Value) : Tw (w.setCell ⟨g, i, none⟩ u) g t (xs.set i u) := by
  obtain ⟨ys, h⟩ := h
  exact ⟨ys, (h.set_ i u).cast (List.set_append_left _ _ hi)⟩
theorem Tw.far (h : Tw w g t xs) {p : Addr} (hp : g ≠ p.block) (u : Value) : Tw (w.setCell p u) g t xs := by obtain ⟨ys, h⟩ := h; exact ⟨ys, h.far hp u⟩
theorem Tw.ne_ {g' t' : Nat} {xs' : List Value} (h : Tw w g t xs) (h' : Tw w g' t' xs') (hne : t ≠ t') : g ≠ g' := by
  obtain ⟨ys, h⟩ := h; obtain ⟨ys', h'⟩ := h'; exact h.ne_ h' hne
theorem Tw.ne_bk {g' t' : Nat} {xs' : List Value} (h : Tw w g t xs) (h' : Bk w g' t' xs') (hne : t ≠ t') : g ≠ g' := by
  obtain ⟨ys, h⟩ := h; exact h.ne_ h' hne
theorem Tw.cast {xs' : List Value} (h : Tw w g t xs) (e : xs = xs') : Tw w g t xs' := e ▸ h
theorem Ow.tw {e n c : Nat} {A : Option Addr} (h : Ow w e 1 A n c xs) (hn : 0 < n) : ∃ g, A = some ⟨g, 0, none⟩ ∧ Tw w g e xs := by
  rcases h.2 with ⟨_, h0⟩ | ⟨g, cap, cur, hv, hb, hg, hc, hm, hs, ht⟩
  · omega
  · injection hv with hA
    refine ⟨g, hA, cur.toList.drop (n * 1), ?_⟩
    rw [← ht, List.take_append_drop]
    unfold Bk
    rw [Array.toArray_toList]; exact hg
end
def owV (x : Fr) : Value := .int .i64 x.ow
def hoV (x : Fr) : Value := .int .i64 x.ho
def bsV (x : Fr) : Value := .string (S x.bs)
/-- The document's table with these frames. -/
structure RT (w : World) (bM bO bH bB : Nat) (fs : List Fr) : Prop where
  t : ∃ c0 c1 c2, Bk w bM 157 [.slice (some ⟨bO, 0, none⟩) fs.length c0, .slice (some ⟨bH, 0, none⟩) fs.length c1, .slice (some ⟨bB, 0, none⟩) fs.length c2]
  o : Tw w bO 3 (fs.map owV)
  h : Tw w bH 3 (fs.map hoV)
  b : Tw w bB 9 (fs.map bsV)
  ne : bO ≠ bH
  n1 : fs.length ≤ 256
section
variable {w w' : World} {bM bO bH bB : Nat} {fs : List Fr} {S' : List Nat}
theorem RT.kp (h : RT w bM bO bH bB fs) (hk : Kp S' w w') (h0 : bM ∉ S') (h1 : bO ∉ S') (h2 : bH ∉ S') (h3 : bB ∉ S') : RT w' bM bO bH bB fs := by
  obtain ⟨c0, c1, c2, ht⟩ := h.t
  exact ⟨⟨c0, c1, c2, ht.kp hk h0⟩, h.o.kp hk h1, h.h.kp hk h2, h.b.kp hk h3, h.ne, h.n1⟩
theorem RT.ow (h : RT w bM bO bH bB fs) {i : Nat} {x : Fr} (hx : fs[i]? = some x) : w.cell? ⟨bO, i, none⟩ = some (.int .i64 x.ow) := h.o.cell (by rw [List.getElem?_map, hx]; rfl)
theorem RT.ho (h : RT w bM bO bH bB fs) {i : Nat} {x : Fr} (hx : fs[i]? = some x) : w.cell? ⟨bH, i, none⟩ = some (.int .i64 x.ho) := h.h.cell (by rw [List.getElem?_map, hx]; rfl)
theorem RT.bs (h : RT w bM bO bH bB fs) {i : Nat} {x : Fr} (hx : fs[i]? = some x) : w.cell? ⟨bB, i, none⟩ = some (.string (S x.bs)) := h.b.cell (by rw [List.getElem?_map, hx]; rfl)
theorem map_set {α : Type} (f : α → Value) {l : List α} {i : Nat} {x y : α} {v : Value} (hx : l[i]? = some x) (hf : f y = v) : (l.map f).set i v = (l.set i y).map f := by rw [List.map_set, hf]
theorem map_set_same {α : Type} (f : α → Value) {l : List α} {i : Nat} {x y : α} (hx : l[i]? = some x) (hf : f y = f x) : l.map f = (l.set i y).map f := by
  rw [List.map_set, hf]
  apply List.ext_getElem (by simp)
  intro j h1 h2
  rw [List.getElem_set]
  split
  · rename_i h; subst h
    have := (List.getElem?_eq_some_iff.1 hx).2
    simp [this]
  · rfl
theorem RT.bmo (h : RT w bM bO bH bB fs) : bO ≠ bM ∧ bH ≠ bM ∧ bB ≠ bM ∧ bO ≠ bB ∧ bH ≠ bB := by
  obtain ⟨c0, c1, c2, ht⟩ := h.t
  exact ⟨h.o.ne_bk ht (by decide), h.h.ne_bk ht (by decide), h.b.ne_bk ht (by decide), h.o.ne_ h.b (by decide), h.h.ne_ h.b (by decide)⟩
theorem lt_of {α : Type} {l : List α} {i : Nat} {x : α} (hx : l[i]? = some x) : i < l.length := (List.getElem?_eq_some_iff.1 hx).1
theorem RT.putOw (h : RT w bM bO bH bB fs) {i : Nat} {x : Fr} (hx : fs[i]? = some x) (o : Int) : RT (w.setCell ⟨bO, i, none⟩ (.int .i64 o)) bM bO bH bB (fs.set i { x with ow := o }) := by
  obtain ⟨c0, c1, c2, ht⟩ := h.t
  obtain ⟨n1, n2, n3, n4, n5⟩ := h.bmo
  have hl : (fs.set i { x with ow := o }).length = fs.length := List.length_set ..
  refine ⟨⟨c0, c1, c2, by rw [hl]; exact ht.far (by exact fun e => n1 e.symm) _⟩, (h.o.set_ (i := i) (by rw [List.length_map]; exact lt_of hx) _).cast (map_set owV hx rfl), (h.h.far (by exact fun e => h.ne e.symm) _).cast (map_set_same hoV hx rfl), (h.b.far (by exact fun e => n4 e.symm) _).cast (map_set_same bsV hx rfl), h.ne, by rw [hl]; exact h.n1⟩
theorem RT.putHo (h : RT w bM bO bH bB fs) {i : Nat} {x : Fr} (hx : fs[i]? = some x) (o : Int) : RT (w.setCell ⟨bH, i, none⟩ (.int .i64 o)) bM bO bH bB (fs.set i { x with ho := o }) := by
  obtain ⟨c0, c1, c2, ht⟩ := h.t
  obtain ⟨n1, n2, n3, n4, n5⟩ := h.bmo
  have hl : (fs.set i { x with ho := o }).length = fs.length := List.length_set ..
  refine ⟨⟨c0, c1, c2, by rw [hl]; exact ht.far (by exact fun e => n2 e.symm) _⟩, (h.o.far (by exact h.ne) _).cast (map_set_same owV hx rfl), (h.h.set_ (i := i) (by rw [List.length_map]; exact lt_of hx) _).cast (map_set hoV hx rfl), (h.b.far (by exact fun e => n5 e.symm) _).cast (map_set_same bsV hx rfl), h.ne, by rw [hl]; exact h.n1⟩
theorem RT.putBs (h : RT w bM bO bH bB fs) {i : Nat} {x : Fr} (hx : fs[i]? = some x) (o : List UInt8) : RT (w.setCell ⟨bB, i, none⟩ (.string (S o))) bM bO bH bB (fs.set i { x with bs := o }) := by
  obtain ⟨c0, c1, c2, ht⟩ := h.t
  obtain ⟨n1, n2, n3, n4, n5⟩ := h.bmo
  have hl : (fs.set i { x with bs := o }).length = fs.length := List.length_set ..
  refine ⟨⟨c0, c1, c2, by rw [hl]; exact ht.far (by exact fun e => n3 e.symm) _⟩, (h.o.far (by exact n4) _).cast (map_set_same owV hx rfl), (h.h.far (by exact n5) _).cast (map_set_same hoV hx rfl), (h.b.set_ (i := i) (by rw [List.length_map]; exact lt_of hx) _).cast (map_set bsV hx rfl), h.ne, by rw [hl]; exact h.n1⟩
theorem RT.drewN (h : RT w bM bO bH bB fs) (k : Nat) : RT (w.drewN k) bM bO bH bB fs := h.kp ((Kp.refl [] w).drewN k) (by simp) (by simp) (by simp) (by simp)
theorem RT.drew (h : RT w bM bO bH bB fs) : RT w.drew bM bO bH bB fs := h.kp ((Kp.refl [] w).drew) (by simp) (by simp) (by simp) (by simp)
end
end
end Go.Proofs.YtedblbpmlbjnhaaGreat
