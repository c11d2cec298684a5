/- Strings as lists of bytes: the walk's words for a string that is written 'S l'. The document's table: its rows. pantlerref06: the document's disk in memory; may, See. -/
import Derived.Test.YtedblbpmlbjnhaaGreatPE1
import Derived.Test.YtedblbpmlbjnhaaGreatRows
import Derived.Test.YtedblbpmlbjnhaaGreatPE8
import Derived.BigRegion
import Derived.Deep.CutBlock
import Derived.Deep.RegionLaw
import Derived.Test.YtedblbpmlbjnhaaGreatPE6
import Derived.Test.YtedblbpmlbjnhaaGreatPE7
namespace Go.Proofs.YtedblbpmlbjnhaaGreat
/-! ### Strings as lists of bytes: the walk's words for a string that is written 'S l'. -/
section
open Go.RowKit
set_option linter.unusedVariables false

/-- The string of these bytes. -/
def S (l : List UInt8) : ByteArray := ⟨l.toArray⟩
theorem S_eta (s : ByteArray) : s = S s.data.toList := by cases s; simp [S]
@[go_sem] theorem S_size (l : List UInt8) : (S l).size = l.length := by simp [S, ByteArray.size]
@[go_sem] theorem S_data (l : List UInt8) : (S l).data.toList = l := by simp [S]
@[go_sem] theorem S_toList (l : List UInt8) : (S l).toList = l := by rw [ByteArray.toList_eq, S_data]
@[go_sem] theorem S_get (l : List UInt8) (i : Nat) (h : i < (S l).size) : (S l)[i]'h = l[i]'(by rwa [S_size] at h) := by
  show (S l).data[i]'_ = _
  simp [S]
@[go_sem] theorem S_extract (l : List UInt8) (a b : Nat) : (S l).extract a b = S ((l.take b).drop a) := by
  have h := ByteArray.extract_mk l a b
  unfold S
  rw [h, List.drop_take]
@[go_sem] theorem lit_extract (l : List UInt8) (a b : Nat) : (⟨l.toArray⟩ : ByteArray).extract a b = S ((l.take b).drop a) := S_extract l a b
@[go_sem] theorem S_append (a b : List UInt8) : S a ++ S b = S (a ++ b) := by
  have : (S a ++ S b).data.toList = a ++ b := by
    simp [S]
  rw [S_eta (S a ++ S b), this]
@[go_sem] theorem S_append_lit (a b : List UInt8) : S a ++ (⟨b.toArray⟩ : ByteArray) = S (a ++ b) := S_append a b
@[go_sem] theorem lit_append_S (a b : List UInt8) : (⟨a.toArray⟩ : ByteArray) ++ S b = S (a ++ b) := S_append a b
@[go_sem] theorem lit_get (l : List UInt8) (i : Nat) (h : i < (⟨l.toArray⟩ : ByteArray).size) : (⟨l.toArray⟩ : ByteArray)[i]'h = l[i]'(by simpa [ByteArray.size] using h) := S_get l i h
end
/-! ### The document's table: its rows. -/
section
open Go.RowKit
set_option linter.unusedVariables false
set_option linter.unusedSimpArgs false
set_option maxRecDepth 100000

/-- A row whose first cells read xs. -/
def Tw (w : World) (g t : Nat) (xs : List Value) : Prop := ∃ ys, Bk w g t (xs ++ ys)
section
variable {w w' : World} {g t : Nat} {xs : List Value} {S : List Nat}
theorem Tw.lt (h : Tw w g t xs) : g < w.heap.size := by obtain ⟨ys, h⟩ := h; exact h.lt
theorem Tw.kp (h : Tw w g t xs) (hk : Kp S w w') (hn : g ∉ S) : Tw w' g t xs := by obtain ⟨ys, h⟩ := h; exact ⟨ys, h.kp hk hn⟩
theorem Tw.cell (h : Tw w g t xs) {i : Nat} {v : Value} (hi : xs[i]? = some v) : w.cell? ⟨g, i, none⟩ = some v := by
  obtain ⟨ys, h⟩ := h
  rw [h.cell, List.getElem?_append_left (List.getElem?_eq_some_iff.1 hi).1, hi]
theorem Tw.frozen (h : Tw w g t xs) (i : Nat) : w.frozen? ⟨g, i, none⟩ = false := by obtain ⟨ys, h⟩ := h; exact h.frozen i
theorem Tw.set_ (h : Tw w g t xs) {i : Nat} (hi : i < xs.length) (u : Value) : Tw (w.setCell ⟨g, i, none⟩ u) g t (xs.set i u) := by
  obtain ⟨ys, h⟩ := h
  exact ⟨ys, (h.set_ i u).cast (List.set_append_left _ _ hi)⟩
theorem Tw.far (h : Tw w g t xs) {p : Addr} (hp : g ≠ p.block) (u : Value) : Tw (w.setCell p u) g t xs := by obtain ⟨ys, h⟩ := h; exact ⟨ys, h.far hp u⟩
theorem Tw.ne_ {g' t' : Nat} {xs' : List Value} (h : Tw w g t xs) (h' : Tw w g' t' xs') (hne : t ≠ t') : g ≠ g' := by
  obtain ⟨ys, h⟩ := h; obtain ⟨ys', h'⟩ := h'; exact h.ne_ h' hne
theorem Tw.ne_bk {g' t' : Nat} {xs' : List Value} (h : Tw w g t xs) (h' : Bk w g' t' xs') (hne : t ≠ t') : g ≠ g' := by
  obtain ⟨ys, h⟩ := h; exact h.ne_ h' hne
theorem Tw.cast {xs' : List Value} (h : Tw w g t xs) (e : xs = xs') : Tw w g t xs' := e ▸ h
theorem Ow.tw {e n c : Nat} {A : Option Addr} (h : Ow w e 1 A n c xs) (hn : 0 < n) : ∃ g, A = some ⟨g, 0, none⟩ ∧ Tw w g e xs := by
  rcases h.2 with ⟨_, h0⟩ | ⟨g, cap, cur, hv, hb, hg, hc, hm, hs, ht⟩
  · omega
  · injection hv with hA
    refine ⟨g, hA, cur.toList.drop (n * 1), ?_⟩
    rw [← ht, List.take_append_drop]
    unfold Bk
    rw [Array.toArray_toList]; exact hg
end
def owV (x : Fr) : Value := .int .i64 x.ow
def hoV (x : Fr) : Value := .int .i64 x.ho
def bsV (x : Fr) : Value := .string (S x.bs)
/-- The document's table with these frames. -/
structure RT (w : World) (bM bO bH bB : Nat) (fs : List Fr) : Prop where
  t : ∃ c0 c1 c2, Bk w bM 157 [.slice (some ⟨bO, 0, none⟩) fs.length c0, .slice (some ⟨bH, 0, none⟩) fs.length c1, .slice (some ⟨bB, 0, none⟩) fs.length c2]
  o : Tw w bO 3 (fs.map owV)
  h : Tw w bH 3 (fs.map hoV)
  b : Tw w bB 9 (fs.map bsV)
  ne : bO ≠ bH
  n1 : fs.length ≤ 256
section
variable {w w' : World} {bM bO bH bB : Nat} {fs : List Fr} {S' : List Nat}
theorem RT.kp (h : RT w bM bO bH bB fs) (hk : Kp S' w w') (h0 : bM ∉ S') (h1 : bO ∉ S') (h2 : bH ∉ S') (h3 : bB ∉ S') : RT w' bM bO bH bB fs := by
  obtain ⟨c0, c1, c2, ht⟩ := h.t
  exact ⟨⟨c0, c1, c2, ht.kp hk h0⟩, h.o.kp hk h1, h.h.kp hk h2, h.b.kp hk h3, h.ne, h.n1⟩
theorem RT.ow (h : RT w bM bO bH bB fs) {i : Nat} {x : Fr} (hx : fs[i]? = some x) : w.cell? ⟨bO, i, none⟩ = some (.int .i64 x.ow) := h.o.cell (by rw [List.getElem?_map, hx]; rfl)
theorem RT.ho (h : RT w bM bO bH bB fs) {i : Nat} {x : Fr} (hx : fs[i]? = some x) : w.cell? ⟨bH, i, none⟩ = some (.int .i64 x.ho) := h.h.cell (by rw [List.getElem?_map, hx]; rfl)
theorem RT.bs (h : RT w bM bO bH bB fs) {i : Nat} {x : Fr} (hx : fs[i]? = some x) : w.cell? ⟨bB, i, none⟩ = some (.string (S x.bs)) := h.b.cell (by rw [List.getElem?_map, hx]; rfl)
theorem map_set {α : Type} (f : α → Value) {l : List α} {i : Nat} {x y : α} {v : Value} (hx : l[i]? = some x) (hf : f y = v) : (l.map f).set i v = (l.set i y).map f := by rw [List.map_set, hf]
theorem map_set_same {α : Type} (f : α → Value) {l : List α} {i : Nat} {x y : α} (hx : l[i]? = some x) (hf : f y = f x) : l.map f = (l.set i y).map f := by
  rw [List.map_set, hf]
  apply List.ext_getElem (by simp)
  intro j h1 h2
  rw [List.getElem_set]
  split
  · rename_i h; subst h
    have := (List.getElem?_eq_some_iff.1 hx).2
    simp [this]
  · rfl
theorem RT.bmo (h : RT w bM bO bH bB fs) : bO ≠ bM ∧ bH ≠ bM ∧ bB ≠ bM ∧ bO ≠ bB ∧ bH ≠ bB := by
  obtain ⟨c0, c1, c2, ht⟩ := h.t
  exact ⟨h.o.ne_bk ht (by decide), h.h.ne_bk ht (by decide), h.b.ne_bk ht (by decide), h.o.ne_ h.b (by decide), h.h.ne_ h.b (by decide)⟩
theorem lt_of {α : Type} {l : List α} {i : Nat} {x : α} (hx : l[i]? = some x) : i < l.length := (List.getElem?_eq_some_iff.1 hx).1
theorem RT.putOw (h : RT w bM bO bH bB fs) {i : Nat} {x : Fr} (hx : fs[i]? = some x) (o : Int) : RT (w.setCell ⟨bO, i, none⟩ (.int .i64 o)) bM bO bH bB (fs.set i { x with ow := o }) := by
  obtain ⟨c0, c1, c2, ht⟩ := h.t
  obtain ⟨n1, n2, n3, n4, n5⟩ := h.bmo
  have hl : (fs.set i { x with ow := o }).length = fs.length := List.length_set ..
  refine ⟨⟨c0, c1, c2, by rw [hl]; exact ht.far (by exact fun e => n1 e.symm) _⟩, (h.o.set_ (i := i) (by rw [List.length_map]; exact lt_of hx) _).cast (map_set owV hx rfl), (h.h.far (by exact fun e => h.ne e.symm) _).cast (map_set_same hoV hx rfl), (h.b.far (by exact fun e => n4 e.symm) _).cast (map_set_same bsV hx rfl), h.ne, by rw [hl]; exact h.n1⟩
theorem RT.putHo (h : RT w bM bO bH bB fs) {i : Nat} {x : Fr} (hx : fs[i]? = some x) (o : Int) : RT (w.setCell ⟨bH, i, none⟩ (.int .i64 o)) bM bO bH bB (fs.set i { x with ho := o }) := by
  obtain ⟨c0, c1, c2, ht⟩ := h.t
  obtain ⟨n1, n2, n3, n4, n5⟩ := h.bmo
  have hl : (fs.set i { x with ho := o }).length = fs.length := List.length_set ..
  refine ⟨⟨c0, c1, c2, by rw [hl]; exact ht.far (by exact fun e => n2 e.symm) _⟩, (h.o.far (by exact h.ne) _).cast (map_set_same owV hx rfl), (h.h.set_ (i := i) (by rw [List.length_map]; exact lt_of hx) _).cast (map_set hoV hx rfl), (h.b.far (by exact fun e => n5 e.symm) _).cast (map_set_same bsV hx rfl), h.ne, by rw [hl]; exact h.n1⟩
theorem RT.putBs (h : RT w bM bO bH bB fs) {i : Nat} {x : Fr} (hx : fs[i]? = some x) (o : List UInt8) : RT (w.setCell ⟨bB, i, none⟩ (.string (S o))) bM bO bH bB (fs.set i { x with bs := o }) := by
  obtain ⟨c0, c1, c2, ht⟩ := h.t
  obtain ⟨n1, n2, n3, n4, n5⟩ := h.bmo
  have hl : (fs.set i { x with bs := o }).length = fs.length := List.length_set ..
  refine ⟨⟨c0, c1, c2, by rw [hl]; exact ht.far (by exact fun e => n3 e.symm) _⟩, (h.o.far (by exact n4) _).cast (map_set_same owV hx rfl), (h.h.far (by exact n5) _).cast (map_set_same hoV hx rfl), (h.b.set_ (i := i) (by rw [List.length_map]; exact lt_of hx) _).cast (map_set bsV hx rfl), h.ne, by rw [hl]; exact h.n1⟩
theorem RT.drewN (h : RT w bM bO bH bB fs) (k : Nat) : RT (w.drewN k) bM bO bH bB fs := h.kp ((Kp.refl [] w).drewN k) (by simp) (by simp) (by simp) (by simp)
theorem RT.drew (h : RT w bM bO bH bB fs) : RT w.drew bM bO bH bB fs := h.kp ((Kp.refl [] w).drew) (by simp) (by simp) (by simp) (by simp)
end
end
/-! ### pantlerref06: the document's disk in memory; may, See. -/
section
open Go.RowKit Go.Shelf
set_option linter.unusedVariables false
set_option linter.unusedSimpArgs false
set_option maxRecDepth 100000
/-- What the document's disk tells of its arming. -/
def leftM (d : DkS) : Int := if d.arm = true then d.left else -1
/-- A slice that reads xs, in a block of type e that is none of N. -/
def Nb (w : World) (N : List Nat) (e : Nat) (A : Option Addr) (xs : List Value) : Prop := xs ≠ [] → ∃ b off cs, A = some ⟨b, off, none⟩ ∧ b ∉ N ∧ Bz w b e cs ∧ ∀ j u, xs[j]? = some u → cs[off + j]? = some u
section
variable {w w' : World} {N S' : List Nat} {e : Nat} {A : Option Addr} {xs : List Value}
theorem Nb.nil : Nb w N e A [] := fun h => absurd rfl h
theorem Nb.kp (h : Nb w N e A xs) (hk : Kp S' w w') (hs : ∀ s ∈ S', s ∈ N ∨ w.heap.size ≤ s) : Nb w' N e A xs := fun hx => by
  obtain ⟨b, off, cs, rfl, hb, hz, hc⟩ := h hx
  refine ⟨b, off, cs, rfl, hb, hz.kp hk (fun hm => ?_), hc⟩
  rcases hs b hm with h1 | h1
  · exact hb h1
  · have := hz.lt; omega
theorem Nb.rd (h : Nb w N e A xs) : Rd w N A xs := fun hx => by
  obtain ⟨b, off, cs, rfl, hb, hz, hc⟩ := h hx
  exact ⟨b, off, rfl, hb, hz.lt, fun j u hu => by rw [hz.cell]; exact hc j u hu⟩
theorem Nb.sub {N' : List Nat} (h : Nb w N e A xs) (hs : ∀ s ∈ N', s ∈ N) : Nb w N' e A xs := fun hx => by
  obtain ⟨b, off, cs, rfl, hb, hz, hc⟩ := h hx
  exact ⟨b, off, cs, rfl, fun hm => hb (hs b hm), hz, hc⟩
theorem Ow.nb {sz n c : Nat} (h : Ow w e sz A n c xs) (hN : ∀ b ∈ bks A, b ∉ N) : Nb w N e A xs := fun hx => by
  obtain ⟨b, off, cs, rfl, hb, hc⟩ := h.tb hx
  exact ⟨b, off, cs, rfl, hN b (by simp [bks]), hb, hc⟩
end
def sV (l : List UInt8) : Value := .string (S l)
/-- A write that waits, the document's. -/
def mwV (x : Wr) : List Value := [.int .i64 x.b, .string (S x.s)]
theorem mwV_len (x : Wr) : (mwV x).length = 2 := rfl
/-- The document's disk in memory. -/
structure Dm (w : World) (bD bB bO : Nat) (A : Option Addr) (c : Nat) (d : DkS) : Prop where
  dd : ∃ cb co, Bk w bD 74 [.slice (some ⟨bB, 0, none⟩) d.bl.length cb, .slice (some ⟨bO, 0, none⟩) d.bl.length co, .slice A d.ln.length c, .bool d.off, .int .i64 (leftM d)]
  b : Tw w bB 9 (d.bl.map sV)
  o : Tw w bO 3 (ints d.ow)
  ln : Nb w [bD, bB] 225 A (d.ln.flatMap mwV)
  ne : bD ≠ bB
  ok : d.ok
section
variable {R : Ending → World → Prop} {w w' : World} {bD bB bO c : Nat} {A : Option Addr} {d : DkS}
theorem Dm.kp (h : Dm w bD bB bO A c d) (k : Kp [] w w') : Dm w' bD bB bO A c d := by
  obtain ⟨cb, co, hb⟩ := h.dd
  exact ⟨⟨cb, co, hb.kp k (by simp)⟩, h.b.kp k (by simp), h.o.kp k (by simp), h.ln.kp k (by simp), h.ne, h.ok⟩
set_option maxHeartbeats 2000000 in
theorem mmay_any0 (hd : Dm w bD bB bO A c d) (env b : Int) (h : R (.returned (.int .i64 (dMay d env b))) w) :
    Calls Tryz.prog 114 #[.pointer (some ⟨bD, 0, none⟩), .int .i64 env, .int .i64 b] w R := by
  obtain ⟨cb, co, hb⟩ := hd.dd
  have HB : Hid (∀ w', Kp [] w w' → w'.cell? ⟨bD, 0, none⟩ = some (.slice (some ⟨bB, 0, none⟩) d.bl.length cb) ∧ w'.cell? ⟨bD, 1, none⟩ = some (.slice (some ⟨bO, 0, none⟩) d.bl.length co) ∧ w'.cell? ⟨bD, 3, none⟩ = some (.bool d.off)) := Lib.hid (fun w' k => ⟨(hb.kp k (by simp)).cell 0, (hb.kp k (by simp)).cell 1, (hb.kp k (by simp)).cell 3⟩)
  obtain ⟨c0, c1, c3⟩ := HB.out w (Kp.refl _ _)
  have hn := hd.ok.n1
  have ho := hd.ok.ow
  have H := Lib.hid h
  clear h hb
  cases hof : d.off with
  | true =>
    have hm : dMay d env b = 30 := by simp [dMay, hof]
    rw [hof] at c3
    rw [hm] at H
    clear hm hd hof ho hn HB
    go_enter Tryz.func114, Tryz.ntmps114
    go_wp2
    exact H.out
  | false =>
    rw [hof] at c3
    by_cases h0 : b < 0
    · have hm : dMay d env b = 31 := by simp [dMay, hof, h0]
      rw [hm] at H
      have g0 : decide (b < 0) = true := by simpa using h0
      clear hm hd hof ho hn HB h0
      go_enter Tryz.func114, Tryz.ntmps114
      go_wp2
      exact H.out
    · have g0 : decide (b < 0) = false := by simpa using h0
      obtain ⟨k, rfl⟩ : ∃ k : Nat, b = k := ⟨b.toNat, by omega⟩
      by_cases h1 : d.bl.length ≤ k
      · have hm : dMay d env k = 31 := by
          unfold dMay
          rw [if_neg (by simp [hof]), if_pos (by omega)]
        rw [hm] at H
        have g1 : decide ((d.bl.length : Int) ≤ k) = true := by simp; omega
        have g2 : decide (d.bl.length ≤ k) = true := by simpa using h1
        clear hm hd hof ho hn HB h0
        go_enter Tryz.func114, Tryz.ntmps114
        go_wp2
        exact H.out
      · have g1 : decide ((d.bl.length : Int) ≤ k) = false := by simp; omega
        have g2 : decide (d.bl.length ≤ k) = false := by simpa using h1
        have hk : k < d.ow.length := by omega
        have e := List.getElem?_eq_getElem hk
        obtain ⟨o, hoe⟩ : ∃ o, d.ow[k] = o := ⟨_, rfl⟩
        rw [hoe] at e
        have HO : Hid (∀ w', Kp [] w w' → w'.cell? ⟨bO, k, none⟩ = some (.int .i64 o)) := Lib.hid (fun w' k' => (hd.o.kp k' (by simp)).cell (ints_at e))
        have hm : dMay d env k = if o = 0 ∨ o ≠ env then 20 else 0 := by
          unfold dMay
          rw [if_neg (by simp [hof]), if_neg (by omega), Int.toNat_natCast, e]
        have hkb : k < d.bl.length := by omega
        clear hd hof ho hoe e h0 hk h1
        by_cases h3 : o = env
        · by_cases h2 : env = 0
          · have hm2 : dMay d env k = 20 := by rw [hm, if_pos (by omega)]
            rw [hm2] at H
            have b2 : (env == 0) = true := by simp [h2]
            have b3 : (o != env) = false := by simp [h3]
            clear hm hm2 h2 h3
            have p4 := HO.out w (Kp.refl _ _)
            go_enter Tryz.func114, Tryz.ntmps114
            go_wp2
            exact H.out
          · have hm2 : dMay d env k = 0 := by rw [hm, if_neg (by omega)]
            rw [hm2] at H
            have b2 : (env == 0) = false := by simp [h2]
            have b3 : (o != env) = false := by simp [h3]
            clear hm hm2 h2 h3
            have p4 := HO.out w (Kp.refl _ _)
            go_enter Tryz.func114, Tryz.ntmps114
            go_wp2
            exact H.out
        · have hm2 : dMay d env k = 20 := by rw [hm, if_pos (Or.inr h3)]
          rw [hm2] at H
          have b3 : (o != env) = true := by simp [h3]
          clear hm hm2 h3
          have p4 := HO.out w (Kp.refl _ _)
          go_enter Tryz.func114, Tryz.ntmps114
          go_wp2
          exact H.out
set_option maxHeartbeats 2000000 in
theorem msee_any (hd : Dm w bD bB bO A c d) (b : Nat) (hb : b < d.bl.length) (hlm : d.ln.length ≤ 1000000) (h : ∀ w', Kp [] w w' → R (.returned (.string (S (dSee d b)))) w') :
    Calls Tryz.prog 115 #[.pointer (some ⟨bD, 0, none⟩), .int .i64 b] w R := by
  obtain ⟨cb, co, hbk⟩ := hd.dd
  have HD := Lib.hid hd
  have HB : Hid (∀ w', Kp [] w w' → w'.cell? ⟨bD, 0, none⟩ = some (.slice (some ⟨bB, 0, none⟩) d.bl.length cb) ∧ w'.cell? ⟨bD, 2, none⟩ = some (.slice A d.ln.length c)) := Lib.hid (fun w' k => ⟨(hbk.kp k (by simp)).cell 0, (hbk.kp k (by simp)).cell 2⟩)
  obtain ⟨c0, c2⟩ := HB.out w (Kp.refl _ _)
  obtain ⟨s0, hs0⟩ : ∃ s, d.bl[b]? = some s := ⟨_, List.getElem?_eq_getElem hb⟩
  have p0 : w.cell? ⟨bB, b, none⟩ = some (.string (S s0)) := hd.b.cell (by rw [List.getElem?_map, hs0]; rfl)
  have HE : Hid (dSee d b = (lastOf d.ln b).getD s0) := Lib.hid (by unfold dSee; rw [Int.toNat_natCast, hs0]; cases lastOf d.ln b <;> rfl)
  have H := Lib.hid h
  have hn := hd.ok.n1
  clear h hd hs0 hbk
  go_enter Tryz.func115, Tryz.ntmps115
  go_wp2
  clear c0 c2 p0
  go_loopw [5, 6] (fun sv iv wr => ∃ (k : Nat) (cur : List UInt8), k ≤ d.ln.length ∧ iv = .int .i64 k ∧ sv = .string (S cur) ∧ Hid (cur = (lastOf (d.ln.take k) b).getD s0) ∧ wr = w) (fun _ iv _ => d.ln.length - (intOf iv).toNat)
  case atStart => exact ⟨0, s0, Nat.zero_le _, rfl, rfl, Lib.hid (by rw [List.take_zero, lastOf_nil]; rfl), rfl⟩
  case round =>
    obtain ⟨k, cur, hk, rfl, rfl, hc, rfl⟩ := hrel
    obtain ⟨c0, c2⟩ := HB.out wr (Kp.refl _ _)
    by_cases hlt : k < d.ln.length
    · obtain ⟨⟨xb, xs⟩, hx⟩ : ∃ x, d.ln[k]? = some x := ⟨_, List.getElem?_eq_getElem hlt⟩
      obtain ⟨g, off, rfl, _, _, hcc⟩ := rd_at HD.out.ln.rd mwV_len (by omega) hx
      have q0 : wr.cell? ⟨g, off + k * 2, none⟩ = some (.int .i64 xb) := hcc 0 _ rfl
      have q1 : wr.cell? ⟨g, off + k * 2 + 1, none⟩ = some (.string (S xs)) := hcc 1 _ rfl
      have HL := Lib.hid (lastOf_snoc hx b)
      clear hcc hx
      by_cases hxb : xb = (b : Int)
      · have e1 : (xb == (b : Int)) = true := by simp [hxb]
        have HX := Lib.hid hxb
        clear hxb
        go_wp2
        exact ⟨⟨k + 1, xs, by omega, by go_num, rfl, Lib.hid (by rw [HL.out, if_pos HX.out]; rfl), by trivial⟩, by simp [intOf]; omega⟩
      · have e1 : (xb == (b : Int)) = false := by simp [hxb]
        have HX := Lib.hid hxb
        clear hxb
        go_wp2
        exact ⟨⟨k + 1, cur, by omega, by go_num, rfl, Lib.hid (by rw [HL.out, if_neg HX.out]; exact hc.out), by trivial⟩, by simp [intOf]; omega⟩
    · obtain rfl : k = d.ln.length := by omega
      have e := hc.out
      rw [List.take_length, ← HE.out] at e
      subst e
      go_wp2
      exact H.out _ (Kp.refl _ _)
end
end
end Go.Proofs.YtedblbpmlbjnhaaGreat
