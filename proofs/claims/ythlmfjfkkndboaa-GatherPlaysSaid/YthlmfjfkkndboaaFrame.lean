/- The walks of package frame: what each call of a table does, said of a list of frames. -/
import Derived.Test.YthlmfjfkkndboaaBase
import Derived.Test.YthlmfjfkkndboaaRows
namespace Go.Proofs.Ythlmfjfkkndboaa
open Go.RowKit
set_option linter.unusedVariables false

/-- One frame. -/
structure Fr where
  ow : Int
  ho : Int
  bs : List UInt8
def Fr.vals (x : Fr) : List Value := .int .i64 x.ow :: .int .i64 x.ho :: bts x.bs
/-- A frame's cells, 258 of them whatever is in it. -/
def fit (n : Nat) (l : List Value) : List Value := (l ++ List.replicate n undef).take n
theorem fit_len (n : Nat) (l : List Value) : (fit n l).length = n := by simp [fit]
theorem fit_eq {n : Nat} {l : List Value} (h : l.length = n) : fit n l = l := by
  unfold fit
  rw [List.take_append_of_le_length (by omega), List.take_of_length_le (by omega)]
def fcells (x : Fr) : List Value := fit 258 x.vals
theorem fcells_len (x : Fr) : (fcells x).length = 258 := fit_len _ _
theorem vals_len {x : Fr} (h : x.bs.length = 256) : x.vals.length = 258 := by simp [Fr.vals, bts_len, h]
theorem fcells_eq {x : Fr} (h : x.bs.length = 256) : fcells x = x.vals := fit_eq (vals_len h)
def fz : Fr := ⟨0, 0, List.replicate 256 0⟩

/-- A table: the struct's block, the row's block, the frames. -/
structure Tab (w : World) (bT bL : Nat) (fs : List Fr) : Prop where
  t : Bk w bT 101 [.slice (some ⟨bL, 0, none⟩) fs.length fs.length]
  l : Bk w bL 146 (fs.flatMap fcells)
  pg : ∀ x ∈ fs, x.bs.length = 256
  n1 : fs.length ≤ 256

section
variable {w w' : World} {bT bL : Nat} {fs : List Fr}
theorem Tab.ne (h : Tab w bT bL fs) : bT ≠ bL := h.t.ne_ h.l (by decide)
theorem Tab.hc (h : Tab w bT bL fs) : w.cell? ⟨bT, 0, none⟩ = some (.slice (some ⟨bL, 0, none⟩) fs.length fs.length) := h.t.cell 0
theorem Tab.at_ (h : Tab w bT bL fs) {i : Nat} {x : Fr} (hx : fs[i]? = some x) {j : Nat} (hj : j < 258) : w.cell? ⟨bL, i * 258 + j, none⟩ = x.vals[j]? := by
  rw [h.l.cell, flat_get fcells_len hx hj, fcells_eq (h.pg x (List.mem_of_getElem? hx))]
theorem Tab.ow (h : Tab w bT bL fs) {i : Nat} {x : Fr} (hx : fs[i]? = some x) : w.cell? ⟨bL, i * 258, none⟩ = some (.int .i64 x.ow) := by
  have e := h.at_ hx (j := 0) (by omega)
  rw [Nat.add_zero] at e
  exact e
theorem Tab.ho (h : Tab w bT bL fs) {i : Nat} {x : Fr} (hx : fs[i]? = some x) : w.cell? ⟨bL, i * 258 + 1, none⟩ = some (.int .i64 x.ho) := h.at_ hx (j := 1) (by omega)
theorem Tab.free (h : Tab w bT bL fs) (i : Nat) : w.frozen? ⟨bL, i, none⟩ = false := h.l.frozen i
theorem Tab.drewN (h : Tab w bT bL fs) (n : Nat) : Tab (w.drewN n) bT bL fs := ⟨h.t, h.l, h.pg, h.n1⟩
theorem Tab.kp {S : List Nat} (h : Tab w bT bL fs) (hk : Kp S w w') (h1 : bT ∉ S) (h2 : bL ∉ S) : Tab w' bT bL fs := ⟨h.t.kp hk h1, h.l.kp hk h2, h.pg, h.n1⟩
theorem Tab.pgAt (h : Tab w bT bL fs) {i : Nat} {x : Fr} (hx : fs[i]? = some x) : x.bs.length = 256 := h.pg x (List.mem_of_getElem? hx)
theorem mem_set {α : Type} {l : List α} {i : Nat} {x y : α} (h : y ∈ l.set i x) : y = x ∨ y ∈ l := (List.mem_or_eq_of_mem_set h).symm
theorem Tab.put (h : Tab w bT bL fs) {i : Nat} {x x' : Fr} (hx : fs[i]? = some x) {j : Nat} {v : Value} (hj : j < 258) (hv : x'.vals = x.vals.set j v) (hb : x'.bs.length = 256) :
    Tab (w.setCell ⟨bL, i * 258 + j, none⟩ v) bT bL (fs.set i x') := by
  refine ⟨?_, ?_, ?_, by simpa using h.n1⟩
  · rw [List.length_set]; exact h.t.far (p := ⟨bL, i * 258 + j, none⟩) h.ne v
  · exact (h.l.set_ _ v).cast (flat_set fcells_len hx hj (by rw [fcells_eq hb, fcells_eq (h.pgAt hx), hv]))
  · intro y hy
    rcases mem_set hy with rfl | hy
    · exact hb
    · exact h.pg y hy
theorem Tab.putOw (h : Tab w bT bL fs) {i : Nat} {x : Fr} (hx : fs[i]? = some x) (o : Int) : Tab (w.setCell ⟨bL, i * 258, none⟩ (.int .i64 o)) bT bL (fs.set i { x with ow := o }) := by
  have e := h.put hx (x' := { x with ow := o }) (j := 0) (v := .int .i64 o) (by omega) rfl (h.pgAt (x := x) hx)
  rw [Nat.add_zero] at e
  exact e
theorem Tab.putHo (h : Tab w bT bL fs) {i : Nat} {x : Fr} (hx : fs[i]? = some x) (o : Int) : Tab (w.setCell ⟨bL, i * 258 + 1, none⟩ (.int .i64 o)) bT bL (fs.set i { x with ho := o }) :=
  h.put hx (x' := { x with ho := o }) (j := 1) (by omega) rfl (h.pgAt (x := x) hx)
end

/-! ### the plain functions -/
def envB (n : Int) : Bool := decide (1 ≤ n ∧ n ≤ 2)
def spanB (off n : Int) : Bool := decide (0 ≤ off ∧ 0 ≤ n ∧ off + n ≤ 256)
def fat (fs : List Fr) (f : Int) : Option Fr := if 0 ≤ f then fs[f.toNat]? else none
/-- The error of 'own'. -/
def ownE (fs : List Fr) (who f : Int) : Int :=
  if envB who then match fat fs f with | none => 1 | some x => if x.ow = who then 0 else 20 else 1
def quietE (fs : List Fr) (who f : Int) : Int :=
  if ownE fs who f ≠ 0 then ownE fs who f else match fat fs f with | none => 1 | some x => if 0 < x.ho then 21 else 0
def heldE (fs : List Fr) (f : Int) : Int := match fat fs f with | none => 1 | some x => if x.ho = 0 then 1 else 0


set_option maxHeartbeats 400000 in
theorem env_any {R : Ending → World → Prop} (a : Int) (w : World) (h : R (.returned (.bool (envB a))) w) : Calls Try.prog 88 #[.int .i64 a] w R := by
  go_enter Try.func88, Try.ntmps88
  go_wp2
  all_goals (refine rcast h (congrArg Value.bool ?_); rw [Bool.eq_iff_iff]; simp [envB] <;> omega)

set_option maxHeartbeats 400000 in
theorem span_any {R : Ending → World → Prop} (a b : Int) (w : World) (h : R (.returned (.bool (spanB a b))) w) : Calls Try.prog 75 #[.int .i64 a, .int .i64 b] w R := by
  go_enter Try.func75, Try.ntmps75
  go_wp2
  all_goals (refine rcast h (congrArg Value.bool ?_); rw [Bool.eq_iff_iff]; simp [spanB] <;> omega)

theorem fat_some {fs : List Fr} {f : Int} {x : Fr} (h : fat fs f = some x) : 0 ≤ f ∧ fs[f.toNat]? = some x := by
  unfold fat at h
  split at h
  · exact ⟨‹_›, h⟩
  · cases h
theorem fat_lt {fs : List Fr} {f : Int} {x : Fr} (h : fat fs f = some x) : f < fs.length := by
  obtain ⟨h0, hx⟩ := fat_some h
  have : f.toNat < fs.length := by
    rcases Nat.lt_or_ge f.toNat fs.length with h | h
    · exact h
    · rw [List.getElem?_eq_none h] at hx; cases hx
  omega
theorem fat_none {fs : List Fr} {f : Int} (h : fat fs f = none) : f < 0 ∨ (fs.length : Int) ≤ f := by
  unfold fat at h
  split at h
  · have := List.getElem?_eq_none_iff.1 h; omega
  · omega
set_option maxHeartbeats 400000 in
theorem find_none {R : Ending → World → Prop} {bT bL : Nat} {fs : List Fr} {w : World} (hT : Tab w bT bL fs) (f : Int) (hx : fat fs f = none)
    (h : R (.returned (.tuple #[.pointer none, .int .i64 1])) w) :
    Calls Try.prog 91 #[.pointer (some ⟨bT, 0, none⟩), .int .i64 f] w R := by
  have hc := hT.hc
  have hn := hT.n1
  rcases fat_none hx with hl | hl
  all_goals
    clear hx hT
    go_enter Try.func91, Try.ntmps91
    go_wp2
    exact h
set_option maxHeartbeats 400000 in
theorem find_some {R : Ending → World → Prop} {bT bL : Nat} {fs : List Fr} {w : World} (hT : Tab w bT bL fs) (f : Int) {x : Fr} (hx : fat fs f = some x)
    (h : R (.returned (.tuple #[.pointer (some ⟨bL, f.toNat * 258, none⟩), .int .i64 0])) w) :
    Calls Try.prog 91 #[.pointer (some ⟨bT, 0, none⟩), .int .i64 f] w R := by
  have hc := hT.hc
  have hn := hT.n1
  have hl := fat_lt hx
  have h0 := (fat_some hx).1
  clear hx hT
  go_enter Try.func91, Try.ntmps91
  go_wp2
  exact h

set_option maxRecDepth 100000 in
set_option maxHeartbeats 400000 in
theorem own_any {R : Ending → World → Prop} {bT bL : Nat} {fs : List Fr} {w : World} (hT : Tab w bT bL fs) (who f : Int)
    (h1 : ∀ e, Hid (ownE fs who f = e) → e ≠ 0 → R (.returned (.tuple #[.pointer none, .int .i64 e])) w)
    (h2 : ∀ x, Hid (ownE fs who f = 0) → Hid (fat fs f = some x) → 0 ≤ f → Hid (fs[f.toNat]? = some x) → Hid (x.ow = who) → R (.returned (.tuple #[.pointer (some ⟨bL, f.toNat * 258, none⟩), .int .i64 0])) w) :
    Calls Try.prog 74 #[.pointer (some ⟨bT, 0, none⟩), .int .i64 who, .int .i64 f] w R := by
  cases he : envB who with
  | false =>
    have H := h1 1 (by simp [Hid, ownE, he]) (by omega)
    clear h1 h2
    go_enter Try.func74, Try.ntmps74
    go_wp2_with (go_at_call 88; refine env_any _ _ ?_)
    exact H
  | true =>
    cases hx : fat fs f with
    | none =>
      have H := h1 1 (by simp [Hid, ownE, he, hx]) (by omega)
      clear h1 h2
      go_enter Try.func74, Try.ntmps74
      go_wp2_with (first | (go_at_call 88; refine env_any _ _ ?_) | (go_at_call 91; refine find_none hT _ hx ?_))
      exact H
    | some x =>
      obtain ⟨h0, hi⟩ := fat_some hx
      have hc := hT.ow hi
      by_cases ho : x.ow = who
      · have H := h2 x (by simp [Hid, ownE, he, hx, ho]) hx h0 hi ho
        have ho' : (x.ow != who) = false := by simp [ho]
        have HX := Lib.hid hx
        clear h1 h2 ho hx
        go_enter Try.func74, Try.ntmps74
        go_wp2_with (first | (go_at_call 88; refine env_any _ _ ?_) | (go_at_call 91; refine find_some hT _ HX.out ?_))
        exact H
      · have H := h1 20 (by simp [Hid, ownE, he, hx, ho]) (by omega)
        have ho' : (x.ow != who) = true := by simp [ho]
        have HX := Lib.hid hx
        clear h1 h2 ho hx
        go_enter Try.func74, Try.ntmps74
        go_wp2_with (first | (go_at_call 88; refine env_any _ _ ?_) | (go_at_call 91; refine find_some hT _ HX.out ?_))
        exact H
end Go.Proofs.Ythlmfjfkkndboaa
