/- pantlerlaw05: alive, FrameBlank. -/
import Derived.Test.YthlmfjfkkndboaaFrame4
import Derived.Lib.SliceRun
namespace Go.Proofs.Ythlmfjfkkndboaa
open Go.RowKit
set_option linter.unusedVariables false
set_option linter.unusedSimpArgs false
set_option maxRecDepth 100000
section
variable {R : Ending → World → Prop} {w : World}

theorem hid_eq {α : Type} {a b : α} (h : Hid (a = b)) {c : α} (e : a = c) : b = c := h.out.symm.trans e

def fw (o : Int) : Fr := { fz with ow := o }
theorem al1 : tAlloc (List.replicate 2 fz) 1 = (0, 0, [fw 1, fz]) := by rfl
theorem al2 : tAlloc [fw 1, fz] 2 = (1, 0, [fw 1, fw 2]) := by rfl
theorem al3 : tAlloc [fw 1, fw 2] 1 = (0, 10, [fw 1, fw 2]) := by rfl
theorem al4 : tFree [fw 1, fw 2] 1 1 = (20, [fw 1, fw 2]) := by rfl

theorem fz_get {k : Nat} (hk : k < 256) : (bts fz.bs)[k]? = some (.int .u8 0) := by
  unfold fz
  rw [bts_get, List.getElem?_replicate_of_lt hk]
  rfl
theorem alloc_is {bT bL : Nat} {fs fs' : List Fr} {f e : Int} (hT : Tab w bT bL fs) (who : Int) (hq : tAlloc fs who = (f, e, fs')) (h : ∀ w', Kp [bL] w w' → Tab w' bT bL fs' → R (.returned (.tuple #[.int .i64 f, .int .i64 e])) w') :
    Calls Try.prog 48 #[.pointer (some ⟨bT, 0, none⟩), .int .i64 who] w R :=
  alloc_any hT who fun f' e' fs'' w' q k t => by
    have := q.out.symm.trans hq
    simp only [Prod.mk.injEq] at this
    obtain ⟨rfl, rfl, rfl⟩ := this
    exact h w' k t
theorem free_is {bT bL : Nat} {fs fs' : List Fr} {e : Int} (hT : Tab w bT bL fs) (who f : Int) (hq : tFree fs who f = (e, fs')) (h : ∀ w', Kp [bL] w w' → Tab w' bT bL fs' → R (.returned (.int .i64 e)) w') :
    Calls Try.prog 49 #[.pointer (some ⟨bT, 0, none⟩), .int .i64 who, .int .i64 f] w R :=
  free_any hT who f fun e' fs'' w' q k t => by
    have := q.out.symm.trans hq
    simp only [Prod.mk.injEq] at this
    obtain ⟨rfl, rfl⟩ := this
    exact h w' k t
theorem hold_is {bT bL : Nat} {fs fs' : List Fr} {e : Int} (hT : Tab w bT bL fs) (who f : Int) (hb : ∀ x, fat fs f = some x → -1000000000 ≤ x.ho ∧ x.ho ≤ 1000000000) (hq : tHold fs who f = (e, fs')) (h : ∀ w', Kp [bL] w w' → Tab w' bT bL fs' → R (.returned (.int .i64 e)) w') :
    Calls Try.prog 52 #[.pointer (some ⟨bT, 0, none⟩), .int .i64 who, .int .i64 f] w R :=
  hold_any hT who f hb fun e' fs'' w' q k t => by
    have := q.out.symm.trans hq
    simp only [Prod.mk.injEq] at this
    obtain ⟨rfl, rfl⟩ := this
    exact h w' k t
theorem write_is {bT bL : Nat} {fs fs' : List Fr} {e : Int} (hT : Tab w bT bL fs) (who f off : Int) {A : Option Addr} {n c : Nat} {l : List UInt8} (hr : Rd w [bL] A (bts l)) (hl : l.length = n) (hn : n ≤ 1000000) (hnil : A = none → n = 0 ∧ c = 0)
    (hq : tWrite fs who f off l = (e, fs')) (h : ∀ w', Kp [bL] w w' → Tab w' bT bL fs' → R (.returned (.int .i64 e)) w') :
    Calls Try.prog 51 #[.pointer (some ⟨bT, 0, none⟩), .int .i64 who, .int .i64 f, .int .i64 off, .slice A n c] w R :=
  write_any hT who f off hr hl hn hnil fun e' fs'' w' q k t => by
    have := q.out.symm.trans hq
    simp only [Prod.mk.injEq] at this
    obtain ⟨rfl, rfl⟩ := this
    exact h w' k t
theorem read_is {bT bL : Nat} {fs : List Fr} {e : Int} {l : List UInt8} (hT : Tab w bT bL fs) (who f off n : Int) (hq : tRead fs who f off n = (e, l))
    (h : ∀ A c w', Kp [] w w' → Ow w' 5 1 A l.length c (bts l) → (∀ b ∈ bks A, w.heap.size ≤ b) → R (.returned (.tuple #[.slice A l.length c, .int .i64 e])) w') :
    Calls Try.prog 34 #[.pointer (some ⟨bT, 0, none⟩), .int .i64 who, .int .i64 f, .int .i64 off, .int .i64 n] w R :=
  read_any hT who f off n fun e' l' A c w' q k o b => by
    have := q.out.symm.trans hq
    simp only [Prod.mk.injEq] at this
    obtain ⟨rfl, rfl⟩ := this
    exact h A c w' k o b

/-! ### FrameBlank -/
end
end Go.Proofs.Ythlmfjfkkndboaa
