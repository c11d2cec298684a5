/- pantlerlaw05.Do and pantlerref05.Far. pantlerlaw05.FrameKeeps: the walk. Drawn regions whose callees write nowhere but in blocks of their own: the class of worlds that keep all there was. -/
import Derived.Test.YtedblbpmlbjnhaaGreatPE7
import Derived.Test.YtedblbpmlbjnhaaGreatPE5
import Derived.Deep.QuietTactic
import Derived.BigQuiet
import Derived.Test.YtedblbpmlbjnhaaGreatPE1
namespace Go.Proofs.YtedblbpmlbjnhaaGreat
/-! ### pantlerlaw05.Do and pantlerref05.Far. -/
section
open Go.RowKit
set_option linter.unusedVariables false
set_option linter.unusedSimpArgs false
set_option maxRecDepth 100000

/-- One of the document's calls. -/
structure Ac where
  k : Int
  e : Int
  f : Int
  o : Int
  n : Int
  s : ByteArray
def Ac.vals (a : Ac) : List Value := [.int .i64 a.k, .int .i64 a.e, .int .i64 a.f, .int .i64 a.o, .int .i64 a.n, .string a.s]
def farB (l : List Ac) : Bool := decide (150 < l.length) || l.any fun a => decide (1000 < a.s.size)
structure DoR where
  n : Int
  s : List UInt8
  e : Int
  fs : List Fr
def dDo (fs : List Fr) (a : Ac) : DoR :=
  if a.k = 0 then ⟨(tAlloc fs a.e).1, [], (tAlloc fs a.e).2.1, (tAlloc fs a.e).2.2⟩
  else if a.k = 1 then ⟨0, [], (tFree fs a.e a.f).1, (tFree fs a.e a.f).2⟩
  else if a.k = 2 then ⟨0, [], (tGive fs a.e a.f a.n).1, (tGive fs a.e a.f a.n).2⟩
  else if a.k = 3 then ⟨0, (tRead fs a.e a.f a.o a.n).2, (tRead fs a.e a.f a.o a.n).1, fs⟩
  else if a.k = 4 then ⟨0, [], (tWrite fs a.e a.f a.o a.s.data.toList).1, (tWrite fs a.e a.f a.o a.s.data.toList).2⟩
  else if a.k = 5 then ⟨0, [], (tHold fs a.e a.f).1, (tHold fs a.e a.f).2⟩
  else if a.k = 6 then ⟨0, [], (tDrop fs a.f).1, (tDrop fs a.f).2⟩
  else ⟨0, (tFetch fs a.f a.o a.n).2, (tFetch fs a.f a.o a.n).1, fs⟩

section
variable {R : Ending → World → Prop} {bT bL : Nat} {fs : List Fr} {w : World}

theorem conv_bsN {A : Option Addr} {n c : Nat} {l : List UInt8} (hr : Rd w [] A (bts l)) (hl : l.length = n) : ∀ k, (convert 37 9 (.slice A n c)).run Tryz.prog (w.drewN k) = .ok (.string ⟨l.toArray⟩) (w.drewN k) :=
  fun k => conv_bs (w := w.drewN k) hr hl

end


/-! ### calls that came in, opened -/
section
open Go.ChangeShapes Go.WideShapes Go.ChangeAt Go.RowKit Go.Deep
variable {H : Type} {enc : TypeId × Value → H} {W : World}
end
end
/-! ### pantlerlaw05.FrameKeeps: the walk. -/
section
open Go.RowKit
set_option linter.unusedVariables false
set_option linter.unusedSimpArgs false
set_option maxRecDepth 100000
section
variable {R : Ending → World → Prop} {w : World}
def Kept (B : List UInt8) (fs : List Fr) : Prop := ∃ x, fs[0]? = some x ∧ x.ow = 1 ∧ 0 < x.ho ∧ x.bs = B
/-- Holds lie between 0 and m. -/
def Hb (m : Int) (fs : List Fr) : Prop := ∀ x ∈ fs, 0 ≤ x.ho ∧ x.ho ≤ m
theorem Hb.at_ {m : Int} {fs : List Fr} (h : Hb m fs) (hm : m ≤ 1000000000) : ∀ f x, fat fs f = some x → -1000000000 ≤ x.ho ∧ x.ho ≤ 1000000000 := fun f x hx => by
  have := h x (List.mem_of_getElem? (fat_some hx).2)
  omega
theorem Hb.set_ {m : Int} {fs : List Fr} (h : Hb m fs) (i : Nat) (x : Fr) (h1 : 0 ≤ x.ho) (h2 : x.ho ≤ m + 1) : Hb (m + 1) (fs.set i x) := fun y hy => by
  rcases mem_set hy with rfl | hy
  · exact ⟨h1, h2⟩
  · have := h y hy; omega
theorem Hb.up {m : Int} {fs : List Fr} (h : Hb m fs) : Hb (m + 1) fs := fun y hy => by have := h y hy; omega
theorem Hb.of {m : Int} {fs : List Fr} (h : Hb m fs) {f : Int} {x : Fr} (hx : fat fs f = some x) : 0 ≤ x.ho ∧ x.ho ≤ m := h x (List.mem_of_getElem? (fat_some hx).2)
theorem Hb.of2 {m : Int} {fs : List Fr} (h : Hb m fs) {f : Nat} {x : Fr} (hx : fs[f]? = some x) : 0 ≤ x.ho ∧ x.ho ≤ m := h x (List.mem_of_getElem? hx)
theorem quietE_ok {fs : List Fr} {who f : Int} (h : quietE fs who f = 0) : ∃ x, fat fs f = some x ∧ x.ow = who ∧ envB who = true ∧ x.ho ≤ 0 := by
  unfold quietE at h
  split at h
  · omega
  · rename_i hq
    obtain ⟨x, hx, ho, he⟩ := ownE_ok (Decidable.not_not.1 hq)
    rw [hx] at h
    simp only at h
    split at h
    · omega
    · exact ⟨x, hx, ho, he, by omega⟩

/-- A call leaves the frames, or turns one of them, whose state allowed it. -/
def Turn (fs : List Fr) (a : Ac) (fs' : List Fr) : Prop := fs' = fs ∨ ∃ i x x', fs[i]? = some x ∧ fs' = fs.set i x' ∧ x'.bs.length = 256 ∧
  ((a.k = 0 ∧ x.ow = 0 ∧ envB a.e = true ∧ x' = { x with ow := a.e }) ∨
   (fat fs a.f = some x ∧ i = a.f.toNat ∧ 0 ≤ a.f ∧ x.ow = a.e ∧ envB a.e = true ∧
      ((a.k = 1 ∧ x.ho ≤ 0 ∧ x' = fz) ∨ (a.k = 2 ∧ x.ho ≤ 0 ∧ envB a.n = true ∧ x' = { x with ow := a.n }) ∨ (a.k = 4 ∧ x.ho ≤ 0 ∧ x' = { x with bs := putB x.bs a.o a.s.data.toList }) ∨ (a.k = 5 ∧ x' = { x with ho := x.ho + 1 }))) ∨
   (a.k = 6 ∧ fat fs a.f = some x ∧ i = a.f.toNat ∧ 0 ≤ a.f ∧ x.ho ≠ 0 ∧ x' = { x with ho := x.ho - 1 }))
theorem putB_len {l : List UInt8} {off : Int} {s : List UInt8} (hl : l.length = 256) (hs : spanB off s.length = true) : (putB l off s).length = 256 := by
  have ⟨s1, s2, s3⟩ : 0 ≤ off ∧ 0 ≤ (s.length : Int) ∧ off + s.length ≤ 256 := by simpa [spanB] using hs
  simp [putB, hl]; omega
theorem dDo_turn {fs : List Fr} (hp : ∀ x ∈ fs, x.bs.length = 256) (a : Ac) : Turn fs a (dDo fs a).fs := by
  have hpg : ∀ {i : Nat} {x : Fr}, fs[i]? = some x → x.bs.length = 256 := fun hx => hp _ (List.mem_of_getElem? hx)
  unfold dDo
  split
  · rename_i hk
    simp only [tAlloc]
    split
    · rename_i he
      cases hq : fs.findIdx? (fun x => x.ow == 0) with
      | none => exact .inl rfl
      | some i =>
        simp only
        obtain ⟨hi, h0, _⟩ := List.findIdx?_eq_some_iff_getElem.1 hq
        have hx : fs[i]? = some fs[i] := List.getElem?_eq_getElem hi
        rw [hx]
        exact .inr ⟨i, _, _, hx, rfl, hpg (x := fs[i]) hx, .inl ⟨hk, by simpa using h0, he, rfl⟩⟩
    · exact .inl rfl
  split
  · rename_i _ hk
    simp only [tFree]
    split
    · rename_i hq
      obtain ⟨x, hx, ho, he, hh⟩ := quietE_ok hq
      obtain ⟨h0, hi⟩ := fat_some hx
      exact .inr ⟨_, x, _, hi, rfl, fz_len, .inr (.inl ⟨hx, rfl, h0, ho, he, .inl ⟨hk, hh, rfl⟩⟩)⟩
    · exact .inl rfl
  split
  · rename_i _ _ hk
    simp only [tGive]
    split
    · rename_i hq
      obtain ⟨x, hx, ho, he⟩ := ownE_ok hq
      obtain ⟨h0, hi⟩ := fat_some hx
      split
      · exact .inl rfl
      · rename_i hn
        rw [hx]
        simp only
        split
        · exact .inl rfl
        · exact .inr ⟨_, x, _, hi, rfl, hpg (x := x) hi, .inr (.inl ⟨hx, rfl, h0, ho, he, .inr (.inl ⟨hk, by omega, by simpa using hn, rfl⟩)⟩)⟩
    · exact .inl rfl
  split
  · exact .inl rfl
  split
  · rename_i _ _ _ _ hk
    simp only [tWrite]
    split
    · rename_i hq
      obtain ⟨x, hx, ho, he⟩ := ownE_ok hq
      obtain ⟨h0, hi⟩ := fat_some hx
      split
      · exact .inl rfl
      · rename_i hn
        rw [hx]
        simp only
        split
        · exact .inl rfl
        · exact .inr ⟨_, x, _, hi, rfl, putB_len (hpg hi) (by simpa using hn), .inr (.inl ⟨hx, rfl, h0, ho, he, .inr (.inr (.inl ⟨hk, by omega, rfl⟩))⟩)⟩
    · exact .inl rfl
  split
  · rename_i _ _ _ _ _ hk
    simp only [tHold]
    split
    · rename_i hq
      obtain ⟨x, hx, ho, he⟩ := ownE_ok hq
      obtain ⟨h0, hi⟩ := fat_some hx
      rw [hx]
      exact .inr ⟨_, x, _, hi, rfl, hpg (x := x) hi, .inr (.inl ⟨hx, rfl, h0, ho, he, .inr (.inr (.inr ⟨hk, rfl⟩))⟩)⟩
    · exact .inl rfl
  split
  · rename_i _ _ _ _ _ _ hk
    simp only [tDrop]
    split
    · rename_i hq
      obtain ⟨x, hx, hh⟩ := heldE_ok hq
      obtain ⟨h0, hi⟩ := fat_some hx
      rw [hx]
      exact .inr ⟨_, x, _, hi, rfl, hpg (x := x) hi, .inr (.inr ⟨hk, hx, rfl, h0, hh, rfl⟩)⟩
    · exact .inl rfl
  · exact .inl rfl
theorem Hb.turn {m : Int} {fs fs' : List Fr} {a : Ac} (h : Hb m fs) (hm : 0 ≤ m) (t : Turn fs a fs') : Hb (m + 1) fs' := by
  rcases t with rfl | ⟨i, x, x', hx, rfl, _, t⟩
  · exact h.up
  · have hb := h.of2 hx
    rcases t with ⟨_, _, _, rfl⟩ | ⟨_, _, _, _, _, ⟨_, _, rfl⟩ | ⟨_, _, _, rfl⟩ | ⟨_, _, rfl⟩ | ⟨_, rfl⟩⟩ | ⟨_, _, _, _, hh, rfl⟩
    · exact h.set_ _ _ hb.1 (by simp; omega)
    · exact h.set_ _ _ (by simp [fz]) (by simp [fz]; omega)
    · exact h.set_ _ _ hb.1 (by simp; omega)
    · exact h.set_ _ _ hb.1 (by simp; omega)
    · exact h.set_ _ _ (by simp; omega) (by simp; omega)
    · exact h.set_ _ _ (by simp; omega) (by simp; omega)
theorem get_set {α : Type} {l : List α} {i j : Nat} {x y z : α} (hx : l[i]? = some x) (hy : l[j]? = some y) : (l.set i z)[j]? = some (if i = j then z else y) := by
  rw [List.getElem?_set]
  have : i < l.length := (List.getElem?_eq_some_iff.1 hx).1
  by_cases h : i = j
  · subst h; simp [this]
  · simp [h, hy]
theorem Kept.turn {B : List UInt8} {fs fs' : List Fr} {a : Ac} (h : Kept B fs) (hm : Hb 1000 fs) (hn : ¬ (a.k = 6 ∧ a.f = 0)) (t : Turn fs a fs') : Kept B fs' := by
  obtain ⟨y, hy, h1, h2, h3⟩ := h
  rcases t with rfl | ⟨i, x, x', hx, rfl, _, t⟩
  · exact ⟨y, hy, h1, h2, h3⟩
  · refine ⟨_, get_set hx hy, ?_⟩
    by_cases hi : i = 0
    · rw [if_pos hi]
      subst hi
      have e : x = y := by rw [hx] at hy; injection hy
      subst e
      rcases t with ⟨_, h0, _, rfl⟩ | ⟨_, hf, hf0, _, _, ⟨_, hh, rfl⟩ | ⟨_, hh, _, rfl⟩ | ⟨_, hh, rfl⟩ | ⟨_, rfl⟩⟩ | ⟨hk, _, hf, hf0, hh, rfl⟩
      · omega
      · omega
      · omega
      · omega
      · exact ⟨h1, by simp; omega, h3⟩
      · exact absurd ⟨hk, by omega⟩ hn
    · rw [if_neg hi]; exact ⟨h1, h2, h3⟩
end
end
/-! ### Drawn regions whose callees write nowhere but in blocks of their own: the class of worlds that keep all there was. -/
section
open Go.RowKit
set_option linter.unusedVariables false

def KpX (w : World) : Type := {w' : World // Kp [] w w'}
instance (w : World) : Nonempty (KpX w) := ⟨⟨w, Kp.refl [] w⟩⟩
def kpw (w : World) (x : KpX w) : World := x.1
theorem kpw_kp (w : World) (x : KpX w) : Kp [] w (kpw w x) := x.2
@[go_sem] theorem kpw_cell {w : World} {x : KpX w} {p : Addr} (h : (w.cell? p).isSome = true) : (kpw w x).cell? p = w.cell? p := by
  obtain ⟨u, hu⟩ := Option.isSome_iff_exists.1 h
  exact (kpw_kp w x).cell (World.block_lt_of_cell? w p hu) (by simp)

theorem wp_region_kp {P : Program} {id : Nat} {Q : Exit → Act → World → Prop} {a : Act} {w : World} {l : List Oper} (hm : P.follows .mixedOrders = true) (hB : Region.lexB .any l.toArray = true)
    (h : wpQuiet P l.toArray (fun w' => ∃ x : KpX w, w' = kpw w x) (fun a' => ∀ w', Kp [] w w' → Q .normal a' w') l a) : (Code.region id l.toArray true).wp P Q a w :=
  wp_region_quiet (C := fun w' => ∃ x : KpX w, w' = kpw w x) hm hB ⟨⟨_, (Kp.refl [] w).drew⟩, rfl⟩ (by
    have e : (fun a' : Act => ∀ w', Kp [] w w' → Q .normal a' w') = (fun a' => ∀ w', (∃ x : KpX w, w' = kpw w x) → Q .normal a' w') := by
      funext a'; apply propext
      exact ⟨fun h w' ⟨x, hx⟩ => by rw [hx]; exact h _ x.2, fun h w' hw => h w' ⟨⟨w', hw⟩, rfl⟩⟩
    rw [← e]; simpa using h)
theorem kpx_mk {w w' : World} {x : KpX w} {v : Value} (h : Kp [] (kpw w x) w') : (Ending.returned v = Ending.returned v) ∧ ∃ y : KpX w, w' = kpw w y := ⟨rfl, ⟨w', (kpw_kp w x).trans h⟩, rfl⟩
end
end Go.Proofs.YtedblbpmlbjnhaaGreat
