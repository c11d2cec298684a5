/- pantlerlaw05.FrameKeeps: the walk. -/
import Derived.Test.YthlmfjfkkndboaaActs
namespace Go.Proofs.Ythlmfjfkkndboaa
open Go.RowKit
set_option linter.unusedVariables false
set_option linter.unusedSimpArgs false
set_option maxRecDepth 100000
section
variable {R : Ending → World → Prop} {w : World}
theorem avals_len (a : Ac) : a.vals.length = 6 := rfl
theorem any_snoc {l : List Ac} {p : Ac → Bool} {k : Nat} {x : Ac} (hx : l[k]? = some x) : (l.take (k + 1)).any p = ((l.take k).any p || p x) := by
  have hk : k < l.length := (List.getElem?_eq_some_iff.1 hx).1
  have e : l[k] = x := (List.getElem?_eq_some_iff.1 hx).2
  rw [List.take_succ_eq_append_getElem hk, e]
  simp

set_option maxHeartbeats 800000 in
theorem far_any {N : List Nat} {A : Option Addr} {n c : Nat} {l : List Ac} (hr : Rd w N A (l.flatMap Ac.vals)) (hl : l.length = n) (hn : n ≤ 9223372036854775807) (hs : ∀ a ∈ l, a.s.size ≤ 9223372036854775807)
    (h : R (.returned (.bool (farB l))) w) : Calls Try.prog 9 #[.slice A n c] w R := by
  have HL := Lib.hid hl
  by_cases h150 : 150 < n
  · have e : farB l = true := by simp [farB, hl]; left; exact h150
    rw [e] at h
    clear hl
    go_enter Try.func9, Try.ntmps9
    go_wp2
    exact h
  · have hm : n ≤ 150 := by omega
    clear hl
    go_enter Try.func9, Try.ntmps9
    go_wp2
    go_loop [3] (fun i => ∃ k : Nat, k ≤ n ∧ i = .int .i64 k ∧ Hid ((l.take k).any (fun a => decide (1000 < a.s.size)) = false)) (fun i => n - (intOf i).toNat)
    case atStart => exact ⟨0, Nat.zero_le _, rfl, rfl⟩
    case round =>
      obtain ⟨k, hk, rfl, hq⟩ := hrel
      by_cases hlt : k < n
      · have hx : l[k]? = some (l[k]'(by have := HL.out; omega)) := List.getElem?_eq_getElem _
        generalize (l[k]'(by have := HL.out; omega)) = x at hx
        have HX := Lib.hid hx
        have hsx := hs x (List.mem_of_getElem? hx)
        obtain ⟨b, off, rfl, _, _, hc⟩ := rd_at hr avals_len (by omega) hx
        have c5 := hc 5 _ rfl
        clear hc hx
        go_wp2
        · have hb : 1000 < x.s.size := by omega
          have e : farB l = true := by
            simp only [farB, Bool.or_eq_true, List.any_eq_true]
            right
            exact ⟨x, List.mem_of_getElem? HX.out, by simpa using hb⟩
          rw [e] at h
          exact h
        · have hb : ¬ 1000 < x.s.size := by omega
          exact ⟨⟨k + 1, by omega, by go_num, Lib.hid (by rw [any_snoc HX.out, hq.out]; simpa using hb)⟩, by simp [intOf]; omega⟩
      · have e : farB l = false := by
          have h2 := hq.out
          rw [List.take_of_length_le (by have := HL.out; omega)] at h2
          simp only [farB, h2, Bool.or_false]
          have := HL.out
          simp; omega
        rw [e] at h
        go_wp2
        exact h

/-! ### what is held stays -/
def Kept (B : List UInt8) (fs : List Fr) : Prop := ∃ x, fs[0]? = some x ∧ x.ow = 1 ∧ 0 < x.ho ∧ x.bs = B
/-- Holds lie between 0 and m. -/
def Hb (m : Int) (fs : List Fr) : Prop := ∀ x ∈ fs, 0 ≤ x.ho ∧ x.ho ≤ m
theorem Hb.at_ {m : Int} {fs : List Fr} (h : Hb m fs) (hm : m ≤ 1000000000) : ∀ f x, fat fs f = some x → -1000000000 ≤ x.ho ∧ x.ho ≤ 1000000000 := fun f x hx => by
  have := h x (List.mem_of_getElem? (fat_some hx).2)
  omega
theorem Hb.set_ {m : Int} {fs : List Fr} (h : Hb m fs) (i : Nat) (x : Fr) (h1 : 0 ≤ x.ho) (h2 : x.ho ≤ m + 1) : Hb (m + 1) (fs.set i x) := fun y hy => by
  rcases mem_set hy with rfl | hy
  · exact ⟨h1, h2⟩
  · have := h y hy; omega
theorem Hb.up {m : Int} {fs : List Fr} (h : Hb m fs) : Hb (m + 1) fs := fun y hy => by have := h y hy; omega
theorem Hb.of {m : Int} {fs : List Fr} (h : Hb m fs) {f : Int} {x : Fr} (hx : fat fs f = some x) : 0 ≤ x.ho ∧ x.ho ≤ m := h x (List.mem_of_getElem? (fat_some hx).2)
theorem Hb.of2 {m : Int} {fs : List Fr} (h : Hb m fs) {f : Nat} {x : Fr} (hx : fs[f]? = some x) : 0 ≤ x.ho ∧ x.ho ≤ m := h x (List.mem_of_getElem? hx)
theorem quietE_ok {fs : List Fr} {who f : Int} (h : quietE fs who f = 0) : ∃ x, fat fs f = some x ∧ x.ow = who ∧ envB who = true ∧ x.ho ≤ 0 := by
  unfold quietE at h
  split at h
  · omega
  · rename_i hq
    obtain ⟨x, hx, ho, he⟩ := ownE_ok (Decidable.not_not.1 hq)
    rw [hx] at h
    simp only at h
    split at h
    · omega
    · exact ⟨x, hx, ho, he, by omega⟩

/-- A call leaves the frames, or turns one of them, whose state allowed it. -/
def Turn (fs : List Fr) (a : Ac) (fs' : List Fr) : Prop := fs' = fs ∨ ∃ i x x', fs[i]? = some x ∧ fs' = fs.set i x' ∧ x'.bs.length = 256 ∧
  ((a.k = 0 ∧ x.ow = 0 ∧ envB a.e = true ∧ x' = { x with ow := a.e }) ∨
   (fat fs a.f = some x ∧ i = a.f.toNat ∧ 0 ≤ a.f ∧ x.ow = a.e ∧ envB a.e = true ∧
      ((a.k = 1 ∧ x.ho ≤ 0 ∧ x' = fz) ∨ (a.k = 2 ∧ x.ho ≤ 0 ∧ envB a.n = true ∧ x' = { x with ow := a.n }) ∨ (a.k = 4 ∧ x.ho ≤ 0 ∧ x' = { x with bs := putB x.bs a.o a.s.data.toList }) ∨ (a.k = 5 ∧ x' = { x with ho := x.ho + 1 }))) ∨
   (a.k = 6 ∧ fat fs a.f = some x ∧ i = a.f.toNat ∧ 0 ≤ a.f ∧ x.ho ≠ 0 ∧ x' = { x with ho := x.ho - 1 }))
theorem putB_len {l : List UInt8} {off : Int} {s : List UInt8} (hl : l.length = 256) (hs : spanB off s.length = true) : (putB l off s).length = 256 := by
  have ⟨s1, s2, s3⟩ : 0 ≤ off ∧ 0 ≤ (s.length : Int) ∧ off + s.length ≤ 256 := by simpa [spanB] using hs
  simp [putB, hl]; omega
theorem dDo_turn {fs : List Fr} (hp : ∀ x ∈ fs, x.bs.length = 256) (a : Ac) : Turn fs a (dDo fs a).fs := by
  have hpg : ∀ {i : Nat} {x : Fr}, fs[i]? = some x → x.bs.length = 256 := fun hx => hp _ (List.mem_of_getElem? hx)
  unfold dDo
  split
  · rename_i hk
    simp only [tAlloc]
    split
    · rename_i he
      cases hq : fs.findIdx? (fun x => x.ow == 0) with
      | none => exact .inl rfl
      | some i =>
        simp only
        obtain ⟨hi, h0, _⟩ := List.findIdx?_eq_some_iff_getElem.1 hq
        have hx : fs[i]? = some fs[i] := List.getElem?_eq_getElem hi
        rw [hx]
        exact .inr ⟨i, _, _, hx, rfl, hpg (x := fs[i]) hx, .inl ⟨hk, by simpa using h0, he, rfl⟩⟩
    · exact .inl rfl
  split
  · rename_i _ hk
    simp only [tFree]
    split
    · rename_i hq
      obtain ⟨x, hx, ho, he, hh⟩ := quietE_ok hq
      obtain ⟨h0, hi⟩ := fat_some hx
      exact .inr ⟨_, x, _, hi, rfl, fz_len, .inr (.inl ⟨hx, rfl, h0, ho, he, .inl ⟨hk, hh, rfl⟩⟩)⟩
    · exact .inl rfl
  split
  · rename_i _ _ hk
    simp only [tGive]
    split
    · rename_i hq
      obtain ⟨x, hx, ho, he⟩ := ownE_ok hq
      obtain ⟨h0, hi⟩ := fat_some hx
      split
      · exact .inl rfl
      · rename_i hn
        rw [hx]
        simp only
        split
        · exact .inl rfl
        · exact .inr ⟨_, x, _, hi, rfl, hpg (x := x) hi, .inr (.inl ⟨hx, rfl, h0, ho, he, .inr (.inl ⟨hk, by omega, by simpa using hn, rfl⟩)⟩)⟩
    · exact .inl rfl
  split
  · exact .inl rfl
  split
  · rename_i _ _ _ _ hk
    simp only [tWrite]
    split
    · rename_i hq
      obtain ⟨x, hx, ho, he⟩ := ownE_ok hq
      obtain ⟨h0, hi⟩ := fat_some hx
      split
      · exact .inl rfl
      · rename_i hn
        rw [hx]
        simp only
        split
        · exact .inl rfl
        · exact .inr ⟨_, x, _, hi, rfl, putB_len (hpg hi) (by simpa using hn), .inr (.inl ⟨hx, rfl, h0, ho, he, .inr (.inr (.inl ⟨hk, by omega, rfl⟩))⟩)⟩
    · exact .inl rfl
  split
  · rename_i _ _ _ _ _ hk
    simp only [tHold]
    split
    · rename_i hq
      obtain ⟨x, hx, ho, he⟩ := ownE_ok hq
      obtain ⟨h0, hi⟩ := fat_some hx
      rw [hx]
      exact .inr ⟨_, x, _, hi, rfl, hpg (x := x) hi, .inr (.inl ⟨hx, rfl, h0, ho, he, .inr (.inr (.inr ⟨hk, rfl⟩))⟩)⟩
    · exact .inl rfl
  split
  · rename_i _ _ _ _ _ _ hk
    simp only [tDrop]
    split
    · rename_i hq
      obtain ⟨x, hx, hh⟩ := heldE_ok hq
      obtain ⟨h0, hi⟩ := fat_some hx
      rw [hx]
      exact .inr ⟨_, x, _, hi, rfl, hpg (x := x) hi, .inr (.inr ⟨hk, hx, rfl, h0, hh, rfl⟩)⟩
    · exact .inl rfl
  · exact .inl rfl
theorem Hb.turn {m : Int} {fs fs' : List Fr} {a : Ac} (h : Hb m fs) (hm : 0 ≤ m) (t : Turn fs a fs') : Hb (m + 1) fs' := by
  rcases t with rfl | ⟨i, x, x', hx, rfl, _, t⟩
  · exact h.up
  · have hb := h.of2 hx
    rcases t with ⟨_, _, _, rfl⟩ | ⟨_, _, _, _, _, ⟨_, _, rfl⟩ | ⟨_, _, _, rfl⟩ | ⟨_, _, rfl⟩ | ⟨_, rfl⟩⟩ | ⟨_, _, _, _, hh, rfl⟩
    · exact h.set_ _ _ hb.1 (by simp; omega)
    · exact h.set_ _ _ (by simp [fz]) (by simp [fz]; omega)
    · exact h.set_ _ _ hb.1 (by simp; omega)
    · exact h.set_ _ _ hb.1 (by simp; omega)
    · exact h.set_ _ _ (by simp; omega) (by simp; omega)
    · exact h.set_ _ _ (by simp; omega) (by simp; omega)
theorem get_set {α : Type} {l : List α} {i j : Nat} {x y z : α} (hx : l[i]? = some x) (hy : l[j]? = some y) : (l.set i z)[j]? = some (if i = j then z else y) := by
  rw [List.getElem?_set]
  have : i < l.length := (List.getElem?_eq_some_iff.1 hx).1
  by_cases h : i = j
  · subst h; simp [this]
  · simp [h, hy]
theorem Kept.turn {B : List UInt8} {fs fs' : List Fr} {a : Ac} (h : Kept B fs) (hm : Hb 1000 fs) (hn : ¬ (a.k = 6 ∧ a.f = 0)) (t : Turn fs a fs') : Kept B fs' := by
  obtain ⟨y, hy, h1, h2, h3⟩ := h
  rcases t with rfl | ⟨i, x, x', hx, rfl, _, t⟩
  · exact ⟨y, hy, h1, h2, h3⟩
  · refine ⟨_, get_set hx hy, ?_⟩
    by_cases hi : i = 0
    · rw [if_pos hi]
      subst hi
      have e : x = y := by rw [hx] at hy; injection hy
      subst e
      rcases t with ⟨_, h0, _, rfl⟩ | ⟨_, hf, hf0, _, _, ⟨_, hh, rfl⟩ | ⟨_, hh, _, rfl⟩ | ⟨_, hh, rfl⟩ | ⟨_, rfl⟩⟩ | ⟨hk, _, hf, hf0, hh, rfl⟩
      · omega
      · omega
      · omega
      · omega
      · exact ⟨h1, by simp; omega, h3⟩
      · exact absurd ⟨hk, by omega⟩ hn
    · rw [if_neg hi]; exact ⟨h1, h2, h3⟩
end
end Go.Proofs.Ythlmfjfkkndboaa
