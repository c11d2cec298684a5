/- The plain law of GatherBack: holds are counted; the bytes of a cut are the cut of the bytes. -/
import Derived.Test.YtilhjohoahgefaaGather5
namespace Go.Proofs.Ytilhjohoahgefaa
open Go.RowKit
set_option linter.unusedVariables false
set_option linter.unusedSimpArgs false
set_option maxRecDepth 100000

section
variable {A B C : List UInt8}
def tbl (A B C : List UInt8) (a b c : Int) : List Fr := [⟨1, a, A⟩, ⟨1, b, B⟩, ⟨1, c, C⟩]
def pgF (A B C : List UInt8) (f : Int) : List UInt8 := if f = 0 then A else if f = 1 then B else C
def cnt (l : List Pc) (f : Int) : Int := (l.filter (fun p => p.f == f)).length
theorem cnt_nn (l : List Pc) (f : Int) : 0 ≤ cnt l f := by unfold cnt; omega
theorem cnt_cons (p : Pc) (l : List Pc) (f : Int) : cnt (p :: l) f = (if p.f = f then 1 else 0) + cnt l f := by
  unfold cnt
  rw [List.filter_cons]
  by_cases h : p.f = f <;> simp [h] <;> omega
theorem cnt_pos {l : List Pc} {p : Pc} (h : p ∈ l) : 0 < cnt l p.f := by
  unfold cnt
  have : p ∈ l.filter (fun q => q.f == p.f) := by simp [h]
  have := List.length_pos_of_mem this
  omega
def in3 (p : Pc) : Prop := p.f = 0 ∨ p.f = 1 ∨ p.f = 2

theorem flatMap_congr' {α β : Type} {l : List α} {f g : α → List β} (h : ∀ x ∈ l, f x = g x) : l.flatMap f = l.flatMap g := by
  induction l with
  | nil => rfl
  | cons x l ih => rw [List.flatMap_cons, List.flatMap_cons, h x (by simp), ih fun y hy => h y (by simp [hy])]
theorem hold_tbl : ∀ {l : List Pc} {a b c : Int}, (∀ p ∈ l, in3 p) → holdAll (tbl A B C a b c) 1 l = tbl A B C (a + cnt l 0) (b + cnt l 1) (c + cnt l 2)
  | [], a, b, c, _ => by simp [holdAll, cnt]
  | p :: l, a, b, c, h => by
    have ih := fun a b c => hold_tbl (l := l) (a := a) (b := b) (c := c) fun q hq => h q (by simp [hq])
    unfold holdAll at ih ⊢
    rw [List.foldl_cons, cnt_cons, cnt_cons, cnt_cons]
    rcases h p (by simp) with e | e | e
    all_goals
      rw [e]
      simp only [tbl, tHold, ownE, envB, fat] at ih ⊢
      simp at ih ⊢
      rw [ih]
      simp
      omega
theorem drop_tbl : ∀ {l : List Pc} {a b c : Int}, (∀ p ∈ l, in3 p) → 0 ≤ a → 0 ≤ b → 0 ≤ c →
    dropOk (tbl A B C (a + cnt l 0) (b + cnt l 1) (c + cnt l 2)) l ∧ dropAll (tbl A B C (a + cnt l 0) (b + cnt l 1) (c + cnt l 2)) l = tbl A B C a b c
  | [], a, b, c, _, _, _, _ => by simp [dropOk, dropAll, cnt]
  | p :: l, a, b, c, h, ha, hb, hc => by
    have ih := drop_tbl (l := l) (a := a) (b := b) (c := c) (fun q hq => h q (by simp [hq])) ha hb hc
    have n0 := cnt_nn l 0
    have n1 := cnt_nn l 1
    have n2 := cnt_nn l 2
    have key : (tDrop (tbl A B C (a + cnt (p :: l) 0) (b + cnt (p :: l) 1) (c + cnt (p :: l) 2)) p.f) = (0, tbl A B C (a + cnt l 0) (b + cnt l 1) (c + cnt l 2)) := by
      rw [cnt_cons, cnt_cons, cnt_cons]
      rcases h p (by simp) with e | e | e
      · have : ¬ a + (1 + cnt l 0) = 0 := by omega
        rw [e]; simp [tbl, tDrop, heldE, fat, this]; omega
      · have : ¬ b + (1 + cnt l 1) = 0 := by omega
        rw [e]; simp [tbl, tDrop, heldE, fat, this]; omega
      · have : ¬ c + (1 + cnt l 2) = 0 := by omega
        rw [e]; simp [tbl, tDrop, heldE, fat, this]; omega
    refine ⟨⟨by rw [key], by rw [key]; exact ih.1⟩, ?_⟩
    unfold dropAll at ih ⊢
    rw [List.foldl_cons, key]
    exact ih.2

def flt (A B C : List UInt8) (l : List Pc) : List UInt8 := l.flatMap fun p => cutB (pgF A B C p.f) p.o p.n
theorem fet_tbl {l : List Pc} {a b c : Int} (h : ∀ p ∈ l, in3 p ∧ wB p = true ∧ ((p.f = 0 → 0 < a) ∧ (p.f = 1 → 0 < b) ∧ (p.f = 2 → 0 < c))) : fetF (tbl A B C a b c) l = (0, flt A B C l) := by
  have key : ∀ p ∈ l, tFetch (tbl A B C a b c) p.f p.o p.n = (0, cutB (pgF A B C p.f) p.o p.n) := by
    intro p hp
    obtain ⟨h1, h2, h3⟩ := h p hp
    have h4 : spanB p.o p.n = true := h2
    rcases h1 with e | e | e
    · have := h3.1 e
      have : ¬ a = 0 := by omega
      rw [e]; simp [tbl, tFetch, heldE, fat, this, h4, pgF]
    · have := h3.2.1 e
      have : ¬ b = 0 := by omega
      rw [e]; simp [tbl, tFetch, heldE, fat, this, h4, pgF]
    · have := h3.2.2 e
      have : ¬ c = 0 := by omega
      rw [e]; simp [tbl, tFetch, heldE, fat, this, h4, pgF]
  unfold fetF flt
  rw [if_neg]
  · congr 1
    exact flatMap_congr' fun p hp => by rw [key p hp]
  · intro hh
    obtain ⟨p, hp, hq⟩ := List.any_eq_true.1 hh
    rw [key p hp] at hq
    simp at hq
end

section
variable {A B C : List UInt8}
theorem pgF_len (hA : A.length = 256) (hB : B.length = 256) (hC : C.length = 256) (f : Int) : (pgF A B C f).length = 256 := by unfold pgF; split; exact hA; split; exact hB; exact hC
theorem cutB_len {l : List UInt8} (hl : l.length = 256) {p : Pc} (h : wB p = true) : ((cutB l p.o p.n).length : Int) = p.n := by
  have := wB_bd h
  simp only [cutB, List.length_take, List.length_drop, hl]
  omega
theorem flt_len (hA : A.length = 256) (hB : B.length = 256) (hC : C.length = 256) {l : List Pc} (h : ∀ p ∈ l, wB p = true) : ((flt A B C l).length : Int) = psum l := by
  induction l with
  | nil => simp [flt, psum]
  | cons p l ih =>
    have ih := ih fun q hq => h q (by simp [hq])
    have := cutB_len (pgF_len hA hB hC p.f) (h p (by simp))
    rw [psum_cons]
    unfold flt at ih ⊢
    rw [List.flatMap_cons, List.length_append]
    omega
theorem cutB_sub {l : List UInt8} {o n s t : Int} (ho : 0 ≤ o) (hs : 0 ≤ s) (ht : 0 ≤ t) (hst : s + t ≤ n) : cutB l (o + s) t = ((cutB l o n).drop s.toNat).take t.toNat := by
  unfold cutB
  rw [List.drop_take, List.take_take, List.drop_drop]
  congr 1
  · omega
  · congr 1; omega
theorem cfold_flt (hA : A.length = 256) (hB : B.length = 256) (hC : C.length = 256) : ∀ {l : List Pc} {f m : Int} {out : List Pc}, (∀ p ∈ l, wB p = true) → 0 ≤ f → 0 ≤ m →
    flt A B C (l.foldl cstep (f, m, out)).2.2 = flt A B C out ++ ((flt A B C l).drop f.toNat).take m.toNat
  | [], f, m, out, _, _, _ => by simp [flt]
  | p :: l, f, m, out, h, hf, hm => by
    have hw := h p (by simp)
    have ⟨w0, w1, w2⟩ := wB_bd hw
    have hl := cutB_len (pgF_len hA hB hC p.f) hw
    have ih := fun o => cfold_flt hA hB hC (l := l) (f := f - min f p.n) (m := m - min m (p.n - min f p.n)) (out := o) (fun q hq => h q (by simp [hq])) (by omega) (by omega)
    rw [List.foldl_cons]
    simp only [cstep]
    rw [ih]
    have e : flt A B C (p :: l) = cutB (pgF A B C p.f) p.o p.n ++ flt A B C l := by simp [flt]
    have e2 : flt A B C (if 0 < min m (p.n - min f p.n) then out ++ [⟨p.f, p.o + min f p.n, min m (p.n - min f p.n)⟩] else out) = flt A B C out ++ ((cutB (pgF A B C p.f) p.o p.n).drop (min f p.n).toNat).take (min m (p.n - min f p.n)).toNat := by
      split
      · simp only [flt, List.flatMap_append, List.flatMap_cons, List.flatMap_nil, List.append_nil]
        rw [cutB_sub (n := p.n) w0 (by omega) (by omega) (by omega)]
      · have : (min m (p.n - min f p.n)).toNat = 0 := by omega
        rw [this]; simp
    rw [e2, e, List.append_assoc]
    congr 1
    generalize cutB (pgF A B C p.f) p.o p.n = X at *
    generalize flt A B C l = Y at *
    rw [List.drop_append, List.take_append, List.length_drop]
    congr 1
    · have e3 : X.drop (min f p.n).toNat = X.drop f.toNat := by
        rcases Int.le_total f p.n with hc | hc
        · rw [Int.min_eq_left hc]
        · rw [Int.min_eq_right hc, List.drop_of_length_le (by omega), List.drop_of_length_le (by omega)]
      rw [e3]
      rcases Int.le_total m (p.n - min f p.n) with hc | hc
      · rw [Int.min_eq_left hc]
      · rw [Int.min_eq_right hc, List.take_of_length_le (by rw [List.length_drop]; omega), List.take_of_length_le (by rw [List.length_drop]; omega)]
    · have e4 : (f - min f p.n).toNat = f.toNat - X.length := by omega
      have e5 : (m - min m (p.n - min f p.n)).toNat = m.toNat - (X.length - f.toNat) := by omega
      rw [e4, e5]
theorem cfold_from : ∀ {l : List Pc} {f m : Int} {out : List Pc}, (∀ p ∈ l, wB p = true) → 0 ≤ f → 0 ≤ m → ∀ q ∈ (l.foldl cstep (f, m, out)).2.2, q ∈ out ∨ (wB q = true ∧ ∃ p ∈ l, q.f = p.f)
  | [], f, m, out, _, _, _, q, hq => .inl hq
  | p :: l, f, m, out, h, hf, hm, q, hq => by
    have ⟨w0, w1, w2⟩ := wB_bd (h p (by simp))
    rw [List.foldl_cons] at hq
    simp only [cstep] at hq
    rcases cfold_from (l := l) (f := f - min f p.n) (m := m - min m (p.n - min f p.n)) (fun q hq => h q (by simp [hq])) (by omega) (by omega) q hq with h1 | ⟨h1, p', h2, h3⟩
    · split at h1
      · rcases List.mem_append.1 h1 with h1 | h1
        · exact .inl h1
        · simp only [List.mem_singleton] at h1
          subst h1
          refine .inr ⟨?_, p, by simp, rfl⟩
          simp only [wB, decide_eq_true_eq]
          omega
      · exact .inl h1
    · exact .inr ⟨h1, p', by simp [h2], h3⟩
end
end Go.Proofs.Ytilhjohoahgefaa
