/- Plain words for texts: cut at a byte, split at a byte, the last place of a byte; and what the shelf's words are in these. -/
import Derived.Test.YtnpkfhnhcadgeaaDoorStr
import Derived.Lib.SplitLaws
import Derived.Lib.IndexMore
import Derived.Lib.LastIndexLaws
namespace Go.Proofs.YtnpkfhnhcadgeaaDoor
open Go.RowKit
set_option linter.unusedVariables false

/-- What stands ahead of the first c, and behind it. -/
def bef (c : UInt8) : List UInt8 → List UInt8
  | [] => []
  | x :: r => if x = c then [] else x :: bef c r
def aft (c : UInt8) : List UInt8 → List UInt8
  | [] => []
  | x :: r => if x = c then r else aft c r
/-- The pieces between the c's. -/
def spl (c : UInt8) : List UInt8 → List (List UInt8)
  | [] => [[]]
  | x :: r => if x = c then [] :: spl c r else (x :: (spl c r).headD []) :: (spl c r).tail
theorem index_cons (c x : UInt8) (r : List UInt8) : Lib.index (x :: r) [c] = if x = c then 0 else if Lib.index r [c] = -1 then -1 else Lib.index r [c] + 1 := by
  rw [Lib.index]
  by_cases h : x = c
  · subst h; simp [List.isPrefixOf]
  · have hp : ([c] : List UInt8).isPrefixOf (x :: r) = false := by simp [List.isPrefixOf, Ne.symm h]
    rw [hp, if_neg h]; simp
theorem index_bef (c : UInt8) (l : List UInt8) : Lib.index l [c] = if l.contains c then ((bef c l).length : Int) else -1 := by
  induction l with
  | nil => simp [Lib.index]
  | cons x r ih =>
    rw [index_cons, ih]
    by_cases h : x = c
    · subst h; simp [bef]
    · have h' : ¬ c = x := Ne.symm h
      rw [if_neg h, List.contains_cons]
      have e : (c == x) = false := by simpa using h'
      rw [e, Bool.false_or, bef, if_neg h]
      cases hc : r.contains c
      · simp
      · have : ¬ ((bef c r).length : Int) = -1 := by omega
        simp [this]
theorem bef_aft {c : UInt8} {l : List UInt8} (h : l.contains c = true) : l = bef c l ++ c :: aft c l := by
  induction l with
  | nil => simp at h
  | cons x r ih =>
    by_cases e : x = c
    · subst e; simp [bef, aft]
    · have hc : r.contains c = true := by
        rw [List.contains_cons] at h
        have e' : (c == x) = false := by simpa using Ne.symm e
        rwa [e', Bool.false_or] at h
      rw [bef, aft, if_neg e, if_neg e, List.cons_append, ← ih hc]
theorem bef_not (c : UInt8) (l : List UInt8) : (bef c l).contains c = false := by
  induction l with
  | nil => rfl
  | cons x r ih =>
    rw [bef]; split
    · rfl
    · rw [List.contains_cons, ih, Bool.or_false]; simpa using Ne.symm ‹_›
theorem bef_self {c : UInt8} {l : List UInt8} (h : l.contains c = false) : bef c l = l ∧ aft c l = [] := by
  induction l with
  | nil => exact ⟨rfl, rfl⟩
  | cons x r ih =>
    rw [List.contains_cons, Bool.or_eq_false_iff] at h
    have e : ¬ x = c := by have := h.1; simp at this; exact Ne.symm this
    obtain ⟨h1, h2⟩ := ih h.2
    rw [bef, aft, if_neg e, if_neg e, h1, h2]; exact ⟨rfl, rfl⟩
theorem bef_len (c : UInt8) (l : List UInt8) : (bef c l).length ≤ l.length := by
  induction l with
  | nil => exact Nat.le_refl _
  | cons x r ih => rw [bef]; split <;> simp <;> omega
theorem aft_len (c : UInt8) (l : List UInt8) : (aft c l).length ≤ l.length := by
  induction l with
  | nil => exact Nat.le_refl _
  | cons x r ih => rw [aft]; split <;> simp <;> omega
theorem take_bef {c : UInt8} {l : List UInt8} (h : l.contains c = true) : l.take (bef c l).length = bef c l ∧ l.drop ((bef c l).length + 1) = aft c l := by
  have e := bef_aft h
  generalize bef c l = p at e ⊢
  generalize aft c l = q at e ⊢
  subst e
  simp
theorem cut_eq (c : UInt8) (l : List UInt8) : Lib.cut l [c] = (bef c l, aft c l, l.contains c) := by
  unfold Lib.cut
  rw [index_bef]
  cases h : l.contains c
  · obtain ⟨h1, h2⟩ := bef_self h
    rw [h1, h2]; simp
  · obtain ⟨h1, h2⟩ := take_bef h
    simp only [if_true, Int.toNat_natCast]
    rw [if_pos (by omega)]
    exact Prod.ext h1 (Prod.ext h2 rfl)
theorem spl_ne (c : UInt8) (l : List UInt8) : spl c l ≠ [] := by
  cases l with
  | nil => simp [spl]
  | cons x r => rw [spl]; split <;> simp
theorem spl_eq (c : UInt8) (l : List UInt8) : spl c l = if l.contains c then bef c l :: spl c (aft c l) else [l] := by
  induction l with
  | nil => rfl
  | cons x r ih =>
    rw [spl, bef, aft, List.contains_cons]
    by_cases h : x = c
    · subst h; simp
    · have e : (c == x) = false := by simpa using Ne.symm h
      rw [if_neg h, if_neg h, if_neg h, e, Bool.false_or, ih]
      cases hc : r.contains c <;> simp
theorem splitK_eq (c : UInt8) : ∀ (k : Nat) (l : List UInt8), l.count c = k → Lib.splitK [c] 0 k l = spl c l := by
  intro k
  induction k with
  | zero =>
    intro l h
    have hc : l.contains c = false := by
      rw [List.count_eq_zero] at h
      simpa using h
    rw [spl_eq, hc]; rfl
  | succ k ih =>
    intro l h
    have hc : l.contains c = true := by
      have : 0 < l.count c := by omega
      rw [List.count_pos_iff] at this
      simpa using this
    have e := bef_aft hc
    have hn := bef_not c l
    have hi : Lib.index l [c] = ((bef c l).length : Int) := by rw [index_bef, hc]; rfl
    have hca : (aft c l).count c = k := by
      have h' := h
      rw [e, List.count_append, List.count_cons_self] at h'
      have : (bef c l).count c = 0 := by rw [List.count_eq_zero]; simpa using hn
      omega
    obtain ⟨h1, h2⟩ := take_bef hc
    have hne : ¬ (((bef c l).length : Int) == -1) = true := by rw [beq_iff_eq]; omega
    rw [Lib.splitK, hi, if_neg hne, spl_eq, hc, if_pos rfl, ← ih _ hca]
    simp only [Int.toNat_natCast, Nat.add_zero, List.length_singleton]
    rw [h1, h2]
theorem splitB_spl (c : UInt8) (l : List UInt8) : Lib.splitB (S [c]) 0 (Lib.countB (S l) (S [c])) (S l) = (spl c l).map S := by
  have hk : Lib.countB (S l) (S [c]) = l.count c := by
    show Lib.count (S l).data.toList (S [c]).data.toList = _
    rw [S_data, S_data, Lib.count_one]
  have h := Lib.splitB_data (S [c]) 0 (Lib.countB (S l) (S [c])) (S l)
  rw [S_data, S_data, splitK_eq c _ _ hk.symm] at h
  have h2 := congrArg (List.map S) h
  rw [List.map_map] at h2
  rw [← h2]
  conv => lhs; rw [← List.map_id (Lib.splitB _ _ _ _)]
  exact List.map_congr_left (fun s _ => S_eta s)
theorem spl_len (c : UInt8) (l : List UInt8) : (spl c l).length = l.count c + 1 := by
  induction l with
  | nil => rfl
  | cons x r ih =>
    rw [spl]
    split
    · rename_i h; subst h; simp [ih]
    · rename_i h
      rw [List.length_cons, List.length_tail, ih, List.count_cons_of_ne (by simpa using h)]
      omega
theorem spl_mem_len (c : UInt8) (l : List UInt8) : ∀ p ∈ spl c l, p.length ≤ l.length := by
  induction l with
  | nil => simp [spl]
  | cons x r ih =>
    intro p hp
    rw [spl] at hp
    split at hp
    · rcases List.mem_cons.1 hp with rfl | hp
      · simp
      · have := ih p hp; simp; omega
    · rcases List.mem_cons.1 hp with rfl | hp
      · cases hs : spl c r with
        | nil => simp
        | cons q qs => have := ih q (by rw [hs]; simp); simp; omega
      · have := ih p (List.mem_of_mem_tail hp); simp; omega
/-- What stands behind the last c (all of it, where there is none). -/
def lst (c : UInt8) (l : List UInt8) : List UInt8 := (l.reverse.takeWhile (fun x => !(x == c))).reverse
theorem occ_one (l : List UInt8) (c : UInt8) (k : Nat) : Lib.occAt l [c] k = (l[k]? == some c) := by
  unfold Lib.occAt
  cases h : l[k]? with
  | none =>
    rw [List.drop_eq_nil_of_le (by simpa using h)]; rfl
  | some x =>
    obtain ⟨hk, hx⟩ := List.getElem?_eq_some_iff.1 h
    rw [List.drop_eq_getElem_cons hk, hx]
    simp [List.isPrefixOf]
    exact Bool.eq_iff_iff.2 ⟨fun h => by simpa using (beq_iff_eq.1 h).symm, fun h => by simpa using (beq_iff_eq.1 h).symm⟩
theorem lst_append (c : UInt8) (a b : List UInt8) (h : b.contains c = false) : lst c (a ++ c :: b) = b := by
  unfold lst
  rw [List.reverse_append, List.reverse_cons, List.append_assoc, List.takeWhile_append_of_pos (by
    intro x hx
    have hx' : x ∈ b := by simpa using hx
    simp only [Bool.not_eq_true', beq_eq_false_iff_ne]
    rintro rfl
    have : b.contains x = true := by simpa using hx'
    rw [h] at this; cases this)]
  simp
theorem lst_none (c : UInt8) (l : List UInt8) (h : l.contains c = false) : lst c l = l := by
  unfold lst
  have e : l.reverse.takeWhile (fun x => !(x == c)) = l.reverse := by
    have := List.takeWhile_append_of_pos (p := fun x => !(x == c)) (l₁ := l.reverse) (l₂ := []) (by
      intro x hx
      have hx' : x ∈ l := by simpa using hx
      simp only [Bool.not_eq_true', beq_eq_false_iff_ne]
      rintro rfl
      have : l.contains x = true := by simpa using hx'
      rw [h] at this; cases this)
    simpa using this
  rw [e, List.reverse_reverse]
/-- strings.LastIndex at one byte: -1 and there is none; or the place ahead of 'lst'. -/
theorem last_cases (l : List UInt8) (c : UInt8) :
    (Lib.lastIndex l [c] = -1 ∧ l.contains c = false) ∨ (∃ i : Nat, Lib.lastIndex l [c] = i ∧ i < l.length ∧ l = l.take i ++ c :: l.drop (i + 1) ∧ (l.drop (i + 1)).contains c = false) := by
  unfold Lib.lastIndex
  by_cases h0 : ([c] : List UInt8).length ≤ l.length
  · rw [if_pos h0]
    have e : l.length - ([c] : List UInt8).length + 1 = l.length := by simp at h0 ⊢; omega
    rw [e]
    rcases Lib.lastOcc_spec l [c] l.length with ⟨h, hn⟩ | ⟨i, hi, h, ho, hn⟩
    · left
      refine ⟨h, ?_⟩
      rw [List.contains_eq_any_beq, List.any_eq_false]
      intro x hx
      obtain ⟨j, hj⟩ := List.getElem?_of_mem hx
      have hjl : j < l.length := (List.getElem?_eq_some_iff.1 hj).1
      have := hn j hjl
      rw [occ_one, hj] at this
      simp at this ⊢
      exact Ne.symm this
    · right
      refine ⟨i, h, hi, ?_, ?_⟩
      · rw [occ_one] at ho
        have ho' : l[i]? = some c := by simpa using ho
        have e2 : l[i] = c := (List.getElem?_eq_some_iff.1 ho').2
        rw [← e2, ← List.drop_eq_getElem_cons hi, List.take_append_drop]
      · rw [List.contains_eq_any_beq, List.any_eq_false]
        intro x hx
        obtain ⟨j, hj⟩ := List.getElem?_of_mem hx
        rw [List.getElem?_drop] at hj
        have hjl : i + 1 + j < l.length := (List.getElem?_eq_some_iff.1 hj).1
        have := hn (i + 1 + j) (by omega) hjl
        rw [occ_one, hj] at this
        simp at this ⊢
        exact Ne.symm this
  · rw [if_neg h0]
    left
    have : l = [] := by cases l with | nil => rfl | cons => simp at h0
    subst this
    exact ⟨rfl, rfl⟩
theorem last_lst (l : List UInt8) (c : UInt8) : l.drop (Lib.lastIndex l [c] + 1).toNat = lst c l := by
  rcases last_cases l c with ⟨h, hc⟩ | ⟨i, h, hi, e, hc⟩
  · rw [h, lst_none c l hc]; rfl
  · rw [h]
    conv => rhs; rw [e]
    rw [lst_append _ _ _ hc]
    congr 1
end Go.Proofs.YtnpkfhnhcadgeaaDoor
