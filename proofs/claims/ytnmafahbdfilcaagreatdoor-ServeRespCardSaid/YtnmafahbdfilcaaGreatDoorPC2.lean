/- Plain words for texts: cut at a byte, split at a byte, the last place of a byte; and what the shelf's words are in these. The library's contracts in the words of these texts. bytes.Clone, over slices of bytes. Decimal numbers; rows of texts; what is joined. pantlerref25.Digits at numbers that are not below 0. How a span is told: ranges.Content, None; the document's. -/
import Derived.Test.YtnmafahbdfilcaaGreatDoorPC1
import Derived.Lib.SplitLaws
import Derived.Lib.IndexMore
import Derived.Lib.LastIndexLaws
import Derived.Test.YtnmafahbdfilcaaGreatDoorShelf
import Derived.Shelf.Vars
import Derived.Test.YtnmafahbdfilcaaGreatDoorRows
import Derived.Lib.SliceRun
import Derived.Lib.ConvBytes
import Derived.Lib.BufferRead
import Derived.Test.YtnmafahbdfilcaaGreatDoorShelfI
import Derived.Lib.SmallJoins
import Derived.BigQuiet
namespace Go.Proofs.YtnmafahbdfilcaaGreatDoor
/-! ### Plain words for texts: cut at a byte, split at a byte, the last place of a byte; and what the shelf's words are in these. -/
section
open Go.RowKit
set_option linter.unusedVariables false

/-- What stands ahead of the first c, and behind it. -/
def bef (c : UInt8) : List UInt8 → List UInt8
  | [] => []
  | x :: r => if x = c then [] else x :: bef c r
def aft (c : UInt8) : List UInt8 → List UInt8
  | [] => []
  | x :: r => if x = c then r else aft c r
/-- The pieces between the c's. -/
def spl (c : UInt8) : List UInt8 → List (List UInt8)
  | [] => [[]]
  | x :: r => if x = c then [] :: spl c r else (x :: (spl c r).headD []) :: (spl c r).tail
theorem index_cons (c x : UInt8) (r : List UInt8) : Lib.index (x :: r) [c] = if x = c then 0 else if Lib.index r [c] = -1 then -1 else Lib.index r [c] + 1 := by
  rw [Lib.index]
  by_cases h : x = c
  · subst h; simp [List.isPrefixOf]
  · have hp : ([c] : List UInt8).isPrefixOf (x :: r) = false := by simp [List.isPrefixOf, Ne.symm h]
    rw [hp, if_neg h]; simp
theorem index_bef (c : UInt8) (l : List UInt8) : Lib.index l [c] = if l.contains c then ((bef c l).length : Int) else -1 := by
  induction l with
  | nil => simp [Lib.index]
  | cons x r ih =>
    rw [index_cons, ih]
    by_cases h : x = c
    · subst h; simp [bef]
    · have h' : ¬ c = x := Ne.symm h
      rw [if_neg h, List.contains_cons]
      have e : (c == x) = false := by simpa using h'
      rw [e, Bool.false_or, bef, if_neg h]
      cases hc : r.contains c
      · simp
      · have : ¬ ((bef c r).length : Int) = -1 := by omega
        simp [this]
theorem bef_aft {c : UInt8} {l : List UInt8} (h : l.contains c = true) : l = bef c l ++ c :: aft c l := by
  induction l with
  | nil => simp at h
  | cons x r ih =>
    by_cases e : x = c
    · subst e; simp [bef, aft]
    · have hc : r.contains c = true := by
        rw [List.contains_cons] at h
        have e' : (c == x) = false := by simpa using Ne.symm e
        rwa [e', Bool.false_or] at h
      rw [bef, aft, if_neg e, if_neg e, List.cons_append, ← ih hc]
theorem bef_not (c : UInt8) (l : List UInt8) : (bef c l).contains c = false := by
  induction l with
  | nil => rfl
  | cons x r ih =>
    rw [bef]; split
    · rfl
    · rw [List.contains_cons, ih, Bool.or_false]; simpa using Ne.symm ‹_›
theorem bef_self {c : UInt8} {l : List UInt8} (h : l.contains c = false) : bef c l = l ∧ aft c l = [] := by
  induction l with
  | nil => exact ⟨rfl, rfl⟩
  | cons x r ih =>
    rw [List.contains_cons, Bool.or_eq_false_iff] at h
    have e : ¬ x = c := by have := h.1; simp at this; exact Ne.symm this
    obtain ⟨h1, h2⟩ := ih h.2
    rw [bef, aft, if_neg e, if_neg e, h1, h2]; exact ⟨rfl, rfl⟩
theorem bef_len (c : UInt8) (l : List UInt8) : (bef c l).length ≤ l.length := by
  induction l with
  | nil => exact Nat.le_refl _
  | cons x r ih => rw [bef]; split <;> simp <;> omega
theorem aft_len (c : UInt8) (l : List UInt8) : (aft c l).length ≤ l.length := by
  induction l with
  | nil => exact Nat.le_refl _
  | cons x r ih => rw [aft]; split <;> simp <;> omega
theorem take_bef {c : UInt8} {l : List UInt8} (h : l.contains c = true) : l.take (bef c l).length = bef c l ∧ l.drop ((bef c l).length + 1) = aft c l := by
  have e := bef_aft h
  generalize bef c l = p at e ⊢
  generalize aft c l = q at e ⊢
  subst e
  simp
theorem cut_eq (c : UInt8) (l : List UInt8) : Lib.cut l [c] = (bef c l, aft c l, l.contains c) := by
  unfold Lib.cut
  rw [index_bef]
  cases h : l.contains c
  · obtain ⟨h1, h2⟩ := bef_self h
    rw [h1, h2]; simp
  · obtain ⟨h1, h2⟩ := take_bef h
    simp only [if_true, Int.toNat_natCast]
    rw [if_pos (by omega)]
    exact Prod.ext h1 (Prod.ext h2 rfl)
theorem spl_ne (c : UInt8) (l : List UInt8) : spl c l ≠ [] := by
  cases l with
  | nil => simp [spl]
  | cons x r => rw [spl]; split <;> simp
theorem spl_eq (c : UInt8) (l : List UInt8) : spl c l = if l.contains c then bef c l :: spl c (aft c l) else [l] := by
  induction l with
  | nil => rfl
  | cons x r ih =>
    rw [spl, bef, aft, List.contains_cons]
    by_cases h : x = c
    · subst h; simp
    · have e : (c == x) = false := by simpa using Ne.symm h
      rw [if_neg h, if_neg h, if_neg h, e, Bool.false_or, ih]
      cases hc : r.contains c <;> simp
theorem splitK_eq (c : UInt8) : ∀ (k : Nat) (l : List UInt8), l.count c = k → Lib.splitK [c] 0 k l = spl c l := by
  intro k
  induction k with
  | zero =>
    intro l h
    have hc : l.contains c = false := by
      rw [List.count_eq_zero] at h
      simpa using h
    rw [spl_eq, hc]; rfl
  | succ k ih =>
    intro l h
    have hc : l.contains c = true := by
      have : 0 < l.count c := by omega
      rw [List.count_pos_iff] at this
      simpa using this
    have e := bef_aft hc
    have hn := bef_not c l
    have hi : Lib.index l [c] = ((bef c l).length : Int) := by rw [index_bef, hc]; rfl
    have hca : (aft c l).count c = k := by
      have h' := h
      rw [e, List.count_append, List.count_cons_self] at h'
      have : (bef c l).count c = 0 := by rw [List.count_eq_zero]; simpa using hn
      omega
    obtain ⟨h1, h2⟩ := take_bef hc
    have hne : ¬ (((bef c l).length : Int) == -1) = true := by rw [beq_iff_eq]; omega
    rw [Lib.splitK, hi, if_neg hne, spl_eq, hc, if_pos rfl, ← ih _ hca]
    simp only [Int.toNat_natCast, Nat.add_zero, List.length_singleton]
    rw [h1, h2]
theorem splitB_spl (c : UInt8) (l : List UInt8) : Lib.splitB (S [c]) 0 (Lib.countB (S l) (S [c])) (S l) = (spl c l).map S := by
  have hk : Lib.countB (S l) (S [c]) = l.count c := by
    show Lib.count (S l).data.toList (S [c]).data.toList = _
    rw [S_data, S_data, Lib.count_one]
  have h := Lib.splitB_data (S [c]) 0 (Lib.countB (S l) (S [c])) (S l)
  rw [S_data, S_data, splitK_eq c _ _ hk.symm] at h
  have h2 := congrArg (List.map S) h
  rw [List.map_map] at h2
  rw [← h2]
  conv => lhs; rw [← List.map_id (Lib.splitB _ _ _ _)]
  exact List.map_congr_left (fun s _ => S_eta s)
theorem spl_len (c : UInt8) (l : List UInt8) : (spl c l).length = l.count c + 1 := by
  induction l with
  | nil => rfl
  | cons x r ih =>
    rw [spl]
    split
    · rename_i h; subst h; simp [ih]
    · rename_i h
      rw [List.length_cons, List.length_tail, ih, List.count_cons_of_ne (by simpa using h)]
      omega
theorem spl_mem_len (c : UInt8) (l : List UInt8) : ∀ p ∈ spl c l, p.length ≤ l.length := by
  induction l with
  | nil => simp [spl]
  | cons x r ih =>
    intro p hp
    rw [spl] at hp
    split at hp
    · rcases List.mem_cons.1 hp with rfl | hp
      · simp
      · have := ih p hp; simp; omega
    · rcases List.mem_cons.1 hp with rfl | hp
      · cases hs : spl c r with
        | nil => simp
        | cons q qs => have := ih q (by rw [hs]; simp); simp; omega
      · have := ih p (List.mem_of_mem_tail hp); simp; omega
/-- What stands behind the last c (all of it, where there is none). -/
def lst (c : UInt8) (l : List UInt8) : List UInt8 := (l.reverse.takeWhile (fun x => !(x == c))).reverse
theorem occ_one (l : List UInt8) (c : UInt8) (k : Nat) : Lib.occAt l [c] k = (l[k]? == some c) := by
  unfold Lib.occAt
  cases h : l[k]? with
  | none =>
    rw [List.drop_eq_nil_of_le (by simpa using h)]; rfl
  | some x =>
    obtain ⟨hk, hx⟩ := List.getElem?_eq_some_iff.1 h
    rw [List.drop_eq_getElem_cons hk, hx]
    simp [List.isPrefixOf]
    exact Bool.eq_iff_iff.2 ⟨fun h => by simpa using (beq_iff_eq.1 h).symm, fun h => by simpa using (beq_iff_eq.1 h).symm⟩
theorem lst_append (c : UInt8) (a b : List UInt8) (h : b.contains c = false) : lst c (a ++ c :: b) = b := by
  unfold lst
  rw [List.reverse_append, List.reverse_cons, List.append_assoc, List.takeWhile_append_of_pos (by
    intro x hx
    have hx' : x ∈ b := by simpa using hx
    simp only [Bool.not_eq_true', beq_eq_false_iff_ne]
    rintro rfl
    have : b.contains x = true := by simpa using hx'
    rw [h] at this; cases this)]
  simp
theorem lst_none (c : UInt8) (l : List UInt8) (h : l.contains c = false) : lst c l = l := by
  unfold lst
  have e : l.reverse.takeWhile (fun x => !(x == c)) = l.reverse := by
    have := List.takeWhile_append_of_pos (p := fun x => !(x == c)) (l₁ := l.reverse) (l₂ := []) (by
      intro x hx
      have hx' : x ∈ l := by simpa using hx
      simp only [Bool.not_eq_true', beq_eq_false_iff_ne]
      rintro rfl
      have : l.contains x = true := by simpa using hx'
      rw [h] at this; cases this)
    simpa using this
  rw [e, List.reverse_reverse]
/-- strings.LastIndex at one byte: -1 and there is none; or the place ahead of 'lst'. -/
theorem last_cases (l : List UInt8) (c : UInt8) :
    (Lib.lastIndex l [c] = -1 ∧ l.contains c = false) ∨ (∃ i : Nat, Lib.lastIndex l [c] = i ∧ i < l.length ∧ l = l.take i ++ c :: l.drop (i + 1) ∧ (l.drop (i + 1)).contains c = false) := by
  unfold Lib.lastIndex
  by_cases h0 : ([c] : List UInt8).length ≤ l.length
  · rw [if_pos h0]
    have e : l.length - ([c] : List UInt8).length + 1 = l.length := by simp at h0 ⊢; omega
    rw [e]
    rcases Lib.lastOcc_spec l [c] l.length with ⟨h, hn⟩ | ⟨i, hi, h, ho, hn⟩
    · left
      refine ⟨h, ?_⟩
      rw [List.contains_eq_any_beq, List.any_eq_false]
      intro x hx
      obtain ⟨j, hj⟩ := List.getElem?_of_mem hx
      have hjl : j < l.length := (List.getElem?_eq_some_iff.1 hj).1
      have := hn j hjl
      rw [occ_one, hj] at this
      simp at this ⊢
      exact Ne.symm this
    · right
      refine ⟨i, h, hi, ?_, ?_⟩
      · rw [occ_one] at ho
        have ho' : l[i]? = some c := by simpa using ho
        have e2 : l[i] = c := (List.getElem?_eq_some_iff.1 ho').2
        rw [← e2, ← List.drop_eq_getElem_cons hi, List.take_append_drop]
      · rw [List.contains_eq_any_beq, List.any_eq_false]
        intro x hx
        obtain ⟨j, hj⟩ := List.getElem?_of_mem hx
        rw [List.getElem?_drop] at hj
        have hjl : i + 1 + j < l.length := (List.getElem?_eq_some_iff.1 hj).1
        have := hn (i + 1 + j) (by omega) hjl
        rw [occ_one, hj] at this
        simp at this ⊢
        exact Ne.symm this
  · rw [if_neg h0]
    left
    have : l = [] := by cases l with | nil => rfl | cons => simp at h0
    subst this
    exact ⟨rfl, rfl⟩
theorem last_lst (l : List UInt8) (c : UInt8) : l.drop (Lib.lastIndex l [c] + 1).toNat = lst c l := by
  rcases last_cases l c with ⟨h, hc⟩ | ⟨i, h, hi, e, hc⟩
  · rw [h, lst_none c l hc]; rfl
  · rw [h]
    conv => rhs; rw [e]
    rw [lst_append _ _ _ hc]
    congr 1
end
/-! ### The library's contracts in the words of these texts. -/
section
open Go.RowKit
set_option linter.unusedVariables false

/-- The library's variable MaxLen holds some number. -/
def Ml (w : World) : Prop := ∃ m, w.cell? ⟨0, 0, none⟩ = some (.int .i64 m)
theorem ml_of_shape {w : World} (h : w.ShapedOpen Tryz.prog) : Ml w :=
  Go.Proofs.cell_of_shapedOpen_int (zero := #[.int .i64 0]) (t := 3) h (of_decide_eq_true (by kernel_rfl)) (by kernel_rfl) rfl (by kernel_rfl) (by kernel_rfl) Tryz.underlying3
theorem Ml.kp {w w' : World} (h : Ml w) (hk : Kp [] w w') : Ml w' := by
  obtain ⟨m, hm⟩ := h
  exact ⟨m, by rw [hk.cell (World.block_lt_of_cell? w _ hm) (by simp)]; exact hm⟩
theorem Ml.kpS {S : List Nat} {w w' : World} (h : Ml w) (hk : Kp S w w') (hS : 0 ∉ S) : Ml w' := by
  obtain ⟨m, hm⟩ := h
  exact ⟨m, by rw [hk.cell (World.block_lt_of_cell? w _ hm) hS]; exact hm⟩
theorem Ml.drewN {w : World} (h : Ml w) (n : Nat) : Ml (w.drewN n) := h
section
variable {R : Ending → World → Prop} {w : World}
theorem cut_any (l : List UInt8) (c : UInt8) (hm : Ml w) (hl : l.length ≤ 2000000) (h : ∀ n, R (.returned (.tuple #[.string (S (bef c l)), .string (S (aft c l)), .bool (l.contains c)])) (w.drewN n)) :
    Calls Tryz.prog 68 #[.string (S l), .string ⟨#[c]⟩] w R := by
  obtain ⟨m, hm⟩ := hm
  refine (Tryz.strings_Cut (S l) (S [c]) m w (by rw [S_size]; omega) hm).mono fun e w' ⟨he, n, hw⟩ => ?_
  rw [S_data, S_data, cut_eq] at he
  subst he; subst hw
  exact h n
theorem pre_any (l : List UInt8) (c : UInt8) (h : R (.returned (.bool (l.head? == some c))) w) : Calls Tryz.prog 42 #[.string (S l), .string ⟨#[c]⟩] w R := by
  refine (Tryz.strings_HasPrefix (S l) (S [c]) w).mono fun e w' ⟨he, hw⟩ => ?_
  rw [S_data, S_data] at he
  have e2 : Lib.hasPrefix l [c] = (l.head? == some c) := by
    cases l with
    | nil => rfl
    | cons x r =>
      simp only [Lib.hasPrefix, List.isPrefixOf, List.head?_cons]
      exact Bool.eq_iff_iff.2 ⟨fun h => by simp at h; simp [h], fun h => by simp at h; simp [h]⟩
  rw [e2] at he
  subst he; subst hw
  exact h
/-- A row of strings, as a slice's cells. -/
def strs (ps : List (List UInt8)) : List Value := ps.map fun p => .string (S p)
theorem split_any (l : List UInt8) (c : UInt8) (hm : Ml w) (hl : l.length ≤ 2000000)
    (h : ∀ g w', w.heap.size ≤ g → Bk w' g 9 (strs (spl c l)) → Kp [] w w' → R (.returned (.slice (some ⟨g, 0, none⟩) (spl c l).length (spl c l).length)) w') :
    Calls Tryz.prog 120 #[.string (S l), .string ⟨#[c]⟩] w R := by
  obtain ⟨m, hm⟩ := hm
  refine (Tryz.strings_Split (S l) (S [c]) m w (by rw [S_size]; omega) hm (by rw [S_size]; exact Nat.le_refl 1)).mono fun e w' ⟨he, hw⟩ => ?_
  have hk : Lib.countB (S l) (S [c]) = l.count c := by
    show Lib.count (S l).data.toList (S [c]).data.toList = _
    rw [S_data, S_data, Lib.count_one]
  rw [splitB_spl] at hw
  rw [hk, ← spl_len] at he
  subst he; subst hw
  refine h _ _ (Nat.le_refl _) ?_ ((Kp.refl _ _).alloc _)
  have e : ((spl c l).map S).map Value.string = strs (spl c l) := by simp [strs]
  rw [e]
  exact Bk.new w _ _
end
end
/-! ### bytes.Clone, over slices of bytes. -/
section
open Go.RowKit
set_option linter.unusedVariables false
set_option maxRecDepth 100000

theorem elt_u8 : Elt Tryz.prog 52 5 (.int .u8 0) 1 1 := ⟨Tryz.underlying52, by kernel_rfl, rfl, by decide, by decide⟩

theorem Elt.one {P : Program} {t e : Nat} {z : Value} {sz by_ : Nat} (h : Elt P t e z sz by_) : (P.info? e).map (·.size) = some sz := by
  obtain ⟨_, hi, _⟩ := h
  obtain ⟨i, hi, _, hs, _⟩ := info_parts hi
  simp [hi, hs]

/-! ### strings and bytes -/
section
variable {w w' a : World} {S N : List Nat}
theorem conv_sb (W : World) (s : ByteArray) : (convert 9 52 (.string s)).run Tryz.prog W = .ok (.slice (some ⟨W.heap.size, 0, none⟩) s.size (grownCap W s.size 0 5)) (Lib.bytesWorld W 5 s) :=
  Lib.run_convert_string_bytes W _ _ _ s Tryz.underlying9 Tryz.underlying52 Tryz.underlying5
theorem Kp.bytesWorld (h : Kp S a w) (e : Nat) (s : ByteArray) : Kp S a (Lib.bytesWorld w e s) :=
  ⟨h.os, h.tape, h.output, by rw [Lib.bytesWorld_size]; have := h.size; omega, fun k hk hn => (Lib.bytesWorld_at_old w e s k (Nat.lt_of_lt_of_le hk h.size)).trans (h.block k hk hn)⟩
theorem rd_bytesWorld (w : World) (e : Nat) (s : ByteArray) {g : Nat} (hg : g = w.heap.size) (hN : g ∉ N) : Rd (Lib.bytesWorld w e s) N (some ⟨g, 0, none⟩) (bts s.data.toList) := fun _ =>
  ⟨g, 0, rfl, hN, by rw [Lib.bytesWorld_size]; omega, fun j u hu => by
    subst hg
    rw [bts_get] at hu
    have hj : j < s.size := by
      rcases Nat.lt_or_ge j s.size with h | h
      · exact h
      · rw [List.getElem?_eq_none (by simpa using h)] at hu; cases hu
    rw [Nat.zero_add, Lib.bytesWorld_cell w e s j hj]
    have hj' : j < s.data.toList.length := by simpa using hj
    rw [List.getElem?_eq_getElem hj'] at hu
    rw [← hu]
    have e2 : s.data[j]? = some s.data[j] := Array.getElem?_eq_getElem hj
    simp [List.getD, e2]⟩
theorem conv_bs {A : Option Addr} {n c : Nat} {l : List UInt8} (hr : Rd w N A (bts l)) (hl : l.length = n) : (convert 52 9 (.slice A n c)).run Tryz.prog w = .ok (.string ⟨l.toArray⟩) w := by
  subst hl
  rcases A with _ | ad
  · have e : l = [] := by
      cases l with
      | nil => rfl
      | cons x l => obtain ⟨_, _, h, _⟩ := hr (by simp [bts]); cases h
    subst e
    exact Lib.run_convert_nil_bytes w _ _ _ c Tryz.underlying52 Tryz.underlying5 Tryz.underlying9
  · refine run_convert_bytes_back w _ _ _ ad c l Tryz.underlying52 Tryz.underlying5 Tryz.underlying9 fun j hj => ?_
    obtain ⟨ad', h, hc⟩ := hr.src (by intro e; simp [bts] at e; subst e; simp at hj)
    cases h
    exact hc j _ (by rw [bts_get, List.getElem?_eq_getElem hj]; rfl)
end
end
/-! ### Decimal numbers; rows of texts; what is joined. -/
section
open Go.RowKit Go.Shelf
set_option linter.unusedVariables false
set_option linter.unusedSimpArgs false
set_option maxRecDepth 100000

/-- strconv's table lies as its text lays it. -/
def Pw (w : World) : Prop := Lib.TabIs Tryz.prog w "internal/strconv.uint64pow10" .u64 Lib.pow10Tab
theorem Pw.kp {w w' : World} (h : Pw w) (hk : Kp [] w w') : Pw w' :=
  Go.Joins.tab_stays (g := 1) (by kernel_rfl) h hk.below_nil (Nat.le_refl _)
structure Lw (w : World) : Prop where
  ml : Ml w
  pw : Pw w
theorem Lw.kp {w w' : World} (h : Lw w) (hk : Kp [] w w') : Lw w' := ⟨h.ml.kp hk, h.pw.kp hk⟩
theorem Kp.grow {S : List Nat} {a w : World} (h : Kp S a w) (os : Array Obj) : Kp S a (Go.Sort.grow w os) :=
  ⟨h.os, h.tape, h.output, by show a.heap.size ≤ (w.heap ++ os).size; rw [Array.size_append]; have := h.size; omega, fun k hk hn => by
    show (w.heap ++ os)[k]? = _
    rw [Array.getElem?_append_left (by have := h.size; omega)]; exact h.block k hk hn⟩
/-- The digits of a number. -/
def decL (n : Nat) : List UInt8 := Lib.decDigits n
theorem decL_small {n : Nat} (h : n < 10) : decL n = [UInt8.ofNat (48 + n)] := by unfold decL; rw [Lib.decDigits, dif_pos h]
theorem decL_big {n : Nat} (h : ¬ n < 10) : decL n = decL (n / 10) ++ [UInt8.ofNat (48 + n % 10)] := by unfold decL; rw [Lib.decDigits, dif_neg h]
theorem decL_len {k : Nat} : ∀ n : Nat, n < 10 ^ k → (decL n).length ≤ k + 1 := by
  induction k with
  | zero => intro n h; rw [decL_small (by omega)]; simp
  | succ k ih =>
    intro n h
    by_cases h1 : n < 10
    · rw [decL_small h1]; simp
    · rw [decL_big h1]
      have := ih (n / 10) (by rw [Nat.pow_succ] at h; omega)
      simp; omega
theorem decL_len20 {n : Nat} (h : n ≤ 9223372036854775807) : (decL n).length ≤ 20 := by
  have e : (10 : Nat) ^ 19 = 10000000000000000000 := by decide
  exact decL_len (k := 19) n (by omega)
theorem itoa_any {R : Ending → World → Prop} (n : Nat) (w : World) (hn : n ≤ 9223372036854775807) (hw : Lw w) (h : ∀ w', Kp [] w w' → R (.returned (.string (S (decL n)))) w') : Calls Tryz.prog 77 #[.int .i64 n] w R := by
  refine (Tryz.strconv_Itoa n (by omega) (by omega) w hw.pw).mono fun e w' ⟨he, k, os, hw'⟩ => ?_
  have e1 : Lib.itoa (n : Int) = decL n := by
    unfold Lib.itoa decL
    rw [if_neg (by omega), Int.toNat_natCast]
  rw [e1] at he
  subst he; subst hw'
  exact h _ (((Kp.refl _ _).drewN _).grow _)
theorem itoa_int {R : Ending → World → Prop} (v : Int) (n : Nat) (w : World) (hv : v = n) (hn : n ≤ 9223372036854775807) (hw : Lw w) (h : ∀ w', Kp [] w w' → R (.returned (.string (S (decL n)))) w') : Calls Tryz.prog 77 #[.int .i64 v] w R := by
  subst hv; exact itoa_any n w hn hw h
theorem elt_str : Elt Tryz.prog 46 9 (.string ByteArray.empty) 1 16 := ⟨Tryz.underlying46, by kernel_rfl, rfl, by decide, by decide⟩
theorem strs_one (ps : List (List UInt8)) : ∀ u ∈ strs ps, u.oneCell' = true := by
  intro u hu; simp only [strs, List.mem_map] at hu; obtain ⟨c, _, rfl⟩ := hu; rfl
theorem strs_append (a b : List (List UInt8)) : strs (a ++ b) = strs a ++ strs b := by simp [strs]
theorem strs_len (a : List (List UInt8)) : (strs a).length = a.length := by simp [strs]
theorem strs_get (a : List (List UInt8)) (i : Nat) : (strs a)[i]? = (a[i]?).map fun p => .string (S p) := by simp [strs]
theorem join_any {R : Ending → World → Prop} {w : World} {A : Option Addr} {n c : Nat} (ps : List (List UInt8)) (x : List UInt8) (ho : Ow w 9 1 A n c (strs ps)) (hn : 0 < n) (hc : n ≤ 1000) (hlen : (Lib.join ps x).length ≤ 2000000)
    (h : ∀ w', Kp [] w w' → R (.returned (.string (S (Lib.join ps x)))) w') : Calls Tryz.prog 73 #[.slice A n c, .string ⟨x.toArray⟩] w R := by
  have hl := ho.len
  simp only [strs, List.length_map, Nat.mul_one] at hl
  obtain ⟨g, rfl, hg⟩ := ho.form hn
  have hcap : n ≤ c := by
    rcases ho.2 with ⟨hv, h0⟩ | ⟨g', cap, cur, hv, _, _, hnc, _⟩
    · omega
    · injection hv with _ _ hc'; omega
  have hcells : ∀ (j : Nat) y, (ps.map S)[j]? = some y → w.cell? ⟨g, 0 + j, none⟩ = some (.string y) := by
    intro j y hy
    obtain ⟨b, off, hb, _, _, hcc⟩ := ho.rd (N := []) (by simp) (by intro e; simp [strs] at e; subst e; simp at hl; omega)
    cases hb
    refine hcc j _ ?_
    simp only [strs, List.getElem?_map] at hy ⊢
    cases hp : ps[j]? with
    | none => rw [hp] at hy; cases hy
    | some p => rw [hp] at hy; simp at hy; subst hy; simp
  have e1 : (ps.map S).map (·.data.toList) = ps := by
    rw [List.map_map]; conv => rhs; rw [← List.map_id ps]
    exact List.map_congr_left (fun s _ => S_data s)
  have e2 : ((⟨x.toArray⟩ : ByteArray)).data.toList = x := by simp
  have hcon := Tryz.strings_Join g 0 c (ps.map S) ⟨x.toArray⟩ w hcells hg (by rw [List.length_map]; omega) (by rw [List.length_map]; omega) (by rw [e1, e2]; omega)
  rw [List.length_map, hl, e1, e2] at hcon
  refine hcon.mono fun e w' ⟨he, hw⟩ => ?_
  subst he
  exact h w' (Kp.of_below hw)
end
/-! ### pantlerref25.Digits at numbers that are not below 0. -/
section
open Go.RowKit Go.Shelf
set_option linter.unusedVariables false
set_option linter.unusedSimpArgs false
set_option maxRecDepth 100000
set_option maxHeartbeats 1000000 in
theorem rdigits_any {R : Ending → World → Prop} (N : Nat) (w : World) (hN : N ≤ 9223372036854775807) (h : ∀ w', Kp [] w w' → R (.returned (.string (S (decL N)))) w') : Calls Tryz.prog 14 #[.int .i64 N] w R := by
  have H := Lib.hid h
  clear h
  go_enter Tryz.func14, Tryz.ntmps14
  go_wp2
  go_loopw [0, 3] (fun nv s wr => ∃ (k : Nat) (q : List UInt8), nv = .int .i64 k ∧ s = .string (S q) ∧ k ≤ N ∧ Hid (decL N = decL k ++ q) ∧ Kp [] w wr) (fun nv _ _ => (intOf nv).toNat)
  case atStart => exact ⟨N, [], rfl, rfl, Nat.le_refl _, Lib.hid (by simp), Kp.refl _ _⟩
  case round =>
    obtain ⟨k, q, rfl, rfl, hk, hq, kr⟩ := hrel
    obtain ⟨c, hc⟩ : ∃ c : UInt8, c = UInt8.ofNat (48 + k % 10) := ⟨_, rfl⟩
    have hcn : c.toNat = 48 + k % 10 := by rw [hc, UInt8.toNat_ofNat']; omega
    have hE : 48 + (k : Int) % 10 = (c.toNat : Int) := by omega
    have hcl := c.toNat_lt
    have hcv : (convert 52 9 (.slice (some ⟨wr.heap.size, 0, none⟩) 1 1)).run Tryz.prog (wr.alloc (.cells #[.int .u8 c.toNat] 5)) = .ok (.string (S [c])) (wr.alloc (.cells #[.int .u8 c.toNat] 5)) :=
      conv_bs (N := []) (l := [c]) (Rd.of_bk (Bk.newAt rfl _ _) (by simp)) rfl
    have hql : q.length ≤ 20 := by
      have h1 := decL_len20 hN
      have h2 := congrArg List.length hq.out
      rw [List.length_append] at h2
      omega
    by_cases h10 : 10 ≤ k
    · have HQ : Hid (decL N = decL (k / 10) ++ (c :: q)) := Lib.hid (by rw [hq.out, decL_big (by omega), hc, List.append_assoc]; rfl)
      clear hc hcn hq
      go_wp2
      exact ⟨⟨k / 10, c :: q, congrArg (Value.int .i64) (by omega), rfl, by omega, HQ, kr.alloc _⟩, by simp [intOf]; omega⟩
    · have HQ : Hid (decL N = c :: q) := Lib.hid (by rw [hq.out, decL_small (by omega), hc, show k % 10 = k by omega]; rfl)
      clear hc hcn hq
      have k2 := kr.alloc (.cells #[.int .u8 (c.toNat : Int)] 5)
      go_wp2
      exact rcast (H.out _ k2) (congrArg (fun l => Value.string (S l)) HQ.out)
end
/-! ### How a span is told: ranges.Content, None; the document's. -/
section
open Go.RowKit Go.Shelf
set_option linter.unusedVariables false
set_option linter.unusedSimpArgs false
set_option maxRecDepth 100000

def itoaL (v : Int) : List UInt8 := Lib.itoa v
theorem itoaL_nat (n : Nat) : itoaL n = decL n := by unfold itoaL Lib.itoa decL; rw [if_neg (by omega), Int.toNat_natCast]
theorem itoaL_neg (n : Nat) (h : 0 < n) : itoaL (-(n : Int)) = 45 :: decL n := by unfold itoaL Lib.itoa decL; rw [if_pos (by omega)]; simp
theorem itoaL_len (v : Int) (h0 : -9223372036854775807 ≤ v) (h1 : v ≤ 9223372036854775807) : (itoaL v).length ≤ 21 := by
  by_cases h : 0 ≤ v
  · obtain ⟨n, rfl⟩ : ∃ n : Nat, v = n := ⟨v.toNat, by omega⟩
    rw [itoaL_nat]; have := decL_len20 (n := n) (by omega); omega
  · obtain ⟨n, rfl⟩ : ∃ n : Nat, v = -(n : Int) := ⟨(-v).toNat, by omega⟩
    rw [itoaL_neg n (by omega)]; have := decL_len20 (n := n) (by omega); simp; omega
theorem itoa_all {R : Ending → World → Prop} (v : Int) (w : World) (h0 : -9223372036854775808 ≤ v) (h1 : v ≤ 9223372036854775807) (hw : Lw w) (h : ∀ w', Kp [] w w' → R (.returned (.string (S (itoaL v)))) w') : Calls Tryz.prog 77 #[.int .i64 v] w R := by
  refine (Tryz.strconv_Itoa v h0 h1 w hw.pw).mono fun e w' ⟨he, k, os, hw'⟩ => ?_
  subst he; subst hw'
  exact h _ (((Kp.refl _ _).drewN _).grow _)
theorem rdigits_sgn {R : Ending → World → Prop} (v : Int) (w : World) (h0 : -9223372036854775807 ≤ v) (h1 : v ≤ 9223372036854775807) (h : ∀ w', Kp [] w w' → R (.returned (.string (S (itoaL v)))) w') : Calls Tryz.prog 14 #[.int .i64 v] w R := by
  by_cases hv : 0 ≤ v
  · obtain ⟨n, rfl⟩ : ∃ n : Nat, v = n := ⟨v.toNat, by omega⟩
    rw [itoaL_nat] at h
    exact rdigits_any n w (by omega) h
  · obtain ⟨n, rfl⟩ : ∃ n : Nat, v = -(n : Int) := ⟨(-v).toNat, by omega⟩
    rw [itoaL_neg n (by omega)] at h
    have hn : 0 < n := by omega
    have hn2 : n ≤ 9223372036854775807 := by omega
    have hl := decL_len20 hn2
    have H := Lib.hid h
    clear h
    go_enter Tryz.func14, Tryz.ntmps14
    go_wp2_with (go_at_call 14; ((refine rdigits_any n _ hn2 ?_); intro w1 k1))
    exact H.out _ k1
theorem wrap_ok {v : Int} (h0 : -9223372036854775808 ≤ v) (h1 : v ≤ 9223372036854775807) : IntKind.i64.wrap v = v := by
  first | (simp only [IntKind.wrap, wrap64]; omega) | (simp [IntKind.wrap, IntKind.signed, IntKind.bits]; omega) | (unfold IntKind.wrap; simp; omega)
def contL (f l n : Int) : List UInt8 := 98 :: 121 :: 116 :: 101 :: 115 :: 32 :: (itoaL f ++ 45 :: (itoaL (f + l - 1) ++ 47 :: itoaL n))
theorem content_any {R : Ending → World → Prop} (f l n : Int) (w : World) (hf : 0 ≤ f ∧ f ≤ 35184372088832) (hl : 0 ≤ l ∧ l ≤ 35184372088832) (hn : 0 ≤ n ∧ n ≤ 35184372088832) (hw : Lw w)
    (h : ∀ w', Kp [] w w' → R (.returned (.string (S (contL f l n)))) w') : Calls Tryz.prog 81 #[.agg #[.int .i64 f, .int .i64 l], .int .i64 n] w R := by
  have H := Lib.hid h
  obtain ⟨f1, f2⟩ := hf
  obtain ⟨l1, l2⟩ := hl
  obtain ⟨n1, n2⟩ := hn
  have e1 := itoaL_len f (by omega) (by omega)
  have e2 := itoaL_len (f + l - 1) (by omega) (by omega)
  have e3 := itoaL_len n (by omega) (by omega)
  clear h
  have w1 : IntKind.i64.wrap (f + l) = f + l := wrap_ok (by omega) (by omega)
  have w2 : IntKind.i64.wrap (f + l - 1) = f + l - 1 := wrap_ok (by omega) (by omega)
  have HW := Lib.hid (fun o => hw.kp ((Kp.refl [] w).alloc o))
  go_enter Tryz.func81, Tryz.ntmps81
  go_wp2_with fail
  refine wp_region_kp (by kernel_rfl) (by kernel_rfl) ?_
  repeat (quiet_step (first | (go_at_call 77; ((refine itoa_all _ _ (by omega) (by omega) ((HW.out _).kp (kpw_kp _ _)) ?_); intro w' k'; exact kpx_mk k')) | (rw [if_neg (by simp only [List.length_append, List.length_cons, List.length_nil]; omega)]; exact ⟨rfl, rfl⟩) | (rw [if_neg (by omega)]; exact ⟨rfl, rfl⟩)))
  refine wpQuiet_nil ?_
  intro w6 k6
  go_wp2
  exact H.out _ (((Kp.refl _ _).alloc _).trans k6)
end
end Go.Proofs.YtnmafahbdfilcaaGreatDoor
