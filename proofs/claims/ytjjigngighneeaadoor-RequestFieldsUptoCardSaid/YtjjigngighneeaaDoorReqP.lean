/- Package request in plain words: a line, a head, a request of lines, and how these stay when more bytes come. -/
import Derived.Test.YtjjigngighneeaaDoorItems
import Derived.Test.YtjjigngighneeaaDoorLex2
import Derived.Test.YtjjigngighneeaaDoorLineP
namespace Go.Proofs.YtjjigngighneeaaDoor
open Go.RowKit Go.Shelf
set_option linter.unusedVariables false
set_option linter.unusedSimpArgs false
set_option maxRecDepth 100000

/-- The lines of a head: n bytes there are in all. -/
def headF : Nat → Nat → List (List UInt8) → List UInt8 → List (List UInt8) × List UInt8 × Int
  | 0, _, _, _ => ([], [], -1)
  | f + 1, n, ls, s => match lineL s with
    | .wrong => ([], [], 400)
    | .more => if 1024 ≤ n then ([], [], 431) else ([], [], -1)
    | .got l a => if 1024 < n - a.length then ([], [], 431) else if l ≠ [] then headF f n (ls ++ [l]) a else if ls ≠ [] then (ls, a, 0) else headF f n ls a
theorem headF_fuel : ∀ (f f' n : Nat) (ls : List (List UInt8)) (s : List UInt8), s.length < f → s.length < f' → headF f n ls s = headF f' n ls s := by
  intro f
  induction f with
  | zero => intro f' n ls s h; omega
  | succ f ih =>
    intro f' n ls s h h'
    obtain ⟨f', rfl⟩ : ∃ g, f' = g + 1 := ⟨f' - 1, by omega⟩
    rw [headF, headF]
    cases hl : lineL s with
    | wrong => rfl
    | more => rfl
    | got l a =>
      have := lineL_len hl
      simp only
      rw [ih f' n (ls ++ [l]) a (by omega) (by omega), ih f' n ls a (by omega) (by omega)]
/-- The same, where no length stands in the way. -/
def headG : Nat → List (List UInt8) → List UInt8 → List (List UInt8) × List UInt8 × Int
  | 0, _, _ => ([], [], -1)
  | f + 1, ls, s => match lineL s with
    | .wrong => ([], [], 400)
    | .more => ([], [], -1)
    | .got l a => if l ≠ [] then headG f (ls ++ [l]) a else if ls ≠ [] then (ls, a, 0) else headG f ls a
theorem headF_G : ∀ (f n : Nat) (ls : List (List UInt8)) (s : List UInt8), n < 1024 → headF f n ls s = headG f ls s := by
  intro f
  induction f with
  | zero => intro n ls s h; rfl
  | succ f ih =>
    intro n ls s h
    rw [headF, headG]
    cases hl : lineL s with
    | wrong => rfl
    | more => simp only; rw [if_neg (by omega)]
    | got l a => simp only; rw [if_neg (by omega), ih _ _ _ h, ih _ _ _ h]
theorem headG_len : ∀ (f : Nat) (ls : List (List UInt8)) (s : List UInt8) {xs : List (List UInt8)} {r : List UInt8}, headG f ls s = (xs, r, 0) → r.length + 2 ≤ s.length := by
  intro f
  induction f with
  | zero => intro ls s xs r h; simp [headG] at h
  | succ f ih =>
    intro ls s xs r h
    rw [headG] at h
    cases hl : lineL s with
    | wrong => simp [hl] at h
    | more => simp [hl] at h
    | got l a =>
      have := lineL_len hl
      rw [hl] at h
      simp only at h
      split at h
      · have := ih _ _ h; omega
      · split at h
        · injection h with _ h; injection h with h _; subst h; omega
        · have := ih _ _ h; omega
theorem headG_ne : ∀ (f : Nat) (ls : List (List UInt8)) (s : List UInt8) {xs : List (List UInt8)} {r : List UInt8}, headG f ls s = (xs, r, 0) → xs ≠ [] := by
  intro f
  induction f with
  | zero => intro ls s xs r h; simp [headG] at h
  | succ f ih =>
    intro ls s xs r h
    rw [headG] at h
    cases hl : lineL s with
    | wrong => simp [hl] at h
    | more => simp [hl] at h
    | got l a =>
      rw [hl] at h
      simp only at h
      split at h
      · exact ih _ _ h
      · split at h
        · injection h with h' _; subst h'; assumption
        · exact ih _ _ h
theorem headG_fuel : ∀ (f f' : Nat) (ls : List (List UInt8)) (s : List UInt8), s.length < f → s.length < f' → headG f ls s = headG f' ls s := by
  intro f
  induction f with
  | zero => intro f' ls s h; omega
  | succ f ih =>
    intro f' ls s h h'
    obtain ⟨f', rfl⟩ : ∃ g, f' = g + 1 := ⟨f' - 1, by omega⟩
    rw [headG, headG]
    cases hl : lineL s with
    | wrong => rfl
    | more => rfl
    | got l a =>
      have := lineL_len hl
      simp only
      rw [ih f' (ls ++ [l]) a (by omega) (by omega), ih f' ls a (by omega) (by omega)]
/-- What a head's answer is when more bytes come behind. -/
theorem headG_app : ∀ (f : Nat) (ls : List (List UInt8)) (s c : List UInt8), (∀ xs r, headG f ls s = (xs, r, 0) → headG f ls (s ++ c) = (xs, r ++ c, 0)) ∧ (∀ xs r, headG f ls s = (xs, r, 400) → headG f ls (s ++ c) = (xs, r, 400)) := by
  intro f
  induction f with
  | zero => intro ls s c; exact ⟨fun xs r h => by simp [headG] at h, fun xs r h => by simp [headG] at h⟩
  | succ f ih =>
    intro ls s c
    rw [headG, headG]
    cases hl : lineL s with
    | wrong => rw [lineL_app_wrong hl]; exact ⟨fun xs r h => by simp at h, fun xs r h => h⟩
    | more => exact ⟨fun xs r h => by simp at h, fun xs r h => by simp at h⟩
    | got l a =>
      rw [lineL_app_got hl]
      simp only
      split
      · exact ih _ _ _
      · split
        · exact ⟨fun xs r h => by injection h with h1 h2; injection h2 with h2 _; subst h1; subst h2; rfl, fun xs r h => by injection h with h1 h2; injection h2 with _ h2; cases h2⟩
        · exact ih _ _ _
theorem headG_st : ∀ (f : Nat) (ls : List (List UInt8)) (s : List UInt8), headG f ls s = ([], [], -1) ∨ headG f ls s = ([], [], 400) ∨ ∃ xs r, headG f ls s = (xs, r, 0) := by
  intro f
  induction f with
  | zero => intro ls s; exact .inl rfl
  | succ f ih =>
    intro ls s
    rw [headG]
    cases hl : lineL s with
    | wrong => exact .inr (.inl rfl)
    | more => exact .inl rfl
    | got l a =>
      simp only
      split
      · exact ih _ _
      · split
        · exact .inr (.inr ⟨_, _, rfl⟩)
        · exact ih _ _

structure Req where
  m : List UInt8
  t : List UInt8
  minor : Int
  fs : List (List UInt8 × List UInt8)
  close : Bool
def noReq : Req := ⟨[], [], 0, [], false⟩
def fldC (x : List UInt8 × List UInt8) : List Value := [.string (S x.1), .string (S x.2)]
def valsF (fs : List (List UInt8 × List UInt8)) (name : List UInt8) : List (List UInt8) := (fs.filter fun f => f.1 == name).map (·.2)
def allF (fs : List (List UInt8 × List UInt8)) (name : List UInt8) : List UInt8 := Lib.join (valsF fs name) [44, 32]
def getF (fs : List (List UInt8 × List UInt8)) (name : List UInt8) : List UInt8 × Bool := match valsF fs name with | [] => ([], false) | v :: _ => (v, true)
/-- The first line. -/
def httpL : List UInt8 := [72, 84, 84, 80, 47]
def ver3 : List UInt8 → Option (UInt8 × UInt8)
  | [a, d, b] => if digB a = true ∧ d = 46 ∧ digB b = true then some (a, b) else none
  | _ => none
def verL (v : List UInt8) : Option (UInt8 × UInt8) := if v.take 5 = httpL then ver3 (v.drop 5) else none
def seenB (c : UInt8) : Bool := decide (33 ≤ c.toNat) && decide (c.toNat ≤ 126)
def firstP (m t v : List UInt8) : Option (List UInt8 × List UInt8 × UInt8 × UInt8) :=
  if tokB m = true ∧ t ≠ [] ∧ t.all seenB = true then (verL v).map fun x => (m, t, x.1, x.2) else none
def firstL (l : List UInt8) : Option (List UInt8 × List UInt8 × UInt8 × UInt8) := match spl 32 l with | [m, t, v] => firstP m t v | _ => none
def fieldsL : List (List UInt8) → Option (List (List UInt8 × List UInt8))
  | [] => some []
  | l :: r => if (fieldL l).2.2 = 0 then (fieldsL r).map fun x => ((fieldL l).1, (fieldL l).2.1) :: x else none
def teL : List UInt8 := [116, 114, 97, 110, 115, 102, 101, 114, 45, 101, 110, 99, 111, 100, 105, 110, 103]
def clL : List UInt8 := [99, 111, 110, 116, 101, 110, 116, 45, 108, 101, 110, 103, 116, 104]
def hostL : List UInt8 := [104, 111, 115, 116]
def connL : List UInt8 := [99, 111, 110, 110, 101, 99, 116, 105, 111, 110]
def closeL : List UInt8 := [99, 108, 111, 115, 101]
def keepL : List UInt8 := [107, 101, 101, 112, 45, 97, 108, 105, 118, 101]
def methods : List (List UInt8) := [[71, 69, 84], [72, 69, 65, 68], [80, 79, 83, 84], [80, 85, 84], [68, 69, 76, 69, 84, 69], [79, 80, 84, 73, 79, 78, 83], [84, 82, 65, 67, 69], [67, 79, 78, 78, 69, 67, 84], [80, 65, 84, 67, 72]]
def lenOk (v : List UInt8) : Bool := (numR v 1099511627776).2 && decide ((numR v 1099511627776).1 = 0)
def closesF (fs : List (List UInt8 × List UInt8)) (minor : Int) : Bool :=
  (itemsL (lowL (allF fs connL))).contains closeL || (decide (minor = 0) && !(itemsL (lowL (allF fs connL))).contains keepL)
/-- What the fields tell. -/
def ofFs (m t : List UInt8) (minor : Int) (fs : List (List UInt8 × List UInt8)) : Req × Int :=
  if (getF fs teL).2 = true then (noReq, 501)
  else if (valsF fs clL).all lenOk = false then (noReq, 400)
  else if 1 < (valsF fs hostL).length ∨ ((valsF fs hostL).length : Int) < minor then (noReq, 400)
  else if methods.contains m = false then (noReq, 501)
  else (⟨m, t, minor, fs, closesF fs minor⟩, 0)
def ofF : List (List UInt8) → Req × Int
  | [] => (noReq, 400)
  | l :: ls => match firstL l with
    | none => (noReq, 400)
    | some (m, t, a, b) => if a ≠ 49 then (noReq, 505) else if 128 < t.length then (noReq, 414) else match fieldsL ls with
      | none => (noReq, 400)
      | some fs => ofFs m t (if b = 48 then 0 else 1) fs
theorem ofFs_st (m t : List UInt8) (minor : Int) (fs : List (List UInt8 × List UInt8)) : 0 ≤ (ofFs m t minor fs).2 ∧ ((ofFs m t minor fs).2 ≠ 0 → (ofFs m t minor fs).1 = noReq) := by
  unfold ofFs
  repeat' split
  all_goals simp
theorem ofF_st (ls : List (List UInt8)) : 0 ≤ (ofF ls).2 ∧ ((ofF ls).2 ≠ 0 → (ofF ls).1 = noReq) := by
  unfold ofF
  repeat' split
  all_goals first | exact ofFs_st _ _ _ _ | simp
/-- Next: the request, the status, what is left, and whether it is over. -/
def nextF (b : List UInt8) : Req × Int × List UInt8 × Bool :=
  match headF (b.length + 1) b.length [] b with
  | (ls, rest, st) => if st < 0 then (noReq, st, b, false) else if st = 0 then (if (ofF ls).2 = 0 then ((ofF ls).1, 0, rest, false) else (noReq, (ofF ls).2, [], true)) else (noReq, st, [], true)
end Go.Proofs.YtjjigngighneeaaDoor
