/- A line in plain words. -/
import Derived.Test.YtjjigngighneeaaDoorStr
namespace Go.Proofs.YtjjigngighneeaaDoor
open Go.RowKit
set_option linter.unusedVariables false
set_option linter.unusedSimpArgs false
set_option maxRecDepth 100000

inductive LineR where
  | wrong : LineR
  | more : LineR
  | got : List UInt8 → List UInt8 → LineR
def consR (c : UInt8) : LineR → LineR
  | .got l r => .got (c :: l) r
  | .more => .more
  | .wrong => .wrong
/-- Behind a 13. -/
def crR : List UInt8 → LineR
  | [] => .more
  | d :: r => if d = 10 then .got [] r else .wrong
/-- The first line of bytes. -/
def lineL : List UInt8 → LineR
  | [] => .more
  | c :: r => if c = 10 then .wrong else if c = 13 then crR r else consR c (lineL r)
theorem consR_got {c : UInt8} {x : LineR} {l r : List UInt8} (h : consR c x = .got l r) : ∃ l', l = c :: l' ∧ x = .got l' r := by
  cases x with
  | wrong => cases h
  | more => cases h
  | got a b => simp [consR] at h; exact ⟨a, h.1.symm, by rw [h.2]⟩
theorem consR_more {c : UInt8} {x : LineR} (h : consR c x = .more) : x = .more := by cases x <;> simp_all [consR]
theorem consR_wrong {c : UInt8} {x : LineR} (h : consR c x = .wrong) : x = .wrong := by cases x <;> simp_all [consR]
theorem lineL_got {s l r : List UInt8} (h : lineL s = .got l r) : s = l ++ 13 :: 10 :: r := by
  induction s generalizing l with
  | nil => cases h
  | cons c s ih =>
    rw [lineL] at h
    split at h
    · cases h
    · split at h
      · rename_i h13
        subst h13
        cases s with
        | nil => cases h
        | cons d s' =>
          rw [crR] at h
          split at h
          · rename_i hd; subst hd; injection h with h1 h2; subst h1; subst h2; rfl
          · cases h
      · obtain ⟨l', rfl, hx⟩ := consR_got h
        rw [ih hx]; rfl
theorem lineL_len {s l r : List UInt8} (h : lineL s = .got l r) : r.length + l.length + 2 = s.length := by
  rw [lineL_got h]; simp; omega
theorem lineL_app_got {s l r : List UInt8} (h : lineL s = .got l r) (c : List UInt8) : lineL (s ++ c) = .got l (r ++ c) := by
  induction s generalizing l with
  | nil => cases h
  | cons x s ih =>
    rw [List.cons_append, lineL]
    rw [lineL] at h
    split at h
    · cases h
    · rw [if_neg ‹_›]
      split at h
      · rw [if_pos ‹_›]
        cases s with
        | nil => cases h
        | cons d s' =>
          rw [List.cons_append, crR]; rw [crR] at h
          split at h
          · rw [if_pos ‹_›]; injection h with h1 h2; subst h1; subst h2; rfl
          · cases h
      · rw [if_neg ‹_›]
        obtain ⟨l', rfl, hx⟩ := consR_got h
        rw [ih hx]; rfl
theorem lineL_app_wrong {s : List UInt8} (h : lineL s = .wrong) (c : List UInt8) : lineL (s ++ c) = .wrong := by
  induction s with
  | nil => cases h
  | cons x s ih =>
    rw [List.cons_append, lineL]
    rw [lineL] at h
    split at h
    · rw [if_pos ‹_›]
    · rw [if_neg ‹_›]
      split at h
      · rw [if_pos ‹_›]
        cases s with
        | nil => cases h
        | cons d s' =>
          rw [List.cons_append, crR]; rw [crR] at h
          split at h
          · cases h
          · rw [if_neg ‹_›]
      · rw [if_neg ‹_›, ih (consR_wrong h)]; rfl
/-- Ahead of a place where neither of the two bytes stood the line goes on. -/
def preR (p : List UInt8) : LineR → LineR
  | .got l r => .got (p ++ l) r
  | .more => .more
  | .wrong => .wrong
theorem lineL_pre (p s : List UInt8) (h : ∀ c ∈ p, c ≠ 10 ∧ c ≠ 13) : lineL (p ++ s) = preR p (lineL s) := by
  induction p with
  | nil => cases hs : lineL s <;> simp [preR, hs]
  | cons c p ih =>
    have hc := h c (by simp)
    rw [List.cons_append, lineL, if_neg hc.1, if_neg hc.2, ih (fun c hc => h c (by simp [hc]))]
    cases hs : lineL s <;> rfl
def lineV (s : List UInt8) : LineR → Value
  | .got l r => .tuple #[.string (S l), .string (S r), .bool true, .int .i64 0]
  | .more => .tuple #[.string (S []), .string (S s), .bool false, .int .i64 0]
  | .wrong => .tuple #[.string (S []), .string (S []), .bool false, .int .i64 50]

end Go.Proofs.YtjjigngighneeaaDoor
