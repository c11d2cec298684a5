/- The document's lex. -/
import Derived.Test.YtjjigngighneeaaDoorLex2
import Derived.Deep.Cut
namespace Go.Proofs.YtjjigngighneeaaDoor
open Go.RowKit
set_option linter.unusedVariables false
set_option linter.unusedSimpArgs false
set_option maxRecDepth 100000

def tokK : List UInt8 := [97, 98, 99, 100, 101, 102, 103, 104, 105, 106, 107, 108, 109, 110, 111, 112, 113, 114, 115, 116, 117, 118, 119, 120, 121, 122, 65, 66, 67, 68, 69, 70, 71, 72, 73, 74, 75, 76, 77, 78, 79, 80, 81, 82, 83, 84, 85, 86, 87, 88, 89, 90, 48, 49, 50, 51, 52, 53, 54, 55, 56, 57, 33, 35, 36, 37, 38, 39, 42, 43, 45, 46, 94, 95, 96, 124, 126]
theorem tokK_is (c : UInt8) : tokK.contains c = wordB c := by
  have : ∀ n : Fin 256, tokK.contains (UInt8.ofNat n.1) = wordB (UInt8.ofNat n.1) := by decide +kernel
  have h := this ⟨c.toNat, c.toNat_lt⟩
  simpa using h
theorem cont_snoc1 (l : List UInt8) (c : UInt8) (k : Nat) (h : k < l.length) : (l.take (k + 1)).contains c = ((l.take k).contains c || (l[k] == c)) := by
  rw [List.take_succ_eq_append_getElem h, List.contains_eq_any_beq, List.contains_eq_any_beq, List.any_append]
  simp [Bool.beq_comm]
def blkB (c : UInt8) : Bool := ([32, 9] : List UInt8).contains c
def rdropB (l : List UInt8) : List UInt8 := (l.reverse.dropWhile blkB).reverse
theorem rdropB_snoc (l : List UInt8) (c : UInt8) : rdropB (l ++ [c]) = if blkB c then rdropB l else l ++ [c] := by
  unfold rdropB
  rw [List.reverse_append, List.reverse_singleton, List.singleton_append, List.dropWhile_cons]
  split <;> simp
theorem rdropB_cons (x : UInt8) (r : List UInt8) : rdropB (x :: r) = if rdropB r = [] then (if blkB x then [] else [x]) else x :: rdropB r := by
  have h : rdropB r = (r.reverse.dropWhile blkB).reverse := rfl
  unfold rdropB
  rw [List.reverse_cons, List.dropWhile_append]
  cases hd : r.reverse.dropWhile blkB with
  | nil => simp [List.dropWhile_cons]; split <;> simp
  | cons y ys => simp
theorem drop_rdrop (l : List UInt8) : rdropB (l.dropWhile blkB) = (rdropB l).dropWhile blkB := by
  induction l with
  | nil => rfl
  | cons x r ih =>
    rw [List.dropWhile_cons]
    cases hx : blkB x
    · simp only [Bool.false_eq_true, if_false]
      rw [rdropB_cons, hx]
      split <;> simp [List.dropWhile_cons, hx]
    · simp only [if_true]
      rw [ih, rdropB_cons, hx]
      split
      · rename_i h; rw [h]; rfl
      · rw [List.dropWhile_cons, hx]; rfl
theorem trimL_eq (l : List UInt8) : trimL l = rdropB (l.dropWhile blkB) := (drop_rdrop l).symm
theorem snocCases {α : Type} (l : List α) : l = [] ∨ ∃ rs x, l = rs ++ [x] := by
  rcases h : l.reverse with _ | ⟨x, rs⟩
  · left; simpa using h
  · right; exact ⟨rs.reverse, x, by have := congrArg List.reverse h; simpa using this⟩
def strLen1 : Value → Nat
  | .string s => s.size
  | _ => 0
end Go.Proofs.YtjjigngighneeaaDoor
