/- All values of a name are no longer than the request's bulk. -/
import Derived.Test.YtjjigngighneeaaDoorOpnB
namespace Go.Proofs.YtjjigngighneeaaDoor
open Go.RowKit
set_option linter.unusedVariables false
set_option linter.unusedSimpArgs false

theorem join_le (sep : List UInt8) : ∀ xs : List (List UInt8), (Lib.join xs sep).length ≤ (xs.map fun x => x.length + sep.length).sum
  | [] => by simp [Lib.join_nil]
  | [x] => by rw [Lib.join_one]; simp
  | x :: y :: r => by
    have ih := join_le sep (y :: r)
    rw [Lib.join_cons] at ih ⊢
    simp only [Lib.joinTail, List.map_cons, List.flatten_cons, List.length_append, List.sum_cons] at ih ⊢
    omega
theorem vals_le (name : List UInt8) (k : Nat) : ∀ fs : List Fd, ((valsF fs name).map fun x => x.length + k).sum ≤ (fs.map fun f => f.2.length + k).sum
  | [] => by simp [valsF]
  | f :: r => by
    have ih := vals_le name k r
    unfold valsF at ih ⊢
    by_cases h : (f.1 == name) = true
    · rw [List.filter_cons, if_pos h]; simp only [List.map_cons, List.sum_cons]; omega
    · rw [List.filter_cons, if_neg h]; simp only [List.map_cons, List.sum_cons]; omega
theorem all_le (fs : List Fd) (name : List UInt8) : (allF fs name).length ≤ (fs.map fun f => f.2.length + 2).sum := by
  have h1 : (Lib.join (valsF fs name) [44, 32]).length ≤ ((valsF fs name).map fun x => x.length + 2).sum := join_le [44, 32] (valsF fs name)
  have h2 := vals_le name 2 fs
  unfold allF
  omega
theorem sum_at {α : Type} (g : α → Nat) : ∀ (l : List α) (x : α), x ∈ l → g x ≤ (l.map g).sum
  | y :: r, x, h => by
    simp only [List.map_cons, List.sum_cons]
    rcases List.mem_cons.1 h with rfl | h
    · omega
    · have := sum_at g r x h; omega
theorem fd_sum (l : List (ByteArray × ByteArray)) : ((l.map fdB).map fun f => f.2.length + 2).sum ≤ (l.map fun s => s.1.size + s.2.size + 3).sum := by
  induction l with
  | nil => simp
  | cons s l ih =>
    have e : (fdB s).2.length = s.2.size := by unfold fdB; rw [Array.length_toList]; rfl
    simp only [List.map_cons, List.sum_cons]
    omega
theorem flat_fd (l : List (ByteArray × ByteArray)) : l.flatMap (fun s => [Value.string s.1, Value.string s.2]) = (l.map fdB).flatMap fldC := by
  rw [List.flatMap_map]
  simp only [fldC, fdB, ← S_eta]
end Go.Proofs.YtjjigngighneeaaDoor
