/- KernSends walked. filter.Run and Kernel.Arrive in plain words; what KernCounts and KernApart keep. Kernel.Arrive. -/
import Derived.Test.YtedblbpmlbjnhaaGreatPE34
import Derived.Test.YtedblbpmlbjnhaaGreatPE33
import Derived.Test.YtedblbpmlbjnhaaGreatPE16
import Derived.Test.YtedblbpmlbjnhaaGreatPE19
import Derived.Deep.RegionHeldLaw
import Derived.BigQuiet
namespace Go.Proofs.YtedblbpmlbjnhaaGreat
/-! ### KernSends walked. -/
section
open Go.RowKit Go.Shelf
set_option linter.unusedVariables false
set_option linter.unusedSimpArgs false
set_option maxRecDepth 100000
section
variable {R : Ending → World → Prop} {w : World}
/-- A call of plain numbers. -/
def numC (op env : Int) : Kc := ⟨op, env, 0, 0, 0, none, 0, 0, [], none, 0, 0, [], none, 0, 0, []⟩
/-- The kernel of KernSends, step by step. -/
def ks1 : KS := { kz0 4 8 with fs := fs1 }
def ks2 (P : List UInt8) : KS := { kz0 4 8 with fs := [⟨1, 0, P⟩, fz, fz, fz] }
end
end
/-! ### filter.Run and Kernel.Arrive in plain words; what KernCounts and KernApart keep. -/
section
open Go.RowKit Go.Shelf
set_option linter.unusedVariables false
set_option linter.unusedSimpArgs false
set_option maxRecDepth 100000

/-- Whose a packet is. -/
def taker (k : KS) (s : List UInt8) : Option Bnd := k.fl.find? (fun b => frunP s b.p != 0)
def kArr (k : KS) (s : List UInt8) (n e : Int) (k' : KS) : Prop :=
  (1024 < s.length ∧ n = 0 ∧ e = 2 ∧ k' = k) ∨ (s.length ≤ 1024 ∧ taker k s = none ∧ n = 0 ∧ e = 11 ∧ k' = k) ∨
  (s.length ≤ 1024 ∧ ∃ b, taker k s = some b ∧ b.env = 1 ∧ ((k.q1.length = 16 ∧ n = 0 ∧ e = 10 ∧ k' = k) ∨ (k.q1.length < 16 ∧ n = 1 ∧ e = 0 ∧ ∃ y : Sl, y.l = s ∧ k' = { k with q1 := k.q1 ++ [y] }))) ∨
  (s.length ≤ 1024 ∧ ∃ b, taker k s = some b ∧ b.env = 2 ∧ ((k.q2.length = 16 ∧ n = 0 ∧ e = 10 ∧ k' = k) ∨ (k.q2.length < 16 ∧ n = 2 ∧ e = 0 ∧ ∃ y : Sl, y.l = s ∧ k' = { k with q2 := k.q2 ++ [y] })))
theorem kArr_inv {k k' : KS} {s : List UInt8} {n e : Int} (h : kArr k s n e k') : k'.fs = k.fs ∧ k'.qo = k.qo ∧ k'.fl = k.fl ∧ k'.d = k.d ∧ k'.fo = k.fo ∧ k'.dn = k.dn := by
  rcases h with ⟨_, _, _, rfl⟩ | ⟨_, _, _, _, rfl⟩ | ⟨_, b, _, _, ⟨_, _, _, rfl⟩ | ⟨_, _, _, y, _, rfl⟩⟩ | ⟨_, b, _, _, ⟨_, _, _, rfl⟩ | ⟨_, _, _, y, _, rfl⟩⟩ <;> exact ⟨rfl, rfl, rfl, rfl, rfl, rfl⟩
theorem HInv.arr {k k' : KS} {s : List UInt8} {n e : Int} (hi : HInv k) (h : kArr k s n e k') : HInv k' := by
  obtain ⟨a, b, _⟩ := kArr_inv h
  exact hi.same b (by rw [a]; exact sameHo.refl _)
theorem FInv.arr {k k' : KS} {s : List UInt8} {n e : Int} (hi : FInv k) (h : kArr k s n e k') : FInv k' := hi.same (kArr_inv h).2.2.1
theorem FInv.dep {k k' : KS} {env e : Int} {l : List UInt8} (hi : FInv k) (h : kDep k l env e k') : FInv k' := by
  rcases h with ⟨_, _, _, _, rfl⟩ | ⟨y, q, _, _, _, _, rfl⟩
  · exact hi
  · exact hi.same rfl
/-! ### the first filter takes all, for the first environment -/
end
/-! ### Kernel.Arrive. -/
section
open Go.RowKit Go.Shelf
set_option linter.unusedVariables false
set_option linter.unusedSimpArgs false
set_option maxRecDepth 100000
section
variable {R : Ending → World → Prop} {w : World} {B m : Nat} {a : KA} {k : KS}
end
end
end Go.Proofs.YtedblbpmlbjnhaaGreat
