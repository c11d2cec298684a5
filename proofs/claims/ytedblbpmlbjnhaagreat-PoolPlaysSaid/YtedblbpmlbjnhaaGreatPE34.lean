/- KernSends in plain words: what departs is what was written. KernNil walked: what no kernel answers. The kernel laws' steps that came in (pantlerlaw09.Act), and far. -/
import Derived.Test.YtedblbpmlbjnhaaGreatPE32
import Derived.Test.YtedblbpmlbjnhaaGreatPE15
import Derived.Test.YtedblbpmlbjnhaaGreatPE14
import Derived.Test.YtedblbpmlbjnhaaGreatPE6
namespace Go.Proofs.YtedblbpmlbjnhaaGreat
/-! ### KernSends in plain words: what departs is what was written. -/
section
open Go.RowKit Go.Shelf
set_option linter.unusedVariables false
set_option linter.unusedSimpArgs false
set_option maxRecDepth 100000

def fs1 : List Fr := [⟨1, 0, z256⟩, fz, fz, fz]
def pcS (off n : Nat) : Pc := ⟨0, off, n⟩
/-- What holds of the kernel all along. -/
structure SInv (m : Nat) (P : List UInt8) (off n : Nat) (k : KS) : Prop where
  h : heldAs k.fs 0 1 P
  q : ∃ y r, k.qo = y :: r ∧ y.env = 1 ∧ y.l = [pcS off n]
  c : k.cnt m
theorem SInv.step {m : Nat} {P : List UInt8} {off n : Nat} {k k' : KS} {x : Kc} {n1 e : Int} {l : List UInt8} (h : SInv m P off n k) (hs : kStep k x n1 l e k') (hq : k.qo.length ≤ 16) : SInv (m + 1) P off n k' := by
  obtain ⟨h1, r, hr⟩ := kStep_held hs h.h (by decide)
  obtain ⟨y, r0, hy, e1, e2⟩ := h.q
  exact ⟨h1, ⟨y, r0 ++ r, by rw [hr, hy]; rfl, e1, e2⟩, kStep_cnt hs h.c hq⟩
theorem SInv.tells {m : Nat} {P : List UInt8} {off n : Nat} {k : KS} (h : SInv m P off n k) : 1 ≤ tHolds k.fs 0 ∧ tOwner k.fs 0 = 1 := by
  obtain ⟨x, hx, h1, h2, h3⟩ := h.h
  have hf : fat k.fs 0 = some x := by simp [fat, hx]
  unfold tHolds tOwner
  rw [hf]
  exact ⟨h2, h1⟩
end
/-! ### KernNil walked: what no kernel answers. -/
section
open Go.RowKit Go.Shelf
set_option linter.unusedVariables false
set_option linter.unusedSimpArgs false
set_option maxRecDepth 100000
section
variable {R : Ending → World → Prop}

def farC (x : Cl) : Bool := decide (1000 < x.s.size) || (decide (100 < x.p.n) || decide (100 < x.l.n))
end
section
variable {R : Ending → World → Prop} {w : World}
end
end
/-! ### The kernel laws' steps that came in (pantlerlaw09.Act), and far. -/
section
open Go.RowKit Go.Shelf Go.ChangeShapes Go.WideShapes Go.ChangeAt Go.Deep
set_option linter.unusedVariables false
set_option linter.unusedSimpArgs false
set_option maxRecDepth 100000

/-- A step. -/
structure KAct where
  k : Int
  c : Cl
  s : ByteArray
def KAct.vals (x : KAct) : List Value := .int .i64 x.k :: (x.c.vals ++ [.string x.s])
structure KAct.ok (W : World) (x : KAct) : Prop where
  c : x.c.ok W
  s : x.s.size ≤ maxLen
section
variable {H : Type} {enc : TypeId × Value → H} {W : World}
end
def kfar (l : List KAct) : Bool := decide (100 < l.length) || l.any (fun x => farC x.c || decide (2000 < x.s.size))
section
variable {R : Ending → World → Prop} {w : World}
end
end
end Go.Proofs.YtedblbpmlbjnhaaGreat
