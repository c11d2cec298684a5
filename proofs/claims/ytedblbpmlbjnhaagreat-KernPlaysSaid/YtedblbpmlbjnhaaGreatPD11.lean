/- pantlerlaw05: alive, FrameBlank. pantlerlaw05.Do and pantlerref05.Far. -/
import Derived.Test.YtedblbpmlbjnhaaGreatPD3
import Derived.Lib.SliceRun
import Derived.Test.YtedblbpmlbjnhaaGreatPD7
import Derived.Deep.QuietTactic
import Derived.BigQuiet
namespace Go.Proofs.YtedblbpmlbjnhaaGreat
/-! ### pantlerlaw05: alive, FrameBlank. -/
section
open Go.RowKit
set_option linter.unusedVariables false
set_option linter.unusedSimpArgs false
set_option maxRecDepth 100000
section
variable {R : Ending → World → Prop} {w : World}

def fw (o : Int) : Fr := { fz with ow := o }
end
end
/-! ### pantlerlaw05.Do and pantlerref05.Far. -/
section
open Go.RowKit
set_option linter.unusedVariables false
set_option linter.unusedSimpArgs false
set_option maxRecDepth 100000

/-- One of the document's calls. -/
structure Ac where
  k : Int
  e : Int
  f : Int
  o : Int
  n : Int
  s : ByteArray
def Ac.vals (a : Ac) : List Value := [.int .i64 a.k, .int .i64 a.e, .int .i64 a.f, .int .i64 a.o, .int .i64 a.n, .string a.s]
def farB (l : List Ac) : Bool := decide (150 < l.length) || l.any fun a => decide (1000 < a.s.size)
structure DoR where
  n : Int
  s : List UInt8
  e : Int
  fs : List Fr
def dDo (fs : List Fr) (a : Ac) : DoR :=
  if a.k = 0 then ⟨(tAlloc fs a.e).1, [], (tAlloc fs a.e).2.1, (tAlloc fs a.e).2.2⟩
  else if a.k = 1 then ⟨0, [], (tFree fs a.e a.f).1, (tFree fs a.e a.f).2⟩
  else if a.k = 2 then ⟨0, [], (tGive fs a.e a.f a.n).1, (tGive fs a.e a.f a.n).2⟩
  else if a.k = 3 then ⟨0, (tRead fs a.e a.f a.o a.n).2, (tRead fs a.e a.f a.o a.n).1, fs⟩
  else if a.k = 4 then ⟨0, [], (tWrite fs a.e a.f a.o a.s.data.toList).1, (tWrite fs a.e a.f a.o a.s.data.toList).2⟩
  else if a.k = 5 then ⟨0, [], (tHold fs a.e a.f).1, (tHold fs a.e a.f).2⟩
  else if a.k = 6 then ⟨0, [], (tDrop fs a.f).1, (tDrop fs a.f).2⟩
  else ⟨0, (tFetch fs a.f a.o a.n).2, (tFetch fs a.f a.o a.n).1, fs⟩

section
variable {R : Ending → World → Prop} {bT bL : Nat} {fs : List Fr} {w : World}

theorem conv_bsN {A : Option Addr} {n c : Nat} {l : List UInt8} (hr : Rd w [] A (bts l)) (hl : l.length = n) : ∀ k, (convert 37 9 (.slice A n c)).run Tryz.prog (w.drewN k) = .ok (.string ⟨l.toArray⟩) (w.drewN k) :=
  fun k => conv_bs (w := w.drewN k) hr hl

end


/-! ### calls that came in, opened -/
section
open Go.ChangeShapes Go.WideShapes Go.ChangeAt Go.RowKit Go.Deep
variable {H : Type} {enc : TypeId × Value → H} {W : World}
end
end
end Go.Proofs.YtedblbpmlbjnhaaGreat
