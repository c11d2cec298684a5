/- KernSends in plain words: what departs is what was written. KernNil walked: what no kernel answers. -/
import Derived.Test.YtedblbpmlbjnhaaGreatPD41
import Derived.Test.YtedblbpmlbjnhaaGreatPD23
import Derived.Test.YtedblbpmlbjnhaaGreatPD20
import Derived.Test.YtedblbpmlbjnhaaGreatPD9
namespace Go.Proofs.YtedblbpmlbjnhaaGreat
/-! ### KernSends in plain words: what departs is what was written. -/
section
open Go.RowKit Go.Shelf
set_option linter.unusedVariables false
set_option linter.unusedSimpArgs false
set_option maxRecDepth 100000

def fs1 : List Fr := [⟨1, 0, z256⟩, fz, fz, fz]
def pcS (off n : Nat) : Pc := ⟨0, off, n⟩
/-- What holds of the kernel all along. -/
structure SInv (m : Nat) (P : List UInt8) (off n : Nat) (k : KS) : Prop where
  h : heldAs k.fs 0 1 P
  q : ∃ y r, k.qo = y :: r ∧ y.env = 1 ∧ y.l = [pcS off n]
  c : k.cnt m
theorem SInv.step {m : Nat} {P : List UInt8} {off n : Nat} {k k' : KS} {x : Kc} {n1 e : Int} {l : List UInt8} (h : SInv m P off n k) (hs : kStep k x n1 l e k') (hq : k.qo.length ≤ 16) : SInv (m + 1) P off n k' := by
  obtain ⟨h1, r, hr⟩ := kStep_held hs h.h (by decide)
  obtain ⟨y, r0, hy, e1, e2⟩ := h.q
  exact ⟨h1, ⟨y, r0 ++ r, by rw [hr, hy]; rfl, e1, e2⟩, kStep_cnt hs h.c hq⟩
theorem SInv.tells {m : Nat} {P : List UInt8} {off n : Nat} {k : KS} (h : SInv m P off n k) : 1 ≤ tHolds k.fs 0 ∧ tOwner k.fs 0 = 1 := by
  obtain ⟨x, hx, h1, h2, h3⟩ := h.h
  have hf : fat k.fs 0 = some x := by simp [fat, hx]
  unfold tHolds tOwner
  rw [hf]
  exact ⟨h2, h1⟩
end
/-! ### KernNil walked: what no kernel answers. -/
section
open Go.RowKit Go.Shelf
set_option linter.unusedVariables false
set_option linter.unusedSimpArgs false
set_option maxRecDepth 100000
section
variable {R : Ending → World → Prop}

def farC (x : Cl) : Bool := decide (1000 < x.s.size) || (decide (100 < x.p.n) || decide (100 < x.l.n))
theorem farC_no {x : Cl} (h : farC x = false) : x.s.size ≤ 1000 ∧ x.p.n ≤ 100 ∧ x.l.n ≤ 100 := by
  simp [farC] at h; omega
set_option maxHeartbeats 1000000 in
theorem far09_any (x : Cl) (w : World) (h : ∀ w', Kp [] w w' → R (.returned (.bool (farC x))) w') :
    Calls Tryz.prog 39 #[.agg #[.int .i64 x.op, .int .i64 x.env, .int .i64 x.a, .int .i64 x.b, .int .i64 x.c, .string x.s, .slice x.p.A x.p.n x.p.c, .slice x.l.A x.l.n x.l.c]] w R := by
  have H := Lib.hid h
  clear h
  have hk := fun o => (Kp.refl [] w).alloc o
  by_cases h1 : 1000 < x.s.size
  · go_enter Tryz.func39, Tryz.ntmps39
    go_wp2
    exact rcast (H.out _ (hk _)) (by simp [farC, h1])
  · by_cases h2 : 100 < x.p.n
    · go_enter Tryz.func39, Tryz.ntmps39
      go_wp2
      exact rcast (H.out _ (hk _)) (by simp [farC, h2])
    · by_cases h3 : 100 < x.l.n
      · go_enter Tryz.func39, Tryz.ntmps39
        go_wp2
        exact rcast (H.out _ (hk _)) (by simp [farC, h3]; omega)
      · go_enter Tryz.func39, Tryz.ntmps39
        go_wp2
        exact rcast (H.out _ (hk _)) (by simp [farC, h1, h2, h3]; omega)
end
section
variable {R : Ending → World → Prop} {w : World}
end
end
end Go.Proofs.YtedblbpmlbjnhaaGreat
