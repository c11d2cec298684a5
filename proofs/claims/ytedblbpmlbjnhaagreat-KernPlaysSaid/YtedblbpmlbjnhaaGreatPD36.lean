/- Drops taken back: the plain law. gather.Drop's closure where a drop fails: the holds are taken again. -/
import Derived.Test.YtedblbpmlbjnhaaGreatPD35
import Derived.Defers
import Derived.BigRegion
import Derived.Deep.RegionHeldLaw
namespace Go.Proofs.YtedblbpmlbjnhaaGreat
/-! ### Drops taken back: the plain law. -/
section
open Go.RowKit
set_option linter.unusedVariables false
set_option linter.unusedSimpArgs false

theorem dropAll_at : ∀ (l : List Pc) (fs : List Fr), dropOk fs l → ∀ (j : Nat) (y : Fr), fs[j]? = some y → (dropAll fs l)[j]? = some { y with ho := y.ho - (cntF l (j : Int) : Int) }
  | [], _, _, j, y, hy => by
    show _ = _
    unfold dropAll cntF
    simp [hy]
  | p :: l, fs, h, j, y, hy => by
    obtain ⟨x, hx, h0⟩ := drop_at h.1
    have hs := drop_step hx h0
    have h2 := h.2
    obtain ⟨f0, hi⟩ := fat_some hx
    have hl := (List.getElem?_eq_some_iff.1 hi).1
    have hc := cnt_cons p l (j : Int)
    show (dropAll (tDrop fs p.f).2 l)[j]? = _
    rw [hs] at h2 ⊢
    by_cases e : p.f.toNat = j
    · subst e
      rw [hy] at hi; injection hi with hi; subst hi
      have hb : (p.f == ((p.f.toNat : Nat) : Int)) = true := by simp; omega
      rw [hb] at hc
      rw [dropAll_at l _ h2 p.f.toNat _ (List.getElem?_set_self hl)]
      simp at hc ⊢
      omega
    · have hb : (p.f == (j : Int)) = false := by simp; omega
      rw [hb] at hc
      rw [dropAll_at l _ h2 j y (by simp only; rw [List.getElem?_set_ne e]; exact hy)]
      simp at hc ⊢
      omega
theorem dropAll_len : ∀ (l : List Pc) (fs : List Fr), (dropAll fs l).length = fs.length
  | [], _ => rfl
  | p :: l, fs => by
    show (dropAll (tDrop fs p.f).2 l).length = _
    rw [dropAll_len l]
    unfold tDrop
    split
    · split
      · rfl
      · simp
    · rfl
/-- The holds taken again, by each frame's owner. -/
def backAll (fs : List Fr) (l : List Pc) : List Fr := l.foldl (fun fs p => (tHold fs (tOwner fs p.f) p.f).2) fs
end
/-! ### gather.Drop's closure where a drop fails: the holds are taken again. -/
section
open Go.RowKit
set_option linter.unusedVariables false
set_option linter.unusedSimpArgs false
set_option maxRecDepth 100000
section
variable {bT bL : Nat} {fs : List Fr} {w : World}
end
/-- All go, or none. -/
def gdropE (fs : List Fr) (l : List Pc) : Int × List Fr := if l.any (dbad fs l) = true then (1, fs) else (0, l.foldl decF fs)
section
variable {R : Ending → World → Prop} {bT bL : Nat} {fs : List Fr} {w : World}
end
end
end Go.Proofs.YtedblbpmlbjnhaaGreat
