/- Drops one by one, and drops counted: the plain law. Drops taken back: the plain law. gather.Drop's closure where a drop fails: the holds are taken again. -/
import Derived.Test.YtedblbpmlbjnhaaGreatPE28
import Derived.Test.YtedblbpmlbjnhaaGreatPE15
import Derived.Defers
import Derived.BigRegion
import Derived.Deep.RegionHeldLaw
namespace Go.Proofs.YtedblbpmlbjnhaaGreat
/-! ### Drops one by one, and drops counted: the plain law. -/
section
open Go.RowKit
set_option linter.unusedVariables false
set_option linter.unusedSimpArgs false

/-- Each frame has as many holds as pieces. -/
def okD (fs : List Fr) (l : List Pc) : Prop := ∀ q ∈ l, ∃ y, fat fs q.f = some y ∧ (cntF l q.f : Int) ≤ y.ho
theorem cnt_cons (p : Pc) (l : List Pc) (f : Int) : cntF (p :: l) f = cntF l f + if p.f == f then 1 else 0 := by
  unfold cntF; rw [List.countP_cons]
theorem fat_set {fs : List Fr} {f g : Int} {x z : Fr} (hx : fat fs f = some x) : fat (fs.set f.toNat z) g = if g = f then some z else fat fs g := by
  obtain ⟨f0, hi⟩ := fat_some hx
  have hl := (List.getElem?_eq_some_iff.1 hi).1
  unfold fat
  by_cases h : g = f
  · subst h
    rw [if_pos f0, if_pos rfl, List.getElem?_set_self hl]
  · rw [if_neg h]
    by_cases g0 : 0 ≤ g
    · rw [if_pos g0, if_pos g0, List.getElem?_set_ne (by omega)]
    · rw [if_neg g0, if_neg g0]
theorem drop_step {fs : List Fr} {f : Int} {x : Fr} (hx : fat fs f = some x) (h : x.ho ≠ 0) : tDrop fs f = (0, fs.set f.toNat { x with ho := x.ho - 1 }) := by
  have hh : heldE fs f = 0 := by unfold heldE; rw [hx]; simp [h]
  unfold tDrop
  rw [hh, hx]; rfl
theorem drop_at {fs : List Fr} {f : Int} (h : (tDrop fs f).1 = 0) : ∃ x, fat fs f = some x ∧ x.ho ≠ 0 := by
  unfold tDrop at h
  split at h
  · rename_i hh; exact heldE_ok hh
  · rename_i hh; exact absurd h hh
theorem ok_okD : ∀ (l : List Pc) (fs : List Fr), (∀ x ∈ fs, 0 ≤ x.ho) → dropOk fs l → okD fs l
  | [], _, _, _ => by intro q hq; cases hq
  | p :: l, fs, hp, h => by
    obtain ⟨h1, h2⟩ := h
    obtain ⟨x, hx, h0⟩ := drop_at h1
    have hs := drop_step hx h0
    rw [hs] at h2
    have hxp := hp x (List.mem_of_getElem? (fat_some hx).2)
    have ih := ok_okD l _ (by
      intro y hy
      rcases mem_set hy with rfl | hy
      · simp only; omega
      · exact hp y hy) h2
    have key : ∀ q ∈ l, ∃ y, fat fs q.f = some y ∧ (cntF (p :: l) q.f : Int) ≤ y.ho := by
      intro q hq
      obtain ⟨y, hy, hyc⟩ := ih q hq
      simp only at hy
      rw [fat_set hx] at hy
      have hcq := cnt_cons p l q.f
      by_cases e : q.f = p.f
      · rw [if_pos e] at hy
        injection hy with hy
        subst hy
        rw [e] at hyc hcq ⊢
        refine ⟨x, hx, ?_⟩
        simp at hcq hyc
        omega
      · rw [if_neg e] at hy
        refine ⟨y, hy, ?_⟩
        have : (p.f == q.f) = false := by simpa using fun h => e h.symm
        rw [this] at hcq
        simp at hcq
        omega
    intro q hq
    rcases List.mem_cons.1 hq with rfl | hq
    · by_cases hz : ∃ z ∈ l, z.f = q.f
      · obtain ⟨z, hz, e⟩ := hz
        obtain ⟨y, hy, hyc⟩ := key z hz
        rw [e] at hy hyc
        exact ⟨y, hy, hyc⟩
      · refine ⟨x, hx, ?_⟩
        have h3 : cntF l q.f = 0 := by
          unfold cntF
          rw [List.countP_eq_zero]
          intro z hz2 he
          exact hz ⟨z, hz2, by simpa using he⟩
        have := cnt_cons q l q.f
        simp at this
        omega
    · exact key q hq
theorem dbad_okD {fs : List Fr} {l : List Pc} : l.any (dbad fs l) = false ↔ okD fs l := by
  rw [List.any_eq_false]
  constructor
  · intro h q hq
    have hn := h q hq
    unfold dbad at hn
    cases hf : fat fs q.f with
    | none => rw [hf] at hn; simp at hn
    | some y => rw [hf] at hn; exact ⟨y, rfl, by simp at hn; omega⟩
  · intro h q hq
    obtain ⟨y, hy, hc⟩ := h q hq
    unfold dbad
    rw [hy]; simp; omega
theorem drop_dec : ∀ (l : List Pc) (fs : List Fr), dropOk fs l → dropAll fs l = l.foldl decF fs
  | [], _, _ => rfl
  | p :: l, fs, h => by
    obtain ⟨x, hx, h0⟩ := drop_at h.1
    have hs := drop_step hx h0
    have h2 := h.2
    rw [hs] at h2
    show dropAll (tDrop fs p.f).2 l = (l.foldl decF (decF fs p))
    have hd : decF fs p = fs.set p.f.toNat { x with ho := x.ho - 1 } := by unfold decF; rw [hx]
    rw [hs, hd]
    exact drop_dec l _ h2
end
/-! ### Drops taken back: the plain law. -/
section
open Go.RowKit
set_option linter.unusedVariables false
set_option linter.unusedSimpArgs false

theorem dropAll_at : ∀ (l : List Pc) (fs : List Fr), dropOk fs l → ∀ (j : Nat) (y : Fr), fs[j]? = some y → (dropAll fs l)[j]? = some { y with ho := y.ho - (cntF l (j : Int) : Int) }
  | [], _, _, j, y, hy => by
    show _ = _
    unfold dropAll cntF
    simp [hy]
  | p :: l, fs, h, j, y, hy => by
    obtain ⟨x, hx, h0⟩ := drop_at h.1
    have hs := drop_step hx h0
    have h2 := h.2
    obtain ⟨f0, hi⟩ := fat_some hx
    have hl := (List.getElem?_eq_some_iff.1 hi).1
    have hc := cnt_cons p l (j : Int)
    show (dropAll (tDrop fs p.f).2 l)[j]? = _
    rw [hs] at h2 ⊢
    by_cases e : p.f.toNat = j
    · subst e
      rw [hy] at hi; injection hi with hi; subst hi
      have hb : (p.f == ((p.f.toNat : Nat) : Int)) = true := by simp; omega
      rw [hb] at hc
      rw [dropAll_at l _ h2 p.f.toNat _ (List.getElem?_set_self hl)]
      simp at hc ⊢
      omega
    · have hb : (p.f == (j : Int)) = false := by simp; omega
      rw [hb] at hc
      rw [dropAll_at l _ h2 j y (by simp only; rw [List.getElem?_set_ne e]; exact hy)]
      simp at hc ⊢
      omega
theorem dropAll_len : ∀ (l : List Pc) (fs : List Fr), (dropAll fs l).length = fs.length
  | [], _ => rfl
  | p :: l, fs => by
    show (dropAll (tDrop fs p.f).2 l).length = _
    rw [dropAll_len l]
    unfold tDrop
    split
    · split
      · rfl
      · simp
    · rfl
/-- The holds taken again, by each frame's owner. -/
def backAll (fs : List Fr) (l : List Pc) : List Fr := l.foldl (fun fs p => (tHold fs (tOwner fs p.f) p.f).2) fs
end
/-! ### gather.Drop's closure where a drop fails: the holds are taken again. -/
section
open Go.RowKit
set_option linter.unusedVariables false
set_option linter.unusedSimpArgs false
set_option maxRecDepth 100000
section
variable {bT bL : Nat} {fs : List Fr} {w : World}
end
/-- All go, or none. -/
def gdropE (fs : List Fr) (l : List Pc) : Int × List Fr := if l.any (dbad fs l) = true then (1, fs) else (0, l.foldl decF fs)
section
variable {R : Ending → World → Prop} {bT bL : Nat} {fs : List Fr} {w : World}
end
end
end Go.Proofs.YtedblbpmlbjnhaaGreat
