/- Drops taken back: the plain law. -/
import Derived.Test.YthlmfjfkkndboaaG08e
namespace Go.Proofs.Ythlmfjfkkndboaa
open Go.RowKit
set_option linter.unusedVariables false
set_option linter.unusedSimpArgs false

theorem dropAll_at : ∀ (l : List Pc) (fs : List Fr), dropOk fs l → ∀ (j : Nat) (y : Fr), fs[j]? = some y → (dropAll fs l)[j]? = some { y with ho := y.ho - (cntF l (j : Int) : Int) }
  | [], _, _, j, y, hy => by
    show _ = _
    unfold dropAll cntF
    simp [hy]
  | p :: l, fs, h, j, y, hy => by
    obtain ⟨x, hx, h0⟩ := drop_at h.1
    have hs := drop_step hx h0
    have h2 := h.2
    obtain ⟨f0, hi⟩ := fat_some hx
    have hl := (List.getElem?_eq_some_iff.1 hi).1
    have hc := cnt_cons p l (j : Int)
    show (dropAll (tDrop fs p.f).2 l)[j]? = _
    rw [hs] at h2 ⊢
    by_cases e : p.f.toNat = j
    · subst e
      rw [hy] at hi; injection hi with hi; subst hi
      have hb : (p.f == ((p.f.toNat : Nat) : Int)) = true := by simp; omega
      rw [hb] at hc
      rw [dropAll_at l _ h2 p.f.toNat _ (List.getElem?_set_self hl)]
      simp at hc ⊢
      omega
    · have hb : (p.f == (j : Int)) = false := by simp; omega
      rw [hb] at hc
      rw [dropAll_at l _ h2 j y (by simp only; rw [List.getElem?_set_ne e]; exact hy)]
      simp at hc ⊢
      omega
theorem dropAll_len : ∀ (l : List Pc) (fs : List Fr), (dropAll fs l).length = fs.length
  | [], _ => rfl
  | p :: l, fs => by
    show (dropAll (tDrop fs p.f).2 l).length = _
    rw [dropAll_len l]
    unfold tDrop
    split
    · split
      · rfl
      · simp
    · rfl
/-- The holds taken again, by each frame's owner. -/
def backAll (fs : List Fr) (l : List Pc) : List Fr := l.foldl (fun fs p => (tHold fs (tOwner fs p.f) p.f).2) fs
theorem back_step {fs : List Fr} {f : Int} {x : Fr} (hx : fat fs f = some x) (h : envB x.ow = true) : tHold fs (tOwner fs f) f = (0, fs.set f.toNat { x with ho := x.ho + 1 }) := by
  have ho : tOwner fs f = x.ow := by unfold tOwner; rw [hx]
  have hh : ownE fs x.ow f = 0 := by unfold ownE; rw [h, hx]; simp
  unfold tHold
  rw [ho, hh, hx]; rfl
theorem backAll_at : ∀ (l : List Pc) (fs : List Fr), (∀ p ∈ l, ∃ x, fat fs p.f = some x ∧ envB x.ow = true) → ∀ (j : Nat) (y : Fr), fs[j]? = some y → (backAll fs l)[j]? = some { y with ho := y.ho + (cntF l (j : Int) : Int) }
  | [], _, _, j, y, hy => by
    unfold backAll cntF
    simp [hy]
  | p :: l, fs, h, j, y, hy => by
    obtain ⟨x, hx, h0⟩ := h p (by simp)
    have hs := back_step hx h0
    obtain ⟨f0, hi⟩ := fat_some hx
    have hl := (List.getElem?_eq_some_iff.1 hi).1
    have hc := cnt_cons p l (j : Int)
    have h2 : ∀ q ∈ l, ∃ z, fat (fs.set p.f.toNat { x with ho := x.ho + 1 }) q.f = some z ∧ envB z.ow = true := by
      intro q hq
      obtain ⟨z, hz, he⟩ := h q (by simp [hq])
      rw [fat_set hx]
      by_cases e : q.f = p.f
      · rw [if_pos e]; exact ⟨_, rfl, h0⟩
      · rw [if_neg e]; exact ⟨z, hz, he⟩
    show (backAll (tHold fs (tOwner fs p.f) p.f).2 l)[j]? = _
    rw [hs]
    by_cases e : p.f.toNat = j
    · subst e
      rw [hy] at hi; injection hi with hi; subst hi
      have hb : (p.f == ((p.f.toNat : Nat) : Int)) = true := by simp; omega
      rw [hb] at hc
      rw [backAll_at l _ h2 p.f.toNat _ (List.getElem?_set_self hl)]
      simp at hc ⊢
      omega
    · have hb : (p.f == (j : Int)) = false := by simp; omega
      rw [hb] at hc
      rw [backAll_at l _ h2 j y (by rw [List.getElem?_set_ne e]; exact hy)]
      simp at hc ⊢
      omega
theorem backAll_len : ∀ (l : List Pc) (fs : List Fr), (backAll fs l).length = fs.length
  | [], _ => rfl
  | p :: l, fs => by
    show (backAll (tHold fs (tOwner fs p.f) p.f).2 l).length = _
    rw [backAll_len l]
    unfold tHold
    split
    · split
      · rfl
      · simp
    · rfl
/-- What was dropped and is taken again is as it was. -/
theorem back_drop {fs : List Fr} {l : List Pc} (hd : dropOk fs l) (ho : ∀ p ∈ l, ∃ x, fat fs p.f = some x ∧ envB x.ow = true) : backAll (dropAll fs l) l = fs := by
  have h2 : ∀ p ∈ l, ∃ x, fat (dropAll fs l) p.f = some x ∧ envB x.ow = true := by
    intro p hp
    obtain ⟨x, hx, he⟩ := ho p hp
    obtain ⟨f0, hi⟩ := fat_some hx
    have h := dropAll_at l fs hd _ _ hi
    exact ⟨{ x with ho := x.ho - (cntF l (p.f.toNat : Int) : Int) }, by unfold fat; rw [if_pos f0]; exact h, he⟩
  apply List.ext_getElem?
  intro j
  cases hj : fs[j]? with
  | none =>
    rw [List.getElem?_eq_none_iff] at hj ⊢
    rw [backAll_len, dropAll_len]; exact hj
  | some y =>
    rw [backAll_at l _ h2 j _ (dropAll_at l fs hd j y hj)]
    simp
end Go.Proofs.Ythlmfjfkkndboaa
