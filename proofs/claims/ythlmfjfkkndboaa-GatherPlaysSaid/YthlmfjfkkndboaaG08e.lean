/- Drops one by one, and drops counted: the plain law. -/
import Derived.Test.YthlmfjfkkndboaaG08d
import Derived.Test.YthlmfjfkkndboaaGather5
namespace Go.Proofs.Ythlmfjfkkndboaa
open Go.RowKit
set_option linter.unusedVariables false
set_option linter.unusedSimpArgs false

/-- Each frame has as many holds as pieces. -/
def okD (fs : List Fr) (l : List Pc) : Prop := ∀ q ∈ l, ∃ y, fat fs q.f = some y ∧ (cntF l q.f : Int) ≤ y.ho
theorem cnt_cons (p : Pc) (l : List Pc) (f : Int) : cntF (p :: l) f = cntF l f + if p.f == f then 1 else 0 := by
  unfold cntF; rw [List.countP_cons]
theorem fat_set {fs : List Fr} {f g : Int} {x z : Fr} (hx : fat fs f = some x) : fat (fs.set f.toNat z) g = if g = f then some z else fat fs g := by
  obtain ⟨f0, hi⟩ := fat_some hx
  have hl := (List.getElem?_eq_some_iff.1 hi).1
  unfold fat
  by_cases h : g = f
  · subst h
    rw [if_pos f0, if_pos rfl, List.getElem?_set_self hl]
  · rw [if_neg h]
    by_cases g0 : 0 ≤ g
    · rw [if_pos g0, if_pos g0, List.getElem?_set_ne (by omega)]
    · rw [if_neg g0, if_neg g0]
theorem drop_step {fs : List Fr} {f : Int} {x : Fr} (hx : fat fs f = some x) (h : x.ho ≠ 0) : tDrop fs f = (0, fs.set f.toNat { x with ho := x.ho - 1 }) := by
  have hh : heldE fs f = 0 := by unfold heldE; rw [hx]; simp [h]
  unfold tDrop
  rw [hh, hx]; rfl
theorem drop_at {fs : List Fr} {f : Int} (h : (tDrop fs f).1 = 0) : ∃ x, fat fs f = some x ∧ x.ho ≠ 0 := by
  unfold tDrop at h
  split at h
  · rename_i hh; exact heldE_ok hh
  · rename_i hh; exact absurd h hh
theorem okD_ok : ∀ (l : List Pc) (fs : List Fr), okD fs l → dropOk fs l
  | [], _, _ => trivial
  | p :: l, fs, h => by
    obtain ⟨x, hx, hc⟩ := h p (by simp)
    have hc1 : cntF (p :: l) p.f = cntF l p.f + 1 := by rw [cnt_cons]; simp
    have h0 : x.ho ≠ 0 := by omega
    have hs := drop_step hx h0
    refine ⟨by rw [hs], okD_ok l _ ?_⟩
    rw [hs]
    intro q hq
    obtain ⟨y, hy, hyc⟩ := h q (by simp [hq])
    have hcq := cnt_cons p l q.f
    simp only
    rw [fat_set hx]
    by_cases e : q.f = p.f
    · rw [if_pos e]
      rw [e] at hy hyc hcq ⊢
      rw [hx] at hy; injection hy with hy; subst hy
      refine ⟨_, rfl, ?_⟩
      simp only
      rw [hc1] at hyc
      omega
    · rw [if_neg e]
      refine ⟨y, hy, ?_⟩
      have : (p.f == q.f) = false := by simpa using fun h => e h.symm
      rw [this] at hcq
      simp at hcq
      omega
theorem ok_okD : ∀ (l : List Pc) (fs : List Fr), (∀ x ∈ fs, 0 ≤ x.ho) → dropOk fs l → okD fs l
  | [], _, _, _ => by intro q hq; cases hq
  | p :: l, fs, hp, h => by
    obtain ⟨h1, h2⟩ := h
    obtain ⟨x, hx, h0⟩ := drop_at h1
    have hs := drop_step hx h0
    rw [hs] at h2
    have hxp := hp x (List.mem_of_getElem? (fat_some hx).2)
    have ih := ok_okD l _ (by
      intro y hy
      rcases mem_set hy with rfl | hy
      · simp only; omega
      · exact hp y hy) h2
    have key : ∀ q ∈ l, ∃ y, fat fs q.f = some y ∧ (cntF (p :: l) q.f : Int) ≤ y.ho := by
      intro q hq
      obtain ⟨y, hy, hyc⟩ := ih q hq
      simp only at hy
      rw [fat_set hx] at hy
      have hcq := cnt_cons p l q.f
      by_cases e : q.f = p.f
      · rw [if_pos e] at hy
        injection hy with hy
        subst hy
        rw [e] at hyc hcq ⊢
        refine ⟨x, hx, ?_⟩
        simp at hcq hyc
        omega
      · rw [if_neg e] at hy
        refine ⟨y, hy, ?_⟩
        have : (p.f == q.f) = false := by simpa using fun h => e h.symm
        rw [this] at hcq
        simp at hcq
        omega
    intro q hq
    rcases List.mem_cons.1 hq with rfl | hq
    · by_cases hz : ∃ z ∈ l, z.f = q.f
      · obtain ⟨z, hz, e⟩ := hz
        obtain ⟨y, hy, hyc⟩ := key z hz
        rw [e] at hy hyc
        exact ⟨y, hy, hyc⟩
      · refine ⟨x, hx, ?_⟩
        have h3 : cntF l q.f = 0 := by
          unfold cntF
          rw [List.countP_eq_zero]
          intro z hz2 he
          exact hz ⟨z, hz2, by simpa using he⟩
        have := cnt_cons q l q.f
        simp at this
        omega
    · exact key q hq
theorem dbad_okD {fs : List Fr} {l : List Pc} : l.any (dbad fs l) = false ↔ okD fs l := by
  rw [List.any_eq_false]
  constructor
  · intro h q hq
    have hn := h q hq
    unfold dbad at hn
    cases hf : fat fs q.f with
    | none => rw [hf] at hn; simp at hn
    | some y => rw [hf] at hn; exact ⟨y, rfl, by simp at hn; omega⟩
  · intro h q hq
    obtain ⟨y, hy, hc⟩ := h q hq
    unfold dbad
    rw [hy]; simp; omega
theorem drop_dec : ∀ (l : List Pc) (fs : List Fr), dropOk fs l → dropAll fs l = l.foldl decF fs
  | [], _, _ => rfl
  | p :: l, fs, h => by
    obtain ⟨x, hx, h0⟩ := drop_at h.1
    have hs := drop_step hx h0
    have h2 := h.2
    rw [hs] at h2
    show dropAll (tDrop fs p.f).2 l = (l.foldl decF (decF fs p))
    have hd : decF fs p = fs.set p.f.toNat { x with ho := x.ho - 1 } := by unfold decF; rw [hx]
    rw [hs, hd]
    exact drop_dec l _ h2
end Go.Proofs.Ythlmfjfkkndboaa
