/- filter.Run and Kernel.Arrive in plain words; what KernCounts and KernApart keep. -/
import Derived.Test.YtogipajanbgenaaKy
import Derived.Test.YtogipajanbgenaaLd
import Derived.Test.YtogipajanbgenaaKw
namespace Go.Proofs.Ytogipajanbgenaa
open Go.RowKit Go.Shelf
set_option linter.unusedVariables false
set_option linter.unusedSimpArgs false
set_option maxRecDepth 100000

/-- Whose a packet is. -/
def taker (k : KS) (s : List UInt8) : Option Bnd := k.fl.find? (fun b => frunP s b.p != 0)
def kArr (k : KS) (s : List UInt8) (n e : Int) (k' : KS) : Prop :=
  (1024 < s.length ∧ n = 0 ∧ e = 2 ∧ k' = k) ∨ (s.length ≤ 1024 ∧ taker k s = none ∧ n = 0 ∧ e = 11 ∧ k' = k) ∨
  (s.length ≤ 1024 ∧ ∃ b, taker k s = some b ∧ b.env = 1 ∧ ((k.q1.length = 16 ∧ n = 0 ∧ e = 10 ∧ k' = k) ∨ (k.q1.length < 16 ∧ n = 1 ∧ e = 0 ∧ ∃ y : Sl, y.l = s ∧ k' = { k with q1 := k.q1 ++ [y] }))) ∨
  (s.length ≤ 1024 ∧ ∃ b, taker k s = some b ∧ b.env = 2 ∧ ((k.q2.length = 16 ∧ n = 0 ∧ e = 10 ∧ k' = k) ∨ (k.q2.length < 16 ∧ n = 2 ∧ e = 0 ∧ ∃ y : Sl, y.l = s ∧ k' = { k with q2 := k.q2 ++ [y] })))
theorem kArr_cnt {k k' : KS} {s : List UInt8} {n e : Int} {m : Nat} (h : kArr k s n e k') (hc : k.cnt m) : k'.cnt (m + 1) := by
  have h1 : k.cnt (m + 1) := ⟨by have := hc.ln; omega, by have := hc.nx; omega, by have := hc.c1; omega, by have := hc.c2; omega, by have := hc.co; omega, by have := hc.dn; omega, hc.fl, fun y hy => by have := hc.ho y hy; omega⟩
  rcases h with ⟨_, _, _, rfl⟩ | ⟨_, _, _, _, rfl⟩ | ⟨_, b, _, _, ⟨_, _, _, rfl⟩ | ⟨_, _, _, y, _, rfl⟩⟩ | ⟨_, b, _, _, ⟨_, _, _, rfl⟩ | ⟨_, _, _, y, _, rfl⟩⟩
  · exact h1
  · exact h1
  · exact h1
  · exact ⟨h1.ln, h1.nx, by have := hc.c1; simp; omega, h1.c2, h1.co, h1.dn, h1.fl, h1.ho⟩
  · exact h1
  · exact ⟨h1.ln, h1.nx, h1.c1, by have := hc.c2; simp; omega, h1.co, h1.dn, h1.fl, h1.ho⟩
theorem kArr_inv {k k' : KS} {s : List UInt8} {n e : Int} (h : kArr k s n e k') : k'.fs = k.fs ∧ k'.qo = k.qo ∧ k'.fl = k.fl ∧ k'.d = k.d ∧ k'.fo = k.fo ∧ k'.dn = k.dn := by
  rcases h with ⟨_, _, _, rfl⟩ | ⟨_, _, _, _, rfl⟩ | ⟨_, b, _, _, ⟨_, _, _, rfl⟩ | ⟨_, _, _, y, _, rfl⟩⟩ | ⟨_, b, _, _, ⟨_, _, _, rfl⟩ | ⟨_, _, _, y, _, rfl⟩⟩ <;> exact ⟨rfl, rfl, rfl, rfl, rfl, rfl⟩
theorem HInv.arr {k k' : KS} {s : List UInt8} {n e : Int} (hi : HInv k) (h : kArr k s n e k') : HInv k' := by
  obtain ⟨a, b, _⟩ := kArr_inv h
  exact hi.same b (by rw [a]; exact sameHo.refl _)
theorem FInv.arr {k k' : KS} {s : List UInt8} {n e : Int} (hi : FInv k) (h : kArr k s n e k') : FInv k' := hi.same (kArr_inv h).2.2.1
theorem FInv.dep {k k' : KS} {env e : Int} {l : List UInt8} (hi : FInv k) (h : kDep k l env e k') : FInv k' := by
  rcases h with ⟨_, _, _, _, rfl⟩ | ⟨y, q, _, _, _, _, rfl⟩
  · exact hi
  · exact hi.same rfl
/-! ### the first filter takes all, for the first environment -/
def tell1 : List FOp := [⟨7, 1, 0, 0⟩]
theorem tell1_run (s : List UInt8) : frunP s tell1 = 1 := rfl
theorem tell1_chk : fchk tell1 = true := by decide
theorem tell1_ok : ∀ o ∈ tell1, o.ok := by
  intro o ho
  simp [tell1] at ho
  subst ho
  exact ⟨by unfold i64B; decide, by decide, by unfold i64B; decide, by unfold i64B; decide⟩
def FA (k : KS) : Prop := ∃ b r, k.fl = b :: r ∧ b.env = 1 ∧ b.p = tell1
theorem FA.same {k k' : KS} (h : FA k) (e : k'.fl = k.fl) : FA k' := by
  obtain ⟨b, r, h1, h2⟩ := h
  exact ⟨b, r, e.trans h1, h2⟩
theorem FA.arr {k k' : KS} {s : List UInt8} {n e : Int} (hi : FA k) (h : kArr k s n e k') : FA k' := hi.same (kArr_inv h).2.2.1
theorem FA.dep {k k' : KS} {env e : Int} {l : List UInt8} (hi : FA k) (h : kDep k l env e k') : FA k' := by
  rcases h with ⟨_, _, _, _, rfl⟩ | ⟨y, q, _, _, _, _, rfl⟩
  · exact hi
  · exact hi.same rfl
theorem FA.step {k k' : KS} {x : Kc} {n e : Int} {l : List UInt8} (h : FA k) (hx : x.env ≠ 1 ∨ x.op ≠ 10) (hs : kStep k x n l e k') : FA k' := by
  unfold kStep at hs
  split at hs
  · obtain ⟨_, _, _, rfl⟩ := hs
    exact h
  · rename_i hen
    split at hs
    · have := kFB_fl k x
      rw [hs] at this
      exact h.same this
    · split at hs
      · rcases hs.1 with ⟨_, _, _, rfl⟩ | ⟨_, _, _, _, rfl⟩ | ⟨_, hc, _, _, y, _, hy1, hy2, rfl⟩
        · exact h
        · exact h
        · obtain ⟨b, r, h1, h2⟩ := h
          exact ⟨b, r ++ [y], by show k.fl ++ [y] = _; rw [h1]; rfl, h2⟩
      · split at hs
        · rename_i ho10
          rcases hs.1 with ⟨_, _, rfl⟩ | ⟨i, hf, _, rfl⟩
          · exact h
          · obtain ⟨b, r, h1, h2, h3⟩ := h
            have he : x.env ≠ 1 := hx.resolve_right (fun h => h ho10)
            cases i with
            | zero =>
              obtain ⟨hil, hz, _⟩ := List.findIdx?_eq_some_iff_getElem.1 hf
              simp only [h1, List.getElem_cons_zero, bhit, Bool.and_eq_true, beq_iff_eq] at hz
              omega
            | succ i => exact ⟨b, r.eraseIdx i, by show k.fl.eraseIdx (i + 1) = _; rw [h1]; rfl, h2, h3⟩
        · split at hs
          · rcases hs.1 with ⟨_, _, _, rfl⟩ | ⟨_, _, _, _, rfl⟩ | ⟨_, hc, _, _, y, _, hyl, rfl⟩
            · exact h
            · exact h
            · exact h.same rfl
          · split at hs
            · split at hs
              · rcases hs with ⟨_, _, _, _, rfl⟩ | ⟨y, q, _, _, _, _, rfl⟩
                · exact h
                · exact h.same rfl
              · rcases hs with ⟨_, _, _, _, rfl⟩ | ⟨y, q, _, _, _, _, rfl⟩
                · exact h
                · exact h.same rfl
            · obtain ⟨_, _, _, rfl⟩ := hs
              exact h
theorem FA.taker {k : KS} (h : FA k) (s : List UInt8) : ∃ b, taker k s = some b ∧ b.env = 1 := by
  obtain ⟨b, r, h1, h2, h3⟩ := h
  refine ⟨b, ?_, h2⟩
  unfold Go.Proofs.Ytogipajanbgenaa.taker
  rw [h1, List.find?_cons_of_pos (by rw [h3, tell1_run]; rfl)]
theorem FA.arrives {k k' : KS} {s : List UInt8} {n e : Int} (hi : FA k) (h : kArr k s n e k') : (1024 < s.length ∧ e = 2 ∧ k' = k) ∨ (s.length ≤ 1024 ∧ k.q1.length = 16 ∧ e = 10 ∧ k' = k) ∨ (s.length ≤ 1024 ∧ k.q1.length < 16 ∧ n = 1 ∧ e = 0 ∧ ∃ y : Sl, y.l = s ∧ k' = { k with q1 := k.q1 ++ [y] }) := by
  obtain ⟨b, hb, he⟩ := hi.taker s
  rcases h with ⟨h1, _, h3, h4⟩ | ⟨_, h2, _, _, _⟩ | ⟨h1, b', hb', _, ⟨g1, _, g3, g4⟩ | ⟨g1, g2, g3, y, g4, g5⟩⟩ | ⟨_, b', hb', he', _⟩
  · exact .inl ⟨h1, h3, h4⟩
  · rw [hb] at h2; cases h2
  · exact .inr (.inl ⟨h1, g1, g3, g4⟩)
  · exact .inr (.inr ⟨h1, g1, g2, g3, y, g4, g5⟩)
  · rw [hb] at hb'; injection hb' with hb'; subst hb'; omega
/-! ### KernCounts -/
structure CInv (m next done : Nat) (came : List (List UInt8)) (k : KS) : Prop where
  h : HInv k
  f : FInv k
  a : FA k
  c : k.cnt m
  nx : next = k.fo + k.qo.length
  dn : k.dn = done
  fo : k.fo = done
  cm : k.q1.map (·.l) = came
theorem CInv.arr {m next done : Nat} {came : List (List UInt8)} {k k' : KS} {s : List UInt8} {n e : Int} (hi : CInv m next done came k) (h : kArr k s n e k') :
    (e ≠ 0 ∧ CInv (m + 1) next done came k') ∨ (e = 0 ∧ n = 1 ∧ CInv (m + 1) next done (came ++ [s]) k') := by
  have h2 := kArr_inv h
  obtain ⟨i1, i2, i3, i4, i5, i6⟩ := h2
  have b : ∀ cm, k'.q1.map (·.l) = cm → CInv (m + 1) next done cm k' := fun cm hc => ⟨hi.h.arr h, hi.f.arr h, hi.a.arr h, kArr_cnt h hi.c, by rw [i5, i2]; exact hi.nx, by rw [i6]; exact hi.dn, by rw [i5]; exact hi.fo, hc⟩
  rcases hi.a.arrives h with ⟨_, h3, h4⟩ | ⟨_, _, h3, h4⟩ | ⟨_, _, h1, h3, y, h5, h4⟩
  · exact .inl ⟨by omega, b _ (by rw [h4]; exact hi.cm)⟩
  · exact .inl ⟨by omega, b _ (by rw [h4]; exact hi.cm)⟩
  · exact .inr ⟨h3, h1, b _ (by rw [h4]; simp [hi.cm, h5])⟩
theorem CInv.dep {m next done : Nat} {came : List (List UInt8)} {k k' : KS} {l : List UInt8} {env e : Int} (hi : CInv m next done came k) (h : kDep k l env e k') :
    (e ≠ 0 ∧ CInv (m + 1) next done came k') ∨ (e = 0 ∧ done + 1 ≤ next ∧ CInv (m + 1) next (done + 1) came k') := by
  have h1 := hi.h.dep h
  have h2 := hi.f.dep h
  have h3 := hi.a.dep h
  have h4 := kDep_cnt h hi.h hi.c
  rcases h with ⟨_, _, _, he, rfl⟩ | ⟨y, q, hq, _, _, he, rfl⟩
  · exact .inl ⟨by omega, ⟨h1, h2, h3, h4, hi.nx, hi.dn, hi.fo, hi.cm⟩⟩
  · refine .inr ⟨he, ?_, ⟨h1, h2, h3, h4, ?_, ?_, ?_, hi.cm⟩⟩
    · have := hi.nx; have := hi.fo; rw [hq] at *; simp at *; omega
    · have := hi.nx; rw [hq] at this; simp at this; show next = k.fo + 1 + q.length; omega
    · have := hi.dn; show k.dn + 1 = _; omega
    · have := hi.fo; show k.fo + 1 = _; omega
theorem CInv.le {m next done : Nat} {came : List (List UInt8)} {k : KS} (hi : CInv m next done came k) : done ≤ next := by have := hi.nx; have := hi.fo; omega
theorem kFB_rest (k : KS) (x : Kc) : (kFB k x).k.q1 = k.q1 ∧ (kFB k x).k.fo = k.fo ∧ (kFB k x).k.qo = k.qo ∧ (kFB k x).k.dn = k.dn := by
  unfold kFB
  repeat (first | exact ⟨rfl, rfl, rfl, rfl⟩ | (split; · exact ⟨rfl, rfl, rfl, rfl⟩))
/-- What a call other than bind and unbind does to the counts. -/
theorem CInv.step {m next done : Nat} {came : List (List UInt8)} {k k' : KS} {x : Kc} {n e : Int} {l : List UInt8} (hi : CInv m next done came k) (hq : k.qo.length ≤ 16) (hx : ∀ o ∈ x.p, o.ok) (h9 : x.op ≠ 9) (h10 : x.op ≠ 10) (hs : kStep k x n l e k') :
    ∃ next' came', CInv (m + 1) next' done came' k' ∧ (x.op = 11 → e = 0 → n = next ∧ next' = next + 1) ∧ (¬ (x.op = 11 ∧ e = 0) → next' = next) ∧
      (x.op = 12 → x.env = 1 → (came = [] → e ≠ 0 ∧ came' = []) ∧ (∀ y r, came = y :: r → l = y ∧ came' = r)) ∧ (¬ (x.op = 12 ∧ x.env = 1) → came' = came) := by
  have h1 := hi.h.step hs
  have h2 := hi.f.step hx hs
  have h3 := hi.a.step (.inr h10) hs
  have h4 := kStep_cnt hs hi.c hq
  have same : k'.fo = k.fo → k'.qo = k.qo → k'.dn = k.dn → k'.q1 = k.q1 → CInv (m + 1) next done came k' := fun a b c d => ⟨h1, h2, h3, h4, by rw [a, b]; exact hi.nx, by rw [c]; exact hi.dn, by rw [a]; exact hi.fo, by rw [d]; exact hi.cm⟩
  unfold kStep at hs
  split at hs
  · obtain ⟨_, _, he, rfl⟩ := hs
    rename_i hen
    exact ⟨next, came, same rfl rfl rfl rfl, fun _ h => by omega, fun _ => rfl, fun a b => by omega, fun _ => rfl⟩
  · rename_i hen
    split at hs
    · have := kFB_rest k x
      rw [hs] at this
      obtain ⟨a, b, c, d⟩ := this
      exact ⟨next, came, same b c d a, fun _ h => by omega, fun _ => rfl, fun a b => by omega, fun _ => rfl⟩
    · first | rw [if_neg h9, if_neg h10] at hs | skip
      split at hs
      · rename_i h11
        rcases hs.1 with ⟨_, _, he, rfl⟩ | ⟨_, hc, _, he, rfl⟩ | ⟨_, hc, hn, he, y, _, hyl, rfl⟩
        · exact ⟨next, came, same rfl rfl rfl rfl, fun _ h => by omega, fun _ => rfl, fun a b => by omega, fun _ => rfl⟩
        · exact ⟨next, came, same rfl rfl rfl rfl, fun _ h => by omega, fun _ => rfl, fun a b => by omega, fun _ => rfl⟩
        · exact ⟨next + 1, came, ⟨h1, h2, h3, h4, by have := hi.nx; simp; omega, hi.dn, hi.fo, hi.cm⟩, fun _ _ => ⟨by rw [hn, hi.nx], rfl⟩, fun h => absurd ⟨h11, he⟩ h, fun a b => by omega, fun _ => rfl⟩
      · rename_i h11
        split at hs
        · rename_i h12
          split at hs
          · rename_i he1
            rcases hs with ⟨hq1, _, _, he, rfl⟩ | ⟨y, q, hq1, _, hl, he, rfl⟩
            · have hc : came = [] := by rw [← hi.cm, hq1]; rfl
              exact ⟨next, came, same rfl rfl rfl rfl, fun h => absurd h h11, fun _ => rfl, fun _ _ => ⟨fun h => ⟨by omega, h⟩, fun y r h => by rw [hc] at h; cases h⟩, fun _ => rfl⟩
            · have hc : came = y.l :: q.map (·.l) := by rw [← hi.cm, hq1]; rfl
              exact ⟨next, q.map (·.l), ⟨h1, h2, h3, h4, hi.nx, hi.dn, hi.fo, rfl⟩, fun h => absurd h h11, fun _ => rfl, fun _ _ => ⟨fun h => (by rw [hc] at h; cases h), fun y' r h => (by rw [hc] at h; injection h with a b; exact ⟨hl.trans a, b⟩)⟩, fun h => absurd ⟨h12, he1⟩ h⟩
          · rename_i he1
            rcases hs with ⟨_, _, _, _, rfl⟩ | ⟨y, q, _, _, _, _, rfl⟩
            · exact ⟨next, came, same rfl rfl rfl rfl, fun h => absurd h h11, fun _ => rfl, fun _ h => absurd h he1, fun _ => rfl⟩
            · exact ⟨next, came, same rfl rfl rfl rfl, fun h => absurd h h11, fun _ => rfl, fun _ h => absurd h he1, fun _ => rfl⟩
        · rename_i h12
          obtain ⟨_, _, _, rfl⟩ := hs
          exact ⟨next, came, same rfl rfl rfl rfl, fun h => absurd h h11, fun _ => rfl, fun h => absurd h h12, fun _ => rfl⟩
/-- Op 13. -/
theorem CInv.done13 {m next done : Nat} {came : List (List UInt8)} {k k' : KS} {x : Kc} {n e : Int} {l : List UInt8} (hi : CInv m next done came k) (hq : k.qo.length ≤ 16) (ho : x.op = 13) (he : x.env = 2) (hx : ∀ o ∈ x.p, o.ok) (hs : kStep k x n l e k') : n = done ∧ CInv (m + 1) next done came k' := by
  have h4 := kStep_cnt hs hi.c hq
  unfold kStep at hs
  rw [if_neg (by omega), if_neg (by omega), if_neg (by omega), if_neg (by omega), if_neg (by omega), if_neg (by omega)] at hs
  obtain ⟨h1, _, _, rfl⟩ := hs
  exact ⟨by rw [h1, hi.dn], hi.h, hi.f, hi.a, h4, hi.nx, hi.dn, hi.fo, hi.cm⟩
/-! ### KernApart -/
def ownAs (fs : List Fr) (f : Nat) (o : Int) (bs : List UInt8) : Prop := ∃ x, fs[f]? = some x ∧ x.ow = o ∧ x.bs = bs
theorem own_set {fs : List Fr} {f i : Nat} {o : Int} {bs : List UInt8} {z z' : Fr} (h : ownAs fs f o bs) (hz : fs[i]? = some z) (hc : i = f → z'.ow = z.ow ∧ z'.bs = z.bs) : ownAs (fs.set i z') f o bs := by
  obtain ⟨x, hx, h1, h3⟩ := h
  by_cases hi : i = f
  · subst hi
    rw [hz] at hx; injection hx with hx; subst hx
    obtain ⟨c1, c3⟩ := hc rfl
    exact ⟨z', List.getElem?_set_self (List.getElem?_eq_some_iff.1 hz).1, c1.trans h1, c3.trans h3⟩
  · exact ⟨x, by rw [List.getElem?_set_ne hi]; exact hx, h1, h3⟩
theorem own_at {fs : List Fr} {f : Nat} {o : Int} {bs : List UInt8} (h : ownAs fs f o bs) {g : Int} {x : Fr} (hx : fat fs g = some x) (e : g.toNat = f) : x.ow = o := by
  obtain ⟨y, hy, h1, _⟩ := h
  have := (fat_some hx).2
  rw [e, hy] at this; injection this with this; subst this
  exact h1
theorem tAlloc_own {fs : List Fr} {f : Nat} {o e : Int} {bs : List UInt8} (h : ownAs fs f o bs) (ho : o ≠ 0) : ownAs (tAlloc fs e).2.2 f o bs := by
  unfold tAlloc
  split
  · cases hf : fs.findIdx? (fun x => x.ow == 0) with
    | none => exact h
    | some i =>
      simp only
      cases hi : fs[i]? with
      | none => exact h
      | some z =>
        obtain ⟨hil, hz, _⟩ := List.findIdx?_eq_some_iff_getElem.1 hf
        have hz0 : z.ow = 0 := by
          have := List.getElem?_eq_getElem hil
          rw [hi] at this; injection this with this
          rw [this]; simpa using hz
        refine own_set h hi (fun e => ?_)
        subst e
        obtain ⟨x, hx, h1, _⟩ := h
        rw [hi] at hx; injection hx with hx; subst hx
        omega
  · exact h
theorem ownE_who {fs : List Fr} {f : Nat} {o e g : Int} {bs : List UInt8} (h : ownAs fs f o bs) (he : e ≠ o) (h0 : ownE fs e g = 0) : g.toNat ≠ f := by
  intro hg
  obtain ⟨x, hx, h1, _⟩ := ownE_ok h0
  have := own_at h hx hg
  omega
theorem tFree_own {fs : List Fr} {f : Nat} {o e g : Int} {bs : List UInt8} (h : ownAs fs f o bs) (he : e ≠ o) : ownAs (tFree fs e g).2 f o bs := by
  unfold tFree
  split
  · rename_i hq
    unfold quietE at hq
    split at hq
    · omega
    · rename_i hw
      split at hq
      · omega
      · rename_i x hx
        exact own_set h (fat_some hx).2 (fun e2 => absurd e2 (ownE_who h he (by omega)))
  · exact h
theorem tGive_own {fs : List Fr} {f : Nat} {o e g t : Int} {bs : List UInt8} (h : ownAs fs f o bs) (he : e ≠ o) : ownAs (tGive fs e g t).2 f o bs := by
  unfold tGive
  split
  · rename_i hw
    split
    · exact h
    · split
      · exact h
      · rename_i x hx
        split
        · exact h
        · exact own_set h (fat_some hx).2 (fun e2 => absurd e2 (ownE_who h he hw))
  · exact h
theorem tWrite_own {fs : List Fr} {f : Nat} {o e g t : Int} {s bs : List UInt8} (h : ownAs fs f o bs) (he : e ≠ o) : ownAs (tWrite fs e g t s).2 f o bs := by
  unfold tWrite
  split
  · rename_i hw
    split
    · exact h
    · split
      · exact h
      · rename_i x hx
        split
        · exact h
        · exact own_set h (fat_some hx).2 (fun e2 => absurd e2 (ownE_who h he hw))
  · exact h
theorem tHold_own {fs : List Fr} {f : Nat} {o e g : Int} {bs : List UInt8} (h : ownAs fs f o bs) : ownAs (tHold fs e g).2 f o bs := by
  unfold tHold
  split
  · split
    · exact h
    · rename_i x hx
      exact own_set h (fat_some hx).2 (fun e => ⟨rfl, rfl⟩)
  · exact h
theorem tDrop_own {fs : List Fr} {f : Nat} {o g : Int} {bs : List UInt8} (h : ownAs fs f o bs) : ownAs (tDrop fs g).2 f o bs := by
  unfold tDrop
  split
  · split
    · exact h
    · rename_i x hx
      exact own_set h (fat_some hx).2 (fun e => ⟨rfl, rfl⟩)
  · exact h
theorem holdAll_own {f : Nat} {o e : Int} {bs : List UInt8} : ∀ (l : List Pc) {fs : List Fr}, ownAs fs f o bs → ownAs (holdAll fs e l) f o bs
  | [], fs, h => h
  | p :: l, fs, h => by
    have := holdAll_own (e := e) l (tHold_own (e := e) (g := p.f) h)
    simpa [holdAll] using this
theorem dropAll_own {f : Nat} {o : Int} {bs : List UInt8} : ∀ (l : List Pc) {fs : List Fr}, ownAs fs f o bs → ownAs (dropAll fs l) f o bs
  | [], fs, h => h
  | p :: l, fs, h => by
    have := dropAll_own l (tDrop_own (g := p.f) h)
    simpa [dropAll] using this
theorem lastOf_cons (x : Wr) (l : List Wr) (b : Int) : lastOf (x :: l) b = (lastOf l b).or (if x.b = b then some x.s else none) := by
  unfold lastOf
  rw [List.reverse_cons, List.find?_append]
  cases l.reverse.find? (fun x => x.b == b) with
  | some y => rfl
  | none =>
    by_cases h : x.b = b
    · simp [h]
    · simp [h]
theorem lastOf_snoc2 (x : Wr) (l : List Wr) (b : Int) : lastOf (l ++ [x]) b = if x.b = b then some x.s else lastOf l b := by
  unfold lastOf
  rw [List.reverse_append]
  by_cases h : x.b = b
  · simp [h]
  · simp [h]
theorem dSee_def (d : DkS) (b : Int) : dSee d b = (lastOf d.ln b).getD ((d.bl[b.toNat]?).getD []) := by
  unfold dSee
  cases lastOf d.ln b <;> rfl
theorem dSet_see {b : Int} (hb : 0 ≤ b) : ∀ (l : List Wr) (bl : List (List UInt8)), b < bl.length → (∀ x ∈ l, 0 ≤ x.b) → ((l.foldl dSet bl)[b.toNat]?).getD [] = (lastOf l b).getD ((bl[b.toNat]?).getD [])
  | [], bl, _, _ => rfl
  | x :: l, bl, h, hl => by
    have hx := hl x (by simp)
    have ih := dSet_see hb l (dSet bl x) (by simpa [dSet] using h) (fun y hy => hl y (by simp [hy]))
    rw [List.foldl_cons, ih, lastOf_cons]
    cases lastOf l b with
    | some s => rfl
    | none =>
      unfold dSet
      by_cases e : x.b = b
      · rw [if_pos e, e, List.getElem?_set_self (by omega)]; rfl
      · rw [if_neg e, List.getElem?_set_ne (by omega)]; rfl
theorem dSync_see {d : DkS} (h : d.ok) {b : Int} (h0 : 0 ≤ b) (h1 : b < d.bl.length) : dSee (dSync d) b = dSee d b := by
  rw [dSee_def, dSee_def]
  exact dSet_see h0 d.ln d.bl h1 (fun x hx => (h.ln x hx).1)
theorem dMay_sync (d : DkS) (e b : Int) : dMay (dSync d) e b = dMay d e b := by
  unfold dMay dSync
  simp only [dSet_len]
theorem dWrite_bl (d : DkS) (e b : Int) (s : List UInt8) : (dWrite d e b s).2.bl = d.bl ∧ (dWrite d e b s).2.ow = d.ow := by
  unfold dWrite
  split
  · split
    · exact ⟨rfl, rfl⟩
    · exact ⟨rfl, rfl⟩
  · exact ⟨rfl, rfl⟩
theorem dMay_write (d : DkS) (e' b' : Int) (s : List UInt8) (e b : Int) : dMay (dWrite d e' b' s).2 e b = dMay d e b := by
  obtain ⟨h1, h2⟩ := dWrite_bl d e' b' s
  unfold dMay
  rw [h1, h2]
theorem dWrite_see {d : DkS} {e e' b b' : Int} {s : List UInt8} (hm : dMay d e b = 0) (he : e' ≠ e) : dSee (dWrite d e' b' s).2 b = dSee d b := by
  unfold dWrite
  split
  · rename_i hm'
    split
    · have a := dMay_ok hm
      have a' := dMay_ok hm'
      have hb : b' ≠ b := by
        rintro rfl
        have h1 := a.2.2.1
        rw [a'.2.2.1] at h1
        injection h1 with h1
        exact he h1
      rw [dSee_def, dSee_def, lastOf_snoc2, if_neg hb]
    · rfl
  · rfl
structure AInv (m : Nat) (P blk : List UInt8) (k : KS) : Prop where
  h : HInv k
  f : FInv k
  a : FA k
  c : k.cnt m
  q : k.q1 = []
  o : ownAs k.fs 0 1 P
  m : dMay k.d 1 0 = 0
  s : dSee k.d 0 = blk
theorem kFB_apart {k : KS} {x : Kc} {P blk : List UInt8} (hd : k.d.ok) (he : x.env = 2) (o : ownAs k.fs 0 1 P) (m : dMay k.d 1 0 = 0) (s : dSee k.d 0 = blk) : ownAs (kFB k x).k.fs 0 1 P ∧ dMay (kFB k x).k.d 1 0 = 0 ∧ dSee (kFB k x).k.d 0 = blk ∧ (kFB k x).k.q1 = k.q1 := by
  have he2 : x.env ≠ 1 := by omega
  unfold kFB
  split
  · exact ⟨tAlloc_own o (by decide), m, s, rfl⟩
  · split
    · exact ⟨tFree_own o he2, m, s, rfl⟩
    · split
      · exact ⟨tGive_own o he2, m, s, rfl⟩
      · split
        · exact ⟨o, m, s, rfl⟩
        · split
          · exact ⟨tWrite_own o he2, m, s, rfl⟩
          · split
            · exact ⟨o, m, s, rfl⟩
            · split
              · exact ⟨o, (dMay_write _ _ _ _ _ _).trans m, (dWrite_see m he2).trans s, rfl⟩
              · obtain ⟨a, b, _⟩ := dMay_ok m
                exact ⟨o, (dMay_sync _ _ _).trans m, (dSync_see hd a b).trans s, rfl⟩
theorem AInv.step {m : Nat} {P blk : List UInt8} {k k' : KS} {x : Kc} {n e : Int} {l : List UInt8} (hi : AInv m P blk k) (hd : k.d.ok) (hq : k.qo.length ≤ 16) (hx : ∀ o ∈ x.p, o.ok) (he : x.env = 2) (hs : kStep k x n l e k') : AInv (m + 1) P blk k' := by
  have h1 := hi.h.step hs
  have h2 := hi.f.step hx hs
  have h3 := hi.a.step (.inl (by omega)) hs
  have h4 := kStep_cnt hs hi.c hq
  have same : k'.fs = k.fs → k'.d = k.d → k'.q1 = k.q1 → AInv (m + 1) P blk k' := fun a b c => ⟨h1, h2, h3, h4, by rw [c]; exact hi.q, by rw [a]; exact hi.o, by rw [b]; exact hi.m, by rw [b]; exact hi.s⟩
  unfold kStep at hs
  split at hs
  · obtain ⟨_, _, he, rfl⟩ := hs
    exact same rfl rfl rfl
  · split at hs
    · have := kFB_apart (x := x) hd he hi.o hi.m hi.s
      rw [hs] at this
      obtain ⟨a, b, c, d⟩ := this
      exact ⟨h1, h2, h3, h4, by rw [d]; exact hi.q, a, b, c⟩
    · split at hs
      · rcases hs.1 with ⟨_, _, _, rfl⟩ | ⟨_, _, _, _, rfl⟩ | ⟨_, hc, _, _, y, _, hy1, hy2, rfl⟩ <;> exact same rfl rfl rfl
      · split at hs
        · rcases hs.1 with ⟨_, _, rfl⟩ | ⟨i, hf, _, rfl⟩ <;> exact same rfl rfl rfl
        · split at hs
          · rcases hs.1 with ⟨_, _, _, rfl⟩ | ⟨_, _, _, _, rfl⟩ | ⟨_, hc, _, _, y, _, hyl, rfl⟩
            · exact same rfl rfl rfl
            · exact same rfl rfl rfl
            · exact ⟨h1, h2, h3, h4, hi.q, holdAll_own _ hi.o, hi.m, hi.s⟩
          · split at hs
            · rw [if_neg (by omega)] at hs
              rcases hs with ⟨_, _, _, _, rfl⟩ | ⟨y, q, _, _, _, _, rfl⟩ <;> exact same rfl rfl rfl
            · obtain ⟨_, _, _, rfl⟩ := hs
              exact same rfl rfl rfl
theorem AInv.dep {m : Nat} {P blk : List UInt8} {k k' : KS} {l : List UInt8} {env e : Int} (hi : AInv m P blk k) (h : kDep k l env e k') : AInv (m + 1) P blk k' := by
  have h1 := hi.h.dep h
  have h2 := hi.f.dep h
  have h3 := hi.a.dep h
  have h4 := kDep_cnt h hi.h hi.c
  rcases h with ⟨_, _, _, he, rfl⟩ | ⟨y, q, hq, _, _, he, rfl⟩
  · exact ⟨h1, h2, h3, h4, hi.q, hi.o, hi.m, hi.s⟩
  · exact ⟨h1, h2, h3, h4, hi.q, dropAll_own _ hi.o, hi.m, hi.s⟩
/-- A packet that came, taken at once. -/
theorem AInv.take {m : Nat} {P blk : List UInt8} {k k1 k2 : KS} {s : List UInt8} {n e n2 e2 : Int} {l2 : List UInt8} {x : Kc} (hi : AInv m P blk k) (h : kArr k s n e k1) (hq : k.qo.length ≤ 16) (hx : ∀ o ∈ x.p, o.ok) (ho : x.op = 12) (he : x.env = 1) (hs : kStep k1 x n2 l2 e2 k2) :
    AInv (m + 2) P blk k2 ∧ (s.length ≤ 1024 → e = 0 ∧ n = 1) := by
  obtain ⟨i1, i2, i3, i4, i5, i6⟩ := kArr_inv h
  have h1 := (hi.h.arr h).step hs
  have h2 := (hi.f.arr h).step hx hs
  have h3 := (hi.a.arr h).step (.inr (by omega)) hs
  have h4 := kStep_cnt hs (kArr_cnt h hi.c) (by rw [i2]; exact hq)
  have hr := hi.a.arrives h
  unfold kStep at hs
  rw [if_neg (by omega), if_neg (by omega), if_neg (by omega), if_neg (by omega), if_neg (by omega), if_pos ho, if_pos he] at hs
  have hq1 := hi.q
  have fin : k2.q1 = [] → k2.fs = k1.fs → k2.d = k1.d → AInv (m + 2) P blk k2 := fun a b c => ⟨h1, h2, h3, h4, a, by rw [b, i1]; exact hi.o, by rw [c, i4]; exact hi.m, by rw [c, i4]; exact hi.s⟩
  rcases hr with ⟨g1, g2, g3⟩ | ⟨g1, g2, g3, g4⟩ | ⟨g1, g2, g3, g4, y, g5, g6⟩
  · subst g3
    refine ⟨?_, fun h => by omega⟩
    rcases hs with ⟨a, _, _, _, rfl⟩ | ⟨y, q, a, _, _, _, rfl⟩
    · exact fin a rfl rfl
    · rw [hq1] at a; cases a
  · rw [hq1] at g2; simp at g2
  · refine ⟨?_, fun _ => ⟨g4, g3⟩⟩
    have hk1 : k1.q1 = [y] := by rw [g6]; simp [hq1]
    rcases hs with ⟨a, _, _, _, rfl⟩ | ⟨y', q, a, _, _, _, rfl⟩
    · rw [hk1] at a; cases a
    · rw [hk1] at a
      injection a with _ a
      exact fin a.symm rfl rfl
theorem conv_letter2 (s : ByteArray) : ∃ (bw : World → World) (cw : World → Nat), (∀ W, (convert 9 44 (.string s)).run Try.prog W = .ok (.slice (some ⟨W.heap.size, 0, none⟩) s.size (cw W)) (bw W)) ∧ (∀ W, s.size ≤ cw W) ∧
    (∀ (S : List Nat) (a w : World), Kp S a w → Kp S a (bw w)) ∧ (∀ (w : World) (b : Nat), b = w.heap.size → Tb (bw w) 5 (some ⟨b, 0, none⟩) (bts s.data.toList)) :=
  ⟨fun W => Lib.bytesWorld W 5 s, fun W => grownCap W s.size 0 5, fun W => conv_sb W s, fun W => grownCap_ge _ _ _ _, fun S a w k => k.bytesWorld _ _, fun w b hb => Tb.fresh w hb⟩
section
variable {R : Ending → World → Prop} {w : World}
/-- The first filter is bound. -/
theorem kbind1 {B : Nat} {ka : KA} {k : KS} {A6 : Option Addr} {c6 : Nat} {m : Nat} (hK : Kn w B ka k) (hc : k.cnt m) (hm : m ≤ 10000) (h6 : Tb w 82 A6 (tell1.flatMap FOp.vals)) (h0 : A6 = none → False) (hf : k.fl = []) (hh : HInv k)
    (h : ∀ v a' k' w', Kq B w w' → Kn w' B a' k' → a'.g = ka.g → k'.cnt (m + 1) → Hid (HInv k' ∧ FInv k' ∧ FA k' ∧ k'.fs = k.fs ∧ k'.d = k.d ∧ k'.q1 = k.q1 ∧ k'.fo = k.fo ∧ k'.qo = k.qo ∧ k'.dn = k.dn) → R (.returned v) w') :
    Calls Try.prog 33 #[.pointer (some ⟨ka.g, 0, none⟩), .agg #[.int .i64 9, .int .i64 1, .int .i64 0, .int .i64 0, .int .i64 0, .slice none 0 0, .slice A6 1 c6, .slice none 0 0]] w R := by
  refine kcall_any (x := ⟨9, 1, 0, 0, 0, none, 0, 0, [], A6, 1, c6, tell1, none, 0, 0, []⟩) hK hc hm ⟨Tb.nil, rfl, by show 0 ≤ _; omega, fun _ => ⟨rfl, rfl⟩, h6, rfl, by show 1 ≤ _; omega, fun h => (h0 h).elim, tell1_ok, Tb.nil, rfl, by show 0 ≤ _; omega, fun _ => ⟨rfl, rfl⟩, by simp⟩ (fun n1 A len cc l e k' a' w' hst q n9 hl ht => ?_)
  have h1 := hst.out
  have hcn := kStep_cnt hst.out hc hK.o.room
  have hin := hh.step hst.out
  unfold kStep at h1
  rw [if_neg (by simp), if_neg (by simp), if_pos rfl] at h1
  rcases h1.1 with ⟨h2, _⟩ | ⟨_, h2, _⟩ | ⟨_, _, _, _, y, y1, y2, y3, rfl⟩
  · rw [hf] at h2; simp at h2
  · have : fchk tell1 = false := h2
    rw [tell1_chk] at this; cases this
  · have y3' : y.p = tell1 := y3
    have y2' : y.env = 1 := y2
    refine h _ a' _ w' q n9.1 n9.2.1 hcn (Lib.hid ⟨hin, ⟨fun b hb => ?_, fun b hb => ?_, fun b hb => ?_⟩, ⟨y, [], by simp [hf], y2', y3'⟩, rfl, rfl, rfl, rfl, rfl, rfl⟩)
    · simp [hf] at hb; subst hb; exact .inl y2'
    · simp [hf] at hb; subst hb; rw [y3']; exact tell1_chk
    · simp [hf] at hb; subst hb; rw [y3']; exact tell1_ok
end
end Go.Proofs.Ytogipajanbgenaa
