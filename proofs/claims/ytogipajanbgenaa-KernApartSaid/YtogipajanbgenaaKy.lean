/- The holds of a kernel's frames are those of its transfers, in plain words. -/
import Derived.Test.YtogipajanbgenaaKt
import Derived.Test.YtogipajanbgenaaKs
import Derived.Test.YtogipajanbgenaaKr
namespace Go.Proofs.Ytogipajanbgenaa
open Go.RowKit Go.Shelf
set_option linter.unusedVariables false
set_option linter.unusedSimpArgs false
set_option maxRecDepth 100000

/-- How many pieces name the frame f. -/
def cntP (l : List Pc) (f : Nat) : Nat := (l.filter (fun p => p.f.toNat == f)).length
theorem cntP_nil (f : Nat) : cntP [] f = 0 := rfl
theorem cntP_cons (p : Pc) (l : List Pc) (f : Nat) : cntP (p :: l) f = (if p.f.toNat = f then 1 else 0) + cntP l f := by
  unfold cntP
  by_cases h : p.f.toNat = f
  · rw [List.filter_cons_of_pos (by simp [h]), if_pos h, List.length_cons]; omega
  · rw [List.filter_cons_of_neg (by simp [h]), if_neg h]; omega
theorem cntP_app (a b : List Pc) (f : Nat) : cntP (a ++ b) f = cntP a f + cntP b f := by simp [cntP]
def frUp (d : Int) (x : Fr) : Fr := { x with ho := x.ho + d }
theorem frUp_zero (x : Fr) : frUp 0 x = x := by simp [frUp]
theorem set_map {fs : List Fr} {i : Nat} {x : Fr} (hx : fs[i]? = some x) (d : Int) (f : Nat) : (fs.set i (frUp d x))[f]? = (fs[f]?).map (frUp (if i = f then d else 0)) := by
  by_cases h : i = f
  · subst h
    rw [List.getElem?_set_self (List.getElem?_eq_some_iff.1 hx).1, hx, if_pos rfl]; rfl
  · rw [List.getElem?_set_ne h, if_neg h]
    cases fs[f]? with
    | none => rfl
    | some y => simp [frUp]
theorem tHold_at {fs : List Fr} {env g : Int} (he : envB env = true) (h0 : 0 ≤ g) (h1 : g < fs.length) (ho : tOwner fs g = env) (f : Nat) :
    (tHold fs env g).2[f]? = (fs[f]?).map (frUp (if g.toNat = f then 1 else 0)) := by
  have hl : g.toNat < fs.length := by omega
  have hx : fs[g.toNat]? = some fs[g.toNat] := List.getElem?_eq_getElem hl
  have hf : fat fs g = some fs[g.toNat] := by unfold fat; rw [if_pos h0, hx]
  have hw : fs[g.toNat].ow = env := by unfold tOwner at ho; rw [hf] at ho; exact ho
  have e0 : ownE fs env g = 0 := by unfold ownE; rw [if_pos he, hf]; simp [hw]
  unfold tHold
  rw [if_pos e0, hf]
  exact set_map hx 1 f
theorem up_up {fs gs : List Fr} {a b : Nat → Int} (h1 : ∀ f, gs[f]? = (fs[f]?).map (frUp (a f))) {hs : List Fr} (h2 : ∀ f, hs[f]? = (gs[f]?).map (frUp (b f))) (f : Nat) : hs[f]? = (fs[f]?).map (frUp (a f + b f)) := by
  rw [h2, h1]
  cases fs[f]? with
  | none => rfl
  | some x => simp [frUp, Int.add_assoc]
theorem up_len {fs gs : List Fr} {a : Nat → Int} (h1 : ∀ f, gs[f]? = (fs[f]?).map (frUp (a f))) : gs.length = fs.length := by
  rcases Nat.lt_trichotomy gs.length fs.length with h | h | h
  · have := h1 gs.length
    rw [List.getElem?_eq_none (Nat.le_refl _), List.getElem?_eq_getElem h] at this
    cases this
  · exact h
  · have := h1 fs.length
    rw [List.getElem?_eq_none (l := fs) (Nat.le_refl _), List.getElem?_eq_getElem h] at this
    cases this
theorem up_own {fs gs : List Fr} {a : Nat → Int} (h1 : ∀ f, gs[f]? = (fs[f]?).map (frUp (a f))) (g : Int) : tOwner gs g = tOwner fs g := by
  unfold tOwner fat
  by_cases h : 0 ≤ g
  · rw [if_pos h, if_pos h, h1]
    cases fs[g.toNat]? with
    | none => rfl
    | some x => rfl
  · rw [if_neg h, if_neg h]
theorem holdAll_at {env : Int} (he : envB env = true) : ∀ (l : List Pc) (fs : List Fr), (∀ p ∈ l, 0 ≤ p.f ∧ p.f < fs.length ∧ tOwner fs p.f = env) → ∀ f, (holdAll fs env l)[f]? = (fs[f]?).map (frUp (cntP l f))
  | [], fs, _, f => by
    show fs[f]? = _
    cases fs[f]? with
    | none => rfl
    | some x => simp [frUp, cntP]
  | p :: l, fs, h, f => by
    obtain ⟨a, b, c⟩ := h p (by simp)
    have h1 := tHold_at he a b c
    have ih := holdAll_at he l (tHold fs env p.f).2 (fun q hq => by
      obtain ⟨x, y, z⟩ := h q (by simp [hq])
      exact ⟨x, by rw [up_len h1]; exact y, by rw [up_own h1]; exact z⟩)
    have := up_up h1 ih f
    show (holdAll (tHold fs env p.f).2 env l)[f]? = _
    rw [this, cntP_cons]
    congr 2
    split <;> simp
theorem tDrop_at {fs : List Fr} {g : Int} (h0 : 0 ≤ g) (h1 : g < fs.length) (hh : ∀ x, fs[g.toNat]? = some x → x.ho ≠ 0) :
    (tDrop fs g).1 = 0 ∧ ∀ f : Nat, (tDrop fs g).2[f]? = (fs[f]?).map (frUp (-(if g.toNat = f then 1 else 0))) := by
  have hl : g.toNat < fs.length := by omega
  have hx : fs[g.toNat]? = some fs[g.toNat] := List.getElem?_eq_getElem hl
  have hf : fat fs g = some fs[g.toNat] := by unfold fat; rw [if_pos h0, hx]
  have hw := hh _ hx
  have e0 : heldE fs g = 0 := by unfold heldE; rw [hf]; simp [hw]
  unfold tDrop
  rw [if_pos e0, hf]
  refine ⟨rfl, fun f => ?_⟩
  have := set_map hx (-1) f
  show (fs.set g.toNat (frUp (-1) fs[g.toNat]))[f]? = _
  rw [this]
  congr 2
  split <;> rfl
theorem dropAll_at : ∀ (l : List Pc) (fs : List Fr), (∀ p ∈ l, 0 ≤ p.f ∧ p.f < fs.length) → (∀ f x, fs[f]? = some x → (cntP l f : Int) ≤ x.ho) → dropOk fs l ∧ ∀ f, (dropAll fs l)[f]? = (fs[f]?).map (frUp (-(cntP l f)))
  | [], fs, _, _ => ⟨trivial, fun f => by
    show fs[f]? = _
    cases fs[f]? with
    | none => rfl
    | some x => simp [frUp, cntP]⟩
  | p :: l, fs, h, hc => by
    obtain ⟨a, b⟩ := h p (by simp)
    obtain ⟨h0, h1⟩ := tDrop_at a b (fun x hx => by
      have := hc _ x hx
      rw [cntP_cons, if_pos rfl] at this
      omega)
    obtain ⟨i1, i2⟩ := dropAll_at l (tDrop fs p.f).2 (fun q hq => by
      obtain ⟨x, y⟩ := h q (by simp [hq])
      exact ⟨x, by rw [up_len h1]; exact y⟩) (fun f x hx => by
      rw [h1] at hx
      cases hq : fs[f]? with
      | none => rw [hq] at hx; cases hx
      | some y =>
        rw [hq] at hx
        injection hx with hx
        subst hx
        have := hc f y hq
        rw [cntP_cons] at this
        simp only [frUp]
        split at this <;> simp_all <;> omega)
    refine ⟨⟨h0, i1⟩, fun f => ?_⟩
    have := up_up h1 i2 f
    show (dropAll (tDrop fs p.f).2 l)[f]? = _
    rw [this, cntP_cons]
    congr 2
    split <;> simp <;> omega

/-! ### the law -/
/-- Each frame's holds are the pieces that name it. -/
structure HInv (k : KS) : Prop where
  rng : ∀ y ∈ k.qo, ∀ p ∈ y.l, 0 ≤ p.f ∧ p.f < k.fs.length
  cnt : ∀ (f : Nat) (x : Fr), k.fs[f]? = some x → x.ho = (cntP (k.qo.flatMap (·.l)) f : Nat)
def sameHo (fs gs : List Fr) : Prop := gs.length = fs.length ∧ ∀ (f : Nat) (y : Fr), gs[f]? = some y → ∃ x, fs[f]? = some x ∧ y.ho = x.ho
theorem sameHo.refl (fs : List Fr) : sameHo fs fs := ⟨rfl, fun f y h => ⟨y, h, rfl⟩⟩
theorem sameHo_set {fs : List Fr} {i : Nat} {x z : Fr} (hx : fs[i]? = some x) (hz : z.ho = x.ho) : sameHo fs (fs.set i z) := ⟨by simp, fun f y h => by
  by_cases e : i = f
  · subst e
    rw [List.getElem?_set_self (List.getElem?_eq_some_iff.1 hx).1] at h
    injection h with h; subst h
    exact ⟨x, hx, hz⟩
  · rw [List.getElem?_set_ne e] at h
    exact ⟨y, h, rfl⟩⟩
theorem HInv.same {k k' : KS} (h : HInv k) (hq : k'.qo = k.qo) (hs : sameHo k.fs k'.fs) : HInv k' :=
  ⟨by rw [hq, hs.1]; exact h.rng, fun f y hy => by
    obtain ⟨x, hx, e⟩ := hs.2 f y hy
    rw [e, hq]; exact h.cnt f x hx⟩
theorem tAlloc_same (fs : List Fr) (e : Int) : sameHo fs (tAlloc fs e).2.2 := by
  unfold tAlloc
  split
  · cases hf : fs.findIdx? (fun x => x.ow == 0) with
    | none => exact sameHo.refl _
    | some i =>
      simp only
      cases hi : fs[i]? with
      | none => exact sameHo.refl _
      | some z => exact sameHo_set hi rfl
  · exact sameHo.refl _
theorem tFree_same (fs : List Fr) (e g : Int) (h : ∀ x ∈ fs, 0 ≤ x.ho) : sameHo fs (tFree fs e g).2 := by
  unfold tFree
  split
  · rename_i hq
    unfold quietE at hq
    split at hq
    · omega
    · split at hq
      · omega
      · rename_i x hx
        split at hq
        · omega
        · refine sameHo_set (fat_some hx).2 ?_
          have := h x (List.mem_of_getElem? (fat_some hx).2)
          show (0 : Int) = _
          omega
  · exact sameHo.refl _
theorem tGive_same (fs : List Fr) (e g t : Int) : sameHo fs (tGive fs e g t).2 := by
  unfold tGive
  split
  · split
    · exact sameHo.refl _
    · split
      · exact sameHo.refl _
      · rename_i x hx
        split
        · exact sameHo.refl _
        · exact sameHo_set (fat_some hx).2 rfl
  · exact sameHo.refl _
theorem tWrite_same (fs : List Fr) (e g t : Int) (s : List UInt8) : sameHo fs (tWrite fs e g t s).2 := by
  unfold tWrite
  split
  · split
    · exact sameHo.refl _
    · split
      · exact sameHo.refl _
      · rename_i x hx
        split
        · exact sameHo.refl _
        · exact sameHo_set (fat_some hx).2 rfl
  · exact sameHo.refl _
theorem HInv.pos {k : KS} (h : HInv k) : ∀ x ∈ k.fs, 0 ≤ x.ho := fun x hx => by
  obtain ⟨f, hf⟩ := List.getElem?_of_mem hx
  rw [h.cnt f x hf]; omega
theorem kFB_same {k : KS} {x : Kc} (h : HInv k) : sameHo k.fs (kFB k x).k.fs ∧ (kFB k x).k.qo = k.qo := by
  unfold kFB
  split
  · exact ⟨tAlloc_same _ _, rfl⟩
  · split
    · exact ⟨tFree_same _ _ _ h.pos, rfl⟩
    · split
      · exact ⟨tGive_same _ _ _ _, rfl⟩
      · split
        · exact ⟨sameHo.refl _, rfl⟩
        · split
          · exact ⟨tWrite_same _ _ _ _ _, rfl⟩
          · split
            · exact ⟨sameHo.refl _, rfl⟩
            · split
              · exact ⟨sameHo.refl _, rfl⟩
              · exact ⟨sameHo.refl _, rfl⟩
theorem checkE_ok {fs : List Fr} {env : Int} {l : List Pc} (h : checkE fs env l = 0) : envB env = true ∧ ∀ p ∈ l, 1 ≤ p.n ∧ wB p = true ∧ 0 ≤ p.f ∧ p.f < fs.length ∧ tOwner fs p.f = env := by
  unfold checkE at h
  split at h
  · omega
  · rename_i h1
    split at h
    · omega
    · rename_i h2
      split at h
      · omega
      · split at h
        · omega
        · rename_i h4
          refine ⟨by simp at h1; exact h1.1, fun p hp => ?_⟩
          have hk : kbad fs.length p = false := by
            rw [Bool.eq_false_iff]; intro hb
            exact h2 (List.any_eq_true.2 ⟨p, hp, hb⟩)
          have ⟨a, b, c, d⟩ := tOwner_range hk
          have ho : (tOwner fs p.f != env) = false := by
            rw [Bool.eq_false_iff]; intro hb
            exact h4 (List.any_eq_true.2 ⟨p, hp, hb⟩)
          exact ⟨a, b, c, d, by simpa using ho⟩
theorem HInv.step {k k' : KS} {x : Kc} {n e : Int} {l : List UInt8} (h : HInv k) (hs : kStep k x n l e k') : HInv k' := by
  unfold kStep at hs
  split at hs
  · obtain ⟨_, _, _, rfl⟩ := hs
    exact h
  · split at hs
    · have := kFB_same (x := x) h
      rw [hs] at this
      exact h.same this.2 this.1
    · split at hs
      · rcases hs.1 with ⟨_, _, _, rfl⟩ | ⟨_, _, _, _, rfl⟩ | ⟨_, _, _, _, y, _, _, _, rfl⟩
        · exact h
        · exact h
        · exact h.same rfl (sameHo.refl _)
      · split at hs
        · rcases hs.1 with ⟨_, _, rfl⟩ | ⟨i, _, _, rfl⟩
          · exact h
          · exact h.same rfl (sameHo.refl _)
        · split at hs
          · rcases hs.1 with ⟨_, _, _, rfl⟩ | ⟨_, _, _, _, rfl⟩ | ⟨_, hc, _, _, y, _, hyl, rfl⟩
            · exact h
            · exact h
            · obtain ⟨he, hp⟩ := checkE_ok hc
              have ha := holdAll_at he x.l k.fs (fun p hpp => ⟨(hp p hpp).2.2.1, (hp p hpp).2.2.2.1, (hp p hpp).2.2.2.2⟩)
              refine ⟨fun z hz p hpz => ?_, fun f z hz => ?_⟩
              · show 0 ≤ p.f ∧ p.f < (holdAll k.fs x.env x.l).length
                rw [up_len ha]
                rcases List.mem_append.1 hz with hz | hz
                · exact h.rng z hz p hpz
                · simp at hz; subst hz
                  rw [hyl] at hpz
                  exact ⟨(hp p hpz).2.2.1, (hp p hpz).2.2.2.1⟩
              · have hz' : (holdAll k.fs x.env x.l)[f]? = some z := hz
                rw [ha] at hz'
                cases hq : k.fs[f]? with
                | none => rw [hq] at hz'; cases hz'
                | some w =>
                  rw [hq] at hz'
                  injection hz' with hz'
                  subst hz'
                  have := h.cnt f w hq
                  show w.ho + _ = _
                  rw [this]
                  simp only [List.flatMap_append, List.flatMap_cons, List.flatMap_nil, List.append_nil, cntP_app, hyl]
                  omega
          · split at hs
            · split at hs
              · rcases hs with ⟨_, _, _, _, rfl⟩ | ⟨y, q, _, _, _, _, rfl⟩
                · exact h
                · exact h.same rfl (sameHo.refl _)
              · rcases hs with ⟨_, _, _, _, rfl⟩ | ⟨y, q, _, _, _, _, rfl⟩
                · exact h
                · exact h.same rfl (sameHo.refl _)
            · obtain ⟨_, _, _, rfl⟩ := hs
              exact h
theorem HInv.first {k : KS} (h : HInv k) {y : Tq} {q : List Tq} (hq : k.qo = y :: q) : dropOk k.fs y.l ∧ ∀ f, (dropAll k.fs y.l)[f]? = (k.fs[f]?).map (frUp (-(cntP y.l f))) :=
  dropAll_at y.l k.fs (fun p hp => h.rng y (by rw [hq]; simp) p hp) (fun f x hx => by
    rw [h.cnt f x hx, hq, List.flatMap_cons, cntP_app]; omega)
theorem HInv.dep {k k' : KS} {env e : Int} {l : List UInt8} (h : HInv k) (hd : kDep k l env e k') : HInv k' := by
  rcases hd with ⟨_, _, _, _, rfl⟩ | ⟨y, q, hq, _, _, _, rfl⟩
  · exact h
  · obtain ⟨_, ha⟩ := h.first hq
    refine ⟨fun z hz p hp => ?_, fun f z hz => ?_⟩
    · show 0 ≤ p.f ∧ p.f < (dropAll k.fs y.l).length
      rw [up_len ha]
      exact h.rng z (by rw [hq]; exact List.mem_cons_of_mem _ hz) p hp
    · have hz' : (dropAll k.fs y.l)[f]? = some z := hz
      rw [ha] at hz'
      cases hk : k.fs[f]? with
      | none => rw [hk] at hz'; cases hz'
      | some w =>
        rw [hk] at hz'
        injection hz' with hz'
        subst hz'
        have := h.cnt f w hk
        rw [hq, List.flatMap_cons, cntP_app] at this
        show w.ho + _ = (cntP (q.flatMap _) f : Int)
        rw [this]; omega
theorem hoIn_up {fs gs : List Fr} {a : Nat → Int} {hi : Int} (h1 : ∀ f, gs[f]? = (fs[f]?).map (frUp (-a f))) (ha : ∀ f, 0 ≤ a f) (h : hoIn fs hi) (hp : ∀ y ∈ gs, 0 ≤ y.ho) : hoIn gs hi := fun y hy => by
  refine ⟨hp y hy, ?_⟩
  obtain ⟨f, hf⟩ := List.getElem?_of_mem hy
  rw [h1] at hf
  cases hk : fs[f]? with
  | none => rw [hk] at hf; cases hf
  | some w =>
    rw [hk] at hf
    injection hf with hf
    subst hf
    have := h w (List.mem_of_getElem? hk)
    have := ha f
    show w.ho + -a f ≤ hi
    omega
theorem kDep_cnt {k k' : KS} {env e : Int} {l : List UInt8} {m : Nat} (hd : kDep k l env e k') (hi : HInv k) (h : k.cnt m) : k'.cnt (m + 1) := by
  have hh : hoIn k.fs (16 * m) := h.ho
  have hi' := hi.dep hd
  rcases hd with ⟨_, _, _, _, rfl⟩ | ⟨y, q, hq, _, _, _, rfl⟩
  · exact ⟨by have := h.ln; omega, by have := h.nx; omega, by have := h.c1; omega, by have := h.c2; omega, by have := h.co; omega, by have := h.dn; omega, h.fl, fun y hy => by have := hh y hy; omega⟩
  · obtain ⟨_, ha⟩ := hi.first hq
    have := hoIn_up (a := fun f => (cntP y.l f : Int)) ha (fun f => by omega) hh hi'.pos
    exact ⟨by have := h.ln; show k.d.ln.length ≤ _; omega, by have := h.nx; show k.nx ≤ _; omega, by have := h.c1; show k.f1 + k.q1.length ≤ _; omega, by have := h.c2; show k.f2 + k.q2.length ≤ _; omega, by have := h.co; rw [hq] at this; simp at this; show k.fo + 1 + q.length ≤ _; omega, by have := h.dn; show k.dn + 1 ≤ _; omega, h.fl, fun z hz => by have := this z hz; omega⟩
theorem HInv_kz0 (F N : Nat) : HInv (kz0 F N) := ⟨by simp [kz0], fun f x hx => by
  simp only [kz0] at hx
  have := List.mem_of_getElem? hx
  rw [List.eq_of_mem_replicate this]
  simp [kz0, fz, cntP]⟩
/-! ### the filters -/
structure FInv (k : KS) : Prop where
  env : ∀ b ∈ k.fl, b.env = 1 ∨ b.env = 2
  chk : ∀ b ∈ k.fl, fchk b.p = true
  ok : ∀ b ∈ k.fl, ∀ o ∈ b.p, o.ok
theorem FInv.same {k k' : KS} (h : FInv k) (e : k'.fl = k.fl) : FInv k' := ⟨by rw [e]; exact h.env, by rw [e]; exact h.chk, by rw [e]; exact h.ok⟩
theorem kFB_fl (k : KS) (x : Kc) : (kFB k x).k.fl = k.fl := by
  unfold kFB
  repeat (first | rfl | (split; · rfl))
theorem FInv.step {k k' : KS} {x : Kc} {n e : Int} {l : List UInt8} (h : FInv k) (hx : ∀ o ∈ x.p, o.ok) (hs : kStep k x n l e k') : FInv k' := by
  unfold kStep at hs
  split at hs
  · obtain ⟨_, _, _, rfl⟩ := hs
    exact h
  · rename_i hen
    split at hs
    · have := kFB_fl k x
      rw [hs] at this
      exact h.same this
    · split at hs
      · rcases hs.1 with ⟨_, _, _, rfl⟩ | ⟨_, _, _, _, rfl⟩ | ⟨_, hc, _, _, y, _, hy1, hy2, rfl⟩
        · exact h
        · exact h
        · have hm : ∀ b ∈ k.fl ++ [y], b ∈ k.fl ∨ b = y := fun b hb => by simpa using hb
          refine ⟨fun b hb => ?_, fun b hb => ?_, fun b hb => ?_⟩
          · rcases hm b hb with hb | rfl
            · exact h.env b hb
            · rw [hy1]; omega
          · rcases hm b hb with hb | rfl
            · exact h.chk b hb
            · rw [hy2]; exact hc
          · rcases hm b hb with hb | rfl
            · exact h.ok b hb
            · rw [hy2]; exact hx
      · split at hs
        · rcases hs.1 with ⟨_, _, rfl⟩ | ⟨i, _, _, rfl⟩
          · exact h
          · have hm : ∀ b ∈ k.fl.eraseIdx i, b ∈ k.fl := fun b hb => List.mem_of_mem_eraseIdx hb
            exact ⟨fun b hb => h.env b (hm b hb), fun b hb => h.chk b (hm b hb), fun b hb => h.ok b (hm b hb)⟩
        · split at hs
          · rcases hs.1 with ⟨_, _, _, rfl⟩ | ⟨_, _, _, _, rfl⟩ | ⟨_, hc, _, _, y, _, hyl, rfl⟩
            · exact h
            · exact h
            · exact h.same rfl
          · split at hs
            · split at hs
              · rcases hs with ⟨_, _, _, _, rfl⟩ | ⟨y, q, _, _, _, _, rfl⟩
                · exact h
                · exact h.same rfl
              · rcases hs with ⟨_, _, _, _, rfl⟩ | ⟨y, q, _, _, _, _, rfl⟩
                · exact h
                · exact h.same rfl
            · obtain ⟨_, _, _, rfl⟩ := hs
              exact h
end Go.Proofs.Ytogipajanbgenaa
