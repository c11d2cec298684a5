/- pantlerref09: Call at op 12 (receive). pantlerref09: Call at op 10 (unbind). What a kernel's steps keep, in plain words: a frame that is held, the line of transfers, the counts. -/
import Derived.Test.YtedblbpmlbjnhaaGreatPE31
import Derived.StillTailTactics
import Derived.Test.YtedblbpmlbjnhaaGreatPE18
import Derived.Test.YtedblbpmlbjnhaaGreatPE19
namespace Go.Proofs.YtedblbpmlbjnhaaGreat
/-! ### pantlerref09: Call at op 12 (receive). -/
section
open Go.RowKit Go.Shelf
set_option linter.unusedVariables false
set_option linter.unusedSimpArgs false
set_option maxRecDepth 100000
section
variable {R : Ending → World → Prop} {w0 w : World} {B m : Nat} {q : QA} {k : KS}
end
end
/-! ### pantlerref09: Call at op 10 (unbind). -/
section
open Go.RowKit Go.Shelf
set_option linter.unusedVariables false
set_option linter.unusedSimpArgs false
set_option maxRecDepth 100000
section
variable {R : Ending → World → Prop} {w0 w : World} {B m : Nat} {q : QA} {k : KS}
end
end
/-! ### What a kernel's steps keep, in plain words: a frame that is held, the line of transfers, the counts. -/
section
open Go.RowKit Go.Shelf
set_option linter.unusedVariables false
set_option linter.unusedSimpArgs false
set_option maxRecDepth 100000

def heldAs (fs : List Fr) (f : Nat) (o : Int) (bs : List UInt8) : Prop := ∃ x, fs[f]? = some x ∧ x.ow = o ∧ 1 ≤ x.ho ∧ x.bs = bs
theorem held_set {fs : List Fr} {f i : Nat} {o : Int} {bs : List UInt8} {z z' : Fr} (h : heldAs fs f o bs) (hz : fs[i]? = some z) (hc : i = f → z'.ow = z.ow ∧ z.ho ≤ z'.ho ∧ z'.bs = z.bs) : heldAs (fs.set i z') f o bs := by
  obtain ⟨x, hx, h1, h2, h3⟩ := h
  by_cases hi : i = f
  · subst hi
    rw [hz] at hx; injection hx with hx; subst hx
    obtain ⟨c1, c2, c3⟩ := hc rfl
    exact ⟨z', List.getElem?_set_self (List.getElem?_eq_some_iff.1 hz).1, c1.trans h1, by omega, c3.trans h3⟩
  · exact ⟨x, by rw [List.getElem?_set_ne hi]; exact hx, h1, h2, h3⟩
theorem tAlloc_held {fs : List Fr} {f : Nat} {o e : Int} {bs : List UInt8} (h : heldAs fs f o bs) (ho : o ≠ 0) : heldAs (tAlloc fs e).2.2 f o bs := by
  unfold tAlloc
  split
  · cases hf : fs.findIdx? (fun x => x.ow == 0) with
    | none => exact h
    | some i =>
      simp only
      cases hi : fs[i]? with
      | none => exact h
      | some z =>
        obtain ⟨hil, hz, _⟩ := List.findIdx?_eq_some_iff_getElem.1 hf
        have hz0 : z.ow = 0 := by
          have := List.getElem?_eq_getElem hil
          rw [hi] at this; injection this with this
          rw [this]; simpa using hz
        refine held_set h hi (fun e => ?_)
        subst e
        obtain ⟨x, hx, h1, _⟩ := h
        rw [hi] at hx; injection hx with hx; subst hx
        omega
  · exact h
theorem held_at {fs : List Fr} {f : Nat} {o : Int} {bs : List UInt8} (h : heldAs fs f o bs) {g : Int} {x : Fr} (hx : fat fs g = some x) (e : g.toNat = f) : 1 ≤ x.ho ∧ x.ow = o := by
  obtain ⟨y, hy, h1, h2, _⟩ := h
  have := (fat_some hx).2
  rw [e, hy] at this; injection this with this; subst this
  exact ⟨h2, h1⟩
theorem tFree_held {fs : List Fr} {f : Nat} {o e g : Int} {bs : List UInt8} (h : heldAs fs f o bs) : heldAs (tFree fs e g).2 f o bs := by
  unfold tFree
  split
  · rename_i hq
    unfold quietE at hq
    split at hq
    · omega
    · split at hq
      · omega
      · rename_i x hx
        split at hq
        · omega
        · refine held_set h (fat_some hx).2 (fun e => ?_)
          have := held_at h hx e
          omega
  · exact h
theorem tGive_held {fs : List Fr} {f : Nat} {o e g t : Int} {bs : List UInt8} (h : heldAs fs f o bs) : heldAs (tGive fs e g t).2 f o bs := by
  unfold tGive
  split
  · split
    · exact h
    · split
      · exact h
      · rename_i x hx
        split
        · exact h
        · refine held_set h (fat_some hx).2 (fun e => ?_)
          have := held_at h hx e
          omega
  · exact h
theorem tWrite_held {fs : List Fr} {f : Nat} {o e g t : Int} {s bs : List UInt8} (h : heldAs fs f o bs) : heldAs (tWrite fs e g t s).2 f o bs := by
  unfold tWrite
  split
  · split
    · exact h
    · split
      · exact h
      · rename_i x hx
        split
        · exact h
        · refine held_set h (fat_some hx).2 (fun e => ?_)
          have := held_at h hx e
          omega
  · exact h
theorem tHold_held {fs : List Fr} {f : Nat} {o e g : Int} {bs : List UInt8} (h : heldAs fs f o bs) : heldAs (tHold fs e g).2 f o bs := by
  unfold tHold
  split
  · split
    · exact h
    · rename_i x hx
      exact held_set h (fat_some hx).2 (fun e => ⟨rfl, by show x.ho ≤ x.ho + 1; omega, rfl⟩)
  · exact h
theorem holdAll_held {f : Nat} {o e : Int} {bs : List UInt8} : ∀ (l : List Pc) {fs : List Fr}, heldAs fs f o bs → heldAs (holdAll fs e l) f o bs
  | [], fs, h => h
  | p :: l, fs, h => by
    have := holdAll_held (e := e) l (tHold_held (e := e) (g := p.f) h)
    simpa [holdAll] using this
theorem kFB_held {k : KS} {x : Kc} {f : Nat} {o : Int} {bs : List UInt8} (h : heldAs k.fs f o bs) (ho : o ≠ 0) : heldAs (kFB k x).k.fs f o bs ∧ (kFB k x).k.qo = k.qo := by
  unfold kFB
  split
  · exact ⟨tAlloc_held h ho, rfl⟩
  · split
    · exact ⟨tFree_held h, rfl⟩
    · split
      · exact ⟨tGive_held h, rfl⟩
      · split
        · exact ⟨h, rfl⟩
        · split
          · exact ⟨tWrite_held h, rfl⟩
          · split
            · exact ⟨h, rfl⟩
            · split
              · exact ⟨h, rfl⟩
              · exact ⟨h, rfl⟩
/-- A step keeps a frame that is held, and the line but for what comes behind it. -/
theorem kStep_held {k k' : KS} {x : Kc} {n e : Int} {l : List UInt8} {f : Nat} {o : Int} {bs : List UInt8} (hs : kStep k x n l e k') (h : heldAs k.fs f o bs) (ho : o ≠ 0) : heldAs k'.fs f o bs ∧ ∃ r, k'.qo = k.qo ++ r := by
  unfold kStep at hs
  split at hs
  · obtain ⟨_, _, _, rfl⟩ := hs
    exact ⟨h, [], by simp⟩
  · split at hs
    · have := kFB_held (x := x) h ho
      rw [hs] at this
      exact ⟨this.1, [], by rw [this.2]; simp⟩
    · split at hs
      · rcases hs.1 with ⟨_, _, _, rfl⟩ | ⟨_, _, _, _, rfl⟩ | ⟨_, _, _, _, y, _, _, _, rfl⟩
        · exact ⟨h, [], by simp⟩
        · exact ⟨h, [], by simp⟩
        · exact ⟨h, [], by simp⟩
      · split at hs
        · rcases hs.1 with ⟨_, _, rfl⟩ | ⟨i, _, _, rfl⟩
          · exact ⟨h, [], by simp⟩
          · exact ⟨h, [], by simp⟩
        · split at hs
          · rcases hs.1 with ⟨_, _, _, rfl⟩ | ⟨_, _, _, _, rfl⟩ | ⟨_, _, _, _, y, _, _, rfl⟩
            · exact ⟨h, [], by simp⟩
            · exact ⟨h, [], by simp⟩
            · exact ⟨holdAll_held _ h, [y], rfl⟩
          · split at hs
            · split at hs
              · rcases hs with ⟨_, _, _, _, rfl⟩ | ⟨y, q, _, _, _, _, rfl⟩
                · exact ⟨h, [], by simp⟩
                · exact ⟨h, [], by simp⟩
              · rcases hs with ⟨_, _, _, _, rfl⟩ | ⟨y, q, _, _, _, _, rfl⟩
                · exact ⟨h, [], by simp⟩
                · exact ⟨h, [], by simp⟩
            · obtain ⟨_, _, _, rfl⟩ := hs
              exact ⟨h, [], by simp⟩

/-! ### counts -/
def hoIn (fs : List Fr) (hi : Int) : Prop := ∀ y ∈ fs, 0 ≤ y.ho ∧ y.ho ≤ hi
theorem hoIn.mono {fs : List Fr} {a b : Int} (h : hoIn fs a) (hab : a ≤ b) : hoIn fs b := fun y hy => by have := h y hy; omega
theorem hoIn_set {fs : List Fr} {hi : Int} {i : Nat} {z : Fr} (h : hoIn fs hi) (hz : 0 ≤ z.ho ∧ z.ho ≤ hi) : hoIn (fs.set i z) hi := fun y hy => by
  rcases mem_set hy with rfl | hy
  · exact hz
  · exact h y hy
theorem hoIn_at {fs : List Fr} {hi : Int} (h : hoIn fs hi) {g : Int} {x : Fr} (hx : fat fs g = some x) : 0 ≤ x.ho ∧ x.ho ≤ hi := h x (List.mem_of_getElem? (fat_some hx).2)
theorem tAlloc_ho {fs : List Fr} {e hi : Int} (h : hoIn fs hi) : hoIn (tAlloc fs e).2.2 hi := by
  unfold tAlloc
  split
  · cases hf : fs.findIdx? (fun x => x.ow == 0) with
    | none => exact h
    | some i =>
      simp only
      cases hi2 : fs[i]? with
      | none => exact h
      | some z => exact hoIn_set h (h z (List.mem_of_getElem? hi2))
  · exact h
theorem tFree_ho {fs : List Fr} {e g hi : Int} (h : hoIn fs hi) (h0 : 0 ≤ hi) : hoIn (tFree fs e g).2 hi := by
  unfold tFree
  split
  · exact hoIn_set h ⟨by simp [fz], by simpa [fz] using h0⟩
  · exact h
theorem tGive_ho {fs : List Fr} {e g t hi : Int} (h : hoIn fs hi) : hoIn (tGive fs e g t).2 hi := by
  unfold tGive
  split
  · split
    · exact h
    · split
      · exact h
      · rename_i x hx
        split
        · exact h
        · exact hoIn_set h (show 0 ≤ x.ho ∧ x.ho ≤ hi from hoIn_at h hx)
  · exact h
theorem tWrite_ho {fs : List Fr} {e g t hi : Int} {s : List UInt8} (h : hoIn fs hi) : hoIn (tWrite fs e g t s).2 hi := by
  unfold tWrite
  split
  · split
    · exact h
    · split
      · exact h
      · rename_i x hx
        split
        · exact h
        · exact hoIn_set h (show 0 ≤ x.ho ∧ x.ho ≤ hi from hoIn_at h hx)
  · exact h
theorem tHold_ho {fs : List Fr} {e g hi : Int} (h : hoIn fs hi) : hoIn (tHold fs e g).2 (hi + 1) := by
  unfold tHold
  split
  · split
    · exact h.mono (by omega)
    · rename_i x hx
      have := hoIn_at h hx
      exact hoIn_set (h.mono (by omega)) ⟨by show 0 ≤ x.ho + 1; omega, by show x.ho + 1 ≤ hi + 1; omega⟩
  · exact h.mono (by omega)
theorem holdAll_ho {e : Int} : ∀ (l : List Pc) {fs : List Fr} {hi : Int}, hoIn fs hi → hoIn (holdAll fs e l) (hi + l.length)
  | [], fs, hi, h => by simpa [holdAll] using h
  | p :: l, fs, hi, h => by
    have := holdAll_ho (e := e) l (tHold_ho (e := e) (g := p.f) h)
    have h2 : hoIn (holdAll fs e (p :: l)) (hi + 1 + l.length) := by simpa [holdAll] using this
    exact h2.mono (by simp; omega)
theorem dWrite_ln (d : DkS) (e b : Int) (l : List UInt8) : (dWrite d e b l).2.ln.length ≤ d.ln.length + 1 := by
  unfold dWrite
  repeat' split
  all_goals simp
theorem dSyncE_ln (d : DkS) : (dSyncE d).2.ln.length ≤ d.ln.length := by
  unfold dSyncE dSync
  split <;> simp
theorem kFB_cnt {k : KS} {x : Kc} {m : Nat} (h : k.cnt m) : (kFB k x).k.cnt (m + 1) := by
  have hh : hoIn k.fs (16 * m) := h.ho
  have up : ∀ fs, hoIn fs (16 * m) → ({ k with fs := fs } : KS).cnt (m + 1) := fun fs hf => ⟨by have := h.ln; simp; omega, by have := h.nx; simp; omega, by have := h.c1; simp; omega, by have := h.c2; simp; omega, by have := h.co; simp; omega, by have := h.dn; simp; omega, h.fl, fun y hy => by have := hf y hy; omega⟩
  have ud : ∀ d : DkS, d.ln.length ≤ m + 1 → ({ k with d := d } : KS).cnt (m + 1) := fun d hd => ⟨by simpa using hd, by have := h.nx; simp; omega, by have := h.c1; simp; omega, by have := h.c2; simp; omega, by have := h.co; simp; omega, by have := h.dn; simp; omega, h.fl, fun y hy => by have := hh y hy; omega⟩
  unfold kFB
  split
  · exact up _ (tAlloc_ho hh)
  · split
    · exact up _ (tFree_ho hh (by omega))
    · split
      · exact up _ (tGive_ho hh)
      · split
        · exact up _ hh
        · split
          · exact up _ (tWrite_ho hh)
          · split
            · exact up _ hh
            · split
              · refine ud _ ?_
                have := h.ln
                have h9 := dWrite_ln k.d x.env x.a x.s
                omega
              · refine ud _ ?_
                have := h.ln
                have h9 := dSyncE_ln k.d
                omega
theorem kStep_cnt {k k' : KS} {x : Kc} {n e : Int} {l : List UInt8} {m : Nat} (hs : kStep k x n l e k') (h : k.cnt m) (hq : k.qo.length ≤ 16) : k'.cnt (m + 1) := by
  have hh : hoIn k.fs (16 * m) := h.ho
  have h1 : k.cnt (m + 1) := ⟨by have := h.ln; omega, by have := h.nx; omega, by have := h.c1; omega, by have := h.c2; omega, by have := h.co; omega, by have := h.dn; omega, h.fl, fun y hy => by have := hh y hy; omega⟩
  unfold kStep at hs
  split at hs
  · obtain ⟨_, _, _, rfl⟩ := hs
    exact h1
  · split at hs
    · have := kFB_cnt (x := x) h
      rw [hs] at this
      exact this
    · split at hs
      · rcases hs.1 with ⟨_, _, _, rfl⟩ | ⟨_, _, _, _, rfl⟩ | ⟨hl, _, _, _, y, _, _, _, rfl⟩
        · exact h1
        · exact h1
        · exact ⟨h1.ln, by have := h.nx; show k.nx + 1 ≤ _; omega, h1.c1, h1.c2, h1.co, h1.dn, by simp; omega, h1.ho⟩
      · split at hs
        · rcases hs.1 with ⟨_, _, rfl⟩ | ⟨i, _, _, rfl⟩
          · exact h1
          · exact ⟨h1.ln, h1.nx, h1.c1, h1.c2, h1.co, h1.dn, Nat.le_trans (List.length_eraseIdx_le _ _) h1.fl, h1.ho⟩
        · split at hs
          · rcases hs.1 with ⟨_, _, _, rfl⟩ | ⟨_, _, _, _, rfl⟩ | ⟨_, hc, _, _, y, _, _, rfl⟩
            · exact h1
            · exact h1
            · refine ⟨h1.ln, h1.nx, h1.c1, h1.c2, by have := h.co; simp; omega, h1.dn, h1.fl, ?_⟩
              have := holdAll_ho (e := x.env) x.l hh
              have hl := checkE_len hc
              intro y hy
              have := this y hy
              omega
          · split at hs
            · split at hs
              · rcases hs with ⟨_, _, _, _, rfl⟩ | ⟨y, q, hq1, _, _, _, rfl⟩
                · exact h1
                · exact ⟨h1.ln, h1.nx, by have := h.c1; rw [hq1] at this; simp at this ⊢; omega, h1.c2, h1.co, h1.dn, h1.fl, h1.ho⟩
              · rcases hs with ⟨_, _, _, _, rfl⟩ | ⟨y, q, hq1, _, _, _, rfl⟩
                · exact h1
                · exact ⟨h1.ln, h1.nx, h1.c1, by have := h.c2; rw [hq1] at this; simp at this ⊢; omega, h1.co, h1.dn, h1.fl, h1.ho⟩
            · obtain ⟨_, _, _, rfl⟩ := hs
              exact h1
end
end Go.Proofs.YtedblbpmlbjnhaaGreat
