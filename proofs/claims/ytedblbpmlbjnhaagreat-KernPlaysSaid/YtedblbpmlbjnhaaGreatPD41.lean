/- What a kernel's steps keep, in plain words: a frame that is held, the line of transfers, the counts. pantlerref09: New; and all calls together. -/
import Derived.Test.YtedblbpmlbjnhaaGreatPD28
import Derived.Test.YtedblbpmlbjnhaaGreatPD39
import Derived.Test.YtedblbpmlbjnhaaGreatPD40
import Derived.Test.YtedblbpmlbjnhaaGreatPD23
namespace Go.Proofs.YtedblbpmlbjnhaaGreat
/-! ### What a kernel's steps keep, in plain words: a frame that is held, the line of transfers, the counts. -/
section
open Go.RowKit Go.Shelf
set_option linter.unusedVariables false
set_option linter.unusedSimpArgs false
set_option maxRecDepth 100000

def heldAs (fs : List Fr) (f : Nat) (o : Int) (bs : List UInt8) : Prop := ∃ x, fs[f]? = some x ∧ x.ow = o ∧ 1 ≤ x.ho ∧ x.bs = bs
theorem held_set {fs : List Fr} {f i : Nat} {o : Int} {bs : List UInt8} {z z' : Fr} (h : heldAs fs f o bs) (hz : fs[i]? = some z) (hc : i = f → z'.ow = z.ow ∧ z.ho ≤ z'.ho ∧ z'.bs = z.bs) : heldAs (fs.set i z') f o bs := by
  obtain ⟨x, hx, h1, h2, h3⟩ := h
  by_cases hi : i = f
  · subst hi
    rw [hz] at hx; injection hx with hx; subst hx
    obtain ⟨c1, c2, c3⟩ := hc rfl
    exact ⟨z', List.getElem?_set_self (List.getElem?_eq_some_iff.1 hz).1, c1.trans h1, by omega, c3.trans h3⟩
  · exact ⟨x, by rw [List.getElem?_set_ne hi]; exact hx, h1, h2, h3⟩
theorem tAlloc_held {fs : List Fr} {f : Nat} {o e : Int} {bs : List UInt8} (h : heldAs fs f o bs) (ho : o ≠ 0) : heldAs (tAlloc fs e).2.2 f o bs := by
  unfold tAlloc
  split
  · cases hf : fs.findIdx? (fun x => x.ow == 0) with
    | none => exact h
    | some i =>
      simp only
      cases hi : fs[i]? with
      | none => exact h
      | some z =>
        obtain ⟨hil, hz, _⟩ := List.findIdx?_eq_some_iff_getElem.1 hf
        have hz0 : z.ow = 0 := by
          have := List.getElem?_eq_getElem hil
          rw [hi] at this; injection this with this
          rw [this]; simpa using hz
        refine held_set h hi (fun e => ?_)
        subst e
        obtain ⟨x, hx, h1, _⟩ := h
        rw [hi] at hx; injection hx with hx; subst hx
        omega
  · exact h
theorem held_at {fs : List Fr} {f : Nat} {o : Int} {bs : List UInt8} (h : heldAs fs f o bs) {g : Int} {x : Fr} (hx : fat fs g = some x) (e : g.toNat = f) : 1 ≤ x.ho ∧ x.ow = o := by
  obtain ⟨y, hy, h1, h2, _⟩ := h
  have := (fat_some hx).2
  rw [e, hy] at this; injection this with this; subst this
  exact ⟨h2, h1⟩
theorem tFree_held {fs : List Fr} {f : Nat} {o e g : Int} {bs : List UInt8} (h : heldAs fs f o bs) : heldAs (tFree fs e g).2 f o bs := by
  unfold tFree
  split
  · rename_i hq
    unfold quietE at hq
    split at hq
    · omega
    · split at hq
      · omega
      · rename_i x hx
        split at hq
        · omega
        · refine held_set h (fat_some hx).2 (fun e => ?_)
          have := held_at h hx e
          omega
  · exact h
theorem tGive_held {fs : List Fr} {f : Nat} {o e g t : Int} {bs : List UInt8} (h : heldAs fs f o bs) : heldAs (tGive fs e g t).2 f o bs := by
  unfold tGive
  split
  · split
    · exact h
    · split
      · exact h
      · rename_i x hx
        split
        · exact h
        · refine held_set h (fat_some hx).2 (fun e => ?_)
          have := held_at h hx e
          omega
  · exact h
theorem tWrite_held {fs : List Fr} {f : Nat} {o e g t : Int} {s bs : List UInt8} (h : heldAs fs f o bs) : heldAs (tWrite fs e g t s).2 f o bs := by
  unfold tWrite
  split
  · split
    · exact h
    · split
      · exact h
      · rename_i x hx
        split
        · exact h
        · refine held_set h (fat_some hx).2 (fun e => ?_)
          have := held_at h hx e
          omega
  · exact h
theorem tHold_held {fs : List Fr} {f : Nat} {o e g : Int} {bs : List UInt8} (h : heldAs fs f o bs) : heldAs (tHold fs e g).2 f o bs := by
  unfold tHold
  split
  · split
    · exact h
    · rename_i x hx
      exact held_set h (fat_some hx).2 (fun e => ⟨rfl, by show x.ho ≤ x.ho + 1; omega, rfl⟩)
  · exact h
theorem holdAll_held {f : Nat} {o e : Int} {bs : List UInt8} : ∀ (l : List Pc) {fs : List Fr}, heldAs fs f o bs → heldAs (holdAll fs e l) f o bs
  | [], fs, h => h
  | p :: l, fs, h => by
    have := holdAll_held (e := e) l (tHold_held (e := e) (g := p.f) h)
    simpa [holdAll] using this
theorem kFB_held {k : KS} {x : Kc} {f : Nat} {o : Int} {bs : List UInt8} (h : heldAs k.fs f o bs) (ho : o ≠ 0) : heldAs (kFB k x).k.fs f o bs ∧ (kFB k x).k.qo = k.qo := by
  unfold kFB
  split
  · exact ⟨tAlloc_held h ho, rfl⟩
  · split
    · exact ⟨tFree_held h, rfl⟩
    · split
      · exact ⟨tGive_held h, rfl⟩
      · split
        · exact ⟨h, rfl⟩
        · split
          · exact ⟨tWrite_held h, rfl⟩
          · split
            · exact ⟨h, rfl⟩
            · split
              · exact ⟨h, rfl⟩
              · exact ⟨h, rfl⟩
/-- A step keeps a frame that is held, and the line but for what comes behind it. -/
theorem kStep_held {k k' : KS} {x : Kc} {n e : Int} {l : List UInt8} {f : Nat} {o : Int} {bs : List UInt8} (hs : kStep k x n l e k') (h : heldAs k.fs f o bs) (ho : o ≠ 0) : heldAs k'.fs f o bs ∧ ∃ r, k'.qo = k.qo ++ r := by
  unfold kStep at hs
  split at hs
  · obtain ⟨_, _, _, rfl⟩ := hs
    exact ⟨h, [], by simp⟩
  · split at hs
    · have := kFB_held (x := x) h ho
      rw [hs] at this
      exact ⟨this.1, [], by rw [this.2]; simp⟩
    · split at hs
      · rcases hs.1 with ⟨_, _, _, rfl⟩ | ⟨_, _, _, _, rfl⟩ | ⟨_, _, _, _, y, _, _, _, rfl⟩
        · exact ⟨h, [], by simp⟩
        · exact ⟨h, [], by simp⟩
        · exact ⟨h, [], by simp⟩
      · split at hs
        · rcases hs.1 with ⟨_, _, rfl⟩ | ⟨i, _, _, rfl⟩
          · exact ⟨h, [], by simp⟩
          · exact ⟨h, [], by simp⟩
        · split at hs
          · rcases hs.1 with ⟨_, _, _, rfl⟩ | ⟨_, _, _, _, rfl⟩ | ⟨_, _, _, _, y, _, _, rfl⟩
            · exact ⟨h, [], by simp⟩
            · exact ⟨h, [], by simp⟩
            · exact ⟨holdAll_held _ h, [y], rfl⟩
          · split at hs
            · split at hs
              · rcases hs with ⟨_, _, _, _, rfl⟩ | ⟨y, q, _, _, _, _, rfl⟩
                · exact ⟨h, [], by simp⟩
                · exact ⟨h, [], by simp⟩
              · rcases hs with ⟨_, _, _, _, rfl⟩ | ⟨y, q, _, _, _, _, rfl⟩
                · exact ⟨h, [], by simp⟩
                · exact ⟨h, [], by simp⟩
            · obtain ⟨_, _, _, rfl⟩ := hs
              exact ⟨h, [], by simp⟩

/-! ### counts -/
def hoIn (fs : List Fr) (hi : Int) : Prop := ∀ y ∈ fs, 0 ≤ y.ho ∧ y.ho ≤ hi
theorem hoIn.mono {fs : List Fr} {a b : Int} (h : hoIn fs a) (hab : a ≤ b) : hoIn fs b := fun y hy => by have := h y hy; omega
theorem hoIn_set {fs : List Fr} {hi : Int} {i : Nat} {z : Fr} (h : hoIn fs hi) (hz : 0 ≤ z.ho ∧ z.ho ≤ hi) : hoIn (fs.set i z) hi := fun y hy => by
  rcases mem_set hy with rfl | hy
  · exact hz
  · exact h y hy
theorem hoIn_at {fs : List Fr} {hi : Int} (h : hoIn fs hi) {g : Int} {x : Fr} (hx : fat fs g = some x) : 0 ≤ x.ho ∧ x.ho ≤ hi := h x (List.mem_of_getElem? (fat_some hx).2)
theorem tAlloc_ho {fs : List Fr} {e hi : Int} (h : hoIn fs hi) : hoIn (tAlloc fs e).2.2 hi := by
  unfold tAlloc
  split
  · cases hf : fs.findIdx? (fun x => x.ow == 0) with
    | none => exact h
    | some i =>
      simp only
      cases hi2 : fs[i]? with
      | none => exact h
      | some z => exact hoIn_set h (h z (List.mem_of_getElem? hi2))
  · exact h
theorem tFree_ho {fs : List Fr} {e g hi : Int} (h : hoIn fs hi) (h0 : 0 ≤ hi) : hoIn (tFree fs e g).2 hi := by
  unfold tFree
  split
  · exact hoIn_set h ⟨by simp [fz], by simpa [fz] using h0⟩
  · exact h
theorem tGive_ho {fs : List Fr} {e g t hi : Int} (h : hoIn fs hi) : hoIn (tGive fs e g t).2 hi := by
  unfold tGive
  split
  · split
    · exact h
    · split
      · exact h
      · rename_i x hx
        split
        · exact h
        · exact hoIn_set h (show 0 ≤ x.ho ∧ x.ho ≤ hi from hoIn_at h hx)
  · exact h
theorem tWrite_ho {fs : List Fr} {e g t hi : Int} {s : List UInt8} (h : hoIn fs hi) : hoIn (tWrite fs e g t s).2 hi := by
  unfold tWrite
  split
  · split
    · exact h
    · split
      · exact h
      · rename_i x hx
        split
        · exact h
        · exact hoIn_set h (show 0 ≤ x.ho ∧ x.ho ≤ hi from hoIn_at h hx)
  · exact h
theorem tHold_ho {fs : List Fr} {e g hi : Int} (h : hoIn fs hi) : hoIn (tHold fs e g).2 (hi + 1) := by
  unfold tHold
  split
  · split
    · exact h.mono (by omega)
    · rename_i x hx
      have := hoIn_at h hx
      exact hoIn_set (h.mono (by omega)) ⟨by show 0 ≤ x.ho + 1; omega, by show x.ho + 1 ≤ hi + 1; omega⟩
  · exact h.mono (by omega)
theorem holdAll_ho {e : Int} : ∀ (l : List Pc) {fs : List Fr} {hi : Int}, hoIn fs hi → hoIn (holdAll fs e l) (hi + l.length)
  | [], fs, hi, h => by simpa [holdAll] using h
  | p :: l, fs, hi, h => by
    have := holdAll_ho (e := e) l (tHold_ho (e := e) (g := p.f) h)
    have h2 : hoIn (holdAll fs e (p :: l)) (hi + 1 + l.length) := by simpa [holdAll] using this
    exact h2.mono (by simp; omega)
theorem dWrite_ln (d : DkS) (e b : Int) (l : List UInt8) : (dWrite d e b l).2.ln.length ≤ d.ln.length + 1 := by
  unfold dWrite
  repeat' split
  all_goals simp
theorem dSyncE_ln (d : DkS) : (dSyncE d).2.ln.length ≤ d.ln.length := by
  unfold dSyncE dSync
  split <;> simp
theorem kFB_cnt {k : KS} {x : Kc} {m : Nat} (h : k.cnt m) : (kFB k x).k.cnt (m + 1) := by
  have hh : hoIn k.fs (16 * m) := h.ho
  have up : ∀ fs, hoIn fs (16 * m) → ({ k with fs := fs } : KS).cnt (m + 1) := fun fs hf => ⟨by have := h.ln; simp; omega, by have := h.nx; simp; omega, by have := h.c1; simp; omega, by have := h.c2; simp; omega, by have := h.co; simp; omega, by have := h.dn; simp; omega, h.fl, fun y hy => by have := hf y hy; omega⟩
  have ud : ∀ d : DkS, d.ln.length ≤ m + 1 → ({ k with d := d } : KS).cnt (m + 1) := fun d hd => ⟨by simpa using hd, by have := h.nx; simp; omega, by have := h.c1; simp; omega, by have := h.c2; simp; omega, by have := h.co; simp; omega, by have := h.dn; simp; omega, h.fl, fun y hy => by have := hh y hy; omega⟩
  unfold kFB
  split
  · exact up _ (tAlloc_ho hh)
  · split
    · exact up _ (tFree_ho hh (by omega))
    · split
      · exact up _ (tGive_ho hh)
      · split
        · exact up _ hh
        · split
          · exact up _ (tWrite_ho hh)
          · split
            · exact up _ hh
            · split
              · refine ud _ ?_
                have := h.ln
                have h9 := dWrite_ln k.d x.env x.a x.s
                omega
              · refine ud _ ?_
                have := h.ln
                have h9 := dSyncE_ln k.d
                omega
theorem kStep_cnt {k k' : KS} {x : Kc} {n e : Int} {l : List UInt8} {m : Nat} (hs : kStep k x n l e k') (h : k.cnt m) (hq : k.qo.length ≤ 16) : k'.cnt (m + 1) := by
  have hh : hoIn k.fs (16 * m) := h.ho
  have h1 : k.cnt (m + 1) := ⟨by have := h.ln; omega, by have := h.nx; omega, by have := h.c1; omega, by have := h.c2; omega, by have := h.co; omega, by have := h.dn; omega, h.fl, fun y hy => by have := hh y hy; omega⟩
  unfold kStep at hs
  split at hs
  · obtain ⟨_, _, _, rfl⟩ := hs
    exact h1
  · split at hs
    · have := kFB_cnt (x := x) h
      rw [hs] at this
      exact this
    · split at hs
      · rcases hs.1 with ⟨_, _, _, rfl⟩ | ⟨_, _, _, _, rfl⟩ | ⟨hl, _, _, _, y, _, _, _, rfl⟩
        · exact h1
        · exact h1
        · exact ⟨h1.ln, by have := h.nx; show k.nx + 1 ≤ _; omega, h1.c1, h1.c2, h1.co, h1.dn, by simp; omega, h1.ho⟩
      · split at hs
        · rcases hs.1 with ⟨_, _, rfl⟩ | ⟨i, _, _, rfl⟩
          · exact h1
          · exact ⟨h1.ln, h1.nx, h1.c1, h1.c2, h1.co, h1.dn, Nat.le_trans (List.length_eraseIdx_le _ _) h1.fl, h1.ho⟩
        · split at hs
          · rcases hs.1 with ⟨_, _, _, rfl⟩ | ⟨_, _, _, _, rfl⟩ | ⟨_, hc, _, _, y, _, _, rfl⟩
            · exact h1
            · exact h1
            · refine ⟨h1.ln, h1.nx, h1.c1, h1.c2, by have := h.co; simp; omega, h1.dn, h1.fl, ?_⟩
              have := holdAll_ho (e := x.env) x.l hh
              have hl := checkE_len hc
              intro y hy
              have := this y hy
              omega
          · split at hs
            · split at hs
              · rcases hs with ⟨_, _, _, _, rfl⟩ | ⟨y, q, hq1, _, _, _, rfl⟩
                · exact h1
                · exact ⟨h1.ln, h1.nx, by have := h.c1; rw [hq1] at this; simp at this ⊢; omega, h1.c2, h1.co, h1.dn, h1.fl, h1.ho⟩
              · rcases hs with ⟨_, _, _, _, rfl⟩ | ⟨y, q, hq1, _, _, _, rfl⟩
                · exact h1
                · exact ⟨h1.ln, h1.nx, h1.c1, by have := h.c2; rw [hq1] at this; simp at this ⊢; omega, h1.co, h1.dn, h1.fl, h1.ho⟩
            · obtain ⟨_, _, _, rfl⟩ := hs
              exact h1
end
/-! ### pantlerref09: New; and all calls together. -/
section
open Go.RowKit Go.Shelf
set_option linter.unusedVariables false
set_option linter.unusedSimpArgs false
set_option maxRecDepth 100000
/-- Owners, half-way. -/
def ownH (N i : Nat) : List Int := (own2 N).take i ++ List.replicate (N - i) 0
theorem own2_len (N : Nat) : (own2 N).length = N := by unfold own2; simp; omega
theorem own2_at {N i : Nat} (h : i < N) : (own2 N)[i]? = some (if i < N - N / 4 then 1 else 2) := by
  unfold own2
  by_cases h1 : i < N - N / 4
  · rw [if_pos h1, List.getElem?_append_left (by simpa using h1), List.getElem?_replicate, if_pos h1]
  · rw [if_neg h1, List.getElem?_append_right (by simp; omega), List.getElem?_replicate, if_pos (by simp; omega)]
theorem ownH_len {N i : Nat} (h : i ≤ N) : (ownH N i).length = N := by unfold ownH; rw [List.length_append, List.length_take, own2_len, List.length_replicate]; omega
theorem ownH_step {N i : Nat} (h : i < N) : (ownH N i).set i (if i < N - N / 4 then 1 else 2) = ownH N (i + 1) := by
  apply List.ext_getElem?
  intro j
  have h1 := own2_at h
  unfold ownH
  have l1 : ((own2 N).take i).length = i := by rw [List.length_take, own2_len]; omega
  have l2 : ((own2 N).take (i + 1)).length = i + 1 := by rw [List.length_take, own2_len]; omega
  rcases Nat.lt_trichotomy j i with hj | hj | hj
  · rw [List.getElem?_set_ne (by omega), List.getElem?_append_left (by omega), List.getElem?_append_left (by omega), List.getElem?_take, List.getElem?_take, if_pos hj, if_pos (by omega)]
  · subst hj
    rw [List.getElem?_set_self (by rw [List.length_append, l1, List.length_replicate]; omega), List.getElem?_append_left (by rw [l2]; omega), List.getElem?_take, if_pos (show j < j + 1 by omega), h1]
  · rw [List.getElem?_set_ne (by omega), List.getElem?_append_right (by omega), List.getElem?_append_right (by omega), l1, l2, List.getElem?_replicate, List.getElem?_replicate]
    by_cases h2 : j < N
    · rw [if_pos (by omega), if_pos (by omega)]
    · rw [if_neg (by omega), if_neg (by omega)]
theorem ownH_0 (N : Nat) : ownH N 0 = List.replicate N 0 := by simp [ownH]
theorem ownH_N (N : Nat) : ownH N N = own2 N := by unfold ownH; rw [List.take_of_length_le (by rw [own2_len]; omega)]; simp
section
variable {R : Ending → World → Prop} {w0 w : World} {B m : Nat} {q : QA} {k : KS}
/-- Half-way through New. -/
structure Nq (w W : World) (g bM bO bH bB bD pB pO N i F : Nat) : Prop where
  kp : Kp [] w W
  gg : Bk W g 67 [.pointer (some ⟨bM, 0, none⟩), .pointer (some ⟨bD, 0, none⟩), .slice none 0 0, .int .i64 0, .slice none 0 0, .slice none 0 0, .slice none 0 0, .slice none 0 0, .int .i64 0, .int .i64 0]
  t : RT W bM bO bH bB (List.replicate F fz)
  dd : ∃ cb co, Bk W bD 74 [.slice (some ⟨pB, 0, none⟩) N cb, .slice (some ⟨pO, 0, none⟩) N co, .slice none 0 0, .bool false, .int .i64 (-1)]
  b : Tw W pB 9 ((List.replicate N z256).map sV)
  o : Tw W pO 3 (ints (ownH N i))
  n1 : pO ≠ bO ∧ pO ≠ bH ∧ pB ≠ bB
  hB : w.heap.size ≤ g ∧ w.heap.size ≤ bM ∧ w.heap.size ≤ bO ∧ w.heap.size ≤ bH ∧ w.heap.size ≤ bB ∧ w.heap.size ≤ bD ∧ w.heap.size ≤ pB ∧ w.heap.size ≤ pO
set_option maxHeartbeats 4000000 in
theorem rknew_any (F N : Nat) (hF1 : 1 ≤ F) (hF2 : F ≤ 256) (hN1 : 4 ≤ N) (hN2 : N ≤ 512) (hw0 : Kp [] w0 w) (h : ∀ q w', Kp [] w w' → Qn w0 w.heap.size w' q (kz0 F N) → R (.returned (.pointer (some ⟨q.g, 0, none⟩))) w') :
    Calls Tryz.prog 8 #[.int .i64 F, .int .i64 N] w R := by
  have H := Lib.hid h
  have HT : Hid (∀ (R : Ending → World → Prop) (w : World), (∀ bM bO bH bB w', w.heap.size ≤ bM → w.heap.size ≤ bO → w.heap.size ≤ bH → w.heap.size ≤ bB → Kp [] w w' → RT w' bM bO bH bB (List.replicate F fz) → R (.returned (.pointer (some ⟨bM, 0, none⟩))) w') → Calls Tryz.prog 45 #[.int .i64 F] w R) := Lib.hid (fun R w h => rnew_any F hF1 hF2 h)
  have HD : Hid (∀ (R : Ending → World → Prop) (w : World), (∀ bD bB bO w', w.heap.size ≤ bD → w.heap.size ≤ bB → w.heap.size ≤ bO → bB ≠ bO → Kp [] w w' → Dm w' bD bB bO none 0 (dz N) → R (.returned (.pointer (some ⟨bD, 0, none⟩))) w') → Calls Tryz.prog 46 #[.int .i64 N] w R) := Lib.hid (fun R w h => mnew_any N hN2 (fun bD bB bO w' h1 h2 h3 h4 h5 h6 => h bD bB bO w' h1 h2 h3 h4 h5 (h6.resolve_left (by omega))))
  obtain ⟨p, hp⟩ : ∃ p, N - N / 4 = p := ⟨_, rfl⟩
  have hqd : (N : Int).tdiv 4 = ((N / 4 : Nat) : Int) := by rw [Int.tdiv_eq_ediv_of_nonneg (by omega)]; omega
  obtain ⟨r, hr⟩ : ∃ r, N / 4 = r := ⟨_, rfl⟩
  rw [hr] at hqd hp
  have hpd : (N : Int) - (r : Int) = (p : Int) := by omega
  have hwp : IntKind.i64.wrap (p : Int) = (p : Int) := wrapV (by omega) (by omega)
  have HW0 := Lib.hid hw0
  have HP : Hid (N - N / 4 = p) := Lib.hid (by rw [hr]; exact hp)
  clear h hw0 hr
  go_enter Tryz.func8, Tryz.ntmps8
  go_upto_region 2 with (first | (go_at_call 45; ((refine HT.out _ _ ?_); intro bM bO bH bB w1 t1 t2 t3 t4 k1 ht)) | (go_at_call 46; ((refine HD.out _ _ ?_); intro bD pB pO w2 e1 e2 e3 e4 k2 hd)))
  have hkk := (k1.trans k2).alloc (.cells #[.pointer (some ⟨bM, 0, none⟩), .pointer (some ⟨bD, 0, none⟩), .slice none 0 0, .int .i64 0, .slice none 0 0, .slice none 0 0, .slice none 0 0, .slice none 0 0, .int .i64 0, .int .i64 0] 67)
  have kB := (Kp.refl [] w2).alloc (.cells #[.pointer (some ⟨bM, 0, none⟩), .pointer (some ⟨bD, 0, none⟩), .slice none 0 0, .int .i64 0, .slice none 0 0, .slice none 0 0, .slice none 0 0, .slice none 0 0, .int .i64 0, .int .i64 0] 67)
  have z1 := k1.size
  have z2 := k2.size
  have l1 := ht.o.lt
  have l2 := ht.h.lt
  have l3 := ht.b.lt
  have hww : w.heap.size ≤ w2.heap.size := Nat.le_trans z1 z2
  refine genV (fun W => ∃ g, w2.heap.size = g ∧ Hid (Nq w W g bM bO bH bB bD pB pO N 0 F)) ⟨_, rfl, Lib.hid ⟨hkk, Bk.newAt rfl _ _, (ht.kp k2 (by simp) (by simp) (by simp) (by simp)).kp kB (by simp) (by simp) (by simp) (by simp), ?_, (hd.b.kp kB (by simp)).cast (by simp [dz]), (hd.o.kp kB (by simp)).cast (by rw [ownH_0]; rfl), ⟨fun e => by omega, fun e => by omega, fun e => by omega⟩, ⟨hww, t1, t2, t3, t4, Nat.le_trans z1 e1, Nat.le_trans z1 e2, Nat.le_trans z1 e3⟩⟩⟩ ?_
  · obtain ⟨cb, co, hb⟩ := hd.dd
    exact ⟨cb, co, (hb.kp kB (by simp)).cast (by simp [dz, leftM])⟩
  rintro W ⟨g, hg, hN⟩
  rw [hg]
  clear hkk kB z1 z2 l1 l2 l3 ht hd k1 k2 hg HT HD t1 t2 t3 t4 e1 e2 e3 e4
  go_wp2
  go_loopw [6] (fun iv wr => ∃ i : Nat, i ≤ N ∧ iv = .int .i64 i ∧ Hid (Nq w wr g bM bO bH bB bD pB pO N i F)) (fun iv _ => N - (intOf iv).toNat)
  case atStart => exact ⟨0, Nat.zero_le _, rfl, hN⟩
  case round =>
    obtain ⟨i, hi, rfl, hI⟩ := hrel
    clear hN
    by_cases hlt : i < N
    · obtain ⟨cb, co, hdd⟩ := hI.out.dd
      have c1 : wr.cell? ⟨g, 1, none⟩ = some (.pointer (some ⟨bD, 0, none⟩)) := hI.out.gg.cell 1
      have c2 : wr.cell? ⟨bD, 1, none⟩ = some (.slice (some ⟨pO, 0, none⟩) N co) := hdd.cell 1
      have hil : i < (ownH N i).length := by rw [ownH_len hi]; exact hlt
      have c3 : wr.cell? ⟨pO, i, none⟩ = some (.int .i64 ((ownH N i)[i]'hil)) := hI.out.o.cell (ints_at (List.getElem?_eq_getElem hil))
      obtain ⟨v, hv⟩ : ∃ v, (ownH N i)[i]'hil = v := ⟨_, rfl⟩
      rw [hv] at c3
      have z3 := hI.out.o.frozen i
      have l3 := hI.out.o.lt
      have n1 : g ≠ pO := (hI.out.o.ne_bk hI.out.gg (by decide)).symm
      have n2 : bD ≠ pO := (hI.out.o.ne_bk hdd (by decide)).symm
      have n3 : bM ≠ pO := by obtain ⟨x0, x1, x2, hx⟩ := hI.out.t.t; exact (hI.out.o.ne_bk hx (by decide)).symm
      have n4 : bB ≠ pO := (hI.out.o.ne_ hI.out.t.b (by decide)).symm
      have n5 : pB ≠ pO := (hI.out.o.ne_ hI.out.b (by decide)).symm
      have HST : Hid (∀ W' : World, ∀ v : Int, Kp [pO] wr W' → Tw W' pO 3 ((ints (ownH N i)).set i (.int .i64 v)) → v = (if i < N - N / 4 then 1 else 2) → Nq w W' g bM bO bH bB bD pB pO N (i + 1) F) := Lib.hid (fun W' v kc ho hv => by
        have hn := hI.out.n1
        refine ⟨hI.out.kp.thn kc (fun s hs => .inr (by simp at hs; subst hs; exact hI.out.hB.2.2.2.2.2.2.2)), hI.out.gg.kp kc (by simpa using n1), hI.out.t.kp kc (by simpa using n3) (by simpa using hn.1.symm) (by simpa using hn.2.1.symm) (by simpa using n4), ⟨cb, co, hdd.kp kc (by simpa using n2)⟩, hI.out.b.kp kc (by simpa using n5), ho.cast ?_, hn, hI.out.hB⟩
        rw [← ownH_step hlt, hv]
        simp [ints])
      have HO := Lib.hid hI.out.o
      have hln : i < (ints (ownH N i)).length := by simpa [ints] using hil
      clear hI hv hdd
      by_cases hlp : p ≤ i
      · have g1 : decide ((p : Int) ≤ (i : Int)) = true := by simp; omega
        have g2 : decide (p ≤ i) = true := by simpa using hlp
        have HV : Hid ((2 : Int) = (if i < N - N / 4 then 1 else 2)) := Lib.hid (by rw [HP.out, if_neg (by omega)])
        go_wp2
        exact ⟨⟨i + 1, by omega, by go_num, Lib.hid (HST.out _ 2 (((Kp.refl [pO] wr).setCell (p := ⟨pO, i, none⟩) (.inl (by simp)) _).setCell (p := ⟨pO, i, none⟩) (.inl (by simp)) _) (by
          have h1 := (HO.out.set_ hln (.int .i64 1)).set_ (i := i) (by rw [List.length_set]; exact hln) (.int .i64 2)
          rwa [List.set_set] at h1) HV.out)⟩, by simp [intOf]; omega⟩
      · have g1 : decide ((p : Int) ≤ (i : Int)) = false := by simp; omega
        have g2 : decide (p ≤ i) = false := by simpa using hlp
        have HV : Hid ((1 : Int) = (if i < N - N / 4 then 1 else 2)) := Lib.hid (by rw [HP.out, if_pos (by omega)])
        go_wp2
        exact ⟨⟨i + 1, by omega, by go_num, Lib.hid (HST.out _ 1 ((Kp.refl [pO] wr).setCell (p := ⟨pO, i, none⟩) (.inl (by simp)) _) (HO.out.set_ hln (.int .i64 1)) HV.out)⟩, by simp [intOf]; omega⟩
    · obtain rfl : i = N := by omega
      have HI := Lib.hid hI.out
      clear hI
      go_wp2
      obtain ⟨cb, co, hdd⟩ := HI.out.dd
      obtain ⟨b1, b2, b3, b4, b5, b6, b7, b8⟩ := HI.out.hB
      have hok : ({ dz i with ow := own2 i } : DkS).ok := by
        have := dz_ok hN2
        exact ⟨this.n1, by rw [own2_len]; simp [dz], this.pg, this.ln, this.lf, this.ar⟩
      refine H.out ⟨g, bM, bO, bH, bB, bD, pB, pO, none, 0, none, 0, none, 0, none, 0, none, 0⟩ _ HI.out.kp ⟨HW0.out.trans HI.out.kp, HW0.out.size, HI.out.gg, HI.out.t, ⟨⟨cb, co, hdd.cast (by simp [dz, kz0, leftM])⟩, HI.out.b, HI.out.o.cast (by rw [ownH_N]; rfl), Nb.nil, (by obtain ⟨y1, y2⟩ := HI.out.b; exact hdd.ne_ y2 (by decide)), hok⟩, ⟨[], rfl, Nb.nil, by simp⟩, Nb.nil, Nb.nil, ⟨[], rfl, Nb.nil, by simp⟩, ?_, b2, ⟨b8, HI.out.n1⟩, ⟨Nat.le_refl _, Nat.le_refl _, Nat.le_refl _, Nat.le_refl _⟩⟩
      intro s hs
      simp only [QA.own, List.mem_cons, List.not_mem_nil, or_false] at hs
      rcases hs with rfl | rfl | rfl | rfl | rfl | rfl <;> assumption
end
end
end Go.Proofs.YtedblbpmlbjnhaaGreat
