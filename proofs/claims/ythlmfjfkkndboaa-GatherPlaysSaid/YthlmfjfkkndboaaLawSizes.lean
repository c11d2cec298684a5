/- pantlerlaw08: alive, GatherSizes. -/
import Derived.Test.YthlmfjfkkndboaaGather
namespace Go.Proofs.Ythlmfjfkkndboaa
open Go.RowKit
set_option linter.unusedVariables false
set_option linter.unusedSimpArgs false
set_option maxRecDepth 100000

/-! ### sizes of cuts -/
def psum (l : List Pc) : Int := (l.map (·.n)).sum
theorem psum_nn {l : List Pc} (h : ∀ p ∈ l, 0 ≤ p.n) : 0 ≤ psum l := by
  induction l with
  | nil => simp [psum]
  | cons p l ih =>
    have h1 := h p (by simp)
    have h2 := ih fun q hq => h q (by simp [hq])
    simp only [psum, List.map_cons, List.sum_cons] at *
    omega
theorem psum_cons (p : Pc) (l : List Pc) : psum (p :: l) = p.n + psum l := by simp [psum]
theorem psum_append (a b : List Pc) : psum (a ++ b) = psum a + psum b := by simp [psum]
theorem psz_sum {l : List Pc} (h : ∀ p ∈ l, 0 ≤ p.n) : ∀ {n : Int}, 0 ≤ n → n + psum l ≤ 1048576 → l.foldl pszF n = n + psum l := by
  induction l with
  | nil => intro n _ _; simp [psum]
  | cons p l ih =>
    intro n h0 h1
    have hp := h p (by simp)
    have hl := psum_nn (l := l) fun q hq => h q (by simp [hq])
    rw [psum_cons] at h1 ⊢
    have e : pszF n p = n + p.n := by unfold pszF; split <;> omega
    rw [List.foldl_cons, e, ih (fun q hq => h q (by simp [hq])) (by omega) (by omega)]
    omega
theorem psum_le {l : List Pc} {K : Int} (h : ∀ p ∈ l, p.n ≤ K) : psum l ≤ K * l.length := by
  induction l with
  | nil => simp [psum]
  | cons p l ih =>
    have h1 := h p (by simp)
    have h2 := ih fun q hq => h q (by simp [hq])
    rw [psum_cons, List.length_cons, Int.natCast_succ, Int.mul_add, Int.mul_one]
    omega
/-- What a fold over the pieces leaves. -/
theorem cfold_sum {l : List Pc} (h : ∀ p ∈ l, 0 ≤ p.n) : ∀ {f m : Int} {out : List Pc}, 0 ≤ f → 0 ≤ m → f + m ≤ psum l → (∀ p ∈ out, 0 ≤ p.n) →
    psum (l.foldl cstep (f, m, out)).2.2 = psum out + m ∧ ∀ p ∈ (l.foldl cstep (f, m, out)).2.2, 0 ≤ p.n := by
  induction l with
  | nil => intro f m out h0 h1 h2 h3; simp [psum] at h2; refine ⟨?_, h3⟩; simp; omega
  | cons p l ih =>
    intro f m out h0 h1 h2 h3
    have hp := h p (by simp)
    have hl := psum_nn (l := l) fun q hq => h q (by simp [hq])
    rw [psum_cons] at h2
    rw [List.foldl_cons]
    simp only [cstep]
    split
    · rename_i ht
      obtain ⟨r1, r2⟩ := ih (fun q hq => h q (by simp [hq])) (f := f - min f p.n) (m := m - min m (p.n - min f p.n)) (out := out ++ [⟨p.f, p.o + min f p.n, min m (p.n - min f p.n)⟩]) (by omega) (by omega) (by omega)
        (fun q hq => by simp at hq; rcases hq with hq | rfl; exact h3 q hq; simp only; omega)
      refine ⟨?_, r2⟩
      rw [r1, psum_append]
      simp [psum]
      omega
    · rename_i ht
      obtain ⟨r1, r2⟩ := ih (fun q hq => h q (by simp [hq])) (f := f - min f p.n) (m := m - min m (p.n - min f p.n)) (out := out) (by omega) (by omega) (by omega) h3
      exact ⟨by rw [r1]; omega, r2⟩
/-- A piece of a piece. -/
def Sub (p q : Pc) : Prop := q.f = p.f ∧ 0 ≤ p.f ∧ p.f ≤ 256 ∧ p.o ≤ q.o ∧ q.o + q.n ≤ p.o + p.n ∧ 0 < q.n ∧ 0 ≤ p.o ∧ p.o + p.n ≤ 256
theorem Sub.ok {p q : Pc} (h : Sub p q) : q.ok := by
  obtain ⟨h1, h2, h3, h4, h5, h6, h7, h8⟩ := h
  unfold Pc.ok; omega
theorem cfold_ok {l : List Pc} (h : l.any cbad = false) : ∀ {f m : Int} {out : List Pc}, 0 ≤ f → 0 ≤ m →
    (∀ q ∈ (l.foldl cstep (f, m, out)).2.2, q ∈ out ∨ ∃ p ∈ l, Sub p q) ∧ (l.foldl cstep (f, m, out)).2.2.length ≤ out.length + l.length := by
  induction l with
  | nil => intro f m out _ _; exact ⟨fun q hq => .inl hq, by simp⟩
  | cons p l ih =>
    intro f m out h0 h1
    simp only [List.any_cons, Bool.or_eq_false_iff] at h
    have hp := h.1
    simp [cbad] at hp
    have hw := wB_bd hp.2
    rw [List.foldl_cons]
    simp only [cstep]
    split
    · rename_i ht
      obtain ⟨r1, r2⟩ := ih h.2 (f := f - min f p.n) (m := m - min m (p.n - min f p.n)) (out := out ++ [⟨p.f, p.o + min f p.n, min m (p.n - min f p.n)⟩]) (by omega) (by omega)
      refine ⟨fun q hq => ?_, by simp at r2 ⊢; omega⟩
      rcases r1 q hq with hq | ⟨p', hp', hs⟩
      · rw [List.mem_append, List.mem_singleton] at hq
        rcases hq with hq | rfl
        · exact .inl hq
        · exact .inr ⟨p, by simp, rfl, by omega, by omega, by simp only; omega, by simp only; omega, ht, by omega, by omega⟩
      · exact .inr ⟨p', by simp [hp'], hs⟩
    · obtain ⟨r1, r2⟩ := ih h.2 (f := f - min f p.n) (m := m - min m (p.n - min f p.n)) (out := out) (by omega) (by omega)
      refine ⟨fun q hq => ?_, by simp at r2 ⊢; omega⟩
      rcases r1 q hq with hq | ⟨p', hp', hs⟩
      · exact .inl hq
      · exact .inr ⟨p', by simp [hp'], hs⟩
theorem cut_ok {l o : List Pc} {f m : Int} (h : cutF l f m = (0, o)) : (∀ q ∈ o, q.ok) ∧ o.length ≤ l.length := by
  unfold cutF at h
  split at h
  · simp at h
  · rename_i hc
    simp only [cutE, Bool.or_eq_true, decide_eq_true_eq, not_or] at hc
    obtain ⟨hb, hc⟩ := hc
    simp only [Prod.mk.injEq, true_and] at h
    subst h
    obtain ⟨r1, r2⟩ := cfold_ok (l := l) (by simpa using hb) (f := f) (m := m) (out := []) (by omega) (by omega)
    exact ⟨fun q hq => (r1 q hq).elim (fun h => by cases h) (fun ⟨p, _, hs⟩ => hs.ok), by simpa [cfold] using r2⟩
/-- The three cuts of a list that may be cut. -/
theorem cuts_good {l : List Pc} (hl : l.length ≤ 100) (hb : l.any cbad = false) {f m : Int} (h0 : 0 ≤ f) (h1 : 0 ≤ m) (h2 : f + m ≤ psz l) :
    ∃ o, cutF l f m = (0, o) ∧ psz o = m ∧ (m = 0 → o = []) := by
  have hw : ∀ p ∈ l, 0 ≤ p.n ∧ p.n ≤ 256 := by
    intro p hp
    have := List.any_eq_false.1 hb p hp
    simp [cbad] at this
    have := wB_bd this.2
    omega
  have hs0 := psum_nn fun p hp => (hw p hp).1
  have hs1 := psum_le (K := 256) fun p hp => (hw p hp).2
  have e : psz l = psum l := by
    have := psz_sum (fun p hp => (hw p hp).1) (n := 0) (by omega) (by omega)
    unfold psz; omega
  rw [e] at h2
  obtain ⟨r1, r2⟩ := cfold_sum (fun p hp => (hw p hp).1) (out := []) h0 h1 h2 (by simp)
  refine ⟨_, by simp [cutF, cutE, hb]; rw [e]; rw [if_neg (by omega)], ?_, ?_⟩
  · have := psz_sum r2 (n := 0) (by omega) (by rw [r1]; simp [psum]; omega)
    unfold psz cfold
    rw [this, r1]; simp [psum]
  · intro hm
    subst hm
    exact cfold_rest (fun p hp => (hw p hp).1) h0 rfl
theorem cuts_bad {l : List Pc} (hb : l.any cbad = true) (f m : Int) : cutF l f m = (1, []) := by simp [cutF, cutE, hb]

section
variable {R : Ending → World → Prop} {w : World}
theorem cut_is {N : List Nat} {A : Option Addr} {n c : Nat} {l o : List Pc} {e : Int} (hr : Rd w N A (l.flatMap Pc.vals)) (hl : l.length = n) (hn : n ≤ 1000000) (hok : ∀ p ∈ l, p.ok) (fr nn : Int) (hfr : -1000000000 ≤ fr ∧ fr ≤ 1000000000) (hnn : -1000000000 ≤ nn ∧ nn ≤ 1000000000)
    (hq : cutF l fr nn = (e, o)) (h : ∀ A' c' w', Kp [] w w' → Ow w' 98 3 A' o.length c' (o.flatMap Pc.vals) → (∀ b ∈ bks A', w.heap.size ≤ b) → R (.returned (.tuple #[.slice A' o.length c', .int .i64 e])) w') :
    Calls Try.prog 46 #[.slice A n c, .int .i64 fr, .int .i64 nn] w R :=
  cut_any hr hl hn hok fr nn hfr hnn fun e' o' A' c' w' q k ow b => by
    have := q.out.symm.trans hq
    simp only [Prod.mk.injEq] at this
    obtain ⟨rfl, rfl⟩ := this
    exact h A' c' w' k ow b

set_option maxHeartbeats 400000 in
theorem alive08 (h : ∀ w', Kp [] w w' → R (.returned (.bool true)) w') : Calls Try.prog 8 #[] w R := by
  have H := Lib.hid h
  clear h
  go_enter Try.func8, Try.ntmps8
  go_wp2_with fail
  refine cut_is (N := []) (l := [⟨3, 10, 20⟩]) (Rd.of_bk (Bk.newAt rfl _ _) (by simp)) (n := 1) rfl (by omega) (by simp [Pc.ok]) 5 4 (by omega) (by omega) (e := 0) (o := [⟨3, 15, 4⟩]) (by rfl) (fun A1 c1 w1 k1 o1 b1 => ?_)
  obtain ⟨g, rfl, hg⟩ := o1.form (by simp)
  obtain ⟨b, o, e, _, _, hc⟩ := o1.rd (N := []) (by simp) (by simp [Pc.vals])
  cases e
  have c0 := hc 0 _ rfl
  have c1' := hc 1 _ rfl
  have c2 := hc 2 _ rfl
  clear hc
  simp only [Nat.zero_add] at c0 c1' c2
  go_wp2_with fail
  refine cut_is (N := []) (l := []) Rd.nil (n := 0) rfl (by omega) (by simp) 0 1 (by omega) (by omega) (e := 1) (o := []) (by rfl) (fun A2 c2' w2 k2 o2 b2 => ?_)
  have hgs : g ∉ ([] : List Nat) := by simp
  have d0 := (k2.cell (p := ⟨g, 0, none⟩) hg hgs).trans c0
  have d1 := (k2.cell (p := ⟨g, 1, none⟩) hg hgs).trans c1'
  have d2 := (k2.cell (p := ⟨g, 2, none⟩) hg hgs).trans c2
  clear c0 c1' c2
  go_wp2_with fail
  exact H.out w2 (((Kp.refl [] w).alloc _).trans k1 |>.trans k2)

end
end Go.Proofs.Ythlmfjfkkndboaa
