/- The walks of a ring of bytes. -/
import Derived.Test.YthlmfjfkkndboaaKa
import Derived.Test.YthlmfjfkkndboaaQuiet
import Derived.BigQuiet
namespace Go.Proofs.Ythlmfjfkkndboaa
open Go.RowKit Go.Shelf
set_option linter.unusedVariables false
set_option linter.unusedSimpArgs false
set_option maxRecDepth 100000

/-- Bytes in memory. -/
structure Sl where
  A : Option Addr
  n : Nat
  c : Nat
  l : List UInt8
def Sl.v (x : Sl) : Value := .slice x.A x.n x.c
structure Rb (w : World) (s r f : Nat) (q : List Sl) : Prop where
  hs : Bk w s 160 [.slice (some ⟨r, 0, none⟩) 16 16, .int .i64 f, .int .i64 (f + q.length : Nat)]
  hr : ∃ cs, Bk w r 44 cs ∧ cs.length = 16 ∧ ∀ i x, q[i]? = some x → cs[(f + i) % 16]? = some x.v
  room : q.length ≤ 16
  data : ∀ x ∈ q, x.l.length = x.n ∧ x.n ≤ 1024 ∧ Tb w 5 x.A (bts x.l)
section
variable {R : Ending → World → Prop} {w : World} {s r f : Nat} {q : List Sl}
theorem Rb.off {w' : World} {S : List Nat} (h : Rb w s r f q) (hk : Kp S w w') (h1 : s ∉ S) (h2 : r ∉ S) (h3 : Off w S 5) : Rb w' s r f q :=
  ⟨h.hs.kp hk h1, by obtain ⟨cs, a, b, c⟩ := h.hr; exact ⟨cs, a.kp hk h2, b, c⟩, h.room, fun x hx => ⟨(h.data x hx).1, (h.data x hx).2.1, (h.data x hx).2.2.kp hk h3⟩⟩
theorem rb_s0 {f : Nat} {m : Nat} (h : Bk w s 160 [.slice (some ⟨r, 0, none⟩) 16 16, .int .i64 f, .int .i64 m]) : w.cell? ⟨s, 0, none⟩ = some (.slice (some ⟨r, 0, none⟩) 16 16) ∧ w.cell? ⟨s, 1, none⟩ = some (.int .i64 f) ∧ w.cell? ⟨s, 2, none⟩ = some (.int .i64 m) :=
  ⟨h.cell 0, h.cell 1, h.cell 2⟩
set_option maxHeartbeats 1000000 in
theorem place_any (t : Nat) (ht : t ≤ 1000000) (c0 : w.cell? ⟨s, 0, none⟩ = some (.slice (some ⟨r, 0, none⟩) 16 16)) (h : ∀ w', Kp [] w w' → R (.returned (.pointer (some ⟨r, t % 16, none⟩))) w') :
    Calls Try.prog 110 #[.pointer (some ⟨s, 0, none⟩), .int .i64 t] w R := by
  have H := Lib.hid h
  have hm : (t : Int).tmod 16 = ((t % 16 : Nat) : Int) := by rw [Int.tmod_eq_emod_of_nonneg (by omega)]; omega
  have hl : t % 16 < 16 := Nat.mod_lt _ (by omega)
  clear h
  go_enter Try.func110, Try.ntmps110
  go_wp2
  go_quiet (fail)
  go_wp2
  exact H.out _ (by repeat (first | with_reducible exact Kp.refl _ _ | with_reducible refine Kp.drewN ?_ _ | with_reducible refine Kp.drew ?_))
/-- What is not in the ring, or is. -/
theorem rat_no {f m : Nat} (hb : Bk w s 160 [.slice (some ⟨r, 0, none⟩) 16 16, .int .i64 f, .int .i64 (f + m : Nat)]) (h0 : m = 0) (hm : f ≤ 1000000) (h : R (.returned (.tuple #[.slice none 0 0, .int .i64 11])) w) :
    Calls Try.prog 109 #[.pointer (some ⟨s, 0, none⟩), .int .i64 f] w R := by
  subst h0
  obtain ⟨h0, h1, h2⟩ := rb_s0 hb
  simp only [Nat.add_zero] at h2
  clear hb
  go_enter Try.func109, Try.ntmps109
  go_wp2
  exact h
set_option maxHeartbeats 1000000 in
theorem rat_yes {q : List Sl} {x : Sl} (hq : Rb w s r f (x :: q)) (hm : f ≤ 1000000) (h : ∀ w', Kp [] w w' → R (.returned (.tuple #[x.v, .int .i64 0])) w') :
    Calls Try.prog 109 #[.pointer (some ⟨s, 0, none⟩), .int .i64 f] w R := by
  have H := Lib.hid h
  obtain ⟨h0, h1, h2⟩ := rb_s0 hq.hs
  obtain ⟨cs, hcs, hcl, hc⟩ := hq.hr
  have e := hc 0 x rfl
  rw [Nat.add_zero] at e
  have HC : Hid (∀ w', Kp [] w w' → w'.cell? ⟨r, f % 16, none⟩ = some x.v) := Lib.hid (fun w' k' => by rw [(hcs.kp k' (by simp)).cell]; exact e)
  have hlt : (f : Int) < (f + (x :: q).length : Nat) := by simp; omega
  have HHS := Lib.hid hq.hs
  clear h hq hcs hc e
  go_enter Try.func109, Try.ntmps109
  go_wp2_with (go_at_call 110; ((refine place_any f hm h0 ?_); intro w1 k1; have hx := HC.out w1 k1))
  exact H.out _ k1
theorem Rb.put {W W' : World} {q : List Sl} {x : Sl} (h : Rb W s r f q) (hne : s ≠ r) (hx : x.l.length = x.n ∧ x.n ≤ 1024 ∧ Tb W 5 x.A (bts x.l)) (hr : q.length < 16) (e : W' = (W.setCell ⟨r, (f + q.length) % 16, none⟩ x.v).setCell ⟨s, 2, none⟩ (.int .i64 ((f + q.length : Nat) + 1))) :
    Kp [s, r] W W' ∧ Rb W' s r f (q ++ [x]) := by
  obtain ⟨cs, hcs, hcl, hc⟩ := h.hr
  have k1 : Kp [s, r] W W' := by
    subst e
    exact ((Kp.refl _ _).setCell (p := ⟨r, (f + q.length) % 16, none⟩) (.inl (by simp)) _).setCell (p := ⟨s, 2, none⟩) (.inl (by simp)) _
  have o8 : Off W [s, r] 5 := Off.app (S := [s]) (S' := [r]) (Off.one h.hs.ty (by decide)) (Off.one hcs.ty (by decide))
  refine ⟨k1, ?_, ⟨cs.set ((f + q.length) % 16) x.v, ?_, by simpa using hcl, ?_⟩, by simp; omega, ?_⟩
  · subst e
    exact ((h.hs.far (p := ⟨r, (f + q.length) % 16, none⟩) hne x.v).set_ 2 _).cast (by simp; omega)
  · subst e
    exact (hcs.set_ _ x.v).far (p := ⟨s, 2, none⟩) hne.symm _
  · intro i y hy
    rcases Nat.lt_or_ge i q.length with hi | hi
    · rw [List.getElem?_append_left hi] at hy
      rw [List.getElem?_set_ne (by omega)]
      exact hc i y hy
    · rw [List.getElem?_append_right hi] at hy
      have hi2 : i = q.length := by
        rcases Nat.eq_zero_or_pos (i - q.length) with h | h
        · omega
        · rw [List.getElem?_eq_none (by simp; omega)] at hy; cases hy
      subst hi2
      simp at hy
      subst hy
      rw [List.getElem?_set_self (by rw [hcl]; exact Nat.mod_lt _ (by omega))]
  · intro y hy
    rcases List.mem_append.1 hy with hy | hy
    · obtain ⟨a, b, c⟩ := h.data y hy
      exact ⟨a, b, c.kp k1 o8⟩
    · simp at hy; subst hy
      exact ⟨hx.1, hx.2.1, hx.2.2.kp k1 o8⟩
theorem Rb.take {W W' : World} {q : List Sl} {x : Sl} (h : Rb W s r f (x :: q)) (hne : s ≠ r) (e : W' = (W.setCell ⟨r, f % 16, none⟩ (.slice none 0 0)).setCell ⟨s, 1, none⟩ (.int .i64 ((f : Int) + 1))) :
    Kp [s, r] W W' ∧ Rb W' s r (f + 1) q := by
  obtain ⟨cs, hcs, hcl, hc⟩ := h.hr
  have hroom := h.room
  simp only [List.length_cons] at hroom
  have k1 : Kp [s, r] W W' := by
    subst e
    exact ((Kp.refl _ _).setCell (p := ⟨r, f % 16, none⟩) (.inl (by simp)) _).setCell (p := ⟨s, 1, none⟩) (.inl (by simp)) _
  have o8 : Off W [s, r] 5 := Off.app (S := [s]) (S' := [r]) (Off.one h.hs.ty (by decide)) (Off.one hcs.ty (by decide))
  refine ⟨k1, ?_, ⟨cs.set (f % 16) (.slice none 0 0), ?_, by simpa using hcl, ?_⟩, by omega, ?_⟩
  · subst e
    exact ((h.hs.far (p := ⟨r, f % 16, none⟩) hne (.slice none 0 0)).set_ 1 _).cast (by simp; omega)
  · subst e
    exact (hcs.set_ _ (.slice none 0 0)).far (p := ⟨s, 1, none⟩) hne.symm _
  · intro i y hy
    have hi : i < q.length := (List.getElem?_eq_some_iff.1 hy).1
    rw [List.getElem?_set_ne (by omega)]
    have := hc (i + 1) y (by simpa using hy)
    rwa [show f + (i + 1) = f + 1 + i by omega] at this
  · intro y hy
    obtain ⟨a, b, c⟩ := h.data y (by simp [hy])
    exact ⟨a, b, c.kp k1 o8⟩
set_option maxHeartbeats 2000000 in
theorem rtake_any {q : List Sl} (hq : Rb w s r f q) (hne : s ≠ r) (hm : f ≤ 1000000)
    (h1 : q = [] → ∀ w', Kp [] w w' → R (.returned (.tuple #[.slice none 0 0, .int .i64 11])) w')
    (h2 : ∀ x q', Hid (q = x :: q') → ∀ w', Kp [s, r] w w' → Rb w' s r (f + 1) q' → Tb w' 5 x.A (bts x.l) → R (.returned (.tuple #[x.v, .int .i64 0])) w') :
    Calls Try.prog 82 #[.pointer (some ⟨s, 0, none⟩)] w R := by
  have H1 := Lib.hid h1
  have H2 := Lib.hid h2
  have HQ := Lib.hid hq
  clear h1 h2
  obtain ⟨a0, a1, a2⟩ := rb_s0 hq.hs
  clear hq
  cases q with
  | nil =>
    have HH := H1.out rfl w (Kp.refl _ _)
    clear H1 H2
    go_enter Try.func82, Try.ntmps82
    go_wp2_with (go_at_call 109; refine rat_no HQ.out.hs rfl hm ?_)
    exact HH
  | cons x q =>
    have HH := Lib.hid (H2.out x q rfl)
    clear H1 H2
    go_enter Try.func82, Try.ntmps82
    go_wp2_with (first | (go_at_call 109; ((refine rat_yes HQ.out hm ?_); intro w1 k1; have hq1 := HQ.out.off k1 (by simp) (by simp) (Off.nil _ _); obtain ⟨b0, b1, b2⟩ := rb_s0 hq1.hs; have HQ1 := Lib.hid hq1; clear hq1)) | (go_at_call 110; ((refine place_any f hm b0 ?_); intro w2 k2; have hq2 := HQ1.out.off k2 (by simp) (by simp) (Off.nil _ _); obtain ⟨d0, d1, d2⟩ := rb_s0 hq2.hs; have f1 := hq2.hs.frozen 1; obtain ⟨cs, hcs, hcl, hc⟩ := hq2.hr; obtain ⟨u0, g0⟩ : ∃ u, _ = some u := ⟨_, (hcs.cell (f % 16)).trans (List.getElem?_eq_getElem (by rw [hcl]; exact Nat.mod_lt _ (by omega)))⟩; have g1 := hcs.frozen (f % 16); have HQ2 := Lib.hid hq2; clear hcs hc hcl hq2)))
    obtain ⟨k9, r9⟩ := HQ2.out.take hne rfl
    have o8 : Off w [s, r] 5 := by obtain ⟨cs, hcs, _⟩ := HQ.out.hr; exact Off.app (S := [s]) (S' := [r]) (Off.one HQ.out.hs.ty (by decide)) (Off.one hcs.ty (by decide))
    have kk := (((k1.trans k2).mono (by simp)).trans k9)
    exact HH.out _ kk r9 ((HQ.out.data x (by simp)).2.2.kp kk o8)
end
end Go.Proofs.Ythlmfjfkkndboaa
