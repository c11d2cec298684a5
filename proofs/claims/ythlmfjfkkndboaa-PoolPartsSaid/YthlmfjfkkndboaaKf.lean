/- The walks of a ring of transfers. -/
import Derived.Test.YthlmfjfkkndboaaKa
import Derived.Test.YthlmfjfkkndboaaGather
import Derived.Deep.RegionHeldLaw
import Derived.Test.YthlmfjfkkndboaaQuiet
import Derived.BigQuiet
namespace Go.Proofs.Ythlmfjfkkndboaa
open Go.RowKit Go.Shelf
set_option linter.unusedVariables false
set_option linter.unusedSimpArgs false
set_option maxRecDepth 100000

/-- A transfer in memory. -/
structure Tq where
  env : Int
  A : Option Addr
  n : Nat
  c : Nat
  l : List Pc
structure Rq (w : World) (s r f : Nat) (q : List Tq) : Prop where
  hs : Bk w s 163 [.slice (some ⟨r, 0, none⟩) 16 16, .int .i64 f, .int .i64 (f + q.length : Nat)]
  hr : ∃ cs, Bk w r 127 cs ∧ cs.length = 32 ∧ ∀ i x, q[i]? = some x → cs[(f + i) % 16 * 2]? = some (.int .i64 x.env) ∧ cs[(f + i) % 16 * 2 + 1]? = some (.slice x.A x.n x.c)
  room : q.length ≤ 16
  data : ∀ x ∈ q, x.l.length = x.n ∧ x.n ≤ 100 ∧ Tb w 98 x.A (x.l.flatMap Pc.vals)
section
variable {R : Ending → World → Prop} {w : World} {s r f : Nat} {q : List Tq}
theorem Rq.off {w' : World} {S : List Nat} (h : Rq w s r f q) (hk : Kp S w w') (h1 : s ∉ S) (h2 : r ∉ S) (h3 : Off w S 98) : Rq w' s r f q :=
  ⟨h.hs.kp hk h1, by obtain ⟨cs, a, b, c⟩ := h.hr; exact ⟨cs, a.kp hk h2, b, c⟩, h.room, fun x hx => ⟨(h.data x hx).1, (h.data x hx).2.1, (h.data x hx).2.2.kp hk h3⟩⟩
theorem rq_s0 {f : Nat} {m : Nat} (h : Bk w s 163 [.slice (some ⟨r, 0, none⟩) 16 16, .int .i64 f, .int .i64 m]) : w.cell? ⟨s, 0, none⟩ = some (.slice (some ⟨r, 0, none⟩) 16 16) ∧ w.cell? ⟨s, 1, none⟩ = some (.int .i64 f) ∧ w.cell? ⟨s, 2, none⟩ = some (.int .i64 m) :=
  ⟨h.cell 0, h.cell 1, h.cell 2⟩
set_option maxHeartbeats 1000000 in
theorem tplace_any (t : Nat) (ht : t ≤ 1000000) (c0 : w.cell? ⟨s, 0, none⟩ = some (.slice (some ⟨r, 0, none⟩) 16 16)) (h : ∀ w', Kp [] w w' → R (.returned (.pointer (some ⟨r, t % 16 * 2, none⟩))) w') :
    Calls Try.prog 121 #[.pointer (some ⟨s, 0, none⟩), .int .i64 t] w R := by
  have H := Lib.hid h
  have hm : (t : Int).tmod 16 = ((t % 16 : Nat) : Int) := by rw [Int.tmod_eq_emod_of_nonneg (by omega)]; omega
  have hl : t % 16 < 16 := Nat.mod_lt _ (by omega)
  clear h
  go_enter Try.func121, Try.ntmps121
  go_wp2
  go_quiet (fail)
  go_wp2
  exact H.out _ (by repeat (first | with_reducible exact Kp.refl _ _ | with_reducible refine Kp.drewN ?_ _ | with_reducible refine Kp.drew ?_))
set_option maxHeartbeats 1000000 in
theorem tlen_any {f m : Nat} (hm : f + m ≤ 1000000) (hb : Bk w s 163 [.slice (some ⟨r, 0, none⟩) 16 16, .int .i64 f, .int .i64 (f + m : Nat)]) (h : ∀ w', Kp [] w w' → R (.returned (.int .i64 m)) w') :
    Calls Try.prog 120 #[.pointer (some ⟨s, 0, none⟩)] w R := by
  have H := Lib.hid h
  obtain ⟨h0, h1, h2⟩ := rq_s0 hb
  clear h hb
  go_enter Try.func120, Try.ntmps120
  go_wp2
  go_quiet (fail)
  go_wp2
  exact rcast (H.out _ (by repeat (first | with_reducible exact Kp.refl _ _ | with_reducible refine Kp.drewN ?_ _ | with_reducible refine Kp.drew ?_))) (icast (by omega))
set_option maxHeartbeats 1000000 in
theorem troom_any {f m : Nat} (hm : f + m ≤ 1000000) (hm2 : m ≤ 16) (hb : Bk w s 163 [.slice (some ⟨r, 0, none⟩) 16 16, .int .i64 f, .int .i64 (f + m : Nat)]) (h : ∀ w', Kp [] w w' → R (.returned (.int .i64 (16 - (m : Int)))) w') :
    Calls Try.prog 105 #[.pointer (some ⟨s, 0, none⟩)] w R := by
  have H := Lib.hid h
  obtain ⟨h0, h1, h2⟩ := rq_s0 hb
  have HB := Lib.hid hb
  clear h hb h1 h2
  go_enter Try.func105, Try.ntmps105
  go_wp2
  refine wp_region_kp (by kernel_rfl) (by kernel_rfl) ?_
  repeat (go_big_quiet_step ((go_at_call 120; refine tlen_any hm (HB.out.kp (kpw_kp _ _) (by simp)) (fun w3 k3 => ?_); exact kpx_mk k3)))
  refine wpQuiet_nil ?_
  intro w1 k1
  go_wp2
  exact H.out _ k1
theorem bk2t {w : World} {g tt : Nat} {a b : Value} (h : Bk w g tt [a, b]) : w.cell? ⟨g, 0, none⟩ = some a ∧ w.cell? ⟨g, 1, none⟩ = some b ∧ w.frozen? ⟨g, 0, none⟩ = false ∧ w.frozen? ⟨g, 1, none⟩ = false := ⟨h.cell 0, h.cell 1, h.frozen 0, h.frozen 1⟩
theorem bk2set {W : World} {g t : Nat} {x y : Value} (h : Bk W g t [x, y]) (a b : Value) : Bk ((W.setCell ⟨g, 0, none⟩ a).setCell ⟨g, 1, none⟩ b) g t [a, b] ∧ Kp [g] W ((W.setCell ⟨g, 0, none⟩ a).setCell ⟨g, 1, none⟩ b) :=
  ⟨((h.set_ 0 a).set_ 1 b).cast rfl, ((Kp.refl _ _).setCell (p := ⟨g, 0, none⟩) (.inl (by simp)) _).setCell (p := ⟨g, 1, none⟩) (.inl (by simp)) _⟩
theorem Rq.put {W W' : World} {q : List Tq} {x : Tq} (h : Rq W s r f q) (hne : s ≠ r) (hx : x.l.length = x.n ∧ x.n ≤ 100 ∧ Tb W 98 x.A (x.l.flatMap Pc.vals)) (hr : q.length < 16)
    (e : W' = ((W.setCell ⟨r, (f + q.length) % 16 * 2, none⟩ (.int .i64 x.env)).setCell ⟨r, (f + q.length) % 16 * 2 + 1, none⟩ (.slice x.A x.n x.c)).setCell ⟨s, 2, none⟩ (.int .i64 ((f + q.length : Nat) + 1))) :
    Kp [s, r] W W' ∧ Rq W' s r f (q ++ [x]) := by
  obtain ⟨cs, hcs, hcl, hc⟩ := h.hr
  have hmod := Nat.mod_lt (f + q.length) (show 0 < 16 by omega)
  have k1 : Kp [s, r] W W' := by
    subst e
    exact (((Kp.refl _ _).setCell (p := ⟨r, (f + q.length) % 16 * 2, none⟩) (.inl (by simp)) _).setCell (p := ⟨r, (f + q.length) % 16 * 2 + 1, none⟩) (.inl (by simp)) _).setCell (p := ⟨s, 2, none⟩) (.inl (by simp)) _
  have o8 : Off W [s, r] 98 := Off.app (S := [s]) (S' := [r]) (Off.one h.hs.ty (by decide)) (Off.one hcs.ty (by decide))
  refine ⟨k1, ?_, ⟨(cs.set ((f + q.length) % 16 * 2) (.int .i64 x.env)).set ((f + q.length) % 16 * 2 + 1) (.slice x.A x.n x.c), ?_, by simpa using hcl, ?_⟩, by simp; omega, ?_⟩
  · subst e
    exact (((h.hs.far (p := ⟨r, (f + q.length) % 16 * 2, none⟩) hne (.int .i64 x.env)).far (p := ⟨r, (f + q.length) % 16 * 2 + 1, none⟩) hne (.slice x.A x.n x.c)).set_ 2 _).cast (by simp; omega)
  · subst e
    exact ((hcs.set_ _ (.int .i64 x.env)).set_ _ (.slice x.A x.n x.c)).far (p := ⟨s, 2, none⟩) hne.symm _
  · intro i y hy
    rcases Nat.lt_or_ge i q.length with hi | hi
    · rw [List.getElem?_append_left hi] at hy
      rw [List.getElem?_set_ne (by omega), List.getElem?_set_ne (by omega), List.getElem?_set_ne (by omega), List.getElem?_set_ne (by omega)]
      exact hc i y hy
    · rw [List.getElem?_append_right hi] at hy
      have hi2 : i = q.length := by
        rcases Nat.eq_zero_or_pos (i - q.length) with h | h
        · omega
        · rw [List.getElem?_eq_none (by simp; omega)] at hy; cases hy
      subst hi2
      simp at hy
      subst hy
      rw [List.getElem?_set_ne (by omega), List.getElem?_set_self (by omega), List.getElem?_set_self (by simp; omega)]
      exact ⟨rfl, rfl⟩
  · intro y hy
    rcases List.mem_append.1 hy with hy | hy
    · obtain ⟨a, b, c⟩ := h.data y hy
      exact ⟨a, b, c.kp k1 o8⟩
    · simp at hy; subst hy
      exact ⟨hx.1, hx.2.1, hx.2.2.kp k1 o8⟩
theorem Rq.take {W W' : World} {q : List Tq} {x : Tq} (h : Rq W s r f (x :: q)) (hne : s ≠ r) (e : W' = ((W.setCell ⟨r, f % 16 * 2, none⟩ (.int .i64 0)).setCell ⟨r, f % 16 * 2 + 1, none⟩ (.slice none 0 0)).setCell ⟨s, 1, none⟩ (.int .i64 ((f : Int) + 1))) :
    Kp [s, r] W W' ∧ Rq W' s r (f + 1) q := by
  obtain ⟨cs, hcs, hcl, hc⟩ := h.hr
  have hroom := h.room
  simp only [List.length_cons] at hroom
  have hmod := Nat.mod_lt f (show 0 < 16 by omega)
  have k1 : Kp [s, r] W W' := by
    subst e
    exact (((Kp.refl _ _).setCell (p := ⟨r, f % 16 * 2, none⟩) (.inl (by simp)) _).setCell (p := ⟨r, f % 16 * 2 + 1, none⟩) (.inl (by simp)) _).setCell (p := ⟨s, 1, none⟩) (.inl (by simp)) _
  have o8 : Off W [s, r] 98 := Off.app (S := [s]) (S' := [r]) (Off.one h.hs.ty (by decide)) (Off.one hcs.ty (by decide))
  refine ⟨k1, ?_, ⟨(cs.set (f % 16 * 2) (.int .i64 0)).set (f % 16 * 2 + 1) (.slice none 0 0), ?_, by simpa using hcl, ?_⟩, by omega, ?_⟩
  · subst e
    exact (((h.hs.far (p := ⟨r, f % 16 * 2, none⟩) hne (.int .i64 0)).far (p := ⟨r, f % 16 * 2 + 1, none⟩) hne (.slice none 0 0)).set_ 1 _).cast (by simp; omega)
  · subst e
    exact ((hcs.set_ _ (.int .i64 0)).set_ _ (.slice none 0 0)).far (p := ⟨s, 1, none⟩) hne.symm _
  · intro i y hy
    have hi : i < q.length := (List.getElem?_eq_some_iff.1 hy).1
    rw [List.getElem?_set_ne (by omega), List.getElem?_set_ne (by omega), List.getElem?_set_ne (by omega), List.getElem?_set_ne (by omega)]
    have := hc (i + 1) y (by simpa using hy)
    rwa [show f + (i + 1) = f + 1 + i by omega] at this
  · intro y hy
    obtain ⟨a, b, c⟩ := h.data y (by simp [hy])
    exact ⟨a, b, c.kp k1 o8⟩
set_option maxHeartbeats 4000000 in
theorem tput_any {q : List Tq} {x : Tq} (hq : Rq w s r f q) (hne : s ≠ r) (hm : f + q.length ≤ 1000000) (hx : x.l.length = x.n ∧ x.n ≤ 100 ∧ Tb w 98 x.A (x.l.flatMap Pc.vals))
    (h1 : q.length = 16 → ∀ w', Kp [] w w' → R (.returned (.tuple #[.int .i64 0, .int .i64 10])) w')
    (h2 : q.length < 16 → ∀ w', Kp [s, r] w w' → Rq w' s r f (q ++ [x]) → R (.returned (.tuple #[.int .i64 (f + q.length : Nat), .int .i64 0])) w') :
    Calls Try.prog 107 #[.pointer (some ⟨s, 0, none⟩), .agg #[.int .i64 x.env, .slice x.A x.n x.c]] w R := by
  have H1 := Lib.hid h1
  have H2 := Lib.hid h2
  have hroom := hq.room
  have HQ := Lib.hid hq
  have hB : Bk (w.alloc (.cells #[.int .i64 x.env, .slice x.A x.n x.c] 127)) w.heap.size 127 [.int .i64 x.env, .slice x.A x.n x.c] := (Bk.newAt rfl _ _).cast rfl
  have HB := Lib.hid hB
  have ha := HQ.out.off ((Kp.refl [] w).alloc (.cells #[.int .i64 x.env, .slice x.A x.n x.c] 127)) (by simp) (by simp) (Off.nil _ _)
  have HA := Lib.hid ha
  clear h1 h2 hq hB ha
  by_cases h16 : q.length = 16
  · have e16 : ((16 : Int) - (q.length : Int) == 0) = true := by simp; omega
    have HH := Lib.hid (H1.out h16)
    clear H1 H2
    go_enter Try.func107, Try.ntmps107
    go_wp2_with (go_at_call 105; ((refine troom_any hm hroom HA.out.hs ?_); intro w1 k1))
    exact HH.out _ (((Kp.refl _ _).alloc _).trans k1)
  · have e16 : ((16 : Int) - (q.length : Int) == 0) = false := by simp; omega
    have hlt : q.length < 16 := by omega
    have HH := Lib.hid (H2.out hlt)
    have HX := Lib.hid hx
    clear H1 H2 h16 hx
    go_enter Try.func107, Try.ntmps107
    go_upto_region 6 with (go_at_call 105; ((refine troom_any hm hroom HA.out.hs ?_); intro w1 k1; obtain ⟨a0, a1, a2⟩ := rq_s0 (HA.out.hs.kp k1 (by simp))))
    have hq1 := HA.out.off k1 (by simp) (by simp) (Off.nil _ _)
    have hb1 := HB.out.kp k1 (by simp)
    have kk1 := ((Kp.refl [] w).alloc _).trans k1
    obtain ⟨bx, hbx⟩ : ∃ bx, w.heap.size = bx := ⟨_, rfl⟩
    rw [hbx] at hb1 ⊢
    have HQ1 := Lib.hid hq1
    have HB1 := Lib.hid hb1
    have K1 := Lib.hid kk1
    have HS : Hid (∀ w', Kp [] w1 w' → w'.cell? ⟨bx, 0, none⟩ = some (.int .i64 x.env) ∧ w'.cell? ⟨bx, 1, none⟩ = some (.slice x.A x.n x.c)) := Lib.hid (fun w' k' => ⟨(HB1.out.kp k' (by simp)).cell 0, (HB1.out.kp k' (by simp)).cell 1⟩)
    have hnb : bx ≠ r := by
      have := HQ.out.hr
      obtain ⟨cs, hcs, _⟩ := this
      have := hcs.lt
      omega
    obtain ⟨p0, p1⟩ := HS.out w1 (Kp.refl _ _)
    clear hq1 hb1 kk1 k1 hbx a1 a2
    go_region_law (first | (go_simp; go_at_call 121; (refine tplace_any (f + q.length) hm ((HQ1.out.off (by repeat (first | with_reducible exact Kp.refl _ _ | with_reducible refine Kp.drew ?_)) (by simp) (by simp) (Off.nil _ _)).hs.cell 0) ?_); intro w2 k2; have kk2 : Kp [] w1 w2 := Kp.trans (by repeat (first | with_reducible exact Kp.refl _ _ | with_reducible refine Kp.drew ?_)) k2; have hq2 := HQ1.out.off kk2 (by simp) (by simp) (Off.nil _ _); obtain ⟨u0, g0⟩ : ∃ u, w2.cell? ⟨r, (f + q.length) % 16 * 2, none⟩ = some u := (by obtain ⟨cs, hcs, hcl, _⟩ := hq2.hr; exact ⟨_, (hcs.cell _).trans (List.getElem?_eq_getElem (by have := Nat.mod_lt (f + q.length) (show 0 < 16 by omega); omega))⟩); obtain ⟨u1, g1⟩ : ∃ u, w2.cell? ⟨r, (f + q.length) % 16 * 2 + 1, none⟩ = some u := (by obtain ⟨cs, hcs, hcl, _⟩ := hq2.hr; exact ⟨_, (hcs.cell _).trans (List.getElem?_eq_getElem (by have := Nat.mod_lt (f + q.length) (show 0 < 16 by omega); omega))⟩); have f0 : w2.frozen? ⟨r, (f + q.length) % 16 * 2, none⟩ = false := (by obtain ⟨cs, hcs, _⟩ := hq2.hr; exact hcs.frozen _); have f1 : w2.frozen? ⟨r, (f + q.length) % 16 * 2 + 1, none⟩ = false := (by obtain ⟨cs, hcs, _⟩ := hq2.hr; exact hcs.frozen _); obtain ⟨b0, b1⟩ := HS.out w2 kk2; obtain ⟨d0, d1, d2⟩ := rq_s0 hq2.hs; have f2 := hq2.hs.frozen 2; have HQ2 := Lib.hid hq2; clear hq2))
    all_goals
      go_wp2
      obtain ⟨k9, r9⟩ := HQ2.out.put hne ⟨HX.out.1, HX.out.2.1, HX.out.2.2.kp (K1.out.trans kk2) (Off.nil _ _)⟩ hlt rfl
      exact HH.out _ (((K1.out.trans kk2).mono (by simp)).trans k9) r9
end
end Go.Proofs.Ythlmfjfkkndboaa
