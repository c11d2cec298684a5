/- The walks of a ring of bytes. The walks of a ring of transfers. filter.Check walked. -/
import Derived.Test.YtedblbpmlbjnhaaGreatPE4
import Derived.Test.YtedblbpmlbjnhaaGreatPE8
import Derived.BigQuiet
import Derived.Test.YtedblbpmlbjnhaaGreatPE5
import Derived.Deep.RegionHeldLaw
namespace Go.Proofs.YtedblbpmlbjnhaaGreat
/-! ### The walks of a ring of bytes. -/
section
open Go.RowKit Go.Shelf
set_option linter.unusedVariables false
set_option linter.unusedSimpArgs false
set_option maxRecDepth 100000

/-- Bytes in memory. -/
structure Sl where
  A : Option Addr
  n : Nat
  c : Nat
  l : List UInt8
def Sl.v (x : Sl) : Value := .slice x.A x.n x.c
structure Rb (w : World) (s r f : Nat) (q : List Sl) : Prop where
  hs : Bk w s 199 [.slice (some ⟨r, 0, none⟩) 16 16, .int .i64 f, .int .i64 (f + q.length : Nat)]
  hr : ∃ cs, Bk w r 37 cs ∧ cs.length = 16 ∧ ∀ i x, q[i]? = some x → cs[(f + i) % 16]? = some x.v
  room : q.length ≤ 16
  data : ∀ x ∈ q, x.l.length = x.n ∧ x.n ≤ 1024 ∧ Tb w 5 x.A (bts x.l)
section
variable {R : Ending → World → Prop} {w : World} {s r f : Nat} {q : List Sl}
theorem Rb.off {w' : World} {S : List Nat} (h : Rb w s r f q) (hk : Kp S w w') (h1 : s ∉ S) (h2 : r ∉ S) (h3 : Off w S 5) : Rb w' s r f q :=
  ⟨h.hs.kp hk h1, by obtain ⟨cs, a, b, c⟩ := h.hr; exact ⟨cs, a.kp hk h2, b, c⟩, h.room, fun x hx => ⟨(h.data x hx).1, (h.data x hx).2.1, (h.data x hx).2.2.kp hk h3⟩⟩
theorem rb_s0 {f : Nat} {m : Nat} (h : Bk w s 199 [.slice (some ⟨r, 0, none⟩) 16 16, .int .i64 f, .int .i64 m]) : w.cell? ⟨s, 0, none⟩ = some (.slice (some ⟨r, 0, none⟩) 16 16) ∧ w.cell? ⟨s, 1, none⟩ = some (.int .i64 f) ∧ w.cell? ⟨s, 2, none⟩ = some (.int .i64 m) :=
  ⟨h.cell 0, h.cell 1, h.cell 2⟩
set_option maxHeartbeats 1000000 in
theorem place_any (t : Nat) (ht : t ≤ 1000000) (c0 : w.cell? ⟨s, 0, none⟩ = some (.slice (some ⟨r, 0, none⟩) 16 16)) (h : ∀ w', Kp [] w w' → R (.returned (.pointer (some ⟨r, t % 16, none⟩))) w') :
    Calls Tryz.prog 108 #[.pointer (some ⟨s, 0, none⟩), .int .i64 t] w R := by
  have H := Lib.hid h
  have hm : (t : Int).tmod 16 = ((t % 16 : Nat) : Int) := by rw [Int.tmod_eq_emod_of_nonneg (by omega)]; omega
  have hl : t % 16 < 16 := Nat.mod_lt _ (by omega)
  clear h
  go_enter Tryz.func108, Tryz.ntmps108
  go_wp2
  go_quiet (fail)
  go_wp2
  exact H.out _ (by repeat (first | with_reducible exact Kp.refl _ _ | with_reducible refine Kp.drewN ?_ _ | with_reducible refine Kp.drew ?_))
/-- What is not in the ring, or is. -/
theorem rat_no {f m : Nat} (hb : Bk w s 199 [.slice (some ⟨r, 0, none⟩) 16 16, .int .i64 f, .int .i64 (f + m : Nat)]) (h0 : m = 0) (hm : f ≤ 1000000) (h : R (.returned (.tuple #[.slice none 0 0, .int .i64 11])) w) :
    Calls Tryz.prog 107 #[.pointer (some ⟨s, 0, none⟩), .int .i64 f] w R := by
  subst h0
  obtain ⟨h0, h1, h2⟩ := rb_s0 hb
  simp only [Nat.add_zero] at h2
  clear hb
  go_enter Tryz.func107, Tryz.ntmps107
  go_wp2
  exact h
set_option maxHeartbeats 1000000 in
theorem rat_yes {q : List Sl} {x : Sl} (hq : Rb w s r f (x :: q)) (hm : f ≤ 1000000) (h : ∀ w', Kp [] w w' → R (.returned (.tuple #[x.v, .int .i64 0])) w') :
    Calls Tryz.prog 107 #[.pointer (some ⟨s, 0, none⟩), .int .i64 f] w R := by
  have H := Lib.hid h
  obtain ⟨h0, h1, h2⟩ := rb_s0 hq.hs
  obtain ⟨cs, hcs, hcl, hc⟩ := hq.hr
  have e := hc 0 x rfl
  rw [Nat.add_zero] at e
  have HC : Hid (∀ w', Kp [] w w' → w'.cell? ⟨r, f % 16, none⟩ = some x.v) := Lib.hid (fun w' k' => by rw [(hcs.kp k' (by simp)).cell]; exact e)
  have hlt : (f : Int) < (f + (x :: q).length : Nat) := by simp; omega
  have HHS := Lib.hid hq.hs
  clear h hq hcs hc e
  go_enter Tryz.func107, Tryz.ntmps107
  go_wp2_with (go_at_call 108; ((refine place_any f hm h0 ?_); intro w1 k1; have hx := HC.out w1 k1))
  exact H.out _ k1
theorem Rb.put {W W' : World} {q : List Sl} {x : Sl} (h : Rb W s r f q) (hne : s ≠ r) (hx : x.l.length = x.n ∧ x.n ≤ 1024 ∧ Tb W 5 x.A (bts x.l)) (hr : q.length < 16) (e : W' = (W.setCell ⟨r, (f + q.length) % 16, none⟩ x.v).setCell ⟨s, 2, none⟩ (.int .i64 ((f + q.length : Nat) + 1))) :
    Kp [s, r] W W' ∧ Rb W' s r f (q ++ [x]) := by
  obtain ⟨cs, hcs, hcl, hc⟩ := h.hr
  have k1 : Kp [s, r] W W' := by
    subst e
    exact ((Kp.refl _ _).setCell (p := ⟨r, (f + q.length) % 16, none⟩) (.inl (by simp)) _).setCell (p := ⟨s, 2, none⟩) (.inl (by simp)) _
  have o8 : Off W [s, r] 5 := Off.app (S := [s]) (S' := [r]) (Off.one h.hs.ty (by decide)) (Off.one hcs.ty (by decide))
  refine ⟨k1, ?_, ⟨cs.set ((f + q.length) % 16) x.v, ?_, by simpa using hcl, ?_⟩, by simp; omega, ?_⟩
  · subst e
    exact ((h.hs.far (p := ⟨r, (f + q.length) % 16, none⟩) hne x.v).set_ 2 _).cast (by simp; omega)
  · subst e
    exact (hcs.set_ _ x.v).far (p := ⟨s, 2, none⟩) hne.symm _
  · intro i y hy
    rcases Nat.lt_or_ge i q.length with hi | hi
    · rw [List.getElem?_append_left hi] at hy
      rw [List.getElem?_set_ne (by omega)]
      exact hc i y hy
    · rw [List.getElem?_append_right hi] at hy
      have hi2 : i = q.length := by
        rcases Nat.eq_zero_or_pos (i - q.length) with h | h
        · omega
        · rw [List.getElem?_eq_none (by simp; omega)] at hy; cases hy
      subst hi2
      simp at hy
      subst hy
      rw [List.getElem?_set_self (by rw [hcl]; exact Nat.mod_lt _ (by omega))]
  · intro y hy
    rcases List.mem_append.1 hy with hy | hy
    · obtain ⟨a, b, c⟩ := h.data y hy
      exact ⟨a, b, c.kp k1 o8⟩
    · simp at hy; subst hy
      exact ⟨hx.1, hx.2.1, hx.2.2.kp k1 o8⟩
theorem Rb.take {W W' : World} {q : List Sl} {x : Sl} (h : Rb W s r f (x :: q)) (hne : s ≠ r) (e : W' = (W.setCell ⟨r, f % 16, none⟩ (.slice none 0 0)).setCell ⟨s, 1, none⟩ (.int .i64 ((f : Int) + 1))) :
    Kp [s, r] W W' ∧ Rb W' s r (f + 1) q := by
  obtain ⟨cs, hcs, hcl, hc⟩ := h.hr
  have hroom := h.room
  simp only [List.length_cons] at hroom
  have k1 : Kp [s, r] W W' := by
    subst e
    exact ((Kp.refl _ _).setCell (p := ⟨r, f % 16, none⟩) (.inl (by simp)) _).setCell (p := ⟨s, 1, none⟩) (.inl (by simp)) _
  have o8 : Off W [s, r] 5 := Off.app (S := [s]) (S' := [r]) (Off.one h.hs.ty (by decide)) (Off.one hcs.ty (by decide))
  refine ⟨k1, ?_, ⟨cs.set (f % 16) (.slice none 0 0), ?_, by simpa using hcl, ?_⟩, by omega, ?_⟩
  · subst e
    exact ((h.hs.far (p := ⟨r, f % 16, none⟩) hne (.slice none 0 0)).set_ 1 _).cast (by simp; omega)
  · subst e
    exact (hcs.set_ _ (.slice none 0 0)).far (p := ⟨s, 1, none⟩) hne.symm _
  · intro i y hy
    have hi : i < q.length := (List.getElem?_eq_some_iff.1 hy).1
    rw [List.getElem?_set_ne (by omega)]
    have := hc (i + 1) y (by simpa using hy)
    rwa [show f + (i + 1) = f + 1 + i by omega] at this
  · intro y hy
    obtain ⟨a, b, c⟩ := h.data y (by simp [hy])
    exact ⟨a, b, c.kp k1 o8⟩
set_option maxHeartbeats 2000000 in
theorem rtake_any {q : List Sl} (hq : Rb w s r f q) (hne : s ≠ r) (hm : f ≤ 1000000)
    (h1 : q = [] → ∀ w', Kp [] w w' → R (.returned (.tuple #[.slice none 0 0, .int .i64 11])) w')
    (h2 : ∀ x q', Hid (q = x :: q') → ∀ w', Kp [s, r] w w' → Rb w' s r (f + 1) q' → Tb w' 5 x.A (bts x.l) → R (.returned (.tuple #[x.v, .int .i64 0])) w') :
    Calls Tryz.prog 52 #[.pointer (some ⟨s, 0, none⟩)] w R := by
  have H1 := Lib.hid h1
  have H2 := Lib.hid h2
  have HQ := Lib.hid hq
  clear h1 h2
  obtain ⟨a0, a1, a2⟩ := rb_s0 hq.hs
  clear hq
  cases q with
  | nil =>
    have HH := H1.out rfl w (Kp.refl _ _)
    clear H1 H2
    go_enter Tryz.func52, Tryz.ntmps52
    go_wp2_with (go_at_call 107; refine rat_no HQ.out.hs rfl hm ?_)
    exact HH
  | cons x q =>
    have HH := Lib.hid (H2.out x q rfl)
    clear H1 H2
    go_enter Tryz.func52, Tryz.ntmps52
    go_wp2_with (first | (go_at_call 107; ((refine rat_yes HQ.out hm ?_); intro w1 k1; have hq1 := HQ.out.off k1 (by simp) (by simp) (Off.nil _ _); obtain ⟨b0, b1, b2⟩ := rb_s0 hq1.hs; have HQ1 := Lib.hid hq1; clear hq1)) | (go_at_call 108; ((refine place_any f hm b0 ?_); intro w2 k2; have hq2 := HQ1.out.off k2 (by simp) (by simp) (Off.nil _ _); obtain ⟨d0, d1, d2⟩ := rb_s0 hq2.hs; have f1 := hq2.hs.frozen 1; obtain ⟨cs, hcs, hcl, hc⟩ := hq2.hr; obtain ⟨u0, g0⟩ : ∃ u, _ = some u := ⟨_, (hcs.cell (f % 16)).trans (List.getElem?_eq_getElem (by rw [hcl]; exact Nat.mod_lt _ (by omega)))⟩; have g1 := hcs.frozen (f % 16); have HQ2 := Lib.hid hq2; clear hcs hc hcl hq2)))
    obtain ⟨k9, r9⟩ := HQ2.out.take hne rfl
    have o8 : Off w [s, r] 5 := by obtain ⟨cs, hcs, _⟩ := HQ.out.hr; exact Off.app (S := [s]) (S' := [r]) (Off.one HQ.out.hs.ty (by decide)) (Off.one hcs.ty (by decide))
    have kk := (((k1.trans k2).mono (by simp)).trans k9)
    exact HH.out _ kk r9 ((HQ.out.data x (by simp)).2.2.kp kk o8)
end
end
/-! ### The walks of a ring of transfers. -/
section
open Go.RowKit Go.Shelf
set_option linter.unusedVariables false
set_option linter.unusedSimpArgs false
set_option maxRecDepth 100000

/-- A transfer in memory. -/
structure Tq where
  env : Int
  A : Option Addr
  n : Nat
  c : Nat
  l : List Pc
structure Rq (w : World) (s r f : Nat) (q : List Tq) : Prop where
  hs : Bk w s 202 [.slice (some ⟨r, 0, none⟩) 16 16, .int .i64 f, .int .i64 (f + q.length : Nat)]
  hr : ∃ cs, Bk w r 120 cs ∧ cs.length = 32 ∧ ∀ i x, q[i]? = some x → cs[(f + i) % 16 * 2]? = some (.int .i64 x.env) ∧ cs[(f + i) % 16 * 2 + 1]? = some (.slice x.A x.n x.c)
  room : q.length ≤ 16
  data : ∀ x ∈ q, x.l.length = x.n ∧ x.n ≤ 100 ∧ Tb w 187 x.A (x.l.flatMap Pc.vals)
section
variable {R : Ending → World → Prop} {w : World} {s r f : Nat} {q : List Tq}
theorem Rq.off {w' : World} {S : List Nat} (h : Rq w s r f q) (hk : Kp S w w') (h1 : s ∉ S) (h2 : r ∉ S) (h3 : Off w S 187) : Rq w' s r f q :=
  ⟨h.hs.kp hk h1, by obtain ⟨cs, a, b, c⟩ := h.hr; exact ⟨cs, a.kp hk h2, b, c⟩, h.room, fun x hx => ⟨(h.data x hx).1, (h.data x hx).2.1, (h.data x hx).2.2.kp hk h3⟩⟩
theorem rq_s0 {f : Nat} {m : Nat} (h : Bk w s 202 [.slice (some ⟨r, 0, none⟩) 16 16, .int .i64 f, .int .i64 m]) : w.cell? ⟨s, 0, none⟩ = some (.slice (some ⟨r, 0, none⟩) 16 16) ∧ w.cell? ⟨s, 1, none⟩ = some (.int .i64 f) ∧ w.cell? ⟨s, 2, none⟩ = some (.int .i64 m) :=
  ⟨h.cell 0, h.cell 1, h.cell 2⟩
set_option maxHeartbeats 1000000 in
theorem tplace_any (t : Nat) (ht : t ≤ 1000000) (c0 : w.cell? ⟨s, 0, none⟩ = some (.slice (some ⟨r, 0, none⟩) 16 16)) (h : ∀ w', Kp [] w w' → R (.returned (.pointer (some ⟨r, t % 16 * 2, none⟩))) w') :
    Calls Tryz.prog 122 #[.pointer (some ⟨s, 0, none⟩), .int .i64 t] w R := by
  have H := Lib.hid h
  have hm : (t : Int).tmod 16 = ((t % 16 : Nat) : Int) := by rw [Int.tmod_eq_emod_of_nonneg (by omega)]; omega
  have hl : t % 16 < 16 := Nat.mod_lt _ (by omega)
  clear h
  go_enter Tryz.func122, Tryz.ntmps122
  go_wp2
  go_quiet (fail)
  go_wp2
  exact H.out _ (by repeat (first | with_reducible exact Kp.refl _ _ | with_reducible refine Kp.drewN ?_ _ | with_reducible refine Kp.drew ?_))
set_option maxHeartbeats 1000000 in
theorem tlen_any {f m : Nat} (hm : f + m ≤ 1000000) (hb : Bk w s 202 [.slice (some ⟨r, 0, none⟩) 16 16, .int .i64 f, .int .i64 (f + m : Nat)]) (h : ∀ w', Kp [] w w' → R (.returned (.int .i64 m)) w') :
    Calls Tryz.prog 144 #[.pointer (some ⟨s, 0, none⟩)] w R := by
  have H := Lib.hid h
  obtain ⟨h0, h1, h2⟩ := rq_s0 hb
  clear h hb
  go_enter Tryz.func144, Tryz.ntmps144
  go_wp2
  go_quiet (fail)
  go_wp2
  exact rcast (H.out _ (by repeat (first | with_reducible exact Kp.refl _ _ | with_reducible refine Kp.drewN ?_ _ | with_reducible refine Kp.drew ?_))) (icast (by omega))
set_option maxHeartbeats 1000000 in
theorem troom_any {f m : Nat} (hm : f + m ≤ 1000000) (hm2 : m ≤ 16) (hb : Bk w s 202 [.slice (some ⟨r, 0, none⟩) 16 16, .int .i64 f, .int .i64 (f + m : Nat)]) (h : ∀ w', Kp [] w w' → R (.returned (.int .i64 (16 - (m : Int)))) w') :
    Calls Tryz.prog 102 #[.pointer (some ⟨s, 0, none⟩)] w R := by
  have H := Lib.hid h
  obtain ⟨h0, h1, h2⟩ := rq_s0 hb
  have HB := Lib.hid hb
  clear h hb h1 h2
  go_enter Tryz.func102, Tryz.ntmps102
  go_wp2
  refine wp_region_kp (by kernel_rfl) (by kernel_rfl) ?_
  repeat (go_big_quiet_step ((go_at_call 144; refine tlen_any hm (HB.out.kp (kpw_kp _ _) (by simp)) (fun w3 k3 => ?_); exact kpx_mk k3)))
  refine wpQuiet_nil ?_
  intro w1 k1
  go_wp2
  exact H.out _ k1
theorem bk2t {w : World} {g tt : Nat} {a b : Value} (h : Bk w g tt [a, b]) : w.cell? ⟨g, 0, none⟩ = some a ∧ w.cell? ⟨g, 1, none⟩ = some b ∧ w.frozen? ⟨g, 0, none⟩ = false ∧ w.frozen? ⟨g, 1, none⟩ = false := ⟨h.cell 0, h.cell 1, h.frozen 0, h.frozen 1⟩
theorem bk2set {W : World} {g t : Nat} {x y : Value} (h : Bk W g t [x, y]) (a b : Value) : Bk ((W.setCell ⟨g, 0, none⟩ a).setCell ⟨g, 1, none⟩ b) g t [a, b] ∧ Kp [g] W ((W.setCell ⟨g, 0, none⟩ a).setCell ⟨g, 1, none⟩ b) :=
  ⟨((h.set_ 0 a).set_ 1 b).cast rfl, ((Kp.refl _ _).setCell (p := ⟨g, 0, none⟩) (.inl (by simp)) _).setCell (p := ⟨g, 1, none⟩) (.inl (by simp)) _⟩
set_option maxHeartbeats 1000000 in
theorem tat_no {f : Nat} (hb : Bk w s 202 [.slice (some ⟨r, 0, none⟩) 16 16, .int .i64 f, .int .i64 f]) (hm : f ≤ 1000000) (h : ∀ w', Kp [] w w' → R (.returned (.tuple #[.agg #[.int .i64 0, .slice none 0 0], .int .i64 11])) w') :
    Calls Tryz.prog 121 #[.pointer (some ⟨s, 0, none⟩), .int .i64 f] w R := by
  have H := Lib.hid h
  obtain ⟨h0, h1, h2⟩ := rq_s0 hb
  have a1 : ∀ o, (w.alloc o).cell? ⟨s, 1, none⟩ = some (.int .i64 f) := fun o => (hb.alloc o).cell 1
  have a2 : ∀ o, (w.alloc o).cell? ⟨s, 2, none⟩ = some (.int .i64 f) := fun o => (hb.alloc o).cell 2
  have b1 : ∀ o o', ((w.alloc o).alloc o').cell? ⟨s, 1, none⟩ = some (.int .i64 f) := fun o o' => ((hb.alloc o).alloc o').cell 1
  have b2 : ∀ o o', ((w.alloc o).alloc o').cell? ⟨s, 2, none⟩ = some (.int .i64 f) := fun o o' => ((hb.alloc o).alloc o').cell 2
  have hlt := hb.lt
  clear hb h
  go_enter Tryz.func121, Tryz.ntmps121
  go_wp2
  exact bodyPost_ret (v := .tuple #[.agg #[.int .i64 0, .slice none 0 0], .int .i64 11]) (by simp [results, Tryz.results121, go_sem]; try rfl) rfl (H.out _ (((Kp.refl _ _).alloc _).alloc _))
set_option maxHeartbeats 2000000 in
theorem tat_yes {q : List Tq} {x : Tq} (hq : Rq w s r f (x :: q)) (hm : f ≤ 1000000) (h : ∀ w', Kp [] w w' → R (.returned (.tuple #[.agg #[.int .i64 x.env, .slice x.A x.n x.c], .int .i64 0])) w') :
    Calls Tryz.prog 121 #[.pointer (some ⟨s, 0, none⟩), .int .i64 f] w R := by
  have H := Lib.hid h
  have HQ := Lib.hid hq
  clear h hq
  go_enter Tryz.func121, Tryz.ntmps121
  go_upto_region 2 with (fail)
  refine gen_worldK (fun W => ∃ rb, w.heap.size = rb ∧ Kp [] w W ∧ Bk W rb 120 [.int .i64 0, .slice none 0 0]) ⟨_, rfl, ((Kp.refl _ _).alloc _).alloc _, (((Bk.new' _ _ _).alloc _).cast rfl)⟩ ?_
  rintro W ⟨rb, hrb, kW, bR⟩
  rw [hrb]
  have hq1 := HQ.out.off kW (by simp) (by simp) (Off.nil _ _)
  obtain ⟨h0, h1, h2⟩ := rq_s0 hq1.hs
  have hlt : (f : Int) < (f + (x :: q).length : Nat) := by simp; omega
  have HR := Lib.hid bR
  have HQ1 := Lib.hid hq1
  have HF : Hid (∀ w1, Kp [] W w1 → w1.cell? ⟨r, f % 16 * 2, none⟩ = some (.int .i64 x.env) ∧ w1.cell? ⟨r, f % 16 * 2 + 1, none⟩ = some (.slice x.A x.n x.c)) := Lib.hid (fun w1 k1 => by
    obtain ⟨cs, hcs, _, hc⟩ := HQ1.out.hr
    have e := hc 0 x rfl
    rw [Nat.add_zero] at e
    exact ⟨by rw [(hcs.kp k1 (by simp)).cell]; exact e.1, by rw [(hcs.kp k1 (by simp)).cell]; exact e.2⟩)
  clear hq1 bR
  go_wp2_with (go_at_call 122; ((refine tplace_any f hm h0 ?_); intro w1 k1; obtain ⟨g0, g1⟩ := HF.out w1 k1; obtain ⟨b0, b1, b2, b3⟩ := bk2t (HR.out.kp k1 (by simp))))
  obtain ⟨bb, kb⟩ := bk2set (HR.out.kp k1 (by simp)) (.int .i64 x.env) (.slice x.A x.n x.c)
  obtain ⟨W9, hW9⟩ : ∃ W9, ((w1.setCell ⟨rb, 0, none⟩ (.int .i64 x.env)).setCell ⟨rb, 1, none⟩ (.slice x.A x.n x.c)) = W9 := ⟨_, rfl⟩
  rw [hW9] at bb kb ⊢
  obtain ⟨e0, e1, _⟩ := bk2t bb
  exact bodyPost_ret (v := .tuple #[.agg #[.int .i64 x.env, .slice x.A x.n x.c], .int .i64 0]) (by simp [results, Tryz.results121, go_sem, e0, e1]; try rfl) rfl (H.out _ ((kW.trans k1).thn kb (fun s hs => .inr (by simp at hs; omega))))
theorem Rq.put {W W' : World} {q : List Tq} {x : Tq} (h : Rq W s r f q) (hne : s ≠ r) (hx : x.l.length = x.n ∧ x.n ≤ 100 ∧ Tb W 187 x.A (x.l.flatMap Pc.vals)) (hr : q.length < 16)
    (e : W' = ((W.setCell ⟨r, (f + q.length) % 16 * 2, none⟩ (.int .i64 x.env)).setCell ⟨r, (f + q.length) % 16 * 2 + 1, none⟩ (.slice x.A x.n x.c)).setCell ⟨s, 2, none⟩ (.int .i64 ((f + q.length : Nat) + 1))) :
    Kp [s, r] W W' ∧ Rq W' s r f (q ++ [x]) := by
  obtain ⟨cs, hcs, hcl, hc⟩ := h.hr
  have hmod := Nat.mod_lt (f + q.length) (show 0 < 16 by omega)
  have k1 : Kp [s, r] W W' := by
    subst e
    exact (((Kp.refl _ _).setCell (p := ⟨r, (f + q.length) % 16 * 2, none⟩) (.inl (by simp)) _).setCell (p := ⟨r, (f + q.length) % 16 * 2 + 1, none⟩) (.inl (by simp)) _).setCell (p := ⟨s, 2, none⟩) (.inl (by simp)) _
  have o8 : Off W [s, r] 187 := Off.app (S := [s]) (S' := [r]) (Off.one h.hs.ty (by decide)) (Off.one hcs.ty (by decide))
  refine ⟨k1, ?_, ⟨(cs.set ((f + q.length) % 16 * 2) (.int .i64 x.env)).set ((f + q.length) % 16 * 2 + 1) (.slice x.A x.n x.c), ?_, by simpa using hcl, ?_⟩, by simp; omega, ?_⟩
  · subst e
    exact (((h.hs.far (p := ⟨r, (f + q.length) % 16 * 2, none⟩) hne (.int .i64 x.env)).far (p := ⟨r, (f + q.length) % 16 * 2 + 1, none⟩) hne (.slice x.A x.n x.c)).set_ 2 _).cast (by simp; omega)
  · subst e
    exact ((hcs.set_ _ (.int .i64 x.env)).set_ _ (.slice x.A x.n x.c)).far (p := ⟨s, 2, none⟩) hne.symm _
  · intro i y hy
    rcases Nat.lt_or_ge i q.length with hi | hi
    · rw [List.getElem?_append_left hi] at hy
      rw [List.getElem?_set_ne (by omega), List.getElem?_set_ne (by omega), List.getElem?_set_ne (by omega), List.getElem?_set_ne (by omega)]
      exact hc i y hy
    · rw [List.getElem?_append_right hi] at hy
      have hi2 : i = q.length := by
        rcases Nat.eq_zero_or_pos (i - q.length) with h | h
        · omega
        · rw [List.getElem?_eq_none (by simp; omega)] at hy; cases hy
      subst hi2
      simp at hy
      subst hy
      rw [List.getElem?_set_ne (by omega), List.getElem?_set_self (by omega), List.getElem?_set_self (by simp; omega)]
      exact ⟨rfl, rfl⟩
  · intro y hy
    rcases List.mem_append.1 hy with hy | hy
    · obtain ⟨a, b, c⟩ := h.data y hy
      exact ⟨a, b, c.kp k1 o8⟩
    · simp at hy; subst hy
      exact ⟨hx.1, hx.2.1, hx.2.2.kp k1 o8⟩
theorem Rq.take {W W' : World} {q : List Tq} {x : Tq} (h : Rq W s r f (x :: q)) (hne : s ≠ r) (e : W' = ((W.setCell ⟨r, f % 16 * 2, none⟩ (.int .i64 0)).setCell ⟨r, f % 16 * 2 + 1, none⟩ (.slice none 0 0)).setCell ⟨s, 1, none⟩ (.int .i64 ((f : Int) + 1))) :
    Kp [s, r] W W' ∧ Rq W' s r (f + 1) q := by
  obtain ⟨cs, hcs, hcl, hc⟩ := h.hr
  have hroom := h.room
  simp only [List.length_cons] at hroom
  have hmod := Nat.mod_lt f (show 0 < 16 by omega)
  have k1 : Kp [s, r] W W' := by
    subst e
    exact (((Kp.refl _ _).setCell (p := ⟨r, f % 16 * 2, none⟩) (.inl (by simp)) _).setCell (p := ⟨r, f % 16 * 2 + 1, none⟩) (.inl (by simp)) _).setCell (p := ⟨s, 1, none⟩) (.inl (by simp)) _
  have o8 : Off W [s, r] 187 := Off.app (S := [s]) (S' := [r]) (Off.one h.hs.ty (by decide)) (Off.one hcs.ty (by decide))
  refine ⟨k1, ?_, ⟨(cs.set (f % 16 * 2) (.int .i64 0)).set (f % 16 * 2 + 1) (.slice none 0 0), ?_, by simpa using hcl, ?_⟩, by omega, ?_⟩
  · subst e
    exact (((h.hs.far (p := ⟨r, f % 16 * 2, none⟩) hne (.int .i64 0)).far (p := ⟨r, f % 16 * 2 + 1, none⟩) hne (.slice none 0 0)).set_ 1 _).cast (by simp; omega)
  · subst e
    exact ((hcs.set_ _ (.int .i64 0)).set_ _ (.slice none 0 0)).far (p := ⟨s, 1, none⟩) hne.symm _
  · intro i y hy
    have hi : i < q.length := (List.getElem?_eq_some_iff.1 hy).1
    rw [List.getElem?_set_ne (by omega), List.getElem?_set_ne (by omega), List.getElem?_set_ne (by omega), List.getElem?_set_ne (by omega)]
    have := hc (i + 1) y (by simpa using hy)
    rwa [show f + (i + 1) = f + 1 + i by omega] at this
  · intro y hy
    obtain ⟨a, b, c⟩ := h.data y (by simp [hy])
    exact ⟨a, b, c.kp k1 o8⟩
set_option maxHeartbeats 4000000 in
theorem tput_any {q : List Tq} {x : Tq} (hq : Rq w s r f q) (hne : s ≠ r) (hm : f + q.length ≤ 1000000) (hx : x.l.length = x.n ∧ x.n ≤ 100 ∧ Tb w 187 x.A (x.l.flatMap Pc.vals))
    (h1 : q.length = 16 → ∀ w', Kp [] w w' → R (.returned (.tuple #[.int .i64 0, .int .i64 10])) w')
    (h2 : q.length < 16 → ∀ w', Kp [s, r] w w' → Rq w' s r f (q ++ [x]) → R (.returned (.tuple #[.int .i64 (f + q.length : Nat), .int .i64 0])) w') :
    Calls Tryz.prog 105 #[.pointer (some ⟨s, 0, none⟩), .agg #[.int .i64 x.env, .slice x.A x.n x.c]] w R := by
  have H1 := Lib.hid h1
  have H2 := Lib.hid h2
  have hroom := hq.room
  have HQ := Lib.hid hq
  have hB : Bk (w.alloc (.cells #[.int .i64 x.env, .slice x.A x.n x.c] 120)) w.heap.size 120 [.int .i64 x.env, .slice x.A x.n x.c] := (Bk.newAt rfl _ _).cast rfl
  have HB := Lib.hid hB
  have ha := HQ.out.off ((Kp.refl [] w).alloc (.cells #[.int .i64 x.env, .slice x.A x.n x.c] 120)) (by simp) (by simp) (Off.nil _ _)
  have HA := Lib.hid ha
  clear h1 h2 hq hB ha
  by_cases h16 : q.length = 16
  · have e16 : ((16 : Int) - (q.length : Int) == 0) = true := by simp; omega
    have HH := Lib.hid (H1.out h16)
    clear H1 H2
    go_enter Tryz.func105, Tryz.ntmps105
    go_wp2_with (go_at_call 102; ((refine troom_any hm hroom HA.out.hs ?_); intro w1 k1))
    exact HH.out _ (((Kp.refl _ _).alloc _).trans k1)
  · have e16 : ((16 : Int) - (q.length : Int) == 0) = false := by simp; omega
    have hlt : q.length < 16 := by omega
    have HH := Lib.hid (H2.out hlt)
    have HX := Lib.hid hx
    clear H1 H2 h16 hx
    go_enter Tryz.func105, Tryz.ntmps105
    go_upto_region 6 with (go_at_call 102; ((refine troom_any hm hroom HA.out.hs ?_); intro w1 k1; obtain ⟨a0, a1, a2⟩ := rq_s0 (HA.out.hs.kp k1 (by simp))))
    have hq1 := HA.out.off k1 (by simp) (by simp) (Off.nil _ _)
    have hb1 := HB.out.kp k1 (by simp)
    have kk1 := ((Kp.refl [] w).alloc _).trans k1
    obtain ⟨bx, hbx⟩ : ∃ bx, w.heap.size = bx := ⟨_, rfl⟩
    rw [hbx] at hb1 ⊢
    have HQ1 := Lib.hid hq1
    have HB1 := Lib.hid hb1
    have K1 := Lib.hid kk1
    have HS : Hid (∀ w', Kp [] w1 w' → w'.cell? ⟨bx, 0, none⟩ = some (.int .i64 x.env) ∧ w'.cell? ⟨bx, 1, none⟩ = some (.slice x.A x.n x.c)) := Lib.hid (fun w' k' => ⟨(HB1.out.kp k' (by simp)).cell 0, (HB1.out.kp k' (by simp)).cell 1⟩)
    have hnb : bx ≠ r := by
      have := HQ.out.hr
      obtain ⟨cs, hcs, _⟩ := this
      have := hcs.lt
      omega
    obtain ⟨p0, p1⟩ := HS.out w1 (Kp.refl _ _)
    clear hq1 hb1 kk1 k1 hbx a1 a2
    go_region_law (first | (go_simp; go_at_call 122; (refine tplace_any (f + q.length) hm ((HQ1.out.off (by repeat (first | with_reducible exact Kp.refl _ _ | with_reducible refine Kp.drew ?_)) (by simp) (by simp) (Off.nil _ _)).hs.cell 0) ?_); intro w2 k2; have kk2 : Kp [] w1 w2 := Kp.trans (by repeat (first | with_reducible exact Kp.refl _ _ | with_reducible refine Kp.drew ?_)) k2; have hq2 := HQ1.out.off kk2 (by simp) (by simp) (Off.nil _ _); obtain ⟨u0, g0⟩ : ∃ u, w2.cell? ⟨r, (f + q.length) % 16 * 2, none⟩ = some u := (by obtain ⟨cs, hcs, hcl, _⟩ := hq2.hr; exact ⟨_, (hcs.cell _).trans (List.getElem?_eq_getElem (by have := Nat.mod_lt (f + q.length) (show 0 < 16 by omega); omega))⟩); obtain ⟨u1, g1⟩ : ∃ u, w2.cell? ⟨r, (f + q.length) % 16 * 2 + 1, none⟩ = some u := (by obtain ⟨cs, hcs, hcl, _⟩ := hq2.hr; exact ⟨_, (hcs.cell _).trans (List.getElem?_eq_getElem (by have := Nat.mod_lt (f + q.length) (show 0 < 16 by omega); omega))⟩); have f0 : w2.frozen? ⟨r, (f + q.length) % 16 * 2, none⟩ = false := (by obtain ⟨cs, hcs, _⟩ := hq2.hr; exact hcs.frozen _); have f1 : w2.frozen? ⟨r, (f + q.length) % 16 * 2 + 1, none⟩ = false := (by obtain ⟨cs, hcs, _⟩ := hq2.hr; exact hcs.frozen _); obtain ⟨b0, b1⟩ := HS.out w2 kk2; obtain ⟨d0, d1, d2⟩ := rq_s0 hq2.hs; have f2 := hq2.hs.frozen 2; have HQ2 := Lib.hid hq2; clear hq2))
    all_goals
      go_wp2
      obtain ⟨k9, r9⟩ := HQ2.out.put hne ⟨HX.out.1, HX.out.2.1, HX.out.2.2.kp (K1.out.trans kk2) (Off.nil _ _)⟩ hlt rfl
      exact HH.out _ (((K1.out.trans kk2).mono (by simp)).trans k9) r9
set_option maxHeartbeats 4000000 in
theorem ttake_any {q : List Tq} (hq : Rq w s r f q) (hne : s ≠ r) (hm : f ≤ 1000000)
    (h1 : q = [] → ∀ w', Kp [] w w' → R (.returned (.tuple #[.agg #[.int .i64 0, .slice none 0 0], .int .i64 11])) w')
    (h2 : ∀ x q', Hid (q = x :: q') → ∀ w', Kp [s, r] w w' → Rq w' s r (f + 1) q' → Tb w' 187 x.A (x.l.flatMap Pc.vals) → R (.returned (.tuple #[.agg #[.int .i64 x.env, .slice x.A x.n x.c], .int .i64 0])) w') :
    Calls Tryz.prog 62 #[.pointer (some ⟨s, 0, none⟩)] w R := by
  have H1 := Lib.hid h1
  have H2 := Lib.hid h2
  have HQ := Lib.hid hq
  clear h1 h2 hq
  go_enter Tryz.func62, Tryz.ntmps62
  go_upto_region 4 with (fail)
  refine gen_worldK (fun W => ∃ rb, w.heap.size = rb ∧ Kp [] w W ∧ Bk W rb 120 [.int .i64 0, .slice none 0 0] ∧ Bk W (rb + 1) 120 [.int .i64 0, .slice none 0 0]) ⟨_, rfl, ((Kp.refl _ _).alloc _).alloc _, (((Bk.new' _ _ _).alloc _).cast rfl), ((Bk.newAt (by simp) _ _).cast rfl)⟩ ?_
  rintro W ⟨rb, hrb, kW, bR, bN⟩
  rw [hrb]
  have hq1 := HQ.out.off kW (by simp) (by simp) (Off.nil _ _)
  obtain ⟨a0, a1, a2⟩ := rq_s0 hq1.hs
  have HR := Lib.hid bR
  have HN := Lib.hid bN
  have KW := Lib.hid kW
  have HQ1 := Lib.hid hq1
  have hb0 : w.heap.size ≤ rb := by omega
  clear hq1 bR bN kW hrb
  cases q with
  | nil =>
    have HH := Lib.hid (H1.out rfl)
    clear H1 H2
    go_wp2_with (go_at_call 121; ((refine tat_no HQ1.out.hs hm ?_); intro w1 k1; obtain ⟨b0, b1, b2, b3⟩ := bk2t ((HR.out.kp k1 (by simp)).alloc (.cells #[.int .i64 0, .slice none 0 0] 120))))
    have hbw := (HR.out.kp k1 (by simp)).alloc (.cells #[.int .i64 0, .slice none 0 0] 120)
    obtain ⟨bb, kb⟩ := bk2set hbw (.int .i64 0) (.slice none 0 0)
    obtain ⟨W9, hW9⟩ : ∃ W9, (((w1.alloc (.cells #[.int .i64 0, .slice none 0 0] 120)).setCell ⟨rb, 0, none⟩ (.int .i64 0)).setCell ⟨rb, 1, none⟩ (.slice none 0 0)) = W9 := ⟨_, rfl⟩
    rw [hW9] at bb kb ⊢
    obtain ⟨e0, e1, _⟩ := bk2t bb
    exact bodyPost_ret (v := .tuple #[.agg #[.int .i64 0, .slice none 0 0], .int .i64 11]) (by simp [results, Tryz.results62, go_sem, e0, e1]; try rfl) rfl (HH.out _ (((KW.out.trans k1).alloc _).thn kb (fun s hs => .inr (by simp at hs; omega))))
  | cons x q =>
    have HH := Lib.hid (H2.out x q rfl)
    clear H1 H2
    go_upto_region 6 with (go_at_call 121; ((refine tat_yes HQ1.out hm ?_); intro w1 k1))
    have ka := k1.alloc (.cells #[.int .i64 x.env, .slice x.A x.n x.c] 120)
    have hbx : Bk (w1.alloc (.cells #[.int .i64 x.env, .slice x.A x.n x.c] 120)) w1.heap.size 120 [.int .i64 x.env, .slice x.A x.n x.c] := (Bk.newAt rfl _ _).cast rfl
    have z1 := k1.size
    obtain ⟨V, hV⟩ : ∃ V, w1.alloc (.cells #[.int .i64 x.env, .slice x.A x.n x.c] 120) = V := ⟨_, rfl⟩
    obtain ⟨xb, hxb⟩ : ∃ xb, w1.heap.size = xb := ⟨_, rfl⟩
    rw [hV] at ka hbx ⊢
    rw [hxb] at hbx z1 ⊢
    have hq2 := HQ1.out.off ka (by simp) (by simp) (Off.nil _ _)
    obtain ⟨d0, d1, d2⟩ := rq_s0 hq2.hs
    have hR2 := HR.out.kp ka (by simp)
    have hN2 := HN.out.kp ka (by simp)
    have HQ2 := Lib.hid hq2
    have HR2 := Lib.hid hR2
    have HN2 := Lib.hid hN2
    have HX2 := Lib.hid hbx
    have KA := Lib.hid ka
    have hlr := HR.out.lt
    have hlr2 := HN.out.lt
    have hrr : r < w.heap.size ∧ s < w.heap.size := by obtain ⟨cs, hcs, _⟩ := HQ.out.hr; exact ⟨hcs.lt, HQ.out.hs.lt⟩
    obtain ⟨p0, p1, _⟩ := bk2t hN2
    have HS : Hid (∀ w', Kp [] V w' → w'.cell? ⟨rb + 1, 0, none⟩ = some (.int .i64 0) ∧ w'.cell? ⟨rb + 1, 1, none⟩ = some (.slice none 0 0)) := Lib.hid (fun w' k' => ⟨(HN2.out.kp k' (by simp)).cell 0, (HN2.out.kp k' (by simp)).cell 1⟩)
    clear hq2 hR2 hN2 hbx ka k1 hV hxb a0 a1 a2 d2
    have hn1 : rb + 1 ≠ r := by omega
    have hn2 : rb + 1 ≠ s := by omega
    go_region_law (first | (go_simp; go_at_call 122; (refine tplace_any f hm ((HQ2.out.off (by repeat (first | with_reducible exact Kp.refl _ _ | with_reducible refine Kp.drew ?_)) (by simp) (by simp) (Off.nil _ _)).hs.cell 0) ?_); intro w2 k2; have kk2 : Kp [] V w2 := Kp.trans (by repeat (first | with_reducible exact Kp.refl _ _ | with_reducible refine Kp.drew ?_)) k2; have hq2 := HQ2.out.off kk2 (by simp) (by simp) (Off.nil _ _); obtain ⟨u0, g0⟩ : ∃ u, w2.cell? ⟨r, f % 16 * 2, none⟩ = some u := (by obtain ⟨cs, hcs, hcl, _⟩ := hq2.hr; exact ⟨_, (hcs.cell _).trans (List.getElem?_eq_getElem (by have := Nat.mod_lt f (show 0 < 16 by omega); omega))⟩); obtain ⟨u1, g1⟩ : ∃ u, w2.cell? ⟨r, f % 16 * 2 + 1, none⟩ = some u := (by obtain ⟨cs, hcs, hcl, _⟩ := hq2.hr; exact ⟨_, (hcs.cell _).trans (List.getElem?_eq_getElem (by have := Nat.mod_lt f (show 0 < 16 by omega); omega))⟩); have f0 : w2.frozen? ⟨r, f % 16 * 2, none⟩ = false := (by obtain ⟨cs, hcs, _⟩ := hq2.hr; exact hcs.frozen _); have f1 : w2.frozen? ⟨r, f % 16 * 2 + 1, none⟩ = false := (by obtain ⟨cs, hcs, _⟩ := hq2.hr; exact hcs.frozen _); obtain ⟨b0, b1⟩ := HS.out w2 kk2; obtain ⟨d0, d1, d2⟩ := rq_s0 hq2.hs; have f2 := hq2.hs.frozen 1; obtain ⟨x0, x1, _⟩ := bk2t (HX2.out.kp kk2 (by simp)); obtain ⟨y0, y1, y2, y3⟩ := bk2t (HR2.out.kp kk2 (by simp)); have HQ3 := Lib.hid hq2; clear hq2))
    all_goals
      have hne1 : xb ≠ r := by omega
      have hne2 : xb ≠ s := by omega
      have hne3 : rb ≠ r := by omega
      have hne4 : rb ≠ s := by omega
      have hne5 : rb ≠ xb := by omega
      go_wp2
      obtain ⟨k9, r9⟩ := HQ3.out.take hne rfl
      obtain ⟨V9, hV9⟩ : ∃ V9, (((w2.setCell ⟨r, f % 16 * 2, none⟩ (.int .i64 0)).setCell ⟨r, f % 16 * 2 + 1, none⟩ (.slice none 0 0)).setCell ⟨s, 1, none⟩ (.int .i64 ((f : Int) + 1))) = V9 := ⟨_, rfl⟩
      rw [hV9] at k9 r9 ⊢
      have hb9 := (HR2.out.kp kk2 (by simp)).kp k9 (by simp; omega)
      obtain ⟨bb, kb⟩ := bk2set hb9 (.int .i64 x.env) (.slice x.A x.n x.c)
      obtain ⟨W9, hW9⟩ : ∃ W9, ((V9.setCell ⟨rb, 0, none⟩ (.int .i64 x.env)).setCell ⟨rb, 1, none⟩ (.slice x.A x.n x.c)) = W9 := ⟨_, rfl⟩
      rw [hW9] at bb kb ⊢
      obtain ⟨e0, e1, _⟩ := bk2t bb
      have k12 : Kp [] w w2 := KW.out.trans (KA.out.trans kk2)
      have o8 : Off w [s, r] 187 := by obtain ⟨cs, hcs, _⟩ := HQ.out.hr; exact Off.app (S := [s]) (S' := [r]) (Off.one HQ.out.hs.ty (by decide)) (Off.one hcs.ty (by decide))
      have k19 : Kp [s, r] w V9 := (k12.mono (by simp)).trans k9
      refine bodyPost_ret (v := .tuple #[.agg #[.int .i64 x.env, .slice x.A x.n x.c], .int .i64 0]) (by simp [results, Tryz.results62, go_sem, e0, e1]; try rfl) rfl (HH.out _ (k19.thn kb (fun s hs => .inr (by simp at hs; omega))) (r9.off kb (by simp; omega) (by simp; omega) (Off.one hb9.ty (by decide))) (((HQ.out.data x (by simp)).2.2.kp k19 o8).kp kb (Off.one hb9.ty (by decide))))
end
end
/-! ### filter.Check walked. -/
section
open Go.RowKit Go.Shelf
set_option linter.unusedVariables false
set_option linter.unusedSimpArgs false
set_option maxRecDepth 100000

def fbad (left : Int) (o : FOp) : Bool := decide (o.c < 0) || (decide (8 < o.c) || (decide (o.t < 0) || (decide (o.f < 0) || (decide (255 < o.t) || (decide (255 < o.f) || ((o.c == 5 || o.c == 6) && (decide (left < o.t) || decide (left < o.f))))))))
def fbadAt (p : List FOp) (j : Nat) : Bool := match p[j]? with | some o => fbad ((p.length : Int) - 2 - j) o | none => false
def fends (p : List FOp) : Bool := match p[p.length - 1]? with | some o => (o.c == 7 || o.c == 8) | none => false
def fchk (p : List FOp) : Bool := decide (1 ≤ p.length) && decide (p.length ≤ 64) && fends p && !(List.range p.length).any (fbadAt p)
theorem bk4 {w : World} {g tt : Nat} {a b c d : Value} (h : Bk w g tt [a, b, c, d]) : w.cell? ⟨g, 0, none⟩ = some a ∧ w.cell? ⟨g, 1, none⟩ = some b ∧ w.cell? ⟨g, 2, none⟩ = some c ∧ w.cell? ⟨g, 3, none⟩ = some d := ⟨h.cell 0, h.cell 1, h.cell 2, h.cell 3⟩
section
variable {R : Ending → World → Prop} {w : World}
set_option maxHeartbeats 1000000 in
theorem ends_any (c k t f : Int) (h : ∀ w', Kp [] w w' → R (.returned (.bool (c == 7 || c == 8))) w') : Calls Tryz.prog 142 #[.agg #[.int .i64 c, .int .u32 k, .int .i64 t, .int .i64 f]] w R := by
  have H := Lib.hid h
  clear h
  have hk := fun o => (Kp.refl [] w).alloc o
  by_cases h7 : c = 7
  · have e : (c == 7) = true := by simp [h7]
    clear h7
    go_enter Tryz.func142, Tryz.ntmps142
    go_wp2
    exact rcast (H.out _ (hk _)) (by simp [e])
  · have e : (c == 7) = false := by simp [h7]
    clear h7
    go_enter Tryz.func142, Tryz.ntmps142
    go_wp2
    exact rcast (H.out _ (hk _)) (by simp [e])
set_option maxHeartbeats 1000000 in
theorem jumps_any (c k t f : Int) (h : ∀ w', Kp [] w w' → R (.returned (.bool (c == 5 || c == 6))) w') : Calls Tryz.prog 143 #[.agg #[.int .i64 c, .int .u32 k, .int .i64 t, .int .i64 f]] w R := by
  have H := Lib.hid h
  clear h
  have hk := fun o => (Kp.refl [] w).alloc o
  by_cases h7 : c = 5
  · have e : (c == 5) = true := by simp [h7]
    clear h7
    go_enter Tryz.func143, Tryz.ntmps143
    go_wp2
    exact rcast (H.out _ (hk _)) (by simp [e])
  · have e : (c == 5) = false := by simp [h7]
    clear h7
    go_enter Tryz.func143, Tryz.ntmps143
    go_wp2
    exact rcast (H.out _ (hk _)) (by simp [e])
set_option maxHeartbeats 4000000 in
theorem fcheck_any {A : Option Addr} {n c : Nat} {p : List FOp} (hr : Rd w [] A (p.flatMap FOp.vals)) (hl : p.length = n) (hn : n ≤ 1000000) (hok : ∀ o ∈ p, o.ok)
    (h : ∀ w', Kp [] w w' → R (.returned (.int .i64 (if fchk p then 0 else 40))) w') : Calls Tryz.prog 97 #[.slice A n c] w R := by
  have H := Lib.hid h
  have HL := Lib.hid hl
  have HO := Lib.hid hok
  clear h hl hok
  by_cases h1 : n < 1
  · have HH := H.out w (Kp.refl _ _)
    rw [if_neg (by have := HL.out; simp [fchk]; omega)] at HH
    clear H
    go_enter Tryz.func97, Tryz.ntmps97
    go_wp2
    exact HH
  · by_cases h64 : 64 < n
    · have HH := H.out w (Kp.refl _ _)
      rw [if_neg (by have := HL.out; simp [fchk]; omega)] at HH
      clear H
      go_enter Tryz.func97, Tryz.ntmps97
      go_wp2
      exact HH
    · obtain ⟨z, hz, hzm⟩ := get_lt (l := p) (k := n - 1) (by have := HL.out; omega)
      obtain ⟨b, off, rfl, _, hbl, hc⟩ := rd_at hr ovals_len (by omega) hz
      have c0 := hc 0 _ rfl
      have c1 := hc 1 _ rfl
      have c2 := hc 2 _ rfl
      have c3 := hc 3 _ rfl
      rw [Nat.add_zero] at c0
      have hfe : fends p = (z.c == 7 || z.c == 8) := by unfold fends; rw [HL.out, hz]
      have HF := Lib.hid hfe
      have hn1 : ((n : Int) - 1) = ((n - 1 : Nat) : Int) := by omega
      have HR := Lib.hid hr
      clear hc hz hfe hr
      cases he : (z.c == 7 || z.c == 8) with
      | false =>
        have HH := Lib.hid (fun w' k' => rcast (H.out w' k') (congrArg (Value.int .i64) (if_neg (by simp [fchk, HF.out, he]))))
        go_enter Tryz.func97, Tryz.ntmps97
        go_wp2_with (go_at_call 142; ((refine ends_any _ _ _ _ ?_); rw [he]; intro w1 k1))
        exact HH.out _ k1
      | true =>
        go_enter Tryz.func97, Tryz.ntmps97
        go_wp2_with (go_at_call 142; ((refine ends_any _ _ _ _ ?_); rw [he]; intro w1 k1))
        have K1 := Lib.hid k1
        clear k1 c0 c1 c2 c3
        go_loopw [26] (fun iv wr => ∃ k : Nat, k ≤ n ∧ iv = .int .i64 k ∧ Hid (Kp [] w wr) ∧ Hid (∀ j, j < k → fbadAt p j = false)) (fun iv _ => n - (intOf iv).toNat)
        case atStart => exact ⟨0, Nat.zero_le _, rfl, K1, Lib.hid (by omega)⟩
        case round =>
          obtain ⟨k, hk, rfl, kr, hgd⟩ := hrel
          by_cases hlt : k < n
          · obtain ⟨o, hx, hm⟩ := get_lt (l := p) (k := k) (by have := HL.out; omega)
            obtain ⟨b2, off2, hAA, _, _, hc⟩ := rd_at (HR.out.kp kr.out (by simp)) ovals_len (by omega) hx
            injection hAA with hAA
            injection hAA with hA1 hA2
            subst hA1; subst hA2
            have c0 := hc 0 _ rfl
            have c1 := hc 1 _ rfl
            have c2 := hc 2 _ rfl
            have c3 := hc 3 _ rfl
            rw [Nat.add_zero] at c0
            obtain ⟨oc, ok, ot, of_⟩ := HO.out o hm
            have hfa : fbadAt p k = fbad ((n : Int) - 2 - k) o := by unfold fbadAt; rw [hx, HL.out]
            have HBAD : Hid (fbad ((n : Int) - 2 - k) o = true → ∀ w', Kp [] w w' → R (.returned (.int .i64 40)) w') := Lib.hid (fun hb w' k' => rcast (H.out w' k') (congrArg (Value.int .i64) (if_neg (by
              have : (List.range p.length).any (fbadAt p) = true := List.any_eq_true.2 ⟨k, by simp [HL.out, hlt], by rw [hfa]; exact hb⟩
              simp [fchk, this]))))
            have HGOOD : Hid (fbad ((n : Int) - 2 - k) o = false → Hid (∀ j, j < k + 1 → fbadAt p j = false)) := Lib.hid (fun hb => Lib.hid (fun j hj => by
              rcases Nat.lt_or_ge j k with h | h
              · exact hgd.out j h
              · obtain rfl : j = k := by omega
                rw [hfa]; exact hb))
            have HBX : Hid (Bk (wr.alloc (.cells #[.int .i64 o.c, .int .u32 o.k, .int .i64 o.t, .int .i64 o.f] 128)) wr.heap.size 128 [.int .i64 o.c, .int .u32 o.k, .int .i64 o.t, .int .i64 o.f]) := Lib.hid ((Bk.newAt rfl _ _).cast rfl)
            unfold i64B at oc ot of_
            clear hc hx hfa HF
            by_cases h2 : o.c < 0
            · have HBD := Lib.hid (HBAD.out (by simp [fbad, h2]))
              clear HGOOD HBAD
              go_wp2
              exact HBD.out _ (kr.out.alloc _)
            by_cases h3 : 8 < o.c
            · have HBD := Lib.hid (HBAD.out (by simp [fbad, h3]))
              clear HGOOD HBAD
              go_wp2
              exact HBD.out _ (kr.out.alloc _)
            by_cases h4 : o.t < 0
            · have HBD := Lib.hid (HBAD.out (by simp [fbad, h4]))
              clear HGOOD HBAD
              go_wp2
              exact HBD.out _ (kr.out.alloc _)
            by_cases h5 : o.f < 0
            · have HBD := Lib.hid (HBAD.out (by simp [fbad, h5]))
              clear HGOOD HBAD
              go_wp2
              exact HBD.out _ (kr.out.alloc _)
            by_cases h6 : 255 < o.t
            · have HBD := Lib.hid (HBAD.out (by simp [fbad, h6]))
              clear HGOOD HBAD
              go_wp2
              exact HBD.out _ (kr.out.alloc _)
            by_cases h7 : 255 < o.f
            · have HBD := Lib.hid (HBAD.out (by simp [fbad, h7]))
              clear HGOOD HBAD
              go_wp2
              exact HBD.out _ (kr.out.alloc _)
            cases hj : (o.c == 5 || o.c == 6) with
            | false =>
              go_wp2_with (go_at_call 143; ((refine jumps_any _ _ _ _ ?_); rw [hj]; intro w2 k2; obtain ⟨a0, a1, a2, a3⟩ := bk4 (HBX.out.kp k2 (by simp))))
              exact ⟨⟨k + 1, by omega, by go_num, Lib.hid ((kr.out.alloc _).trans k2), HGOOD.out (by simp [fbad, h2, h3, h4, h5, h6, h7, hj])⟩, by simp [intOf]; omega⟩
            | true =>
              by_cases h8 : (n : Int) - 2 - k < o.t
              · have HBD := Lib.hid (HBAD.out (by simp [fbad, hj, h8]))
                clear HGOOD HBAD
                go_wp2_with (go_at_call 143; ((refine jumps_any _ _ _ _ ?_); rw [hj]; intro w2 k2; obtain ⟨a0, a1, a2, a3⟩ := bk4 (HBX.out.kp k2 (by simp))))
                exact HBD.out _ ((kr.out.alloc _).trans k2)
              by_cases h9 : (n : Int) - 2 - k < o.f
              · have HBD := Lib.hid (HBAD.out (by simp [fbad, hj, h9]))
                clear HGOOD HBAD
                go_wp2_with (go_at_call 143; ((refine jumps_any _ _ _ _ ?_); rw [hj]; intro w2 k2; obtain ⟨a0, a1, a2, a3⟩ := bk4 (HBX.out.kp k2 (by simp))))
                exact HBD.out _ ((kr.out.alloc _).trans k2)
              go_wp2_with (go_at_call 143; ((refine jumps_any _ _ _ _ ?_); rw [hj]; intro w2 k2; obtain ⟨a0, a1, a2, a3⟩ := bk4 (HBX.out.kp k2 (by simp))))
              exact ⟨⟨k + 1, by omega, by go_num, Lib.hid ((kr.out.alloc _).trans k2), HGOOD.out (by simp [fbad, h2, h3, h4, h5, h6, h7, h8, h9])⟩, by simp [intOf]; omega⟩
          · obtain rfl : k = n := by omega
            have HH := Lib.hid (fun w' k' => rcast (H.out w' k') (congrArg (Value.int .i64) (if_pos (by
              have : (List.range p.length).any (fbadAt p) = false := by
                rw [Bool.eq_false_iff]; intro hh
                obtain ⟨j, hj, hb⟩ := List.any_eq_true.1 hh
                rw [hgd.out j (by simpa [HL.out] using hj)] at hb
                cases hb
              have hl := HL.out
              simp [fchk, this, HF.out, he]; omega))))
            clear H
            go_wp2
            exact HH.out _ kr.out
end
end
end Go.Proofs.YtedblbpmlbjnhaaGreat
