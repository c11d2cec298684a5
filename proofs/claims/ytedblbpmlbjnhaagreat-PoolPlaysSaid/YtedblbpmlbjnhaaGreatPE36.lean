/- pantlerref09: Arrive. pantlerref09: Depart. pantlerref09: any call; what a kernel's frames are. -/
import Derived.Test.YtedblbpmlbjnhaaGreatPE31
import Derived.Test.YtedblbpmlbjnhaaGreatPE35
import Derived.Test.YtedblbpmlbjnhaaGreatPE33
import Derived.BigQuiet
import Derived.Deep.RegionHeldLaw
import Derived.Test.YtedblbpmlbjnhaaGreatPE8
import Derived.Test.YtedblbpmlbjnhaaGreatPE34
import Derived.Test.YtedblbpmlbjnhaaGreatPE30
namespace Go.Proofs.YtedblbpmlbjnhaaGreat
/-! ### pantlerref09: Arrive. -/
section
open Go.RowKit Go.Shelf
set_option linter.unusedVariables false
set_option linter.unusedSimpArgs false
set_option maxRecDepth 100000
/-- What Arrive keeps and answers. -/
def RaP (R : Ending → World → Prop) (w0 : World) (B : Nat) (w : World) (q : QA) (k' : KS) (n : Int) (e : Int) : Prop :=
  ∀ q' w', Kp q.own w w' → Qn w0 B w' q' k' → q'.own = q.own → q'.bM = q.bM ∧ q'.bD = q.bD → R (.returned (.tuple #[.int .i64 n, .int .i64 e])) w'
section
variable {R : Ending → World → Prop} {w0 w : World} {B m : Nat} {q : QA} {k : KS}
end
end
/-! ### pantlerref09: Depart. -/
section
open Go.RowKit Go.Shelf
set_option linter.unusedVariables false
set_option linter.unusedSimpArgs false
set_option maxRecDepth 100000
/-- What Depart keeps and answers. -/
def RdP (R : Ending → World → Prop) (w0 : World) (B : Nat) (w : World) (q : QA) (k' : KS) (l : List UInt8) (env e : Int) : Prop :=
  ∀ q' w', Kp q.own w w' → Qn w0 B w' q' k' → q'.own = q.own → q'.bM = q.bM ∧ q'.bD = q.bD → R (.returned (.tuple #[.string (S l), .int .i64 env, .int .i64 e])) w'
section
variable {R : Ending → World → Prop} {w0 w : World} {B m : Nat} {q : QA} {k : KS}
/-- The transfers were cut in front. -/
theorem Qn.cutO (h : Qn w0 B w q k) {y : Tq} {q' : List Tq} (hq : k.qo = y :: q') {b off : Nat} (hA : q.oA = some ⟨b, off, none⟩) {A9 : Option Addr} {D9 : Nat} (hA9 : q.oc = 1 ∧ A9 = some ⟨b, off, none⟩ ∨ q.oc ≠ 1 ∧ A9 = some ⟨b, off + 2, none⟩) (hD9 : D9 = q.oc - 1) :
    Qn w0 B (w.setCell ⟨q.g, 7, none⟩ (.slice A9 q'.length D9)) { q with oA := A9, oc := D9 } { k with fo := k.fo + 1, qo := q' } ∧ Kp q.own w (w.setCell ⟨q.g, 7, none⟩ (.slice A9 q'.length D9)) := by
  have kg : Kp [q.g] w (w.setCell ⟨q.g, 7, none⟩ (.slice A9 q'.length D9)) := (Kp.refl [q.g] _).setCell (p := ⟨q.g, 7, none⟩) (.inl (by simp)) _
  have hs : ∀ s ∈ [q.g], s ∈ q.own ∨ w.heap.size ≤ s := fun s hm => .inl (Qn.own3 q s hm)
  obtain ⟨ys, hys⟩ := h.f
  obtain ⟨zs, hzs⟩ := h.o
  have hcp := h.cp.2.2.2
  rw [hq] at hcp
  simp only [List.length_cons] at hcp
  have hk := hzs.key
  obtain ⟨z, zs', rfl⟩ : ∃ z zs', zs = z :: zs' := by
    cases zs with
    | nil => rw [hq] at hk; simp at hk
    | cons z zs' => exact ⟨z, zs', rfl⟩
  rw [hq, List.map_cons, List.map_cons, List.cons.injEq] at hk
  have ht : Nb w q.own 142 A9 (zs'.flatMap tvals) := by
    rcases hA9 with ⟨hc1, rfl⟩ | ⟨hc1, rfl⟩
    · have hl := congrArg List.length hk.2
      simp only [List.length_map] at hl
      have : zs' = [] := List.length_eq_zero_iff.1 (by omega)
      subst this
      exact Nb.nil
    · have h1 := hzs.rd
      rw [hA, List.flatMap_cons] at h1
      intro hx
      obtain ⟨b', off', cs, e, hb, hz, hc⟩ := h1 (by simp [tvals])
      injection e with e
      injection e with e1 e2
      subst e1; subst e2
      exact ⟨b, off + 2, cs, rfl, hb, hz, fun j u hu => by
        have := hc (j + 2) u (by show ([_, _] ++ _)[j + 2]? = _; simpa using hu)
        rwa [show off + (j + 2) = off + 2 + j by omega] at this⟩
  exact h.setG (k' := { k with fo := k.fo + 1, qo := q' }) (fA' := q.fA) (fc' := q.fc) (i1' := q.i1) (c1' := q.c1) (i2' := q.i2) (c2' := q.c2) (oA' := A9) (oc' := D9) kg rfl rfl ((h.g.set_ 7 _).cast (by simp [QA.cells, hq]; omega))
    ⟨ys, hys.kp kg hs⟩ (h.in1.kp kg hs) (h.in2.kp kg hs) ⟨zs', hk.2, ht.kp kg hs, fun x hx => hzs.p x (by simp [hx])⟩ ⟨h.cp.1, h.cp.2.1, h.cp.2.2.1, by show q'.length ≤ D9; omega⟩
theorem Qn.done (h : Qn w0 B w q k) : Qn w0 B (w.setCell ⟨q.g, 9, none⟩ (.int .i64 (k.dn + 1 : Nat))) q { k with dn := k.dn + 1 } ∧ Kp q.own w (w.setCell ⟨q.g, 9, none⟩ (.int .i64 (k.dn + 1 : Nat))) := by
  have kg : Kp [q.g] w (w.setCell ⟨q.g, 9, none⟩ (.int .i64 (k.dn + 1 : Nat))) := (Kp.refl [q.g] _).setCell (p := ⟨q.g, 9, none⟩) (.inl (by simp)) _
  have hs : ∀ s ∈ [q.g], s ∈ q.own ∨ w.heap.size ≤ s := fun s hm => .inl (Qn.own3 q s hm)
  obtain ⟨ys, hys⟩ := h.f
  obtain ⟨zs, hzs⟩ := h.o
  exact h.setG (k' := { k with dn := k.dn + 1 }) (fA' := q.fA) (fc' := q.fc) (i1' := q.i1) (c1' := q.c1) (i2' := q.i2) (c2' := q.c2) (oA' := q.oA) (oc' := q.oc) kg rfl rfl ((h.g.set_ 9 _).cast (by simp [QA.cells]))
    ⟨ys, hys.kp kg hs⟩ (h.in1.kp kg hs) (h.in2.kp kg hs) ⟨zs, hzs.kp kg hs⟩ h.cp
set_option maxHeartbeats 8000000 in
theorem rdep_any (hQ : Qn w0 B w q k) (hpg : ∀ x ∈ k.fs, x.bs.length = 256) (hB : ∀ y ∈ k.fs, 0 ≤ y.ho ∧ y.ho ≤ 1000000) (hdn : k.dn ≤ 1000000) (hd : ∀ y q, k.qo = y :: q → dropOk k.fs y.l)
    (h0 : k.qo = [] → RdP R w0 B w q k [] 0 11)
    (h1 : ∀ y q', k.qo = y :: q' → RdP R w0 B w q { k with fs := dropAll k.fs y.l, fo := k.fo + 1, qo := q', dn := k.dn + 1 } (fetF k.fs y.l).2 y.env 0) :
    Calls Tryz.prog 15 #[.pointer (some ⟨q.g, 0, none⟩)] w R := by
  have H0 := Lib.hid h0
  have H1 := Lib.hid h1
  have HQ := Lib.hid hQ
  clear h0 h1
  cases hq : k.qo with
  | nil =>
    have HX := Lib.hid (H0.out hq)
    have c7 : w.cell? ⟨q.g, 7, none⟩ = some (.slice q.oA 0 q.oc) := by have := hQ.g.cell 7; rw [this]; simp [QA.cells, hq]
    clear hq hQ H0 H1
    go_enter Tryz.func15, Tryz.ntmps15
    go_wp2
    first | exact HX.out q _ (Kp.refl _ _) HQ.out rfl ⟨rfl, rfl⟩ | exact bodyPost_ret (v := .tuple #[.string (S []), .int .i64 0, .int .i64 11]) (by simp [results, Tryz.results15, go_sem]; try rfl) rfl (HX.out q _ (Kp.refl _ _) HQ.out rfl ⟨rfl, rfl⟩)
  | cons y q' =>
    have HX := Lib.hid (H1.out y q' hq)
    obtain ⟨zs, hzs⟩ := hQ.o
    have hk := hzs.key
    obtain ⟨z, zs', rfl⟩ : ∃ z zs', zs = z :: zs' := by
      cases zs with
      | nil => rw [hq] at hk; simp at hk
      | cons z zs' => exact ⟨z, zs', rfl⟩
    rw [hq, List.map_cons, List.map_cons, List.cons.injEq] at hk
    have hzy : z.env = y.env ∧ z.l = y.l := ⟨congrArg (·.1) hk.1, congrArg (·.2) hk.1⟩
    obtain ⟨b, off, hA, hbn, hbl, hcc⟩ := rd_at (k := 0) (x := z) hzs.rd.rd tvals_len (by omega) rfl
    have d0 := hcc 0 _ rfl
    have d1 := hcc 1 _ rfl
    simp only [Nat.zero_mul, Nat.add_zero] at d0 d1
    obtain ⟨p1, p2, p3, p4⟩ := hzs.p z (by simp)
    have hdo := hd y q' hq
    have hbad : y.l.any (dbad k.fs y.l) = false := dbad_okD.2 (ok_okD _ _ (fun x hx => (hB x hx).1) hdo)
    have hdec := drop_dec _ _ hdo
    have HFe : Hid (∀ (R : Ending → World → Prop) (w1 : World) (k1 : KS) (q1 : QA), Qn w0 B w1 q1 k1 → q1.bM = q.bM → k1.fs = k.fs → (∀ w', Kp [] w1 w' → ∀ e : Int, R (.returned (.tuple #[.string (S (fetF k.fs y.l).2), .int .i64 e])) w') → Calls Tryz.prog 65 #[.pointer (some ⟨q.bM, 0, none⟩), .slice z.A z.n z.c] w1 R) := Lib.hid (fun R w1 k1 q1 hq1 hm1 hf1 h => by
      rw [← hm1]
      refine rfetch_any hq1.t (by rw [hf1]; exact hpg) (p4.kp hq1.old (by simp)) p1 (by omega) p3 (fun e o w' he kk => ?_)
      have he := he.out
      rw [hf1, hzy.2] at he
      have := h w' kk e
      rw [he] at this
      exact this)
    have HDr : Hid (∀ (R : Ending → World → Prop) (w1 : World) (k1 : KS) (q1 : QA), Qn w0 B w1 q1 k1 → q1.bM = q.bM → k1.fs = k.fs → (∀ w', Kp [q1.bO, q1.bH, q1.bB] w1 w' → RT w' q1.bM q1.bO q1.bH q1.bB (dropAll k.fs y.l) → R (.returned (.int .i64 0)) w') → Calls Tryz.prog 66 #[.pointer (some ⟨q.bM, 0, none⟩), .slice z.A z.n z.c] w1 R) := Lib.hid (fun R w1 k1 q1 hq1 hm1 hf1 h => by
      rw [← hm1]
      have hrN : Rd w1 [q1.bO, q1.bH, q1.bB] z.A (z.l.flatMap Pc.vals) := fun hx => by
        obtain ⟨b, off, hAz, _, hl, hc⟩ := p4 hx
        obtain ⟨b', off', e, _, hl', hc'⟩ := (p4.kp hq1.old (by simp)) hx
        rw [hAz] at e
        injection e with e
        injection e with e1 e2
        subst e1; subst e2
        exact ⟨b, off, hAz, fun hm => by have h3 := hq1.new _ (Qn.own1 q1 _ hm); have h4 := hq1.hB; omega, hl', hc'⟩
      refine rdrop_good hq1.t (p4.kp hq1.old (by simp)) p1 (by omega) p3 (by rw [hf1, hzy.2]; exact hbad) (by rw [hf1]; exact fun y hy => by have := hB y hy; omega) hrN (fun w' kk ht => h w' kk ?_)
      rw [hf1, hzy.2] at ht
      rw [hdec]; exact ht)
    have c7 : w.cell? ⟨q.g, 7, none⟩ = some (.slice (some ⟨b, off, none⟩) (q'.length + 1) q.oc) := by rw [← hA]; have := hQ.g.cell 7; rw [this]; simp [QA.cells, hq]
    rw [hzy.1] at d0
    have hcc : q'.length + 1 ≤ q.oc := by have := hQ.cp.2.2.2; rw [hq] at this; simpa using this
    have HQQ := Lib.hid hq
    have HA := Lib.hid hA
    obtain ⟨n, hn⟩ : ∃ n, q'.length + 1 = n := ⟨_, rfl⟩
    rw [hn] at hcc c7
    have hn1 : 1 ≤ n := by omega
    have hn2 : (1 : Int) ≤ (n : Int) := by omega
    have hn3 : decide ((n : Int) = 0) = false := by simp; omega
    have hn4 : ((n : Int) == 0) = false := by simp; omega
    have hn5 : (0 : Int) < (n : Int) := by omega
    have hn6 : 0 < n := by omega
    have HN := Lib.hid hn
    have hn7 : n - 1 = q'.length := by omega
    have z7 := hQ.g.frozen 7
    have l7 := hQ.g.lt
    clear hd hk hzy hzs hcc p1 p2 p3 p4 hdo hbad hdec hq hQ hA hn H0 H1
    go_enter Tryz.func15, Tryz.ntmps15
    go_upto_region 4 with (fail)
    refine genV (fun W => ∃ gx, w.heap.size = gx ∧ Kp [] w W ∧ Bk W gx 142 [.int .i64 y.env, .slice z.A z.n z.c]) ⟨_, rfl, (Kp.refl _ _).alloc _, (Bk.newAt rfl _ _).cast rfl⟩ ?_
    rintro W ⟨gx, hgx, kW, bX⟩
    rw [hgx]
    have QW := Lib.hid (HQ.out.kp kW)
    have KW := Lib.hid kW
    have hgo : gx ∉ q.own := fun hm => by have := HQ.out.lt _ hm; omega
    have BX : Hid (∀ W', Kp q.own W W' → Bk W' gx 142 [.int .i64 y.env, .slice z.A z.n z.c]) := Lib.hid (fun W' k' => bX.kp k' hgo)
    have c7w : W.cell? ⟨q.g, 7, none⟩ = some (.slice (some ⟨b, off, none⟩) n q.oc) := (kW.cell (p := ⟨q.g, 7, none⟩) l7 (by simp)).trans c7
    have z7w := QW.out.g.frozen 7
    have l7w := QW.out.g.lt
    clear c7 z7 l7 d0 d1 hgx kW bX hgo hbl HQ
    by_cases hc1 : q.oc = 1
    · have HC1 := Lib.hid hc1
      rw [hc1] at c7w
      clear hc1
      go_upto_region 5 with (fail)
      obtain ⟨q1, k1⟩ := QW.out.cutO HQQ.out HA.out (A9 := some ⟨b, off, none⟩) (D9 := 0) (.inl ⟨HC1.out, rfl⟩) (by have := HC1.out; omega)
      refine genV (fun W1 => ∃ q1 : QA, Hid (Qn w0 B W1 q1 { k with fo := k.fo + 1, qo := q' }) ∧ Hid (Kp q.own W W1) ∧ q1.own = q.own ∧ q1.bM = q.bM ∧ q1.bD = q.bD ∧ q1.g = q.g) ⟨_, Lib.hid q1, Lib.hid k1, rfl, rfl, rfl, rfl⟩ ?_
      rintro W1 ⟨q1, Q1, K1, ho1, hm1, hd1, hg1⟩
      clear c7w z7w l7w
      have HS : Hid (∀ W', Kp [] W1 W' → (fun w' : World => w'.cell? ⟨q.g, 0, none⟩ = some (.pointer (some ⟨q.bM, 0, none⟩)) ∧ w'.cell? ⟨gx, 1, none⟩ = some (.slice z.A z.n z.c)) W') := Lib.hid (fun W' k' => ⟨by rw [← hg1, ← hm1]; exact (Q1.out.g.kp k' (by simp)).cell 0, ((BX.out W1 K1.out).kp k' (by simp)).cell 1⟩)
      go_region_held_law (fun w' => w'.cell? ⟨q.g, 0, none⟩ = some (.pointer (some ⟨q.bM, 0, none⟩)) ∧ w'.cell? ⟨gx, 1, none⟩ = some (.slice z.A z.n z.c)) (first | with_reducible exact HS.out _ (Kp.drew (Kp.refl _ _)) | with_reducible exact HS.out _ kk2) (first | (go_simp; go_at_call 65; (refine HFe.out _ _ _ _ (Q1.out.kp (by repeat (first | with_reducible exact Kp.refl _ _ | with_reducible refine Kp.drew ?_))) hm1 rfl ?_); intro w2 kk e2; have kk2 : Kp [] W1 w2 := ((Kp.refl [] W1).drew).trans kk))
      have Q2 := Lib.hid (Q1.out.kp kk2)
      have K2 : Hid (Kp q.own W w2) := Lib.hid (K1.out.thn (kk2.mono (S' := q.own) (by simp)) (fun s hs => .inl hs))
      clear HS Q1 K1 HFe kk
      go_upto_region 6 with (fail)
      have HS : Hid (∀ W', Kp [q1.bO, q1.bH, q1.bB] w2 W' → (fun w' : World => w'.cell? ⟨q.g, 0, none⟩ = some (.pointer (some ⟨q.bM, 0, none⟩)) ∧ w'.cell? ⟨gx, 1, none⟩ = some (.slice z.A z.n z.c)) W') := Lib.hid (fun W' k' => ⟨by rw [← hg1, ← hm1]; exact (Q2.out.g.kp k' Q2.out.nes.1).cell 0, by
        have hx := (BX.out w2 K2.out)
        have hx1 : gx ∉ [q1.bO, q1.bH, q1.bB] := by
          intro hm
          have h1 := Qn.own1 q1 _ hm
          rw [ho1] at h1
          exact (QW.out.offO _ (by decide) (by decide) (by decide) (by decide)).nin (BX.out W (Kp.refl _ _)).ty h1
        exact (hx.kp k' hx1).cell 1⟩)
      clear kk2
      go_region_held_law (fun w' => w'.cell? ⟨q.g, 0, none⟩ = some (.pointer (some ⟨q.bM, 0, none⟩)) ∧ w'.cell? ⟨gx, 1, none⟩ = some (.slice z.A z.n z.c)) (first | with_reducible exact HS.out _ (Kp.drew (Kp.refl _ _)) | with_reducible exact HS.out _ kk3) (first | (go_simp; go_at_call 66; (refine HDr.out _ _ _ _ (Q2.out.kp (by repeat (first | with_reducible exact Kp.refl _ _ | with_reducible refine Kp.drew ?_))) hm1 rfl ?_); intro w3 kk ht3; have kk3 : Kp [q1.bO, q1.bH, q1.bB] w2 w3 := ((Kp.refl [q1.bO, q1.bH, q1.bB] w2).drew).trans kk))
      obtain ⟨q3, k3⟩ := Q2.out.setT kk3 ht3
      rw [ho1] at k3
      have Q3 := Lib.hid q3
      have K3 : Hid (Kp q.own W w3) := Lib.hid (K2.out.thn k3 (fun s hs => .inl hs))
      clear HS Q2 K2 HDr kk kk3 q3 k3 ht3
      have c9 : w3.cell? ⟨q.g, 9, none⟩ = some (.int .i64 k.dn) := by rw [← hg1]; exact Q3.out.g.cell 9
      have z9 : w3.frozen? ⟨q.g, 9, none⟩ = false := by rw [← hg1]; exact Q3.out.g.frozen 9
      have l9 : q.g < w3.heap.size := by rw [← hg1]; exact Q3.out.g.lt
      have hw9 : IntKind.i64.wrap ((k.dn : Int) + 1) = ((k.dn + 1 : Nat) : Int) := by rw [wrapV (by omega) (by omega)]; rfl
      obtain ⟨q4, k4⟩ := Q3.out.done
      rw [ho1] at k4
      have Q4 := Lib.hid q4
      have K4 : Hid (Kp q.own W ((w3.setCell ⟨q1.g, 9, none⟩ (.int .i64 (k.dn + 1 : Nat))))) := Lib.hid (K3.out.thn k4 (fun s hs => .inl hs))
      rw [hg1] at Q4 K4
      have x0 := (BX.out _ K4.out).cell 0
      have HXX := HX.out
      clear Q3 K3 q4 k4 HX
      go_upto_region 8 with (fail)
      refine genV (fun W4 => Hid (Qn w0 B W4 q1 { k with fs := dropAll k.fs y.l, fo := k.fo + 1, qo := q', dn := k.dn + 1 }) ∧ Hid (Kp q.own W W4) ∧ W4.cell? ⟨gx, 0, none⟩ = some (.int .i64 y.env)) ⟨Q4, K4, x0⟩ ?_
      clear Q4 K4 x0
      rintro W4 ⟨Q4, K4, x0⟩
      have HXY := Lib.hid HXX
      clear HXX c9 z9 l9
      go_quiet (fail)
      go_wp2
      exact bodyPost_ret (v := .tuple #[.string (S (fetF k.fs y.l).2), .int .i64 y.env, .int .i64 0]) (by simp [results, Tryz.results15, go_sem]; try rfl) rfl (HXY.out q1 _ (((KW.out.mono (by simp)).thn K4.out (fun s hs => .inl hs)).drewN _) (Q4.out.kp ((Kp.refl _ _).drewN _)) ho1 ⟨hm1, hd1⟩)
    · have HC1 := Lib.hid hc1
      go_upto_region 5 with (fail)
      obtain ⟨q1, k1⟩ := QW.out.cutO HQQ.out HA.out (A9 := some ⟨b, off + 2, none⟩) (D9 := (q.oc - 1)) (.inr ⟨HC1.out, rfl⟩) rfl
      refine genV (fun W1 => ∃ q1 : QA, Hid (Qn w0 B W1 q1 { k with fo := k.fo + 1, qo := q' }) ∧ Hid (Kp q.own W W1) ∧ q1.own = q.own ∧ q1.bM = q.bM ∧ q1.bD = q.bD ∧ q1.g = q.g) ⟨_, Lib.hid q1, Lib.hid k1, rfl, rfl, rfl, rfl⟩ ?_
      rintro W1 ⟨q1, Q1, K1, ho1, hm1, hd1, hg1⟩
      clear c7w z7w l7w
      have HS : Hid (∀ W', Kp [] W1 W' → (fun w' : World => w'.cell? ⟨q.g, 0, none⟩ = some (.pointer (some ⟨q.bM, 0, none⟩)) ∧ w'.cell? ⟨gx, 1, none⟩ = some (.slice z.A z.n z.c)) W') := Lib.hid (fun W' k' => ⟨by rw [← hg1, ← hm1]; exact (Q1.out.g.kp k' (by simp)).cell 0, ((BX.out W1 K1.out).kp k' (by simp)).cell 1⟩)
      go_region_held_law (fun w' => w'.cell? ⟨q.g, 0, none⟩ = some (.pointer (some ⟨q.bM, 0, none⟩)) ∧ w'.cell? ⟨gx, 1, none⟩ = some (.slice z.A z.n z.c)) (first | with_reducible exact HS.out _ (Kp.drew (Kp.refl _ _)) | with_reducible exact HS.out _ kk2) (first | (go_simp; go_at_call 65; (refine HFe.out _ _ _ _ (Q1.out.kp (by repeat (first | with_reducible exact Kp.refl _ _ | with_reducible refine Kp.drew ?_))) hm1 rfl ?_); intro w2 kk e2; have kk2 : Kp [] W1 w2 := ((Kp.refl [] W1).drew).trans kk))
      have Q2 := Lib.hid (Q1.out.kp kk2)
      have K2 : Hid (Kp q.own W w2) := Lib.hid (K1.out.thn (kk2.mono (S' := q.own) (by simp)) (fun s hs => .inl hs))
      clear HS Q1 K1 HFe kk
      go_upto_region 6 with (fail)
      have HS : Hid (∀ W', Kp [q1.bO, q1.bH, q1.bB] w2 W' → (fun w' : World => w'.cell? ⟨q.g, 0, none⟩ = some (.pointer (some ⟨q.bM, 0, none⟩)) ∧ w'.cell? ⟨gx, 1, none⟩ = some (.slice z.A z.n z.c)) W') := Lib.hid (fun W' k' => ⟨by rw [← hg1, ← hm1]; exact (Q2.out.g.kp k' Q2.out.nes.1).cell 0, by
        have hx := (BX.out w2 K2.out)
        have hx1 : gx ∉ [q1.bO, q1.bH, q1.bB] := by
          intro hm
          have h1 := Qn.own1 q1 _ hm
          rw [ho1] at h1
          exact (QW.out.offO _ (by decide) (by decide) (by decide) (by decide)).nin (BX.out W (Kp.refl _ _)).ty h1
        exact (hx.kp k' hx1).cell 1⟩)
      clear kk2
      go_region_held_law (fun w' => w'.cell? ⟨q.g, 0, none⟩ = some (.pointer (some ⟨q.bM, 0, none⟩)) ∧ w'.cell? ⟨gx, 1, none⟩ = some (.slice z.A z.n z.c)) (first | with_reducible exact HS.out _ (Kp.drew (Kp.refl _ _)) | with_reducible exact HS.out _ kk3) (first | (go_simp; go_at_call 66; (refine HDr.out _ _ _ _ (Q2.out.kp (by repeat (first | with_reducible exact Kp.refl _ _ | with_reducible refine Kp.drew ?_))) hm1 rfl ?_); intro w3 kk ht3; have kk3 : Kp [q1.bO, q1.bH, q1.bB] w2 w3 := ((Kp.refl [q1.bO, q1.bH, q1.bB] w2).drew).trans kk))
      obtain ⟨q3, k3⟩ := Q2.out.setT kk3 ht3
      rw [ho1] at k3
      have Q3 := Lib.hid q3
      have K3 : Hid (Kp q.own W w3) := Lib.hid (K2.out.thn k3 (fun s hs => .inl hs))
      clear HS Q2 K2 HDr kk kk3 q3 k3 ht3
      have c9 : w3.cell? ⟨q.g, 9, none⟩ = some (.int .i64 k.dn) := by rw [← hg1]; exact Q3.out.g.cell 9
      have z9 : w3.frozen? ⟨q.g, 9, none⟩ = false := by rw [← hg1]; exact Q3.out.g.frozen 9
      have l9 : q.g < w3.heap.size := by rw [← hg1]; exact Q3.out.g.lt
      have hw9 : IntKind.i64.wrap ((k.dn : Int) + 1) = ((k.dn + 1 : Nat) : Int) := by rw [wrapV (by omega) (by omega)]; rfl
      obtain ⟨q4, k4⟩ := Q3.out.done
      rw [ho1] at k4
      have Q4 := Lib.hid q4
      have K4 : Hid (Kp q.own W ((w3.setCell ⟨q1.g, 9, none⟩ (.int .i64 (k.dn + 1 : Nat))))) := Lib.hid (K3.out.thn k4 (fun s hs => .inl hs))
      rw [hg1] at Q4 K4
      have x0 := (BX.out _ K4.out).cell 0
      have HXX := HX.out
      clear Q3 K3 q4 k4 HX
      go_upto_region 8 with (fail)
      refine genV (fun W4 => Hid (Qn w0 B W4 q1 { k with fs := dropAll k.fs y.l, fo := k.fo + 1, qo := q', dn := k.dn + 1 }) ∧ Hid (Kp q.own W W4) ∧ W4.cell? ⟨gx, 0, none⟩ = some (.int .i64 y.env)) ⟨Q4, K4, x0⟩ ?_
      clear Q4 K4 x0
      rintro W4 ⟨Q4, K4, x0⟩
      have HXY := Lib.hid HXX
      clear HXX c9 z9 l9
      go_quiet (fail)
      go_wp2
      exact bodyPost_ret (v := .tuple #[.string (S (fetF k.fs y.l).2), .int .i64 y.env, .int .i64 0]) (by simp [results, Tryz.results15, go_sem]; try rfl) rfl (HXY.out q1 _ (((KW.out.mono (by simp)).thn K4.out (fun s hs => .inl hs)).drewN _) (Q4.out.kp ((Kp.refl _ _).drewN _)) ho1 ⟨hm1, hd1⟩)
end
end
/-! ### pantlerref09: any call; what a kernel's frames are. -/
section
open Go.RowKit Go.Shelf
set_option linter.unusedVariables false
set_option linter.unusedSimpArgs false
set_option maxRecDepth 100000
/-- The table's acts that a call asks. -/
def acOf (x : Kc) (s : ByteArray) : Ac :=
  if x.op = 1 then ⟨0, x.env, 0, 0, 0, ⟨#[]⟩⟩ else if x.op = 2 then ⟨1, x.env, x.a, 0, 0, ⟨#[]⟩⟩ else if x.op = 3 then ⟨2, x.env, x.a, 0, x.b, ⟨#[]⟩⟩ else if x.op = 4 then ⟨3, x.env, x.a, x.b, x.c, ⟨#[]⟩⟩ else ⟨4, x.env, x.a, x.b, 0, s⟩
theorem kFB_dDo {k : KS} {x : Kc} {s : ByteArray} (hs : x.s = s.data.toList) (h1 : 1 ≤ x.op) (h5 : x.op ≤ 5) : kFB k x = ⟨(dDo k.fs (acOf x s)).n, (dDo k.fs (acOf x s)).s, (dDo k.fs (acOf x s)).e, { k with fs := (dDo k.fs (acOf x s)).fs }⟩ := by
  rcases (by omega : x.op = 1 ∨ x.op = 2 ∨ x.op = 3 ∨ x.op = 4 ∨ x.op = 5) with h | h | h | h | h
  · simp [kFB, acOf, dDo, h]
  · simp [kFB, acOf, dDo, h]
  · simp [kFB, acOf, dDo, h]
  · simp [kFB, acOf, dDo, h]
  · simp [kFB, acOf, dDo, h, hs]
/-- The frames are somebody's, or nobody's. -/
def GOx (k : KS) : Prop := ∃ M : Int, 0 ≤ M ∧ GOk M k.fs
theorem GOk.turnQ {m : Int} {fs : List Fr} {a : Ac} (h : GOk m fs) (hm : 0 ≤ m) (hpg : ∀ x ∈ fs, x.bs.length = 256) : GOk (m + 1) (dDo fs a).fs := by
  have ht := dDo_turn hpg a
  have hb : Hb m fs := h.b
  exact ⟨hb.turn hm ht, h.o.turn ht, h.h.turn (fun x hx => (h.b x hx).1) ht⟩
theorem kFB_fs6 {k : KS} {x : Kc} (h : 6 ≤ x.op) : (kFB k x).k.fs = k.fs := by
  unfold kFB
  rw [if_neg (by omega), if_neg (by omega), if_neg (by omega), if_neg (by omega), if_neg (by omega)]
  split
  · rfl
  · split <;> rfl
theorem GOx.step {k k' : KS} {x : Kc} {n e : Int} {l : List UInt8} (h : GOx k) (hpg : ∀ y ∈ k.fs, y.bs.length = 256) (hs : kStep k x n l e k') : GOx k' := by
  obtain ⟨M, hM, hg⟩ := h
  unfold kStep at hs
  split at hs
  · obtain ⟨_, _, _, rfl⟩ := hs; exact ⟨M, hM, hg⟩
  · rename_i hno
    split at hs
    · rename_i h8
      by_cases h5 : x.op ≤ 5
      · rw [kFB_dDo (s := ⟨x.s.toArray⟩) (by simp) (by omega) h5] at hs
        injection hs with e1 e2 e3 e4
        subst e4
        exact ⟨M + 1, by omega, hg.turnQ hM hpg⟩
      · have := kFB_fs6 (k := k) (x := x) (by omega)
        rw [hs] at this
        exact ⟨M, hM, by rw [show k'.fs = k.fs from this]; exact hg⟩
    · split at hs
      · obtain ⟨hb, _⟩ := hs
        rcases hb with ⟨_, _, _, rfl⟩ | ⟨_, _, _, _, rfl⟩ | ⟨_, _, _, _, y, _, _, _, rfl⟩ <;> exact ⟨M, hM, hg⟩
      · split at hs
        · obtain ⟨hb, _⟩ := hs
          rcases hb with ⟨_, _, rfl⟩ | ⟨i, _, _, rfl⟩ <;> exact ⟨M, hM, hg⟩
        · split at hs
          · obtain ⟨hb, _⟩ := hs
            rcases hb with ⟨_, _, _, rfl⟩ | ⟨_, _, _, _, rfl⟩ | ⟨_, _, _, _, y, _, _, rfl⟩
            · exact ⟨M, hM, hg⟩
            · exact ⟨M, hM, hg⟩
            · exact ⟨M + x.l.length, by omega, GOk.gHoldAll x.l hg⟩
          · split at hs
            · split at hs
              · rcases hs with ⟨_, _, _, _, rfl⟩ | ⟨y, q, _, _, _, _, rfl⟩ <;> exact ⟨M, hM, hg⟩
              · rcases hs with ⟨_, _, _, _, rfl⟩ | ⟨y, q, _, _, _, _, rfl⟩ <;> exact ⟨M, hM, hg⟩
            · obtain ⟨_, _, _, rfl⟩ := hs; exact ⟨M, hM, hg⟩
theorem GOx.dep {k k' : KS} {env e : Int} {l : List UInt8} (h : GOx k) (hi : HInv k) (hd : kDep k l env e k') : GOx k' := by
  obtain ⟨M, hM, hg⟩ := h
  rcases hd with ⟨_, _, _, _, rfl⟩ | ⟨y, q, hq, _, _, _, rfl⟩
  · exact ⟨M, hM, hg⟩
  · exact ⟨M, hM, hg.gDropAll (hi.first hq).1⟩
theorem GOx.arr {k k' : KS} {s : List UInt8} {n e : Int} (h : GOx k) (ha : kArr k s n e k') : GOx k' := by
  obtain ⟨M, hM, hg⟩ := h
  exact ⟨M, hM, by rw [(kArr_inv ha).1]; exact hg⟩
section
variable {R : Ending → World → Prop} {w0 w : World} {B m : Nat} {q : QA} {k : KS} {f1 f2 : List Bnd}
theorem Qn.key_qo {f1 f2 : List Tq} (h : Qn w0 B w q { k with qo := f1 }) (he : f1.map tkey = f2.map tkey) : Qn w0 B w q { k with qo := f2 } := by
  have hl : f1.length = f2.length := by have := congrArg List.length he; simpa using this
  obtain ⟨ys, hy⟩ := h.o
  exact ⟨h.old, h.hB, h.g.cast (by simp [QA.cells, hl]), h.t, h.d, h.f, h.in1, h.in2, ⟨ys, hy.key.trans he, hy.rd, hy.p⟩, h.new, h.nM, h.nO, ⟨h.cp.1, h.cp.2.1, h.cp.2.2.1, by have := h.cp.2.2.2; simp only at this ⊢; omega⟩⟩
theorem RcP.same_qo {n e : Int} {l : List UInt8} {fs : List Fr} {y z : Tq} (h : RcP R w0 B w q { k with fs := fs, qo := k.qo ++ [z] } n l e) (he : tkey y = tkey z) : RcP R w0 B w q { k with fs := fs, qo := k.qo ++ [y] } n l e :=
  fun q' w' h1 h2 h3 h4 => h q' w' h1 (Qn.key_qo (k := { k with fs := fs }) h2 (by simp [he])) h3 h4
end
end
end Go.Proofs.YtedblbpmlbjnhaaGreat
