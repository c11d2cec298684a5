/- pantlerref09: Call at op 12 (receive). pantlerref09: Call at op 10 (unbind). -/
import Derived.Test.YtedblbpmlbjnhaaGreatPD39
import Derived.StillTailTactics
import Derived.Test.YtedblbpmlbjnhaaGreatPD27
namespace Go.Proofs.YtedblbpmlbjnhaaGreat
/-! ### pantlerref09: Call at op 12 (receive). -/
section
open Go.RowKit Go.Shelf
set_option linter.unusedVariables false
set_option linter.unusedSimpArgs false
set_option maxRecDepth 100000
section
variable {R : Ending → World → Prop} {w0 w : World} {B m : Nat} {q : QA} {k : KS}
set_option maxHeartbeats 4000000 in
theorem rc_12a (hQ : Qn w0 B w q k) (c : Cl) (he1 : c.env = 1) (h0 : k.q1 = [] → RcP R w0 B w q k 0 [] 11)
    (h1 : ∀ y q', k.q1 = y :: q' → RcP R w0 B w q { k with f1 := k.f1 + 1, q1 := q' } 0 y.l 0) :
    Calls Tryz.prog 11 #[.pointer (some ⟨q.g, 0, none⟩), .agg #[.int .i64 12, .int .i64 c.env, .int .i64 c.a, .int .i64 c.b, .int .i64 c.c, .string c.s, .slice c.p.A c.p.n c.p.c, .slice c.l.A c.l.n c.l.c]] w R := by
  have H0 := Lib.hid h0
  have H1 := Lib.hid h1
  have HQ := Lib.hid hQ
  clear h0 h1
  rw [he1]
  cases hq : k.q1 with
  | nil =>
    have HX := Lib.hid (H0.out hq)
    have c5 : ∀ o, (w.alloc o).cell? ⟨q.g, 5, none⟩ = some (.slice q.i1 0 q.c1) := fun o => by have := (hQ.g.alloc o).cell 5; rw [this]; simp [QA.cells, hq]
    clear hq hQ H0 H1
    go_enter Tryz.func11, Tryz.ntmps11
    go_upto_region 49 with (fail)
    go_quiet (fail)
    go_wp2
    exact bodyPost_ret (v := .tuple #[.int .i64 0, .string (S []), .int .i64 11]) (by simp [results, Tryz.results11, go_sem]; try rfl) rfl (HX.out q _ (((Kp.refl _ _).alloc _).drewN _) (HQ.out.kp (((Kp.refl _ _).alloc _).drewN _)) rfl ⟨rfl, rfl⟩)
  | cons y q' =>
    have HX := Lib.hid (H1.out y q' hq)
    have hn := hQ.in1
    rw [hq] at hn
    have HN := Lib.hid hn
    obtain ⟨b, off, cs, hA, hb, hz, hcs⟩ := hn (by simp)
    have hcp := hQ.cp.2.1
    rw [hq] at hcp
    have HQ1 := Lib.hid hq
    clear hcp hz hcs hn H0 H1
    go_enter Tryz.func11, Tryz.ntmps11
    go_upto_region 49 with (fail)
    refine genV (fun W => ∃ gx, w.heap.size = gx ∧ Kp [] w W ∧ W.cell? ⟨gx, 1, none⟩ = some (.int .i64 1)) ⟨_, rfl, (Kp.refl _ _).alloc _, (Bk.newAt rfl _ _).cell 1⟩ ?_
    rintro W ⟨gx, hgx, kW, b1⟩
    rw [hgx]
    have c5 : W.cell? ⟨q.g, 5, none⟩ = some (.slice (some ⟨b, off, none⟩) (q'.length + 1) q.c1) := by rw [← hA]; have := (HQ.out.g.kp kW (by simp)).cell 5; rw [this]; simp [QA.cells, HQ1.out]
    go_quiet (fail)
    go_upto_region 52 with (fail)
    have hcc : q'.length + 1 ≤ q.c1 := by have := HQ.out.cp.2.1; rw [HQ1.out] at this; simpa using this
    obtain ⟨n, hn⟩ : ∃ n, q'.length + 1 = n := ⟨_, rfl⟩
    rw [hn] at hcc c5 ⊢
    have hn1 : 1 ≤ n := by omega
    have hn2 : (1 : Int) ≤ (n : Int) := by omega
    have hn3 : n ≤ q.c1 := hcc
    have kN : ∀ m, Kp [] w (W.drewN m) := fun m => kW.drewN m
    have hg5 : ∀ m, (W.drewN m).cell? ⟨q.g, 5, none⟩ = some (.slice (some ⟨b, off, none⟩) n q.c1) := fun m => c5
    have hb5 := (HQ.out.g.kp kW (by simp))
    have z5 := hb5.frozen 5
    have l5 := hb5.lt
    have HY : Hid (∀ W', Kp [q.g] w W' → W'.cell? ⟨b, off, none⟩ = some (.string (S y.l))) := Lib.hid (fun W' k' => by
      have h1 := HN.out.kp k' (fun s hs => .inl (Qn.own3 q s hs))
      obtain ⟨b', off', cs', hA', _, hz', hcs'⟩ := h1 (by simp)
      rw [hA] at hA'
      injection hA' with hA'
      injection hA' with e1 e2
      subst e1; subst e2
      have := hcs' 0 _ rfl
      rw [hz'.cell]; simpa [slV] using this)
    have HF : Hid (∀ (m : Nat) (A9 : Option Addr) (D9 : Nat), (q.c1 = 1 ∧ A9 = some ⟨b, off, none⟩ ∨ q.c1 ≠ 1 ∧ A9 = some ⟨b, off + 1, none⟩) → D9 = q.c1 - 1 → Qn w0 B ((W.drewN m).setCell ⟨q.g, 5, none⟩ (.slice A9 (n - 1) D9)) { q with i1 := A9, c1 := D9 } { k with f1 := k.f1 + 1, q1 := q' } ∧ Kp q.own w ((W.drewN m).setCell ⟨q.g, 5, none⟩ (.slice A9 (n - 1) D9)) ∧ Kp [q.g] w ((W.drewN m).setCell ⟨q.g, 5, none⟩ (.slice A9 (n - 1) D9))) := Lib.hid (fun m A9 D9 hA9 hD9 => by
      have kN' := kN m
      have Q9 := HQ.out.kp kN'
      have kg : Kp [q.g] (W.drewN m) ((W.drewN m).setCell ⟨q.g, 5, none⟩ (.slice A9 (n - 1) D9)) := (Kp.refl [q.g] _).setCell (p := ⟨q.g, 5, none⟩) (.inl (by simp)) _
      have hs : ∀ s ∈ [q.g], s ∈ q.own ∨ (W.drewN m).heap.size ≤ s := fun s hm => .inl (Qn.own3 q s hm)
      obtain ⟨ys, hys⟩ := Q9.f
      obtain ⟨zs, hzs⟩ := Q9.o
      have ht : Nb (W.drewN m) q.own 9 A9 (q'.map slV) := by
        have h1 := Q9.in1
        rw [HQ1.out, List.map_cons, hA] at h1
        rcases hA9 with ⟨hc1, rfl⟩ | ⟨hc1, rfl⟩
        · have : q' = [] := List.length_eq_zero_iff.1 (by omega)
          subst this
          exact Nb.nil
        · have := h1.tail
          have e2 : (⟨b, off, none⟩ : Addr).add 1 = ⟨b, off + 1, none⟩ := by unfold Addr.add; split <;> simp_all
          rwa [Option.map_some, e2] at this
      obtain ⟨r1, r2⟩ := Q9.setG (k' := { k with f1 := k.f1 + 1, q1 := q' }) (fA' := q.fA) (fc' := q.fc) (i1' := A9) (c1' := D9) (i2' := q.i2) (c2' := q.c2) (oA' := q.oA) (oc' := q.oc) kg rfl rfl ((Q9.g.set_ 5 _).cast (by simp [QA.cells, ← hn]))
        ⟨ys, hys.kp kg hs⟩ (ht.kp kg hs) (Q9.in2.kp kg hs) ⟨zs, hzs.kp kg hs⟩ ⟨Q9.cp.1, by show q'.length ≤ D9; omega, Q9.cp.2.2⟩
      exact ⟨r1, (kN'.mono (by simp)).thn r2 (fun s hs => .inl hs), (kN'.mono (by simp)).thn kg (fun s hs => .inl hs)⟩)
    have HH := HX.out
    clear he1 hA hb HQ HX HN HQ1 hq hQ hb5 hn hcc kW kN
    by_cases hc1 : q.c1 = 1
    · have HC1 := Lib.hid hc1
      have hg5' := hg5
      simp only [hc1] at hg5' c5
      go_region_law (fail)
      go_upto_region 53 with (fail)
      obtain ⟨r1, r2, r3⟩ := HF.out (nq + 1) (some ⟨b, off, none⟩) 0 (.inl ⟨HC1.out, rfl⟩) (by have := HC1.out; omega)
      have y0 := HY.out _ r3
      have R1 := Lib.hid r1
      have R2 := Lib.hid r2
      have HHH := Lib.hid HH
      clear HF HY r1 r2 r3 HH hg5 z5 l5 c5 b1
      go_quiet (fail)
      go_wp2
      exact bodyPost_ret (v := .tuple #[.int .i64 0, .string (S y.l), .int .i64 0]) (by simp [results, Tryz.results11, go_sem]; try rfl) rfl (HHH.out _ _ (R2.out.drewN _) (R1.out.kp ((Kp.refl _ _).drewN _)) rfl ⟨rfl, rfl⟩)
    · have HC1 := Lib.hid hc1
      go_region_law (fail)
      go_upto_region 53 with (fail)
      obtain ⟨r1, r2, r3⟩ := HF.out (nq + 1) (some ⟨b, off + 1, none⟩) (q.c1 - 1) (.inr ⟨HC1.out, rfl⟩) rfl
      have y0 := HY.out _ r3
      have R1 := Lib.hid r1
      have R2 := Lib.hid r2
      have HHH := Lib.hid HH
      clear HF HY r1 r2 r3 HH hg5 z5 l5 c5 b1
      go_quiet (fail)
      go_wp2
      exact bodyPost_ret (v := .tuple #[.int .i64 0, .string (S y.l), .int .i64 0]) (by simp [results, Tryz.results11, go_sem]; try rfl) rfl (HHH.out _ _ (R2.out.drewN _) (R1.out.kp ((Kp.refl _ _).drewN _)) rfl ⟨rfl, rfl⟩)
set_option maxHeartbeats 4000000 in
theorem rc_12b (hQ : Qn w0 B w q k) (c : Cl) (he1 : c.env = 2) (h0 : k.q2 = [] → RcP R w0 B w q k 0 [] 11)
    (h1 : ∀ y q', k.q2 = y :: q' → RcP R w0 B w q { k with f2 := k.f2 + 1, q2 := q' } 0 y.l 0) :
    Calls Tryz.prog 11 #[.pointer (some ⟨q.g, 0, none⟩), .agg #[.int .i64 12, .int .i64 c.env, .int .i64 c.a, .int .i64 c.b, .int .i64 c.c, .string c.s, .slice c.p.A c.p.n c.p.c, .slice c.l.A c.l.n c.l.c]] w R := by
  have H0 := Lib.hid h0
  have H1 := Lib.hid h1
  have HQ := Lib.hid hQ
  clear h0 h1
  rw [he1]
  cases hq : k.q2 with
  | nil =>
    have HX := Lib.hid (H0.out hq)
    have c5 : ∀ o, (w.alloc o).cell? ⟨q.g, 6, none⟩ = some (.slice q.i2 0 q.c2) := fun o => by have := (hQ.g.alloc o).cell 6; rw [this]; simp [QA.cells, hq]
    clear hq hQ H0 H1
    go_enter Tryz.func11, Tryz.ntmps11
    go_upto_region 49 with (fail)
    go_quiet (fail)
    go_wp2
    exact bodyPost_ret (v := .tuple #[.int .i64 0, .string (S []), .int .i64 11]) (by simp [results, Tryz.results11, go_sem]; try rfl) rfl (HX.out q _ (((Kp.refl _ _).alloc _).drewN _) (HQ.out.kp (((Kp.refl _ _).alloc _).drewN _)) rfl ⟨rfl, rfl⟩)
  | cons y q' =>
    have HX := Lib.hid (H1.out y q' hq)
    have hn := hQ.in2
    rw [hq] at hn
    have HN := Lib.hid hn
    obtain ⟨b, off, cs, hA, hb, hz, hcs⟩ := hn (by simp)
    have hcp := hQ.cp.2.2.1
    rw [hq] at hcp
    have HQ1 := Lib.hid hq
    clear hcp hz hcs hn H0 H1
    go_enter Tryz.func11, Tryz.ntmps11
    go_upto_region 49 with (fail)
    refine genV (fun W => ∃ gx, w.heap.size = gx ∧ Kp [] w W ∧ W.cell? ⟨gx, 1, none⟩ = some (.int .i64 2)) ⟨_, rfl, (Kp.refl _ _).alloc _, (Bk.newAt rfl _ _).cell 1⟩ ?_
    rintro W ⟨gx, hgx, kW, b1⟩
    rw [hgx]
    have c5 : W.cell? ⟨q.g, 6, none⟩ = some (.slice (some ⟨b, off, none⟩) (q'.length + 1) q.c2) := by rw [← hA]; have := (HQ.out.g.kp kW (by simp)).cell 6; rw [this]; simp [QA.cells, HQ1.out]
    go_quiet (fail)
    go_upto_region 52 with (fail)
    have hcc : q'.length + 1 ≤ q.c2 := by have := HQ.out.cp.2.2.1; rw [HQ1.out] at this; simpa using this
    obtain ⟨n, hn⟩ : ∃ n, q'.length + 1 = n := ⟨_, rfl⟩
    rw [hn] at hcc c5 ⊢
    have hn1 : 1 ≤ n := by omega
    have hn2 : (1 : Int) ≤ (n : Int) := by omega
    have hn3 : n ≤ q.c2 := hcc
    have kN : ∀ m, Kp [] w (W.drewN m) := fun m => kW.drewN m
    have hg5 : ∀ m, (W.drewN m).cell? ⟨q.g, 6, none⟩ = some (.slice (some ⟨b, off, none⟩) n q.c2) := fun m => c5
    have hb5 := (HQ.out.g.kp kW (by simp))
    have z5 := hb5.frozen 6
    have l5 := hb5.lt
    have HY : Hid (∀ W', Kp [q.g] w W' → W'.cell? ⟨b, off, none⟩ = some (.string (S y.l))) := Lib.hid (fun W' k' => by
      have h1 := HN.out.kp k' (fun s hs => .inl (Qn.own3 q s hs))
      obtain ⟨b', off', cs', hA', _, hz', hcs'⟩ := h1 (by simp)
      rw [hA] at hA'
      injection hA' with hA'
      injection hA' with e1 e2
      subst e1; subst e2
      have := hcs' 0 _ rfl
      rw [hz'.cell]; simpa [slV] using this)
    have HF : Hid (∀ (m : Nat) (A9 : Option Addr) (D9 : Nat), (q.c2 = 1 ∧ A9 = some ⟨b, off, none⟩ ∨ q.c2 ≠ 1 ∧ A9 = some ⟨b, off + 1, none⟩) → D9 = q.c2 - 1 → Qn w0 B ((W.drewN m).setCell ⟨q.g, 6, none⟩ (.slice A9 (n - 1) D9)) { q with i2 := A9, c2 := D9 } { k with f2 := k.f2 + 1, q2 := q' } ∧ Kp q.own w ((W.drewN m).setCell ⟨q.g, 6, none⟩ (.slice A9 (n - 1) D9)) ∧ Kp [q.g] w ((W.drewN m).setCell ⟨q.g, 6, none⟩ (.slice A9 (n - 1) D9))) := Lib.hid (fun m A9 D9 hA9 hD9 => by
      have kN' := kN m
      have Q9 := HQ.out.kp kN'
      have kg : Kp [q.g] (W.drewN m) ((W.drewN m).setCell ⟨q.g, 6, none⟩ (.slice A9 (n - 1) D9)) := (Kp.refl [q.g] _).setCell (p := ⟨q.g, 6, none⟩) (.inl (by simp)) _
      have hs : ∀ s ∈ [q.g], s ∈ q.own ∨ (W.drewN m).heap.size ≤ s := fun s hm => .inl (Qn.own3 q s hm)
      obtain ⟨ys, hys⟩ := Q9.f
      obtain ⟨zs, hzs⟩ := Q9.o
      have ht : Nb (W.drewN m) q.own 9 A9 (q'.map slV) := by
        have h1 := Q9.in2
        rw [HQ1.out, List.map_cons, hA] at h1
        rcases hA9 with ⟨hc1, rfl⟩ | ⟨hc1, rfl⟩
        · have : q' = [] := List.length_eq_zero_iff.1 (by omega)
          subst this
          exact Nb.nil
        · have := h1.tail
          have e2 : (⟨b, off, none⟩ : Addr).add 1 = ⟨b, off + 1, none⟩ := by unfold Addr.add; split <;> simp_all
          rwa [Option.map_some, e2] at this
      obtain ⟨r1, r2⟩ := Q9.setG (k' := { k with f2 := k.f2 + 1, q2 := q' }) (fA' := q.fA) (fc' := q.fc) (i1' := q.i1) (c1' := q.c1) (i2' := A9) (c2' := D9) (oA' := q.oA) (oc' := q.oc) kg rfl rfl ((Q9.g.set_ 6 _).cast (by simp [QA.cells, ← hn]))
        ⟨ys, hys.kp kg hs⟩ (Q9.in1.kp kg hs) (ht.kp kg hs) ⟨zs, hzs.kp kg hs⟩ ⟨Q9.cp.1, Q9.cp.2.1, by show q'.length ≤ D9; omega, Q9.cp.2.2.2⟩
      exact ⟨r1, (kN'.mono (by simp)).thn r2 (fun s hs => .inl hs), (kN'.mono (by simp)).thn kg (fun s hs => .inl hs)⟩)
    have HH := HX.out
    clear he1 hA hb HQ HX HN HQ1 hq hQ hb5 hn hcc kW kN
    by_cases hc1 : q.c2 = 1
    · have HC1 := Lib.hid hc1
      have hg5' := hg5
      simp only [hc1] at hg5' c5
      go_region_law (fail)
      go_upto_region 53 with (fail)
      obtain ⟨r1, r2, r3⟩ := HF.out (nq + 1) (some ⟨b, off, none⟩) 0 (.inl ⟨HC1.out, rfl⟩) (by have := HC1.out; omega)
      have y0 := HY.out _ r3
      have R1 := Lib.hid r1
      have R2 := Lib.hid r2
      have HHH := Lib.hid HH
      clear HF HY r1 r2 r3 HH hg5 z5 l5 c5 b1
      go_quiet (fail)
      go_wp2
      exact bodyPost_ret (v := .tuple #[.int .i64 0, .string (S y.l), .int .i64 0]) (by simp [results, Tryz.results11, go_sem]; try rfl) rfl (HHH.out _ _ (R2.out.drewN _) (R1.out.kp ((Kp.refl _ _).drewN _)) rfl ⟨rfl, rfl⟩)
    · have HC1 := Lib.hid hc1
      go_region_law (fail)
      go_upto_region 53 with (fail)
      obtain ⟨r1, r2, r3⟩ := HF.out (nq + 1) (some ⟨b, off + 1, none⟩) (q.c2 - 1) (.inr ⟨HC1.out, rfl⟩) rfl
      have y0 := HY.out _ r3
      have R1 := Lib.hid r1
      have R2 := Lib.hid r2
      have HHH := Lib.hid HH
      clear HF HY r1 r2 r3 HH hg5 z5 l5 c5 b1
      go_quiet (fail)
      go_wp2
      exact bodyPost_ret (v := .tuple #[.int .i64 0, .string (S y.l), .int .i64 0]) (by simp [results, Tryz.results11, go_sem]; try rfl) rfl (HHH.out _ _ (R2.out.drewN _) (R1.out.kp ((Kp.refl _ _).drewN _)) rfl ⟨rfl, rfl⟩)
end
end
/-! ### pantlerref09: Call at op 10 (unbind). -/
section
open Go.RowKit Go.Shelf
set_option linter.unusedVariables false
set_option linter.unusedSimpArgs false
set_option maxRecDepth 100000
section
variable {R : Ending → World → Prop} {w0 w : World} {B m : Nat} {q : QA} {k : KS}
theorem flat_take {ys : List Bnd} (i : Nat) : (ys.flatMap Bnd.vals).take (i * 3) = (ys.take i).flatMap Bnd.vals := by
  induction ys generalizing i with
  | nil => simp
  | cons y ys ih =>
    cases i with
    | zero => simp
    | succ i =>
      rw [List.flatMap_cons, List.take_succ_cons, List.flatMap_cons, show (i + 1) * 3 = 3 + i * 3 by omega, List.take_append, bvals_len, List.take_of_length_le (by rw [bvals_len]; omega), show 3 + i * 3 - 3 = i * 3 by omega, ih]
theorem flat_drop {ys : List Bnd} (i : Nat) : (ys.flatMap Bnd.vals).drop (i * 3) = (ys.drop i).flatMap Bnd.vals := by
  induction ys generalizing i with
  | nil => simp
  | cons y ys ih =>
    cases i with
    | zero => simp
    | succ i =>
      rw [List.flatMap_cons, List.drop_succ_cons, show (i + 1) * 3 = 3 + i * 3 by omega, List.drop_append, bvals_len, List.drop_of_length_le (by rw [bvals_len]; omega), show 3 + i * 3 - 3 = i * 3 by omega, ih]; rfl
theorem erase_map {α β : Type} (f : α → β) : ∀ (l : List α) (i : Nat), (l.map f).eraseIdx i = (l.eraseIdx i).map f
  | [], _ => rfl
  | _ :: _, 0 => rfl
  | x :: l, i + 1 => by simp [erase_map f l i]
theorem key_idx {fl ys : List Bnd} (h : ys.map bkey = fl.map bkey) (a e : Int) : ys.findIdx? (bhit a e) = fl.findIdx? (bhit a e) := by
  have e1 : ∀ l : List Bnd, l.findIdx? (bhit a e) = (l.map bkey).findIdx? (fun x => x.1 == a && x.2.1 == e) := by
    intro l
    rw [List.findIdx?_map]; rfl
  rw [e1, e1, h]
theorem find_stopQ {ys : List Bnd} {a e : Int} {i : Nat} {y : Bnd} (hy : ys[i]? = some y) (hno : ∀ j z, j < i → ys[j]? = some z → bhit a e z = false) (hh : bhit a e y = true) : ys.findIdx? (bhit a e) = some i := by
  rw [List.findIdx?_eq_some_iff_getElem]
  obtain ⟨hl, hy⟩ := List.getElem?_eq_some_iff.1 hy
  exact ⟨hl, by rw [hy]; exact hh, fun j hj => by rw [hno j _ hj (List.getElem?_eq_getElem (by omega))]; simp⟩
theorem find_noneQ {ys : List Bnd} {a e : Int} (hno : ∀ j z, j < ys.length → ys[j]? = some z → bhit a e z = false) : ys.findIdx? (bhit a e) = none := by
  rw [List.findIdx?_eq_none_iff]
  intro x hx
  obtain ⟨j, hj, rfl⟩ := List.getElem_of_mem hx
  exact hno j _ hj (List.getElem?_eq_getElem hj)
set_option maxHeartbeats 8000000 in
theorem rc_10 (hQ : Qn w0 B w q k) (hf8 : k.fl.length ≤ 8) (c : Cl) (he1 : 1 ≤ c.env) (he2 : c.env ≤ 2)
    (h0 : k.fl.findIdx? (bhit c.a c.env) = none → RcP R w0 B w q k 0 [] 11) (h1 : ∀ i, k.fl.findIdx? (bhit c.a c.env) = some i → RcP R w0 B w q { k with fl := k.fl.eraseIdx i } 0 [] 0) :
    Calls Tryz.prog 11 #[.pointer (some ⟨q.g, 0, none⟩), .agg #[.int .i64 10, .int .i64 c.env, .int .i64 c.a, .int .i64 c.b, .int .i64 c.c, .string c.s, .slice c.p.A c.p.n c.p.c, .slice c.l.A c.l.n c.l.c]] w R := by
  have H0 := Lib.hid h0
  have H1 := Lib.hid h1
  have HQ := Lib.hid hQ
  have hn1 : ¬ c.env < 1 := by omega
  have hn2 : ¬ 2 < c.env := by omega
  clear h0 h1
  go_enter Tryz.func11, Tryz.ntmps11
  go_upto_region 32 with (fail)
  refine genV (fun W => ∃ gx, w.heap.size = gx ∧ Kp [] w W ∧ Bk W gx 34 [.int .i64 10, .int .i64 c.env, .int .i64 c.a, .int .i64 c.b, .int .i64 c.c, .string c.s, .slice c.p.A c.p.n c.p.c, .slice c.l.A c.l.n c.l.c]) ⟨_, rfl, (Kp.refl _ _).alloc _, (Bk.newAt rfl _ _).cast rfl⟩ ?_
  rintro W1 ⟨gx, hgx, kW1, bX1⟩
  rw [hgx]
  have KW1 := Lib.hid kW1
  have BX1 := Lib.hid bX1
  obtain ⟨ys, hys⟩ := hQ.f
  have HYS := Lib.hid hys
  have hyl := hys.len
  clear hgx kW1 bX1 hQ hys
  go_wp2
  go_loopw [13] (fun iv wr => ∃ i : Nat, i ≤ k.fl.length ∧ iv = .int .i64 i ∧ Hid (Kp [] W1 wr) ∧ Hid (∀ j z, j < i → ys[j]? = some z → bhit c.a c.env z = false)) (fun iv _ => k.fl.length - (intOf iv).toNat)
  case atStart => exact ⟨0, Nat.zero_le _, rfl, Lib.hid (Kp.refl _ _), Lib.hid (by intro j z hj; omega)⟩
  case round =>
    obtain ⟨i, hi, rfl, kr, hno⟩ := hrel
    have QW := Lib.hid ((HQ.out.kp KW1.out).kp kr.out)
    have BX := Lib.hid (BX1.out.kp kr.out (by simp))
    have c2 : wr.cell? ⟨q.g, 2, none⟩ = some (.slice q.fA k.fl.length q.fc) := QW.out.g.cell 2
    by_cases hlt : i < k.fl.length
    · obtain ⟨y, hy, hym⟩ := get_lt (l := ys) (k := i) (by omega)
      have hrd : Nb wr q.own 139 q.fA (ys.flatMap Bnd.vals) := (HYS.out.rd.kp KW1.out (by simp)).kp kr.out (by simp)
      obtain ⟨b, off, hA, _, hbl, hcc⟩ := rd_at hrd.rd bvals_len (by omega) hy
      have d0 := hcc 0 _ rfl
      have d1 := hcc 1 _ rfl
      rw [Nat.add_zero] at d0
      have b1 : wr.cell? ⟨gx, 1, none⟩ = some (.int .i64 c.env) := BX.out.cell 1
      have b2 : wr.cell? ⟨gx, 2, none⟩ = some (.int .i64 c.a) := BX.out.cell 2
      have HY := Lib.hid hy
      have HRD := Lib.hid hrd
      have HA := Lib.hid hA
      rw [hA] at c2
      clear hcc hy hrd hA
      by_cases hid : y.id = c.a
      · have g1 : (y.id == c.a) = true := by simp [hid]
        by_cases hen : y.env = c.env
        · have g2 : (y.env == c.env) = true := by simp [hen]
          have HX := Lib.hid (H1.out i (by rw [← key_idx HYS.out.key]; exact find_stopQ HY.out hno.out (by simp [bhit, hid, hen])))
          go_upto_region 35 with (fail)
          go_quiet (fail)
          clear hid hen d0 d1 b1 b2
          go_upto_region 36 with (fail)
          refine genV (fun W => Kp [] wr W) ((Kp.refl _ _).drewN _) ?_
          intro W0 kw0
          have QZ := Lib.hid (QW.out.kp kw0)
          have KZ : Hid (Kp [] w W0) := Lib.hid ((KW1.out.trans kr.out).trans kw0)
          obtain ⟨n, hn⟩ : ∃ n, k.fl.length = n := ⟨_, rfl⟩
          obtain ⟨cc, hc⟩ : ∃ cc, q.fc = cc := ⟨_, rfl⟩
          have hcap := QZ.out.cp.1
          rw [hn, hc] at hcap
          have hR0 := HRD.out.kp kw0 (by simp)
          have HRd : Hid (∀ W, Kp [] W0 W → Rd W [] (some ⟨b, off, none⟩) ((ys.take i).flatMap Bnd.vals)) := Lib.hid (fun W k' => by
            have h1 := (hR0.kp k' (by simp)).rd.sub (N' := []) (by simp)
            rw [HA.out] at h1
            have h2 := h1.take (i * 3)
            rwa [flat_take] at h2)
          have HRd2 : Hid (∀ W A9, Kp [] W0 W → (cc = i + 1 ∧ A9 = some ⟨b, off, none⟩ ∨ cc ≠ i + 1 ∧ A9 = some ⟨b, off + (i + 1) * 3, none⟩) → Rd W [] A9 ((ys.drop (i + 1)).flatMap Bnd.vals)) := Lib.hid (fun W A9 k' hA9 => by
            have h1 := (hR0.kp k' (by simp)).rd.sub (N' := []) (by simp)
            rw [HA.out] at h1
            by_cases hne : i + 1 < n
            · have h2 := h1.drop ((i + 1) * 3) (by rw [flat_len bvals_len]; omega)
              rw [flat_drop] at h2
              rcases hA9 with ⟨h3, _⟩ | ⟨_, rfl⟩
              · omega
              · have e2 : (⟨b, off, none⟩ : Addr).add ((i + 1) * 3) = ⟨b, off + (i + 1) * 3, none⟩ := by unfold Addr.add; split <;> simp_all
                rwa [Option.map_some, e2] at h2
            · have : ys.drop (i + 1) = [] := List.drop_of_length_le (by omega)
              rw [this]; exact Rd.nil)
          have hi' : i < n := by omega
          have HLN : Hid (((ys.take i).flatMap Bnd.vals).length = i * 3) := Lib.hid (by rw [flat_len bvals_len, List.length_take, Nat.min_eq_left (by omega)])
          have HNL : Hid (((ys.drop (i + 1)).flatMap Bnd.vals).length = (n - (i + 1)) * 3) := Lib.hid (by rw [flat_len bvals_len, List.length_drop, hyl, hn])
          have HMW : Hid (∀ u ∈ (ys.take i).flatMap Bnd.vals, u.oneCell' = true) := Lib.hid (bvals1 _)
          have HNW : Hid (∀ u ∈ (ys.drop (i + 1)).flatMap Bnd.vals, u.oneCell' = true) := Lib.hid (bvals1 _)
          have HW0 : Hid (∀ W, Kp [] W0 W → Bk W q.g 67 [.pointer (some ⟨q.bM, 0, none⟩), .pointer (some ⟨q.bD, 0, none⟩), .slice (some ⟨b, off, none⟩) n cc, .int .i64 k.nx, .slice none 0 0, .slice q.i1 k.q1.length q.c1, .slice q.i2 k.q2.length q.c2, .slice q.oA k.qo.length q.oc, .int .i64 (k.fo + k.qo.length : Nat), .int .i64 k.dn]) := Lib.hid (fun W k' => (QZ.out.g.kp k' (by simp)).cast (by simp [QA.cells, hn, hc, HA.out]))
          have hwsz : w.heap.size ≤ W0.heap.size := KZ.out.size
          have Fin : Hid (∀ (A' : Option Addr) (c' : Nat) (W9 : World), Kp [] W0 W9 → Ow W9 139 3 A' (i + (n - (i + 1))) c' ((ys.take i).flatMap Bnd.vals ++ (ys.drop (i + 1)).flatMap Bnd.vals) → Fresh W0.heap.size A' →
              R (.returned (.tuple #[.int .i64 0, .string (S []), .int .i64 0])) (W9.setCell ⟨q.g, 2, none⟩ (.slice A' (i + (n - (i + 1))) c'))) := Lib.hid (fun A' c' W9 k9 ho hfr => by
            have Q9 := QZ.out.kp k9
            have kg : Kp [q.g] W9 (W9.setCell ⟨q.g, 2, none⟩ (.slice A' (i + (n - (i + 1))) c')) := (Kp.refl [q.g] W9).setCell (p := ⟨q.g, 2, none⟩) (.inl (by simp)) _
            have hs : ∀ s ∈ [q.g], s ∈ q.own ∨ W9.heap.size ≤ s := fun s hm => .inl (Qn.own3 q s hm)
            obtain ⟨zs, hzs⟩ := Q9.o
            have hfn : ∀ b ∈ bks A', b ∉ q.own := fun b hb hm => by
              have h1 := hfr b hb
              have h2 := QZ.out.lt _ hm
              omega
            have hel : (k.fl.eraseIdx i).length = i + (n - (i + 1)) := by rw [List.length_eraseIdx_of_lt (by omega), hn]; omega
            have hye : ys.eraseIdx i = ys.take i ++ ys.drop (i + 1) := List.eraseIdx_eq_take_drop_succ ..
            obtain ⟨r1, r2⟩ := Q9.setG (k' := { k with fl := k.fl.eraseIdx i }) (fA' := A') (fc' := c') (i1' := q.i1) (c1' := q.c1) (i2' := q.i2) (c2' := q.c2) (oA' := q.oA) (oc' := q.oc) kg rfl rfl ((Q9.g.set_ 2 _).cast (by simp [QA.cells, hel]))
              ⟨ys.eraseIdx i, by show (ys.eraseIdx i).map bkey = (k.fl.eraseIdx i).map bkey; rw [← erase_map, ← erase_map, HYS.out.key], by
                rw [hye, List.flatMap_append]
                exact (ho.nb (N := q.own) hfn).kp kg hs, fun y hy => HYS.out.p y (List.mem_of_mem_eraseIdx hy)⟩ (Q9.in1.kp kg hs) (Q9.in2.kp kg hs) ⟨zs, hzs.kp kg hs⟩ ⟨by show (k.fl.eraseIdx i).length ≤ c'; rw [hel]; exact Ow.capn ho, Q9.cp.2⟩
            exact HX.out _ _ (((KZ.out.mono (by simp)).thn (k9.mono (S' := q.own) (by simp)) (fun s hs => .inl hs)).thn r2 (fun s hs => .inl hs)) r1 rfl ⟨rfl, rfl⟩)
          have hnn : i ≤ 1000000 := by omega
          have hi1 : ((i : Int) + 1) ≤ (n : Int) := by omega
          have hi2 : (i : Int) ≤ (cc : Int) := by omega
          have hi3 : ((i : Int) + 1) ≤ (cc : Int) := by omega
          have hi4 : i + 1 ≤ n := by omega
          have hi5 : i ≤ cc := by omega
          have hw1 : IntKind.i64.wrap ((i : Int) + 1) = ((i + 1 : Nat) : Int) := by rw [wrapV (by omega) (by omega)]; rfl
          have hm8 : n - (i + 1) ≤ 1000000 := by omega
          rw [hn] at hi hlt hf8
          clear c2 g1 g2 HX HQ H0 H1 QW BX BX1 KW1 kr hno kw0 hR0 hcap hc hn hyl HYS HY HRD HA hym QZ KZ hbl hi hlt
          by_cases hc9 : cc = i + 1
          · have HC9 := Lib.hid hc9
            clear hc9
            refine nameA (fun A00 hA00 => ?_)
            have sl0 : A00.tmps.getD 0 undef = .pointer (some ⟨q.g, 0, none⟩) := by rw [hA00]; rfl
            have sl13 : A00.tmps.getD 13 undef = .int .i64 i := by rw [hA00]; rfl
            have sz00 : A00.tmps.size = 341 := by rw [hA00]; rfl
            have HA00 := Lib.hid hA00
            clear hA00
            refine wp_region_inv (fun bP a' W => ∃ (g1 : Nat) (A1 : Option Addr) (c1 : Nat) (A2 : Option Addr) (c2 : Nat), Hid (a'.defers = A00.defers) ∧ Hid (a'.tmps.size = A00.tmps.size) ∧ Hid (∀ k, k ∉ [247, 248, 249, 250, 251, 252, 253, 254, 255, 256, 257, 258, 259, 260, 261, 262, 263, 264, 265] → a'.tmps.getD k undef = A00.tmps.getD k undef) ∧ (bP 0 → a'.tmps.getD 247 undef = .pointer (some ⟨q.g, 0, none⟩)) ∧ (bP 1 → a'.tmps.getD 248 undef = .slice (some ⟨g1, 0, none⟩) 0 0) ∧ (bP 2 → a'.tmps.getD 249 undef = .pointer (some ⟨q.g, 0, none⟩)) ∧ (bP 3 → a'.tmps.getD 250 undef = .pointer (some ⟨q.g, 0, none⟩)) ∧ (bP 4 → a'.tmps.getD 251 undef = .pointer (some ⟨q.g, 2, none⟩)) ∧ (bP 5 → a'.tmps.getD 252 undef = .slice (some ⟨b, off, none⟩) n cc) ∧ (bP 6 → a'.tmps.getD 253 undef = .int .i64 i) ∧ (bP 7 → a'.tmps.getD 254 undef = .slice (some ⟨b, off, none⟩) i cc) ∧ (bP 8 → a'.tmps.getD 255 undef = .slice A1 i c1) ∧ (bP 9 → a'.tmps.getD 256 undef = .pointer (some ⟨q.g, 0, none⟩)) ∧ (bP 10 → a'.tmps.getD 257 undef = .pointer (some ⟨q.g, 0, none⟩)) ∧ (bP 11 → a'.tmps.getD 258 undef = .pointer (some ⟨q.g, 2, none⟩)) ∧ (bP 12 → a'.tmps.getD 259 undef = .slice (some ⟨b, off, none⟩) n cc) ∧ (bP 13 → a'.tmps.getD 260 undef = .int .i64 i) ∧ (bP 14 → a'.tmps.getD 261 undef = .int .i64 (i + 1 : Nat)) ∧ (bP 15 → a'.tmps.getD 262 undef = .slice (some ⟨b, off, none⟩) (n - (i + 1)) 0) ∧ (bP 16 → a'.tmps.getD 263 undef = .slice A2 (i + (n - (i + 1))) c2) ∧ (bP 17 → a'.tmps.getD 264 undef = .pointer (some ⟨q.g, 0, none⟩)) ∧ (bP 18 → a'.tmps.getD 265 undef = .pointer (some ⟨q.g, 2, none⟩)) ∧ (bP 3 → bP 2) ∧ (bP 4 → bP 3) ∧ (bP 5 → bP 4) ∧ (bP 7 → bP 5) ∧ (bP 7 → bP 6) ∧ (bP 8 → bP 1) ∧ (bP 8 → bP 7) ∧ (bP 10 → bP 9) ∧ (bP 11 → bP 10) ∧ (bP 12 → bP 11) ∧ (bP 14 → bP 13) ∧ (bP 15 → bP 12) ∧ (bP 15 → bP 14) ∧ (bP 16 → bP 8) ∧ (bP 16 → bP 15) ∧ (bP 17 → bP 0) ∧ (bP 18 → bP 17) ∧ (bP 19 → bP 16) ∧ (bP 19 → bP 18) ∧ (¬ bP 19 → Hid (Kp [] W0 W)) ∧ (bP 1 → ¬ bP 8 → ¬ bP 19 → Hid (W0.heap.size ≤ g1 ∧ Ow W 139 3 (some ⟨g1, 0, none⟩) 0 0 [])) ∧ (bP 8 → ¬ bP 16 → ¬ bP 19 → Hid (Fresh W0.heap.size A1 ∧ Ow W 139 3 A1 i c1 ((ys.take i).flatMap Bnd.vals))) ∧ (bP 16 → ¬ bP 19 → Hid (Fresh W0.heap.size A2 ∧ Ow W 139 3 A2 (i + (n - (i + 1))) c2 (((ys.take i).flatMap Bnd.vals) ++ ((ys.drop (i + 1)).flatMap Bnd.vals)))) ∧ (bP 19 → Hid (∃ W9, Kp [] W0 W9 ∧ Ow W9 139 3 A2 (i + (n - (i + 1))) c2 (((ys.take i).flatMap Bnd.vals) ++ ((ys.drop (i + 1)).flatMap Bnd.vals)) ∧ Fresh W0.heap.size A2 ∧ W = W9.setCell ⟨q.g, 2, none⟩ (.slice A2 (i + (n - (i + 1))) c2)))) (by kernel_rfl) (by kernel_rfl) 20 rfl ?_ ?_ ?_
            · exact ⟨0, none, 0, none, 0, Lib.hid rfl, Lib.hid rfl, Lib.hid (fun _ _ => rfl), fun h => absurd h id, fun h => absurd h id, fun h => absurd h id, fun h => absurd h id, fun h => absurd h id, fun h => absurd h id, fun h => absurd h id, fun h => absurd h id, fun h => absurd h id, fun h => absurd h id, fun h => absurd h id, fun h => absurd h id, fun h => absurd h id, fun h => absurd h id, fun h => absurd h id, fun h => absurd h id, fun h => absurd h id, fun h => absurd h id, fun h => absurd h id, fun h => absurd h id, fun h => absurd h id, fun h => absurd h id, fun h => absurd h id, fun h => absurd h id, fun h => absurd h id, fun h => absurd h id, fun h => absurd h id, fun h => absurd h id, fun h => absurd h id, fun h => absurd h id, fun h => absurd h id, fun h => absurd h id, fun h => absurd h id, fun h => absurd h id, fun h => absurd h id, fun h => absurd h id, fun h => absurd h id, fun h => absurd h id, fun _ => Lib.hid ((Kp.refl _ _).drew), fun h => absurd h id, fun h => absurd h id, fun h => absurd h id, fun h => absurd h id⟩
            · intro bP a' W iP oP hoP hn hdP hI KP hK
              obtain ⟨g1, A1, c1, A2, c2, ad, az, af, h0, h1, h2, h3, h4, h5, h6, h7, h8, h9, h10, h11, h12, h13, h14, h15, h16, h17, h18, c3_2, c4_3, c5_4, c7_5, c7_6, c8_1, c8_7, c10_9, c11_10, c12_11, c14_13, c15_12, c15_14, c16_8, c16_15, c17_0, c18_17, c19_16, c19_18, hK1, hg1, hg2, hgF, hFin⟩ := hI
              have s0 := (af.out 0 (by decide)).trans sl0
              have s13 := (af.out 13 (by decide)).trans sl13
              match iP, hoP with
              | 0, hoP =>
                injection hoP with hoP; subst hoP
                have nb19 : ¬ bP 19 := fun h => hn (c17_0 (c18_17 (c19_18 h)))
                have HK := Lib.hid hK
                obtain ⟨sv0, sw0⟩ := ev_of s0
                clear hK hdP
                rw [if_pos (by rfl)]
                go_simp
                exact HK.out _ _ ⟨g1, A1, c1, A2, c2, Lib.hid ad.out, Lib.hid (gd_size.trans az.out), Lib.hid (fun k hk => (gd_ne (by rintro rfl; exact hk (by decide))).trans (af.out k hk)), fun _ => gd_eq (by rw [az.out, sz00]; decide), gdI h1, gdI h2, gdI h3, gdI h4, gdI h5, gdI h6, gdI h7, gdI h8, gdI h9, gdI h10, gdI h11, gdI h12, gdI h13, gdI h14, gdI h15, gdI h16, gdI h17, gdI h18, giI c3_2, giI c4_3, giI c5_4, giI c7_5, giI c7_6, giI c8_1, giI c8_7, giI c10_9, giI c11_10, giI c12_11, giI c14_13, giI c15_12, giI c15_14, giI c16_8, giI c16_15, giI c17_0, giI c18_17, giI c19_16, giI c19_18, fun n19 => (hK1 (fun z => n19 (.inr z))), fun p1 n8 n19 => (hg1 (rlI p1) (fun z => n8 (.inr z)) (fun z => n19 (.inr z))), fun p8 n16 n19 => (hg2 (rlI p8) (fun z => n16 (.inr z)) (fun z => n19 (.inr z))), fun p16 n19 => (hgF (rlI p16) (fun z => n19 (.inr z))), fun p19 => absurd (c17_0 (c18_17 (c19_18 (rlI p19)))) hn⟩
              | 1, hoP =>
                injection hoP with hoP; subst hoP
                have nb8 : ¬ bP 8 := fun h => hn (c8_1 h)
                have nb16 : ¬ bP 16 := fun h => hn (c8_1 (c16_8 h))
                have nb19 : ¬ bP 19 := fun h => hn (c8_1 (c16_8 (c19_16 h)))
                have HK := Lib.hid hK
                clear hK hdP
                rw [if_pos (by rfl)]
                go_simp
                exact HK.out _ _ ⟨W.heap.size, A1, c1, A2, c2, Lib.hid ad.out, Lib.hid (gd_size.trans az.out), Lib.hid (fun k hk => (gd_ne (by rintro rfl; exact hk (by decide))).trans (af.out k hk)), gdI h0, fun _ => gd_eq (by rw [az.out, sz00]; decide), gdI h2, gdI h3, gdI h4, gdI h5, gdI h6, gdI h7, gdI h8, gdI h9, gdI h10, gdI h11, gdI h12, gdI h13, gdI h14, gdI h15, gdI h16, gdI h17, gdI h18, giI c3_2, giI c4_3, giI c5_4, giI c7_5, giI c7_6, giI c8_1, giI c8_7, giI c10_9, giI c11_10, giI c12_11, giI c14_13, giI c15_12, giI c15_14, giI c16_8, giI c16_15, giI c17_0, giI c18_17, giI c19_16, giI c19_18, fun n19 => Lib.hid (((hK1 (fun z => n19 (.inr z))).out).trans ((Kp.refl [] W).alloc _)), fun p1 n8 n19 => Lib.hid (⟨(hK1 nb19).out.size, Ow.lit W _ 3 #[] 0 (by decide) rfl⟩), fun p8 n16 n19 => absurd (c8_1 (rlI p8)) hn, fun p16 n19 => absurd (c8_1 (c16_8 (rlI p16))) hn, fun p19 => absurd (c8_1 (c16_8 (c19_16 (rlI p19)))) hn⟩
              | 2, hoP =>
                injection hoP with hoP; subst hoP
                have nb8 : ¬ bP 8 := fun h => hn (c3_2 (c4_3 (c5_4 (c7_5 (c8_7 h)))))
                have nb16 : ¬ bP 16 := fun h => hn (c3_2 (c4_3 (c5_4 (c7_5 (c8_7 (c16_8 h))))))
                have nb19 : ¬ bP 19 := fun h => hn (c3_2 (c4_3 (c5_4 (c7_5 (c8_7 (c16_8 (c19_16 h)))))))
                have HK := Lib.hid hK
                obtain ⟨sv0, sw0⟩ := ev_of s0
                clear hK hdP
                rw [if_pos (by rfl)]
                go_simp
                exact HK.out _ _ ⟨g1, A1, c1, A2, c2, Lib.hid ad.out, Lib.hid (gd_size.trans az.out), Lib.hid (fun k hk => (gd_ne (by rintro rfl; exact hk (by decide))).trans (af.out k hk)), gdI h0, gdI h1, fun _ => gd_eq (by rw [az.out, sz00]; decide), gdI h3, gdI h4, gdI h5, gdI h6, gdI h7, gdI h8, gdI h9, gdI h10, gdI h11, gdI h12, gdI h13, gdI h14, gdI h15, gdI h16, gdI h17, gdI h18, giI c3_2, giI c4_3, giI c5_4, giI c7_5, giI c7_6, giI c8_1, giI c8_7, giI c10_9, giI c11_10, giI c12_11, giI c14_13, giI c15_12, giI c15_14, giI c16_8, giI c16_15, giI c17_0, giI c18_17, giI c19_16, giI c19_18, fun n19 => (hK1 (fun z => n19 (.inr z))), fun p1 n8 n19 => (hg1 (rlI p1) (fun z => n8 (.inr z)) (fun z => n19 (.inr z))), fun p8 n16 n19 => absurd (c3_2 (c4_3 (c5_4 (c7_5 (c8_7 (rlI p8)))))) hn, fun p16 n19 => absurd (c3_2 (c4_3 (c5_4 (c7_5 (c8_7 (c16_8 (rlI p16))))))) hn, fun p19 => absurd (c3_2 (c4_3 (c5_4 (c7_5 (c8_7 (c16_8 (c19_16 (rlI p19)))))))) hn⟩
              | 3, hoP =>
                injection hoP with hoP; subst hoP
                have nb8 : ¬ bP 8 := fun h => hn (c4_3 (c5_4 (c7_5 (c8_7 h))))
                have nb16 : ¬ bP 16 := fun h => hn (c4_3 (c5_4 (c7_5 (c8_7 (c16_8 h)))))
                have nb19 : ¬ bP 19 := fun h => hn (c4_3 (c5_4 (c7_5 (c8_7 (c16_8 (c19_16 h))))))
                have d2 : bP 2 := hdP ⟨2, .data⟩ (by simp) rfl
                have HK := Lib.hid hK
                have e2 := h2 d2
                obtain ⟨ev2, ew2⟩ := ev_of e2
                clear hK hdP
                rw [if_pos (by rfl)]
                go_simp
                exact HK.out _ _ ⟨g1, A1, c1, A2, c2, Lib.hid ad.out, Lib.hid (gd_size.trans az.out), Lib.hid (fun k hk => (gd_ne (by rintro rfl; exact hk (by decide))).trans (af.out k hk)), gdI h0, gdI h1, gdI h2, fun _ => gd_eq (by rw [az.out, sz00]; decide), gdI h4, gdI h5, gdI h6, gdI h7, gdI h8, gdI h9, gdI h10, gdI h11, gdI h12, gdI h13, gdI h14, gdI h15, gdI h16, gdI h17, gdI h18, fun _ => .inr d2, giI c4_3, giI c5_4, giI c7_5, giI c7_6, giI c8_1, giI c8_7, giI c10_9, giI c11_10, giI c12_11, giI c14_13, giI c15_12, giI c15_14, giI c16_8, giI c16_15, giI c17_0, giI c18_17, giI c19_16, giI c19_18, fun n19 => (hK1 (fun z => n19 (.inr z))), fun p1 n8 n19 => (hg1 (rlI p1) (fun z => n8 (.inr z)) (fun z => n19 (.inr z))), fun p8 n16 n19 => absurd (c4_3 (c5_4 (c7_5 (c8_7 (rlI p8))))) hn, fun p16 n19 => absurd (c4_3 (c5_4 (c7_5 (c8_7 (c16_8 (rlI p16)))))) hn, fun p19 => absurd (c4_3 (c5_4 (c7_5 (c8_7 (c16_8 (c19_16 (rlI p19))))))) hn⟩
              | 4, hoP =>
                injection hoP with hoP; subst hoP
                have nb8 : ¬ bP 8 := fun h => hn (c5_4 (c7_5 (c8_7 h)))
                have nb16 : ¬ bP 16 := fun h => hn (c5_4 (c7_5 (c8_7 (c16_8 h))))
                have nb19 : ¬ bP 19 := fun h => hn (c5_4 (c7_5 (c8_7 (c16_8 (c19_16 h)))))
                have d3 : bP 3 := hdP ⟨3, .data⟩ (by simp) rfl
                have HK := Lib.hid hK
                have e3 := h3 d3
                obtain ⟨ev3, ew3⟩ := ev_of e3
                clear hK hdP
                rw [if_pos (by rfl)]
                go_simp
                exact HK.out _ _ ⟨g1, A1, c1, A2, c2, Lib.hid ad.out, Lib.hid (gd_size.trans az.out), Lib.hid (fun k hk => (gd_ne (by rintro rfl; exact hk (by decide))).trans (af.out k hk)), gdI h0, gdI h1, gdI h2, gdI h3, fun _ => gd_eq (by rw [az.out, sz00]; decide), gdI h5, gdI h6, gdI h7, gdI h8, gdI h9, gdI h10, gdI h11, gdI h12, gdI h13, gdI h14, gdI h15, gdI h16, gdI h17, gdI h18, giI c3_2, fun _ => .inr d3, giI c5_4, giI c7_5, giI c7_6, giI c8_1, giI c8_7, giI c10_9, giI c11_10, giI c12_11, giI c14_13, giI c15_12, giI c15_14, giI c16_8, giI c16_15, giI c17_0, giI c18_17, giI c19_16, giI c19_18, fun n19 => (hK1 (fun z => n19 (.inr z))), fun p1 n8 n19 => (hg1 (rlI p1) (fun z => n8 (.inr z)) (fun z => n19 (.inr z))), fun p8 n16 n19 => absurd (c5_4 (c7_5 (c8_7 (rlI p8)))) hn, fun p16 n19 => absurd (c5_4 (c7_5 (c8_7 (c16_8 (rlI p16))))) hn, fun p19 => absurd (c5_4 (c7_5 (c8_7 (c16_8 (c19_16 (rlI p19)))))) hn⟩
              | 5, hoP =>
                injection hoP with hoP; subst hoP
                have nb8 : ¬ bP 8 := fun h => hn (c7_5 (c8_7 h))
                have nb16 : ¬ bP 16 := fun h => hn (c7_5 (c8_7 (c16_8 h)))
                have nb19 : ¬ bP 19 := fun h => hn (c7_5 (c8_7 (c16_8 (c19_16 h))))
                have d4 : bP 4 := hdP ⟨4, .data⟩ (by simp) rfl
                have HK := Lib.hid hK
                have e4 := h4 d4
                obtain ⟨ev4, ew4⟩ := ev_of e4
                have q := (HW0.out W (hK1 nb19).out).cell 2
                simp only [List.getElem?_cons_zero, List.getElem?_cons_succ] at q
                clear hK hdP
                rw [if_pos (by rfl)]
                go_simp
                exact HK.out _ _ ⟨g1, A1, c1, A2, c2, Lib.hid ad.out, Lib.hid (gd_size.trans az.out), Lib.hid (fun k hk => (gd_ne (by rintro rfl; exact hk (by decide))).trans (af.out k hk)), gdI h0, gdI h1, gdI h2, gdI h3, gdI h4, fun _ => gd_eq (by rw [az.out, sz00]; decide), gdI h6, gdI h7, gdI h8, gdI h9, gdI h10, gdI h11, gdI h12, gdI h13, gdI h14, gdI h15, gdI h16, gdI h17, gdI h18, giI c3_2, giI c4_3, fun _ => .inr d4, giI c7_5, giI c7_6, giI c8_1, giI c8_7, giI c10_9, giI c11_10, giI c12_11, giI c14_13, giI c15_12, giI c15_14, giI c16_8, giI c16_15, giI c17_0, giI c18_17, giI c19_16, giI c19_18, fun n19 => (hK1 (fun z => n19 (.inr z))), fun p1 n8 n19 => (hg1 (rlI p1) (fun z => n8 (.inr z)) (fun z => n19 (.inr z))), fun p8 n16 n19 => absurd (c7_5 (c8_7 (rlI p8))) hn, fun p16 n19 => absurd (c7_5 (c8_7 (c16_8 (rlI p16)))) hn, fun p19 => absurd (c7_5 (c8_7 (c16_8 (c19_16 (rlI p19))))) hn⟩
              | 6, hoP =>
                injection hoP with hoP; subst hoP
                have nb8 : ¬ bP 8 := fun h => hn (c7_6 (c8_7 h))
                have nb16 : ¬ bP 16 := fun h => hn (c7_6 (c8_7 (c16_8 h)))
                have nb19 : ¬ bP 19 := fun h => hn (c7_6 (c8_7 (c16_8 (c19_16 h))))
                have HK := Lib.hid hK
                obtain ⟨sv13, sw13⟩ := ev_of s13
                clear hK hdP
                rw [if_pos (by rfl)]
                go_simp
                exact HK.out _ _ ⟨g1, A1, c1, A2, c2, Lib.hid ad.out, Lib.hid (gd_size.trans az.out), Lib.hid (fun k hk => (gd_ne (by rintro rfl; exact hk (by decide))).trans (af.out k hk)), gdI h0, gdI h1, gdI h2, gdI h3, gdI h4, gdI h5, fun _ => gd_eq (by rw [az.out, sz00]; decide), gdI h7, gdI h8, gdI h9, gdI h10, gdI h11, gdI h12, gdI h13, gdI h14, gdI h15, gdI h16, gdI h17, gdI h18, giI c3_2, giI c4_3, giI c5_4, giI c7_5, giI c7_6, giI c8_1, giI c8_7, giI c10_9, giI c11_10, giI c12_11, giI c14_13, giI c15_12, giI c15_14, giI c16_8, giI c16_15, giI c17_0, giI c18_17, giI c19_16, giI c19_18, fun n19 => (hK1 (fun z => n19 (.inr z))), fun p1 n8 n19 => (hg1 (rlI p1) (fun z => n8 (.inr z)) (fun z => n19 (.inr z))), fun p8 n16 n19 => absurd (c7_6 (c8_7 (rlI p8))) hn, fun p16 n19 => absurd (c7_6 (c8_7 (c16_8 (rlI p16)))) hn, fun p19 => absurd (c7_6 (c8_7 (c16_8 (c19_16 (rlI p19))))) hn⟩
              | 7, hoP =>
                injection hoP with hoP; subst hoP
                have nb8 : ¬ bP 8 := fun h => hn (c8_7 h)
                have nb16 : ¬ bP 16 := fun h => hn (c8_7 (c16_8 h))
                have nb19 : ¬ bP 19 := fun h => hn (c8_7 (c16_8 (c19_16 h)))
                have d5 : bP 5 := hdP ⟨5, .data⟩ (by simp) rfl
                have d6 : bP 6 := hdP ⟨6, .data⟩ (by simp) rfl
                have HK := Lib.hid hK
                have e5 := h5 d5
                obtain ⟨ev5, ew5⟩ := ev_of e5
                have e6 := h6 d6
                obtain ⟨ev6, ew6⟩ := ev_of e6
                clear hK hdP
                rw [if_pos (by rfl)]
                go_simp
                exact HK.out _ _ ⟨g1, A1, c1, A2, c2, Lib.hid ad.out, Lib.hid (gd_size.trans az.out), Lib.hid (fun k hk => (gd_ne (by rintro rfl; exact hk (by decide))).trans (af.out k hk)), gdI h0, gdI h1, gdI h2, gdI h3, gdI h4, gdI h5, gdI h6, fun _ => gd_eq (by rw [az.out, sz00]; decide), gdI h8, gdI h9, gdI h10, gdI h11, gdI h12, gdI h13, gdI h14, gdI h15, gdI h16, gdI h17, gdI h18, giI c3_2, giI c4_3, giI c5_4, fun _ => .inr d5, fun _ => .inr d6, giI c8_1, giI c8_7, giI c10_9, giI c11_10, giI c12_11, giI c14_13, giI c15_12, giI c15_14, giI c16_8, giI c16_15, giI c17_0, giI c18_17, giI c19_16, giI c19_18, fun n19 => (hK1 (fun z => n19 (.inr z))), fun p1 n8 n19 => (hg1 (rlI p1) (fun z => n8 (.inr z)) (fun z => n19 (.inr z))), fun p8 n16 n19 => absurd (c8_7 (rlI p8)) hn, fun p16 n19 => absurd (c8_7 (c16_8 (rlI p16))) hn, fun p19 => absurd (c8_7 (c16_8 (c19_16 (rlI p19)))) hn⟩
              | 8, hoP =>
                injection hoP with hoP; subst hoP
                have nb8 := hn
                have nb16 : ¬ bP 16 := fun h => hn (c16_8 h)
                have nb19 : ¬ bP 19 := fun h => hn (c16_8 (c19_16 h))
                have d1 : bP 1 := hdP ⟨1, .data⟩ (by simp) rfl
                have d7 : bP 7 := hdP ⟨7, .data⟩ (by simp) rfl
                have HK := Lib.hid hK
                have e1 := h1 d1
                obtain ⟨ev1, ew1⟩ := ev_of e1
                have e7 := h7 d7
                obtain ⟨ev7, ew7⟩ := ev_of e7
                clear hK hdP
                rw [if_pos (by rfl)]
                refine wp_app _ (.tmp 248) (.tmp 254) 62 rfl elt_rf (some ⟨g1, 0, none⟩) 0 0 [] ev1 (hg1 d1 nb8 nb19).out.2 [] (some ⟨b, off, none⟩) i cc ((ys.take i).flatMap Bnd.vals) ev7 (HRd.out W (hK1 nb19).out) HLN.out HMW.out (by omega) (fun A1' c1' w1' ho1 hk1 hA1 => ?_)
                rw [Nat.zero_add] at ho1 ⊢
                simp only [List.nil_append] at ho1
                have ho1 := Lib.hid ho1
                exact HK.out _ _ ⟨g1, A1', c1', A2, c2, Lib.hid ad.out, Lib.hid (gd_size.trans az.out), Lib.hid (fun k hk => (gd_ne (by rintro rfl; exact hk (by decide))).trans (af.out k hk)), gdI h0, gdI h1, gdI h2, gdI h3, gdI h4, gdI h5, gdI h6, gdI h7, fun _ => gd_eq (by rw [az.out, sz00]; decide), gdI h9, gdI h10, gdI h11, gdI h12, gdI h13, gdI h14, gdI h15, gdI h16, gdI h17, gdI h18, giI c3_2, giI c4_3, giI c5_4, giI c7_5, giI c7_6, fun _ => .inr d1, fun _ => .inr d7, giI c10_9, giI c11_10, giI c12_11, giI c14_13, giI c15_12, giI c15_14, giI c16_8, giI c16_15, giI c17_0, giI c18_17, giI c19_16, giI c19_18, fun n19 => Lib.hid ((hK1 nb19).out.thn hk1 (fun s hs => .inr (by simp [bks] at hs; have := (hg1 d1 nb8 nb19).out.1; omega))), fun _ z _ => absurd (.inl rfl) z, fun p8 n16 n19 => Lib.hid (⟨by rcases hA1 with rfl | rfl <;> intro s hs <;> simp [bks] at hs <;> (have := (hg1 d1 nb8 nb19).out.1; have := (hK1 nb19).out.size; omega), ho1.out⟩), fun p16 n19 => absurd (c16_8 (rlI p16)) hn, fun p19 => absurd (c16_8 (c19_16 (rlI p19))) hn⟩
              | 9, hoP =>
                injection hoP with hoP; subst hoP
                have nb16 : ¬ bP 16 := fun h => hn (c10_9 (c11_10 (c12_11 (c15_12 (c16_15 h)))))
                have nb19 : ¬ bP 19 := fun h => hn (c10_9 (c11_10 (c12_11 (c15_12 (c16_15 (c19_16 h))))))
                have HK := Lib.hid hK
                obtain ⟨sv0, sw0⟩ := ev_of s0
                clear hK hdP
                rw [if_pos (by rfl)]
                go_simp
                exact HK.out _ _ ⟨g1, A1, c1, A2, c2, Lib.hid ad.out, Lib.hid (gd_size.trans az.out), Lib.hid (fun k hk => (gd_ne (by rintro rfl; exact hk (by decide))).trans (af.out k hk)), gdI h0, gdI h1, gdI h2, gdI h3, gdI h4, gdI h5, gdI h6, gdI h7, gdI h8, fun _ => gd_eq (by rw [az.out, sz00]; decide), gdI h10, gdI h11, gdI h12, gdI h13, gdI h14, gdI h15, gdI h16, gdI h17, gdI h18, giI c3_2, giI c4_3, giI c5_4, giI c7_5, giI c7_6, giI c8_1, giI c8_7, giI c10_9, giI c11_10, giI c12_11, giI c14_13, giI c15_12, giI c15_14, giI c16_8, giI c16_15, giI c17_0, giI c18_17, giI c19_16, giI c19_18, fun n19 => (hK1 (fun z => n19 (.inr z))), fun p1 n8 n19 => (hg1 (rlI p1) (fun z => n8 (.inr z)) (fun z => n19 (.inr z))), fun p8 n16 n19 => (hg2 (rlI p8) (fun z => n16 (.inr z)) (fun z => n19 (.inr z))), fun p16 n19 => absurd (c10_9 (c11_10 (c12_11 (c15_12 (c16_15 (rlI p16)))))) hn, fun p19 => absurd (c10_9 (c11_10 (c12_11 (c15_12 (c16_15 (c19_16 (rlI p19))))))) hn⟩
              | 10, hoP =>
                injection hoP with hoP; subst hoP
                have nb16 : ¬ bP 16 := fun h => hn (c11_10 (c12_11 (c15_12 (c16_15 h))))
                have nb19 : ¬ bP 19 := fun h => hn (c11_10 (c12_11 (c15_12 (c16_15 (c19_16 h)))))
                have d9 : bP 9 := hdP ⟨9, .data⟩ (by simp) rfl
                have HK := Lib.hid hK
                have e9 := h9 d9
                obtain ⟨ev9, ew9⟩ := ev_of e9
                clear hK hdP
                rw [if_pos (by rfl)]
                go_simp
                exact HK.out _ _ ⟨g1, A1, c1, A2, c2, Lib.hid ad.out, Lib.hid (gd_size.trans az.out), Lib.hid (fun k hk => (gd_ne (by rintro rfl; exact hk (by decide))).trans (af.out k hk)), gdI h0, gdI h1, gdI h2, gdI h3, gdI h4, gdI h5, gdI h6, gdI h7, gdI h8, gdI h9, fun _ => gd_eq (by rw [az.out, sz00]; decide), gdI h11, gdI h12, gdI h13, gdI h14, gdI h15, gdI h16, gdI h17, gdI h18, giI c3_2, giI c4_3, giI c5_4, giI c7_5, giI c7_6, giI c8_1, giI c8_7, fun _ => .inr d9, giI c11_10, giI c12_11, giI c14_13, giI c15_12, giI c15_14, giI c16_8, giI c16_15, giI c17_0, giI c18_17, giI c19_16, giI c19_18, fun n19 => (hK1 (fun z => n19 (.inr z))), fun p1 n8 n19 => (hg1 (rlI p1) (fun z => n8 (.inr z)) (fun z => n19 (.inr z))), fun p8 n16 n19 => (hg2 (rlI p8) (fun z => n16 (.inr z)) (fun z => n19 (.inr z))), fun p16 n19 => absurd (c11_10 (c12_11 (c15_12 (c16_15 (rlI p16))))) hn, fun p19 => absurd (c11_10 (c12_11 (c15_12 (c16_15 (c19_16 (rlI p19)))))) hn⟩
              | 11, hoP =>
                injection hoP with hoP; subst hoP
                have nb16 : ¬ bP 16 := fun h => hn (c12_11 (c15_12 (c16_15 h)))
                have nb19 : ¬ bP 19 := fun h => hn (c12_11 (c15_12 (c16_15 (c19_16 h))))
                have d10 : bP 10 := hdP ⟨10, .data⟩ (by simp) rfl
                have HK := Lib.hid hK
                have e10 := h10 d10
                obtain ⟨ev10, ew10⟩ := ev_of e10
                clear hK hdP
                rw [if_pos (by rfl)]
                go_simp
                exact HK.out _ _ ⟨g1, A1, c1, A2, c2, Lib.hid ad.out, Lib.hid (gd_size.trans az.out), Lib.hid (fun k hk => (gd_ne (by rintro rfl; exact hk (by decide))).trans (af.out k hk)), gdI h0, gdI h1, gdI h2, gdI h3, gdI h4, gdI h5, gdI h6, gdI h7, gdI h8, gdI h9, gdI h10, fun _ => gd_eq (by rw [az.out, sz00]; decide), gdI h12, gdI h13, gdI h14, gdI h15, gdI h16, gdI h17, gdI h18, giI c3_2, giI c4_3, giI c5_4, giI c7_5, giI c7_6, giI c8_1, giI c8_7, giI c10_9, fun _ => .inr d10, giI c12_11, giI c14_13, giI c15_12, giI c15_14, giI c16_8, giI c16_15, giI c17_0, giI c18_17, giI c19_16, giI c19_18, fun n19 => (hK1 (fun z => n19 (.inr z))), fun p1 n8 n19 => (hg1 (rlI p1) (fun z => n8 (.inr z)) (fun z => n19 (.inr z))), fun p8 n16 n19 => (hg2 (rlI p8) (fun z => n16 (.inr z)) (fun z => n19 (.inr z))), fun p16 n19 => absurd (c12_11 (c15_12 (c16_15 (rlI p16)))) hn, fun p19 => absurd (c12_11 (c15_12 (c16_15 (c19_16 (rlI p19))))) hn⟩
              | 12, hoP =>
                injection hoP with hoP; subst hoP
                have nb16 : ¬ bP 16 := fun h => hn (c15_12 (c16_15 h))
                have nb19 : ¬ bP 19 := fun h => hn (c15_12 (c16_15 (c19_16 h)))
                have d11 : bP 11 := hdP ⟨11, .data⟩ (by simp) rfl
                have HK := Lib.hid hK
                have e11 := h11 d11
                obtain ⟨ev11, ew11⟩ := ev_of e11
                have q := (HW0.out W (hK1 nb19).out).cell 2
                simp only [List.getElem?_cons_zero, List.getElem?_cons_succ] at q
                clear hK hdP
                rw [if_pos (by rfl)]
                go_simp
                exact HK.out _ _ ⟨g1, A1, c1, A2, c2, Lib.hid ad.out, Lib.hid (gd_size.trans az.out), Lib.hid (fun k hk => (gd_ne (by rintro rfl; exact hk (by decide))).trans (af.out k hk)), gdI h0, gdI h1, gdI h2, gdI h3, gdI h4, gdI h5, gdI h6, gdI h7, gdI h8, gdI h9, gdI h10, gdI h11, fun _ => gd_eq (by rw [az.out, sz00]; decide), gdI h13, gdI h14, gdI h15, gdI h16, gdI h17, gdI h18, giI c3_2, giI c4_3, giI c5_4, giI c7_5, giI c7_6, giI c8_1, giI c8_7, giI c10_9, giI c11_10, fun _ => .inr d11, giI c14_13, giI c15_12, giI c15_14, giI c16_8, giI c16_15, giI c17_0, giI c18_17, giI c19_16, giI c19_18, fun n19 => (hK1 (fun z => n19 (.inr z))), fun p1 n8 n19 => (hg1 (rlI p1) (fun z => n8 (.inr z)) (fun z => n19 (.inr z))), fun p8 n16 n19 => (hg2 (rlI p8) (fun z => n16 (.inr z)) (fun z => n19 (.inr z))), fun p16 n19 => absurd (c15_12 (c16_15 (rlI p16))) hn, fun p19 => absurd (c15_12 (c16_15 (c19_16 (rlI p19)))) hn⟩
              | 13, hoP =>
                injection hoP with hoP; subst hoP
                have nb16 : ¬ bP 16 := fun h => hn (c14_13 (c15_14 (c16_15 h)))
                have nb19 : ¬ bP 19 := fun h => hn (c14_13 (c15_14 (c16_15 (c19_16 h))))
                have HK := Lib.hid hK
                obtain ⟨sv13, sw13⟩ := ev_of s13
                clear hK hdP
                rw [if_pos (by rfl)]
                go_simp
                exact HK.out _ _ ⟨g1, A1, c1, A2, c2, Lib.hid ad.out, Lib.hid (gd_size.trans az.out), Lib.hid (fun k hk => (gd_ne (by rintro rfl; exact hk (by decide))).trans (af.out k hk)), gdI h0, gdI h1, gdI h2, gdI h3, gdI h4, gdI h5, gdI h6, gdI h7, gdI h8, gdI h9, gdI h10, gdI h11, gdI h12, fun _ => gd_eq (by rw [az.out, sz00]; decide), gdI h14, gdI h15, gdI h16, gdI h17, gdI h18, giI c3_2, giI c4_3, giI c5_4, giI c7_5, giI c7_6, giI c8_1, giI c8_7, giI c10_9, giI c11_10, giI c12_11, giI c14_13, giI c15_12, giI c15_14, giI c16_8, giI c16_15, giI c17_0, giI c18_17, giI c19_16, giI c19_18, fun n19 => (hK1 (fun z => n19 (.inr z))), fun p1 n8 n19 => (hg1 (rlI p1) (fun z => n8 (.inr z)) (fun z => n19 (.inr z))), fun p8 n16 n19 => (hg2 (rlI p8) (fun z => n16 (.inr z)) (fun z => n19 (.inr z))), fun p16 n19 => absurd (c14_13 (c15_14 (c16_15 (rlI p16)))) hn, fun p19 => absurd (c14_13 (c15_14 (c16_15 (c19_16 (rlI p19))))) hn⟩
              | 14, hoP =>
                injection hoP with hoP; subst hoP
                have nb16 : ¬ bP 16 := fun h => hn (c15_14 (c16_15 h))
                have nb19 : ¬ bP 19 := fun h => hn (c15_14 (c16_15 (c19_16 h)))
                have d13 : bP 13 := hdP ⟨13, .data⟩ (by simp) rfl
                have HK := Lib.hid hK
                have e13 := h13 d13
                obtain ⟨ev13, ew13⟩ := ev_of e13
                clear hK hdP
                rw [if_pos (by rfl)]
                go_simp
                exact HK.out _ _ ⟨g1, A1, c1, A2, c2, Lib.hid ad.out, Lib.hid (gd_size.trans az.out), Lib.hid (fun k hk => (gd_ne (by rintro rfl; exact hk (by decide))).trans (af.out k hk)), gdI h0, gdI h1, gdI h2, gdI h3, gdI h4, gdI h5, gdI h6, gdI h7, gdI h8, gdI h9, gdI h10, gdI h11, gdI h12, gdI h13, fun _ => gd_eq (by rw [az.out, sz00]; decide), gdI h15, gdI h16, gdI h17, gdI h18, giI c3_2, giI c4_3, giI c5_4, giI c7_5, giI c7_6, giI c8_1, giI c8_7, giI c10_9, giI c11_10, giI c12_11, fun _ => .inr d13, giI c15_12, giI c15_14, giI c16_8, giI c16_15, giI c17_0, giI c18_17, giI c19_16, giI c19_18, fun n19 => (hK1 (fun z => n19 (.inr z))), fun p1 n8 n19 => (hg1 (rlI p1) (fun z => n8 (.inr z)) (fun z => n19 (.inr z))), fun p8 n16 n19 => (hg2 (rlI p8) (fun z => n16 (.inr z)) (fun z => n19 (.inr z))), fun p16 n19 => absurd (c15_14 (c16_15 (rlI p16))) hn, fun p19 => absurd (c15_14 (c16_15 (c19_16 (rlI p19)))) hn⟩
              | 15, hoP =>
                injection hoP with hoP; subst hoP
                have nb16 : ¬ bP 16 := fun h => hn (c16_15 h)
                have nb19 : ¬ bP 19 := fun h => hn (c16_15 (c19_16 h))
                have d12 : bP 12 := hdP ⟨12, .data⟩ (by simp) rfl
                have d14 : bP 14 := hdP ⟨14, .data⟩ (by simp) rfl
                have HK := Lib.hid hK
                have e12 := h12 d12
                obtain ⟨ev12, ew12⟩ := ev_of e12
                have e14 := h14 d14
                obtain ⟨ev14, ew14⟩ := ev_of e14
                have hc9 := HC9.out
                clear hK hdP
                rw [if_pos (by rfl)]
                go_simp
                exact HK.out _ _ ⟨g1, A1, c1, A2, c2, Lib.hid ad.out, Lib.hid (gd_size.trans az.out), Lib.hid (fun k hk => (gd_ne (by rintro rfl; exact hk (by decide))).trans (af.out k hk)), gdI h0, gdI h1, gdI h2, gdI h3, gdI h4, gdI h5, gdI h6, gdI h7, gdI h8, gdI h9, gdI h10, gdI h11, gdI h12, gdI h13, gdI h14, fun _ => gd_eq (by rw [az.out, sz00]; decide), gdI h16, gdI h17, gdI h18, giI c3_2, giI c4_3, giI c5_4, giI c7_5, giI c7_6, giI c8_1, giI c8_7, giI c10_9, giI c11_10, giI c12_11, giI c14_13, fun _ => .inr d12, fun _ => .inr d14, giI c16_8, giI c16_15, giI c17_0, giI c18_17, giI c19_16, giI c19_18, fun n19 => (hK1 (fun z => n19 (.inr z))), fun p1 n8 n19 => (hg1 (rlI p1) (fun z => n8 (.inr z)) (fun z => n19 (.inr z))), fun p8 n16 n19 => (hg2 (rlI p8) (fun z => n16 (.inr z)) (fun z => n19 (.inr z))), fun p16 n19 => absurd (c16_15 (rlI p16)) hn, fun p19 => absurd (c16_15 (c19_16 (rlI p19))) hn⟩
              | 16, hoP =>
                injection hoP with hoP; subst hoP
                have nb16 := hn
                have nb19 : ¬ bP 19 := fun h => hn (c19_16 h)
                have d8 : bP 8 := hdP ⟨8, .data⟩ (by simp) rfl
                have d15 : bP 15 := hdP ⟨15, .data⟩ (by simp) rfl
                have HK := Lib.hid hK
                have e8 := h8 d8
                obtain ⟨ev8, ew8⟩ := ev_of e8
                have e15 := h15 d15
                obtain ⟨ev15, ew15⟩ := ev_of e15
                clear hK hdP
                rw [if_pos (by rfl)]
                refine wp_app _ (.tmp 255) (.tmp 262) 62 rfl elt_rf A1 i c1 _ ev8 (hg2 d8 nb16 nb19).out.2 [] (some ⟨b, off, none⟩) (n - (i + 1)) 0 ((ys.drop (i + 1)).flatMap Bnd.vals) ev15 (HRd2.out W _ (hK1 nb19).out (.inl ⟨HC9.out, rfl⟩)) HNL.out HNW.out (by omega) (fun A2' c2' w2' ho2 hk2 hA2 => ?_)
                have ho2 := Lib.hid ho2
                exact HK.out _ _ ⟨g1, A1, c1, A2', c2', Lib.hid ad.out, Lib.hid (gd_size.trans az.out), Lib.hid (fun k hk => (gd_ne (by rintro rfl; exact hk (by decide))).trans (af.out k hk)), gdI h0, gdI h1, gdI h2, gdI h3, gdI h4, gdI h5, gdI h6, gdI h7, gdI h8, gdI h9, gdI h10, gdI h11, gdI h12, gdI h13, gdI h14, gdI h15, fun _ => gd_eq (by rw [az.out, sz00]; decide), gdI h17, gdI h18, giI c3_2, giI c4_3, giI c5_4, giI c7_5, giI c7_6, giI c8_1, giI c8_7, giI c10_9, giI c11_10, giI c12_11, giI c14_13, giI c15_12, giI c15_14, fun _ => .inr d8, fun _ => .inr d15, giI c17_0, giI c18_17, giI c19_16, giI c19_18, fun n19 => Lib.hid ((hK1 nb19).out.thn hk2 (fun s hs => .inr ((hg2 d8 nb16 nb19).out.1 s hs))), fun p1 n8 n19 => Lib.hid (absurd d8 (fun z => n8 (.inr z))), fun _ z _ => absurd (.inl rfl) z, fun p16 n19 => Lib.hid (⟨by rcases hA2 with rfl | rfl; exact (hg2 d8 nb16 nb19).out.1; (intro s hs; simp [bks] at hs; have := (hK1 nb19).out.size; omega), ho2.out⟩), fun p19 => absurd (c19_16 (rlI p19)) hn⟩
              | 17, hoP =>
                injection hoP with hoP; subst hoP
                have nb19 : ¬ bP 19 := fun h => hn (c18_17 (c19_18 h))
                have d0 : bP 0 := hdP ⟨0, .data⟩ (by simp) rfl
                have HK := Lib.hid hK
                have e0 := h0 d0
                obtain ⟨ev0, ew0⟩ := ev_of e0
                clear hK hdP
                rw [if_pos (by rfl)]
                go_simp
                exact HK.out _ _ ⟨g1, A1, c1, A2, c2, Lib.hid ad.out, Lib.hid (gd_size.trans az.out), Lib.hid (fun k hk => (gd_ne (by rintro rfl; exact hk (by decide))).trans (af.out k hk)), gdI h0, gdI h1, gdI h2, gdI h3, gdI h4, gdI h5, gdI h6, gdI h7, gdI h8, gdI h9, gdI h10, gdI h11, gdI h12, gdI h13, gdI h14, gdI h15, gdI h16, fun _ => gd_eq (by rw [az.out, sz00]; decide), gdI h18, giI c3_2, giI c4_3, giI c5_4, giI c7_5, giI c7_6, giI c8_1, giI c8_7, giI c10_9, giI c11_10, giI c12_11, giI c14_13, giI c15_12, giI c15_14, giI c16_8, giI c16_15, fun _ => .inr d0, giI c18_17, giI c19_16, giI c19_18, fun n19 => (hK1 (fun z => n19 (.inr z))), fun p1 n8 n19 => (hg1 (rlI p1) (fun z => n8 (.inr z)) (fun z => n19 (.inr z))), fun p8 n16 n19 => (hg2 (rlI p8) (fun z => n16 (.inr z)) (fun z => n19 (.inr z))), fun p16 n19 => (hgF (rlI p16) (fun z => n19 (.inr z))), fun p19 => absurd (c18_17 (c19_18 (rlI p19))) hn⟩
              | 18, hoP =>
                injection hoP with hoP; subst hoP
                have nb19 : ¬ bP 19 := fun h => hn (c19_18 h)
                have d17 : bP 17 := hdP ⟨17, .data⟩ (by simp) rfl
                have HK := Lib.hid hK
                have e17 := h17 d17
                obtain ⟨ev17, ew17⟩ := ev_of e17
                clear hK hdP
                rw [if_pos (by rfl)]
                go_simp
                exact HK.out _ _ ⟨g1, A1, c1, A2, c2, Lib.hid ad.out, Lib.hid (gd_size.trans az.out), Lib.hid (fun k hk => (gd_ne (by rintro rfl; exact hk (by decide))).trans (af.out k hk)), gdI h0, gdI h1, gdI h2, gdI h3, gdI h4, gdI h5, gdI h6, gdI h7, gdI h8, gdI h9, gdI h10, gdI h11, gdI h12, gdI h13, gdI h14, gdI h15, gdI h16, gdI h17, fun _ => gd_eq (by rw [az.out, sz00]; decide), giI c3_2, giI c4_3, giI c5_4, giI c7_5, giI c7_6, giI c8_1, giI c8_7, giI c10_9, giI c11_10, giI c12_11, giI c14_13, giI c15_12, giI c15_14, giI c16_8, giI c16_15, giI c17_0, fun _ => .inr d17, giI c19_16, giI c19_18, fun n19 => (hK1 (fun z => n19 (.inr z))), fun p1 n8 n19 => (hg1 (rlI p1) (fun z => n8 (.inr z)) (fun z => n19 (.inr z))), fun p8 n16 n19 => (hg2 (rlI p8) (fun z => n16 (.inr z)) (fun z => n19 (.inr z))), fun p16 n19 => (hgF (rlI p16) (fun z => n19 (.inr z))), fun p19 => absurd (c19_18 (rlI p19)) hn⟩
              | 19, hoP =>
                injection hoP with hoP; subst hoP
                have nb19 := hn
                have d16 : bP 16 := hdP ⟨16, .data⟩ (by simp) rfl
                have d18 : bP 18 := hdP ⟨18, .data⟩ (by simp) rfl
                have HK := Lib.hid hK
                have e16 := h16 d16
                obtain ⟨ev16, ew16⟩ := ev_of e16
                have e18 := h18 d18
                obtain ⟨ev18, ew18⟩ := ev_of e18
                have zk := (hK1 nb19).out
                have zb := HW0.out W zk
                have zl := zb.lt
                have zf := zb.frozen 2
                have zc := zb.cell 2
                simp only [List.getElem?_cons_zero, List.getElem?_cons_succ] at zc
                clear hK hdP
                rw [if_pos (by rfl)]
                go_simp
                exact HK.out _ _ ⟨g1, A1, c1, A2, c2, ad, az, af, fun h => h0 (rlI h), fun h => h1 (rlI h), fun h => h2 (rlI h), fun h => h3 (rlI h), fun h => h4 (rlI h), fun h => h5 (rlI h), fun h => h6 (rlI h), fun h => h7 (rlI h), fun h => h8 (rlI h), fun h => h9 (rlI h), fun h => h10 (rlI h), fun h => h11 (rlI h), fun h => h12 (rlI h), fun h => h13 (rlI h), fun h => h14 (rlI h), fun h => h15 (rlI h), fun h => h16 (rlI h), fun h => h17 (rlI h), fun h => h18 (rlI h), giI c3_2, giI c4_3, giI c5_4, giI c7_5, giI c7_6, giI c8_1, giI c8_7, giI c10_9, giI c11_10, giI c12_11, giI c14_13, giI c15_12, giI c15_14, giI c16_8, giI c16_15, giI c17_0, giI c18_17, fun _ => .inr d16, fun _ => .inr d18, fun  z => absurd (.inl rfl) z, fun _ _ z => absurd (.inl rfl) z, fun _ _ z => absurd (.inl rfl) z, fun _ z => absurd (.inl rfl) z, fun p19 => Lib.hid (⟨W, (hK1 nb19).out, (hgF d16 nb19).out.2, (hgF d16 nb19).out.1, rfl⟩)⟩
              | (nP + 20), hoP => exact absurd hoP (by simp)
            · intro bP a' W hb hI
              obtain ⟨g1, A1, c1, A2, c2, ad, az, af, h0, h1, h2, h3, h4, h5, h6, h7, h8, h9, h10, h11, h12, h13, h14, h15, h16, h17, h18, c3_2, c4_3, c5_4, c7_5, c7_6, c8_1, c8_7, c10_9, c11_10, c12_11, c14_13, c15_12, c15_14, c16_8, c16_15, c17_0, c18_17, c19_16, c19_18, hK1, hg1, hg2, hgF, hFin⟩ := hI
              clear hK1
              clear hg1
              clear hg2
              clear hgF
              have hFin := hFin (hb 19 (by decide))
              have ha := act_of (L := [(247, .pointer (some ⟨q.g, 0, none⟩)), (248, .slice (some ⟨g1, 0, none⟩) 0 0), (249, .pointer (some ⟨q.g, 0, none⟩)), (250, .pointer (some ⟨q.g, 0, none⟩)), (251, .pointer (some ⟨q.g, 2, none⟩)), (252, .slice (some ⟨b, off, none⟩) n cc), (253, .int .i64 i), (254, .slice (some ⟨b, off, none⟩) i cc), (255, .slice A1 i c1), (256, .pointer (some ⟨q.g, 0, none⟩)), (257, .pointer (some ⟨q.g, 0, none⟩)), (258, .pointer (some ⟨q.g, 2, none⟩)), (259, .slice (some ⟨b, off, none⟩) n cc), (260, .int .i64 i), (261, .int .i64 (i + 1 : Nat)), (262, .slice (some ⟨b, off, none⟩) (n - (i + 1)) 0), (263, .slice A2 (i + (n - (i + 1))) c2), (264, .pointer (some ⟨q.g, 0, none⟩)), (265, .pointer (some ⟨q.g, 2, none⟩))]) (show ([247, 248, 249, 250, 251, 252, 253, 254, 255, 256, 257, 258, 259, 260, 261, 262, 263, 264, 265] : List Nat).Nodup by decide) ad.out az.out af.out (by
                intro p hp
                rw [sz00]
                simp only [List.mem_cons, List.not_mem_nil, or_false] at hp
                rcases hp with rfl | rfl | rfl | rfl | rfl | rfl | rfl | rfl | rfl | rfl | rfl | rfl | rfl | rfl | rfl | rfl | rfl | rfl | rfl
                · exact ⟨show 247 < 341 by decide, h0 (hb 0 (by decide))⟩
                · exact ⟨show 248 < 341 by decide, h1 (hb 1 (by decide))⟩
                · exact ⟨show 249 < 341 by decide, h2 (hb 2 (by decide))⟩
                · exact ⟨show 250 < 341 by decide, h3 (hb 3 (by decide))⟩
                · exact ⟨show 251 < 341 by decide, h4 (hb 4 (by decide))⟩
                · exact ⟨show 252 < 341 by decide, h5 (hb 5 (by decide))⟩
                · exact ⟨show 253 < 341 by decide, h6 (hb 6 (by decide))⟩
                · exact ⟨show 254 < 341 by decide, h7 (hb 7 (by decide))⟩
                · exact ⟨show 255 < 341 by decide, h8 (hb 8 (by decide))⟩
                · exact ⟨show 256 < 341 by decide, h9 (hb 9 (by decide))⟩
                · exact ⟨show 257 < 341 by decide, h10 (hb 10 (by decide))⟩
                · exact ⟨show 258 < 341 by decide, h11 (hb 11 (by decide))⟩
                · exact ⟨show 259 < 341 by decide, h12 (hb 12 (by decide))⟩
                · exact ⟨show 260 < 341 by decide, h13 (hb 13 (by decide))⟩
                · exact ⟨show 261 < 341 by decide, h14 (hb 14 (by decide))⟩
                · exact ⟨show 262 < 341 by decide, h15 (hb 15 (by decide))⟩
                · exact ⟨show 263 < 341 by decide, h16 (hb 16 (by decide))⟩
                · exact ⟨show 264 < 341 by decide, h17 (hb 17 (by decide))⟩
                · exact ⟨show 265 < 341 by decide, h18 (hb 18 (by decide))⟩
                )
              rw [HA00.out] at ha
              simp only [List.foldl_cons, List.foldl_nil, Act.put, List.setIfInBounds_toArray, List.set_cons_zero, List.set_cons_succ] at ha
              clear h0 h1 h2 h3 h4 h5 h6 h7 h8 h9 h10 h11 h12 h13 h14 h15 h16 h17 h18 c3_2 c4_3 c5_4 c7_5 c7_6 c8_1 c8_7 c10_9 c11_10 c12_11 c14_13 c15_12 c15_14 c16_8 c16_15 c17_0 c18_17 c19_16 c19_18 hb ad az af HA00 sz00 sl0 sl13
              subst ha
              obtain ⟨W9, z1, z2, z3, rfl⟩ := hFin.out
              have Y2 := Lib.hid (Fin.out _ _ _ z1 z2 z3)
              clear hFin z1 z2 z3 Fin HRd HRd2 HLN HNL HMW HNW HW0
              go_wp2
              first | exact rcast Y2.out (by simp) | exact bodyPost_ret (v := .tuple #[.int .i64 0, .string (S []), .int .i64 0]) (by simp [results, Tryz.results11, go_sem]; try rfl) rfl Y2.out
          · have HC9 := Lib.hid hc9
            clear hc9
            refine nameA (fun A00 hA00 => ?_)
            have sl0 : A00.tmps.getD 0 undef = .pointer (some ⟨q.g, 0, none⟩) := by rw [hA00]; rfl
            have sl13 : A00.tmps.getD 13 undef = .int .i64 i := by rw [hA00]; rfl
            have sz00 : A00.tmps.size = 341 := by rw [hA00]; rfl
            have HA00 := Lib.hid hA00
            clear hA00
            refine wp_region_inv (fun bP a' W => ∃ (g1 : Nat) (A1 : Option Addr) (c1 : Nat) (A2 : Option Addr) (c2 : Nat), Hid (a'.defers = A00.defers) ∧ Hid (a'.tmps.size = A00.tmps.size) ∧ Hid (∀ k, k ∉ [247, 248, 249, 250, 251, 252, 253, 254, 255, 256, 257, 258, 259, 260, 261, 262, 263, 264, 265] → a'.tmps.getD k undef = A00.tmps.getD k undef) ∧ (bP 0 → a'.tmps.getD 247 undef = .pointer (some ⟨q.g, 0, none⟩)) ∧ (bP 1 → a'.tmps.getD 248 undef = .slice (some ⟨g1, 0, none⟩) 0 0) ∧ (bP 2 → a'.tmps.getD 249 undef = .pointer (some ⟨q.g, 0, none⟩)) ∧ (bP 3 → a'.tmps.getD 250 undef = .pointer (some ⟨q.g, 0, none⟩)) ∧ (bP 4 → a'.tmps.getD 251 undef = .pointer (some ⟨q.g, 2, none⟩)) ∧ (bP 5 → a'.tmps.getD 252 undef = .slice (some ⟨b, off, none⟩) n cc) ∧ (bP 6 → a'.tmps.getD 253 undef = .int .i64 i) ∧ (bP 7 → a'.tmps.getD 254 undef = .slice (some ⟨b, off, none⟩) i cc) ∧ (bP 8 → a'.tmps.getD 255 undef = .slice A1 i c1) ∧ (bP 9 → a'.tmps.getD 256 undef = .pointer (some ⟨q.g, 0, none⟩)) ∧ (bP 10 → a'.tmps.getD 257 undef = .pointer (some ⟨q.g, 0, none⟩)) ∧ (bP 11 → a'.tmps.getD 258 undef = .pointer (some ⟨q.g, 2, none⟩)) ∧ (bP 12 → a'.tmps.getD 259 undef = .slice (some ⟨b, off, none⟩) n cc) ∧ (bP 13 → a'.tmps.getD 260 undef = .int .i64 i) ∧ (bP 14 → a'.tmps.getD 261 undef = .int .i64 (i + 1 : Nat)) ∧ (bP 15 → a'.tmps.getD 262 undef = .slice (some ⟨b, off + (i + 1) * 3, none⟩) (n - (i + 1)) (cc - (i + 1))) ∧ (bP 16 → a'.tmps.getD 263 undef = .slice A2 (i + (n - (i + 1))) c2) ∧ (bP 17 → a'.tmps.getD 264 undef = .pointer (some ⟨q.g, 0, none⟩)) ∧ (bP 18 → a'.tmps.getD 265 undef = .pointer (some ⟨q.g, 2, none⟩)) ∧ (bP 3 → bP 2) ∧ (bP 4 → bP 3) ∧ (bP 5 → bP 4) ∧ (bP 7 → bP 5) ∧ (bP 7 → bP 6) ∧ (bP 8 → bP 1) ∧ (bP 8 → bP 7) ∧ (bP 10 → bP 9) ∧ (bP 11 → bP 10) ∧ (bP 12 → bP 11) ∧ (bP 14 → bP 13) ∧ (bP 15 → bP 12) ∧ (bP 15 → bP 14) ∧ (bP 16 → bP 8) ∧ (bP 16 → bP 15) ∧ (bP 17 → bP 0) ∧ (bP 18 → bP 17) ∧ (bP 19 → bP 16) ∧ (bP 19 → bP 18) ∧ (¬ bP 19 → Hid (Kp [] W0 W)) ∧ (bP 1 → ¬ bP 8 → ¬ bP 19 → Hid (W0.heap.size ≤ g1 ∧ Ow W 139 3 (some ⟨g1, 0, none⟩) 0 0 [])) ∧ (bP 8 → ¬ bP 16 → ¬ bP 19 → Hid (Fresh W0.heap.size A1 ∧ Ow W 139 3 A1 i c1 ((ys.take i).flatMap Bnd.vals))) ∧ (bP 16 → ¬ bP 19 → Hid (Fresh W0.heap.size A2 ∧ Ow W 139 3 A2 (i + (n - (i + 1))) c2 (((ys.take i).flatMap Bnd.vals) ++ ((ys.drop (i + 1)).flatMap Bnd.vals)))) ∧ (bP 19 → Hid (∃ W9, Kp [] W0 W9 ∧ Ow W9 139 3 A2 (i + (n - (i + 1))) c2 (((ys.take i).flatMap Bnd.vals) ++ ((ys.drop (i + 1)).flatMap Bnd.vals)) ∧ Fresh W0.heap.size A2 ∧ W = W9.setCell ⟨q.g, 2, none⟩ (.slice A2 (i + (n - (i + 1))) c2)))) (by kernel_rfl) (by kernel_rfl) 20 rfl ?_ ?_ ?_
            · exact ⟨0, none, 0, none, 0, Lib.hid rfl, Lib.hid rfl, Lib.hid (fun _ _ => rfl), fun h => absurd h id, fun h => absurd h id, fun h => absurd h id, fun h => absurd h id, fun h => absurd h id, fun h => absurd h id, fun h => absurd h id, fun h => absurd h id, fun h => absurd h id, fun h => absurd h id, fun h => absurd h id, fun h => absurd h id, fun h => absurd h id, fun h => absurd h id, fun h => absurd h id, fun h => absurd h id, fun h => absurd h id, fun h => absurd h id, fun h => absurd h id, fun h => absurd h id, fun h => absurd h id, fun h => absurd h id, fun h => absurd h id, fun h => absurd h id, fun h => absurd h id, fun h => absurd h id, fun h => absurd h id, fun h => absurd h id, fun h => absurd h id, fun h => absurd h id, fun h => absurd h id, fun h => absurd h id, fun h => absurd h id, fun h => absurd h id, fun h => absurd h id, fun h => absurd h id, fun h => absurd h id, fun h => absurd h id, fun _ => Lib.hid ((Kp.refl _ _).drew), fun h => absurd h id, fun h => absurd h id, fun h => absurd h id, fun h => absurd h id⟩
            · intro bP a' W iP oP hoP hn hdP hI KP hK
              obtain ⟨g1, A1, c1, A2, c2, ad, az, af, h0, h1, h2, h3, h4, h5, h6, h7, h8, h9, h10, h11, h12, h13, h14, h15, h16, h17, h18, c3_2, c4_3, c5_4, c7_5, c7_6, c8_1, c8_7, c10_9, c11_10, c12_11, c14_13, c15_12, c15_14, c16_8, c16_15, c17_0, c18_17, c19_16, c19_18, hK1, hg1, hg2, hgF, hFin⟩ := hI
              have s0 := (af.out 0 (by decide)).trans sl0
              have s13 := (af.out 13 (by decide)).trans sl13
              match iP, hoP with
              | 0, hoP =>
                injection hoP with hoP; subst hoP
                have nb19 : ¬ bP 19 := fun h => hn (c17_0 (c18_17 (c19_18 h)))
                have HK := Lib.hid hK
                obtain ⟨sv0, sw0⟩ := ev_of s0
                clear hK hdP
                rw [if_pos (by rfl)]
                go_simp
                exact HK.out _ _ ⟨g1, A1, c1, A2, c2, Lib.hid ad.out, Lib.hid (gd_size.trans az.out), Lib.hid (fun k hk => (gd_ne (by rintro rfl; exact hk (by decide))).trans (af.out k hk)), fun _ => gd_eq (by rw [az.out, sz00]; decide), gdI h1, gdI h2, gdI h3, gdI h4, gdI h5, gdI h6, gdI h7, gdI h8, gdI h9, gdI h10, gdI h11, gdI h12, gdI h13, gdI h14, gdI h15, gdI h16, gdI h17, gdI h18, giI c3_2, giI c4_3, giI c5_4, giI c7_5, giI c7_6, giI c8_1, giI c8_7, giI c10_9, giI c11_10, giI c12_11, giI c14_13, giI c15_12, giI c15_14, giI c16_8, giI c16_15, giI c17_0, giI c18_17, giI c19_16, giI c19_18, fun n19 => (hK1 (fun z => n19 (.inr z))), fun p1 n8 n19 => (hg1 (rlI p1) (fun z => n8 (.inr z)) (fun z => n19 (.inr z))), fun p8 n16 n19 => (hg2 (rlI p8) (fun z => n16 (.inr z)) (fun z => n19 (.inr z))), fun p16 n19 => (hgF (rlI p16) (fun z => n19 (.inr z))), fun p19 => absurd (c17_0 (c18_17 (c19_18 (rlI p19)))) hn⟩
              | 1, hoP =>
                injection hoP with hoP; subst hoP
                have nb8 : ¬ bP 8 := fun h => hn (c8_1 h)
                have nb16 : ¬ bP 16 := fun h => hn (c8_1 (c16_8 h))
                have nb19 : ¬ bP 19 := fun h => hn (c8_1 (c16_8 (c19_16 h)))
                have HK := Lib.hid hK
                clear hK hdP
                rw [if_pos (by rfl)]
                go_simp
                exact HK.out _ _ ⟨W.heap.size, A1, c1, A2, c2, Lib.hid ad.out, Lib.hid (gd_size.trans az.out), Lib.hid (fun k hk => (gd_ne (by rintro rfl; exact hk (by decide))).trans (af.out k hk)), gdI h0, fun _ => gd_eq (by rw [az.out, sz00]; decide), gdI h2, gdI h3, gdI h4, gdI h5, gdI h6, gdI h7, gdI h8, gdI h9, gdI h10, gdI h11, gdI h12, gdI h13, gdI h14, gdI h15, gdI h16, gdI h17, gdI h18, giI c3_2, giI c4_3, giI c5_4, giI c7_5, giI c7_6, giI c8_1, giI c8_7, giI c10_9, giI c11_10, giI c12_11, giI c14_13, giI c15_12, giI c15_14, giI c16_8, giI c16_15, giI c17_0, giI c18_17, giI c19_16, giI c19_18, fun n19 => Lib.hid (((hK1 (fun z => n19 (.inr z))).out).trans ((Kp.refl [] W).alloc _)), fun p1 n8 n19 => Lib.hid (⟨(hK1 nb19).out.size, Ow.lit W _ 3 #[] 0 (by decide) rfl⟩), fun p8 n16 n19 => absurd (c8_1 (rlI p8)) hn, fun p16 n19 => absurd (c8_1 (c16_8 (rlI p16))) hn, fun p19 => absurd (c8_1 (c16_8 (c19_16 (rlI p19)))) hn⟩
              | 2, hoP =>
                injection hoP with hoP; subst hoP
                have nb8 : ¬ bP 8 := fun h => hn (c3_2 (c4_3 (c5_4 (c7_5 (c8_7 h)))))
                have nb16 : ¬ bP 16 := fun h => hn (c3_2 (c4_3 (c5_4 (c7_5 (c8_7 (c16_8 h))))))
                have nb19 : ¬ bP 19 := fun h => hn (c3_2 (c4_3 (c5_4 (c7_5 (c8_7 (c16_8 (c19_16 h)))))))
                have HK := Lib.hid hK
                obtain ⟨sv0, sw0⟩ := ev_of s0
                clear hK hdP
                rw [if_pos (by rfl)]
                go_simp
                exact HK.out _ _ ⟨g1, A1, c1, A2, c2, Lib.hid ad.out, Lib.hid (gd_size.trans az.out), Lib.hid (fun k hk => (gd_ne (by rintro rfl; exact hk (by decide))).trans (af.out k hk)), gdI h0, gdI h1, fun _ => gd_eq (by rw [az.out, sz00]; decide), gdI h3, gdI h4, gdI h5, gdI h6, gdI h7, gdI h8, gdI h9, gdI h10, gdI h11, gdI h12, gdI h13, gdI h14, gdI h15, gdI h16, gdI h17, gdI h18, giI c3_2, giI c4_3, giI c5_4, giI c7_5, giI c7_6, giI c8_1, giI c8_7, giI c10_9, giI c11_10, giI c12_11, giI c14_13, giI c15_12, giI c15_14, giI c16_8, giI c16_15, giI c17_0, giI c18_17, giI c19_16, giI c19_18, fun n19 => (hK1 (fun z => n19 (.inr z))), fun p1 n8 n19 => (hg1 (rlI p1) (fun z => n8 (.inr z)) (fun z => n19 (.inr z))), fun p8 n16 n19 => absurd (c3_2 (c4_3 (c5_4 (c7_5 (c8_7 (rlI p8)))))) hn, fun p16 n19 => absurd (c3_2 (c4_3 (c5_4 (c7_5 (c8_7 (c16_8 (rlI p16))))))) hn, fun p19 => absurd (c3_2 (c4_3 (c5_4 (c7_5 (c8_7 (c16_8 (c19_16 (rlI p19)))))))) hn⟩
              | 3, hoP =>
                injection hoP with hoP; subst hoP
                have nb8 : ¬ bP 8 := fun h => hn (c4_3 (c5_4 (c7_5 (c8_7 h))))
                have nb16 : ¬ bP 16 := fun h => hn (c4_3 (c5_4 (c7_5 (c8_7 (c16_8 h)))))
                have nb19 : ¬ bP 19 := fun h => hn (c4_3 (c5_4 (c7_5 (c8_7 (c16_8 (c19_16 h))))))
                have d2 : bP 2 := hdP ⟨2, .data⟩ (by simp) rfl
                have HK := Lib.hid hK
                have e2 := h2 d2
                obtain ⟨ev2, ew2⟩ := ev_of e2
                clear hK hdP
                rw [if_pos (by rfl)]
                go_simp
                exact HK.out _ _ ⟨g1, A1, c1, A2, c2, Lib.hid ad.out, Lib.hid (gd_size.trans az.out), Lib.hid (fun k hk => (gd_ne (by rintro rfl; exact hk (by decide))).trans (af.out k hk)), gdI h0, gdI h1, gdI h2, fun _ => gd_eq (by rw [az.out, sz00]; decide), gdI h4, gdI h5, gdI h6, gdI h7, gdI h8, gdI h9, gdI h10, gdI h11, gdI h12, gdI h13, gdI h14, gdI h15, gdI h16, gdI h17, gdI h18, fun _ => .inr d2, giI c4_3, giI c5_4, giI c7_5, giI c7_6, giI c8_1, giI c8_7, giI c10_9, giI c11_10, giI c12_11, giI c14_13, giI c15_12, giI c15_14, giI c16_8, giI c16_15, giI c17_0, giI c18_17, giI c19_16, giI c19_18, fun n19 => (hK1 (fun z => n19 (.inr z))), fun p1 n8 n19 => (hg1 (rlI p1) (fun z => n8 (.inr z)) (fun z => n19 (.inr z))), fun p8 n16 n19 => absurd (c4_3 (c5_4 (c7_5 (c8_7 (rlI p8))))) hn, fun p16 n19 => absurd (c4_3 (c5_4 (c7_5 (c8_7 (c16_8 (rlI p16)))))) hn, fun p19 => absurd (c4_3 (c5_4 (c7_5 (c8_7 (c16_8 (c19_16 (rlI p19))))))) hn⟩
              | 4, hoP =>
                injection hoP with hoP; subst hoP
                have nb8 : ¬ bP 8 := fun h => hn (c5_4 (c7_5 (c8_7 h)))
                have nb16 : ¬ bP 16 := fun h => hn (c5_4 (c7_5 (c8_7 (c16_8 h))))
                have nb19 : ¬ bP 19 := fun h => hn (c5_4 (c7_5 (c8_7 (c16_8 (c19_16 h)))))
                have d3 : bP 3 := hdP ⟨3, .data⟩ (by simp) rfl
                have HK := Lib.hid hK
                have e3 := h3 d3
                obtain ⟨ev3, ew3⟩ := ev_of e3
                clear hK hdP
                rw [if_pos (by rfl)]
                go_simp
                exact HK.out _ _ ⟨g1, A1, c1, A2, c2, Lib.hid ad.out, Lib.hid (gd_size.trans az.out), Lib.hid (fun k hk => (gd_ne (by rintro rfl; exact hk (by decide))).trans (af.out k hk)), gdI h0, gdI h1, gdI h2, gdI h3, fun _ => gd_eq (by rw [az.out, sz00]; decide), gdI h5, gdI h6, gdI h7, gdI h8, gdI h9, gdI h10, gdI h11, gdI h12, gdI h13, gdI h14, gdI h15, gdI h16, gdI h17, gdI h18, giI c3_2, fun _ => .inr d3, giI c5_4, giI c7_5, giI c7_6, giI c8_1, giI c8_7, giI c10_9, giI c11_10, giI c12_11, giI c14_13, giI c15_12, giI c15_14, giI c16_8, giI c16_15, giI c17_0, giI c18_17, giI c19_16, giI c19_18, fun n19 => (hK1 (fun z => n19 (.inr z))), fun p1 n8 n19 => (hg1 (rlI p1) (fun z => n8 (.inr z)) (fun z => n19 (.inr z))), fun p8 n16 n19 => absurd (c5_4 (c7_5 (c8_7 (rlI p8)))) hn, fun p16 n19 => absurd (c5_4 (c7_5 (c8_7 (c16_8 (rlI p16))))) hn, fun p19 => absurd (c5_4 (c7_5 (c8_7 (c16_8 (c19_16 (rlI p19)))))) hn⟩
              | 5, hoP =>
                injection hoP with hoP; subst hoP
                have nb8 : ¬ bP 8 := fun h => hn (c7_5 (c8_7 h))
                have nb16 : ¬ bP 16 := fun h => hn (c7_5 (c8_7 (c16_8 h)))
                have nb19 : ¬ bP 19 := fun h => hn (c7_5 (c8_7 (c16_8 (c19_16 h))))
                have d4 : bP 4 := hdP ⟨4, .data⟩ (by simp) rfl
                have HK := Lib.hid hK
                have e4 := h4 d4
                obtain ⟨ev4, ew4⟩ := ev_of e4
                have q := (HW0.out W (hK1 nb19).out).cell 2
                simp only [List.getElem?_cons_zero, List.getElem?_cons_succ] at q
                clear hK hdP
                rw [if_pos (by rfl)]
                go_simp
                exact HK.out _ _ ⟨g1, A1, c1, A2, c2, Lib.hid ad.out, Lib.hid (gd_size.trans az.out), Lib.hid (fun k hk => (gd_ne (by rintro rfl; exact hk (by decide))).trans (af.out k hk)), gdI h0, gdI h1, gdI h2, gdI h3, gdI h4, fun _ => gd_eq (by rw [az.out, sz00]; decide), gdI h6, gdI h7, gdI h8, gdI h9, gdI h10, gdI h11, gdI h12, gdI h13, gdI h14, gdI h15, gdI h16, gdI h17, gdI h18, giI c3_2, giI c4_3, fun _ => .inr d4, giI c7_5, giI c7_6, giI c8_1, giI c8_7, giI c10_9, giI c11_10, giI c12_11, giI c14_13, giI c15_12, giI c15_14, giI c16_8, giI c16_15, giI c17_0, giI c18_17, giI c19_16, giI c19_18, fun n19 => (hK1 (fun z => n19 (.inr z))), fun p1 n8 n19 => (hg1 (rlI p1) (fun z => n8 (.inr z)) (fun z => n19 (.inr z))), fun p8 n16 n19 => absurd (c7_5 (c8_7 (rlI p8))) hn, fun p16 n19 => absurd (c7_5 (c8_7 (c16_8 (rlI p16)))) hn, fun p19 => absurd (c7_5 (c8_7 (c16_8 (c19_16 (rlI p19))))) hn⟩
              | 6, hoP =>
                injection hoP with hoP; subst hoP
                have nb8 : ¬ bP 8 := fun h => hn (c7_6 (c8_7 h))
                have nb16 : ¬ bP 16 := fun h => hn (c7_6 (c8_7 (c16_8 h)))
                have nb19 : ¬ bP 19 := fun h => hn (c7_6 (c8_7 (c16_8 (c19_16 h))))
                have HK := Lib.hid hK
                obtain ⟨sv13, sw13⟩ := ev_of s13
                clear hK hdP
                rw [if_pos (by rfl)]
                go_simp
                exact HK.out _ _ ⟨g1, A1, c1, A2, c2, Lib.hid ad.out, Lib.hid (gd_size.trans az.out), Lib.hid (fun k hk => (gd_ne (by rintro rfl; exact hk (by decide))).trans (af.out k hk)), gdI h0, gdI h1, gdI h2, gdI h3, gdI h4, gdI h5, fun _ => gd_eq (by rw [az.out, sz00]; decide), gdI h7, gdI h8, gdI h9, gdI h10, gdI h11, gdI h12, gdI h13, gdI h14, gdI h15, gdI h16, gdI h17, gdI h18, giI c3_2, giI c4_3, giI c5_4, giI c7_5, giI c7_6, giI c8_1, giI c8_7, giI c10_9, giI c11_10, giI c12_11, giI c14_13, giI c15_12, giI c15_14, giI c16_8, giI c16_15, giI c17_0, giI c18_17, giI c19_16, giI c19_18, fun n19 => (hK1 (fun z => n19 (.inr z))), fun p1 n8 n19 => (hg1 (rlI p1) (fun z => n8 (.inr z)) (fun z => n19 (.inr z))), fun p8 n16 n19 => absurd (c7_6 (c8_7 (rlI p8))) hn, fun p16 n19 => absurd (c7_6 (c8_7 (c16_8 (rlI p16)))) hn, fun p19 => absurd (c7_6 (c8_7 (c16_8 (c19_16 (rlI p19))))) hn⟩
              | 7, hoP =>
                injection hoP with hoP; subst hoP
                have nb8 : ¬ bP 8 := fun h => hn (c8_7 h)
                have nb16 : ¬ bP 16 := fun h => hn (c8_7 (c16_8 h))
                have nb19 : ¬ bP 19 := fun h => hn (c8_7 (c16_8 (c19_16 h)))
                have d5 : bP 5 := hdP ⟨5, .data⟩ (by simp) rfl
                have d6 : bP 6 := hdP ⟨6, .data⟩ (by simp) rfl
                have HK := Lib.hid hK
                have e5 := h5 d5
                obtain ⟨ev5, ew5⟩ := ev_of e5
                have e6 := h6 d6
                obtain ⟨ev6, ew6⟩ := ev_of e6
                clear hK hdP
                rw [if_pos (by rfl)]
                go_simp
                exact HK.out _ _ ⟨g1, A1, c1, A2, c2, Lib.hid ad.out, Lib.hid (gd_size.trans az.out), Lib.hid (fun k hk => (gd_ne (by rintro rfl; exact hk (by decide))).trans (af.out k hk)), gdI h0, gdI h1, gdI h2, gdI h3, gdI h4, gdI h5, gdI h6, fun _ => gd_eq (by rw [az.out, sz00]; decide), gdI h8, gdI h9, gdI h10, gdI h11, gdI h12, gdI h13, gdI h14, gdI h15, gdI h16, gdI h17, gdI h18, giI c3_2, giI c4_3, giI c5_4, fun _ => .inr d5, fun _ => .inr d6, giI c8_1, giI c8_7, giI c10_9, giI c11_10, giI c12_11, giI c14_13, giI c15_12, giI c15_14, giI c16_8, giI c16_15, giI c17_0, giI c18_17, giI c19_16, giI c19_18, fun n19 => (hK1 (fun z => n19 (.inr z))), fun p1 n8 n19 => (hg1 (rlI p1) (fun z => n8 (.inr z)) (fun z => n19 (.inr z))), fun p8 n16 n19 => absurd (c8_7 (rlI p8)) hn, fun p16 n19 => absurd (c8_7 (c16_8 (rlI p16))) hn, fun p19 => absurd (c8_7 (c16_8 (c19_16 (rlI p19)))) hn⟩
              | 8, hoP =>
                injection hoP with hoP; subst hoP
                have nb8 := hn
                have nb16 : ¬ bP 16 := fun h => hn (c16_8 h)
                have nb19 : ¬ bP 19 := fun h => hn (c16_8 (c19_16 h))
                have d1 : bP 1 := hdP ⟨1, .data⟩ (by simp) rfl
                have d7 : bP 7 := hdP ⟨7, .data⟩ (by simp) rfl
                have HK := Lib.hid hK
                have e1 := h1 d1
                obtain ⟨ev1, ew1⟩ := ev_of e1
                have e7 := h7 d7
                obtain ⟨ev7, ew7⟩ := ev_of e7
                clear hK hdP
                rw [if_pos (by rfl)]
                refine wp_app _ (.tmp 248) (.tmp 254) 62 rfl elt_rf (some ⟨g1, 0, none⟩) 0 0 [] ev1 (hg1 d1 nb8 nb19).out.2 [] (some ⟨b, off, none⟩) i cc ((ys.take i).flatMap Bnd.vals) ev7 (HRd.out W (hK1 nb19).out) HLN.out HMW.out (by omega) (fun A1' c1' w1' ho1 hk1 hA1 => ?_)
                rw [Nat.zero_add] at ho1 ⊢
                simp only [List.nil_append] at ho1
                have ho1 := Lib.hid ho1
                exact HK.out _ _ ⟨g1, A1', c1', A2, c2, Lib.hid ad.out, Lib.hid (gd_size.trans az.out), Lib.hid (fun k hk => (gd_ne (by rintro rfl; exact hk (by decide))).trans (af.out k hk)), gdI h0, gdI h1, gdI h2, gdI h3, gdI h4, gdI h5, gdI h6, gdI h7, fun _ => gd_eq (by rw [az.out, sz00]; decide), gdI h9, gdI h10, gdI h11, gdI h12, gdI h13, gdI h14, gdI h15, gdI h16, gdI h17, gdI h18, giI c3_2, giI c4_3, giI c5_4, giI c7_5, giI c7_6, fun _ => .inr d1, fun _ => .inr d7, giI c10_9, giI c11_10, giI c12_11, giI c14_13, giI c15_12, giI c15_14, giI c16_8, giI c16_15, giI c17_0, giI c18_17, giI c19_16, giI c19_18, fun n19 => Lib.hid ((hK1 nb19).out.thn hk1 (fun s hs => .inr (by simp [bks] at hs; have := (hg1 d1 nb8 nb19).out.1; omega))), fun _ z _ => absurd (.inl rfl) z, fun p8 n16 n19 => Lib.hid (⟨by rcases hA1 with rfl | rfl <;> intro s hs <;> simp [bks] at hs <;> (have := (hg1 d1 nb8 nb19).out.1; have := (hK1 nb19).out.size; omega), ho1.out⟩), fun p16 n19 => absurd (c16_8 (rlI p16)) hn, fun p19 => absurd (c16_8 (c19_16 (rlI p19))) hn⟩
              | 9, hoP =>
                injection hoP with hoP; subst hoP
                have nb16 : ¬ bP 16 := fun h => hn (c10_9 (c11_10 (c12_11 (c15_12 (c16_15 h)))))
                have nb19 : ¬ bP 19 := fun h => hn (c10_9 (c11_10 (c12_11 (c15_12 (c16_15 (c19_16 h))))))
                have HK := Lib.hid hK
                obtain ⟨sv0, sw0⟩ := ev_of s0
                clear hK hdP
                rw [if_pos (by rfl)]
                go_simp
                exact HK.out _ _ ⟨g1, A1, c1, A2, c2, Lib.hid ad.out, Lib.hid (gd_size.trans az.out), Lib.hid (fun k hk => (gd_ne (by rintro rfl; exact hk (by decide))).trans (af.out k hk)), gdI h0, gdI h1, gdI h2, gdI h3, gdI h4, gdI h5, gdI h6, gdI h7, gdI h8, fun _ => gd_eq (by rw [az.out, sz00]; decide), gdI h10, gdI h11, gdI h12, gdI h13, gdI h14, gdI h15, gdI h16, gdI h17, gdI h18, giI c3_2, giI c4_3, giI c5_4, giI c7_5, giI c7_6, giI c8_1, giI c8_7, giI c10_9, giI c11_10, giI c12_11, giI c14_13, giI c15_12, giI c15_14, giI c16_8, giI c16_15, giI c17_0, giI c18_17, giI c19_16, giI c19_18, fun n19 => (hK1 (fun z => n19 (.inr z))), fun p1 n8 n19 => (hg1 (rlI p1) (fun z => n8 (.inr z)) (fun z => n19 (.inr z))), fun p8 n16 n19 => (hg2 (rlI p8) (fun z => n16 (.inr z)) (fun z => n19 (.inr z))), fun p16 n19 => absurd (c10_9 (c11_10 (c12_11 (c15_12 (c16_15 (rlI p16)))))) hn, fun p19 => absurd (c10_9 (c11_10 (c12_11 (c15_12 (c16_15 (c19_16 (rlI p19))))))) hn⟩
              | 10, hoP =>
                injection hoP with hoP; subst hoP
                have nb16 : ¬ bP 16 := fun h => hn (c11_10 (c12_11 (c15_12 (c16_15 h))))
                have nb19 : ¬ bP 19 := fun h => hn (c11_10 (c12_11 (c15_12 (c16_15 (c19_16 h)))))
                have d9 : bP 9 := hdP ⟨9, .data⟩ (by simp) rfl
                have HK := Lib.hid hK
                have e9 := h9 d9
                obtain ⟨ev9, ew9⟩ := ev_of e9
                clear hK hdP
                rw [if_pos (by rfl)]
                go_simp
                exact HK.out _ _ ⟨g1, A1, c1, A2, c2, Lib.hid ad.out, Lib.hid (gd_size.trans az.out), Lib.hid (fun k hk => (gd_ne (by rintro rfl; exact hk (by decide))).trans (af.out k hk)), gdI h0, gdI h1, gdI h2, gdI h3, gdI h4, gdI h5, gdI h6, gdI h7, gdI h8, gdI h9, fun _ => gd_eq (by rw [az.out, sz00]; decide), gdI h11, gdI h12, gdI h13, gdI h14, gdI h15, gdI h16, gdI h17, gdI h18, giI c3_2, giI c4_3, giI c5_4, giI c7_5, giI c7_6, giI c8_1, giI c8_7, fun _ => .inr d9, giI c11_10, giI c12_11, giI c14_13, giI c15_12, giI c15_14, giI c16_8, giI c16_15, giI c17_0, giI c18_17, giI c19_16, giI c19_18, fun n19 => (hK1 (fun z => n19 (.inr z))), fun p1 n8 n19 => (hg1 (rlI p1) (fun z => n8 (.inr z)) (fun z => n19 (.inr z))), fun p8 n16 n19 => (hg2 (rlI p8) (fun z => n16 (.inr z)) (fun z => n19 (.inr z))), fun p16 n19 => absurd (c11_10 (c12_11 (c15_12 (c16_15 (rlI p16))))) hn, fun p19 => absurd (c11_10 (c12_11 (c15_12 (c16_15 (c19_16 (rlI p19)))))) hn⟩
              | 11, hoP =>
                injection hoP with hoP; subst hoP
                have nb16 : ¬ bP 16 := fun h => hn (c12_11 (c15_12 (c16_15 h)))
                have nb19 : ¬ bP 19 := fun h => hn (c12_11 (c15_12 (c16_15 (c19_16 h))))
                have d10 : bP 10 := hdP ⟨10, .data⟩ (by simp) rfl
                have HK := Lib.hid hK
                have e10 := h10 d10
                obtain ⟨ev10, ew10⟩ := ev_of e10
                clear hK hdP
                rw [if_pos (by rfl)]
                go_simp
                exact HK.out _ _ ⟨g1, A1, c1, A2, c2, Lib.hid ad.out, Lib.hid (gd_size.trans az.out), Lib.hid (fun k hk => (gd_ne (by rintro rfl; exact hk (by decide))).trans (af.out k hk)), gdI h0, gdI h1, gdI h2, gdI h3, gdI h4, gdI h5, gdI h6, gdI h7, gdI h8, gdI h9, gdI h10, fun _ => gd_eq (by rw [az.out, sz00]; decide), gdI h12, gdI h13, gdI h14, gdI h15, gdI h16, gdI h17, gdI h18, giI c3_2, giI c4_3, giI c5_4, giI c7_5, giI c7_6, giI c8_1, giI c8_7, giI c10_9, fun _ => .inr d10, giI c12_11, giI c14_13, giI c15_12, giI c15_14, giI c16_8, giI c16_15, giI c17_0, giI c18_17, giI c19_16, giI c19_18, fun n19 => (hK1 (fun z => n19 (.inr z))), fun p1 n8 n19 => (hg1 (rlI p1) (fun z => n8 (.inr z)) (fun z => n19 (.inr z))), fun p8 n16 n19 => (hg2 (rlI p8) (fun z => n16 (.inr z)) (fun z => n19 (.inr z))), fun p16 n19 => absurd (c12_11 (c15_12 (c16_15 (rlI p16)))) hn, fun p19 => absurd (c12_11 (c15_12 (c16_15 (c19_16 (rlI p19))))) hn⟩
              | 12, hoP =>
                injection hoP with hoP; subst hoP
                have nb16 : ¬ bP 16 := fun h => hn (c15_12 (c16_15 h))
                have nb19 : ¬ bP 19 := fun h => hn (c15_12 (c16_15 (c19_16 h)))
                have d11 : bP 11 := hdP ⟨11, .data⟩ (by simp) rfl
                have HK := Lib.hid hK
                have e11 := h11 d11
                obtain ⟨ev11, ew11⟩ := ev_of e11
                have q := (HW0.out W (hK1 nb19).out).cell 2
                simp only [List.getElem?_cons_zero, List.getElem?_cons_succ] at q
                clear hK hdP
                rw [if_pos (by rfl)]
                go_simp
                exact HK.out _ _ ⟨g1, A1, c1, A2, c2, Lib.hid ad.out, Lib.hid (gd_size.trans az.out), Lib.hid (fun k hk => (gd_ne (by rintro rfl; exact hk (by decide))).trans (af.out k hk)), gdI h0, gdI h1, gdI h2, gdI h3, gdI h4, gdI h5, gdI h6, gdI h7, gdI h8, gdI h9, gdI h10, gdI h11, fun _ => gd_eq (by rw [az.out, sz00]; decide), gdI h13, gdI h14, gdI h15, gdI h16, gdI h17, gdI h18, giI c3_2, giI c4_3, giI c5_4, giI c7_5, giI c7_6, giI c8_1, giI c8_7, giI c10_9, giI c11_10, fun _ => .inr d11, giI c14_13, giI c15_12, giI c15_14, giI c16_8, giI c16_15, giI c17_0, giI c18_17, giI c19_16, giI c19_18, fun n19 => (hK1 (fun z => n19 (.inr z))), fun p1 n8 n19 => (hg1 (rlI p1) (fun z => n8 (.inr z)) (fun z => n19 (.inr z))), fun p8 n16 n19 => (hg2 (rlI p8) (fun z => n16 (.inr z)) (fun z => n19 (.inr z))), fun p16 n19 => absurd (c15_12 (c16_15 (rlI p16))) hn, fun p19 => absurd (c15_12 (c16_15 (c19_16 (rlI p19)))) hn⟩
              | 13, hoP =>
                injection hoP with hoP; subst hoP
                have nb16 : ¬ bP 16 := fun h => hn (c14_13 (c15_14 (c16_15 h)))
                have nb19 : ¬ bP 19 := fun h => hn (c14_13 (c15_14 (c16_15 (c19_16 h))))
                have HK := Lib.hid hK
                obtain ⟨sv13, sw13⟩ := ev_of s13
                clear hK hdP
                rw [if_pos (by rfl)]
                go_simp
                exact HK.out _ _ ⟨g1, A1, c1, A2, c2, Lib.hid ad.out, Lib.hid (gd_size.trans az.out), Lib.hid (fun k hk => (gd_ne (by rintro rfl; exact hk (by decide))).trans (af.out k hk)), gdI h0, gdI h1, gdI h2, gdI h3, gdI h4, gdI h5, gdI h6, gdI h7, gdI h8, gdI h9, gdI h10, gdI h11, gdI h12, fun _ => gd_eq (by rw [az.out, sz00]; decide), gdI h14, gdI h15, gdI h16, gdI h17, gdI h18, giI c3_2, giI c4_3, giI c5_4, giI c7_5, giI c7_6, giI c8_1, giI c8_7, giI c10_9, giI c11_10, giI c12_11, giI c14_13, giI c15_12, giI c15_14, giI c16_8, giI c16_15, giI c17_0, giI c18_17, giI c19_16, giI c19_18, fun n19 => (hK1 (fun z => n19 (.inr z))), fun p1 n8 n19 => (hg1 (rlI p1) (fun z => n8 (.inr z)) (fun z => n19 (.inr z))), fun p8 n16 n19 => (hg2 (rlI p8) (fun z => n16 (.inr z)) (fun z => n19 (.inr z))), fun p16 n19 => absurd (c14_13 (c15_14 (c16_15 (rlI p16)))) hn, fun p19 => absurd (c14_13 (c15_14 (c16_15 (c19_16 (rlI p19))))) hn⟩
              | 14, hoP =>
                injection hoP with hoP; subst hoP
                have nb16 : ¬ bP 16 := fun h => hn (c15_14 (c16_15 h))
                have nb19 : ¬ bP 19 := fun h => hn (c15_14 (c16_15 (c19_16 h)))
                have d13 : bP 13 := hdP ⟨13, .data⟩ (by simp) rfl
                have HK := Lib.hid hK
                have e13 := h13 d13
                obtain ⟨ev13, ew13⟩ := ev_of e13
                clear hK hdP
                rw [if_pos (by rfl)]
                go_simp
                exact HK.out _ _ ⟨g1, A1, c1, A2, c2, Lib.hid ad.out, Lib.hid (gd_size.trans az.out), Lib.hid (fun k hk => (gd_ne (by rintro rfl; exact hk (by decide))).trans (af.out k hk)), gdI h0, gdI h1, gdI h2, gdI h3, gdI h4, gdI h5, gdI h6, gdI h7, gdI h8, gdI h9, gdI h10, gdI h11, gdI h12, gdI h13, fun _ => gd_eq (by rw [az.out, sz00]; decide), gdI h15, gdI h16, gdI h17, gdI h18, giI c3_2, giI c4_3, giI c5_4, giI c7_5, giI c7_6, giI c8_1, giI c8_7, giI c10_9, giI c11_10, giI c12_11, fun _ => .inr d13, giI c15_12, giI c15_14, giI c16_8, giI c16_15, giI c17_0, giI c18_17, giI c19_16, giI c19_18, fun n19 => (hK1 (fun z => n19 (.inr z))), fun p1 n8 n19 => (hg1 (rlI p1) (fun z => n8 (.inr z)) (fun z => n19 (.inr z))), fun p8 n16 n19 => (hg2 (rlI p8) (fun z => n16 (.inr z)) (fun z => n19 (.inr z))), fun p16 n19 => absurd (c15_14 (c16_15 (rlI p16))) hn, fun p19 => absurd (c15_14 (c16_15 (c19_16 (rlI p19)))) hn⟩
              | 15, hoP =>
                injection hoP with hoP; subst hoP
                have nb16 : ¬ bP 16 := fun h => hn (c16_15 h)
                have nb19 : ¬ bP 19 := fun h => hn (c16_15 (c19_16 h))
                have d12 : bP 12 := hdP ⟨12, .data⟩ (by simp) rfl
                have d14 : bP 14 := hdP ⟨14, .data⟩ (by simp) rfl
                have HK := Lib.hid hK
                have e12 := h12 d12
                obtain ⟨ev12, ew12⟩ := ev_of e12
                have e14 := h14 d14
                obtain ⟨ev14, ew14⟩ := ev_of e14
                have hc9 := HC9.out
                clear hK hdP
                rw [if_pos (by rfl)]
                go_simp
                exact HK.out _ _ ⟨g1, A1, c1, A2, c2, Lib.hid ad.out, Lib.hid (gd_size.trans az.out), Lib.hid (fun k hk => (gd_ne (by rintro rfl; exact hk (by decide))).trans (af.out k hk)), gdI h0, gdI h1, gdI h2, gdI h3, gdI h4, gdI h5, gdI h6, gdI h7, gdI h8, gdI h9, gdI h10, gdI h11, gdI h12, gdI h13, gdI h14, fun _ => gd_eq (by rw [az.out, sz00]; decide), gdI h16, gdI h17, gdI h18, giI c3_2, giI c4_3, giI c5_4, giI c7_5, giI c7_6, giI c8_1, giI c8_7, giI c10_9, giI c11_10, giI c12_11, giI c14_13, fun _ => .inr d12, fun _ => .inr d14, giI c16_8, giI c16_15, giI c17_0, giI c18_17, giI c19_16, giI c19_18, fun n19 => (hK1 (fun z => n19 (.inr z))), fun p1 n8 n19 => (hg1 (rlI p1) (fun z => n8 (.inr z)) (fun z => n19 (.inr z))), fun p8 n16 n19 => (hg2 (rlI p8) (fun z => n16 (.inr z)) (fun z => n19 (.inr z))), fun p16 n19 => absurd (c16_15 (rlI p16)) hn, fun p19 => absurd (c16_15 (c19_16 (rlI p19))) hn⟩
              | 16, hoP =>
                injection hoP with hoP; subst hoP
                have nb16 := hn
                have nb19 : ¬ bP 19 := fun h => hn (c19_16 h)
                have d8 : bP 8 := hdP ⟨8, .data⟩ (by simp) rfl
                have d15 : bP 15 := hdP ⟨15, .data⟩ (by simp) rfl
                have HK := Lib.hid hK
                have e8 := h8 d8
                obtain ⟨ev8, ew8⟩ := ev_of e8
                have e15 := h15 d15
                obtain ⟨ev15, ew15⟩ := ev_of e15
                clear hK hdP
                rw [if_pos (by rfl)]
                refine wp_app _ (.tmp 255) (.tmp 262) 62 rfl elt_rf A1 i c1 _ ev8 (hg2 d8 nb16 nb19).out.2 [] (some ⟨b, off + (i + 1) * 3, none⟩) (n - (i + 1)) (cc - (i + 1)) ((ys.drop (i + 1)).flatMap Bnd.vals) ev15 (HRd2.out W _ (hK1 nb19).out (.inr ⟨HC9.out, rfl⟩)) HNL.out HNW.out (by omega) (fun A2' c2' w2' ho2 hk2 hA2 => ?_)
                have ho2 := Lib.hid ho2
                exact HK.out _ _ ⟨g1, A1, c1, A2', c2', Lib.hid ad.out, Lib.hid (gd_size.trans az.out), Lib.hid (fun k hk => (gd_ne (by rintro rfl; exact hk (by decide))).trans (af.out k hk)), gdI h0, gdI h1, gdI h2, gdI h3, gdI h4, gdI h5, gdI h6, gdI h7, gdI h8, gdI h9, gdI h10, gdI h11, gdI h12, gdI h13, gdI h14, gdI h15, fun _ => gd_eq (by rw [az.out, sz00]; decide), gdI h17, gdI h18, giI c3_2, giI c4_3, giI c5_4, giI c7_5, giI c7_6, giI c8_1, giI c8_7, giI c10_9, giI c11_10, giI c12_11, giI c14_13, giI c15_12, giI c15_14, fun _ => .inr d8, fun _ => .inr d15, giI c17_0, giI c18_17, giI c19_16, giI c19_18, fun n19 => Lib.hid ((hK1 nb19).out.thn hk2 (fun s hs => .inr ((hg2 d8 nb16 nb19).out.1 s hs))), fun p1 n8 n19 => Lib.hid (absurd d8 (fun z => n8 (.inr z))), fun _ z _ => absurd (.inl rfl) z, fun p16 n19 => Lib.hid (⟨by rcases hA2 with rfl | rfl; exact (hg2 d8 nb16 nb19).out.1; (intro s hs; simp [bks] at hs; have := (hK1 nb19).out.size; omega), ho2.out⟩), fun p19 => absurd (c19_16 (rlI p19)) hn⟩
              | 17, hoP =>
                injection hoP with hoP; subst hoP
                have nb19 : ¬ bP 19 := fun h => hn (c18_17 (c19_18 h))
                have d0 : bP 0 := hdP ⟨0, .data⟩ (by simp) rfl
                have HK := Lib.hid hK
                have e0 := h0 d0
                obtain ⟨ev0, ew0⟩ := ev_of e0
                clear hK hdP
                rw [if_pos (by rfl)]
                go_simp
                exact HK.out _ _ ⟨g1, A1, c1, A2, c2, Lib.hid ad.out, Lib.hid (gd_size.trans az.out), Lib.hid (fun k hk => (gd_ne (by rintro rfl; exact hk (by decide))).trans (af.out k hk)), gdI h0, gdI h1, gdI h2, gdI h3, gdI h4, gdI h5, gdI h6, gdI h7, gdI h8, gdI h9, gdI h10, gdI h11, gdI h12, gdI h13, gdI h14, gdI h15, gdI h16, fun _ => gd_eq (by rw [az.out, sz00]; decide), gdI h18, giI c3_2, giI c4_3, giI c5_4, giI c7_5, giI c7_6, giI c8_1, giI c8_7, giI c10_9, giI c11_10, giI c12_11, giI c14_13, giI c15_12, giI c15_14, giI c16_8, giI c16_15, fun _ => .inr d0, giI c18_17, giI c19_16, giI c19_18, fun n19 => (hK1 (fun z => n19 (.inr z))), fun p1 n8 n19 => (hg1 (rlI p1) (fun z => n8 (.inr z)) (fun z => n19 (.inr z))), fun p8 n16 n19 => (hg2 (rlI p8) (fun z => n16 (.inr z)) (fun z => n19 (.inr z))), fun p16 n19 => (hgF (rlI p16) (fun z => n19 (.inr z))), fun p19 => absurd (c18_17 (c19_18 (rlI p19))) hn⟩
              | 18, hoP =>
                injection hoP with hoP; subst hoP
                have nb19 : ¬ bP 19 := fun h => hn (c19_18 h)
                have d17 : bP 17 := hdP ⟨17, .data⟩ (by simp) rfl
                have HK := Lib.hid hK
                have e17 := h17 d17
                obtain ⟨ev17, ew17⟩ := ev_of e17
                clear hK hdP
                rw [if_pos (by rfl)]
                go_simp
                exact HK.out _ _ ⟨g1, A1, c1, A2, c2, Lib.hid ad.out, Lib.hid (gd_size.trans az.out), Lib.hid (fun k hk => (gd_ne (by rintro rfl; exact hk (by decide))).trans (af.out k hk)), gdI h0, gdI h1, gdI h2, gdI h3, gdI h4, gdI h5, gdI h6, gdI h7, gdI h8, gdI h9, gdI h10, gdI h11, gdI h12, gdI h13, gdI h14, gdI h15, gdI h16, gdI h17, fun _ => gd_eq (by rw [az.out, sz00]; decide), giI c3_2, giI c4_3, giI c5_4, giI c7_5, giI c7_6, giI c8_1, giI c8_7, giI c10_9, giI c11_10, giI c12_11, giI c14_13, giI c15_12, giI c15_14, giI c16_8, giI c16_15, giI c17_0, fun _ => .inr d17, giI c19_16, giI c19_18, fun n19 => (hK1 (fun z => n19 (.inr z))), fun p1 n8 n19 => (hg1 (rlI p1) (fun z => n8 (.inr z)) (fun z => n19 (.inr z))), fun p8 n16 n19 => (hg2 (rlI p8) (fun z => n16 (.inr z)) (fun z => n19 (.inr z))), fun p16 n19 => (hgF (rlI p16) (fun z => n19 (.inr z))), fun p19 => absurd (c19_18 (rlI p19)) hn⟩
              | 19, hoP =>
                injection hoP with hoP; subst hoP
                have nb19 := hn
                have d16 : bP 16 := hdP ⟨16, .data⟩ (by simp) rfl
                have d18 : bP 18 := hdP ⟨18, .data⟩ (by simp) rfl
                have HK := Lib.hid hK
                have e16 := h16 d16
                obtain ⟨ev16, ew16⟩ := ev_of e16
                have e18 := h18 d18
                obtain ⟨ev18, ew18⟩ := ev_of e18
                have zk := (hK1 nb19).out
                have zb := HW0.out W zk
                have zl := zb.lt
                have zf := zb.frozen 2
                have zc := zb.cell 2
                simp only [List.getElem?_cons_zero, List.getElem?_cons_succ] at zc
                clear hK hdP
                rw [if_pos (by rfl)]
                go_simp
                exact HK.out _ _ ⟨g1, A1, c1, A2, c2, ad, az, af, fun h => h0 (rlI h), fun h => h1 (rlI h), fun h => h2 (rlI h), fun h => h3 (rlI h), fun h => h4 (rlI h), fun h => h5 (rlI h), fun h => h6 (rlI h), fun h => h7 (rlI h), fun h => h8 (rlI h), fun h => h9 (rlI h), fun h => h10 (rlI h), fun h => h11 (rlI h), fun h => h12 (rlI h), fun h => h13 (rlI h), fun h => h14 (rlI h), fun h => h15 (rlI h), fun h => h16 (rlI h), fun h => h17 (rlI h), fun h => h18 (rlI h), giI c3_2, giI c4_3, giI c5_4, giI c7_5, giI c7_6, giI c8_1, giI c8_7, giI c10_9, giI c11_10, giI c12_11, giI c14_13, giI c15_12, giI c15_14, giI c16_8, giI c16_15, giI c17_0, giI c18_17, fun _ => .inr d16, fun _ => .inr d18, fun  z => absurd (.inl rfl) z, fun _ _ z => absurd (.inl rfl) z, fun _ _ z => absurd (.inl rfl) z, fun _ z => absurd (.inl rfl) z, fun p19 => Lib.hid (⟨W, (hK1 nb19).out, (hgF d16 nb19).out.2, (hgF d16 nb19).out.1, rfl⟩)⟩
              | (nP + 20), hoP => exact absurd hoP (by simp)
            · intro bP a' W hb hI
              obtain ⟨g1, A1, c1, A2, c2, ad, az, af, h0, h1, h2, h3, h4, h5, h6, h7, h8, h9, h10, h11, h12, h13, h14, h15, h16, h17, h18, c3_2, c4_3, c5_4, c7_5, c7_6, c8_1, c8_7, c10_9, c11_10, c12_11, c14_13, c15_12, c15_14, c16_8, c16_15, c17_0, c18_17, c19_16, c19_18, hK1, hg1, hg2, hgF, hFin⟩ := hI
              clear hK1
              clear hg1
              clear hg2
              clear hgF
              have hFin := hFin (hb 19 (by decide))
              have ha := act_of (L := [(247, .pointer (some ⟨q.g, 0, none⟩)), (248, .slice (some ⟨g1, 0, none⟩) 0 0), (249, .pointer (some ⟨q.g, 0, none⟩)), (250, .pointer (some ⟨q.g, 0, none⟩)), (251, .pointer (some ⟨q.g, 2, none⟩)), (252, .slice (some ⟨b, off, none⟩) n cc), (253, .int .i64 i), (254, .slice (some ⟨b, off, none⟩) i cc), (255, .slice A1 i c1), (256, .pointer (some ⟨q.g, 0, none⟩)), (257, .pointer (some ⟨q.g, 0, none⟩)), (258, .pointer (some ⟨q.g, 2, none⟩)), (259, .slice (some ⟨b, off, none⟩) n cc), (260, .int .i64 i), (261, .int .i64 (i + 1 : Nat)), (262, .slice (some ⟨b, off + (i + 1) * 3, none⟩) (n - (i + 1)) (cc - (i + 1))), (263, .slice A2 (i + (n - (i + 1))) c2), (264, .pointer (some ⟨q.g, 0, none⟩)), (265, .pointer (some ⟨q.g, 2, none⟩))]) (show ([247, 248, 249, 250, 251, 252, 253, 254, 255, 256, 257, 258, 259, 260, 261, 262, 263, 264, 265] : List Nat).Nodup by decide) ad.out az.out af.out (by
                intro p hp
                rw [sz00]
                simp only [List.mem_cons, List.not_mem_nil, or_false] at hp
                rcases hp with rfl | rfl | rfl | rfl | rfl | rfl | rfl | rfl | rfl | rfl | rfl | rfl | rfl | rfl | rfl | rfl | rfl | rfl | rfl
                · exact ⟨show 247 < 341 by decide, h0 (hb 0 (by decide))⟩
                · exact ⟨show 248 < 341 by decide, h1 (hb 1 (by decide))⟩
                · exact ⟨show 249 < 341 by decide, h2 (hb 2 (by decide))⟩
                · exact ⟨show 250 < 341 by decide, h3 (hb 3 (by decide))⟩
                · exact ⟨show 251 < 341 by decide, h4 (hb 4 (by decide))⟩
                · exact ⟨show 252 < 341 by decide, h5 (hb 5 (by decide))⟩
                · exact ⟨show 253 < 341 by decide, h6 (hb 6 (by decide))⟩
                · exact ⟨show 254 < 341 by decide, h7 (hb 7 (by decide))⟩
                · exact ⟨show 255 < 341 by decide, h8 (hb 8 (by decide))⟩
                · exact ⟨show 256 < 341 by decide, h9 (hb 9 (by decide))⟩
                · exact ⟨show 257 < 341 by decide, h10 (hb 10 (by decide))⟩
                · exact ⟨show 258 < 341 by decide, h11 (hb 11 (by decide))⟩
                · exact ⟨show 259 < 341 by decide, h12 (hb 12 (by decide))⟩
                · exact ⟨show 260 < 341 by decide, h13 (hb 13 (by decide))⟩
                · exact ⟨show 261 < 341 by decide, h14 (hb 14 (by decide))⟩
                · exact ⟨show 262 < 341 by decide, h15 (hb 15 (by decide))⟩
                · exact ⟨show 263 < 341 by decide, h16 (hb 16 (by decide))⟩
                · exact ⟨show 264 < 341 by decide, h17 (hb 17 (by decide))⟩
                · exact ⟨show 265 < 341 by decide, h18 (hb 18 (by decide))⟩
                )
              rw [HA00.out] at ha
              simp only [List.foldl_cons, List.foldl_nil, Act.put, List.setIfInBounds_toArray, List.set_cons_zero, List.set_cons_succ] at ha
              clear h0 h1 h2 h3 h4 h5 h6 h7 h8 h9 h10 h11 h12 h13 h14 h15 h16 h17 h18 c3_2 c4_3 c5_4 c7_5 c7_6 c8_1 c8_7 c10_9 c11_10 c12_11 c14_13 c15_12 c15_14 c16_8 c16_15 c17_0 c18_17 c19_16 c19_18 hb ad az af HA00 sz00 sl0 sl13
              subst ha
              obtain ⟨W9, z1, z2, z3, rfl⟩ := hFin.out
              have Y2 := Lib.hid (Fin.out _ _ _ z1 z2 z3)
              clear hFin z1 z2 z3 Fin HRd HRd2 HLN HNL HMW HNW HW0
              go_wp2
              first | exact rcast Y2.out (by simp) | exact bodyPost_ret (v := .tuple #[.int .i64 0, .string (S []), .int .i64 0]) (by simp [results, Tryz.results11, go_sem]; try rfl) rfl Y2.out
        · have g2 : (y.env == c.env) = false := by simp [hen]
          have hno2 : Hid (∀ j z, j < i + 1 → ys[j]? = some z → bhit c.a c.env z = false) := Lib.hid (fun j z hj hz => by
            rcases Nat.lt_or_ge j i with h | h
            · exact hno.out j z h hz
            · obtain rfl : j = i := by omega
              have := HY.out.symm.trans hz
              injection this with this
              subst this
              simp [bhit, hen])
          clear hid hen
          go_upto_region 35 with (fail)
          go_quiet (fail)
          go_wp2
          exact ⟨⟨i + 1, by omega, by go_num, Lib.hid (kr.out.drewN _), hno2⟩, by simp [intOf]; omega⟩
      · have g1 : (y.id == c.a) = false := by simp [hid]
        have hno2 : Hid (∀ j z, j < i + 1 → ys[j]? = some z → bhit c.a c.env z = false) := Lib.hid (fun j z hj hz => by
          rcases Nat.lt_or_ge j i with h | h
          · exact hno.out j z h hz
          · obtain rfl : j = i := by omega
            have := HY.out.symm.trans hz
            injection this with this
            subst this
            simp [bhit, hid])
        clear hid
        go_upto_region 35 with (fail)
        go_quiet (fail)
        go_wp2
        exact ⟨⟨i + 1, by omega, by go_num, Lib.hid (kr.out.drewN _), hno2⟩, by simp [intOf]; omega⟩
    · have HX := Lib.hid (H0.out (by rw [← key_idx HYS.out.key]; exact find_noneQ (fun j z hj hz => hno.out j z (by omega) hz)))
      clear H0 H1
      go_wp2
      first | exact rcast (HX.out q _ (((KW1.out.trans kr.out)).mono (by simp)) QW.out rfl ⟨rfl, rfl⟩) rfl | exact bodyPost_ret (v := .tuple #[.int .i64 0, .string (S []), .int .i64 11]) (by simp [results, Tryz.results11, go_sem]; try rfl) rfl (HX.out q _ (((KW1.out.trans kr.out)).mono (by simp)) QW.out rfl ⟨rfl, rfl⟩)
end
end
end Go.Proofs.YtedblbpmlbjnhaaGreat
