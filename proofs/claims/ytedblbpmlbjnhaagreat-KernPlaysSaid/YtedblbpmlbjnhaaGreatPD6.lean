/- KernNil: the example. Kernel.Call at Op 2; the example of pantlerlaw09. -/
import Derived.Test.YtedblbpmlbjnhaaGreatPD5
import Derived.Deep.RegionHeldLaw
namespace Go.Proofs.YtedblbpmlbjnhaaGreat
/-! ### KernNil: the example. -/
section
open Go.RowKit Go.Shelf
set_option linter.unusedVariables false
set_option linter.unusedSimpArgs false
set_option maxRecDepth 100000

def fs4 : List Fr := List.replicate 4 fz
theorem bk2 {w : World} {g tt : Nat} {a b : Value} (h : Bk w g tt [a, b]) : (w.cell? ⟨g, 0, none⟩ = some a ∧ w.cell? ⟨g, 1, none⟩ = some b) ∧ (w.frozen? ⟨g, 0, none⟩ = false ∧ w.frozen? ⟨g, 1, none⟩ = false) := ⟨⟨h.cell 0, h.cell 1⟩, h.frozen 0, h.frozen 1⟩
set_option maxHeartbeats 1000000 in
theorem only_any {R : Ending → World → Prop} (n e : Int) (w : World) (h : ∀ w', Kp [] w w' → R (.returned (.tuple #[.agg #[.int .i64 n, .slice none 0 0], .int .i64 e])) w') : Calls Tryz.prog 104 #[.int .i64 n, .int .i64 e] w R := by
  have H := Lib.hid h
  clear h
  go_enter Tryz.func104, Tryz.ntmps104
  go_wp2
  exact bodyPost_ret (v := .tuple #[.agg #[.int .i64 n, .slice none 0 0], .int .i64 e]) (by simp [results, Tryz.results104, go_sem]; try rfl) rfl (H.out _ ((Kp.refl _ _).alloc _))
def callC (op env : Int) : Value := .agg #[.int .i64 op, .int .i64 env, .int .i64 0, .int .i64 0, .int .i64 0, .slice none 0 0, .slice none 0 0, .slice none 0 0]
theorem ans_fin {w w3 : World} {rb bT bL : Nat} {fs : List Fr} {f x : Int} {y : Value} (k : Kp [bL] w w3) (h : w.heap.size ≤ rb) (t : Tab w3 bT bL fs) (b : Bk w3 rb 39 [.int .i64 x, y]) :
    ∃ W', ((w3.setCell ⟨rb, 0, none⟩ (.int .i64 f)).setCell ⟨rb, 1, none⟩ (.slice none 0 0)) = W' ∧ Kp [bL] w W' ∧ Tab W' bT bL fs ∧ Bk W' rb 39 [.int .i64 f, .slice none 0 0] := by
  have n1 : bT ≠ rb := (b.ne_ t.t (by decide)).symm
  have n2 : bL ≠ rb := (b.ne_ t.l (by decide)).symm
  have kk : Kp [rb] w3 ((w3.setCell ⟨rb, 0, none⟩ (.int .i64 f)).setCell ⟨rb, 1, none⟩ (.slice none 0 0)) := ((Kp.refl _ _).setCell (p := ⟨rb, 0, none⟩) (.inl (by simp)) _).setCell (p := ⟨rb, 1, none⟩) (.inl (by simp)) _
  exact ⟨_, rfl, k.thn kk (fun s hs => .inr (by simp at hs; omega)), t.kp kk (by simp; omega) (by simp; omega), ((b.set_ 0 _).set_ 1 _).cast rfl⟩
set_option maxHeartbeats 2000000 in
theorem fr_alloc {R : Ending → World → Prop} {w : World} {g bT bL bD : Nat} {a b c d : Option Addr} {fs : List Fr} (hK : Bk w g 114 (kernC bT bD a b c d)) (hT : Tab w bT bL fs)
    (h : ∀ f e fs' w', Hid (tAlloc fs 2 = (f, e, fs')) → Kp [bL] w w' → Tab w' bT bL fs' → R (.returned (.tuple #[.agg #[.int .i64 f, .slice none 0 0], .int .i64 e])) w') :
    Calls Tryz.prog 53 #[.pointer (some ⟨g, 0, none⟩), callC 1 2] w R := by
  have H := Lib.hid h
  have c0 := hK.cell 0
  simp only [kernC, List.getElem?_cons_zero] at c0
  have HT := Lib.hid hT
  have hbl := hT.l.lt
  have hbt := hT.t.lt
  have HK := Lib.hid hK
  clear h hT hK
  unfold callC
  go_enter Tryz.func53, Tryz.ntmps53
  go_upto_region 3 with (fail)
  refine gen_worldK (fun W => ∃ cb, w.heap.size = cb ∧ Kp [] w W ∧ Bk W cb 45 [.int .i64 1, .int .i64 2, .int .i64 0, .int .i64 0, .int .i64 0, .slice none 0 0, .slice none 0 0, .slice none 0 0] ∧ Bk W (cb + 1) 39 [.int .i64 0, .slice none 0 0]) ⟨_, rfl, ((Kp.refl _ _).alloc _).alloc _, ((Bk.new' _ _ _).alloc _).cast rfl, (Bk.newAt (by simp) _ _).cast rfl⟩ ?_
  rintro W ⟨cb, hcb, kW, bC, bR⟩
  rw [hcb]
  have hne : g ≠ bL := HK.out.ne_ HT.out.l (by decide)
  have hlg := HK.out.lt
  have hb0 : w.heap.size ≤ cb := by omega
  have hb1 : bL < cb := by omega
  have hg1 : g < cb := by omega
  have tW := HT.out.kp kW (by simp) (by simp)
  have bG := HK.out.kp kW (by simp)
  have HS : Hid (∀ w', Kp [bL, cb + 1] W w' → w'.cell? ⟨g, 0, none⟩ = some (.pointer (some ⟨bT, 0, none⟩)) ∧ w'.cell? ⟨cb, 1, none⟩ = some (.int .i64 2)) := Lib.hid (fun w' k' => ⟨(bG.kp k' (by simp; omega)).cell 0, (bC.kp k' (by simp; omega)).cell 1⟩)
  have TW := Lib.hid tW
  have BR := Lib.hid bR
  have KW := Lib.hid kW
  obtain ⟨q0, q1⟩ := HS.out W (Kp.refl _ _)
  clear tW bR kW bC bG c0 hcb
  go_region_held_law (fun w' => w'.cell? ⟨g, 0, none⟩ = some (.pointer (some ⟨bT, 0, none⟩)) ∧ w'.cell? ⟨cb, 1, none⟩ = some (.int .i64 2)) ((refine HS.out _ ?_; repeat (first | with_reducible exact kk3 | with_reducible exact kk2 | with_reducible exact Kp.refl _ W | refine Kp.drew ?_ | refine Kp.setCell ?_ (.inl (by simp)) _ | refine Kp.alloc ?_ _))) (first | (go_simp; go_at_call 109; (refine alloc_any (TW.out.kp (S := []) (Kp.refl _ _).drew (by simp) (by simp)) 2 ?_); intro f e fs' w2 hq k2 t2; have kk2 : Kp [bL, cb + 1] W w2 := (Kp.refl _ W).drew.trans (k2.mono (by simp)); have r2 := (BR.out.drew).kp k2 (by simp; omega)) | (go_simp; go_at_call 104; (refine only_any _ _ _ ?_); intro w3 k3; have kk3 : Kp [bL, cb + 1] W w3 := kk2.trans (k3.mono (by simp)); have r3 := r2.kp k3 (by simp); have t3 := t2.kp k3 (by simp) (by simp); obtain ⟨⟨s0, s1⟩, ⟨f0, f1⟩⟩ := bk2 r3))
  all_goals
    go_wp2
    obtain ⟨W', hW', kF, tF, bF⟩ := ans_fin (f := f) (((KW.out.mono (by simp)).trans ((Kp.refl [bL] W).drew.trans k2)).trans (k3.mono (by simp))) (by omega) t3 r3
    rw [hW']
    obtain ⟨⟨g0, g1⟩, _⟩ := bk2 bF
    exact bodyPost_ret (v := .tuple #[.agg #[.int .i64 f, .slice none 0 0], .int .i64 e]) (by simp [results, Tryz.results53, go_sem, g0, g1]; try rfl) rfl (H.out f e fs' _ hq kF tF)
set_option maxHeartbeats 2000000 in
theorem kc_alloc {R : Ending → World → Prop} {w : World} {g bT bL bD : Nat} {a b c d : Option Addr} {fs : List Fr} (hK : Bk w g 114 (kernC bT bD a b c d)) (hT : Tab w bT bL fs)
    (h : ∀ f e fs' w', Hid (tAlloc fs 2 = (f, e, fs')) → Kp [bL] w w' → Tab w' bT bL fs' → R (.returned (.tuple #[.agg #[.int .i64 f, .slice none 0 0], .int .i64 e])) w') :
    Calls Tryz.prog 9 #[.pointer (some ⟨g, 0, none⟩), callC 1 2] w R := by
  have H := Lib.hid h
  have HT := Lib.hid hT
  have hbl := hT.l.lt
  have hbt := hT.t.lt
  have HK := Lib.hid hK
  have HFr : Hid (∀ (R : Ending → World → Prop) (w1 : World), Kp [] w w1 → (∀ f e fs' w', Hid (tAlloc fs 2 = (f, e, fs')) → Kp [bL] w1 w' → Tab w' bT bL fs' → R (.returned (.tuple #[.agg #[.int .i64 f, .slice none 0 0], .int .i64 e])) w') → Calls Tryz.prog 53 #[.pointer (some ⟨g, 0, none⟩), .agg #[.int .i64 1, .int .i64 2, .int .i64 0, .int .i64 0, .int .i64 0, .slice none 0 0, .slice none 0 0, .slice none 0 0]] w1 R) := Lib.hid (fun R w1 k h => fr_alloc (HK.out.kp k (by simp)) (HT.out.kp k (by simp) (by simp)) h)
  clear h hT hK
  unfold callC
  go_enter Tryz.func9, Tryz.ntmps9
  go_upto_region 1 with (fail)
  refine gen_worldK (fun W => ∃ cb, w.heap.size = cb ∧ Kp [] w W ∧ Bk W cb 45 [.int .i64 1, .int .i64 2, .int .i64 0, .int .i64 0, .int .i64 0, .slice none 0 0, .slice none 0 0, .slice none 0 0] ∧ Bk W (cb + 1) 39 [.int .i64 0, .slice none 0 0]) ⟨_, rfl, ((Kp.refl _ _).alloc _).alloc _, ((Bk.new' _ _ _).alloc _).cast rfl, (Bk.newAt (by simp) _ _).cast rfl⟩ ?_
  rintro W ⟨cb, hcb, kW, bC, bR⟩
  rw [hcb]
  have hb0 : w.heap.size ≤ cb := by omega
  have hb1 : bL < cb := by omega
  have hg1 : g < cb := by have := HK.out.lt; omega
  have p0 := bC.cell 0
  have p1 := bC.cell 1
  have p2 := bC.cell 2
  have p3 := bC.cell 3
  have p4 := bC.cell 4
  have p5 := bC.cell 5
  have p6 := bC.cell 6
  have p7 := bC.cell 7
  simp only [List.getElem?_cons_zero, List.getElem?_cons_succ] at p0 p1 p2 p3 p4 p5 p6 p7
  have BR := Lib.hid bR
  have KW := Lib.hid kW
  clear bC bR kW hcb
  go_wp2_with (go_at_call 53; ((refine HFr.out _ _ (by repeat first | exact KW.out | refine Kp.drew ?_) ?_); intro f e fs' w2 hq k2 t2; have r2 := (BR.out).kp k2 (by simp; omega); obtain ⟨⟨s0, s1⟩, ⟨f0, f1⟩⟩ := bk2 r2))
  obtain ⟨W', hW', kF, tF, bF⟩ := ans_fin (f := f) ((KW.out.mono (by simp)).trans k2) (by omega) t2 r2
  rw [hW']
  obtain ⟨⟨g0, g1⟩, _⟩ := bk2 bF
  exact bodyPost_ret (v := .tuple #[.agg #[.int .i64 f, .slice none 0 0], .int .i64 e]) (by simp [results, Tryz.results9, go_sem, g0, g1]; try rfl) rfl (H.out f e fs' _ hq kF tF)
end
/-! ### Kernel.Call at Op 2; the example of pantlerlaw09. -/
section
open Go.RowKit Go.Shelf
set_option linter.unusedVariables false
set_option linter.unusedSimpArgs false
set_option maxRecDepth 100000

set_option maxHeartbeats 2000000 in
theorem fr_free {R : Ending → World → Prop} {w : World} {g bT bL bD : Nat} {a b c d : Option Addr} {fs : List Fr} (hK : Bk w g 114 (kernC bT bD a b c d)) (hT : Tab w bT bL fs)
    (h : ∀ e fs' w', Hid (tFree fs 1 0 = (e, fs')) → Kp [bL] w w' → Tab w' bT bL fs' → R (.returned (.tuple #[.agg #[.int .i64 0, .slice none 0 0], .int .i64 e])) w') :
    Calls Tryz.prog 53 #[.pointer (some ⟨g, 0, none⟩), callC 2 1] w R := by
  have H := Lib.hid h
  have c0 := hK.cell 0
  simp only [kernC, List.getElem?_cons_zero] at c0
  have HT := Lib.hid hT
  have hbl := hT.l.lt
  have hbt := hT.t.lt
  have HK := Lib.hid hK
  clear h hT hK
  unfold callC
  go_enter Tryz.func53, Tryz.ntmps53
  go_upto_region 5 with (fail)
  refine gen_worldK (fun W => ∃ cb, w.heap.size = cb ∧ Kp [] w W ∧ Bk W cb 45 [.int .i64 2, .int .i64 1, .int .i64 0, .int .i64 0, .int .i64 0, .slice none 0 0, .slice none 0 0, .slice none 0 0] ∧ Bk W (cb + 1) 39 [.int .i64 0, .slice none 0 0]) ⟨_, rfl, ((Kp.refl _ _).alloc _).alloc _, ((Bk.new' _ _ _).alloc _).cast rfl, (Bk.newAt (by simp) _ _).cast rfl⟩ ?_
  rintro W ⟨cb, hcb, kW, bC, bR⟩
  rw [hcb]
  have hne : g ≠ bL := HK.out.ne_ HT.out.l (by decide)
  have hlg := HK.out.lt
  have hb0 : w.heap.size ≤ cb := by omega
  have hb1 : bL < cb := by omega
  have hg1 : g < cb := by omega
  have tW := HT.out.kp kW (by simp) (by simp)
  have bG := HK.out.kp kW (by simp)
  have HS : Hid (∀ w', Kp [bL, cb + 1] W w' → w'.cell? ⟨g, 0, none⟩ = some (.pointer (some ⟨bT, 0, none⟩)) ∧ w'.cell? ⟨cb, 1, none⟩ = some (.int .i64 1) ∧ w'.cell? ⟨cb, 2, none⟩ = some (.int .i64 0)) := Lib.hid (fun w' k' => ⟨(bG.kp k' (by simp; omega)).cell 0, (bC.kp k' (by simp; omega)).cell 1, (bC.kp k' (by simp; omega)).cell 2⟩)
  have TW := Lib.hid tW
  have BR := Lib.hid bR
  have KW := Lib.hid kW
  obtain ⟨q0, q1, q2⟩ := HS.out W (Kp.refl _ _)
  obtain ⟨⟨s0, s1⟩, ⟨f0, f1⟩⟩ := bk2 bR
  have hnT : bT ≠ cb + 1 := by omega
  clear tW bR kW bC bG c0 hcb
  go_region_held_law (fun w' => w'.cell? ⟨g, 0, none⟩ = some (.pointer (some ⟨bT, 0, none⟩)) ∧ w'.cell? ⟨cb, 1, none⟩ = some (.int .i64 1) ∧ w'.cell? ⟨cb, 2, none⟩ = some (.int .i64 0)) ((refine HS.out _ ?_; repeat (first | with_reducible exact kk2 | with_reducible exact Kp.refl _ W | refine Kp.drew ?_ | refine Kp.setCell ?_ (.inl (by simp)) _ | refine Kp.alloc ?_ _))) (first | (go_simp; go_at_call 110; (refine free_any (TW.out.kp (S := [cb + 1]) (by repeat (first | with_reducible exact Kp.refl _ W | refine Kp.drew ?_ | refine Kp.setCell ?_ (.inl (by simp)) _)) (by simp; omega) (by simp; omega)) 1 0 ?_); intro e fs' w2 hq k2 t2; have kk2 : Kp [bL, cb + 1] W w2 := Kp.trans (by repeat (first | with_reducible exact Kp.refl _ W | refine Kp.drew ?_ | refine Kp.setCell ?_ (.inl (by simp)) _)) (k2.mono (by simp)); (try (have r2 := (BR.out.drew).kp k2 (by simp; omega); obtain ⟨⟨u0, u1⟩, ⟨v0, v1⟩⟩ := bk2 r2))))
  all_goals
    go_wp2
    obtain ⟨W', hW', kF, tF, bF⟩ := ans_fin (f := 0) ((KW.out.mono (by simp)).trans ((Kp.refl [bL] W).drew.trans k2)) (by omega) t2 r2
    rw [hW']
    obtain ⟨⟨g0, g1⟩, _⟩ := bk2 bF
    exact bodyPost_ret (v := .tuple #[.agg #[.int .i64 0, .slice none 0 0], .int .i64 e]) (by simp [results, Tryz.results53, go_sem, g0, g1]; try rfl) rfl (H.out e fs' _ hq kF tF)
set_option maxHeartbeats 2000000 in
theorem kc_free {R : Ending → World → Prop} {w : World} {g bT bL bD : Nat} {a b c d : Option Addr} {fs : List Fr} (hK : Bk w g 114 (kernC bT bD a b c d)) (hT : Tab w bT bL fs)
    (h : ∀ e fs' w', Hid (tFree fs 1 0 = (e, fs')) → Kp [bL] w w' → Tab w' bT bL fs' → R (.returned (.tuple #[.agg #[.int .i64 0, .slice none 0 0], .int .i64 e])) w') :
    Calls Tryz.prog 9 #[.pointer (some ⟨g, 0, none⟩), callC 2 1] w R := by
  have H := Lib.hid h
  have HT := Lib.hid hT
  have hbl := hT.l.lt
  have hbt := hT.t.lt
  have HK := Lib.hid hK
  have HFr : Hid (∀ (R : Ending → World → Prop) (w1 : World), Kp [] w w1 → (∀ e fs' w', Hid (tFree fs 1 0 = (e, fs')) → Kp [bL] w1 w' → Tab w' bT bL fs' → R (.returned (.tuple #[.agg #[.int .i64 0, .slice none 0 0], .int .i64 e])) w') → Calls Tryz.prog 53 #[.pointer (some ⟨g, 0, none⟩), .agg #[.int .i64 2, .int .i64 1, .int .i64 0, .int .i64 0, .int .i64 0, .slice none 0 0, .slice none 0 0, .slice none 0 0]] w1 R) := Lib.hid (fun R w1 k h => fr_free (HK.out.kp k (by simp)) (HT.out.kp k (by simp) (by simp)) h)
  clear h hT hK
  unfold callC
  go_enter Tryz.func9, Tryz.ntmps9
  go_upto_region 1 with (fail)
  refine gen_worldK (fun W => ∃ cb, w.heap.size = cb ∧ Kp [] w W ∧ Bk W cb 45 [.int .i64 2, .int .i64 1, .int .i64 0, .int .i64 0, .int .i64 0, .slice none 0 0, .slice none 0 0, .slice none 0 0] ∧ Bk W (cb + 1) 39 [.int .i64 0, .slice none 0 0]) ⟨_, rfl, ((Kp.refl _ _).alloc _).alloc _, ((Bk.new' _ _ _).alloc _).cast rfl, (Bk.newAt (by simp) _ _).cast rfl⟩ ?_
  rintro W ⟨cb, hcb, kW, bC, bR⟩
  rw [hcb]
  have hb0 : w.heap.size ≤ cb := by omega
  have hb1 : bL < cb := by omega
  have hg1 : g < cb := by have := HK.out.lt; omega
  have p0 := bC.cell 0
  have p1 := bC.cell 1
  have p2 := bC.cell 2
  have p3 := bC.cell 3
  have p4 := bC.cell 4
  have p5 := bC.cell 5
  have p6 := bC.cell 6
  have p7 := bC.cell 7
  simp only [List.getElem?_cons_zero, List.getElem?_cons_succ] at p0 p1 p2 p3 p4 p5 p6 p7
  have BR := Lib.hid bR
  have KW := Lib.hid kW
  clear bC bR kW hcb
  go_wp2_with (go_at_call 53; ((refine HFr.out _ _ (by repeat first | exact KW.out | refine Kp.drew ?_) ?_); intro e fs' w2 hq k2 t2; have r2 := (BR.out).kp k2 (by simp; omega); obtain ⟨⟨s0, s1⟩, ⟨f0, f1⟩⟩ := bk2 r2))
  obtain ⟨W', hW', kF, tF, bF⟩ := ans_fin (f := 0) ((KW.out.mono (by simp)).trans k2) (by omega) t2 r2
  rw [hW']
  obtain ⟨⟨g0, g1⟩, _⟩ := bk2 bF
  exact bodyPost_ret (v := .tuple #[.agg #[.int .i64 0, .slice none 0 0], .int .i64 e]) (by simp [results, Tryz.results9, go_sem, g0, g1]; try rfl) rfl (H.out e fs' _ hq kF tF)
set_option maxHeartbeats 4000000 in
theorem alive09_any {R : Ending → World → Prop} (w : World) (h : ∀ w', Kp [] w w' → R (.returned (.bool true)) w') : Calls Tryz.prog 5 #[] w R := by
  have H := Lib.hid h
  have HN : Hid (∀ (R : Ending → World → Prop) (w : World), (∀ g bT bL bD a b c d w', w.heap.size ≤ g → w.heap.size ≤ bT → w.heap.size ≤ bL → Kp [] w w' → Bk w' g 114 (kernC bT bD a b c d) → Tab w' bT bL (List.replicate 4 fz) → R (.returned (.tuple #[.pointer (some ⟨g, 0, none⟩), .int .i64 0])) w') → Calls Tryz.prog 7 #[.int .i64 4, .int .i64 16] w R) := Lib.hid (fun R w h => knew_any w h)
  have q1 : (tAlloc (List.replicate 4 fz) 2).1 = 0 ∧ (tAlloc (List.replicate 4 fz) 2).2.1 = 0 ∧ (tFree (tAlloc (List.replicate 4 fz) 2).2.2 1 0).1 = 20 := by decide +kernel
  have HA : Hid (∀ (R : Ending → World → Prop) (w : World) (g bT bL bD : Nat) (a b c d : Option Addr), Bk w g 114 (kernC bT bD a b c d) → Tab w bT bL (List.replicate 4 fz) → (∀ w', Kp [bL] w w' → Tab w' bT bL (tAlloc (List.replicate 4 fz) 2).2.2 → R (.returned (.tuple #[.agg #[.int .i64 0, .slice none 0 0], .int .i64 0])) w') → Calls Tryz.prog 9 #[.pointer (some ⟨g, 0, none⟩), .agg #[.int .i64 1, .int .i64 2, .int .i64 0, .int .i64 0, .int .i64 0, .slice none 0 0, .slice none 0 0, .slice none 0 0]] w R) := Lib.hid (fun R w g bT bL bD a b c d hK hT h => kc_alloc hK hT (fun f e fs' w' hq k t => by
    have h1 := hq.out
    have hf : f = 0 := by rw [h1] at q1; exact q1.1
    have he : e = 0 := by rw [h1] at q1; exact q1.2.1
    subst hf; subst he
    exact h w' k (by rw [h1]; exact t)))
  have HB : Hid (∀ (R : Ending → World → Prop) (w : World) (g bT bL bD : Nat) (a b c d : Option Addr), Bk w g 114 (kernC bT bD a b c d) → Tab w bT bL (tAlloc (List.replicate 4 fz) 2).2.2 → (∀ w', Kp [bL] w w' → R (.returned (.tuple #[.agg #[.int .i64 0, .slice none 0 0], .int .i64 20])) w') → Calls Tryz.prog 9 #[.pointer (some ⟨g, 0, none⟩), .agg #[.int .i64 2, .int .i64 1, .int .i64 0, .int .i64 0, .int .i64 0, .slice none 0 0, .slice none 0 0, .slice none 0 0]] w R) := Lib.hid (fun R w g bT bL bD a b c d hK hT h => kc_free hK hT (fun e fs' w' hq k t => by
    have he : e = 20 := by have h2 := q1.2.2; rw [hq.out] at h2; exact h2
    subst he
    exact h w' k))
  clear h q1
  go_enter Tryz.func5, Tryz.ntmps5
  go_wp2_with (first | (go_at_call 7; ((refine HN.out _ _ ?_); intro g bT bL bD a b c d w1 hg hT hL k1 b1 t1; have hne : g ≠ bL := b1.ne_ t1.l (by decide))) | (go_at_call 9; ((with_reducible refine HA.out _ _ _ _ _ _ _ _ _ _ b1 t1 ?_); intro w2 k2 t2; have b2 := b1.kp k2 (by simp; omega))) | (go_at_call 9; ((with_reducible refine HB.out _ _ _ _ _ _ _ _ _ _ (b2.alloc _) (t2.kp ((Kp.refl [] _).alloc _) (by simp) (by simp)) ?_); intro w3 k3; have hl2 := t2.l.lt; have ba : Bk w3 w2.heap.size 39 [.int .i64 0, .slice none 0 0] := (Bk.new' w2 39 #[.int .i64 0, .slice none 0 0]).kp k3 (by simp; omega); have hl3 := ba.lt; obtain ⟨⟨i0, i1⟩, _⟩ := bk2 ba; have ia := fun o => (ba.alloc o).cell 0; have ib := fun o => (ba.alloc o).cell 1; simp only [List.getElem?_cons_zero, List.getElem?_cons_succ] at ia ib)))
  exact rcast (H.out _ (by
    have e2 := k1.thn k2 (fun s hs => .inr (by simp at hs; omega))
    have e3 := (e2.alloc _).thn k3 (fun s hs => .inr (by simp at hs; omega))
    repeat first | exact e3 | refine Kp.drew ?_ | refine Kp.drewN ?_ _ | refine Kp.alloc ?_ _)) rfl
end
end Go.Proofs.YtedblbpmlbjnhaaGreat
