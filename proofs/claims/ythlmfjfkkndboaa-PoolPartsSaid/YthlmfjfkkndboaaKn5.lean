/- Kernel.Call at Op 2; the example of pantlerlaw09. -/
import Derived.Test.YthlmfjfkkndboaaKn4
import Derived.Deep.RegionHeldLaw
namespace Go.Proofs.Ythlmfjfkkndboaa
open Go.RowKit Go.Shelf
set_option linter.unusedVariables false
set_option linter.unusedSimpArgs false
set_option maxRecDepth 100000

set_option maxHeartbeats 2000000 in
theorem fr_free {R : Ending → World → Prop} {w : World} {g bT bL bD : Nat} {a b c d : Option Addr} {fs : List Fr} (hK : Bk w g 121 (kernC bT bD a b c d)) (hT : Tab w bT bL fs)
    (h : ∀ e fs' w', Hid (tFree fs 1 0 = (e, fs')) → Kp [bL] w w' → Tab w' bT bL fs' → R (.returned (.tuple #[.agg #[.int .i64 0, .slice none 0 0], .int .i64 e])) w') :
    Calls Try.prog 83 #[.pointer (some ⟨g, 0, none⟩), callC 2 1] w R := by
  have H := Lib.hid h
  have c0 := hK.cell 0
  simp only [kernC, List.getElem?_cons_zero] at c0
  have HT := Lib.hid hT
  have hbl := hT.l.lt
  have hbt := hT.t.lt
  have HK := Lib.hid hK
  clear h hT hK
  unfold callC
  go_enter Try.func83, Try.ntmps83
  go_upto_region 5 with (fail)
  refine gen_worldK (fun W => ∃ cb, w.heap.size = cb ∧ Kp [] w W ∧ Bk W cb 78 [.int .i64 2, .int .i64 1, .int .i64 0, .int .i64 0, .int .i64 0, .slice none 0 0, .slice none 0 0, .slice none 0 0] ∧ Bk W (cb + 1) 73 [.int .i64 0, .slice none 0 0]) ⟨_, rfl, ((Kp.refl _ _).alloc _).alloc _, ((Bk.new' _ _ _).alloc _).cast rfl, (Bk.newAt (by simp) _ _).cast rfl⟩ ?_
  rintro W ⟨cb, hcb, kW, bC, bR⟩
  rw [hcb]
  have hne : g ≠ bL := HK.out.ne_ HT.out.l (by decide)
  have hlg := HK.out.lt
  have hb0 : w.heap.size ≤ cb := by omega
  have hb1 : bL < cb := by omega
  have hg1 : g < cb := by omega
  have tW := HT.out.kp kW (by simp) (by simp)
  have bG := HK.out.kp kW (by simp)
  have HS : Hid (∀ w', Kp [bL, cb + 1] W w' → w'.cell? ⟨g, 0, none⟩ = some (.pointer (some ⟨bT, 0, none⟩)) ∧ w'.cell? ⟨cb, 1, none⟩ = some (.int .i64 1) ∧ w'.cell? ⟨cb, 2, none⟩ = some (.int .i64 0)) := Lib.hid (fun w' k' => ⟨(bG.kp k' (by simp; omega)).cell 0, (bC.kp k' (by simp; omega)).cell 1, (bC.kp k' (by simp; omega)).cell 2⟩)
  have TW := Lib.hid tW
  have BR := Lib.hid bR
  have KW := Lib.hid kW
  obtain ⟨q0, q1, q2⟩ := HS.out W (Kp.refl _ _)
  obtain ⟨⟨s0, s1⟩, ⟨f0, f1⟩⟩ := bk2 bR
  have hnT : bT ≠ cb + 1 := by omega
  clear tW bR kW bC bG c0 hcb
  go_region_held_law (fun w' => w'.cell? ⟨g, 0, none⟩ = some (.pointer (some ⟨bT, 0, none⟩)) ∧ w'.cell? ⟨cb, 1, none⟩ = some (.int .i64 1) ∧ w'.cell? ⟨cb, 2, none⟩ = some (.int .i64 0)) ((refine HS.out _ ?_; repeat (first | with_reducible exact kk2 | with_reducible exact Kp.refl _ W | refine Kp.drew ?_ | refine Kp.setCell ?_ (.inl (by simp)) _ | refine Kp.alloc ?_ _))) (first | (go_simp; go_at_call 49; (refine free_any (TW.out.kp (S := [cb + 1]) (by repeat (first | with_reducible exact Kp.refl _ W | refine Kp.drew ?_ | refine Kp.setCell ?_ (.inl (by simp)) _)) (by simp; omega) (by simp; omega)) 1 0 ?_); intro e fs' w2 hq k2 t2; have kk2 : Kp [bL, cb + 1] W w2 := Kp.trans (by repeat (first | with_reducible exact Kp.refl _ W | refine Kp.drew ?_ | refine Kp.setCell ?_ (.inl (by simp)) _)) (k2.mono (by simp)); (try (have r2 := (BR.out.drew).kp k2 (by simp; omega); obtain ⟨⟨u0, u1⟩, ⟨v0, v1⟩⟩ := bk2 r2))))
  all_goals
    go_wp2
    obtain ⟨W', hW', kF, tF, bF⟩ := ans_fin (f := 0) ((KW.out.mono (by simp)).trans ((Kp.refl [bL] W).drew.trans k2)) (by omega) t2 r2
    rw [hW']
    obtain ⟨⟨g0, g1⟩, _⟩ := bk2 bF
    exact bodyPost_ret (v := .tuple #[.agg #[.int .i64 0, .slice none 0 0], .int .i64 e]) (by simp [results, Try.results83, go_sem, g0, g1]; try rfl) rfl (H.out e fs' _ hq kF tF)
set_option maxHeartbeats 2000000 in
theorem kc_free {R : Ending → World → Prop} {w : World} {g bT bL bD : Nat} {a b c d : Option Addr} {fs : List Fr} (hK : Bk w g 121 (kernC bT bD a b c d)) (hT : Tab w bT bL fs)
    (h : ∀ e fs' w', Hid (tFree fs 1 0 = (e, fs')) → Kp [bL] w w' → Tab w' bT bL fs' → R (.returned (.tuple #[.agg #[.int .i64 0, .slice none 0 0], .int .i64 e])) w') :
    Calls Try.prog 35 #[.pointer (some ⟨g, 0, none⟩), callC 2 1] w R := by
  have H := Lib.hid h
  have HT := Lib.hid hT
  have hbl := hT.l.lt
  have hbt := hT.t.lt
  have HK := Lib.hid hK
  have HFr : Hid (∀ (R : Ending → World → Prop) (w1 : World), Kp [] w w1 → (∀ e fs' w', Hid (tFree fs 1 0 = (e, fs')) → Kp [bL] w1 w' → Tab w' bT bL fs' → R (.returned (.tuple #[.agg #[.int .i64 0, .slice none 0 0], .int .i64 e])) w') → Calls Try.prog 83 #[.pointer (some ⟨g, 0, none⟩), .agg #[.int .i64 2, .int .i64 1, .int .i64 0, .int .i64 0, .int .i64 0, .slice none 0 0, .slice none 0 0, .slice none 0 0]] w1 R) := Lib.hid (fun R w1 k h => fr_free (HK.out.kp k (by simp)) (HT.out.kp k (by simp) (by simp)) h)
  clear h hT hK
  unfold callC
  go_enter Try.func35, Try.ntmps35
  go_upto_region 1 with (fail)
  refine gen_worldK (fun W => ∃ cb, w.heap.size = cb ∧ Kp [] w W ∧ Bk W cb 78 [.int .i64 2, .int .i64 1, .int .i64 0, .int .i64 0, .int .i64 0, .slice none 0 0, .slice none 0 0, .slice none 0 0] ∧ Bk W (cb + 1) 73 [.int .i64 0, .slice none 0 0]) ⟨_, rfl, ((Kp.refl _ _).alloc _).alloc _, ((Bk.new' _ _ _).alloc _).cast rfl, (Bk.newAt (by simp) _ _).cast rfl⟩ ?_
  rintro W ⟨cb, hcb, kW, bC, bR⟩
  rw [hcb]
  have hb0 : w.heap.size ≤ cb := by omega
  have hb1 : bL < cb := by omega
  have hg1 : g < cb := by have := HK.out.lt; omega
  have p0 := bC.cell 0
  have p1 := bC.cell 1
  have p2 := bC.cell 2
  have p3 := bC.cell 3
  have p4 := bC.cell 4
  have p5 := bC.cell 5
  have p6 := bC.cell 6
  have p7 := bC.cell 7
  simp only [List.getElem?_cons_zero, List.getElem?_cons_succ] at p0 p1 p2 p3 p4 p5 p6 p7
  have BR := Lib.hid bR
  have KW := Lib.hid kW
  clear bC bR kW hcb
  go_wp2_with (go_at_call 83; ((refine HFr.out _ _ (by repeat first | exact KW.out | refine Kp.drew ?_) ?_); intro e fs' w2 hq k2 t2; have r2 := (BR.out).kp k2 (by simp; omega); obtain ⟨⟨s0, s1⟩, ⟨f0, f1⟩⟩ := bk2 r2))
  obtain ⟨W', hW', kF, tF, bF⟩ := ans_fin (f := 0) ((KW.out.mono (by simp)).trans k2) (by omega) t2 r2
  rw [hW']
  obtain ⟨⟨g0, g1⟩, _⟩ := bk2 bF
  exact bodyPost_ret (v := .tuple #[.agg #[.int .i64 0, .slice none 0 0], .int .i64 e]) (by simp [results, Try.results35, go_sem, g0, g1]; try rfl) rfl (H.out e fs' _ hq kF tF)
end Go.Proofs.Ythlmfjfkkndboaa
