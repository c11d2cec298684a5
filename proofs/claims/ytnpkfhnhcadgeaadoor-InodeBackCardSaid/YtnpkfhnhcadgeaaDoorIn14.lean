/- InodeKinds in plain words, the chapter's example, and the law's walk. -/
import Derived.Test.YtnpkfhnhcadgeaaDoorIn13
namespace Go.Proofs.YtnpkfhnhcadgeaaDoor
open Go.RowKit
set_option linter.unusedVariables false
set_option linter.unusedSimpArgs false
set_option maxRecDepth 100000
theorem isRoot_head {l : List UInt8} (h : isRoot l) : l.head? = some 80 := by rw [h.2.2.2]; rfl
theorem isDir_head {l : List UInt8} (h : isDir l) : l.head? = some 68 := by rw [h.2.2.2]; rfl
theorem isFile_head {l : List UInt8} (h : isFile l) : l.head? = some 70 := by rw [h.2.2.2]; rfl
section
variable {R : Ending → World → Prop} {w w' w0 : World} {g : Nat} {l : List UInt8}
set_option maxHeartbeats 4000000 in
/-- ParseRoot of nothing. -/
theorem proot_nil (h : ∀ w', Kp [] w w' → R (.returned (.tuple #[.agg #[.int .i64 0, .slice none 0 0], .int .i64 50])) w') :
    Calls Tryd.prog 6 #[.slice none 0 0] w R := by
  have H := Lib.hid h
  clear h
  go_enter Tryd.func6, Tryd.ntmps6
  go_upto_region 1 with (fail)
  refine gen_worldI (fun W => ∃ r0, w.heap.size = r0 ∧ Hid (Kp [] w W ∧ Bk W r0 25 [.int .i64 0, .slice none 0 0])) ⟨_, rfl, Lib.hid ⟨(Kp.refl _ _).alloc _, (Bk.new' _ _ _).cast rfl⟩⟩ ?_
  rintro W ⟨r0, hr0, hW⟩
  rw [hr0]
  have hwr0 : w.heap.size ≤ r0 := by omega
  have hrW : r0 < W.heap.size := hW.out.2.lt
  clear hr0
  have HOp : Hid (∀ (R : Ending → World → Prop), (∀ w', Kp [] W w' → R (.returned (.tuple #[.pointer none, .int .i64 50])) w') → Calls Tryd.prog 20 #[.slice none 0 0] W R) := Lib.hid (fun R h0 => iopen_any (l := []) Rd.nil rfl (by decide) (by decide) (fun e w' he h5 _ k => by rw [h5 (by decide)]; exact h0 w' k) (fun h => absurd h (by decide)))
  have HB0 : Hid (∀ w', Kp [] W w' → Bk w' r0 25 [.int .i64 0, .slice none 0 0]) := Lib.hid (fun w' k' => hW.out.2.kp k' (by simp))
  go_upto_if 15 with (go_at_call 20; (refine HOp.out _ ?_; intro w2 k2))
  have B0 := HB0.out _ k2
  have d0 : w2.cell? ⟨r0, 0, none⟩ = some (.int .i64 0) := B0.cell 0
  have d1 : w2.cell? ⟨r0, 1, none⟩ = some (.slice none 0 0) := B0.cell 1
  have f0 := B0.frozen 0
  have f1 := B0.frozen 1
  go_wp2
  obtain ⟨u0, u1⟩ := cells2 (x := .int .i64 0) (y := .slice none 0 0) B0
  refine bodyPost_ret (v := .tuple #[.agg #[.int .i64 0, .slice none 0 0], .int .i64 50]) (by simp [results, Tryd.results6, go_sem, u0, u1]) rfl ?_
  exact H.out _ (((hW.out.1.trans k2).setCell (.inr hwr0) _).setCell (.inr hwr0) _)
theorem seal1_take : (sealB (rootT 1 [])).take 9 = [80, 82, 79, 84, 0, 0, 0, 1, 0] := by decide
set_option maxHeartbeats 4000000 in
/-- The chapter's example. -/
theorem alive11_any (h : ∀ w', Kp [] w w' → R (.returned (.bool true)) w') : Calls Tryd.prog 5 #[] w R := by
  have H := Lib.hid h
  clear h
  have HP : Hid (∀ (R : Ending → World → Prop) (w : World), (∀ A c w', Hid (Kp [] w w' ∧ Rd w' [] A (bts (sealB (rootT 1 []))) ∧ 256 ≤ c) → R (.returned (.tuple #[.slice A 256 c, .int .i64 0])) w') → Calls Tryd.prog 9 #[.agg #[.int .i64 1, .slice none 0 0]] w R) :=
    Lib.hid (fun R w h => packr_any 1 (l := []) Rd.nil rfl (fun hb => absurd hb (by decide)) (fun _ A c w' h' => h A c w' (Lib.hid ⟨h'.out.1, h'.out.2.1.rd (by simp), h'.out.2.1.ncap⟩)))
  go_enter Tryd.func5, Tryd.ntmps5
  go_upto_region 3 with (first | (go_at_call 9; (refine HP.out _ _ ?_; intro A c w1 h1)) | (go_at_call 6; (refine proot_nil ?_; intro w2 k2)))
  have hr1 := (h1.out.2.1.kp k2 (by simp)).take 9
  rw [← bts_take, seal1_take] at hr1
  have hcv : ∀ o, (convert 29 9 (.slice A 9 c)).run Tryd.prog (w2.alloc o) = .ok (.string ⟨#[80, 82, 79, 84, 0, 0, 0, 1, 0]⟩) (w2.alloc o) := fun o => conv_bs (hr1.kp ((Kp.refl [] w2).alloc o) (by simp)) rfl
  have HK := Lib.hid (h1.out.1.trans k2)
  have hc9 : (9 : Int) ≤ c := by have := h1.out.2.2; omega
  clear hr1 k2 h1
  go_wp2
  exact H.out _ (HK.out.alloc _)
/-- A string's bytes, the world a letter. -/
theorem conv_let (s : ByteArray) : ∃ (bw : World → World) (cw : World → Nat), (∀ W, (convert 9 29 (.string s)).run Tryd.prog W = .ok (.slice (some ⟨W.heap.size, 0, none⟩) s.size (cw W)) (bw W)) ∧ (∀ W, s.size ≤ cw W) ∧
    (∀ (S : List Nat) (a w : World), Kp S a w → Kp S a (bw w)) ∧ (∀ (w : World) (b : Nat), b = w.heap.size → Rd (bw w) [] (some ⟨b, 0, none⟩) (bts s.data.toList)) :=
  ⟨fun W => Lib.bytesWorld W 5 s, fun W => grownCap W s.size 0 5, fun W => conv_sb W s, fun W => grownCap_ge _ _ _ _, fun S a w k => k.bytesWorld _ _, fun w b hb => rd_bytesWorld w _ s hb (by simp)⟩
set_option maxHeartbeats 4000000 in
theorem ikinds_walk (s : ByteArray) (hm : Ml w) (h : ∀ w', Kp [] w w' → R (.returned (.bool true)) w') : Calls Tryd.prog 3 #[.string s] w R := by
  have H := Lib.hid h
  obtain ⟨l, hl⟩ : ∃ l, s.data.toList = l := ⟨_, rfl⟩
  by_cases h1 : (1000 : Int) < s.size
  · clear h
    go_enter Tryd.func3, Tryd.ntmps3
    go_wp2_with (go_at_call 5; (refine alive11_any ?_; intro w1 k1))
    exact H.out _ k1
  · have hsz : s.size ≤ 1000 := by omega
    have HL : Hid (l.length = s.size) := Lib.hid (by rw [← hl]; exact Array.length_toList)
    obtain ⟨bw, cw, hcs, hcw, hbk, hbr⟩ := conv_let s
    rw [hl] at hbr
    have HM : Hid (∀ w', Kp [] w w' → Ml w') := Lib.hid (fun w' k => Ml.kp hm k)
    have HA : Hid (∀ (R : Ending → World → Prop) (W : World) (b : Nat), b = W.heap.size → Kp [] w W → (∀ u A' n' c' e w', Hid (e = 0 → isRoot l) → Kp [] w w' → R (.returned (.tuple #[.agg #[.int .i64 u, .slice A' n' c'], .int .i64 e])) w') → Calls Tryd.prog 6 #[.slice (some ⟨b, 0, none⟩) s.size (cw W)] (bw W) R) := Lib.hid (fun R W b hb k h => proot_any (hbr _ _ hb) HL.out (by omega) (hcw W) (fun _ e w' he k' => h _ _ _ _ _ _ (Lib.hid (fun h => absurd h he)) ((hbk _ _ _ k).trans k')) (fun hi A' c' w' h' => h _ _ _ _ _ _ (Lib.hid (fun _ => hi)) ((hbk _ _ _ k).trans h'.out.1)))
    have HB : Hid (∀ (R : Ending → World → Prop) (W : World) (b : Nat), b = W.heap.size → Kp [] w W → (∀ A' n' c' e w', Hid (e = 0 → isDir l) → Kp [] w w' → R (.returned (.tuple #[.slice A' n' c', .int .i64 e])) w') → Calls Tryd.prog 7 #[.slice (some ⟨b, 0, none⟩) s.size (cw W)] (bw W) R) := Lib.hid (fun R W b hb k h => pdir_any (hbr _ _ hb) HL.out (by omega) (hcw W) (HM.out _ (hbk _ _ _ k)) (fun _ e w' he k' => h _ _ _ _ _ (Lib.hid (fun h => absurd h he)) ((hbk _ _ _ k).trans k')) (fun hi A' c' w' h' => h _ _ _ _ _ (Lib.hid (fun _ => hi)) ((hbk _ _ _ k).trans h'.out.1)))
    have HC : Hid (∀ (R : Ending → World → Prop) (W : World) (b : Nat), b = W.heap.size → Kp [] w W → (∀ u1 u2 u3 A' n' c' B' m' d' e w', Hid (e = 0 → isFile l) → Kp [] w w' → R (.returned (.tuple #[.agg #[.int .i64 u1, .int .i64 u2, .int .i64 u3, .slice A' n' c', .slice B' m' d'], .int .i64 e])) w') → Calls Tryd.prog 8 #[.slice (some ⟨b, 0, none⟩) s.size (cw W)] (bw W) R) := Lib.hid (fun R W b hb k h => pfile_any (hbr _ _ hb) HL.out (by omega) (hcw W) (fun _ e w' he _ k' => h _ _ _ _ _ _ _ _ _ _ _ (Lib.hid (fun h => absurd h he)) ((hbk _ _ _ k).trans k')) (fun hi A' c' B' d' w' h' => h _ _ _ _ _ _ _ _ _ _ _ (Lib.hid (fun _ => hi)) ((hbk _ _ _ k).trans h'.out.1)))
    have HBK := Lib.hid hbk
    clear hbk hbr hcw h hl
    go_enter Tryd.func3, Tryd.ntmps3
    go_upto_region 6 with (go_at_call 5; (refine alive11_any ?_; intro w1 k1))
    go_upto_region 7 with (go_at_call 6; (with_reducible refine HA.out _ _ _ (by first | with_reducible rfl | simp) (by repeat first | with_reducible exact k1 | with_reducible refine Kp.drew ?_ | with_reducible refine Kp.alloc ?_ _ | with_reducible refine Kp.setCell ?_ (.inr (Kp.size k1)) _) ?_; intro u A2 n2 c2 e w2 he k2))
    go_upto_region 8 with (go_at_call 7; (with_reducible refine HB.out _ _ _ (by first | with_reducible rfl | simp) (by repeat first | with_reducible exact (k2) | with_reducible refine Kp.drew ?_ | with_reducible refine Kp.alloc ?_ _) ?_; intro A3 n3 c3 f w3 hf k3))
    go_upto_region 9 with (go_at_call 8; (with_reducible refine HC.out _ _ _ (by first | with_reducible rfl | simp) (by repeat first | with_reducible exact k3 | with_reducible refine Kp.drew ?_ | with_reducible refine Kp.alloc ?_ _) ?_; intro u1 u2 u3 A4 n4 c4 B4 m4 d4 g w4 hg k4))
    have k5 := k4.alloc (.cells #[.int .i64 u1, .int .i64 u2, .int .i64 u3, .slice A4 n4 c4, .slice B4 m4 d4] 35)
    have HK := Lib.hid k5
    have h12 : ¬ (e = 0 ∧ f = 0) := fun h => by
      have a := isRoot_head (he.out h.1)
      rw [isDir_head (hf.out h.2)] at a
      exact absurd a (by decide)
    have h13 : ¬ (e = 0 ∧ g = 0) := fun h => by
      have a := isRoot_head (he.out h.1)
      rw [isFile_head (hg.out h.2)] at a
      exact absurd a (by decide)
    have h23 : ¬ (f = 0 ∧ g = 0) := fun h => by
      have a := isDir_head (hf.out h.1)
      rw [isFile_head (hg.out h.2)] at a
      exact absurd a (by decide)
    clear he hf hg k1 k2 k3 k4 k5
    have fin : ∀ b1 b2 b3, (e == 0) = b1 → (f == 0) = b2 → (g == 0) = b3 → ¬ (b1 = true ∧ b2 = true) ∧ ¬ (b1 = true ∧ b3 = true) ∧ ¬ (b2 = true ∧ b3 = true) := by
      rintro b1 b2 b3 rfl rfl rfl
      simp only [beq_iff_eq]
      exact ⟨h12, h13, h23⟩
    clear h12 h13 h23
    obtain ⟨b1, e1⟩ : ∃ b, (e == 0) = b := ⟨_, rfl⟩
    obtain ⟨b2, e2⟩ : ∃ b, (f == 0) = b := ⟨_, rfl⟩
    obtain ⟨b3, e3⟩ : ∃ b, (g == 0) = b := ⟨_, rfl⟩
    have hb := fin b1 b2 b3 e1 e2 e3
    clear fin
    cases b1 <;> cases b2 <;> cases b3 <;> (first | (exfalso; revert hb; decide) | (clear hb; go_wp2; exact H.out _ HK.out))
end
end Go.Proofs.YtnpkfhnhcadgeaaDoor
