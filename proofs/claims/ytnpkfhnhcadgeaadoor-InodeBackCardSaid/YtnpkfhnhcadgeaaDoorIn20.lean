/- InodeBack walked whole. -/
import Derived.Test.YtnpkfhnhcadgeaaDoorIn19
import Derived.Deep.RegionHeldLaw
namespace Go.Proofs.YtnpkfhnhcadgeaaDoor
open Go.RowKit
set_option linter.unusedVariables false
set_option linter.unusedSimpArgs false
set_option maxRecDepth 100000
section
variable {R : Ending → World → Prop} {w w' w0 : World}
variable {gen ver mt len : Int} {A0 A1 A2 A3 : Option Addr} {n0 n1 n2 n3 : Nat} {ds : List Int} {l : List (List UInt8 × Int)} {bl : List Int} {pa : List (Int × Int)}
/-- The law's two boxes. -/
structure IbW (w W : World) (gen ver mt len : Int) (A0 A2 A3 : Option Addr) (n0 n2 n3 c0 c2 c3 g5 g7 : Nat) : Prop where
  k : Kp [] w W
  b5 : Bk W g5 39 [.int .i64 gen, .slice A0 n0 c0]
  b7 : Bk W g7 43 [.int .i64 ver, .int .i64 mt, .int .i64 len, .slice A2 n2 c2, .slice A3 n3 c3]
theorem IbW.kp {W W' : World} {c0 c2 c3 g5 g7 : Nat} (h : IbW w W gen ver mt len A0 A2 A3 n0 n2 n3 c0 c2 c3 g5 g7) (k' : Kp [] W W') : IbW w W' gen ver mt len A0 A2 A3 n0 n2 n3 c0 c2 c3 g5 g7 := ⟨h.k.trans k', h.b5.kp k' (by simp), h.b7.kp k' (by simp)⟩
theorem IbW.cells {W : World} {c0 c2 c3 g5 g7 : Nat} (h : IbW w W gen ver mt len A0 A2 A3 n0 n2 n3 c0 c2 c3 g5 g7) : W.cell? ⟨g5, 0, none⟩ = some (.int .i64 gen) ∧ W.cell? ⟨g5, 1, none⟩ = some (.slice A0 n0 c0) ∧ W.cell? ⟨g7, 0, none⟩ = some (.int .i64 ver) ∧ W.cell? ⟨g7, 1, none⟩ = some (.int .i64 mt) ∧ W.cell? ⟨g7, 2, none⟩ = some (.int .i64 len) ∧ W.cell? ⟨g7, 3, none⟩ = some (.slice A2 n2 c2) ∧ W.cell? ⟨g7, 4, none⟩ = some (.slice A3 n3 c3) :=
  ⟨h.b5.cell 0, h.b5.cell 1, h.b7.cell 0, h.b7.cell 1, h.b7.cell 2, h.b7.cell 3, h.b7.cell 4⟩
theorem ib_proot2 (hI : IbIn w gen ver mt len A0 A1 A2 A3 n0 n1 n2 n3 ds l bl pa) (hb : rootB gen ds = true) {A : Option Addr} {c : Nat} {W : World} (hr : Hid (Rd W [] A (bts (sealB (rootT gen ds))) ∧ 256 ≤ c))
    (h : ∀ A' c' w', Kp [] W w' → Hid (Rd w' [] A' (ds.flatMap iv)) → R (.returned (.tuple #[.agg #[.int .i64 gen, .slice A' n0 c'], .int .i64 0])) w') :
    Calls Tryd.prog 6 #[.slice A 256 c] W R := by
  obtain ⟨hi, hg, hc, hd⟩ := root_back hb
  refine proot_any hr.out.1 hi.1 (by omega) hr.out.2 (fun hn => absurd hi hn) (fun _ A' c' w' h' => ?_)
  have h2 := h'.out.2.1
  rw [hc, hd] at h2
  rw [hg, hc, hI.l0]
  exact h A' c' w' h'.out.1 (Lib.hid (h2.rd (by simp)))
theorem ib_pdir2 (hI : IbIn w gen ver mt len A0 A1 A2 A3 n0 n1 n2 n3 ds l bl pa) {W : World} (hm : Ml W) (hb : dirB l = true) {A : Option Addr} {c : Nat} (hr : Hid (Rd W [] A (bts (sealB (dirT l))) ∧ 256 ≤ c))
    (h : ∀ A' c' w', Kp [] W w' → Hid (Rd w' [] A' (l.flatMap eV)) → R (.returned (.tuple #[.slice A' n1 c', .int .i64 0])) w') :
    Calls Tryd.prog 7 #[.slice A 256 c] W R := by
  obtain ⟨hi, hc, hd⟩ := dir_back hb
  refine pdir_any hr.out.1 hi.1 (by omega) hr.out.2 hm (fun hn => absurd hi hn) (fun _ A' c' w' h' => ?_)
  have h2 := h'.out.2.1
  rw [hc, hd] at h2
  rw [hc, hI.l1]
  exact h A' c' w' h'.out.1 (Lib.hid (h2.rd (by simp)))
theorem ib_sroot2 (hI : IbIn w gen ver mt len A0 A1 A2 A3 n0 n1 n2 n3 ds l bl pa) (hn : n0 ≤ 100) (c0 : Nat) {A : Option Addr} {c : Nat} {W : World} (hk : Kp [] w W) (hr : Hid (Rd W [] A (ds.flatMap iv)))
    (h : ∀ w', Kp [] W w' → R (.returned (.bool true)) w') : Calls Tryd.prog 10 #[.agg #[.int .i64 gen, .slice A n0 c], .agg #[.int .i64 gen, .slice A0 n0 c0]] W R :=
  sroot_same gen hr.out (hI.r0.kp hk (by simp)) hI.l0 (by omega) h
theorem ib_packf2 (hI : IbIn w gen ver mt len A0 A1 A2 A3 n0 n1 n2 n3 ds l bl pa) (c2 : Nat) {B : Option Addr} {d : Nat} {W : World} (hk : Kp [] w W) (hr : Hid (Rd W [] B (pa.flatMap cVp)))
    (h0 : fileB wordF ver mt len bl (wInt pa) = false → ∀ w', Kp [] W w' → R (.returned (.tuple #[.slice none 0 0, .int .i64 1])) w')
    (h1 : fileB wordF ver mt len bl (wInt pa) = true → ∀ g c w', Kp [] W w' → Hid (Ow w' 5 1 (some ⟨g, 0, none⟩) 256 c (bts (sealB (fileT vF ver mt len bl (wInt pa)))) ∧ W.heap.size ≤ g) → R (.returned (.tuple #[.slice (some ⟨g, 0, none⟩) 256 c, .int .i64 0])) w') :
    Calls Tryd.prog 15 #[.agg #[.int .i64 ver, .int .i64 mt, .int .i64 len, .slice A2 n2 c2, .slice B n3 d]] W R := by
  refine packf_any wordF vF ver mt len (pa := wInt pa) ?_ ?_ (hI.r2.kp hk (by simp)) hI.l2 (by rw [← flat_cVp]; exact hr.out) (by unfold wInt; rw [List.length_map]; exact hI.l3) (fun hb w' k' => h0 hb w' k') (fun hb A c w' h' => ?_)
  · intro p hp
    obtain ⟨q, hq, rfl⟩ := List.mem_map.1 hp
    exact ⟨word_cOf _ (hI.bd q hq).1, word_cOf _ (hI.bd q hq).2⟩
  · intro p _
    exact ⟨fun h => wordF_vF h, fun h => wordF_vF h⟩
  · obtain ⟨g, rfl, _⟩ := h'.out.2.1.form (by omega)
    exact h1 hb g c w' h'.out.1 (Lib.hid ⟨h'.out.2.1, h'.out.2.2 g (by simp [bks])⟩)
theorem ib_len (hI : IbIn w gen ver mt len A0 A1 A2 A3 n0 n1 n2 n3 ds l bl pa) (hb : fileB wordF ver mt len bl (wInt pa) = true) : ∃ L : Nat, len = L ∧ L ≤ 8192 ∧ n2 = cntF L ∧ n2 ≤ 32 := by
  obtain ⟨hif, _, _, _, _, _, _, _, hn, h32⟩ := file_back (fun x => wordF_vF) hb
  unfold fileB at hb
  simp only [Bool.and_eq_true, decide_eq_true_eq, List.all_eq_true] at hb
  obtain ⟨⟨_, _, _, _, l1, l2, _, _⟩, _⟩ := hb
  have := hI.l2
  exact ⟨len.toNat, by omega, by omega, by omega, by omega⟩
theorem ib_root2 (hI : IbIn w gen ver mt len A0 A1 A2 A3 n0 n1 n2 n3 ds l bl pa) (hn : n0 ≤ 100) (c0 : Nat) {W : World} (hk : Kp [] w W)
    (h : ∀ e A n c w', Kp [] W w' → Hid ((e = 0 ∧ rootB gen ds = true ∧ n = 256 ∧ Rd w' [] A (bts (sealB (rootT gen ds))) ∧ 256 ≤ c) ∨ e = 1) → R (.returned (.tuple #[.slice A n c, .int .i64 e])) w') :
    Calls Tryd.prog 9 #[.agg #[.int .i64 gen, .slice A0 n0 c0]] W R :=
  packr_any gen (hI.r0.kp hk (by simp)) hI.l0 (fun hb w' k' => h 1 none 0 0 w' k' (Lib.hid (.inr rfl))) (fun hb A c w' h' => h 0 A 256 c w' h'.out.1 (Lib.hid (.inl ⟨rfl, hb, rfl, h'.out.2.1.rd (by simp), h'.out.2.1.ncap⟩)))
theorem ib_packd2 (hI : IbIn w gen ver mt len A0 A1 A2 A3 n0 n1 n2 n3 ds l bl pa) (hn : n1 ≤ 100) (hm : Ml w) {A : Option Addr} {c : Nat} {W : World} (hk : Kp [] w W) (hr : Hid (Rd W [] A (l.flatMap eV)))
    (h : ∀ e A n c w', Kp [] W w' → Hid ((e = 0 ∧ dirB l = true ∧ n = 256 ∧ Rd w' [] A (bts (sealB (dirT l))) ∧ 256 ≤ c) ∨ e = 1) → R (.returned (.tuple #[.slice A n c, .int .i64 e])) w') :
    Calls Tryd.prog 11 #[.slice A n1 c] W R :=
  packd_any hr.out hI.l1 (by omega) (hm.kp hk) (fun hb w' k' => h 1 none 0 0 w' k' (Lib.hid (.inr rfl))) (fun hb A c w' h' => h 0 A 256 c w' h'.out.1 (Lib.hid (.inl ⟨rfl, hb, rfl, h'.out.2.1.rd (by simp), h'.out.2.1.ncap⟩)))
set_option maxHeartbeats 8000000 in
theorem iback_walk (hI : Hid (IbIn w gen ver mt len A0 A1 A2 A3 n0 n1 n2 n3 ds l bl pa)) (hm : Ml w) (c0 c1 c2 c3 : Nat) (at_ : Nat) (tu : UInt8) (ha : at_ < 256) (h : ∀ w', Kp [] w w' → R (.returned (.bool true)) w') :
    Calls Tryd.prog 4 #[.agg #[.int .i64 gen, .slice A0 n0 c0], .slice A1 n1 c1, .agg #[.int .i64 ver, .int .i64 mt, .int .i64 len, .slice A2 n2 c2, .slice A3 n3 c3], .int .u8 at_, .int .u8 tu.toNat] w R := by
  have H := Lib.hid h
  have HM := Lib.hid hm
  clear h hm
  go_enter Tryd.func4, Tryd.ntmps4
  go_upto_region 1 with (fail)
  refine gen_worldI (fun W => ∃ g5 g7, w.heap.size = g5 ∧ g5 + 1 = g7 ∧ Hid (IbW w W gen ver mt len A0 A2 A3 n0 n2 n3 c0 c2 c3 g5 g7)) ⟨_, _, rfl, rfl, Lib.hid ⟨((Kp.refl _ _).alloc _).alloc _, ((Bk.new' _ _ _).alloc _).cast rfl, (Bk.newAt (by simp) _ _).cast rfl⟩⟩ ?_
  rintro W ⟨g5, g7, e1, e2, hW⟩
  rw [e1, e2]
  clear e1 e2
  go_upto_region 3 with (go_at_call 5; (refine alive11_any ?_; intro w1 k1))
  have h1 : Hid (IbW w w1 gen ver mt len A0 A2 A3 n0 n2 n3 c0 c2 c3 g5 g7) := Lib.hid (hW.out.kp k1)
  clear k1 hW
  obtain ⟨x0, x1, y0, y1, y2, y3, y4⟩ := h1.out.cells
  by_cases q0 : n0 ≤ 100
  rotate_left
  · have q0' : decide ((100 : Int) < n0) = true := by simp; omega
    go_wp2
    exact H.out _ h1.out.k
  by_cases q1 : n1 ≤ 100
  rotate_left
  · go_wp2
    exact H.out _ h1.out.k
  by_cases q2 : n2 ≤ 100
  rotate_left
  · go_wp2
    exact H.out _ h1.out.k
  by_cases q3 : n3 ≤ 100
  rotate_left
  · go_wp2
    exact H.out _ h1.out.k
  go_upto_region 5 with (fail)
  clear y0 y1 y2 y3 y4
  go_upto_if 54 with (go_at_call 9; (refine ib_root2 hI.out q0 c0 h1.out.k ?_; intro e A4 n4 c4 w2 k2 r2))
  have h2 : Hid (IbW w w2 gen ver mt len A0 A2 A3 n0 n2 n3 c0 c2 c3 g5 g7) := Lib.hid (h1.out.kp k2)
  clear x0 x1 k2 h1
  go_cut [] (fun W' => Hid (IbW w W' gen ver mt len A0 A2 A3 n0 n2 n3 c0 c2 c3 g5 g7))
  case first =>
    rcases r2.out with ⟨rfl, hb, rfl, r, hc4⟩ | rfl
    · have hr : Hid (Rd w2 [] A4 (bts (sealB (rootT gen ds))) ∧ 256 ≤ c4) := Lib.hid ⟨r, hc4⟩
      clear r2 r hc4
      have HPR : Hid (∀ (R : Ending → World → Prop), (∀ A' c' w', Kp [] w2 w' → Hid (Rd w' [] A' (ds.flatMap iv)) → R (.returned (.tuple #[.agg #[.int .i64 gen, .slice A' n0 c'], .int .i64 0])) w') → Calls Tryd.prog 6 #[.slice A4 256 c4] w2 R) := Lib.hid (fun R h => ib_proot2 hI.out hb hr h)
      go_upto_region 8 with (go_at_call 6; (with_reducible refine HPR.out _ ?_; intro A5 c5 w3 k3 r3))
      have h3 : Hid (IbW w (w3.alloc (.cells #[.int .i64 gen, .slice A5 n0 c5] 25)) gen ver mt len A0 A2 A3 n0 n2 n3 c0 c2 c3 g5 g7) := Lib.hid (h2.out.kp (k3.alloc _))
      obtain ⟨x0, x1, _⟩ := h3.out.cells
      have HSR : Hid (∀ (R : Ending → World → Prop), (∀ w', Kp [] (w3.alloc (.cells #[.int .i64 gen, .slice A5 n0 c5] 25)) w' → R (.returned (.bool true)) w') → Calls Tryd.prog 10 #[.agg #[.int .i64 gen, .slice A5 n0 c5], .agg #[.int .i64 gen, .slice A0 n0 c0]] (w3.alloc (.cells #[.int .i64 gen, .slice A5 n0 c5] 25)) R) := Lib.hid (fun R h => ib_sroot2 hI.out q0 c0 h3.out.k (Lib.hid (r3.out.kp ((Kp.refl [] w3).alloc _) (by simp))) h)
      go_wp2_with (go_at_call 10; (with_reducible refine HSR.out _ ?_; intro w4 k4))
      go_meet
      exact Lib.hid (h3.out.kp k4)
    · clear r2
      go_wp2
      go_meet
      exact h2
  case rest =>
    have h3 := hcut
    clear h2 r2 hcut
    have HDr : Hid (∀ (R : Ending → World → Prop), (∀ A c w', Kp [] wc w' → Hid (Rd w' [] A (l.flatMap eV)) → R (.returned (.slice A n1 c)) w') → Calls Tryd.prog 12 #[.slice A1 n1 c1] wc R) := Lib.hid (fun R h => dir_any (hI.out.r1.kp h3.out.k (by simp)) hI.out.l1 (by omega) (fun A c w' k' o' => h A c w' k' (Lib.hid (o'.rd (by simp)))))
    go_upto_if 75 with (first | (go_at_call 12; (with_reducible refine HDr.out _ ?_; intro A5 c5 w4 k4 r4)) | (go_at_call 11; (refine ib_packd2 hI.out q1 HM.out (h3.out.k.trans k4) r4 ?_; intro e A6 n6 c6 w5 k5 r5)))
    have h5 : Hid (IbW w w5 gen ver mt len A0 A2 A3 n0 n2 n3 c0 c2 c3 g5 g7) := Lib.hid (h3.out.kp (k4.trans k5))
    clear k4 k5 h3 r4 HDr
    go_cut [] (fun W' => Hid (IbW w W' gen ver mt len A0 A2 A3 n0 n2 n3 c0 c2 c3 g5 g7))
    case first =>
      rcases r5.out with ⟨rfl, hb, rfl, r, hc4⟩ | rfl
      · have hr : Hid (Rd w5 [] A6 (bts (sealB (dirT l))) ∧ 256 ≤ c6) := Lib.hid ⟨r, hc4⟩
        clear r5 r hc4
        have HPD : Hid (∀ (R : Ending → World → Prop), (∀ A' c' w', Kp [] w5 w' → Hid (Rd w' [] A' (l.flatMap eV)) → R (.returned (.tuple #[.slice A' n1 c', .int .i64 0])) w') → Calls Tryd.prog 7 #[.slice A6 256 c6] w5 R) := Lib.hid (fun R h => ib_pdir2 hI.out (HM.out.kp h5.out.k) hb hr h)
        go_upto_region 13 with (go_at_call 7; (with_reducible refine HPD.out _ ?_; intro A7 c7 w6 k6 r6))
        have h6 : Hid (IbW w w6 gen ver mt len A0 A2 A3 n0 n2 n3 c0 c2 c3 g5 g7) := Lib.hid (h5.out.kp k6)
        clear HPD k6 h5 hr
        have HUn : Hid (∀ (R : Ending → World → Prop), (∀ A c w', Kp [] w6 w' → Hid (Rd w' [] A (l.flatMap eV)) → R (.returned (.slice A n1 c)) w') → Calls Tryd.prog 14 #[.slice A7 n1 c7] w6 R) := Lib.hid (fun R h => undir_any r6.out hI.out.l1 (by omega) (fun A c w' k' o' => h A c w' k' (Lib.hid (o'.rd (by simp)))))
        have HSD : Hid (∀ (R : Ending → World → Prop) (A : Option Addr) (c : Nat) (w7 : World), Kp [] w6 w7 → Hid (Rd w7 [] A (l.flatMap eV)) → (∀ w', Kp [] w6 w' → R (.returned (.bool true)) w') → Calls Tryd.prog 13 #[.slice A n1 c, .slice A1 n1 c1] w7 R) := Lib.hid (fun R A c w7 k7 r7 h => sdir_same r7.out (hI.out.r1.kp (h6.out.k.trans k7) (by simp)) hI.out.l1 (by omega) (fun w' k' => h w' (k7.trans k')))
        go_wp2_with (first | (go_at_call 14; (with_reducible refine HUn.out _ ?_; intro A8 c8 w7 k7 r7)) | (go_at_call 13; (with_reducible refine HSD.out _ _ _ _ k7 r7 ?_; intro w8 k8)))
        go_meet
        exact Lib.hid (h6.out.kp k8)
      · clear r5
        go_wp2
        go_meet
        exact h5
    case rest =>
      have h6 := hcut
      clear h5 r5 hcut
      obtain ⟨x0, x1, y0, y1, y2, y3, y4⟩ := h6.out.cells
      clear x0 x1
      have HOf : Hid (∀ (R : Ending → World → Prop), (∀ B d w', Kp [] wc w' → Hid (Rd w' [] B (pa.flatMap cVp)) → R (.returned (.agg #[.int .i64 ver, .int .i64 mt, .int .i64 len, .slice A2 n2 c2, .slice B n3 d])) w') → Calls Tryd.prog 16 #[.agg #[.int .i64 ver, .int .i64 mt, .int .i64 len, .slice A2 n2 c2, .slice A3 n3 c3]] wc R) := Lib.hid (fun R h => of11_any ver mt len (hI.out.r3.kp h6.out.k (by simp)) hI.out.l3 (by omega) (fun B d w' h' => h B d w' h'.out.1 (Lib.hid (h'.out.2.rd (by simp)))))
      go_upto_region 16 with (first | (go_at_call 16; (with_reducible refine HOf.out _ ?_; intro B4 d4 w4 k4 r4)) | (go_at_call 15; (refine ib_packf2 hI.out c2 (h6.out.k.trans k4) r4 (fun hb w5 k5 => ?_) (fun hb g5' c5 w5 k5 r5 => ?_))))
      · clear y0 y1 y2 y3 y4
        go_wp2
        exact H.out _ ((h6.out.k.trans k4).trans k5)
      have h7 : Hid (IbW w w5 gen ver mt len A0 A2 A3 n0 n2 n3 c0 c2 c3 g5 g7) := Lib.hid (h6.out.kp (k4.trans k5))
      have HBT := Lib.hid hb
      obtain ⟨L, hLe, hL8, hn2, hn32⟩ := ib_len hI.out hb
      have HN2 := Lib.hid hn2
      clear hn2
      subst hLe
      have hgb : w.heap.size ≤ g5' := by have := r5.out.2; have := (h6.out.k.trans k4).size; omega
      clear y0 y1 y2 y3 y4 HOf k4 k5 r4 h6 hb
      have HPF : Hid (∀ (R : Ending → World → Prop), (∀ A' c' B' d' w', Kp [] w5 w' → Hid (Rd w' [] A' (bl.flatMap iv) ∧ Rd w' [] B' (pa.flatMap cVp)) → R (.returned (.tuple #[.agg #[.int .i64 ver, .int .i64 mt, .int .i64 L, .slice A' n2 c', .slice B' n3 d'], .int .i64 0])) w') → Calls Tryd.prog 8 #[.slice (some ⟨g5', 0, none⟩) 256 c5] w5 R) :=
        Lib.hid (fun R h => ib_pfile hI.out HBT.out h7.out.k (Lib.hid ⟨r5.out.1, fun b hb => by simp [bks] at hb; omega⟩) (fun A' c' B' d' w' _ k' r' => h A' c' B' d' w' k' r'))
      go_upto_region 19 with (go_at_call 8; (with_reducible refine HPF.out _ ?_; intro A6 c6 B6 d6 w6 k6 r6))
      refine gen_worldI (fun W => ∃ g9, w6.heap.size = g9 ∧ Hid (IbW w W gen ver mt L A0 A2 A3 n0 n2 n3 c0 c2 c3 g5 g7 ∧ Bk W g9 35 [.int .i64 ver, .int .i64 mt, .int .i64 L, .slice A6 n2 c6, .slice B6 n3 d6] ∧ (Rd W [] A6 (bl.flatMap iv) ∧ Rd W [] B6 (pa.flatMap cVp)) ∧ Ow W 5 1 (some ⟨g5', 0, none⟩) 256 c5 (bts (sealB (fileT vF ver mt L bl (wInt pa)))))) ⟨_, rfl, Lib.hid ⟨h7.out.kp (k6.alloc _), (Bk.new' _ _ _).cast rfl, ⟨r6.out.1.kp ((Kp.refl [] _).alloc _) (by simp), r6.out.2.kp ((Kp.refl [] _).alloc _) (by simp)⟩, (r5.out.1.kp k6 (by simp)).alloc _⟩⟩ ?_
      rintro W7 ⟨g9, e9, hW7⟩
      rw [e9]
      clear e9 k6 r6 HPF h7 r5
      have HC : Hid (∀ W', Kp [] W7 W' → W'.cell? ⟨g9, 0, none⟩ = some (.int .i64 ver) ∧ W'.cell? ⟨g9, 1, none⟩ = some (.int .i64 mt) ∧ W'.cell? ⟨g9, 2, none⟩ = some (.int .i64 L) ∧ W'.cell? ⟨g9, 3, none⟩ = some (.slice A6 n2 c6) ∧ W'.cell? ⟨g9, 4, none⟩ = some (.slice B6 n3 d6) ∧ W'.cell? ⟨g7, 0, none⟩ = some (.int .i64 ver) ∧ W'.cell? ⟨g7, 1, none⟩ = some (.int .i64 mt) ∧ W'.cell? ⟨g7, 2, none⟩ = some (.int .i64 L) ∧ W'.cell? ⟨g7, 3, none⟩ = some (.slice A2 n2 c2) ∧ W'.cell? ⟨g7, 4, none⟩ = some (.slice A3 n3 c3)) :=
        Lib.hid (fun W' k => ⟨(hW7.out.2.1.kp k (by simp)).cell 0, (hW7.out.2.1.kp k (by simp)).cell 1, (hW7.out.2.1.kp k (by simp)).cell 2, (hW7.out.2.1.kp k (by simp)).cell 3, (hW7.out.2.1.kp k (by simp)).cell 4, (hW7.out.1.kp k).cells.2.2⟩)
      have HTo : Hid (∀ (R : Ending → World → Prop), (∀ B' d' w', Kp [] W7 w' → Hid (Rd w' [] A6 (bl.flatMap iv) ∧ Rd w' [] B' (pa.flatMap pV)) → R (.returned (.agg #[.int .i64 ver, .int .i64 mt, .int .i64 L, .slice A6 n2 c6, .slice B' n3 d'])) w') → Calls Tryd.prog 18 #[.agg #[.int .i64 ver, .int .i64 mt, .int .i64 L, .slice A6 n2 c6, .slice B6 n3 d6]] W7.drew R) := Lib.hid (fun R h => ib_to hI.out q3 HBT.out (hW7.out.1.k.drew) (Lib.hid ⟨hW7.out.2.2.1.1.kp (Kp.refl [] _).drew (by simp), hW7.out.2.2.1.2.kp (Kp.refl [] _).drew (by simp)⟩) (fun B' d' w' k' r' => h B' d' w' ((Kp.refl [] W7).drew.trans k') r'))
      have HSF : Hid (∀ (R : Ending → World → Prop) (B : Option Addr) (d : Nat) (w8 : World), Kp [] W7 w8 → Hid (Rd w8 [] A6 (bl.flatMap iv) ∧ Rd w8 [] B (pa.flatMap pV)) → (∀ w', Kp [] W7 w' → R (.returned (.bool true)) w') → Calls Tryd.prog 17 #[.agg #[.int .i64 ver, .int .i64 mt, .int .i64 L, .slice A6 n2 c6, .slice B n3 d], .agg #[.int .i64 ver, .int .i64 mt, .int .i64 L, .slice A2 n2 c2, .slice A3 n3 c3]] w8 R) := Lib.hid (fun R B d w8 k8 r8 h => ib_sfile hI.out q2 q3 c2 c3 (hW7.out.1.k.trans k8) r8 (fun w' k' => h w' (k8.trans k')))
      go_region_held_law (fun W' => W'.cell? ⟨g9, 0, none⟩ = some (.int .i64 ver) ∧ W'.cell? ⟨g9, 1, none⟩ = some (.int .i64 mt) ∧ W'.cell? ⟨g9, 2, none⟩ = some (.int .i64 L) ∧ W'.cell? ⟨g9, 3, none⟩ = some (.slice A6 n2 c6) ∧ W'.cell? ⟨g9, 4, none⟩ = some (.slice B6 n3 d6) ∧ W'.cell? ⟨g7, 0, none⟩ = some (.int .i64 ver) ∧ W'.cell? ⟨g7, 1, none⟩ = some (.int .i64 mt) ∧ W'.cell? ⟨g7, 2, none⟩ = some (.int .i64 L) ∧ W'.cell? ⟨g7, 3, none⟩ = some (.slice A2 n2 c2) ∧ W'.cell? ⟨g7, 4, none⟩ = some (.slice A3 n3 c3)) ((refine HC.out _ ?_; repeat (first | with_reducible exact k9 | with_reducible exact k8 | with_reducible exact Kp.refl _ _ | with_reducible refine Kp.drew ?_))) (first | (go_simp; go_at_call 18; (with_reducible refine HTo.out _ ?_); intro B8 d8 w8 k8 r8) | (go_simp; go_at_call 17; (with_reducible refine HSF.out _ _ _ _ k8 r8 ?_); intro w9 k9))
      have hW9 : Hid (Kp [] W7 w9) := Lib.hid k9
      clear HTo HSF k8 k9 r8
      go_wp2
      go_loopw [21, 22] (fun v i wr => ∃ k : Nat, k ≤ n2 ∧ i = .int .i64 k ∧ v = .int .i64 (sumS L k : Nat) ∧ Hid (Kp [] W7 wr)) (fun _ i _ => n2 - (intOf i).toNat)
      case atStart => exact ⟨0, Nat.zero_le _, rfl, rfl, hW9⟩
      case round =>
        obtain ⟨k, hk, rfl, rfl, kr⟩ := hrel
        obtain ⟨z0, z1, z2, z3, z4, y0, y1, y2, y3, y4⟩ := HC.out wr kr.out
        by_cases hlt : k < n2
        · obtain ⟨V, hV⟩ : ∃ V, min (L - 256 * k) 256 = V := ⟨_, rfl⟩
          obtain ⟨Sk, hSk⟩ : ∃ Sk, sumS L k = Sk := ⟨_, rfl⟩
          have hS1 : sumS L (k + 1) = Sk + V := by rw [sumS, hSk, hV]
          have hSb : Sk ≤ 8192 := by rw [← hSk, sumS_min]; omega
          have hVb : V ≤ 256 := by omega
          have hwr : IntKind.i64.wrap ((Sk : Int) + V) = Sk + V := by rw [IntKind.wrap_i64]; omega
          have HSp : Hid (∀ (R : Ending → World → Prop), (∀ w', Kp [] wr w' → R (.returned (.int .i64 V)) w') → Calls Tryd.prog 19 #[.agg #[.int .i64 ver, .int .i64 mt, .int .i64 L, .slice A6 n2 c6, .slice B6 n3 d6], .int .i64 k] wr R) := Lib.hid (fun R h => span_any ver mt L k hlt hn32 hL8 (fun w' k' => by rw [hV]; exact h w' k'))
          rw [hSk]
          have HS1 := Lib.hid hS1
          clear hV hSk hS1
          go_wp2_with (go_at_call 19; (with_reducible refine HSp.out _ ?_; intro w10 k10))
          exact ⟨⟨k + 1, by omega, by go_num, congrArg (Value.int .i64) (by rw [HS1.out]; omega), Lib.hid (kr.out.trans k10)⟩, by simp [intOf]; omega⟩
        · obtain rfl : k = n2 := by omega
          have hSL : sumS L k = L := by rw [HN2.out]; exact sumS_all L
          rw [hSL]
          clear hSL
          by_cases ht : tu = 0
          · have ht2 : ((tu.toNat : Int) == 0) = true := by subst ht; rfl
            clear ht
            go_wp2
            exact H.out _ (hW7.out.1.k.trans kr.out)
          · have ht2 : ((tu.toNat : Int) == 0) = false := by
              have : tu.toNat ≠ 0 := fun e => ht (UInt8.toNat_inj.1 e)
              simp; omega
            have ho : Ow wr 5 1 (some ⟨g5', 0, none⟩) 256 c5 (bts (sealB (fileT vF ver mt L bl (wInt pa)))) := hW7.out.2.2.2.kp kr.out (by simp)
            have hql : (sealB (fileT vF ver mt L bl (wInt pa))).length = 256 := (file_back (fun x => wordF_vF) HBT.out).1.1
            obtain ⟨x, hx⟩ : ∃ x, (sealB (fileT vF ver mt L bl (wInt pa)))[at_]? = some x := ⟨_, List.getElem?_eq_getElem (by omega)⟩
            obtain ⟨r1, r2⟩ := ho.cellAt (i := at_) (by omega)
            rw [bts_get, hx, Option.map_some] at r1
            obtain ⟨V, hV⟩ : ∃ V, x ^^^ tu = V := ⟨_, rfl⟩
            have hxo : bits .xor .u8 (x.toNat : Int) (tu.toNat : Int) = (V.toNat : Int) := by rw [u8_xor_nat _ _ x.toNat_lt tu.toNat_lt, ← UInt8.toNat_xor, hV]
            have HTu : Hid (∀ (R : Ending → World → Prop), (∀ w', Kp [] w w' → R (.returned (.tuple #[.agg #[.int .i64 0, .int .i64 0, .int .i64 0, .slice none 0 0, .slice none 0 0], .int .i64 51])) w') → Calls Tryd.prog 8 #[.slice (some ⟨g5', 0, none⟩) 256 c5] (wr.setCell ⟨g5', at_, none⟩ (.int .u8 V.toNat)) R) :=
              Lib.hid (fun R h => ib_turn hI.out HBT.out (hW7.out.1.k.trans kr.out) (Lib.hid ⟨ho, fun b hb => by simp [bks] at hb; omega⟩) at_ ha V (by rw [hx]; intro e; injection e with e; rw [← hV] at e; exact xor_ne ht e.symm) h)
            clear ho hql hx ht hV
            go_wp2_with (go_at_call 8; go_loud (with_reducible refine HTu.out _ ?_; intro w11 k11))
            exact H.out _ (k11.alloc _)
end
end Go.Proofs.YtnpkfhnhcadgeaaDoor
