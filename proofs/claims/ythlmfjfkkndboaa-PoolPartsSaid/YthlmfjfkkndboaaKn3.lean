/- A new kernel. -/
import Derived.Test.YthlmfjfkkndboaaKn2
import Derived.Deep.RegionLaw
namespace Go.Proofs.Ythlmfjfkkndboaa
open Go.RowKit Go.Shelf
set_option linter.unusedVariables false
set_option linter.unusedSimpArgs false
set_option maxRecDepth 100000

theorem info_bs : (Try.prog.info? 44).map (fun i => (i.zero, i.size, i.bytes)) = some (some (.slice none 0 0), 1, 24) := by kernel_rfl
theorem info_tr : (Try.prog.info? 127).map (fun i => (i.zero, i.size, i.bytes)) = some (some (.agg #[.int .i64 0, .slice none 0 0]), 2, 32) := by kernel_rfl
set_option maxHeartbeats 2000000 in
theorem rnb_any {R : Ending → World → Prop} (w : World) (h : ∀ g l w', w.heap.size ≤ g → w.heap.size ≤ l → Kp [] w w' → Bk w' g 160 [.slice (some ⟨l, 0, none⟩) 16 16, .int .i64 0, .int .i64 0] → R (.returned (.tuple #[.pointer (some ⟨g, 0, none⟩), .int .i64 0])) w') :
    Calls Try.prog 67 #[.int .i64 16] w R := by
  have H := Lib.hid h
  clear h
  obtain ⟨i0, hi, hz0, hz1, hz2⟩ := info_parts info_bs
  have hmk := fun W => run_make (P := Try.prog) W 158 44 i0 _ Try.underlying158 hi hz0 .i64 .i64 16 16 (by omega) (by omega) (by rw [hz2]; omega) (by omega)
  simp only [hz1] at hmk
  clear hi hz0 hz1 hz2
  go_enter Try.func67, Try.ntmps67
  go_wp2
  exact rcast (H.out (w.heap.size + 1) w.heap.size _ (by omega) (Nat.le_refl _) (((Kp.refl _ _).alloc _).alloc _) ((Bk.newAt (by simp) _ _).cast rfl)) rfl
set_option maxHeartbeats 2000000 in
theorem rnt_any {R : Ending → World → Prop} (w : World) (h : ∀ g l w', w.heap.size ≤ g → w.heap.size ≤ l → Kp [] w w' → Bk w' g 163 [.slice (some ⟨l, 0, none⟩) 16 16, .int .i64 0, .int .i64 0] → R (.returned (.tuple #[.pointer (some ⟨g, 0, none⟩), .int .i64 0])) w') :
    Calls Try.prog 68 #[.int .i64 16] w R := by
  have H := Lib.hid h
  clear h
  obtain ⟨i0, hi, hz0, hz1, hz2⟩ := info_parts info_tr
  have hmk := fun W => run_make (P := Try.prog) W 161 127 i0 _ Try.underlying161 hi hz0 .i64 .i64 16 16 (by omega) (by omega) (by rw [hz2]; omega) (by omega)
  simp only [hz1] at hmk
  clear hi hz0 hz1 hz2
  go_enter Try.func68, Try.ntmps68
  go_wp2
  exact rcast (H.out (w.heap.size + 1) w.heap.size _ (by omega) (Nat.le_refl _) (((Kp.refl _ _).alloc _).alloc _) ((Bk.newAt (by simp) _ _).cast rfl)) rfl
theorem gen_worldK {P : Program} {c : Code} {Q : Exit → Act → World → Prop} {a : Act} {W : World} (Pr : World → Prop) (h : Pr W) (hk : ∀ W', Pr W' → Code.wp P c Q a W') : Code.wp P c Q a W := hk W h
def kernC (bT bD : Nat) (a b c d : Option Addr) : List Value := [.pointer (some ⟨bT, 0, none⟩), .pointer (some ⟨bD, 0, none⟩), .slice none 0 0, .int .i64 0, .pointer a, .pointer b, .pointer c, .pointer d, .int .i64 0]
set_option maxHeartbeats 4000000 in
theorem knew_any {R : Ending → World → Prop} (w : World) (h : ∀ g bT bL bD a b c d w', w.heap.size ≤ g → w.heap.size ≤ bT → w.heap.size ≤ bL → Kp [] w w' → Bk w' g 121 (kernC bT bD a b c d) → Tab w' bT bL (List.replicate 4 fz) → R (.returned (.tuple #[.pointer (some ⟨g, 0, none⟩), .int .i64 0])) w') :
    Calls Try.prog 28 #[.int .i64 4, .int .i64 16] w R := by
  have H := Lib.hid h
  clear h
  have HF : Hid (∀ (R : Ending → World → Prop) (w : World), (∀ bT bL w', w.heap.size ≤ bT → w.heap.size ≤ bL → Kp [] w w' → Tab w' bT bL (List.replicate 4 fz) → R (.returned (.tuple #[.pointer (some ⟨bT, 0, none⟩), .int .i64 0])) w') → Calls Try.prog 10 #[.int .i64 4] w R) := Lib.hid (fun R w h => new_any 4 (by omega) (by omega) h)
  have HDk : Hid (∀ (R : Ending → World → Prop) (w : World), (∀ bD bL bO w', w.heap.size ≤ bD → w.heap.size ≤ bO → bD ≠ bO → Kp [] w w' → Bk w' bD 156 (diskC bL bO 16) → Bk w' bO 3 (ints (List.replicate 16 0)) → R (.returned (.tuple #[.pointer (some ⟨bD, 0, none⟩), .int .i64 0])) w') → Calls Try.prog 65 #[.int .i64 16] w R) := Lib.hid (fun R w h => dnew_any 16 w (by omega) (by omega) h)
  have HG1 : Hid (∀ (R : Ending → World → Prop) (bD bL bO : Nat) (w : World), bD ≠ bO → Bk w bD 156 (diskC bL bO 16) → Bk w bO 3 (ints (List.replicate 16 0)) → (∀ w', Kp [bO] w w' → Bk w' bD 156 (diskC bL bO 16) → Bk w' bO 3 (ints (setR (List.replicate 16 0) 0 12 1)) → R (.returned (.int .i64 0)) w') → Calls Try.prog 66 #[.pointer (some ⟨bD, 0, none⟩), .int .i64 1, .int .i64 0, .int .i64 12] w R) := Lib.hid (fun R bD bL bO w hne a b h => grant_any bD bL bO 16 0 12 1 _ w (.inl rfl) rfl (by omega) (by omega) (by omega) (fun j h1 h2 => by rw [List.getElem?_replicate, if_pos (by omega)]) hne a b h)
  have HG2 : Hid (∀ (R : Ending → World → Prop) (bD bL bO : Nat) (w : World), bD ≠ bO → Bk w bD 156 (diskC bL bO 16) → Bk w bO 3 (ints (setR (List.replicate 16 0) 0 12 1)) → (∀ w', Kp [bO] w w' → Bk w' bD 156 (diskC bL bO 16) → R (.returned (.int .i64 0)) w') → Calls Try.prog 66 #[.pointer (some ⟨bD, 0, none⟩), .int .i64 2, .int .i64 12, .int .i64 4] w R) := Lib.hid (fun R bD bL bO w hne a b h => grant_any bD bL bO 16 12 4 2 _ w (.inr rfl) (by rw [setR_len]; rfl) (by omega) (by omega) (by omega) (fun j h1 h2 => by rcases (by omega : j = 12 ∨ j = 13 ∨ j = 14 ∨ j = 15) with rfl | rfl | rfl | rfl <;> decide) hne a b (fun w' k x _ => h w' k x))
  go_enter Try.func28, Try.ntmps28
  go_upto_region 12 with (first | (go_at_call 10; ((refine HF.out _ _ ?_); intro bT bL w1 hT hL k1 tb1)) | (go_at_call 65; ((refine HDk.out _ _ ?_); intro bD bP bO w2 hD hO hne k2 bd2 bo2)) | (go_at_call 66; ((with_reducible refine HG1.out _ _ _ _ _ hne bd2 bo2 ?_); intro w3 k3 bd3 bo3)) | (go_at_call 66; ((with_reducible refine HG2.out _ _ _ _ _ hne bd3 bo3 ?_); intro w4 k4 bd4)))
  have hbt := tb1.t.lt
  have hbl := tb1.l.lt
  have z1 := k1.size
  have z2 := k2.size
  have tb4 := ((tb1.kp k2 (by simp) (by simp)).kp k3 (by simp; omega) (by simp; omega)).kp k4 (by simp; omega) (by simp; omega)
  have kk : Kp [] w w4 := ((k1.trans k2).thn k3 (fun s hs => .inr (by simp at hs; omega))).thn k4 (fun s hs => .inr (by simp at hs; omega))
  have z3 := (k3.size)
  have z4 := (k4.size)
  clear k1 k2 k3 k4 bd2 bo2 bd3 bo3 bd4 tb1
  go_upto_region 13 with (fail)
  refine gen_worldK (fun W => ∃ g, w4.heap.size = g ∧ Kp [] w W ∧ Bk W g 121 (kernC bT bD none none none none) ∧ Tab W bT bL (List.replicate 4 fz)) ⟨_, rfl, kk.alloc _, (Bk.new' _ _ _).cast rfl, tb4.kp ((Kp.refl [] _).alloc _) (by simp) (by simp)⟩ ?_
  rintro W ⟨g, hg, kW, bW, tW⟩
  rw [hg]
  have hg0 : w.heap.size ≤ g := by omega
  have hgT : bT ≠ g := by omega
  have hgL : bL ≠ g := by omega
  clear tb4 kk hg
  have K0 := Lib.hid kW
  have B0 := Lib.hid bW
  have T0 := Lib.hid tW
  clear kW bW tW
  go_wp2
  go_loopw [11, 47] (fun _ iv wr => ∃ k : Nat, k ≤ 3 ∧ iv = .int .i64 k ∧ Hid (Kp [] w wr) ∧ Hid (Tab wr bT bL (List.replicate 4 fz)) ∧ ∃ a b c, Hid (Bk wr g 121 (kernC bT bD a b c none))) (fun _ iv _ => 3 - (intOf iv).toNat)
  case atStart => exact ⟨0, by omega, rfl, K0, T0, none, none, none, B0⟩
  case round =>
    obtain ⟨k, hk, rfl, kr, tr, a, b, c, br⟩ := hrel
    have hl := br.out.lt
    rcases (by omega : k = 0 ∨ k = 1 ∨ k = 2 ∨ k = 3) with rfl | rfl | rfl | rfl
    · go_upto_region 16 with (fail)
      go_region_law (first | (go_simp; go_at_call 67; (refine rnb_any _ ?_); intro ga la w5 hga hla k5 bga; have b5 := br.out.drew.kp k5 (by simp); have e4 := b5.cell 4; have f4 := b5.frozen 4; have l5 := b5.lt; simp only [kernC, List.getElem?_cons_zero, List.getElem?_cons_succ] at e4))
      all_goals
        go_wp2
        refine ⟨⟨1, by omega, by first | rfl | go_num, Lib.hid (((kr.out.drew.trans k5)).setCell (p := ⟨g, 4, none⟩) (.inr hg0) _), Lib.hid ((tr.out.kp ((Kp.refl [] wr).drew.trans k5) (by simp) (by simp)).kp (S := [g]) ((Kp.refl _ _).setCell (p := ⟨g, 4, none⟩) (.inl (by simp)) _) (by simp; omega) (by simp; omega)), _, b, c, Lib.hid ((b5.set_ 4 _).cast rfl)⟩, by simp [intOf]⟩
    · go_upto_region 16 with (fail)
      go_region_law (first | (go_simp; go_at_call 67; (refine rnb_any _ ?_); intro ga la w5 hga hla k5 bga; have b5 := br.out.drew.kp k5 (by simp); have e4 := b5.cell 5; have f4 := b5.frozen 5; have l5 := b5.lt; simp only [kernC, List.getElem?_cons_zero, List.getElem?_cons_succ] at e4))
      all_goals
        go_wp2
        refine ⟨⟨2, by omega, by first | rfl | go_num, Lib.hid (((kr.out.drew.trans k5)).setCell (p := ⟨g, 5, none⟩) (.inr hg0) _), Lib.hid ((tr.out.kp ((Kp.refl [] wr).drew.trans k5) (by simp) (by simp)).kp (S := [g]) ((Kp.refl _ _).setCell (p := ⟨g, 5, none⟩) (.inl (by simp)) _) (by simp; omega) (by simp; omega)), a, _, c, Lib.hid ((b5.set_ 5 _).cast rfl)⟩, by simp [intOf]⟩
    · go_upto_region 16 with (fail)
      go_region_law (first | (go_simp; go_at_call 67; (refine rnb_any _ ?_); intro ga la w5 hga hla k5 bga; have b5 := br.out.drew.kp k5 (by simp); have e4 := b5.cell 6; have f4 := b5.frozen 6; have l5 := b5.lt; simp only [kernC, List.getElem?_cons_zero, List.getElem?_cons_succ] at e4))
      all_goals
        go_wp2
        refine ⟨⟨3, by omega, by first | rfl | go_num, Lib.hid (((kr.out.drew.trans k5)).setCell (p := ⟨g, 6, none⟩) (.inr hg0) _), Lib.hid ((tr.out.kp ((Kp.refl [] wr).drew.trans k5) (by simp) (by simp)).kp (S := [g]) ((Kp.refl _ _).setCell (p := ⟨g, 6, none⟩) (.inl (by simp)) _) (by simp; omega) (by simp; omega)), a, b, _, Lib.hid ((b5.set_ 6 _).cast rfl)⟩, by simp [intOf]⟩
    · go_wp2_with (go_at_call 68; (refine rnt_any _ ?_); intro ga la w5 hga hla k5 bga; have b5 := br.out.kp k5 (by simp); have e4 := b5.cell 7; have f4 := b5.frozen 7; have l5 := b5.lt; simp only [kernC, List.getElem?_cons_zero, List.getElem?_cons_succ] at e4)
      exact rcast (H.out g bT bL bD a b c (some ⟨ga, 0, none⟩) _ hg0 (by omega) (by omega) ((kr.out.trans k5).setCell (p := ⟨g, 7, none⟩) (.inr hg0) _) ((b5.set_ 7 _).cast rfl) ((tr.out.kp k5 (by simp) (by simp)).kp (S := [g]) ((Kp.refl _ _).setCell (p := ⟨g, 7, none⟩) (.inl (by simp)) _) (by simp; omega) (by simp; omega))) rfl
end Go.Proofs.Ythlmfjfkkndboaa
