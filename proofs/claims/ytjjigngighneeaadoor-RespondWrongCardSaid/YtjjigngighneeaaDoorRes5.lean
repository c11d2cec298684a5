/- Package respond: the head of the answer to what is none, walked. -/
import Derived.Test.YtjjigngighneeaaDoorResD
namespace Go.Proofs.YtjjigngighneeaaDoor
open Go.RowKit
set_option linter.unusedVariables false
set_option linter.unusedSimpArgs false
set_option maxRecDepth 100000

theorem Bl.cast {w0 W : World} {b : Nat} {l l' : List UInt8} (h : Bl w0 W b l) (e : l = l') : Bl w0 W b l' := e ▸ h
set_option maxHeartbeats 8000000 in
theorem ahead_any {R : Ending → World → Prop} (st now : Int) (g : Nat) (w : World) {A : Option Addr} {c : Nat} (hst : okS st) (hw : Lw w) (hb : Bk w g 63 (ansC st now A 1 c)) (hr : Rd w [] A (partC (bodyT st)))
    (h : ∀ D w', Kp [] w w' → (mayB now = true → Told now D) → (mayB now = false → D = []) → R (.returned (.string (S (headL st now D)))) w') : Calls Tryd.prog 40 #[.pointer (some ⟨g, 0, none⟩)] w R := by
  have H := Lib.hid h
  have B := Lib.hid hb
  have HRd := Lib.hid hr
  obtain ⟨k, rfl⟩ : ∃ k : Nat, st = k := ⟨st.toNat, by unfold okS at hst; omega⟩
  have hk : k ≤ 9999 := by unfold okS at hst; omega
  have n1 : ((k : Int) == 200) = false := by unfold okS at hst; simp; omega
  have n2 : ((k : Int) == 206) = false := by unfold okS at hst; simp; omega
  have n3 : ((k : Int) == 304) = false := by unfold okS at hst; simp; omega
  have n6 : ((k : Int) != 304) = true := by unfold okS at hst; simp; omega
  have n4 : ((k : Int) == 405) = false := by unfold okS at hst; simp; omega
  have n5 : ((k : Int) == 416) = false := by unfold okS at hst; simp; omega
  obtain ⟨rs, hrs⟩ : ∃ rs, rsnL (k : Int) = rs := ⟨_, rfl⟩
  have hrl : rs.length ≤ 40 := by rw [← hrs]; exact rsn_len _
  have hdl := dec3 hk
  have HI : Hid (∀ (R : Ending → World → Prop) (w : World), Lw w → (∀ w', Kp [] w w' → R (.returned (.string (S (decL k)))) w') → Calls Tryd.prog 35 #[.int .i64 k] w R) := Lib.hid (fun R w a b => itoa_any k w (by omega) a b)
  have HRs : Hid (∀ (R : Ending → World → Prop) (w : World), R (.returned (.string (S rs))) w → Calls Tryd.prog 11 #[.int .i64 k] w R) := Lib.hid (fun R w h => reason_any k w (by rw [hrs]; exact h))
  have hbl : (bodyT k).length ≤ 100 := by unfold bodyT; rw [Int.toNat_natCast, hrs]; simp only [List.length_append, List.length_cons, List.length_nil]; omega
  obtain ⟨T, hT⟩ : ∃ T, bodyT k = T := ⟨_, rfl⟩
  rw [hT] at hbl HRd
  have HIL : Hid (∀ (R : Ending → World → Prop) (w : World), Lw w → (∀ w', Kp [] w w' → R (.returned (.string (S (decL T.length)))) w') → Calls Tryd.prog 35 #[.int .i64 T.length] w R) := Lib.hid (fun R w a b => itoa_any T.length w (by omega) a b)
  have htl := dec3 (n := T.length) (by omega)
  have HHD : Hid (∀ D, headL k now D = line1 (decL k) rs ++ ((if mayB now then hdr dateN D else []) ++ (hdr servN pantV ++ (hdr ctN txtV ++ (hdr clN (decL T.length) ++ (hdr connN closV ++ [13, 10])))))) := Lib.hid (fun D => by unfold headL; rw [hT, hrs, Int.toNat_natCast])
  obtain ⟨ds, hds⟩ : ∃ ds, decL k = ds := ⟨_, rfl⟩
  obtain ⟨ls, hls⟩ : ∃ ls, decL T.length = ls := ⟨_, rfl⟩
  rw [hds] at hdl HI HHD
  rw [hls] at htl HIL HHD
  have HBX : Hid (∀ w', Kp [] w w' → (w'.cell? ⟨g, 0, none⟩ = some (.int .i64 k) ∧ w'.cell? ⟨g, 1, none⟩ = some (.int .i64 1) ∧ w'.cell? ⟨g, 2, none⟩ = some (.bool true) ∧ w'.cell? ⟨g, 3, none⟩ = some (.int .i64 0) ∧ w'.cell? ⟨g, 4, none⟩ = some (.int .i64 0) ∧ w'.cell? ⟨g, 5, none⟩ = some (.int .i64 0) ∧ w'.cell? ⟨g, 6, none⟩ = some (.string ⟨#[]⟩) ∧ w'.cell? ⟨g, 7, none⟩ = some (.int .i64 now) ∧ w'.cell? ⟨g, 8, none⟩ = some (.slice none 0 0) ∧ w'.cell? ⟨g, 9, none⟩ = some (.slice A 1 c))) := Lib.hid (fun w' k' => (bk10 (hb.kp k' (by simp))).1)
  clear h hst hb hrs hds hls hT hr
  have HSK : Hid (∀ w', Kp [] w w' → w'.cell? ⟨g, 0, none⟩ = some (.int .i64 k)) := Lib.hid (fun w' k' => (HBX.out w' k').1)
  go_enter Tryd.func40, Tryd.ntmps40
  go_upto_region 2 with (fail)
  refine gen_worldC (fun W => ∃ b, w.heap.size = b ∧ Bl w W b []) ⟨_, rfl, Bl.new (Kp.refl _ _) rfl⟩ ?_
  rintro W ⟨b, hb, bl⟩
  rw [hb]
  clear hb
  have HI2 : Hid (∀ (R : Ending → World → Prop) (w1 : World), Bl w w1 b [] → (∀ w', Bl w w' b [] → R (.returned (.string (S ds))) w') → Calls Tryd.prog 35 #[.int .i64 k] w1 R) := Lib.hid (fun R w1 h1 h => HI.out R w1 (hw.kp h1.kp) (fun w' a => h w' (h1.step a)))
  obtain ⟨p0, p1, p2, p3, p4, p5, p6, p7, p8, p9⟩ := HBX.out W bl.kp
  have s1 : (9223372036854775807 < 9 + ds.length) = False := eq_false (by omega)
  have s2 : (9223372036854775807 < ds.length + 1 + 1 + 1 + 1 + 1 + 1 + 1 + 1 + 1 + 1) = False := eq_false (by omega)
  have s3 : (9223372036854775807 < ds.length + 1 + 1 + 1 + 1 + 1 + 1 + 1 + 1 + 1 + 1 + rs.length) = False := eq_false (by omega)
  have s4 : (9223372036854775807 < ds.length + (rs.length + 1) + 1 + 1 + 1 + 1 + 1 + 1 + 1 + 1 + 1 + 2) = False := eq_false (by omega)
  go_region_held_law (fun w' => w'.cell? ⟨g, 0, none⟩ = some (.int .i64 k)) (first | exact HSK.out _ (Bl.kp (by assumption)) | exact HSK.out _ (Kp.drew (Bl.kp (by assumption)))) (first | (go_simp; go_at_call 35; (refine HI2.out _ _ (by first | assumption | exact Bl.step (by assumption) (Kp.refl [] _).drew) ?_); intro w1 b1) | (go_simp; go_at_call 11; (refine HRs.out _ _ ?_)) | (go_simp; go_at_call 51; (refine bw_any (w0 := w) (l := []) (by assumption) (by simp only [List.length_append, List.length_cons, List.length_nil]; omega) ?_); intro w2 b2))
  have c2 : Bl w w2 b (line1 ds rs) := b2.cast (by unfold line1; simp)
  clear s1 s2 s3 s4 p0 p1 p2 p3 p4 p5 p6 p7 p8 p9 b1 b2 bl HI2
  obtain ⟨p0, p1, p2, p3, p4, p5, p6, p7, p8, p9⟩ := HBX.out w2 c2.kp
  have hll : (line1 ds rs).length ≤ 100 := by unfold line1; simp; omega
  generalize line1 ds rs = L1 at c2 hll HHD
  have HPr : Hid (∀ (R : Ending → World → Prop) (w1 : World), Lw w1 → (∀ D e w', Kp [] w1 w' → (mayB now = true → Told now D ∧ e = 0) → (mayB now = false → D = [] ∧ e = 1) → R (.returned (.tuple #[.string (S D), .int .i64 e])) w') → Calls Tryd.prog 38 #[.int .i64 now] w1 R) := Lib.hid (fun R w1 h1 h => print_both now w1 h1 h)
  have HP0 : Hid (∀ (R : Ending → World → Prop) (w1 : World), Lw w1 → (∀ D w', D.length ≤ 200 → Kp [] w1 w' → R (.returned (.tuple #[.string (S D), .int .i64 0])) w') → Calls Tryd.prog 38 #[.int .i64 0] w1 R) := Lib.hid (fun R w1 h1 h => print_any 0 w1 (by omega) (by omega) h1 (fun y m d hh mi s wd a b hc ha hb w' k => h _ w' (told_len ⟨y, m, d, hh, mi, s, wd, a, b, hc, ha, hb, rfl⟩ (by omega) (by omega)) k))
  go_upto_region 4 with (go_at_call 38; ((refine HPr.out _ _ (hw.kp c2.kp) ?_); intro D e w3 k3 ht hf; have c3 := c2.step k3))
  have he : (e == 0) = mayB now := by
    cases hm : mayB now
    · rw [(hf hm).2]; rfl
    · rw [(ht hm).2]; rfl
  have hDl : D.length ≤ 200 := by
    cases hm : mayB now
    · rw [(hf hm).1]; simp
    · have hm2 : 0 ≤ now ∧ now ≤ 253402300799 := by simpa [mayB] using hm
      exact told_len (ht hm).1 hm2.1 hm2.2
  have HD : Hid ((mayB now = true → Told now D) ∧ (mayB now = false → D = [])) := Lib.hid ⟨fun hm => (ht hm).1, fun hm => (hf hm).1⟩
  have HHD2 := Lib.hid (HHD.out D)
  clear ht hf HHD c2
  obtain ⟨mb, hmb⟩ : ∃ mb, mayB now = mb := ⟨_, rfl⟩
  rw [hmb] at he HHD2
  clear hmb
  clear p0 p1 p2 p3 p4 p5 p6 p7 p8 p9
  obtain ⟨p0, p1, p2, p3, p4, p5, p6, p7, p8, p9⟩ := HBX.out _ c3.kp
  go_upto_region 5 with (go_at_call 65; ((refine add_any (w0 := w) mb c3 (by omega) (by decide) (by omega) ?_); intro w4 c4))
  obtain ⟨L2, hL2⟩ : ∃ L2, (if mb = true then L1 ++ ([68, 97, 116, 101] ++ 58 :: 32 :: (D ++ [13, 10])) else L1) = L2 := ⟨_, rfl⟩
  rw [hL2] at c4
  have hL2l : L2.length ≤ 400 := by
    rw [← hL2]
    cases mb
    · simp; omega
    · simp; omega
  have HHD3 : Hid (headL k now D = L2 ++ (hdr servN pantV ++ (hdr ctN txtV ++ (hdr clN ls ++ (hdr connN closV ++ [13, 10]))))) := Lib.hid (by
    rw [HHD2.out, ← hL2]
    cases mb
    · simp
    · simp [hdr, dateN])
  clear hL2 HHD2 c3 he
  clear p0 p1 p2 p3 p4 p5 p6 p7 p8 p9
  obtain ⟨p0, p1, p2, p3, p4, p5, p6, p7, p8, p9⟩ := HBX.out _ c4.kp
  have HTg : Hid (∀ (R : Ending → World → Prop) (w1 : World), Lw w1 → (∀ w', Kp [] w1 w' → R (.returned (.string (S (tagL 0 0)))) w') → Calls Tryd.prog 20 #[.int .i64 0, .int .i64 0] w1 R) := Lib.hid (fun R w1 h1 h => tag_any 0 0 w1 (by omega) (by omega) h1 h)
  have HNo : Hid (∀ (R : Ending → World → Prop) (w1 : World), Lw w1 → (∀ w', Kp [] w1 w' → R (.returned (.string (S ([98, 121, 116, 101, 115, 32, 42, 47] ++ decL 0)))) w') → Calls Tryd.prog 68 #[.int .i64 0] w1 R) := Lib.hid (fun R w1 h1 h => rnone_any 0 w1 (by omega) h1 h)
  have HLen : Hid (∀ (R : Ending → World → Prop) (w1 : World), Kp [] w w1 → (∀ w', Kp [] w1 w' → R (.returned (.int .i64 T.length)) w') → Calls Tryd.prog 69 #[.slice A 1 c] w1 R) := Lib.hid (fun R w1 k1 h => plen_any T c w1 (HRd.out.kp k1 (by simp)) (by omega) h)
  have hSt : (decL 0).length ≤ 10 := dec3 (by omega)
  have hTg : (tagL 0 0).length ≤ 100 := by
    have e1 := itoaL_len 0 (by omega) (by omega)
    unfold tagL; simp; omega
  generalize tagL 0 0 = tg0 at HTg hTg
  generalize decL 0 = d0 at HNo hSt
  go_upto_region 8 with (go_at_call 65; ((refine add_any (w0 := w) true c4 (by omega) (by decide) (by decide) ?_); intro w5 c5; clear p0 p1 p2 p3 p4 p5 p6 p7 p8 p9; obtain ⟨p0, p1, p2, p3, p4, p5, p6, p7, p8, p9⟩ := HBX.out _ c5.kp))
  simp only [if_true] at c5
  have c5' : Bl w w5 b (L2 ++ hdr servN pantV) := c5
  obtain ⟨L3, hL3⟩ : ∃ L3, L2 ++ hdr servN pantV = L3 := ⟨_, rfl⟩
  rw [hL3] at c5'
  have hL3l : L3.length ≤ 500 := by rw [← hL3]; simp [hdr, servN, pantV]; omega
  have HHD4 : Hid (headL k now D = L3 ++ (hdr ctN txtV ++ (hdr clN ls ++ (hdr connN closV ++ [13, 10])))) := Lib.hid (by rw [HHD3.out, ← hL3]; simp)
  have c5d : Bl w w5.drew b L3 := c5'.step (Kp.refl [] w5).drew
  have HS8 : Hid (∀ w', Kp [] w w' → w'.cell? ⟨g, 0, none⟩ = some (.int .i64 k) ∧ w'.cell? ⟨g, 3, none⟩ = some (.int .i64 0) ∧ w'.cell? ⟨g, 4, none⟩ = some (.int .i64 0)) := Lib.hid (fun w' k' => by have := HBX.out w' k'; exact ⟨this.1, this.2.2.2.1, this.2.2.2.2.1⟩)
  clear hL3 HHD3 c4 c5 c5'
  go_region_held_law (fun w' => w'.cell? ⟨g, 0, none⟩ = some (.int .i64 k) ∧ w'.cell? ⟨g, 3, none⟩ = some (.int .i64 0) ∧ w'.cell? ⟨g, 4, none⟩ = some (.int .i64 0)) (first | exact HS8.out _ c7.kp | exact HS8.out _ c6.kp | exact HS8.out _ c5d.kp) (first | (go_simp; go_at_call 20; (refine HTg.out _ _ (hw.kp c5d.kp) ?_); intro w6 k6; have c6 := c5d.step k6) | (go_simp; go_at_call 65; (refine add_any (w0 := w) false c6 (by omega) (by decide) (by omega) ?_); intro w7 c7))
  simp only [Bool.false_eq_true, if_false] at c7
  clear c5d c6
  clear p0 p1 p2 p3 p4 p5 p6 p7 p8 p9
  obtain ⟨p0, p1, p2, p3, p4, p5, p6, p7, p8, p9⟩ := HBX.out _ c7.kp
  go_wp2_with (first | (go_at_call 38; ((refine HP0.out _ _ (hw.kp (Bl.kp (by assumption))) ?_); intro D0 wN hD0 kN; have bN := Bl.step (by assumption) kN; clear p0 p1 p2 p3 p4 p5 p6 p7 p8 p9; obtain ⟨p0, p1, p2, p3, p4, p5, p6, p7, p8, p9⟩ := HBX.out _ bN.kp)) | (go_at_call 65; ((refine add_any (w0 := w) _ (by assumption) (by first | omega | (simp only [List.length_append, List.length_cons, List.length_nil]; omega)) (by decide) (by first | omega | (simp only [List.length_append, List.length_cons, List.length_nil]; omega)) ?_); intro wN bN; simp only [if_true, Bool.false_eq_true, if_false] at bN; clear p0 p1 p2 p3 p4 p5 p6 p7 p8 p9; obtain ⟨p0, p1, p2, p3, p4, p5, p6, p7, p8, p9⟩ := HBX.out _ bN.kp)) | (go_at_call 68; ((refine HNo.out _ _ (hw.kp (Bl.kp (by assumption))) ?_); intro wN kN; have bN := Bl.step (by assumption) kN; clear p0 p1 p2 p3 p4 p5 p6 p7 p8 p9; obtain ⟨p0, p1, p2, p3, p4, p5, p6, p7, p8, p9⟩ := HBX.out _ bN.kp)) | (go_at_call 69; ((refine HLen.out _ _ (Bl.kp (by assumption)) ?_); intro wN kN; have bN := Bl.step (by assumption) kN; clear p0 p1 p2 p3 p4 p5 p6 p7 p8 p9; obtain ⟨p0, p1, p2, p3, p4, p5, p6, p7, p8, p9⟩ := HBX.out _ bN.kp)) | (go_at_call 35; ((refine HIL.out _ _ (hw.kp (Bl.kp (by assumption))) ?_); intro wN kN; have bN := Bl.step (by assumption) kN; clear p0 p1 p2 p3 p4 p5 p6 p7 p8 p9; obtain ⟨p0, p1, p2, p3, p4, p5, p6, p7, p8, p9⟩ := HBX.out _ bN.kp)))
  obtain ⟨w8, hw8⟩ : ∃ w8, wN = w8 := ⟨_, rfl⟩
  rw [hw8] at bN ⊢
  have c8' : Bl w w8 b (L3 ++ hdr ctN txtV) := bN
  obtain ⟨L4, hL4⟩ : ∃ L4, L3 ++ hdr ctN txtV = L4 := ⟨_, rfl⟩
  rw [hL4] at c8'
  have hL4l : L4.length ≤ 600 := by rw [← hL4]; simp [hdr, ctN, txtV]; omega
  have HHD5 : Hid (headL k now D = L4 ++ (hdr clN ls ++ (hdr connN closV ++ [13, 10]))) := Lib.hid (by rw [HHD4.out, ← hL4]; simp)
  have c8d : Bl w w8.drew b L4 := c8'.step (Kp.refl [] w8).drew
  have HS9 : Hid (∀ w', Kp [] w w' → w'.cell? ⟨g, 0, none⟩ = some (.int .i64 k) ∧ w'.cell? ⟨g, 5, none⟩ = some (.int .i64 0)) := Lib.hid (fun w' k' => by have := HBX.out w' k'; exact ⟨this.1, this.2.2.2.2.2.1⟩)
  clear hL4 HHD4 c7 bN hw8
  clear p0 p1 p2 p3 p4 p5 p6 p7 p8 p9
  obtain ⟨p0, p1, p2, p3, p4, p5, p6, p7, p8, p9⟩ := HBX.out _ c8'.kp
  go_region_held_law (fun w' => w'.cell? ⟨g, 0, none⟩ = some (.int .i64 k) ∧ w'.cell? ⟨g, 5, none⟩ = some (.int .i64 0)) (first | exact HS9.out _ c10.kp | exact HS9.out _ c9.kp | exact HS9.out _ c8d.kp) (first | (go_simp; go_at_call 68; (refine HNo.out _ _ (hw.kp c8d.kp) ?_); intro w9 k9; have c9 := c8d.step k9) | (go_simp; go_at_call 65; (refine add_any (w0 := w) false c9 (by omega) (by decide) (by simp only [List.length_append, List.length_cons, List.length_nil]; omega) ?_); intro w10 c10))
  simp only [Bool.false_eq_true, if_false] at c10
  clear c8d c9
  clear p0 p1 p2 p3 p4 p5 p6 p7 p8 p9
  obtain ⟨p0, p1, p2, p3, p4, p5, p6, p7, p8, p9⟩ := HBX.out _ c10.kp
  go_upto_region 21 with (fail)
  have HS10 : Hid (∀ w', Kp [] w w' → w'.cell? ⟨g, 0, none⟩ = some (.int .i64 k) ∧ w'.cell? ⟨g, 9, none⟩ = some (.slice A 1 c)) := Lib.hid (fun w' k' => by have := HBX.out w' k'; exact ⟨this.1, this.2.2.2.2.2.2.2.2.2⟩)
  have c10d : Bl w w10.drew b L4 := c10.step (Kp.refl [] w10).drew
  go_region_held_law (fun w' => w'.cell? ⟨g, 0, none⟩ = some (.int .i64 k) ∧ w'.cell? ⟨g, 9, none⟩ = some (.slice A 1 c)) (first | exact HS10.out _ c13.kp | exact HS10.out _ c12.kp | exact HS10.out _ c11.kp | exact HS10.out _ c10d.kp) (first | (go_simp; go_at_call 69; (refine HLen.out _ _ c10d.kp ?_); intro w11 k11; have c11 := c10d.step k11) | (go_simp; go_at_call 35; (refine HIL.out _ _ (hw.kp c11.kp) ?_); intro w12 k12; have c12 := c11.step k12) | (go_simp; go_at_call 65; (refine add_any (w0 := w) true c12 (by omega) (by decide) (by omega) ?_); intro w13 c13))
  simp only [if_true] at c13
  have c13' : Bl w w13 b (L4 ++ hdr clN ls) := c13
  obtain ⟨L5, hL5⟩ : ∃ L5, L4 ++ hdr clN ls = L5 := ⟨_, rfl⟩
  rw [hL5] at c13'
  have hL5l : L5.length ≤ 700 := by rw [← hL5]; simp [hdr, clN]; omega
  have HHD6 : Hid (headL k now D = L5 ++ (hdr connN closV ++ [13, 10])) := Lib.hid (by rw [HHD5.out, ← hL5]; simp)
  clear hL5 HHD5 c10 c10d c11 c12 c13
  clear p0 p1 p2 p3 p4 p5 p6 p7 p8 p9
  obtain ⟨p0, p1, p2, p3, p4, p5, p6, p7, p8, p9⟩ := HBX.out _ c13'.kp
  go_wp2_with (first | (go_at_call 65; ((refine add_any (w0 := w) _ (by assumption) (by first | omega | (simp only [List.length_append, List.length_cons, List.length_nil]; omega)) (by decide) (by first | omega | (simp only [List.length_append, List.length_cons, List.length_nil]; omega)) ?_); intro wN bN; simp only [if_true, Bool.false_eq_true, if_false] at bN; clear p0 p1 p2 p3 p4 p5 p6 p7 p8 p9; obtain ⟨p0, p1, p2, p3, p4, p5, p6, p7, p8, p9⟩ := HBX.out _ bN.kp)) | (go_at_call 52; ((refine bs_any (w0 := w) (by assumption) (by simp) ?_); intro wZ kZ)))
  exact rcast (H.out D wZ kZ HD.out.1 HD.out.2) (by rw [HHD6.out]; simp [hdr, connN, closV])
end Go.Proofs.YtjjigngighneeaaDoor
