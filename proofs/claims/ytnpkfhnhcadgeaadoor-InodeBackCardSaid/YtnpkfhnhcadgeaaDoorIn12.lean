/- inode.PackFile. -/
import Derived.Test.YtnpkfhnhcadgeaaDoorIn11
namespace Go.Proofs.YtnpkfhnhcadgeaaDoor
open Go.RowKit
set_option linter.unusedVariables false
set_option linter.unusedSimpArgs false
set_option maxRecDepth 100000
def rowsT (V : Nat → Nat) (bl : List Int) (pa : List (Nat × Nat)) : Nat → List UInt8
  | 0 => []
  | k + 1 => rowsT V bl pa k ++ putL (bl.getD k 0).toNat 2 ++ putL (V (pa.getD k (0, 0)).1) 2 ++ putL (V (pa.getD k (0, 0)).2) 2
theorem rowsT_len (V : Nat → Nat) (bl : List Int) (pa : List (Nat × Nat)) : ∀ k, (rowsT V bl pa k).length = 6 * k
  | 0 => rfl
  | k + 1 => by simp only [rowsT, List.length_append, putL_len, rowsT_len V bl pa k]; omega
def fileT (V : Nat → Nat) (ver mt len : Int) (bl : List Int) (pa : List (Nat × Nat)) : List UInt8 := [70] ++ putL ver.toNat 4 ++ putL mt.toNat 8 ++ putL len.toNat 2 ++ rowsT V bl pa bl.length
section
variable {R : Ending → World → Prop} {w w' w0 : World}
theorem conv_fi {n : Nat} (hn : n < 2 ^ 53) (W : World) : (convert 67 3 (.float .f64 (fl n))).run Tryd.prog W = .ok (.int .i64 n) W := by
  refine run_convert_float_int (P := Tryd.prog) W 67 3 .f64 .i64 (fl n) n (by rw [Tryd.underlying67]; rfl) Tryd.underlying3 ?_
  unfold floatToIntVal
  rw [toInt_fl hn]
  simp only
  rw [if_pos ⟨by show (-9223372036854775808 : Int) ≤ (n : Int); omega, by show (n : Int) ≤ 9223372036854775807; omega⟩]
set_option maxHeartbeats 4000000 in
theorem packf_any (W : Nat → Bool) (V : Nat → Nat) (ver mt len : Int) {A B : Option Addr} {n c m d : Nat} {bl : List Int} {pa : List (Nat × Nat)} (hW : ∀ p ∈ pa, WordAt p.1 (W p.1) ∧ WordAt p.2 (W p.2))
    (hV : ∀ p ∈ pa, (W p.1 = true → V p.1 < 65536 ∧ p.1 = fl (V p.1)) ∧ (W p.2 = true → V p.2 < 65536 ∧ p.2 = fl (V p.2)))
    (hr : Rd w [] A (bl.flatMap iv)) (hl : bl.length = n) (hp : Rd w [] B (pa.flatMap cV)) (hq : pa.length = m)
    (h0 : fileB W ver mt len bl pa = false → ∀ w', Kp [] w w' → R (.returned (.tuple #[.slice none 0 0, .int .i64 1])) w')
    (h1 : fileB W ver mt len bl pa = true → ∀ A' c' w', Hid (Kp [] w w' ∧ Ow w' 5 1 A' 256 c' (bts (sealB (fileT V ver mt len bl pa))) ∧ ∀ b ∈ bks A', w.heap.size ≤ b) → R (.returned (.tuple #[.slice A' 256 c', .int .i64 0])) w') :
    Calls Tryd.prog 15 #[.agg #[.int .i64 ver, .int .i64 mt, .int .i64 len, .slice A n c, .slice B m d]] w R := by
  have H0 := Lib.hid h0
  have H1 := Lib.hid h1
  obtain ⟨t, ht⟩ : ∃ t, fileB W ver mt len bl pa = t := ⟨_, rfl⟩
  have HM : Hid (∀ (R : Ending → World → Prop) (w1 : World), Kp [] w w1 → (∀ w', Kp [] w1 w' → R (.returned (.bool t)) w') → Calls Tryd.prog 33 #[.agg #[.int .i64 ver, .int .i64 mt, .int .i64 len, .slice A n c, .slice B m d]] w1 R) := Lib.hid (fun R w1 k1 h => fmay_any W ver mt len hW (hr.kp k1 (by simp)) hl (hp.kp k1 (by simp)) hq (by rw [ht]; exact h))
  have HT := Lib.hid ht
  have HL := Lib.hid hl
  have HQ := Lib.hid hq
  have HR := Lib.hid hr
  have HP := Lib.hid hp
  have HV := Lib.hid hV
  clear h0 h1 hr hl hp hq hW ht hV
  cases t with
  | false =>
    go_enter Tryd.func15, Tryd.ntmps15
    go_wp2_with (go_at_call 33; (refine HM.out _ _ ((Kp.refl _ _).alloc _) ?_; intro w2 k2))
    exact H0.out HT.out _ (((Kp.refl _ _).alloc _).trans k2)
  | true =>
    have hb : fileD ver mt len n m ∧ (∀ v ∈ bl, 2 ≤ v ∧ v < 512) ∧ ∀ p ∈ pa, W p.1 = true ∧ W p.2 = true := by
      have h := HT.out
      unfold fileB at h
      rw [HL.out, HQ.out] at h
      simp only [Bool.and_eq_true, decide_eq_true_eq, List.all_eq_true] at h
      exact ⟨h.1, fun v hv => by have := h.2.1 v hv; simpa [blkB] using this, fun p hp => h.2.2 p hp⟩
    obtain ⟨⟨d1, d2, d3, d4, d5, d6, d7, d8⟩, b2, b3⟩ := hb
    have HB2 := Lib.hid b2
    have HB3 : Hid (∀ p ∈ pa, (V p.1 < 65536 ∧ p.1 = fl (V p.1)) ∧ (V p.2 < 65536 ∧ p.2 = fl (V p.2))) := Lib.hid (fun p hp => ⟨(HV.out p hp).1 (b3 p hp).1, (HV.out p hp).2 (b3 p hp).2⟩)
    obtain ⟨L, hL⟩ : ∃ L : Nat, len = (L : Int) := ⟨len.toNat, by omega⟩
    obtain ⟨M, hM⟩ : ∃ M : Nat, mt = (M : Int) := ⟨mt.toNat, by omega⟩
    obtain ⟨G, hG⟩ : ∃ G : Nat, ver = (G : Int) := ⟨ver.toNat, by omega⟩
    subst hL hM hG
    rw [Int.toNat_natCast] at d7
    have hn : n ≤ 32 := by rw [d7]; unfold cntF; omega
    clear d7 b2 b3 HV
    subst d8
    go_enter Tryd.func15, Tryd.ntmps15
    go_upto_region 1 with (fail)
    refine gen_worldI (fun W0 => ∃ g0, w.heap.size = g0 ∧ Hid (Kp [] w W0 ∧ Bk W0 g0 35 [.int .i64 G, .int .i64 M, .int .i64 L, .slice A m c, .slice B m d])) ⟨_, rfl, Lib.hid ⟨(Kp.refl _ _).alloc _, (Bk.new' _ _ _).cast rfl⟩⟩ ?_
    rintro W0 ⟨g0, hg0, hW⟩
    rw [hg0]
    have HC : Hid (∀ w', Kp [] W0 w' → w'.cell? ⟨g0, 0, none⟩ = some (.int .i64 G) ∧ w'.cell? ⟨g0, 1, none⟩ = some (.int .i64 M) ∧ w'.cell? ⟨g0, 2, none⟩ = some (.int .i64 L) ∧ w'.cell? ⟨g0, 3, none⟩ = some (.slice A m c) ∧ w'.cell? ⟨g0, 4, none⟩ = some (.slice B m d)) := Lib.hid (fun w' k' => ⟨(hW.out.2.kp k' (by simp)).cell 0, (hW.out.2.kp k' (by simp)).cell 1, (hW.out.2.kp k' (by simp)).cell 2, (hW.out.2.kp k' (by simp)).cell 3, (hW.out.2.kp k' (by simp)).cell 4⟩)
    obtain ⟨c0, c1, c2, c3, c4⟩ := HC.out W0 (Kp.refl _ _)
    clear hg0
    have hcv := fun (W : World) (C : Array Value) (n c : Nat) => Lib.run_convert_bytes_const (P := Tryd.prog) W 29 5 C n c Tryd.underlying29 Tryd.underlying5
    go_upto_region 4 with (go_at_call 33; (refine HM.out _ _ hW.out.1 ?_; intro w2 k2))
    refine gen_worldI (fun W2 => ∃ g, w2.heap.size + 1 = g ∧ Hid (Pr0 W0 W2 g [70])) ⟨_, rfl, Lib.hid (by
      have km := (Kp.refl [] w2).alloc (.cells #[.int .u8 70] 5 (1, 2))
      refine ⟨(k2.trans km).alloc _, by have := k2.size; omega, some ⟨w2.heap.size, 0, none⟩, 1, (Bk.newAt (by simp) _ _).cast rfl, ?_⟩
      exact (rd_mark w2 #[.int .u8 70] 5 (1, 2) _ rfl).kp ((Kp.refl [] _).alloc _) (by simp))⟩ ?_
    rintro W2 ⟨g, hg, hP⟩
    rw [hg]
    obtain ⟨c0, c1, c2, c3, c4⟩ := HC.out W2 hP.out.k
    clear hg hcv HM
    go_upto_region 5 with (go_at_call 26; (with_reducible refine pnum4_any hP (by simp) G (by omega) ?_; intro w3 h3))
    obtain ⟨c0, c1, c2, c3, c4⟩ := HC.out w3 h3.out.k
    go_upto_region 6 with (go_at_call 26; (with_reducible refine pnum8_any (Lib.hid h3.out.pr) (by simp [putL_len]) M (by omega) ?_; intro w4 h4))
    obtain ⟨c0, c1, c2, c3, c4⟩ := HC.out w4 h4.out.k
    go_upto_region 7 with (go_at_call 26; (with_reducible refine pnum2_any (Lib.hid h4.out.pr) (by simp [putL_len]) L (by omega) ?_; intro w5 h5))
    refine gen_worldI (fun W4 => Hid (Pn W0 W4 g ([70] ++ putL G 4 ++ putL M 8 ++ putL L 2))) h5 ?_
    intro W4 hP4
    obtain ⟨c0, c1, c2, c3, c4⟩ := HC.out _ hP4.out.k
    obtain ⟨base, hbase⟩ : ∃ base, [70] ++ putL G 4 ++ putL M 8 ++ putL L 2 = base := ⟨_, rfl⟩
    rw [hbase] at hP4
    have hbl : base.length = 15 := by rw [← hbase]; simp [putL_len]
    have HBs := Lib.hid hbase
    clear h3 h4 h5 hP hbase
    go_wp2
    go_loopw [25] (fun jv wr => ∃ k : Nat, k ≤ m ∧ jv = .int .i64 k ∧ Hid (Pn W0 wr g (base ++ rowsT V bl pa k))) (fun jv _ => m - (intOf jv).toNat)
    case atStart => exact ⟨0, Nat.zero_le _, rfl, by simpa [rowsT] using hP4⟩
    case round =>
      obtain ⟨k, hk, rfl, hS⟩ := hrel
      have hlen : (base ++ rowsT V bl pa k).length = 15 + 6 * k := by
        rw [List.length_append, hbl, rowsT_len]
      by_cases hlt : k < m
      · obtain ⟨x, hx, hmx⟩ := get_ltI (l := bl) (k := k) (by have := HL.out; omega)
        obtain ⟨y, hy, hmy⟩ := get_ltI (l := pa) (k := k) (by have := HQ.out; omega)
        obtain ⟨b, off, rfl, _, hblt, hc⟩ := rd_at (F := iv) (K := 1) (HR.out.kp (hW.out.1.trans hS.out.k) (by simp)) (fun _ => rfl) (by omega) hx
        obtain ⟨b', off', rfl, _, hblt', _⟩ := rd_at (F := cV) (K := 1) (HP.out.kp (hW.out.1.trans hS.out.k) (by simp)) (fun _ => rfl) (by omega) hy
        have e0 := hc 0 _ rfl
        rw [Nat.add_zero, Nat.mul_one] at e0
        have hv := HB2.out x hmx
        obtain ⟨X, hX⟩ : ∃ X : Nat, x = (X : Int) := ⟨x.toNat, by omega⟩
        obtain ⟨⟨v1, u1⟩, v2, u2⟩ := HB3.out y hmy
        have HNX : Hid (base ++ rowsT V bl pa k ++ putL X 2 ++ putL (V y.1) 2 ++ putL (V y.2) 2 = base ++ rowsT V bl pa (k + 1)) := Lib.hid (by
          have g1 : bl.getD k 0 = x := by simp [List.getD, hx]
          have g2 : pa.getD k (0, 0) = y := by simp [List.getD, hy]
          simp only [rowsT, g1, g2, hX, Int.toNat_natCast, List.append_assoc])
        have HC5 : Hid (∀ w', Kp [] W0 w' → w'.cell? ⟨g0, 4, none⟩ = some (.slice (some ⟨b', off', none⟩) m d) ∧ w'.cell? ⟨b', off' + k, none⟩ = some (.complex .f64 y.1 y.2)) := Lib.hid (fun w' k' => ⟨(HC.out w' k').2.2.2.2, by
          obtain ⟨b2, off2, he2, _, _, hc2⟩ := rd_at (F := cV) (K := 1) (HP.out.kp (hW.out.1.trans k') (by simp)) (fun _ => rfl) (by omega) hy
          injection he2 with he2
          injection he2 with he3 he4
          have h2 := hc2 0 _ rfl
          rw [Nat.add_zero, Nat.mul_one, ← he3, ← he4] at h2
          exact h2⟩)
        obtain ⟨P1, hP1⟩ : ∃ P1, V y.1 = P1 := ⟨_, rfl⟩
        obtain ⟨P2, hP2⟩ : ∃ P2, V y.2 = P2 := ⟨_, rfl⟩
        rw [hP1] at v1 u1 HNX
        rw [hP2] at v2 u2 HNX
        have t1 := conv_fi (n := P1) (by omega)
        have t2 := conv_fi (n := P2) (by omega)
        rw [← u1] at t1
        rw [← u2] at t2
        subst hX
        obtain ⟨ya, yb⟩ := y
        simp only at t1 t2 HC5
        clear hc hx hy hmx hmy u1 u2 hP1 hP2
        obtain ⟨f4, f5⟩ := HC5.out wr hS.out.k
        go_upto_region 11 with (go_at_call 26; (with_reducible refine pnum2_any (Lib.hid hS.out.pr) (by omega) X (by omega) ?_; intro w5 h5))
        obtain ⟨f4, f5⟩ := HC5.out w5 h5.out.k
        go_upto_region 12 with (go_at_call 26; (with_reducible refine pnum2_any (Lib.hid h5.out.pr) (by rw [List.length_append, putL_len]; omega) P1 (by omega) ?_; intro w6 h6))
        obtain ⟨f4, f5⟩ := HC5.out w6 h6.out.k
        go_wp2_with (go_at_call 26; (with_reducible refine pnum2_any (Lib.hid h6.out.pr) (by rw [List.length_append, List.length_append, putL_len, putL_len]; omega) P2 (by omega) ?_; intro w7 h7; rw [HNX.out] at h7))
        exact ⟨⟨k + 1, by omega, by go_num, h7⟩, by simp [intOf]; omega⟩
      · obtain rfl : k = m := by omega
        have HF : Hid (base ++ rowsT V bl pa k = fileT V G M L bl pa) := Lib.hid (by
          rw [← HBs.out]
          unfold fileT
          rw [HL.out]
          simp only [Int.toNat_natCast])
        go_wp2_with (go_at_call 27; (refine pseal_any hS (by omega) (by omega) ?_; intro A' c' w6 h6; rw [HF.out] at h6))
        exact H1.out HT.out A' c' w6 (Lib.hid ⟨hW.out.1.trans h6.out.1, h6.out.2.1, fun b hb => by have := h6.out.2.2 b hb; have := hW.out.1.size; omega⟩)
end
end Go.Proofs.YtnpkfhnhcadgeaaDoor
