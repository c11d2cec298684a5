/- pantlerref06: New. Scopes with any labels; filter.Run in plain words; filter.load walked. filter.Run walked. -/
import Derived.Test.YtedblbpmlbjnhaaGreatPE11
import Derived.Test.YtedblbpmlbjnhaaGreatPE15
import Derived.Test.YtedblbpmlbjnhaaGreatPE12
import Derived.ScopeJumps
import Derived.WalkMore
import Derived.IntWalk
import Derived.Test.YtedblbpmlbjnhaaGreatPE8
import Derived.BigQuiet
import Derived.Laws.Shifts
import Derived.Laws.BitsAllLaws
namespace Go.Proofs.YtedblbpmlbjnhaaGreat
/-! ### pantlerref06: New. -/
section
open Go.RowKit Go.Shelf
set_option linter.unusedVariables false
set_option linter.unusedSimpArgs false
set_option maxRecDepth 100000
theorem zB_eq : zB = z256 := by kernel_rfl
/-- Half-way through the document's disk. -/
structure Mn (w W : World) (g k : Nat) (A0 : Option Addr) (c0 : Nat) (A1 : Option Addr) (c1 : Nat) : Prop where
  kp : Kp [] w W
  dd : Bk W g 74 [.slice A0 k c0, .slice A1 k c1, .slice none 0 0, .bool false, .int .i64 (-1)]
  gb : w.heap.size ≤ g
  o0 : Ow W 9 1 A0 k c0 (zS k)
  o1 : Ow W 3 1 A1 k c1 (zI k)
  f0 : ∀ b ∈ bks A0, g < b ∧ b ∉ bks A1
  f1 : ∀ b ∈ bks A1, g < b
theorem Mn.put0 {w W W' : World} {g k : Nat} {A0 A1 A2 : Option Addr} {c0 c1 c2 : Nat} (h : Mn w W g k A0 c0 A1 c1) (hk : Kp (bks A0) W W') (ho : Ow W' 9 1 A2 (k + 1) c2 (zS (k + 1))) (hA : A2 = A0 ∨ ∀ b ∈ bks A2, W.heap.size ≤ b) :
    Kp [] w (W'.setCell ⟨g, 0, none⟩ (.slice A2 (k + 1) c2)) ∧ Bk (W'.setCell ⟨g, 0, none⟩ (.slice A2 (k + 1) c2)) g 74 [.slice A2 (k + 1) c2, .slice A1 k c1, .slice none 0 0, .bool false, .int .i64 (-1)] ∧
    Ow (W'.setCell ⟨g, 0, none⟩ (.slice A2 (k + 1) c2)) 9 1 A2 (k + 1) c2 (zS (k + 1)) ∧ Ow (W'.setCell ⟨g, 0, none⟩ (.slice A2 (k + 1) c2)) 3 1 A1 k c1 (zI k) ∧ (∀ b ∈ bks A2, g < b ∧ b ∉ bks A1) := by
  have hg := h.dd.lt
  have h1 := h.o1.lt
  have hs : Kp [g] W' (W'.setCell ⟨g, 0, none⟩ (.slice A2 (k + 1) c2)) := (Kp.refl [g] W').setCell (p := ⟨g, 0, none⟩) (.inl (by simp)) _
  have f2 : ∀ b ∈ bks A2, g < b ∧ b ∉ bks A1 := by
    intro b hb
    rcases hA with rfl | hA
    · exact h.f0 b hb
    · have := hA b hb
      exact ⟨by omega, fun hm => by have := h1 b hm; omega⟩
  have z := h.kp.size
  have gb := h.gb
  refine ⟨(h.kp.thn hk (fun s hs => .inr (by have := (h.f0 s hs).1; omega))).thn hs (fun s hs => .inr (by simp at hs; omega)), ((h.dd.kp hk (fun hm => Nat.lt_irrefl _ (h.f0 _ hm).1)).set_ 0 _).cast rfl, ho.kp hs (fun b hb => by have := (f2 b hb).1; simp; omega), (h.o1.kp hk (fun b hb hm => (h.f0 b hm).2 hb)).kp hs (fun b hb => by have := h.f1 b hb; simp; omega), f2⟩
theorem Mn.put1 {w W W' : World} {g k : Nat} {A0 A1 A2 : Option Addr} {c0 c1 c2 : Nat} (kp : Kp [] w W) (hb : Bk W g 74 [.slice A0 (k + 1) c0, .slice A1 k c1, .slice none 0 0, .bool false, .int .i64 (-1)]) (gb : w.heap.size ≤ g) (o0 : Ow W 9 1 A0 (k + 1) c0 (zS (k + 1)))
    (f0 : ∀ b ∈ bks A0, g < b ∧ b ∉ bks A1) (f1 : ∀ b ∈ bks A1, g < b) (hk : Kp (bks A1) W W') (ho : Ow W' 3 1 A2 (k + 1) c2 (zI (k + 1))) (hA : A2 = A1 ∨ ∀ b ∈ bks A2, W.heap.size ≤ b) : Mn w (W'.setCell ⟨g, 1, none⟩ (.slice A2 (k + 1) c2)) g (k + 1) A0 c0 A2 c2 := by
  have hg := hb.lt
  have h0 := o0.lt
  have hs : Kp [g] W' (W'.setCell ⟨g, 1, none⟩ (.slice A2 (k + 1) c2)) := (Kp.refl [g] W').setCell (p := ⟨g, 1, none⟩) (.inl (by simp)) _
  have z := kp.size
  have f2 : ∀ b ∈ bks A2, g < b := by
    intro b hbm
    rcases hA with rfl | hA
    · exact f1 b hbm
    · have := hA b hbm; omega
  refine ⟨(kp.thn hk (fun s hs => .inr (by have := f1 s hs; omega))).thn hs (fun s hs => .inr (by simp at hs; omega)), ((hb.kp hk (fun hm => Nat.lt_irrefl _ (f1 _ hm))).set_ 1 _).cast rfl, gb, (o0.kp hk (fun b hb hm => (f0 b hb).2 hm)).kp hs (fun b hb => by have := (f0 b hb).1; simp; omega), ho.kp hs (fun b hb => by have := f2 b hb; simp; omega), fun b hbm => ⟨(f0 b hbm).1, fun hm => ?_⟩, f2⟩
  rcases hA with rfl | hA
  · exact (f0 b hbm).2 hm
  · have := hA b hm; have := h0 b hbm; omega
section
variable {R : Ending → World → Prop} {w : World}
set_option maxHeartbeats 4000000 in
theorem mnew_any (n : Nat) (h2 : n ≤ 512) (h : ∀ bD bB bO w', w.heap.size ≤ bD → w.heap.size ≤ bB → w.heap.size ≤ bO → bB ≠ bO → Kp [] w w' → (n = 0 ∨ Dm w' bD bB bO none 0 (dz n)) → R (.returned (.pointer (some ⟨bD, 0, none⟩))) w') :
    Calls Tryz.prog 46 #[.int .i64 n] w R := by
  have H := Lib.hid h
  clear h
  obtain ⟨i0, hi, hz0, hz1, hz2⟩ := info_parts elt_u8.2.1
  have hmk := fun W => run_make (P := Tryz.prog) W 37 5 i0 _ Tryz.underlying37 hi hz0 .i64 .i64 256 256 (by omega) (by omega) (by rw [hz2]; omega) (by omega)
  simp only [Value.cells, hz1] at hmk
  clear hi hz0 hz1 hz2
  have e : (madeCells #[Value.int .u8 0] (256 * 1)).toList = bts zB := by kernel_rfl
  have HE := Lib.hid e
  have HMK := Lib.hid hmk
  clear e hmk
  go_enter Tryz.func46, Tryz.ntmps46
  go_upto_region 2 with (fail)
  refine genV (fun W => ∃ g, w.heap.size = g ∧ Hid (Mn w W g 0 none 0 none 0)) ⟨_, rfl, Lib.hid ⟨(Kp.refl _ _).alloc _, Bk.newAt rfl _ _, Nat.le_refl _, Ow.nil, Ow.nil, by simp [bks], by simp [bks]⟩⟩ ?_
  rintro W1 ⟨g, hg, hN⟩
  rw [hg]
  have hgw : w.heap.size ≤ g := by omega
  clear hg
  go_wp2
  go_loopw [4] (fun iv wr => ∃ (k : Nat) (A0 A1 : Option Addr) (c0 c1 : Nat), k ≤ n ∧ iv = .int .i64 k ∧ Hid (Mn w wr g k A0 c0 A1 c1)) (fun iv _ => n - (intOf iv).toNat)
  case atStart => exact ⟨0, none, none, 0, 0, Nat.zero_le _, rfl, hN⟩
  case round =>
    obtain ⟨k, A0, A1, c0, c1, hk, rfl, hM⟩ := hrel
    clear hN
    by_cases hlt : k < n
    · go_upto_region 5 with (fail)
      refine nameA (fun A00 hA00 => ?_)
      have sl3 : A00.tmps.getD 3 undef = .pointer (some ⟨g, 0, none⟩) := by rw [hA00]; rfl
      have sz00 : A00.tmps.size = 33 := by rw [hA00]; rfl
      have HA00 := Lib.hid hA00
      clear hA00
      refine wp_region_inv (fun b a' W => ∃ (g5 : Nat) (g7 : Nat) (A2 : Option Addr) (c2 : Nat), Hid (a'.defers = A00.defers) ∧ Hid (a'.tmps.size = A00.tmps.size) ∧ Hid (∀ k, k ∉ [12, 13, 14, 15, 16, 17, 18, 19, 20, 21, 22] → a'.tmps.getD k undef = A00.tmps.getD k undef) ∧ (b 0 → a'.tmps.getD 12 undef = .pointer (some ⟨g, 0, none⟩)) ∧ (b 1 → a'.tmps.getD 13 undef = .pointer (some ⟨g, 0, none⟩)) ∧ (b 2 → a'.tmps.getD 14 undef = .pointer (some ⟨g, 0, none⟩)) ∧ (b 3 → a'.tmps.getD 15 undef = .pointer (some ⟨g, 0, none⟩)) ∧ (b 4 → a'.tmps.getD 16 undef = .slice A0 k c0) ∧ (b 5 → a'.tmps.getD 17 undef = .slice (some ⟨g5, 0, none⟩) 256 256) ∧ (b 6 → a'.tmps.getD 18 undef = .string (S zB)) ∧ (b 7 → a'.tmps.getD 19 undef = .slice (some ⟨g7, 0, none⟩) 1 1) ∧ (b 8 → a'.tmps.getD 20 undef = .slice A2 (k + 1) c2) ∧ (b 9 → a'.tmps.getD 21 undef = .pointer (some ⟨g, 0, none⟩)) ∧ (b 10 → a'.tmps.getD 22 undef = .pointer (some ⟨g, 0, none⟩)) ∧ (b 2 → b 1) ∧ (b 3 → b 2) ∧ (b 4 → b 3) ∧ (b 6 → b 5) ∧ (b 7 → b 6) ∧ (b 8 → b 4) ∧ (b 8 → b 7) ∧ (b 9 → b 0) ∧ (b 10 → b 9) ∧ (b 11 → b 8) ∧ (b 11 → b 10) ∧ (¬ b 11 → Hid (Kp (bks A0) wr W)) ∧ (¬ b 8 → ¬ b 11 → Hid (Ow W 9 1 A0 k c0 (zS k) ∧ Kp [] wr W)) ∧ (b 5 → ¬ b 8 → ¬ b 11 → Hid (wr.heap.size ≤ g5 ∧ Bk W g5 5 (bts zB))) ∧ (b 7 → ¬ b 8 → ¬ b 11 → Hid (wr.heap.size ≤ g7 ∧ Bk W g7 9 [.string (S zB)])) ∧ (b 8 → ¬ b 11 → Hid (Ow W 9 1 A2 (k + 1) c2 (zS (k + 1)) ∧ (A2 = A0 ∨ ∀ b ∈ bks A2, wr.heap.size ≤ b))) ∧ (b 11 → Hid (∃ W9, Kp (bks A0) wr W9 ∧ Ow W9 9 1 A2 (k + 1) c2 (zS (k + 1)) ∧ (A2 = A0 ∨ ∀ b ∈ bks A2, wr.heap.size ≤ b) ∧ W = W9.setCell ⟨g, 0, none⟩ (.slice A2 (k + 1) c2)))) (by kernel_rfl) (by kernel_rfl) 12 rfl ?_ ?_ ?_
      · exact ⟨0, 0, none, 0, Lib.hid rfl, Lib.hid rfl, Lib.hid (fun _ _ => rfl), fun h => absurd h id, fun h => absurd h id, fun h => absurd h id, fun h => absurd h id, fun h => absurd h id, fun h => absurd h id, fun h => absurd h id, fun h => absurd h id, fun h => absurd h id, fun h => absurd h id, fun h => absurd h id, fun h => absurd h id, fun h => absurd h id, fun h => absurd h id, fun h => absurd h id, fun h => absurd h id, fun h => absurd h id, fun h => absurd h id, fun h => absurd h id, fun h => absurd h id, fun h => absurd h id, fun h => absurd h id, fun _ => Lib.hid ((Kp.refl _ _).drew), fun _ _ => Lib.hid (⟨hM.out.o0.drew, (Kp.refl _ _).drew⟩), fun h => absurd h id, fun h => absurd h id, fun h => absurd h id, fun h => absurd h id⟩
      · intro b a' W i o ho hn hd hI K hK
        obtain ⟨g5, g7, A2, c2, ad, az, af, h0, h1, h2, h3, h4, h5, h6, h7, h8, h9, h10, c2_1, c3_2, c4_3, c6_5, c7_6, c8_4, c8_7, c9_0, c10_9, c11_8, c11_10, hK1, hO, hB5, hB7, hF, hFin⟩ := hI
        have s3 := (af.out 3 (by decide)).trans sl3
        match i, ho with
        | 0, ho =>
          injection ho with ho; subst ho
          have nb11 : ¬ b 11 := fun h => hn (c9_0 (c10_9 (c11_10 h)))
          have HK := Lib.hid hK
          obtain ⟨sv3, sw3⟩ := ev_of s3
          clear hK hd
          rw [if_pos (by rfl)]
          go_simp
          exact HK.out _ _ ⟨g5, g7, A2, c2, Lib.hid ad.out, Lib.hid (gd_size.trans az.out), Lib.hid (fun k hk => (gd_ne (by rintro rfl; exact hk (by decide))).trans (af.out k hk)), fun _ => gd_eq (by rw [az.out, sz00]; decide), gdI h1, gdI h2, gdI h3, gdI h4, gdI h5, gdI h6, gdI h7, gdI h8, gdI h9, gdI h10, giI c2_1, giI c3_2, giI c4_3, giI c6_5, giI c7_6, giI c8_4, giI c8_7, giI c9_0, giI c10_9, giI c11_8, giI c11_10, fun n11 => (hK1 (fun z => n11 (.inr z))), fun n8 n11 => (hO (fun z => n8 (.inr z)) (fun z => n11 (.inr z))), fun p5 n8 n11 => (hB5 (rlI p5) (fun z => n8 (.inr z)) (fun z => n11 (.inr z))), fun p7 n8 n11 => (hB7 (rlI p7) (fun z => n8 (.inr z)) (fun z => n11 (.inr z))), fun p8 n11 => (hF (rlI p8) (fun z => n11 (.inr z))), fun p11 => absurd (c9_0 (c10_9 (c11_10 (rlI p11)))) hn⟩
        | 1, ho =>
          injection ho with ho; subst ho
          have nb8 : ¬ b 8 := fun h => hn (c2_1 (c3_2 (c4_3 (c8_4 h))))
          have nb11 : ¬ b 11 := fun h => hn (c2_1 (c3_2 (c4_3 (c8_4 (c11_8 h)))))
          have HK := Lib.hid hK
          obtain ⟨sv3, sw3⟩ := ev_of s3
          clear hK hd
          rw [if_pos (by rfl)]
          go_simp
          exact HK.out _ _ ⟨g5, g7, A2, c2, Lib.hid ad.out, Lib.hid (gd_size.trans az.out), Lib.hid (fun k hk => (gd_ne (by rintro rfl; exact hk (by decide))).trans (af.out k hk)), gdI h0, fun _ => gd_eq (by rw [az.out, sz00]; decide), gdI h2, gdI h3, gdI h4, gdI h5, gdI h6, gdI h7, gdI h8, gdI h9, gdI h10, giI c2_1, giI c3_2, giI c4_3, giI c6_5, giI c7_6, giI c8_4, giI c8_7, giI c9_0, giI c10_9, giI c11_8, giI c11_10, fun n11 => (hK1 (fun z => n11 (.inr z))), fun n8 n11 => (hO (fun z => n8 (.inr z)) (fun z => n11 (.inr z))), fun p5 n8 n11 => (hB5 (rlI p5) (fun z => n8 (.inr z)) (fun z => n11 (.inr z))), fun p7 n8 n11 => (hB7 (rlI p7) (fun z => n8 (.inr z)) (fun z => n11 (.inr z))), fun p8 n11 => absurd (c2_1 (c3_2 (c4_3 (c8_4 (rlI p8))))) hn, fun p11 => absurd (c2_1 (c3_2 (c4_3 (c8_4 (c11_8 (rlI p11)))))) hn⟩
        | 2, ho =>
          injection ho with ho; subst ho
          have nb8 : ¬ b 8 := fun h => hn (c3_2 (c4_3 (c8_4 h)))
          have nb11 : ¬ b 11 := fun h => hn (c3_2 (c4_3 (c8_4 (c11_8 h))))
          have d1 : b 1 := hd ⟨1, .data⟩ (by simp) rfl
          have HK := Lib.hid hK
          have e1 := h1 d1
          obtain ⟨ev1, ew1⟩ := ev_of e1
          clear hK hd
          rw [if_pos (by rfl)]
          go_simp
          exact HK.out _ _ ⟨g5, g7, A2, c2, Lib.hid ad.out, Lib.hid (gd_size.trans az.out), Lib.hid (fun k hk => (gd_ne (by rintro rfl; exact hk (by decide))).trans (af.out k hk)), gdI h0, gdI h1, fun _ => gd_eq (by rw [az.out, sz00]; decide), gdI h3, gdI h4, gdI h5, gdI h6, gdI h7, gdI h8, gdI h9, gdI h10, fun _ => .inr d1, giI c3_2, giI c4_3, giI c6_5, giI c7_6, giI c8_4, giI c8_7, giI c9_0, giI c10_9, giI c11_8, giI c11_10, fun n11 => (hK1 (fun z => n11 (.inr z))), fun n8 n11 => (hO (fun z => n8 (.inr z)) (fun z => n11 (.inr z))), fun p5 n8 n11 => (hB5 (rlI p5) (fun z => n8 (.inr z)) (fun z => n11 (.inr z))), fun p7 n8 n11 => (hB7 (rlI p7) (fun z => n8 (.inr z)) (fun z => n11 (.inr z))), fun p8 n11 => absurd (c3_2 (c4_3 (c8_4 (rlI p8)))) hn, fun p11 => absurd (c3_2 (c4_3 (c8_4 (c11_8 (rlI p11))))) hn⟩
        | 3, ho =>
          injection ho with ho; subst ho
          have nb8 : ¬ b 8 := fun h => hn (c4_3 (c8_4 h))
          have nb11 : ¬ b 11 := fun h => hn (c4_3 (c8_4 (c11_8 h)))
          have d2 : b 2 := hd ⟨2, .data⟩ (by simp) rfl
          have HK := Lib.hid hK
          have e2 := h2 d2
          obtain ⟨ev2, ew2⟩ := ev_of e2
          clear hK hd
          rw [if_pos (by rfl)]
          go_simp
          exact HK.out _ _ ⟨g5, g7, A2, c2, Lib.hid ad.out, Lib.hid (gd_size.trans az.out), Lib.hid (fun k hk => (gd_ne (by rintro rfl; exact hk (by decide))).trans (af.out k hk)), gdI h0, gdI h1, gdI h2, fun _ => gd_eq (by rw [az.out, sz00]; decide), gdI h4, gdI h5, gdI h6, gdI h7, gdI h8, gdI h9, gdI h10, giI c2_1, fun _ => .inr d2, giI c4_3, giI c6_5, giI c7_6, giI c8_4, giI c8_7, giI c9_0, giI c10_9, giI c11_8, giI c11_10, fun n11 => (hK1 (fun z => n11 (.inr z))), fun n8 n11 => (hO (fun z => n8 (.inr z)) (fun z => n11 (.inr z))), fun p5 n8 n11 => (hB5 (rlI p5) (fun z => n8 (.inr z)) (fun z => n11 (.inr z))), fun p7 n8 n11 => (hB7 (rlI p7) (fun z => n8 (.inr z)) (fun z => n11 (.inr z))), fun p8 n11 => absurd (c4_3 (c8_4 (rlI p8))) hn, fun p11 => absurd (c4_3 (c8_4 (c11_8 (rlI p11)))) hn⟩
        | 4, ho =>
          injection ho with ho; subst ho
          have nb8 : ¬ b 8 := fun h => hn (c8_4 h)
          have nb11 : ¬ b 11 := fun h => hn (c8_4 (c11_8 h))
          have d3 : b 3 := hd ⟨3, .data⟩ (by simp) rfl
          have HK := Lib.hid hK
          have e3 := h3 d3
          obtain ⟨ev3, ew3⟩ := ev_of e3
          have q := (hM.out.dd.kp (hK1 nb11).out (fun hm => Nat.lt_irrefl _ (hM.out.f0 _ hm).1)).cell 0
          simp only [List.getElem?_cons_zero, List.getElem?_cons_succ] at q
          clear hK hd
          rw [if_pos (by rfl)]
          go_simp
          exact HK.out _ _ ⟨g5, g7, A2, c2, Lib.hid ad.out, Lib.hid (gd_size.trans az.out), Lib.hid (fun k hk => (gd_ne (by rintro rfl; exact hk (by decide))).trans (af.out k hk)), gdI h0, gdI h1, gdI h2, gdI h3, fun _ => gd_eq (by rw [az.out, sz00]; decide), gdI h5, gdI h6, gdI h7, gdI h8, gdI h9, gdI h10, giI c2_1, giI c3_2, fun _ => .inr d3, giI c6_5, giI c7_6, giI c8_4, giI c8_7, giI c9_0, giI c10_9, giI c11_8, giI c11_10, fun n11 => (hK1 (fun z => n11 (.inr z))), fun n8 n11 => (hO (fun z => n8 (.inr z)) (fun z => n11 (.inr z))), fun p5 n8 n11 => (hB5 (rlI p5) (fun z => n8 (.inr z)) (fun z => n11 (.inr z))), fun p7 n8 n11 => (hB7 (rlI p7) (fun z => n8 (.inr z)) (fun z => n11 (.inr z))), fun p8 n11 => absurd (c8_4 (rlI p8)) hn, fun p11 => absurd (c8_4 (c11_8 (rlI p11))) hn⟩
        | 5, ho =>
          injection ho with ho; subst ho
          have nb8 : ¬ b 8 := fun h => hn (c6_5 (c7_6 (c8_7 h)))
          have nb11 : ¬ b 11 := fun h => hn (c6_5 (c7_6 (c8_7 (c11_8 h))))
          have HK := Lib.hid hK
          have hmk := HMK.out W
          clear hK hd
          rw [if_pos (by rfl)]
          go_simp
          exact HK.out _ _ ⟨W.heap.size, g7, A2, c2, Lib.hid ad.out, Lib.hid (gd_size.trans az.out), Lib.hid (fun k hk => (gd_ne (by rintro rfl; exact hk (by decide))).trans (af.out k hk)), gdI h0, gdI h1, gdI h2, gdI h3, gdI h4, fun _ => gd_eq (by rw [az.out, sz00]; decide), gdI h6, gdI h7, gdI h8, gdI h9, gdI h10, giI c2_1, giI c3_2, giI c4_3, giI c6_5, giI c7_6, giI c8_4, giI c8_7, giI c9_0, giI c10_9, giI c11_8, giI c11_10, fun n11 => Lib.hid ((((hK1 (fun z => n11 (.inr z))).out).thn ((Kp.refl [] W).alloc _) (by simp))), fun n8 n11 => Lib.hid (⟨((hO (fun z => n8 (.inr z)) (fun z => n11 (.inr z))).out).1.kp ((Kp.refl [] W).alloc _) (by simp), ((hO (fun z => n8 (.inr z)) (fun z => n11 (.inr z))).out).2.trans ((Kp.refl [] W).alloc _)⟩), fun p5 n8 n11 => Lib.hid (⟨(hO nb8 nb11).out.2.size, (Bk.newAt rfl _ _).cast HE.out⟩), fun p7 n8 n11 => absurd (c6_5 (c7_6 (rlI p7))) hn, fun p8 n11 => absurd (c6_5 (c7_6 (c8_7 (rlI p8)))) hn, fun p11 => absurd (c6_5 (c7_6 (c8_7 (c11_8 (rlI p11))))) hn⟩
        | 6, ho =>
          injection ho with ho; subst ho
          have nb8 : ¬ b 8 := fun h => hn (c7_6 (c8_7 h))
          have nb11 : ¬ b 11 := fun h => hn (c7_6 (c8_7 (c11_8 h)))
          have d5 : b 5 := hd ⟨5, .data⟩ (by simp) rfl
          have HK := Lib.hid hK
          have e5 := h5 d5
          obtain ⟨ev5, ew5⟩ := ev_of e5
          have hcv := conv_bs (c := 256) (n := 256) (N := []) (l := zB) (Rd.of_bk (hB5 d5 nb8 nb11).out.2 (by simp)) rfl
          clear hK hd
          rw [if_pos (by rfl)]
          go_simp
          exact HK.out _ _ ⟨g5, g7, A2, c2, Lib.hid ad.out, Lib.hid (gd_size.trans az.out), Lib.hid (fun k hk => (gd_ne (by rintro rfl; exact hk (by decide))).trans (af.out k hk)), gdI h0, gdI h1, gdI h2, gdI h3, gdI h4, gdI h5, fun _ => gd_eq (by rw [az.out, sz00]; decide), gdI h7, gdI h8, gdI h9, gdI h10, giI c2_1, giI c3_2, giI c4_3, fun _ => .inr d5, giI c7_6, giI c8_4, giI c8_7, giI c9_0, giI c10_9, giI c11_8, giI c11_10, fun n11 => (hK1 (fun z => n11 (.inr z))), fun n8 n11 => (hO (fun z => n8 (.inr z)) (fun z => n11 (.inr z))), fun p5 n8 n11 => (hB5 (rlI p5) (fun z => n8 (.inr z)) (fun z => n11 (.inr z))), fun p7 n8 n11 => absurd (c7_6 (rlI p7)) hn, fun p8 n11 => absurd (c7_6 (c8_7 (rlI p8))) hn, fun p11 => absurd (c7_6 (c8_7 (c11_8 (rlI p11)))) hn⟩
        | 7, ho =>
          injection ho with ho; subst ho
          have nb8 : ¬ b 8 := fun h => hn (c8_7 h)
          have nb11 : ¬ b 11 := fun h => hn (c8_7 (c11_8 h))
          have d6 : b 6 := hd ⟨6, .data⟩ (by simp) rfl
          have HK := Lib.hid hK
          have e6 := h6 d6
          obtain ⟨ev6, ew6⟩ := ev_of e6
          clear hK hd
          rw [if_pos (by rfl)]
          go_simp
          exact HK.out _ _ ⟨g5, W.heap.size, A2, c2, Lib.hid ad.out, Lib.hid (gd_size.trans az.out), Lib.hid (fun k hk => (gd_ne (by rintro rfl; exact hk (by decide))).trans (af.out k hk)), gdI h0, gdI h1, gdI h2, gdI h3, gdI h4, gdI h5, gdI h6, fun _ => gd_eq (by rw [az.out, sz00]; decide), gdI h8, gdI h9, gdI h10, giI c2_1, giI c3_2, giI c4_3, giI c6_5, fun _ => .inr d6, giI c8_4, giI c8_7, giI c9_0, giI c10_9, giI c11_8, giI c11_10, fun n11 => Lib.hid ((((hK1 (fun z => n11 (.inr z))).out).thn ((Kp.refl [] W).alloc _) (by simp))), fun n8 n11 => Lib.hid (⟨((hO (fun z => n8 (.inr z)) (fun z => n11 (.inr z))).out).1.kp ((Kp.refl [] W).alloc _) (by simp), ((hO (fun z => n8 (.inr z)) (fun z => n11 (.inr z))).out).2.trans ((Kp.refl [] W).alloc _)⟩), fun p5 n8 n11 => Lib.hid (⟨((hB5 (rlI p5) (fun z => n8 (.inr z)) (fun z => n11 (.inr z))).out).1, ((hB5 (rlI p5) (fun z => n8 (.inr z)) (fun z => n11 (.inr z))).out).2.kp ((Kp.refl [] W).alloc _) (by simp)⟩), fun p7 n8 n11 => Lib.hid (⟨(hO nb8 nb11).out.2.size, (Bk.newAt rfl _ _).cast rfl⟩), fun p8 n11 => absurd (c8_7 (rlI p8)) hn, fun p11 => absurd (c8_7 (c11_8 (rlI p11))) hn⟩
        | 8, ho =>
          injection ho with ho; subst ho
          have nb8 := hn
          have nb11 : ¬ b 11 := fun h => hn (c11_8 h)
          have d4 : b 4 := hd ⟨4, .data⟩ (by simp) rfl
          have d7 : b 7 := hd ⟨7, .data⟩ (by simp) rfl
          have HK := Lib.hid hK
          have e4 := h4 d4
          obtain ⟨ev4, ew4⟩ := ev_of e4
          have e7 := h7 d7
          obtain ⟨ev7, ew7⟩ := ev_of e7
          clear hK hd
          rw [if_pos (by rfl)]
          refine wp_app _ (.tmp 16) (.tmp 19) _ rfl elt_str A0 k c0 _ ev4 (hO hn nb11).out.1 [] (some ⟨g7, 0, none⟩) 1 1 [.string (S zB)] ev7 (Rd.of_bk (hB7 d7 hn nb11).out.2 (by simp)) rfl (by simp [Value.oneCell']) (by omega) (fun A2' c2' w2' ho2 hk2 hA2 => ?_)
          have ho2 := Lib.hid ho2
          exact HK.out _ _ ⟨g5, g7, A2', c2', Lib.hid ad.out, Lib.hid (gd_size.trans az.out), Lib.hid (fun k hk => (gd_ne (by rintro rfl; exact hk (by decide))).trans (af.out k hk)), gdI h0, gdI h1, gdI h2, gdI h3, gdI h4, gdI h5, gdI h6, gdI h7, fun _ => gd_eq (by rw [az.out, sz00]; decide), gdI h9, gdI h10, giI c2_1, giI c3_2, giI c4_3, giI c6_5, giI c7_6, fun _ => .inr d4, fun _ => .inr d7, giI c9_0, giI c10_9, giI c11_8, giI c11_10, fun n11 => Lib.hid ((hK1 nb11).out.thn hk2 (fun s hs => .inl hs)), fun  z _ => absurd (.inl rfl) z, fun _ z _ => absurd (.inl rfl) z, fun _ z _ => absurd (.inl rfl) z, fun p8 n11 => Lib.hid (⟨ho2.out.cast rfl (zS_succ k), by rcases hA2 with rfl | rfl; exact .inl rfl; exact .inr (fun b hb => by simp [bks] at hb; have := (hK1 nb11).out.size; omega)⟩), fun p11 => Lib.hid (absurd (c11_8 (rlI p11)) hn)⟩
        | 9, ho =>
          injection ho with ho; subst ho
          have nb11 : ¬ b 11 := fun h => hn (c10_9 (c11_10 h))
          have d0 : b 0 := hd ⟨0, .data⟩ (by simp) rfl
          have HK := Lib.hid hK
          have e0 := h0 d0
          obtain ⟨ev0, ew0⟩ := ev_of e0
          clear hK hd
          rw [if_pos (by rfl)]
          go_simp
          exact HK.out _ _ ⟨g5, g7, A2, c2, Lib.hid ad.out, Lib.hid (gd_size.trans az.out), Lib.hid (fun k hk => (gd_ne (by rintro rfl; exact hk (by decide))).trans (af.out k hk)), gdI h0, gdI h1, gdI h2, gdI h3, gdI h4, gdI h5, gdI h6, gdI h7, gdI h8, fun _ => gd_eq (by rw [az.out, sz00]; decide), gdI h10, giI c2_1, giI c3_2, giI c4_3, giI c6_5, giI c7_6, giI c8_4, giI c8_7, fun _ => .inr d0, giI c10_9, giI c11_8, giI c11_10, fun n11 => (hK1 (fun z => n11 (.inr z))), fun n8 n11 => (hO (fun z => n8 (.inr z)) (fun z => n11 (.inr z))), fun p5 n8 n11 => (hB5 (rlI p5) (fun z => n8 (.inr z)) (fun z => n11 (.inr z))), fun p7 n8 n11 => (hB7 (rlI p7) (fun z => n8 (.inr z)) (fun z => n11 (.inr z))), fun p8 n11 => (hF (rlI p8) (fun z => n11 (.inr z))), fun p11 => absurd (c10_9 (c11_10 (rlI p11))) hn⟩
        | 10, ho =>
          injection ho with ho; subst ho
          have nb11 : ¬ b 11 := fun h => hn (c11_10 h)
          have d9 : b 9 := hd ⟨9, .data⟩ (by simp) rfl
          have HK := Lib.hid hK
          have e9 := h9 d9
          obtain ⟨ev9, ew9⟩ := ev_of e9
          clear hK hd
          rw [if_pos (by rfl)]
          go_simp
          exact HK.out _ _ ⟨g5, g7, A2, c2, Lib.hid ad.out, Lib.hid (gd_size.trans az.out), Lib.hid (fun k hk => (gd_ne (by rintro rfl; exact hk (by decide))).trans (af.out k hk)), gdI h0, gdI h1, gdI h2, gdI h3, gdI h4, gdI h5, gdI h6, gdI h7, gdI h8, gdI h9, fun _ => gd_eq (by rw [az.out, sz00]; decide), giI c2_1, giI c3_2, giI c4_3, giI c6_5, giI c7_6, giI c8_4, giI c8_7, giI c9_0, fun _ => .inr d9, giI c11_8, giI c11_10, fun n11 => (hK1 (fun z => n11 (.inr z))), fun n8 n11 => (hO (fun z => n8 (.inr z)) (fun z => n11 (.inr z))), fun p5 n8 n11 => (hB5 (rlI p5) (fun z => n8 (.inr z)) (fun z => n11 (.inr z))), fun p7 n8 n11 => (hB7 (rlI p7) (fun z => n8 (.inr z)) (fun z => n11 (.inr z))), fun p8 n11 => (hF (rlI p8) (fun z => n11 (.inr z))), fun p11 => absurd (c11_10 (rlI p11)) hn⟩
        | 11, ho =>
          injection ho with ho; subst ho
          have nb11 := hn
          have d8 : b 8 := hd ⟨8, .data⟩ (by simp) rfl
          have d10 : b 10 := hd ⟨10, .data⟩ (by simp) rfl
          have HK := Lib.hid hK
          have e8 := h8 d8
          obtain ⟨ev8, ew8⟩ := ev_of e8
          have e10 := h10 d10
          obtain ⟨ev10, ew10⟩ := ev_of e10
          have zb := (hM.out.dd.kp (hK1 hn).out (fun hm => Nat.lt_irrefl _ (hM.out.f0 _ hm).1))
          have zl := zb.lt
          have zf := zb.frozen 0
          have zc := zb.cell 0
          simp only [List.getElem?_cons_zero, List.getElem?_cons_succ] at zc
          clear hK hd
          rw [if_pos (by rfl)]
          go_simp
          exact HK.out _ _ ⟨g5, g7, A2, c2, ad, az, af, fun h => h0 (rlI h), fun h => h1 (rlI h), fun h => h2 (rlI h), fun h => h3 (rlI h), fun h => h4 (rlI h), fun h => h5 (rlI h), fun h => h6 (rlI h), fun h => h7 (rlI h), fun h => h8 (rlI h), fun h => h9 (rlI h), fun h => h10 (rlI h), giI c2_1, giI c3_2, giI c4_3, giI c6_5, giI c7_6, giI c8_4, giI c8_7, giI c9_0, giI c10_9, fun _ => .inr d8, fun _ => .inr d10, fun  z => absurd (.inl rfl) z, fun  _ z => absurd (.inl rfl) z, fun _ _ z => absurd (.inl rfl) z, fun _ _ z => absurd (.inl rfl) z, fun _ z => absurd (.inl rfl) z, fun p11 => Lib.hid (⟨W, (hK1 hn).out, (hF d8 hn).out.1, (hF d8 hn).out.2, rfl⟩)⟩
        | (n + 12), ho => exact absurd ho (by simp)
      · intro b a' W hb hI
        obtain ⟨g5, g7, A2, c2, ad, az, af, h0, h1, h2, h3, h4, h5, h6, h7, h8, h9, h10, c2_1, c3_2, c4_3, c6_5, c7_6, c8_4, c8_7, c9_0, c10_9, c11_8, c11_10, hK1, hO, hB5, hB7, hF, hFin⟩ := hI
        clear hK1
        clear hO
        clear hB5
        clear hB7
        clear hF
        have hFin := hFin (hb 11 (by decide))
        have ha := act_of (L := [(12, .pointer (some ⟨g, 0, none⟩)), (13, .pointer (some ⟨g, 0, none⟩)), (14, .pointer (some ⟨g, 0, none⟩)), (15, .pointer (some ⟨g, 0, none⟩)), (16, .slice A0 k c0), (17, .slice (some ⟨g5, 0, none⟩) 256 256), (18, .string (S zB)), (19, .slice (some ⟨g7, 0, none⟩) 1 1), (20, .slice A2 (k + 1) c2), (21, .pointer (some ⟨g, 0, none⟩)), (22, .pointer (some ⟨g, 0, none⟩))]) (show ([12, 13, 14, 15, 16, 17, 18, 19, 20, 21, 22] : List Nat).Nodup by decide) ad.out az.out af.out (by
          intro p hp
          rw [sz00]
          simp only [List.mem_cons, List.not_mem_nil, or_false] at hp
          rcases hp with rfl | rfl | rfl | rfl | rfl | rfl | rfl | rfl | rfl | rfl | rfl
          · exact ⟨show 12 < 33 by decide, h0 (hb 0 (by decide))⟩
          · exact ⟨show 13 < 33 by decide, h1 (hb 1 (by decide))⟩
          · exact ⟨show 14 < 33 by decide, h2 (hb 2 (by decide))⟩
          · exact ⟨show 15 < 33 by decide, h3 (hb 3 (by decide))⟩
          · exact ⟨show 16 < 33 by decide, h4 (hb 4 (by decide))⟩
          · exact ⟨show 17 < 33 by decide, h5 (hb 5 (by decide))⟩
          · exact ⟨show 18 < 33 by decide, h6 (hb 6 (by decide))⟩
          · exact ⟨show 19 < 33 by decide, h7 (hb 7 (by decide))⟩
          · exact ⟨show 20 < 33 by decide, h8 (hb 8 (by decide))⟩
          · exact ⟨show 21 < 33 by decide, h9 (hb 9 (by decide))⟩
          · exact ⟨show 22 < 33 by decide, h10 (hb 10 (by decide))⟩
          )
        rw [HA00.out] at ha
        simp only [List.foldl_cons, List.foldl_nil, Act.put, List.setIfInBounds_toArray, List.set_cons_zero, List.set_cons_succ] at ha
        clear h0 h1 h2 h3 h4 h5 h6 h7 h8 h9 h10 c2_1 c3_2 c4_3 c6_5 c7_6 c8_4 c8_7 c9_0 c10_9 c11_8 c11_10 hb ad az af HA00 sz00 sl3
        subst ha
        obtain ⟨W9, z1, z2, z3, rfl⟩ := hFin.out
        obtain ⟨y1, y2, y3, y4, y5⟩ := hM.out.put0 z1 z2 z3
        have Y1 := Lib.hid y1
        have Y2 := Lib.hid y2
        have Y3 := Lib.hid y3
        have Y4 := Lib.hid y4
        have Y5 := Lib.hid y5
        have HF1 := Lib.hid hM.out.f1
        clear hFin z1 z2 z3 y1 y2 y3 y4 y5 hM
        generalize W9.setCell ⟨g, 0, none⟩ (.slice A2 (k + 1) c2) = w6 at *
        have q0 := Y2.out.cell 1
        simp only [List.getElem?_cons_zero, List.getElem?_cons_succ] at q0
        have q1 := fun o => (Y2.out.alloc o).cell 1
        simp only [List.getElem?_cons_zero, List.getElem?_cons_succ] at q1
        go_wp2_with (at_builtin; refine wpList_app _ rfl (.tmp 27) (.tmp 28) _ rfl elt_int A1 k c1 _ rfl (Y4.out.alloc _) [] (some ⟨w6.heap.size, 0, none⟩) 1 1 [.int .i64 0] rfl (Rd.of_bk (Bk.newAt rfl _ _) (by simp)) rfl (by simp [Value.oneCell']) (by omega) ?_; intro A7 d1 w7 ho7 hk7 hA7; have hb7 := (Y2.out.alloc (.cells #[.int .i64 0] 3)).kp hk7 (fun hm => Nat.lt_irrefl _ (HF1.out _ hm)); have z7 := hb7.frozen 1; have y7 := hb7.cell 1; simp only [List.getElem?_cons_zero, List.getElem?_cons_succ] at y7)
        exact ⟨⟨k + 1, A2, A7, c2, d1, by omega, by go_num, Lib.hid (Mn.put1 Y1.out Y2.out hgw Y3.out Y5.out HF1.out (((Kp.refl (bks A1) w6).alloc (.cells #[.int .i64 0] 3)).thn hk7 (fun s hs => .inl hs)) (ho7.cast rfl (zI_succ k)) (hA7.imp id (fun h => by rw [h]; intro b hb; simp [bks] at hb; omega)))⟩, by simp [intOf]; omega⟩
    · obtain rfl : k = n := by omega
      have HN := Lib.hid hM.out
      clear hM
      by_cases h0 : k = 0
      · go_wp2
        exact H.out g w.heap.size (w.heap.size + 1) _ hgw (Nat.le_refl _) (by omega) (by omega) HN.out.kp (.inl h0)
      · obtain ⟨gb, hA0, tb⟩ := HN.out.o0.tw (by omega)
        obtain ⟨gq, hA1, tq⟩ := HN.out.o1.tw (by omega)
        subst hA0; subst hA1
        have n0 := HN.out.f0 gb (by simp [bks])
        have n1 := HN.out.f1 gq (by simp [bks])
        have TB := Lib.hid tb
        have TO := Lib.hid tq
        clear tb tq
        go_wp2
        refine H.out g gb gq _ hgw (by omega) (by omega) (by have := n0.2; simpa [bks] using this) HN.out.kp (.inr ⟨⟨c0, c1, HN.out.dd.cast (by simp [dz, leftM])⟩, TB.out.cast (by simp [dz, zS, sV, zB_eq]), TO.out.cast ?_, Nb.nil, by omega, dz_ok h2⟩)
        simp [dz, zI, ints]
end
end
/-! ### Scopes with any labels; filter.Run in plain words; filter.load walked. -/
section
open Go.RowKit Go.Shelf
set_option linter.unusedVariables false
set_option linter.unusedSimpArgs false
set_option maxRecDepth 100000
/-- As Q; by a goto to l: J l. -/
def Exit.jumps (J : Nat → Act → World → Prop) (Q : Exit → Act → World → Prop) : Exit → Act → World → Prop
  | .goto l, a, w => J l a w
  | e, a, w => Q e a w
/-- A number of a packet. -/
def fload (s : List UInt8) (at_ wd : Nat) : Option Nat := if s.length < at_ + wd then none else some (((s.drop at_).take wd).foldl (fun n c => n * 256 + c.toNat) 0)
/-- A program on a packet: the number. -/
def frun (s : List UInt8) (p : List FOp) : Nat → Nat → Nat → Nat
  | 0, _, _ => 0
  | f + 1, i, a => match p[i]? with
    | none => 0
    | some o => if o.c = 0 ∨ o.c = 1 ∨ o.c = 2 then match fload s o.k.toNat (2 ^ o.c.toNat) with
        | none => 0
        | some v => frun s p f (i + 1) v
      else if o.c = 3 then frun s p f (i + 1) (a &&& o.k.toNat)
      else if o.c = 4 then frun s p f (i + 1) (a >>> o.k.toNat)
      else if o.c = 5 then frun s p f (i + 1 + (if (a : Int) = o.k then o.t else o.f).toNat) a
      else if o.c = 6 then frun s p f (i + 1 + (if o.k < a then o.t else o.f).toNat) a
      else if o.c = 7 then o.k.toNat
      else a
def frunP (s : List UInt8) (p : List FOp) : Nat := frun s p p.length 0 0
section
variable {R : Ending → World → Prop} {w : World}
def ldV : Option Nat → Value
  | none => .tuple #[.int .u32 0, .bool false]
  | some v => .tuple #[.int .u32 v, .bool true]
end
end
/-! ### filter.Run walked. -/
section
open Go.RowKit Go.Shelf
set_option linter.unusedVariables false
set_option linter.unusedSimpArgs false
set_option maxRecDepth 100000
def frB (o : FOp) (av : Nat) : Bool := if o.c = 5 then ((av : Int) == o.k) else decide (o.k < av)
def frN (o : FOp) (b : Bool) : Nat := (if b then o.t else o.f).toNat
structure RnI (w w' : World) (bx : Nat) (o : FOp) : Prop where
  kp : Kp [] w w'
  hb : w.heap.size ≤ bx
  bk : Bk w' bx 128 o.vals
def RnJ (w : World) (v0 v1 : Value) (p : List FOp) (s : List UInt8) : Nat → Act → World → Prop
  | 0, a, w' => ∃ (bx k av f : Nat) (isv okv : Value) (o : FOp), Hid (RnI w w' bx o) ∧ k < p.length ∧ av ≤ 4294967295 ∧ p.length ≤ f + k ∧ Hid (frun s p f k av = frunP s p) ∧ (∀ C : Act → Prop, (∀ (u11 u12 u13 u14 u15 u16 u17 u18 u19 u20 u21 u22 u23 u24 u25 u26 u27 u28 u29 u30 u31 u32 u33 u34 u35 u36 u37 u38 u39 u40 u41 u42 u43 u44 u45 u46 u47 u48 u49 u50 u51 u52 u53 u54 u55 u56 u57 u58 u59 u60 u61 u62 u63 u64 u65 u66 u67 u68 u69 u70 u71 u72 u73 u74 u75 u76 u77 u78 : Value), C { tmps := #[v0, v1, undef, undef, .int .u32 0, .int .i64 0, .int .u32 av, .pointer (some ⟨bx, 0, none⟩), isv, okv, .int .i64 k, u11, u12, u13, u14, u15, u16, u17, u18, u19, u20, u21, u22, u23, u24, u25, u26, u27, u28, u29, u30, u31, u32, u33, u34, u35, u36, u37, u38, u39, u40, u41, u42, u43, u44, u45, u46, u47, u48, u49, u50, u51, u52, u53, u54, u55, u56, u57, u58, u59, u60, u61, u62, u63, u64, u65, u66, u67, u68, u69, u70, u71, u72, u73, u74, u75, u76, u77, u78], defers := [] }) → C a)
  | 1, a, w' => ∃ (bx k av f : Nat) (b : Bool) (okv : Value) (o : FOp), Hid (RnI w w' bx o) ∧ av ≤ 4294967295 ∧ 0 ≤ o.t ∧ 0 ≤ o.f ∧ k + 1 + frN o true < p.length ∧ k + 1 + frN o false < p.length ∧ p.length ≤ f + (k + 1) ∧ Hid (frun s p f (k + 1 + frN o b) av = frunP s p) ∧ (∀ C : Act → Prop, (∀ (u11 u12 u13 u14 u15 u16 u17 u18 u19 u20 u21 u22 u23 u24 u25 u26 u27 u28 u29 u30 u31 u32 u33 u34 u35 u36 u37 u38 u39 u40 u41 u42 u43 u44 u45 u46 u47 u48 u49 u50 u51 u52 u53 u54 u55 u56 u57 u58 u59 u60 u61 u62 u63 u64 u65 u66 u67 u68 u69 u70 u71 u72 u73 u74 u75 u76 u77 u78 : Value), C { tmps := #[v0, v1, undef, undef, .int .u32 0, .int .i64 0, .int .u32 av, .pointer (some ⟨bx, 0, none⟩), .bool b, okv, .int .i64 (k + 1 : Nat), u11, u12, u13, u14, u15, u16, u17, u18, u19, u20, u21, u22, u23, u24, u25, u26, u27, u28, u29, u30, u31, u32, u33, u34, u35, u36, u37, u38, u39, u40, u41, u42, u43, u44, u45, u46, u47, u48, u49, u50, u51, u52, u53, u54, u55, u56, u57, u58, u59, u60, u61, u62, u63, u64, u65, u66, u67, u68, u69, u70, u71, u72, u73, u74, u75, u76, u77, u78], defers := [] }) → C a)
  | _, _, _ => False
def RnM (n : Nat) (l : Nat) (a : Act) (w : World) : Nat := 2 * (n - (intOf (a.tmps.getD 10 undef)).toNat) + l
section
variable {R : Ending → World → Prop} {w : World}
end
end
end Go.Proofs.YtedblbpmlbjnhaaGreat
