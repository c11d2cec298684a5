/- RangesAll walked. -/
import Derived.Test.YtcbmiidffcbikaaDoorRngP
import Derived.Test.YtcbmiidffcbikaaDoorDig
import Derived.BigQuiet
namespace Go.Proofs.YtcbmiidffcbikaaDoor
open Go.RowKit Go.Shelf
set_option linter.unusedVariables false
set_option linter.unusedSimpArgs false
set_option maxRecDepth 100000

theorem parse_some {R : Ending → World → Prop} (l : List UInt8) (n : Int) (zs : List (Int × Int)) (w : World) (hv : parseM l n = some zs) (hl : l.length ≤ 100000) (hn : n ≤ 35184372088832) (hn0 : 0 ≤ n) (hm : Ml w)
    (h : ∀ A c w', Ow w' 31 2 A zs.length c (zs.flatMap spV) → (∀ b ∈ bks A, w.heap.size ≤ b) → Kp [] w w' → R (.returned (.tuple #[.slice A zs.length c, .bool true])) w') :
    Calls Tryd.prog 12 #[.string (S l), .int .i64 n] w R :=
  parse_any l n w hl hn (by omega) hm (fun w' e _ => by rw [e.out] at hv; cases hv) (fun zs' A c w' e h1 h2 h3 => by rw [e.out] at hv; cases hv; exact h A c w' h1 h2 h3)
theorem parse_none {R : Ending → World → Prop} (l : List UInt8) (n : Int) (w : World) (hv : parseM l n = none) (hl : l.length ≤ 100000) (hn : n ≤ 35184372088832) (hn0 : -9223372036854775808 ≤ n) (hm : Ml w)
    (h : ∀ w', Kp [] w w' → R (.returned (.tuple #[.slice none 0 0, .bool false])) w') :
    Calls Tryd.prog 12 #[.string (S l), .int .i64 n] w R :=
  parse_any l n w hl hn hn0 hm (fun w' _ k => h w' k) (fun zs' A c w' e _ _ _ => by rw [e.out] at hv; cases hv)
theorem span_cells {w : World} {A : Option Addr} {c : Nat} {zs : List (Int × Int)} (ho : Ow w 31 2 A zs.length c (zs.flatMap spV)) (hn : 0 < zs.length) :
    ∃ g, A = some ⟨g, 0, none⟩ ∧ g < w.heap.size ∧ ∀ i z, zs[i]? = some z → w.cell? ⟨g, i * 2, none⟩ = some (.int .i64 z.1) ∧ w.cell? ⟨g, i * 2 + 1, none⟩ = some (.int .i64 z.2) := by
  obtain ⟨g, rfl, hg⟩ := ho.form hn
  refine ⟨g, rfl, hg, fun i z hz => ?_⟩
  obtain ⟨b, off, hb, _, _, hc⟩ := rd_at (F := spV) (K := 2) (ho.rd (N := []) (by simp)) (fun _ => rfl) (by omega) hz
  injection hb with hb
  injection hb with h1 h2
  subst h1; subst h2
  have q0 := hc 0 _ rfl
  have q1 := hc 1 _ rfl
  simp only [Nat.zero_add, Nat.add_zero] at q0 q1
  exact ⟨q0, q1⟩
theorem ex1 : parseM [98, 121, 116, 101, 115, 61, 48, 45, 48, 44, 45, 49] 10 = some [(0, 1), (9, 1)] := by decide +kernel
theorem ex2 : parseM [98, 121, 116, 101, 115, 61, 120] 10 = none := by decide +kernel
theorem ex1_call {R : Ending → World → Prop} (w : World) (hm : Ml w)
    (h : ∀ g c w', g < w'.heap.size → w'.cell? ⟨g, 0, none⟩ = some (.int .i64 0) → w'.cell? ⟨g, 1, none⟩ = some (.int .i64 1) → w'.cell? ⟨g, 2, none⟩ = some (.int .i64 9) → w'.cell? ⟨g, 3, none⟩ = some (.int .i64 1) → Kp [] w w' → R (.returned (.tuple #[.slice (some ⟨g, 0, none⟩) 2 c, .bool true])) w') :
    Calls Tryd.prog 12 #[.string ⟨#[98, 121, 116, 101, 115, 61, 48, 45, 48, 44, 45, 49]⟩, .int .i64 10] w R := by
  refine parse_some [98, 121, 116, 101, 115, 61, 48, 45, 48, 44, 45, 49] 10 _ w ex1 (by decide) (by decide) (by decide) hm (fun A c w1 ho hA k1 => ?_)
  obtain ⟨g, rfl, hg, hc⟩ := span_cells ho (by decide)
  obtain ⟨c0, c1⟩ := hc 0 _ rfl
  obtain ⟨c2, c3⟩ := hc 1 _ rfl
  exact h g c w1 hg c0 c1 c2 c3 k1
theorem ex2_call {R : Ending → World → Prop} (w : World) (hm : Ml w) (h : ∀ w', Kp [] w w' → R (.returned (.tuple #[.slice none 0 0, .bool false])) w') :
    Calls Tryd.prog 12 #[.string ⟨#[98, 121, 116, 101, 115, 61, 120]⟩, .int .i64 10] w R :=
  parse_none [98, 121, 116, 101, 115, 61, 120] 10 w ex2 (by decide) (by decide) (by decide) hm h
set_option maxHeartbeats 2000000 in
theorem alive25_any {R : Ending → World → Prop} (w : World) (hm : Ml w) (h : ∀ w', Kp [] w w' → R (.returned (.bool true)) w') : Calls Tryd.prog 11 #[] w R := by
  have H := Lib.hid h
  clear h
  go_enter Tryd.func11, Tryd.ntmps11
  go_wp2_with (first | (go_at_call 12; ((with_reducible refine ex1_call _ hm ?_); intro g c w1 hg c0 c1 c2 c3 k1)) | (go_at_call 12; ((with_reducible refine ex2_call _ (hm.kp k1) ?_); intro w2 k2; have d0 := (k2.cell (p := ⟨g, 0, none⟩) hg (by simp)).trans c0; have d1 := (k2.cell (p := ⟨g, 1, none⟩) hg (by simp)).trans c1; have d2 := (k2.cell (p := ⟨g, 2, none⟩) hg (by simp)).trans c2; have d3 := (k2.cell (p := ⟨g, 3, none⟩) hg (by simp)).trans c3)))
  exact H.out _ (k1.trans k2)
theorem rdigits_int {R : Ending → World → Prop} (v : Int) (N : Nat) (w : World) (hv : v = N) (hN : N ≤ 9223372036854775807) (h : ∀ w', Kp [] w w' → R (.returned (.string (S (decL N)))) w') : Calls Tryd.prog 14 #[.int .i64 v] w R := by
  subst hv; exact rdigits_any N w hN h
set_option maxHeartbeats 4000000 in
theorem rall_walk {R : Ending → World → Prop} (n a : Int) (w : World) (n0 : 0 ≤ n) (n1 : n ≤ 65535) (a0 : 0 ≤ a) (a1 : a ≤ 65535) (hm : Ml w) (h : ∀ w', Kp [] w w' → R (.returned (.bool true)) w') :
    Calls Tryd.prog 4 #[.int .u16 n, .int .u16 a] w R := by
  have H := Lib.hid h
  clear h
  go_enter Tryd.func4, Tryd.ntmps4
  go_upto_region 5 with (go_at_call 11; ((refine alive25_any _ hm ?_); intro w1 k1))
  obtain ⟨N, hN⟩ : ∃ N : Nat, 1 + n = N := ⟨(1 + n).toNat, by omega⟩
  obtain ⟨F, hF⟩ : ∃ F : Nat, a % (1 + n) = F := ⟨(a % (1 + n)).toNat, by have := Int.emod_nonneg a (show 1 + n ≠ 0 by omega); omega⟩
  have hlt : F < N := by have := Int.emod_lt_of_pos a (show 0 < 1 + n by omega); omega
  have hN2 : N ≤ 65536 := by omega
  rw [hF, hN]
  clear hF hN
  have m1 := hm.kp k1
  have kk := Kp.refl [] w1
  have hl1 := decL_len20 (n := F) (by omega)
  have hl2 := decL_len20 (n := N) (by omega)
  have hl3 := decL_len20 (n := N - F) (by omega)
  have hl4 := decL_len20 (n := N - 1) (by omega)
  have hmr : (65536 : Int) ≤ mostR := by decide
  have p1 : parseM (98 :: 121 :: 116 :: 101 :: 115 :: 61 :: (decL F ++ [45])) N = some [((F : Int), (N : Int) - F)] := parse_a (u := [98, 121, 116, 101, 115]) F N (by decide) low_bytes hlt (by omega)
  have p2 : parseM (98 :: 121 :: 116 :: 101 :: 115 :: 61 :: 45 :: decL (N - F)) N = some [((F : Int), (N : Int) - F)] := by
    have h := parse_b (u := [98, 121, 116, 101, 115]) (N - F) N (by decide) low_bytes (by omega) (by omega) (by omega)
    rw [show (N : Int) - ((N - F : Nat) : Int) = F by omega, show ((N - F : Nat) : Int) = (N : Int) - F by omega] at h
    exact h
  have p3 : parseM (98 :: 121 :: 116 :: 101 :: 115 :: 61 :: (decL F ++ 45 :: decL (N - 1))) N = some [((F : Int), (N : Int) - F)] := by
    have h := parse_ab (u := [98, 121, 116, 101, 115]) F (N - 1) N (by decide) low_bytes (by omega) hlt (by omega)
    rw [show min (((N - 1 : Nat) : Int) + 1) (N : Int) = N by omega] at h
    exact h
  have d9 : decL 999999 = [57, 57, 57, 57, 57, 57] := by unfold decL; simp [Lib.decDigits]
  have p4 : parseM (98 :: 121 :: 116 :: 101 :: 115 :: 61 :: (decL F ++ [45, 57, 57, 57, 57, 57, 57])) N = some [((F : Int), (N : Int) - F)] := by
    have h := parse_ab (u := [98, 121, 116, 101, 115]) F 999999 N (by decide) low_bytes (by omega) hlt (by decide)
    rw [show min (((999999 : Nat) : Int) + 1) (N : Int) = N by omega, d9] at h
    exact h
  have p5 : parseM (98 :: 121 :: 116 :: 101 :: 115 :: 61 :: (decL N ++ [45, 44, 45, 48])) N = some [] := by
    have h := parse_0 (u := [98, 121, 116, 101, 115]) N (by decide) low_bytes (by omega)
    rw [List.append_assoc] at h
    exact h
  have P1 := Lib.hid p1
  clear p1
  have P2 := Lib.hid p2
  clear p2
  have P3 := Lib.hid p3
  clear p3
  have P4 := Lib.hid p4
  clear p4
  have P5 := Lib.hid p5
  clear p5
  clear hmr d9
  go_wp2_with (first | (go_at_call 14; ((with_reducible refine rdigits_any F _ (by omega) ?_); intro wd kd; have kk := kk.trans kd)) | (go_at_call 14; ((with_reducible refine rdigits_any N _ (by omega) ?_); intro wd kd; have kk := kk.trans kd)) | (go_at_call 14; ((refine rdigits_int _ (N - F) _ (by omega) (by omega) ?_); intro wd kd; have kk := kk.trans kd)) | (go_at_call 14; ((refine rdigits_int _ (N - 1) _ (by omega) (by omega) ?_); intro wd kd; have kk := kk.trans kd)) | (go_at_call 12; ((with_reducible refine parse_some (98 :: 121 :: 116 :: 101 :: 115 :: 61 :: (decL F ++ [45])) N _ _ P1.out (by simp; omega) (by omega) (by omega) (m1.kp kk) ?_); intro A1 c1 wp1 ho1 hA1 kp1; have j1 := kk.trans kp1; have kk := Kp.refl [] wp1; have m2 := m1.kp j1; have ⟨g1, e1, hg1, hc1⟩ := span_cells ho1 (by simp); subst e1; have ⟨x1, y1⟩ := hc1 0 _ rfl; simp only [Nat.zero_mul, Nat.zero_add] at x1 y1)) | (go_at_call 12; ((with_reducible refine parse_some (98 :: 121 :: 116 :: 101 :: 115 :: 61 :: 45 :: decL (N - F)) N _ _ P2.out (by simp; omega) (by omega) (by omega) (m2.kp kk) ?_); intro A2 c2 wp2 ho2 hA2 kp2; have j2 := kk.trans kp2; have kk := Kp.refl [] wp2; have m3 := m2.kp j2; have ⟨g2, e2, hg2, hc2⟩ := span_cells ho2 (by simp); subst e2; have ⟨x2, y2⟩ := hc2 0 _ rfl; simp only [Nat.zero_mul, Nat.zero_add] at x2 y2)) | (go_at_call 12; ((with_reducible refine parse_some (98 :: 121 :: 116 :: 101 :: 115 :: 61 :: (decL F ++ 45 :: decL (N - 1))) N _ _ P3.out (by simp; omega) (by omega) (by omega) (m3.kp kk) ?_); intro A3 c3 wp3 ho3 hA3 kp3; have j3 := kk.trans kp3; have kk := Kp.refl [] wp3; have m4 := m3.kp j3; have ⟨g3, e3, hg3, hc3⟩ := span_cells ho3 (by simp); subst e3; have ⟨x3, y3⟩ := hc3 0 _ rfl; simp only [Nat.zero_mul, Nat.zero_add] at x3 y3)) | (go_at_call 12; ((with_reducible refine parse_some (98 :: 121 :: 116 :: 101 :: 115 :: 61 :: (decL F ++ [45, 57, 57, 57, 57, 57, 57])) N _ _ P4.out (by simp; omega) (by omega) (by omega) (m4.kp kk) ?_); intro A4 c4 wp4 ho4 hA4 kp4; have j4 := kk.trans kp4; have kk := Kp.refl [] wp4; have m5 := m4.kp j4; have ⟨g4, e4, hg4, hc4⟩ := span_cells ho4 (by simp); subst e4; have ⟨x4, y4⟩ := hc4 0 _ rfl; simp only [Nat.zero_mul, Nat.zero_add] at x4 y4)) | (go_at_call 12; ((with_reducible refine parse_some (98 :: 121 :: 116 :: 101 :: 115 :: 61 :: (decL N ++ [45, 44, 45, 48])) N _ _ P5.out (by simp; omega) (by omega) (by omega) (m5.kp kk) ?_); intro A5 c5 wp5 ho5 hA5 kp5; have j5 := kk.trans kp5; have kk := Kp.refl [] wp5; have m6 := m5.kp j5)))
  have J1 := ((j2.trans j3).trans j4).trans j5
  have J2 := (j3.trans j4).trans j5
  have J3 := j4.trans j5
  have u1 := (J1.cell (p := ⟨g1, 0, none⟩) hg1 (by simp)).trans x1
  have v1 := (J1.cell (p := ⟨g1, 1, none⟩) hg1 (by simp)).trans y1
  have u2 := (J2.cell (p := ⟨g2, 0, none⟩) hg2 (by simp)).trans x2
  have v2 := (J2.cell (p := ⟨g2, 1, none⟩) hg2 (by simp)).trans y2
  have u3 := (J3.cell (p := ⟨g3, 0, none⟩) hg3 (by simp)).trans x3
  have v3 := (J3.cell (p := ⟨g3, 1, none⟩) hg3 (by simp)).trans y3
  have u4 := (j5.cell (p := ⟨g4, 0, none⟩) hg4 (by simp)).trans x4
  have v4 := (j5.cell (p := ⟨g4, 1, none⟩) hg4 (by simp)).trans y4
  have KE := Lib.hid (((k1.trans j1).trans J1))
  clear x1 x2 x3 x4 y1 y2 y3 y4 hc1 hc2 hc3 hc4 ho1 ho2 ho3 ho4 ho5 J1 J2 J3 j1 j2 j3 j4 j5 m1 m2 m3 m4 m5 m6 kk
  go_quiet (fail)
  go_wp2
  exact H.out _ (KE.out.drewN _)
end Go.Proofs.YtcbmiidffcbikaaDoor
