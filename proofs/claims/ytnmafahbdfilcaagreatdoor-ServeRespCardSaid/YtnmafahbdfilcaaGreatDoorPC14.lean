/- civil.Seconds, fields in their bounds. -/
import Derived.Test.YtnmafahbdfilcaaGreatDoorPC13
import Derived.Test.YtnmafahbdfilcaaGreatDoorPC1
import Derived.BigQuiet
namespace Go.Proofs.YtnmafahbdfilcaaGreatDoor
/-! ### civil.Seconds, fields in their bounds. -/
section
open Go.RowKit
set_option linter.unusedVariables false
set_option linter.unusedSimpArgs false
set_option maxRecDepth 100000
section
variable {R : Ending → World → Prop} {w : World}
theorem isDt_of {y m d h mi s wd : Int} (hb : dBd y m d h mi s) {y' m' d' h' mi' s' wd' : Nat} (c : CivN (secN y m d h mi s) y' m' d' h' mi' s' wd') :
    isDt y m d h mi s wd ↔ (y = y' ∧ m = m' ∧ d = d' ∧ h = h' ∧ mi = mi' ∧ s = s' ∧ wd = wd') := by
  constructor
  · rintro ⟨_, h0, c2⟩
    obtain ⟨e1, e2, e3, e4, e5, e6, e7⟩ := civ_uniq c2 c
    obtain ⟨b1, b2, b3, b4, b5, b6, b7, b8, b9, b10, b11, b12⟩ := hb
    refine ⟨by omega, by omega, by omega, by omega, by omega, by omega, by omega⟩
  · rintro ⟨rfl, rfl, rfl, rfl, rfl, rfl, rfl⟩
    exact ⟨hb, by omega, by simpa using c⟩
set_option maxHeartbeats 8000000 in
theorem seconds_good {y m d h mi s wd : Int} (hb : dBd y m d h mi s) (h1 : isDt y m d h mi s wd → ∀ w', Kp [] w w' → R (.returned (.tuple #[.int .i64 (secN y m d h mi s), .int .i64 0])) w')
    (h0 : ¬ isDt y m d h mi s wd → ∀ w', Kp [] w w' → R (.returned (.tuple #[.int .i64 0, .int .i64 60])) w') :
    Calls Tryz.prog 139 #[.agg #[.int .i64 y, .int .i64 m, .int .i64 d, .int .i64 h, .int .i64 mi, .int .i64 s, .int .i64 wd]] w R := by
  have H0 := Lib.hid h0
  have H1 := Lib.hid h1
  obtain ⟨n0, n1, c0, c1⟩ := secN_bd hb
  have HD := Lib.hid hb
  clear h0 h1
  obtain ⟨b1, b2, b3, b4, b5, b6, b7, b8, b9, b10, b11, b12⟩ := hb
  obtain ⟨M, rfl⟩ : ∃ M : Nat, m = M := ⟨m.toNat, by omega⟩
  rw [Int.toNat_natCast] at c0 c1
  have HBf : Hid (∀ (R : Ending → World → Prop) (W : World) (z : Int), 1970 ≤ z → z ≤ 9999 → R (.returned (.int .i64 (befY z))) W → Calls Tryz.prog 162 #[.int .i64 z] W R) := Lib.hid (fun R W z a b h => before_any z W a b h)
  have g1 : befY y ≤ befY 9999 := by unfold befY; omega
  have g2 : befY 1970 ≤ befY y := by unfold befY; omega
  have g3 : befY 9999 = 3652059 := by decide
  have g4 : befY 1970 = 719527 := by decide
  obtain ⟨B1, hB1⟩ : ∃ B, befY y = B := ⟨_, rfl⟩
  rw [hB1] at g1 g2
  have HB1 := Lib.hid hB1
  have k1 : IntKind.i64.wrap (B1 - 719527) = B1 - 719527 := by rw [IntKind.wrap_i64]; omega
  have k2 : IntKind.i64.wrap (B1 - 719527 + d) = B1 - 719527 + d := by rw [IntKind.wrap_i64]; omega
  have k3 : IntKind.i64.wrap (B1 - 719527 + d - 1) = B1 - 719527 + d - 1 := by rw [IntKind.wrap_i64]; omega
  have HBy : Hid (∀ (R : Ending → World → Prop) (W : World), R (.returned (.int .i64 B1)) W → Calls Tryz.prog 162 #[.int .i64 y] W R) := Lib.hid (fun R W h => HBf.out R W y b1 b2 (by rw [hB1]; exact h))
  have HB0 : Hid (∀ (R : Ending → World → Prop) (W : World), R (.returned (.int .i64 719527)) W → Calls Tryz.prog 162 #[.int .i64 1970] W R) := Lib.hid (fun R W h => HBf.out R W 1970 (by decide) (by decide) (by rw [g4]; exact h))
  clear HBf hB1
  go_enter Tryz.func139, Tryz.ntmps139
  go_upto_region 1 with (fail)
  refine gen_worldC (fun W => ∃ g, w.heap.size = g ∧ Hid (Kp [] w W ∧ Bk W g 180 (dC y M d h mi s wd))) ⟨_, rfl, Lib.hid ⟨(Kp.refl _ _).alloc _, (Bk.new' _ _ _).cast rfl⟩⟩ ?_
  rintro W ⟨g, hg, hW⟩
  rw [hg]
  clear hg
  obtain ⟨⟨p0, p1, p2, p3, p4, p5, p6⟩, _⟩ := bk7 hW.out.2
  go_upto_region 3 with (fail)
  refine wp_region_kp (by kernel_rfl) (by kernel_rfl) ?_
  repeat (go_big_quiet_step (first | (go_at_call 162; with_reducible refine HBy.out _ _ ?_; exact kpx_mk (Kp.refl _ _)) | (go_at_call 162; with_reducible refine HB0.out _ _ ?_; exact kpx_mk (Kp.refl _ _))))
  refine wpQuiet_nil ?_
  intro w3 k3'
  have hW3 : Hid (Kp [] w w3 ∧ Bk w3 g 180 (dC y M d h mi s wd)) := Lib.hid ⟨hW.out.1.trans k3', hW.out.2.kp k3' (by simp)⟩
  clear p0 p1 p2 p3 p4 p5 p6 k3' hW HBy HB0 k1 k2 k3
  obtain ⟨D0, hD0⟩ : ∃ D0, B1 - 719527 + d - 1 = D0 := ⟨_, rfl⟩
  rw [hD0]
  have hD1 : 0 ≤ D0 ∧ D0 ≤ 3000000 := by omega
  have HD0 := Lib.hid hD0
  clear hD0
  go_wp2
  go_loopw [4, 5] (fun v i wr => ∃ k : Nat, k + 1 ≤ M ∧ i = .int .i64 (k + 1 : Nat) ∧ v = .int .i64 (D0 + cumM y k) ∧ Hid (Kp [] w3 wr)) (fun _ i _ => M - (intOf i).toNat)
  case atStart => exact ⟨0, by omega, rfl, congrArg (Value.int .i64) (by show D0 = D0 + 0; omega), Lib.hid (Kp.refl _ _)⟩
  case round =>
    obtain ⟨k, hk, rfl, rfl, kr⟩ := hrel
    obtain ⟨⟨p0, p1, p2, p3, p4, p5, p6⟩, _⟩ := bk7 (hW3.out.2.kp kr.out (by simp))
    have q1 := cumM_le y (M - 1) k (by omega)
    have q2 := cumM_le y k 0 (by omega)
    have q3 : cumM y 0 = 0 := rfl
    obtain ⟨C, hC⟩ : ∃ C, cumM y k = C := ⟨_, rfl⟩
    rw [hC] at q1 q2
    rw [q3] at q2
    by_cases hlt : k + 1 < M
    · have hl := lenM_pos y ((k + 1 : Nat) : Int)
      have hS : Hid (cumM y (k + 1) = C + lenM y ((k + 1 : Nat) : Int)) := Lib.hid (by rw [← hC]; rfl)
      have HLn : Hid (∀ (R : Ending → World → Prop) (W : World), R (.returned (.int .i64 (lenM y ((k + 1 : Nat) : Int)))) W → Calls Tryz.prog 145 #[.int .i64 y, .int .i64 (k + 1 : Nat)] W R) := Lib.hid (fun R W h => length_any y _ W (by omega) (by omega) (by omega) (by omega) h)
      obtain ⟨Ln, hLn⟩ : ∃ Ln, lenM y ((k + 1 : Nat) : Int) = Ln := ⟨_, rfl⟩
      obtain ⟨K1, hK1⟩ : ∃ K1 : Nat, k + 1 = K1 := ⟨_, rfl⟩
      rw [hLn] at hl HLn hS
      rw [hK1] at HLn hlt ⊢
      rw [hC]
      have hw1 : IntKind.i64.wrap (D0 + C + Ln) = D0 + C + Ln := by rw [IntKind.wrap_i64]; omega
      have HK1 := Lib.hid hK1
      clear hC hLn q1 q2 q3 hK1
      go_wp2_with (go_at_call 145; (with_reducible refine HLn.out _ _ ?_))
      exact ⟨⟨k + 1, by have := HK1.out; omega, congrArg (Value.int .i64) (by have := HK1.out; omega), congrArg (Value.int .i64) (by rw [hS.out]; omega), kr⟩, by simp [intOf]; omega⟩
    · obtain rfl : M = k + 1 := by omega
      have q4 : C ≤ 335 := by rw [← hC]; exact c1
      rw [hC]
      obtain ⟨N, hN⟩ : ∃ N, secN y ((k + 1 : Nat) : Int) d h mi s = N := ⟨_, rfl⟩
      have hNe : (D0 + C) * 86400 + (3600 * h + 60 * mi + s) = N := by
        rw [← hN]
        unfold secN
        have e1 := HB1.out
        have e2 := HD0.out
        rw [Int.toNat_natCast, show k + 1 - 1 = k by omega, hC, e1, g4]
        omega
      rw [hN] at n0 n1 H1
      obtain ⟨K1, hK1⟩ : ∃ K1 : Nat, k + 1 = K1 := ⟨_, rfl⟩
      rw [hK1] at p1 ⊢
      have w1 : IntKind.i64.wrap ((D0 + C) * 86400) = (D0 + C) * 86400 := by rw [IntKind.wrap_i64]; omega
      have w2 : IntKind.i64.wrap (3600 * h) = 3600 * h := by rw [IntKind.wrap_i64]; omega
      have w3' : IntKind.i64.wrap (60 * mi) = 60 * mi := by rw [IntKind.wrap_i64]; omega
      have w4 : IntKind.i64.wrap (3600 * h + 60 * mi) = 3600 * h + 60 * mi := by rw [IntKind.wrap_i64]; omega
      have w5 : IntKind.i64.wrap (3600 * h + 60 * mi + s) = 3600 * h + 60 * mi + s := by rw [IntKind.wrap_i64]; omega
      have w6 : IntKind.i64.wrap ((D0 + C) * 86400 + (3600 * h + 60 * mi + s)) = N := by rw [hNe, IntKind.wrap_i64]; omega
      have HOf : Hid (∀ (R : Ending → World → Prop), (∀ (y m d hh mi s wd : Nat), Hid (CivN N y m d hh mi s wd) → ∀ w', Kp [] wr w' → R (.returned (.tuple #[.agg #[.int .i64 y, .int .i64 m, .int .i64 d, .int .i64 hh, .int .i64 mi, .int .i64 s, .int .i64 wd], .int .i64 0])) w') → Calls Tryz.prog 115 #[.int .i64 N] wr R) := Lib.hid (fun R h => cof_nat N wr n0 n1 (fun y m d hh mi s wd c => h y m d hh mi s wd (Lib.hid c)))
      have HNe := Lib.hid hN
      have HK1 := Lib.hid hK1
      clear hC hNe hN hK1 q1 q2 q3 q4 n0 n1
      go_upto_region 10 with (go_at_call 115; (with_reducible refine HOf.out _ ?_; intro y9 m9 d9 h9 i9 s9 t9 c9 w9 k9))
      have hb9 : Hid (∀ o, Kp [] w (w9.alloc o)) := Lib.hid (fun o => ((hW3.out.1.trans kr.out).trans k9).alloc o)
      obtain ⟨⟨p0, p1, p2, p3, p4, p5, p6⟩, _⟩ := bk7 ((hW3.out.2.kp kr.out (by simp)).kp (k9.alloc (.cells #[.int .i64 y9, .int .i64 m9, .int .i64 d9, .int .i64 h9, .int .i64 i9, .int .i64 s9, .int .i64 t9] 180)) (by simp))
      rw [HK1.out] at p1
      have hiff := isDt_of (wd := wd) HD.out (by rw [HNe.out]; exact c9.out)
      by_cases heq : y = y9 ∧ ((k + 1 : Nat) : Int) = m9 ∧ d = d9 ∧ h = h9 ∧ mi = i9 ∧ s = s9 ∧ wd = t9
      · have HT := Lib.hid (hiff.2 heq)
        obtain ⟨e1, e2, e3, e4, e5, e6, e7⟩ := heq
        have e2' : K1 = m9 := by have := HK1.out; omega
        clear hiff e2
        subst e1 e2' e3 e4 e5 e6 e7
        go_wp2
        exact H1.out HT.out _ (hb9.out _)
      · have HT := Lib.hid (fun h => heq (hiff.1 h))
        have heq2 : ¬ ((y9 : Int) = y ∧ (m9 : Int) = K1 ∧ (d9 : Int) = d ∧ (h9 : Int) = h ∧ (i9 : Int) = mi ∧ (s9 : Int) = s ∧ (t9 : Int) = wd) := by
          have := HK1.out
          rintro ⟨a1, a2, a3, a4, a5, a6, a7⟩
          exact heq ⟨by omega, by omega, by omega, by omega, by omega, by omega, by omega⟩
        clear hiff heq
        go_wp2
        all_goals exact H0.out HT.out _ (hb9.out _)
end
end
end Go.Proofs.YtnmafahbdfilcaaGreatDoor
