/- inode.File.may. -/
import Derived.Test.YtnpkfhnhcadgeaaDoorIn10
import Derived.Test.YtnpkfhnhcadgeaaDoorQuiet
import Derived.BigQuiet
namespace Go.Proofs.YtnpkfhnhcadgeaaDoor
open Go.RowKit
set_option linter.unusedVariables false
set_option linter.unusedSimpArgs false
set_option maxRecDepth 100000
def fileD (ver mt len : Int) (n m : Nat) : Prop := 1 ≤ ver ∧ ver ≤ 1073741824 ∧ 0 ≤ mt ∧ mt ≤ 253402300799 ∧ 0 ≤ len ∧ len ≤ 8192 ∧ n = cntF len.toNat ∧ m = n
instance (ver mt len : Int) (n m : Nat) : Decidable (fileD ver mt len n m) := by unfold fileD; infer_instance
def fileB (W : Nat → Bool) (ver mt len : Int) (bl : List Int) (pa : List (Nat × Nat)) : Bool := decide (fileD ver mt len bl.length pa.length) && (bl.all blkB && pa.all fun p => W p.1 && W p.2)
section
variable {R : Ending → World → Prop} {w w' w0 : World}
set_option maxHeartbeats 4000000 in
theorem fmay_any (W : Nat → Bool) (ver mt len : Int) {A B : Option Addr} {n c m d : Nat} {bl : List Int} {pa : List (Nat × Nat)} (hW : ∀ p ∈ pa, WordAt p.1 (W p.1) ∧ WordAt p.2 (W p.2)) (hr : Rd w [] A (bl.flatMap iv)) (hl : bl.length = n) (hp : Rd w [] B (pa.flatMap cV)) (hq : pa.length = m) (h : ∀ w', Kp [] w w' → R (.returned (.bool (fileB W ver mt len bl pa))) w') :
    Calls Tryd.prog 33 #[.agg #[.int .i64 ver, .int .i64 mt, .int .i64 len, .slice A n c, .slice B m d]] w R := by
  have H := Lib.hid h
  obtain ⟨W1, hW1⟩ : ∃ W1, w.alloc (.cells #[.int .i64 ver, .int .i64 mt, .int .i64 len, .slice A n c, .slice B m d] 35) = W1 := ⟨_, rfl⟩
  have hk : Kp [] w W1 := by rw [← hW1]; exact (Kp.refl [] w).alloc _
  have HK := Lib.hid hk
  obtain ⟨t1, ht1⟩ : ∃ t, bl.all blkB = t := ⟨_, rfl⟩
  obtain ⟨t2, ht2⟩ : ∃ t, (pa.all fun p => W p.1 && W p.2) = t := ⟨_, rfl⟩
  have HBl : Hid (n ≤ 1000 → ∀ (R : Ending → World → Prop) (w1 : World), Kp [] W1 w1 → (∀ w', Kp [] w1 w' → R (.returned (.bool t1)) w') → Calls Tryd.prog 41 #[.slice A n c, .func (.func 32) #[] #[]] w1 R) := Lib.hid (fun hn R w1 k1 h => alli_any (hr.kp (hk.trans k1) (by simp)) hl (by omega) (fun w' k' => by rw [ht1]; exact h w' k'))
  have HPa : Hid (m ≤ 1000 → ∀ (R : Ending → World → Prop) (w1 : World), Kp [] W1 w1 → (∀ w', Kp [] w1 w' → R (.returned (.bool t2)) w') → Calls Tryd.prog 47 #[.slice B m d, .func (.func 48) #[] #[]] w1 R) := Lib.hid (fun hn R w1 k1 h => allc_any W hW (hp.kp (hk.trans k1) (by simp)) hq (by omega) (fun w' k' => by rw [ht2]; exact h w' k'))
  have HE : Hid (fileB W ver mt len bl pa = (decide (fileD ver mt len n m) && (t1 && t2))) := Lib.hid (by unfold fileB; rw [ht1, ht2, hl, hq])
  obtain ⟨bx, hbx⟩ : ∃ bx, w.heap.size = bx := ⟨_, rfl⟩
  have hB : Bk W1 bx 35 [.int .i64 ver, .int .i64 mt, .int .i64 len, .slice A n c, .slice B m d] := by rw [← hW1, ← hbx]; exact Bk.new' w 35 #[.int .i64 ver, .int .i64 mt, .int .i64 len, .slice A n c, .slice B m d]
  have x0 : W1.cell? ⟨bx, 0, none⟩ = some (.int .i64 ver) := hB.cell 0
  have x1 : W1.cell? ⟨bx, 1, none⟩ = some (.int .i64 mt) := hB.cell 1
  have x2 : W1.cell? ⟨bx, 2, none⟩ = some (.int .i64 len) := hB.cell 2
  have x3 : W1.cell? ⟨bx, 3, none⟩ = some (.slice A n c) := hB.cell 3
  have x4 : W1.cell? ⟨bx, 4, none⟩ = some (.slice B m d) := hB.cell 4
  have HBX := Lib.hid hbx
  rw [HE.out] at H
  have HW1 := Lib.hid hW1
  clear h hr hl hp hq hW hk ht1 ht2 HE hW1 hB hbx
  by_cases hd : fileD ver mt len n m
  · rw [decide_eq_true hd, Bool.true_and] at H
    obtain ⟨d1, d2, d3, d4, d5, d6, d7, d8⟩ := hd
    obtain ⟨L, hL⟩ : ∃ L : Nat, len = (L : Int) := ⟨len.toNat, by omega⟩
    subst hL
    rw [Int.toNat_natCast] at d7
    have HCt : Hid (∀ (R : Ending → World → Prop) (w : World), R (.returned (.int .i64 n)) w → Calls Tryd.prog 24 #[.int .i64 L] w R) := Lib.hid (fun R w h => count_any L (by omega) (by rw [← d7]; exact h))
    have hn : n ≤ 1000 := by rw [d7]; unfold cntF; omega
    subst d8
    clear d7
    cases t1 with
    | true =>
      rw [Bool.true_and] at H
      go_enter Tryd.func33, Tryd.ntmps33
      go_upto_region 1 with (fail)
      rw [HW1.out, HBX.out]
      refine wp_region_kp (by kernel_rfl) (by kernel_rfl) ?_
      repeat (go_big_quiet_step (first | (go_at_call 24; refine HCt.out _ _ ?_; exact kpx_mk (Kp.refl _ _)) | (go_at_call 41; refine HBl.out hn _ _ (kpw_kp _ _) (fun w3 k3 => ?_); exact kpx_mk k3) | (go_at_call 47; refine HPa.out hn _ _ (kpw_kp _ _) (fun w3 k3 => ?_); exact kpx_mk k3)))
      refine wpQuiet_nil ?_
      intro w3 k3
      go_wp2
      exact H.out _ (HK.out.trans k3)
    | false =>
      rw [Bool.false_and] at H
      go_enter Tryd.func33, Tryd.ntmps33
      go_upto_region 1 with (fail)
      rw [HW1.out, HBX.out]
      refine wp_region_kp (by kernel_rfl) (by kernel_rfl) ?_
      repeat (go_big_quiet_step (first | (go_at_call 24; refine HCt.out _ _ ?_; exact kpx_mk (Kp.refl _ _)) | (go_at_call 41; refine HBl.out hn _ _ (kpw_kp _ _) (fun w3 k3 => ?_); exact kpx_mk k3) | (go_at_call 47; refine HPa.out hn _ _ (kpw_kp _ _) (fun w3 k3 => ?_); exact kpx_mk k3)))
      refine wpQuiet_nil ?_
      intro w3 k3
      go_wp2
      exact H.out _ (HK.out.trans k3)
  · rw [decide_eq_false hd, Bool.false_and] at H
    by_cases d1 : 1 ≤ ver
    · by_cases d2 : ver ≤ 1073741824
      · by_cases d3 : 0 ≤ mt
        · by_cases d4 : mt ≤ 253402300799
          · by_cases d5 : 0 ≤ len
            · by_cases d6 : len ≤ 8192
              · obtain ⟨L, hL⟩ : ∃ L : Nat, len = (L : Int) := ⟨len.toNat, by omega⟩
                subst hL
                obtain ⟨K, hK⟩ : ∃ K, cntF L = K := ⟨_, rfl⟩
                have HCt : Hid (∀ (R : Ending → World → Prop) (w : World), R (.returned (.int .i64 K)) w → Calls Tryd.prog 24 #[.int .i64 L] w R) := Lib.hid (fun R w h => count_any L (by omega) (by rw [hK]; exact h))
                by_cases d7 : n = K
                · by_cases d8 : m = n
                  · exact absurd ⟨d1, d2, d3, d4, d5, d6, by rw [Int.toNat_natCast, hK]; exact d7, d8⟩ hd
                  · have hne : ((m : Int) == (n : Int)) = false := by simp; omega
                    clear hd hK
                    subst d7
                    go_enter Tryd.func33, Tryd.ntmps33
                    go_upto_region 1 with (fail)
                    rw [HW1.out, HBX.out]
                    refine wp_region_kp (by kernel_rfl) (by kernel_rfl) ?_
                    repeat (go_big_quiet_step ((go_at_call 24; refine HCt.out _ _ ?_; exact kpx_mk (Kp.refl _ _))))
                    refine wpQuiet_nil ?_
                    intro w3 k3
                    go_wp2
                    exact H.out _ (HK.out.trans k3)
                · have hne : ((n : Int) == (K : Int)) = false := by simp; omega
                  clear hd hK
                  go_enter Tryd.func33, Tryd.ntmps33
                  go_upto_region 1 with (fail)
                  rw [HW1.out, HBX.out]
                  refine wp_region_kp (by kernel_rfl) (by kernel_rfl) ?_
                  repeat (go_big_quiet_step ((go_at_call 24; refine HCt.out _ _ ?_; exact kpx_mk (Kp.refl _ _))))
                  refine wpQuiet_nil ?_
                  intro w3 k3
                  go_wp2
                  exact H.out _ (HK.out.trans k3)
              · clear hd
                go_enter Tryd.func33, Tryd.ntmps33
                go_upto_region 1 with (fail)
                rw [HW1.out, HBX.out]
                refine wp_region_kp (by kernel_rfl) (by kernel_rfl) ?_
                repeat (go_big_quiet_step (fail))
                refine wpQuiet_nil ?_
                intro w3 k3
                go_wp2
                exact H.out _ (HK.out.trans k3)
            · clear hd
              go_enter Tryd.func33, Tryd.ntmps33
              go_upto_region 1 with (fail)
              rw [HW1.out, HBX.out]
              refine wp_region_kp (by kernel_rfl) (by kernel_rfl) ?_
              repeat (go_big_quiet_step (fail))
              refine wpQuiet_nil ?_
              intro w3 k3
              go_wp2
              exact H.out _ (HK.out.trans k3)
          · clear hd
            go_enter Tryd.func33, Tryd.ntmps33
            go_upto_region 1 with (fail)
            rw [HW1.out, HBX.out]
            refine wp_region_kp (by kernel_rfl) (by kernel_rfl) ?_
            repeat (go_big_quiet_step (fail))
            refine wpQuiet_nil ?_
            intro w3 k3
            go_wp2
            exact H.out _ (HK.out.trans k3)
        · clear hd
          go_enter Tryd.func33, Tryd.ntmps33
          go_upto_region 1 with (fail)
          rw [HW1.out, HBX.out]
          refine wp_region_kp (by kernel_rfl) (by kernel_rfl) ?_
          repeat (go_big_quiet_step (fail))
          refine wpQuiet_nil ?_
          intro w3 k3
          go_wp2
          exact H.out _ (HK.out.trans k3)
      · clear hd
        go_enter Tryd.func33, Tryd.ntmps33
        go_upto_region 1 with (fail)
        rw [HW1.out, HBX.out]
        refine wp_region_kp (by kernel_rfl) (by kernel_rfl) ?_
        repeat (go_big_quiet_step (fail))
        refine wpQuiet_nil ?_
        intro w3 k3
        go_wp2
        exact H.out _ (HK.out.trans k3)
    · clear hd
      go_enter Tryd.func33, Tryd.ntmps33
      go_upto_region 1 with (fail)
      rw [HW1.out, HBX.out]
      refine wp_region_kp (by kernel_rfl) (by kernel_rfl) ?_
      repeat (go_big_quiet_step (fail))
      refine wpQuiet_nil ?_
      intro w3 k3
      go_wp2
      exact H.out _ (HK.out.trans k3)
end
end Go.Proofs.YtnpkfhnhcadgeaaDoor
