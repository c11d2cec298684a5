/- PathKinds walked. -/
import Derived.Test.YthppknpeagjcpaaDoorPath5
namespace Go.Proofs.YthppknpeagjcpaaDoor
open Go.RowKit
set_option linter.unusedVariables false
set_option maxRecDepth 100000

theorem kinds1 (d s : List UInt8) (h : s.contains 47 = false) : kindL (d ++ 47 :: s) = kindL s := by
  unfold kindL
  rw [lst_append _ _ _ h, lst_none _ _ h]
theorem kinds2 (d s : List UInt8) (h : s.contains 47 = false) : kindL (d ++ 47 :: (s ++ [46, 112, 110, 103])) = [105, 109, 97, 103, 101, 47, 112, 110, 103] := by
  have h2 : (s ++ [46, 112, 110, 103]).contains 47 = false := by
    rw [List.contains_eq_any_beq] at h ⊢
    rw [List.any_append, h]; rfl
  unfold kindL
  rw [lst_append _ _ _ h2]
  have e3 : s ++ [46, 112, 110, 103] = s ++ 46 :: [112, 110, 103] := rfl
  rw [e3, lst_append _ _ _ (by decide), if_pos (by simp)]
  rfl
set_option maxHeartbeats 2000000 in
theorem kinds_walk {R : Ending → World → Prop} (d s : List UInt8) (w : World) (hd : d.length ≤ 140737488355328) (hs : s.length ≤ 140737488355328) (hm : Ml w) (h : ∀ w', Kp [] w w' → R (.returned (.bool true)) w') :
    Calls Tryd.prog 6 #[.string (S d), .string (S s)] w R := by
  have H := Lib.hid h
  clear h
  by_cases hl : s.length + d.length ≤ 300
  · go_enter Tryd.func6, Tryd.ntmps6
    go_wp2_with (go_at_call 14; refine alive_any _ hm ?_; intro w1 k1)
    go_loop [5] (fun i => ∃ k : Nat, k ≤ s.length ∧ i = .int .i64 k ∧ (s.take k).all (fun c => !(c == 47)) = true) (fun i => s.length - (intOf i).toNat)
    case atStart => exact ⟨0, Nat.zero_le _, rfl, by simp⟩
    case round =>
      obtain ⟨k, hk, rfl, ha⟩ := hrel
      have HA := Lib.hid ha
      clear ha
      by_cases hlt : k < s.length
      · obtain ⟨x, hx⟩ : ∃ x, s[k]'hlt = x := ⟨_, rfl⟩
        by_cases h47 : x = 47
        · have b : ((x.toNat : Int) == 47) = true := (u8_beq x 47).trans (by simpa using h47)
          clear h47
          go_wp2
          exact H.out _ k1
        · have b : ((x.toNat : Int) == 47) = false := (u8_beq x 47).trans (by simpa using h47)
          have hx2 : (!(x == 47)) = true := by simpa using h47
          have HX : Hid ((s.take (k + 1)).all (fun c => !(c == 47)) = true) := by
            refine Lib.hid ?_
            rw [all_snoc s _ k hlt, HA.out, hx, hx2]; rfl
          clear h47 hx2
          go_wp2
          go_round
          case rel => exact ⟨k + 1, by omega, by go_num, HX.out⟩
          case measure => simp [intOf]; omega
      · have hc : s.contains 47 = false := by
          have := HA.out
          rw [List.take_of_length_le (by omega), List.all_eq_true] at this
          rw [List.contains_eq_any_beq, List.any_eq_false]
          intro x hx
          have := this x hx
          simp at this ⊢; exact Ne.symm this
        have K1 := Lib.hid (kinds1 d s hc)
        have K2 := Lib.hid (kinds2 d s hc)
        clear hc
        go_wp2_with (go_at_call 19; first | ((with_reducible refine kind_any (d ++ 47 :: s) _ (by simp; omega) ?_); rw [K1.out]) | ((with_reducible refine kind_any s _ (by omega) ?_)) | ((with_reducible refine kind_any (d ++ 47 :: (s ++ [46, 112, 110, 103])) _ (by simp; omega) ?_); rw [K2.out]))
        exact H.out _ k1
  · go_enter Tryd.func6, Tryd.ntmps6
    go_wp2_with (go_at_call 14; refine alive_any _ hm ?_; intro w1 k1)
    exact H.out _ k1
end Go.Proofs.YthppknpeagjcpaaDoor
