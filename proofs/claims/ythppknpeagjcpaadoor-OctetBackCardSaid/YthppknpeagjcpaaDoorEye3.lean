/- The reader that isn't there; the document's reader. -/
import Derived.Test.YthppknpeagjcpaaDoorEye2
import Derived.BigRegion
namespace Go.Proofs.YthppknpeagjcpaaDoor
open Go.RowKit Go.Shelf
set_option linter.unusedVariables false
set_option linter.unusedSimpArgs false
set_option maxRecDepth 100000

section
variable {R : Ending → World → Prop} {w : World}
theorem take_nil (k : Int) (may : Bool) (h : R (.returned (.slice none 0 0)) w) : Calls Tryd.prog 65 #[.pointer none, .int .i64 k, .bool may] w R := by
  go_enter Tryd.func65, Tryd.ntmps65
  go_wp2
  refine wp_scope_fwd 0 (by rfl) ?_
  intro J HJ
  go_wp2
  exact h
theorem num_nil (h : R (.returned (.int .u64 0)) w) : Calls Tryd.prog 38 #[.pointer none, .int .i64 1] w R := by
  go_enter Tryd.func38, Tryd.ntmps38
  go_wp2_with (first | (go_at_call 63; refine wide_any _ _ ?_) | (go_at_call 65; (refine take_nil _ _ ?_)))
  refine wp_loop_rounds 1 ?_
  rw [rounds_succ]
  go_wp2
  exact h
theorem bytes_nil (h : R (.returned (.slice none 0 0)) w) : Calls Tryd.prog 40 #[.pointer none, .int .i64 1] w R := by
  have HC : Hid (∀ R : Ending → World → Prop, R (.returned (.slice none 0 0)) w → Calls Tryd.prog 64 #[.slice none 0 0] w R) := Lib.hid fun R h => (Tryd.bytes_Clone_nil 0 0 w).mono fun e w' ⟨he, hw⟩ => by subst he; subst hw; exact h
  go_enter Tryd.func40, Tryd.ntmps40
  go_wp2_with (first | (go_at_call 65; (refine take_nil _ _ ?_)) | (go_at_call 64; (refine HC.out _ ?_)))
  exact h
theorem rest_nil (h : R (.returned (.int .i64 0)) w) : Calls Tryd.prog 41 #[.pointer none] w R := by
  go_enter Tryd.func41, Tryd.ntmps41
  go_wp2
  exact h
theorem err_nil (h : R (.returned (.int .i64 50)) w) : Calls Tryd.prog 42 #[.pointer none] w R := by
  go_enter Tryd.func42, Tryd.ntmps42
  go_wp2
  exact h
theorem done_nil (h : R (.returned (.int .i64 50)) w) : Calls Tryd.prog 43 #[.pointer none] w R := by
  go_enter Tryd.func43, Tryd.ntmps43
  go_wp2_with (first | (go_at_call 42; (refine err_nil ?_)) | (go_at_call 41; (refine rest_nil ?_)))
  exact h
end
/-- May so many be taken? -/
def mayB (k : Int) (num : Bool) : Bool := if num then wideB k else decide (0 ≤ k)
def aggE (l : List UInt8) (e : Int) : Value := .agg #[.string (S l), .int .i64 e]
set_option maxHeartbeats 2000000 in
theorem rtake_any {R : Ending → World → Prop} {w : World} (l : List UInt8) (err : Int) (k : Int) (num : Bool) (hl : l.length ≤ 1000000)
    (h : ∀ w', Kp [] w w' → R (.returned (.tuple #[.string (S (takeM (l, err) k (mayB k num)).1), aggE (takeM (l, err) k (mayB k num)).2.1 (takeM (l, err) k (mayB k num)).2.2])) w') :
    Calls Tryd.prog 37 #[aggE l err, .int .i64 k, .bool num] w R := by
  have H := Lib.hid h
  clear h
  by_cases h0 : err = 0
  · subst h0
    cases hm : mayB k num
    · have HM : Hid (takeM (l, 0) k (mayB k num) = ([], [], 1)) := Lib.hid (by rw [hm]; unfold takeM; simp)
      have hways : k < 0 ∨ (0 ≤ k ∧ num = true ∧ k < 1) ∨ (0 ≤ k ∧ num = true ∧ 8 < k) := by
        unfold mayB at hm
        cases num
        · left
          simp only [Bool.false_eq_true, if_false, decide_eq_false_iff_not] at hm
          omega
        · simp only [if_true] at hm
          unfold wideB at hm
          have := of_decide_eq_false hm
          by_cases h : k < 0
          · exact .inl h
          · by_cases h2 : k < 1
            · exact .inr (.inl ⟨by omega, rfl, h2⟩)
            · exact .inr (.inr ⟨by omega, rfl, by omega⟩)
      clear hm
      unfold aggE
      rcases hways with h | ⟨h1, rfl, h2⟩ | ⟨h1, rfl, h2⟩
      · go_enter Tryd.func37, Tryd.ntmps37
        go_wp2
        exact bodyPost_ret (v := .tuple #[.string ⟨#[]⟩, .agg #[.string ⟨#[]⟩, .int .i64 1]]) (by simp [results, Tryd.results37, go_sem]) rfl (rcast (H.out _ (by first | exact (((Kp.refl _ _).alloc _).alloc _).drew | exact ((Kp.refl _ _).alloc _).alloc _)) (by rw [HM.out]; rfl))
      · go_enter Tryd.func37, Tryd.ntmps37
        go_wp2
        exact bodyPost_ret (v := .tuple #[.string ⟨#[]⟩, .agg #[.string ⟨#[]⟩, .int .i64 1]]) (by simp [results, Tryd.results37, go_sem]) rfl (rcast (H.out _ (by first | exact (((Kp.refl _ _).alloc _).alloc _).drew | exact ((Kp.refl _ _).alloc _).alloc _)) (by rw [HM.out]; rfl))
      · go_enter Tryd.func37, Tryd.ntmps37
        go_wp2
        exact bodyPost_ret (v := .tuple #[.string ⟨#[]⟩, .agg #[.string ⟨#[]⟩, .int .i64 1]]) (by simp [results, Tryd.results37, go_sem]) rfl (rcast (H.out _ (by first | exact (((Kp.refl _ _).alloc _).alloc _).drew | exact ((Kp.refl _ _).alloc _).alloc _)) (by rw [HM.out]; rfl))
    · have hk0 : 0 ≤ k ∧ (num = true → 1 ≤ k ∧ k ≤ 8) := by
        unfold mayB at hm
        cases num
        · simp only [Bool.false_eq_true, if_false, decide_eq_true_eq] at hm
          exact ⟨hm, fun h => by cases h⟩
        · simp only [if_true] at hm
          unfold wideB at hm
          have := of_decide_eq_true hm
          exact ⟨by omega, fun _ => this⟩
      obtain ⟨hk0, hnum⟩ := hk0
      unfold aggE
      by_cases hlt : (l.length : Int) < k
      · have HM : Hid (takeM (l, 0) k (mayB k num) = ([], [], 50)) := Lib.hid (by rw [hm]; unfold takeM; simp [hlt])
        clear hm
        cases num
        · clear hnum
          go_enter Tryd.func37, Tryd.ntmps37
          go_wp2
          exact bodyPost_ret (v := .tuple #[.string ⟨#[]⟩, .agg #[.string ⟨#[]⟩, .int .i64 50]]) (by simp [results, Tryd.results37, go_sem]) rfl (rcast (H.out _ (by first | exact (((Kp.refl _ _).alloc _).alloc _).drew | exact ((Kp.refl _ _).alloc _).alloc _)) (by rw [HM.out]; rfl))
        · obtain ⟨n1, n2⟩ := hnum rfl
          clear hnum
          go_enter Tryd.func37, Tryd.ntmps37
          go_wp2
          exact bodyPost_ret (v := .tuple #[.string ⟨#[]⟩, .agg #[.string ⟨#[]⟩, .int .i64 50]]) (by simp [results, Tryd.results37, go_sem]) rfl (rcast (H.out _ (by first | exact (((Kp.refl _ _).alloc _).alloc _).drew | exact ((Kp.refl _ _).alloc _).alloc _)) (by rw [HM.out]; rfl))
      · obtain ⟨j, rfl⟩ : ∃ j : Nat, k = j := ⟨k.toNat, by omega⟩
        have HM : Hid (takeM (l, 0) j (mayB j num) = (l.take j, l.drop j, 0)) := Lib.hid (by rw [hm]; unfold takeM; simp [hlt])
        have hjl : j ≤ l.length := by omega
        clear hm hlt
        cases num
        · clear hnum
          go_enter Tryd.func37, Tryd.ntmps37
          go_wp2
          go_region
          go_wp2
          exact bodyPost_ret (v := .tuple #[.string (S (l.take j)), .agg #[.string (S (l.drop j)), .int .i64 0]]) (by simp [results, Tryd.results37, go_sem]) rfl (rcast (H.out _ (by first | exact (((Kp.refl _ _).alloc _).alloc _).drew | exact ((Kp.refl _ _).alloc _).alloc _)) (by rw [HM.out]; rfl))
        · obtain ⟨n1, n2⟩ := hnum rfl
          clear hnum
          go_enter Tryd.func37, Tryd.ntmps37
          go_wp2
          go_region
          go_wp2
          exact bodyPost_ret (v := .tuple #[.string (S (l.take j)), .agg #[.string (S (l.drop j)), .int .i64 0]]) (by simp [results, Tryd.results37, go_sem]) rfl (rcast (H.out _ (by first | exact (((Kp.refl _ _).alloc _).alloc _).drew | exact ((Kp.refl _ _).alloc _).alloc _)) (by rw [HM.out]; rfl))
  · have HM : Hid (takeM (l, err) k (mayB k num) = ([], l, err)) := Lib.hid (by unfold takeM; simp [h0])
    have b0 : (err == 0) = false := by simpa using h0
    have b1 : (err != 0) = true := by simpa using h0
    clear h0
    unfold aggE
    go_enter Tryd.func37, Tryd.ntmps37
    go_wp2
    go_region
    go_wp2
    exact bodyPost_ret (v := .tuple #[.string ⟨#[]⟩, .agg #[.string (S l), .int .i64 err]]) (by simp [results, Tryd.results37, go_sem]) rfl (rcast (H.out _ (by first | exact (((Kp.refl _ _).alloc _).alloc _).drew | exact ((Kp.refl _ _).alloc _).alloc _)) (by rw [HM.out]; rfl))
end Go.Proofs.YthppknpeagjcpaaDoor
