/- PathBack walked. -/
import Derived.Test.YthppknpeagjcpaaDoorPath5
namespace Go.Proofs.YthppknpeagjcpaaDoor
open Go.RowKit
set_option linter.unusedVariables false
set_option maxRecDepth 100000

theorem ofL_name (l : List UInt8) : (ofL l).2 = 0 ∧ (nameB (ofL l).1 = true) ∨ (¬ (ofL l).2 = 0) ∧ (ofL l).1 = [] := by
  unfold ofL
  split
  · right; exact ⟨by decide, rfl⟩
  · split
    · right; exact ⟨by decide, rfl⟩
    · split
      · left; exact ⟨rfl, by decide +kernel⟩
      · split
        · right; exact ⟨by decide, rfl⟩
        · split
          · left; exact ⟨rfl, ‹_›⟩
          · right; exact ⟨by decide, rfl⟩
theorem segB_plain {l : List UInt8} (h : segB l = true) : l.all plainB = true ∧ l ≠ [] := by
  unfold segB at h
  simp only [Bool.and_eq_true] at h
  refine ⟨h.2, ?_⟩
  rintro rfl
  simp at h
theorem plainB_not {c : UInt8} (h : plainB c = true) : ¬ c.toNat = 37 ∧ ¬ c.toNat = 63 ∧ ¬ c.toNat = 47 := by
  unfold plainB at h
  simp at h
  omega
theorem spl_all {c : UInt8} {p : UInt8 → Bool} (l : List UInt8) (h : (spl c l).all (fun x => x.all p) = true) : ∀ x ∈ l, x = c ∨ p x = true := by
  induction l with
  | nil => simp
  | cons y r ih =>
    intro x hx
    rw [spl] at h
    split at h
    · rename_i hy
      rw [List.all_cons, Bool.and_eq_true] at h
      rcases List.mem_cons.1 hx with rfl | hx
      · exact .inl hy
      · exact ih h.2 x hx
    · rw [List.all_cons, Bool.and_eq_true, List.all_cons, Bool.and_eq_true] at h
      rcases List.mem_cons.1 hx with rfl | hx
      · exact .inr h.1.1
      · refine ih ?_ x hx
        cases hs : spl c r with
        | nil => exact absurd hs (spl_ne c r)
        | cons q qs =>
          rw [hs] at h
          rw [List.all_cons, Bool.and_eq_true]
          exact ⟨h.1.2, h.2⟩
theorem nameB_bytes {l : List UInt8} (h : nameB l = true) : l ≠ [] ∧ l.length ≤ 24 ∧ ∀ x ∈ l, ¬ x.toNat = 37 ∧ ¬ x = 63 := by
  unfold nameB at h
  rw [Bool.and_eq_true, decide_eq_true_iff] at h
  have ha : (spl 47 l).all (fun x => x.all plainB) = true := by
    rw [List.all_eq_true] at h ⊢
    exact fun x hx => (segB_plain (h.2 x hx)).1
  refine ⟨?_, h.1, fun x hx => ?_⟩
  · rintro rfl
    exact absurd h.2 (by decide +kernel)
  · rcases spl_all l ha x hx with rfl | hp
    · decide
    · obtain ⟨h1, h2, _⟩ := plainB_not hp
      exact ⟨h1, fun e => h2 (by rw [e]; rfl)⟩
theorem dec_plain {l : List UInt8} (h : ∀ x ∈ l, ¬ x.toNat = 37) : dec l = some l := by
  induction l with
  | nil => rfl
  | cons x r ih =>
    rw [dec_ne r (h x (by simp)), ih (fun y hy => h y (by simp [hy]))]; rfl
theorem bef_app {c : UInt8} {a b : List UInt8} (h : a.contains c = false) : bef c (a ++ c :: b) = a := by
  induction a with
  | nil => simp [bef]
  | cons x r ih =>
    rw [List.contains_cons, Bool.or_eq_false_iff] at h
    have e : ¬ x = c := by have := h.1; simp at this; exact Ne.symm this
    rw [List.cons_append, bef, if_neg e, ih h.2]
theorem of_target {n : List UInt8} (h : nameB n = true) (q : List UInt8) (hq : n.length + q.length ≤ 120) : ofL (47 :: n) = (n, 0) ∧ ofL (47 :: (n ++ 63 :: q)) = (n, 0) := by
  obtain ⟨h1, h2, h3⟩ := nameB_bytes h
  have hc : (47 :: n).contains 63 = false := by
    rw [List.contains_cons, Bool.or_eq_false_iff]
    refine ⟨by decide, ?_⟩
    rw [List.contains_eq_any_beq, List.any_eq_false]
    intro x hx
    have := (h3 x hx).2
    simp; exact Ne.symm this
  have hd := dec_plain (fun x hx => (h3 x hx).1)
  have e1 : bef 63 (47 :: n) = 47 :: n := (bef_self hc).1
  have e2 : bef 63 (47 :: (n ++ 63 :: q)) = 47 :: n := by
    rw [← List.cons_append]; exact bef_app hc
  have hne : ¬ (47 :: n) = [47] := by simpa using h1
  constructor
  · unfold ofL
    rw [e1, if_neg (by simp; omega), if_neg (by simp), if_neg hne]
    simp only [List.drop_succ_cons, List.drop_zero, hd, h, if_true]
  · unfold ofL
    rw [e2, if_neg (by simp; omega), if_neg (by simp), if_neg hne]
    simp only [List.drop_succ_cons, List.drop_zero, hd, h, if_true]
set_option maxHeartbeats 2000000 in
theorem back_walk {R : Ending → World → Prop} (s q : List UInt8) (w : World) (hd : s.length ≤ 140737488355328) (hs : q.length ≤ 140737488355328) (hm : Ml w) (h : ∀ w', Kp [] w w' → R (.returned (.bool true)) w') :
    Calls Tryd.prog 5 #[.string (S s), .string (S q)] w R := by
  have H := Lib.hid h
  clear h
  by_cases hl : s.length + q.length ≤ 120
  · have ho := ofL_name s
    obtain ⟨⟨n, e⟩, hv⟩ : ∃ v, ofL s = v := ⟨_, rfl⟩
    rw [hv] at ho
    simp only at ho
    have HV : Hid (ofV (ofL s) = .tuple #[.string (S n), .int .i64 e]) := by rw [hv]; exact Lib.hid rfl
    clear hv
    obtain ⟨t, f, HT, hok⟩ : ∃ (t : List UInt8) (f : Int), Hid ((.tuple #[.string (S (if nameB s then 47 :: s else [])), .int .i64 (if nameB s then 0 else 70)] : Value) = .tuple #[.string (S t), .int .i64 f]) ∧ ((f = 70 ∧ t = []) ∨ (f = 0 ∧ t = 47 :: s ∧ ofV (ofL (47 :: s)) = .tuple #[.string (S s), .int .i64 0] ∧ ofV (ofL (47 :: (s ++ 63 :: q))) = .tuple #[.string (S s), .int .i64 0])) := by
      cases hn : nameB s
      · exact ⟨[], 70, rfl, .inl ⟨rfl, rfl⟩⟩
      · obtain ⟨e1, e2⟩ := of_target hn q hl
        exact ⟨47 :: s, 0, rfl, .inr ⟨rfl, rfl, by rw [e1]; rfl, by rw [e2]; rfl⟩⟩
    rcases ho with ⟨rfl, hnb⟩ | ⟨he, rfl⟩
    · have HB := Lib.hid hnb
      have hnl := (nameB_bytes hnb).2.1
      clear hnb
      rcases hok with ⟨rfl, rfl⟩ | ⟨rfl, rfl, o1, o2⟩
      · go_enter Tryd.func5, Tryd.ntmps5
        go_wp2_with (first | (go_at_call 14; refine alive_any _ hm ?_; intro w1 kk; have mm := hm.kp kk) | (go_at_call 15; ((with_reducible refine of_any s _ (by assumption) ?_); intro w2 k2; rw [HV.out]; have kk := Kp.trans (a := w) (by assumption) k2; have mm := hm.kp kk)) | (go_at_call 17; ((with_reducible refine name_any n _ (by assumption) ?_); intro w2 k2; rw [HB.out]; have kk := Kp.trans (a := w) (by assumption) k2; have mm := hm.kp kk)) | (go_at_call 18; ((with_reducible refine target_any s _ (by assumption) ?_); intro w2 k2; rw [HT.out]; have kk := Kp.trans (a := w) (by assumption) k2; have mm := hm.kp kk)))
        exact H.out _ (by assumption)
      · have HO1 := Lib.hid o1
        have HO2 := Lib.hid o2
        clear o1 o2
        go_enter Tryd.func5, Tryd.ntmps5
        go_wp2_with (first | (go_at_call 14; refine alive_any _ hm ?_; intro w1 kk; have mm := hm.kp kk) | (go_at_call 15; ((with_reducible refine of_any s _ (by assumption) ?_); intro w2 k2; rw [HV.out]; have kk := Kp.trans (a := w) (by assumption) k2; have mm := hm.kp kk)) | (go_at_call 17; ((with_reducible refine name_any n _ (by assumption) ?_); intro w2 k2; rw [HB.out]; have kk := Kp.trans (a := w) (by assumption) k2; have mm := hm.kp kk)) | (go_at_call 18; ((with_reducible refine target_any s _ (by assumption) ?_); intro w2 k2; rw [HT.out]; have kk := Kp.trans (a := w) (by assumption) k2; have mm := hm.kp kk)) | (go_at_call 15; ((with_reducible refine of_any (47 :: s) _ (by assumption) ?_); intro w2 k2; rw [HO1.out]; have kk := Kp.trans (a := w) (by assumption) k2; have mm := hm.kp kk)) | (go_at_call 15; ((with_reducible refine of_any (47 :: (s ++ 63 :: q)) _ (by assumption) ?_); intro w2 k2; rw [HO2.out]; have kk := Kp.trans (a := w) (by assumption) k2; have mm := hm.kp kk)))
        exact H.out _ (by assumption)
    · have b1 : (e == 0) = false := by simpa using he
      have b2 : (e != 0) = true := by simpa using he
      have HE := Lib.hid he
      clear he
      rcases hok with ⟨rfl, rfl⟩ | ⟨rfl, rfl, o1, o2⟩
      · go_enter Tryd.func5, Tryd.ntmps5
        go_wp2_with (first | (go_at_call 14; refine alive_any _ hm ?_; intro w1 kk; have mm := hm.kp kk) | (go_at_call 15; ((with_reducible refine of_any s _ (by assumption) ?_); intro w2 k2; rw [HV.out]; have kk := Kp.trans (a := w) (by assumption) k2; have mm := hm.kp kk)) | (go_at_call 18; ((with_reducible refine target_any s _ (by assumption) ?_); intro w2 k2; rw [HT.out]; have kk := Kp.trans (a := w) (by assumption) k2; have mm := hm.kp kk)))
        exact H.out _ (by assumption)
      · have HO1 := Lib.hid o1
        have HO2 := Lib.hid o2
        clear o1 o2
        go_enter Tryd.func5, Tryd.ntmps5
        go_wp2_with (first | (go_at_call 14; refine alive_any _ hm ?_; intro w1 kk; have mm := hm.kp kk) | (go_at_call 15; ((with_reducible refine of_any s _ (by assumption) ?_); intro w2 k2; rw [HV.out]; have kk := Kp.trans (a := w) (by assumption) k2; have mm := hm.kp kk)) | (go_at_call 18; ((with_reducible refine target_any s _ (by assumption) ?_); intro w2 k2; rw [HT.out]; have kk := Kp.trans (a := w) (by assumption) k2; have mm := hm.kp kk)) | (go_at_call 15; ((with_reducible refine of_any (47 :: s) _ (by assumption) ?_); intro w2 k2; rw [HO1.out]; have kk := Kp.trans (a := w) (by assumption) k2; have mm := hm.kp kk)) | (go_at_call 15; ((with_reducible refine of_any (47 :: (s ++ 63 :: q)) _ (by assumption) ?_); intro w2 k2; rw [HO2.out]; have kk := Kp.trans (a := w) (by assumption) k2; have mm := hm.kp kk)))
        exact H.out _ (by assumption)
  · go_enter Tryd.func5, Tryd.ntmps5
    go_wp2_with (go_at_call 14; refine alive_any _ hm ?_; intro w1 k1)
    exact H.out _ k1
end Go.Proofs.YthppknpeagjcpaaDoor
