/- PathHex walked. -/
import Derived.Test.YthppknpeagjcpaaDoorLawBackP
import Derived.BigQuiet
namespace Go.Proofs.YthppknpeagjcpaaDoor
open Go.RowKit
set_option linter.unusedVariables false
set_option maxRecDepth 100000
/-- A digit, small or great. -/
def dlow (great : Bool) (k : Nat) : UInt8 := UInt8.ofNat (if k < 10 then 48 + k else if great then 55 + k else 87 + k)
theorem dlow_at (k : Nat) (h : k < 16) : List.drop k (48 :: List.take k [49, 50, 51, 52, 53, 54, 55, 56, 57, 97, 98, 99, 100, 101, 102]) = [dlow false k] := by
  have : ∀ k : Fin 16, List.drop k.1 ((48 : UInt8) :: List.take k.1 [49, 50, 51, 52, 53, 54, 55, 56, 57, 97, 98, 99, 100, 101, 102]) = [dlow false k.1] := by decide +kernel
  exact this ⟨k, h⟩
theorem dup_at (k : Nat) (h : k < 16) : List.drop k (48 :: List.take k [49, 50, 51, 52, 53, 54, 55, 56, 57, 65, 66, 67, 68, 69, 70]) = [dlow true k] := by
  have : ∀ k : Fin 16, List.drop k.1 ((48 : UInt8) :: List.take k.1 [49, 50, 51, 52, 53, 54, 55, 56, 57, 65, 66, 67, 68, 69, 70]) = [dlow true k.1] := by decide +kernel
  exact this ⟨k, h⟩
theorem dlow_dig (g : Bool) (k : Nat) (h : k < 16) : digI (dlow g k) = k ∧ dlow g k ≠ 63 := by
  have : ∀ (g : Bool) (k : Fin 16), digI (dlow g k.1) = (k.1 : Int) ∧ dlow g k.1 ≠ 63 := by decide +kernel
  exact this g ⟨k, h⟩
theorem dec_app {a r : List UInt8} (h : ∀ x ∈ a, ¬ x.toNat = 37) : dec (a ++ r) = (dec r).map (a ++ ·) := by
  induction a with
  | nil => simp
  | cons x a ih =>
    rw [List.cons_append, dec_ne _ (h x (by simp)), ih (fun y hy => h y (by simp [hy]))]
    cases dec r <;> simp
theorem spl_mem_plain {l : List UInt8} (h : nameB l = true) {x : UInt8} (hx : x ∈ l) (h47 : x ≠ 47) : plainB x = true := by
  unfold nameB at h
  rw [Bool.and_eq_true, decide_eq_true_iff] at h
  have ha : (spl 47 l).all (fun x => x.all plainB) = true := by
    rw [List.all_eq_true] at h ⊢
    exact fun x hx => (segB_plain (h.2 x hx)).1
  rcases spl_all l ha x hx with rfl | hp
  · exact absurd rfl h47
  · exact hp
theorem hex_of {s : List UInt8} (hn : nameB s = true) (i : Nat) (hil : i < s.length) (c : UInt8) (hc : s[i]'hil = c) (g : Bool) :
    ofL (47 :: (s.take i ++ 37 :: dlow g (c.toNat / 16) :: dlow g (c.toNat % 16) :: s.drop (i + 1))) = if c = 47 then ([], 70) else (s, 0) := by
  obtain ⟨h1, h2, h3⟩ := nameB_bytes hn
  have hlt := c.toNat_lt
  obtain ⟨d1, d2⟩ := dlow_dig g (c.toNat / 16) (by omega)
  obtain ⟨e1, e2⟩ := dlow_dig g (c.toNat % 16) (by omega)
  have hx : hexB (dlow g (c.toNat / 16)) (dlow g (c.toNat % 16)) = c := by
    unfold hexB
    rw [d1, e1]
    apply UInt8.toNat_inj.1
    rw [UInt8.toNat_ofNat']
    omega
  have hbad : badB (dlow g (c.toNat / 16)) (dlow g (c.toNat % 16)) = !plainB c := by
    unfold badB
    rw [hx, d1, e1]
    have a1 : decide (((c.toNat / 16 : Nat) : Int) < 0) = false := by simp; omega
    have a2 : decide (((c.toNat % 16 : Nat) : Int) < 0) = false := by simp; omega
    rw [a1, a2]; rfl
  generalize dlow g (c.toNat / 16) = x1 at *
  generalize dlow g (c.toNat % 16) = x2 at *
  have hcm : c ∈ s := by rw [← hc]; exact List.getElem_mem hil
  have hs : s = s.take i ++ c :: s.drop (i + 1) := by
    rw [← hc, ← List.drop_eq_getElem_cons hil, List.take_append_drop]
  have hno : (47 :: (s.take i ++ 37 :: x1 :: x2 :: s.drop (i + 1))).contains 63 = false := by
    rw [List.contains_eq_any_beq, List.any_eq_false]
    intro x hx
    have hne : x ≠ 63 := by
      rcases List.mem_cons.1 hx with rfl | hx
      · decide
      rcases List.mem_append.1 hx with hx | hx
      · exact (h3 x (List.mem_of_mem_take hx)).2
      rcases List.mem_cons.1 hx with rfl | hx
      · decide
      rcases List.mem_cons.1 hx with rfl | hx
      · exact d2
      rcases List.mem_cons.1 hx with rfl | hx
      · exact e2
      · exact (h3 x (List.mem_of_mem_drop hx)).2
    simp; exact Ne.symm hne
  have hb := (bef_self hno).1
  have hlen : (47 :: (s.take i ++ 37 :: x1 :: x2 :: s.drop (i + 1))).length ≤ 128 := by
    simp; omega
  have hd : dec (s.take i ++ 37 :: x1 :: x2 :: s.drop (i + 1)) = if plainB c then some s else none := by
    rw [dec_app (fun x hx => (h3 x (List.mem_of_mem_take hx)).1), dec_hex _ (by decide), hbad, dec_plain (fun x hx => (h3 x (List.mem_of_mem_drop hx)).1), hx]
    cases plainB c
    · rfl
    · simp only [Bool.not_true, Bool.false_eq_true, if_false, if_true, Option.map_some]
      rw [← hs]
  unfold ofL
  rw [hb, if_neg (by omega), if_neg (by simp), if_neg (by simp)]
  simp only [List.drop_succ_cons, List.drop_zero, hd]
  by_cases h47 : c = 47
  · subst h47
    rw [if_neg (by decide), if_pos rfl]
  · rw [if_pos (spl_mem_plain hn hcm h47), if_neg h47]
    simp only [hn, if_true]
set_option maxHeartbeats 2000000 in
theorem hex_walk {R : Ending → World → Prop} (s : List UInt8) (at_ : Int) (great : Bool) (w : World) (h0 : 0 ≤ at_) (h1 : at_ ≤ 255) (hd : s.length ≤ 140737488355328) (hm : Ml w) (h : ∀ w', Kp [] w w' → R (.returned (.bool true)) w') :
    Calls Tryd.prog 4 #[.string (S s), .int .u8 at_, .bool great] w R := by
  have H := Lib.hid h
  clear h
  cases hn : nameB s
  · have HN := Lib.hid hn
    clear hn
    go_enter Tryd.func4, Tryd.ntmps4
    go_wp2_with (first | (go_at_call 14; refine alive_any _ hm ?_; intro w1 kk; have mm := hm.kp kk) | (go_at_call 17; ((with_reducible refine name_any s _ (by assumption) ?_); intro w2 k2; rw [HN.out]; have kk := Kp.trans (a := w) (by assumption) k2; have mm := hm.kp kk)))
    exact H.out _ kk
  · have HN := Lib.hid hn
    obtain ⟨hs0, hs24, _⟩ := nameB_bytes hn
    have hlen : 0 < s.length := by cases s with | nil => exact absurd rfl hs0 | cons => simp
    clear hs0
    obtain ⟨i, hi⟩ : ∃ i : Nat, at_ % (s.length : Int) = i := ⟨(at_ % (s.length : Int)).toNat, by have := Int.emod_nonneg at_ (b := (s.length : Int)) (by omega); omega⟩
    have hil : i < s.length := by have := Int.emod_lt_of_pos at_ (b := (s.length : Int)) (by omega); omega
    obtain ⟨c, hc⟩ : ∃ c, s[i]'hil = c := ⟨_, rfl⟩
    have hc255 := c.toNat_lt
    obtain ⟨k1, hk1⟩ : ∃ k : Nat, Int.tdiv (c.toNat : Int) 16 = k := ⟨c.toNat / 16, rfl⟩
    obtain ⟨k2, hk2⟩ : ∃ k : Nat, Int.tmod (c.toNat : Int) 16 = k := ⟨c.toNat % 16, rfl⟩
    have hk1e : k1 = c.toNat / 16 := by
      have : (c.toNat : Int).tdiv 16 = ((c.toNat / 16 : Nat) : Int) := rfl
      omega
    have hk2e : k2 = c.toNat % 16 := by
      have : (c.toNat : Int).tmod 16 = ((c.toNat % 16 : Nat) : Int) := rfl
      omega
    have hk1b : k1 < 16 := by omega
    have hk2b : k2 < 16 := by omega
    have q1 := dlow_at k1 hk1b
    have q2 := dlow_at k2 hk2b
    have q3 := dup_at k1 hk1b
    have q4 := dup_at k2 hk2b
    have HX : Hid (∀ g, ofL (47 :: (s.take i ++ 37 :: dlow g k1 :: dlow g k2 :: s.drop (i + 1))) = if c = 47 then ([], 70) else (s, 0)) := Lib.hid (fun g => by rw [hk1e, hk2e]; exact hex_of hn i hil c hc g)
    clear hk1e hk2e hn
    have s1 : IntKind.u8.wrap ((k1 : Int) + 1) = (k1 : Int) + 1 := IntWalk.u8_in _ (by omega)
    have s2 : IntKind.u8.wrap ((k2 : Int) + 1) = (k2 : Int) + 1 := IntWalk.u8_in _ (by omega)
    have s3 : ((k1 : Int) + 1).toNat = k1 + 1 := by omega
    have s4 : ((k2 : Int) + 1).toNat = k2 + 1 := by omega
    have s5 : (0 : Int) ≤ (k1 : Int) + 1 := by omega
    have s6 : (0 : Int) ≤ (k2 : Int) + 1 := by omega
    have s7 : (k1 : Int) + 1 ≤ 16 := by omega
    have s8 : (k2 : Int) + 1 ≤ 16 := by omega
    have s9 : (k1 : Int) ≤ (k1 : Int) + 1 := by omega
    have s10 : (k2 : Int) ≤ (k2 : Int) + 1 := by omega
    clear hc255
    by_cases h47 : c = 47
    · have b47 : ((c.toNat : Int) == 47) = true := (u8_beq c 47).trans (by simpa using h47)
      have HV0 : ∀ g, ofV (ofL (47 :: (s.take i ++ 37 :: dlow g k1 :: dlow g k2 :: s.drop (i + 1)))) = .tuple #[.string (S []), .int .i64 70] := fun g => by rw [HX.out, if_pos h47]; rfl
      clear h47
      cases great
      · have HV := Lib.hid (HV0 false)
        clear HV0
        go_enter Tryd.func4, Tryd.ntmps4
        go_wp2_with (first | (go_at_call 14; refine alive_any _ hm ?_; intro w1 kk; have mm := hm.kp kk) | (go_at_call 17; ((with_reducible refine name_any s _ (by assumption) ?_); intro w2 k2'; rw [HN.out]; have kk := Kp.trans (a := w) (by assumption) k2'; have mm := hm.kp kk)) | (go_at_call 15; fail))
        go_quiet (fail)
        have kk := kk.drewN nq
        have mm := hm.kp kk
        go_wp2_with (go_at_call 15; ((refine of_any (47 :: (s.take i ++ 37 :: dlow false k1 :: dlow false k2 :: s.drop (i + 1))) _ (by assumption) ?_); intro w3 k3; rw [HV.out]; have kk := Kp.trans (a := w) (by assumption) k3))
        exact H.out _ kk
      · have HV := Lib.hid (HV0 true)
        clear HV0
        go_enter Tryd.func4, Tryd.ntmps4
        go_wp2_with (first | (go_at_call 14; refine alive_any _ hm ?_; intro w1 kk; have mm := hm.kp kk) | (go_at_call 17; ((with_reducible refine name_any s _ (by assumption) ?_); intro w2 k2'; rw [HN.out]; have kk := Kp.trans (a := w) (by assumption) k2'; have mm := hm.kp kk)) | (go_at_call 15; fail))
        go_quiet (fail)
        have kk := kk.drewN nq
        have mm := hm.kp kk
        go_wp2_with (go_at_call 15; ((refine of_any (47 :: (s.take i ++ 37 :: dlow true k1 :: dlow true k2 :: s.drop (i + 1))) _ (by assumption) ?_); intro w3 k3; rw [HV.out]; have kk := Kp.trans (a := w) (by assumption) k3))
        exact H.out _ kk
    · have b47 : ((c.toNat : Int) == 47) = false := (u8_beq c 47).trans (by simpa using h47)
      have HV0 : ∀ g, ofV (ofL (47 :: (s.take i ++ 37 :: dlow g k1 :: dlow g k2 :: s.drop (i + 1)))) = .tuple #[.string (S s), .int .i64 0] := fun g => by rw [HX.out, if_neg h47]; rfl
      clear h47
      cases great
      · have HV := Lib.hid (HV0 false)
        clear HV0
        go_enter Tryd.func4, Tryd.ntmps4
        go_wp2_with (first | (go_at_call 14; refine alive_any _ hm ?_; intro w1 kk; have mm := hm.kp kk) | (go_at_call 17; ((with_reducible refine name_any s _ (by assumption) ?_); intro w2 k2'; rw [HN.out]; have kk := Kp.trans (a := w) (by assumption) k2'; have mm := hm.kp kk)) | (go_at_call 15; fail))
        go_quiet (fail)
        have kk := kk.drewN nq
        have mm := hm.kp kk
        go_wp2_with (go_at_call 15; ((refine of_any (47 :: (s.take i ++ 37 :: dlow false k1 :: dlow false k2 :: s.drop (i + 1))) _ (by assumption) ?_); intro w3 k3; rw [HV.out]; have kk := Kp.trans (a := w) (by assumption) k3))
        exact H.out _ kk
      · have HV := Lib.hid (HV0 true)
        clear HV0
        go_enter Tryd.func4, Tryd.ntmps4
        go_wp2_with (first | (go_at_call 14; refine alive_any _ hm ?_; intro w1 kk; have mm := hm.kp kk) | (go_at_call 17; ((with_reducible refine name_any s _ (by assumption) ?_); intro w2 k2'; rw [HN.out]; have kk := Kp.trans (a := w) (by assumption) k2'; have mm := hm.kp kk)) | (go_at_call 15; fail))
        go_quiet (fail)
        have kk := kk.drewN nq
        have mm := hm.kp kk
        go_wp2_with (go_at_call 15; ((refine of_any (47 :: (s.take i ++ 37 :: dlow true k1 :: dlow true k2 :: s.drop (i + 1))) _ (by assumption) ?_); intro w3 k3; rw [HV.out]; have kk := Kp.trans (a := w) (by assumption) k3))
        exact H.out _ kk
end Go.Proofs.YthppknpeagjcpaaDoor
