/- The document's Kind. -/
import Derived.Test.YthppknpeagjcpaaDoorRef10
namespace Go.Proofs.YthppknpeagjcpaaDoor
open Go.RowKit
set_option linter.unusedVariables false
set_option maxRecDepth 100000

theorem lst_snoc (c x : UInt8) (l : List UInt8) : lst c (l ++ [x]) = if x = c then [] else lst c l ++ [x] := by
  unfold lst
  rw [List.reverse_append, List.reverse_singleton, List.singleton_append, List.takeWhile_cons]
  by_cases h : x = c
  · subst h; simp
  · have : (x == c) = false := by simpa using h
    simp [this, h]
/-- Behind the last stroke of t: is there a dot, and what stands behind the last one. -/
def kst (t : List UInt8) : Bool × List UInt8 := ((lst 47 t).contains 46, lst 46 (lst 47 t))
theorem kst_snoc (t : List UInt8) (x : UInt8) : kst (t ++ [x]) = if x = 47 then (false, []) else if x = 46 then (true, []) else ((kst t).1, (kst t).2 ++ [x]) := by
  unfold kst
  rw [lst_snoc]
  by_cases h : x = 47
  · subst h; rfl
  · rw [if_neg h, if_neg h, lst_snoc]
    by_cases h2 : x = 46
    · subst h2; simp
    · rw [if_neg h2, if_neg h2]
      have : (x == 46) = false := by simpa using h2
      have h3 : ¬ 46 = x := Ne.symm h2
      simp [h3]
theorem kindL_kst (l : List UInt8) : kindL l = if (kst l).1 then extK (kst l).2 else octS := rfl
theorem kst_len (t : List UInt8) : (kst t).2.length ≤ t.length := Nat.le_trans (lst_len _ _) (lst_len _ _)
set_option maxHeartbeats 2000000 in
theorem rkind_any {R : Ending → World → Prop} (l : List UInt8) (w : World) (h0 : l.length ≤ 1000000) (h : R (.returned (.string (S (kindL l)))) w) : Calls Tryd.prog 21 #[.string (S l)] w R := by
  have H := Lib.hid h
  clear h
  go_enter Tryd.func21, Tryd.ntmps21
  go_wp2
  go_loop [3, 4, 5] (fun end_ dot i => ∃ (k : Nat) (q : Bool × List UInt8), end_ = .string (S q.2) ∧ dot = .bool q.1 ∧ i = .int .i64 k ∧ k ≤ l.length ∧ q.2.length ≤ k ∧ Hid (kst (l.take k) = q)) (fun _ _ i => l.length - (intOf i).toNat)
  case atStart => exact ⟨0, (false, []), rfl, rfl, rfl, Nat.zero_le _, Nat.le_refl _, Lib.hid rfl⟩
  case round =>
    obtain ⟨k, ⟨d, e⟩, rfl, rfl, rfl, hk, he, hq⟩ := hrel
    simp only at he hq
    by_cases hlt : k < l.length
    · obtain ⟨x, hx⟩ : ∃ x, l[k]'hlt = x := ⟨_, rfl⟩
      have hs : kst (l.take (k + 1)) = if x = 47 then (false, []) else if x = 46 then (true, []) else (d, e ++ [x]) := by
        rw [List.take_succ_eq_append_getElem hlt, hx, kst_snoc, hq.out]
      have hdt : (l.take (k + 1)).drop k = [x] := by rw [take_drop_one hlt, hx]
      by_cases h47 : x = 47
      · have b : ((x.toNat : Int) == 47) = true := (u8_beq x 47).trans (by simpa using h47)
        rw [if_pos h47] at hs
        have HS := Lib.hid hs
        clear hs h47 hq
        go_wp2
        go_round
        case rel => exact ⟨k + 1, (false, []), rfl, rfl, by go_num, by omega, Nat.zero_le _, HS⟩
        case measure => simp [intOf]; omega
      · have b : ((x.toNat : Int) == 47) = false := (u8_beq x 47).trans (by simpa using h47)
        rw [if_neg h47] at hs
        by_cases h46 : x = 46
        · have b2 : ((x.toNat : Int) == 46) = true := (u8_beq x 46).trans (by simpa using h46)
          rw [if_pos h46] at hs
          have HS := Lib.hid hs
          clear hs h47 h46 hq
          go_wp2
          go_round
          case rel => exact ⟨k + 1, (true, []), rfl, rfl, by go_num, by omega, Nat.zero_le _, HS⟩
          case measure => simp [intOf]; omega
        · have b2 : ((x.toNat : Int) == 46) = false := (u8_beq x 46).trans (by simpa using h46)
          rw [if_neg h46] at hs
          have HS := Lib.hid hs
          clear hs h47 h46 hq
          go_wp2
          go_round
          case rel => exact ⟨k + 1, (d, e ++ [x]), rfl, rfl, by go_num, by omega, by simp; omega, HS⟩
          case measure => simp [intOf]; omega
    · have hl : l.take k = l := List.take_of_length_le (by omega)
      have HK : Hid (kindL l = if d then extK e else octS) := by
        refine Lib.hid ?_
        have := hq.out
        rw [hl] at this
        rw [kindL_kst, this]
      clear hq hl
      cases d
      · go_wp2
        exact rcast H.out (congrArg (fun x => Value.string (S x)) HK.out)
      · generalize kindL l = res at *
        by_cases c0 : e = [104, 116, 109, 108]
        · subst c0
          have := HK.out
          subst this
          go_wp2
          exact H.out
        by_cases c1 : e = [116, 120, 116]
        · subst c1
          have := HK.out
          subst this
          go_wp2
          exact H.out
        by_cases c2 : e = [99, 115, 115]
        · subst c2
          have := HK.out
          subst this
          go_wp2
          exact H.out
        by_cases c3 : e = [106, 115]
        · subst c3
          have := HK.out
          subst this
          go_wp2
          exact H.out
        by_cases c4 : e = [112, 110, 103]
        · subst c4
          have := HK.out
          subst this
          go_wp2
          exact H.out
        by_cases c5 : e = [106, 115, 111, 110]
        · subst c5
          have := HK.out
          subst this
          go_wp2
          exact H.out
        have d0 : (e == [104, 116, 109, 108]) = false := by simpa using c0
        have d1 : (e == [116, 120, 116]) = false := by simpa using c1
        have d2 : (e == [99, 115, 115]) = false := by simpa using c2
        have d3 : (e == [106, 115]) = false := by simpa using c3
        have d4 : (e == [112, 110, 103]) = false := by simpa using c4
        have d5 : (e == [106, 115, 111, 110]) = false := by simpa using c5
        have HX : Hid (res = octS) := by
          have := HK.out
          rw [if_pos rfl] at this
          unfold extK at this
          rw [if_neg c0, if_neg c2, if_neg c1, if_neg c3, if_neg c4, if_neg c5] at this
          exact Lib.hid this
        clear c0 c1 c2 c3 c4 c5
        go_wp2
        have := HX.out
        subst this
        exact H.out
end Go.Proofs.YthppknpeagjcpaaDoor
