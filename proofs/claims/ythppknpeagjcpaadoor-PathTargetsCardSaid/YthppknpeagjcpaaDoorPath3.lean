/- path.Target, path.Kind. -/
import Derived.Test.YthppknpeagjcpaaDoorPath2
namespace Go.Proofs.YthppknpeagjcpaaDoor
open Go.RowKit
set_option linter.unusedVariables false
set_option maxRecDepth 100000

set_option maxHeartbeats 400000 in
theorem target_any {R : Ending → World → Prop} (l : List UInt8) (w : World) (hm : Ml w)
    (h : ∀ w', Kp [] w w' → R (.returned (.tuple #[.string (S (if nameB l then 47 :: l else [])), .int .i64 (if nameB l then 0 else 70)])) w') : Calls Tryd.prog 18 #[.string (S l)] w R := by
  have H := Lib.hid h
  clear h
  cases hn : nameB l
  · have HN := Lib.hid hn
    clear hn
    go_enter Tryd.func18, Tryd.ntmps18
    go_wp2_with (go_at_call 17; refine name_any l _ hm ?_; intro w1 hk; rw [HN.out])
    refine rcast (H.out w1 hk) ?_; rw [HN.out]; rfl
  · have hl24 : l.length ≤ 24 := by
      unfold nameB at hn
      rw [Bool.and_eq_true, decide_eq_true_iff] at hn
      exact hn.1
    have HN := Lib.hid hn
    clear hn
    go_enter Tryd.func18, Tryd.ntmps18
    go_wp2_with (go_at_call 17; refine name_any l _ hm ?_; intro w1 hk; rw [HN.out])
    refine rcast (H.out w1 hk) ?_; rw [HN.out]; rfl
theorem last_j (l : List UInt8) (c : UInt8) : ∃ j : Nat, Lib.lastIndex l [c] = (j : Int) - 1 ∧ j ≤ l.length ∧ l.drop j = lst c l := by
  have h := last_lst l c
  rcases last_cases l c with ⟨e, _⟩ | ⟨i, e, hi, _⟩
  · exact ⟨0, by rw [e]; rfl, Nat.zero_le _, by rw [← h, e]; rfl⟩
  · exact ⟨i + 1, by rw [e]; omega, hi, by rw [← h, e]; rfl⟩
def octS : List UInt8 := [97, 112, 112, 108, 105, 99, 97, 116, 105, 111, 110, 47, 111, 99, 116, 101, 116, 45, 115, 116, 114, 101, 97, 109]
def extK (x : List UInt8) : List UInt8 :=
  if x = [104, 116, 109, 108] then [116, 101, 120, 116, 47, 104, 116, 109, 108] else if x = [99, 115, 115] then [116, 101, 120, 116, 47, 99, 115, 115] else if x = [116, 120, 116] then [116, 101, 120, 116, 47, 112, 108, 97, 105, 110] else if x = [106, 115] then [116, 101, 120, 116, 47, 106, 97, 118, 97, 115, 99, 114, 105, 112, 116] else if x = [112, 110, 103] then [105, 109, 97, 103, 101, 47, 112, 110, 103] else if x = [106, 115, 111, 110] then [97, 112, 112, 108, 105, 99, 97, 116, 105, 111, 110, 47, 106, 115, 111, 110] else octS
def kindL (l : List UInt8) : List UInt8 := if (lst 47 l).contains 46 then extK (lst 46 (lst 47 l)) else octS
theorem cat_lit (a b : List UInt8) : (⟨a.toArray⟩ : ByteArray) ++ S b = S (a ++ b) := S_append a b
theorem lst_len (c : UInt8) (l : List UInt8) : (lst c l).length ≤ l.length := by
  obtain ⟨j, _, _, h⟩ := last_j l c
  rw [← h, List.length_drop]; omega
set_option maxHeartbeats 1000000 in
theorem kind_any {R : Ending → World → Prop} (l : List UInt8) (w : World) (h0 : l.length ≤ 1000000)
    (h : R (.returned (.string (S (kindL l)))) w) : Calls Tryd.prog 19 #[.string (S l)] w R := by
  have H := Lib.hid h
  clear h
  obtain ⟨j, hj, hjl, he⟩ := last_j l 47
  have HJ := Lib.hid hj
  clear hj
  have hml := lst_len 47 l
  have HK : Hid (kindL l = if (lst 47 l).contains 46 then extK (lst 46 (lst 47 l)) else octS) := Lib.hid rfl
  generalize kindL l = res at *
  generalize lst 47 l = m at *
  rcases last_cases m 46 with ⟨e, hc⟩ | ⟨i, e, hi, hm, hc⟩
  · have E := Lib.hid e
    have HC := Lib.hid hc
    clear e hc
    go_enter Tryd.func19, Tryd.ntmps19
    go_wp2_with (go_at_call 55; first | ((with_reducible refine last_any l 47 h0 ?_); rw [HJ.out]) | ((with_reducible refine last_any m 46 (by omega) ?_); rw [E.out]))
    have := HK.out
    rw [HC.out] at this
    subst this
    exact H.out
  · have E := Lib.hid e
    have hx : lst 46 m = m.drop (i + 1) := by
      conv => lhs; rw [hm]
      exact lst_append 46 _ _ hc
    have hcc : m.contains 46 = true := by rw [hm]; simp
    have HX : Hid (res = extK (m.drop (i + 1))) := by
      have := HK.out
      rw [hcc, if_pos rfl, hx] at this
      exact Lib.hid this
    clear e hc hm hx hcc HK
    have hxl : (m.drop (i + 1)).length + (i + 1) = m.length := by rw [List.length_drop]; omega
    obtain ⟨x, hx⟩ : ∃ x, m.drop (i + 1) = x := ⟨_, rfl⟩
    rw [hx] at HX
    rw [hx] at hxl
    by_cases c0 : x = [104, 116, 109, 108]
    · subst c0
      have := HX.out
      subst this
      go_enter Tryd.func19, Tryd.ntmps19
      go_wp2_with (go_at_call 55; first | ((with_reducible refine last_any l 47 h0 ?_); rw [HJ.out]) | ((with_reducible refine last_any m 46 (by omega) ?_); rw [E.out]))
      exact H.out
    by_cases c1 : x = [99, 115, 115]
    · subst c1
      have := HX.out
      subst this
      go_enter Tryd.func19, Tryd.ntmps19
      go_wp2_with (go_at_call 55; first | ((with_reducible refine last_any l 47 h0 ?_); rw [HJ.out]) | ((with_reducible refine last_any m 46 (by omega) ?_); rw [E.out]))
      exact H.out
    by_cases c2 : x = [116, 120, 116]
    · subst c2
      have := HX.out
      subst this
      go_enter Tryd.func19, Tryd.ntmps19
      go_wp2_with (go_at_call 55; first | ((with_reducible refine last_any l 47 h0 ?_); rw [HJ.out]) | ((with_reducible refine last_any m 46 (by omega) ?_); rw [E.out]))
      exact H.out
    by_cases c3 : x = [106, 115]
    · subst c3
      have := HX.out
      subst this
      go_enter Tryd.func19, Tryd.ntmps19
      go_wp2_with (go_at_call 55; first | ((with_reducible refine last_any l 47 h0 ?_); rw [HJ.out]) | ((with_reducible refine last_any m 46 (by omega) ?_); rw [E.out]))
      exact H.out
    by_cases c4 : x = [112, 110, 103]
    · subst c4
      have := HX.out
      subst this
      go_enter Tryd.func19, Tryd.ntmps19
      go_wp2_with (go_at_call 55; first | ((with_reducible refine last_any l 47 h0 ?_); rw [HJ.out]) | ((with_reducible refine last_any m 46 (by omega) ?_); rw [E.out]))
      exact H.out
    by_cases c5 : x = [106, 115, 111, 110]
    · subst c5
      have := HX.out
      subst this
      go_enter Tryd.func19, Tryd.ntmps19
      go_wp2_with (go_at_call 55; first | ((with_reducible refine last_any l 47 h0 ?_); rw [HJ.out]) | ((with_reducible refine last_any m 46 (by omega) ?_); rw [E.out]))
      exact H.out
    have d0 : (x == [104, 116, 109, 108]) = false := by simpa using c0
    have d1 : (x == [99, 115, 115]) = false := by simpa using c1
    have d2 : (x == [116, 120, 116]) = false := by simpa using c2
    have d3 : (x == [106, 115]) = false := by simpa using c3
    have d4 : (x == [112, 110, 103]) = false := by simpa using c4
    have d5 : (x == [106, 115, 111, 110]) = false := by simpa using c5
    have HX : Hid (res = octS) := by
      have := HX.out
      unfold extK at this
      rw [if_neg c0, if_neg c1, if_neg c2, if_neg c3, if_neg c4, if_neg c5] at this
      exact Lib.hid this
    clear c0 c1 c2 c3 c4 c5
    go_enter Tryd.func19, Tryd.ntmps19
    go_wp2_with (go_at_call 55; first | ((with_reducible refine last_any l 47 h0 ?_); rw [HJ.out]) | ((with_reducible refine last_any m 46 (by omega) ?_); rw [E.out]))
    have := HX.out
    subst this
    exact H.out
end Go.Proofs.YthppknpeagjcpaaDoor
