/- path.Name. -/
import Derived.Test.YtnpkfhnhcadgeaaDoorPath1
import Derived.Test.YtnpkfhnhcadgeaaDoorLib
namespace Go.Proofs.YtnpkfhnhcadgeaaDoor
open Go.RowKit
set_option linter.unusedVariables false

def nameB (l : List UInt8) : Bool := decide (l.length ≤ 24) && (spl 47 l).all segB
theorem strs_at {ps : List (List UInt8)} {n : Nat} {p : List UInt8} (h : ps[n]? = some p) : (strs ps)[n]? = some (.string (S p)) := by simp [strs, h]
theorem allof_snoc {α : Type} (l : List α) (p : α → Bool) (k : Nat) {x : α} (h : l[k]? = some x) : (l.take (k + 1)).all p = ((l.take k).all p && p x) := by
  obtain ⟨hk, hx⟩ := List.getElem?_eq_some_iff.1 h
  rw [List.take_succ_eq_append_getElem hk, List.all_append, hx]; simp
theorem allof_stop {α : Type} {l : List α} {p : α → Bool} {x : α} {k : Nat} (h : l[k]? = some x) (hn : p x = false) : l.all p = false := by
  rw [List.all_eq_false]; exact ⟨x, List.mem_of_getElem? h, by simp [hn]⟩
set_option maxHeartbeats 800000 in
theorem name_any {R : Ending → World → Prop} (l : List UInt8) (w : World) (hm : Ml w) (h : ∀ w', Kp [] w w' → R (.returned (.bool (nameB l))) w') : Calls Tryd.prog 31 #[.string (S l)] w R := by
  have H := Lib.hid h
  clear h
  by_cases hl : l.length ≤ 24
  · go_enter Tryd.func31, Tryd.ntmps31
    go_wp2_with (go_at_call 45; refine split_any l 47 hm (by omega) ?_; intro g w1 hg hb hk)
    have HK := Lib.hid hk
    clear hk
    have hml := spl_mem_len 47 l
    have HM := Lib.hid hml
    clear hml
    have hnn : (spl 47 l).length ≤ l.length + 1 := by rw [spl_len]; have := List.count_le_length (a := (47 : UInt8)) (l := l); omega
    have HN : nameB l = (spl 47 l).all segB := by unfold nameB; rw [decide_eq_true hl, Bool.true_and]
    have HN := Lib.hid HN
    generalize spl 47 l = ps at *
    go_loop [11] (fun k => ∃ n : Nat, n ≤ ps.length ∧ k = .int .i64 n ∧ (ps.take n).all segB = true) (fun k => ps.length - (intOf k).toNat)
    case atStart => exact ⟨0, Nat.zero_le _, rfl, by simp⟩
    case round =>
      obtain ⟨n, hn, rfl, ha⟩ := hrel
      have HA := Lib.hid ha
      clear ha
      by_cases hlt : n < ps.length
      · obtain ⟨p, hp⟩ : ∃ p, ps[n]? = some p := ⟨_, List.getElem?_eq_getElem hlt⟩
        have HP := Lib.hid hp
        have hc : w1.cell? ⟨g, n, none⟩ = some (.string (S p)) := by rw [hb.cell, strs_at hp]
        have hpl := HM.out p (List.mem_of_getElem? hp)
        clear hp
        cases hs : segB p
        · have HS := Lib.hid hs
          clear hs
          go_wp2_with (go_at_call 46; refine seg_any _ _ (by omega) ?_; rw [HS.out])
          refine rcast (H.out w1 HK.out) (congrArg Value.bool ?_)
          rw [HN.out, allof_stop HP.out HS.out]
        · have HS := Lib.hid hs
          clear hs
          go_wp2_with (go_at_call 46; refine seg_any _ _ (by omega) ?_; rw [HS.out])
          go_round
          case rel => exact ⟨n + 1, by omega, by go_num, by rw [allof_snoc ps _ n HP.out, HA.out, HS.out]; rfl⟩
          case measure => simp [intOf]; omega
      · go_wp2
        refine rcast (H.out w1 HK.out) (congrArg Value.bool ?_)
        have e : n = ps.length := by omega
        subst e
        have := HA.out
        rw [List.take_length] at this
        rw [HN.out, this]
  · go_enter Tryd.func31, Tryd.ntmps31
    go_wp2
    refine rcast (H.out w (Kp.refl _ _)) (congrArg Value.bool ?_)
    unfold nameB; rw [decide_eq_false hl, Bool.false_and]
end Go.Proofs.YtnpkfhnhcadgeaaDoor
