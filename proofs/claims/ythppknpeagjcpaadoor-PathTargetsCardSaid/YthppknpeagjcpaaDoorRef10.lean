/- The document's small functions of paths: plain, digit, Name. -/
import Derived.Test.YthppknpeagjcpaaDoorLawHex
namespace Go.Proofs.YthppknpeagjcpaaDoor
open Go.RowKit
set_option linter.unusedVariables false
set_option maxRecDepth 100000

def plainK : List UInt8 := [97, 98, 99, 100, 101, 102, 103, 104, 105, 106, 107, 108, 109, 110, 111, 112, 113, 114, 115, 116, 117, 118, 119, 120, 121, 122, 65, 66, 67, 68, 69, 70, 71, 72, 73, 74, 75, 76, 77, 78, 79, 80, 81, 82, 83, 84, 85, 86, 87, 88, 89, 90, 48, 49, 50, 51, 52, 53, 54, 55, 56, 57, 46, 45, 95]
def digK : List UInt8 := [48, 49, 50, 51, 52, 53, 54, 55, 56, 57, 97, 98, 99, 100, 101, 102, 48, 49, 50, 51, 52, 53, 54, 55, 56, 57, 65, 66, 67, 68, 69, 70]
theorem plainK_is (c : UInt8) : plainK.contains c = plainB c := by
  have : ∀ n : Fin 256, plainK.contains (UInt8.ofNat n.1) = plainB (UInt8.ofNat n.1) := by decide +kernel
  have h := this ⟨c.toNat, c.toNat_lt⟩
  simpa using h
theorem digK_none (c : UInt8) (h : digK.contains c = false) : digI c = -1 := by
  have : ∀ n : Fin 256, digK.contains (UInt8.ofNat n.1) = false → digI (UInt8.ofNat n.1) = -1 := by decide +kernel
  have h' := this ⟨c.toNat, c.toNat_lt⟩
  simp only [UInt8.ofNat_toNat] at h'
  exact h' h
theorem digK_at (k : Nat) (h : k < 32) (c : UInt8) (hc : digK[k]? = some c) : digI c = ((k % 16 : Nat) : Int) := by
  have : ∀ n : Fin 32, ∀ c, digK[n.1]? = some c → digI c = ((n.1 % 16 : Nat) : Int) := by
    intro n c h
    have h2 : ∀ n : Fin 32, (digK[n.1]?).map digI = some ((n.1 % 16 : Nat) : Int) := by decide +kernel
    have := h2 n
    rw [h] at this
    simpa using this
  exact this ⟨k, h⟩ c hc
theorem cont_snoc {α : Type} [BEq α] [LawfulBEq α] (l : List α) (c : α) (k : Nat) (h : k < l.length) : (l.take (k + 1)).contains c = ((l.take k).contains c || (l[k] == c)) := by
  rw [List.take_succ_eq_append_getElem h, List.contains_eq_any_beq, List.contains_eq_any_beq, List.any_append]
  simp [Bool.beq_comm]
theorem cont_hit {l : List UInt8} {c : UInt8} {k : Nat} (h : k < l.length) (e : l[k] = c) : l.contains c = true := by
  rw [List.contains_iff_mem]; rw [← e]; exact List.getElem_mem h
theorem plainK_lit : (⟨(List.append [97, 98, 99, 100, 101, 102, 103, 104, 105, 106, 107, 108, 109, 110, 111, 112, 113, 114, 115, 116, 117, 118, 119, 120, 121, 122, 65, 66, 67, 68, 69, 70] [71, 72, 73, 74, 75, 76, 77, 78, 79, 80, 81, 82, 83, 84, 85, 86, 87, 88, 89, 90, 48, 49, 50, 51, 52, 53, 54, 55, 56, 57, 46, 45, 95]).toArray⟩ : ByteArray) = S plainK := rfl
set_option maxHeartbeats 1000000 in
theorem rplain_any {R : Ending → World → Prop} (c : UInt8) (w : World) (h : R (.returned (.bool (plainB c))) w) : Calls Tryd.prog 56 #[.int .u8 c.toNat] w R := by
  have H := Lib.hid h
  clear h
  go_enter Tryd.func56, Tryd.ntmps56
  go_wp2
  rw [plainK_lit]
  have HK := Lib.hid (plainK_is c)
  have hl : plainK.length = 65 := rfl
  generalize plainK = K at *
  go_loop [4] (fun i => ∃ k : Nat, k ≤ K.length ∧ i = .int .i64 k ∧ Hid ((K.take k).contains c = false)) (fun i => K.length - (intOf i).toNat)
  case atStart => exact ⟨0, Nat.zero_le _, rfl, Lib.hid rfl⟩
  case round =>
    obtain ⟨k, hk, rfl, ha⟩ := hrel
    by_cases hlt : k < K.length
    · obtain ⟨x, hx⟩ : ∃ x, K[k]'hlt = x := ⟨_, rfl⟩
      by_cases hc : x = c
      · have b : ((x.toNat : Int) == (c.toNat : Int)) = true := (u8_beq x c).trans (by simpa using hc)
        have hh : plainB c = true := by rw [← HK.out]; exact cont_hit hlt (hx.trans hc)
        have HH := Lib.hid hh
        clear hc hh
        go_wp2
        exact rcast H.out (by rw [HH.out])
      · have b : ((x.toNat : Int) == (c.toNat : Int)) = false := (u8_beq x c).trans (by simpa using hc)
        have HX : Hid ((K.take (k + 1)).contains c = false) := by
          refine Lib.hid ?_
          rw [cont_snoc K c k hlt, ha.out, hx]; simpa using hc
        clear hc
        go_wp2
        go_round
        case rel => exact ⟨k + 1, by omega, by go_num, HX⟩
        case measure => simp [intOf]; omega
    · go_wp2
      refine rcast H.out (congrArg Value.bool ?_)
      have := ha.out
      rw [List.take_of_length_le (by omega), HK.out] at this
      exact this
theorem digK_lit : (⟨#[48, 49, 50, 51, 52, 53, 54, 55, 56, 57, 97, 98, 99, 100, 101, 102, 48, 49, 50, 51, 52, 53, 54, 55, 56, 57, 65, 66, 67, 68, 69, 70]⟩ : ByteArray) = S digK := rfl
set_option maxHeartbeats 1000000 in
theorem rdigit_any {R : Ending → World → Prop} (c : UInt8) (w : World) (h : R (.returned (.int .i64 (digI c))) w) : Calls Tryd.prog 52 #[.int .u8 c.toNat] w R := by
  have H := Lib.hid h
  clear h
  go_enter Tryd.func52, Tryd.ntmps52
  go_wp2
  rw [digK_lit]
  have HK := Lib.hid (digK_none c)
  have HA := Lib.hid (fun k h => digK_at k h c)
  have hl : digK.length = 32 := rfl
  generalize digK = K at *
  go_loop [4] (fun i => ∃ k : Nat, k ≤ K.length ∧ i = .int .i64 k ∧ Hid ((K.take k).contains c = false)) (fun i => K.length - (intOf i).toNat)
  case atStart => exact ⟨0, Nat.zero_le _, rfl, Lib.hid rfl⟩
  case round =>
    obtain ⟨k, hk, rfl, ha⟩ := hrel
    by_cases hlt : k < K.length
    · obtain ⟨x, hx⟩ : ∃ x, K[k]'hlt = x := ⟨_, rfl⟩
      by_cases hc : x = c
      · have b : ((x.toNat : Int) == (c.toNat : Int)) = true := (u8_beq x c).trans (by simpa using hc)
        have hh := HA.out k (by omega) (by rw [List.getElem?_eq_getElem hlt, hx, hc])
        have HH := Lib.hid hh
        clear hc hh
        go_wp2
        exact ricast H.out (by rw [HH.out]; omega)
      · have b : ((x.toNat : Int) == (c.toNat : Int)) = false := (u8_beq x c).trans (by simpa using hc)
        have HX : Hid ((K.take (k + 1)).contains c = false) := by
          refine Lib.hid ?_
          rw [cont_snoc K c k hlt, ha.out, hx]; simpa using hc
        clear hc
        go_wp2
        go_round
        case rel => exact ⟨k + 1, by omega, by go_num, HX⟩
        case measure => simp [intOf]; omega
    · go_wp2
      refine ricast H.out ?_
      have := ha.out
      rw [List.take_of_length_le (by omega)] at this
      exact HK.out this
theorem take_drop_one {l : List UInt8} {k : Nat} (h : k < l.length) : (l.take (k + 1)).drop k = [l[k]] := by
  rw [List.drop_take, Nat.add_sub_cancel_left, List.drop_eq_getElem_cons h]; rfl
theorem spl_app {c : UInt8} {p r : List UInt8} (h : p.contains c = false) : spl c (p ++ c :: r) = p :: spl c r := by
  rw [spl_eq, if_pos (by simp), bef_app h]
  congr 1
  congr 1
  induction p with
  | nil => simp [aft]
  | cons x p ih =>
    rw [List.contains_cons, Bool.or_eq_false_iff] at h
    have e : ¬ x = c := by have := h.1; simp at this; exact Ne.symm this
    rw [List.cons_append, aft, if_neg e, ih h.2]
theorem spl_none {c : UInt8} {p : List UInt8} (h : p.contains c = false) : spl c p = [p] := by
  rw [spl_eq, h]; rfl
theorem plain_not47 {p : List UInt8} (h : p.all plainB = true) : p.contains 47 = false := by
  rw [List.contains_eq_any_beq, List.any_eq_false]
  intro x hx
  rw [List.all_eq_true] at h
  have := (plainB_not (h x hx)).2.2
  simp only [beq_iff_eq]
  rintro rfl
  exact this rfl
theorem segB_of {p : List UInt8} (h : p.all plainB = true) : segB p = (!(p == []) && !(p == [46]) && !(p == [46, 46])) := by
  unfold segB; rw [h, Bool.and_true]
set_option maxHeartbeats 2000000 in
theorem rname_any {R : Ending → World → Prop} (l : List UInt8) (w : World) (h : R (.returned (.bool (nameB l))) w) : Calls Tryd.prog 20 #[.string (S l)] w R := by
  have H := Lib.hid h
  clear h
  by_cases hl : l.length < 1 ∨ 24 < l.length
  · have hf : nameB l = false := by
      rcases hl with h | h
      · have : l = [] := by cases l with | nil => rfl | cons => simp at h
        subst this; decide +kernel
      · unfold nameB; rw [decide_eq_false (by omega)]; rfl
    have HF := Lib.hid hf
    clear hf
    rcases hl with hl | hl
    all_goals
      go_enter Tryd.func20, Tryd.ntmps20
      go_wp2
      exact rcast H.out (congrArg Value.bool HF.out)
  · have h1 : 1 ≤ l.length := by omega
    have h24 : l.length ≤ 24 := by omega
    have HN : Hid (nameB l = (spl 47 l).all segB) := by
      refine Lib.hid ?_
      unfold nameB; rw [decide_eq_true h24, Bool.true_and]
    clear hl
    go_enter Tryd.func20, Tryd.ntmps20
    go_wp2
    go_loop [3, 4] (fun part i => ∃ (k : Nat) (p : List UInt8), part = .string (S p) ∧ i = .int .i64 k ∧ p.length ≤ k ∧ Hid (p.all plainB = true) ∧ ((k ≤ l.length ∧ Hid (nameB l = (spl 47 (p ++ l.drop k)).all segB)) ∨ (k = l.length + 1 ∧ Hid (nameB l = true)))) (fun _ i => l.length + 1 - (intOf i).toNat)
    case atStart => exact ⟨0, [], rfl, rfl, Nat.le_refl _, Lib.hid rfl, .inl ⟨Nat.zero_le _, by simpa using HN⟩⟩
    case round =>
      obtain ⟨k, p, rfl, rfl, hpk, hp, hor⟩ := hrel
      rcases hor with ⟨hk, hi⟩ | ⟨rfl, hi⟩
      · by_cases hlt : k < l.length
        · obtain ⟨x, hx⟩ : ∃ x, l[k]'hlt = x := ⟨_, rfl⟩
          have n1 : ((k : Int) == (l.length : Int)) = false := by simp; omega
          have n2 : (k == l.length) = false := by simp; omega
          have n3 : ¬ k = l.length := by omega
          have hdr : l.drop k = x :: l.drop (k + 1) := by rw [List.drop_eq_getElem_cons hlt, hx]
          by_cases h47 : x = 47
          · have b : ((x.toNat : Int) == 47) = true := (u8_beq x 47).trans (by simpa using h47)
            have HJ : Hid (nameB l = (segB p && (spl 47 (l.drop (k + 1))).all segB)) := by
              refine Lib.hid ?_
              rw [hi.out, hdr, h47, spl_app (plain_not47 hp.out), List.all_cons]
            clear h47 hdr hi
            by_cases c0 : p = []
            · subst c0
              have HS := Lib.hid (show nameB l = false by rw [HJ.out]; rfl)
              go_wp2
              exact rcast H.out (congrArg Value.bool HS.out)
            by_cases c1 : p = [46]
            · subst c1
              have HS := Lib.hid (show nameB l = false by rw [HJ.out]; rfl)
              go_wp2
              exact rcast H.out (congrArg Value.bool HS.out)
            by_cases c2 : p = [46, 46]
            · subst c2
              have HS := Lib.hid (show nameB l = false by rw [HJ.out]; rfl)
              go_wp2
              exact rcast H.out (congrArg Value.bool HS.out)
            have d0 : p.isEmpty = false := by simpa using c0
            have d1 : (p == [46]) = false := by simpa using c1
            have d2 : (p == [46, 46]) = false := by simpa using c2
            have d3 : (p == []) = false := by simpa using c0
            have HI : Hid (nameB l = (spl 47 ([] ++ l.drop (k + 1))).all segB) := by
              refine Lib.hid ?_
              rw [HJ.out, segB_of hp.out, d1, d2, d3]; rfl
            clear c0 c1 c2
            go_wp2
            go_round
            case rel => exact ⟨k + 1, [], rfl, by go_num, Nat.zero_le _, Lib.hid rfl, .inl ⟨by omega, HI⟩⟩
            case measure => simp [intOf]; omega
          · have b : ((x.toNat : Int) == 47) = false := (u8_beq x 47).trans (by simpa using h47)
            cases hpl : plainB x
            · have HS : Hid (nameB l = false) := by
                refine Lib.hid ?_
                cases hq : nameB l
                · rfl
                · exfalso
                  have hm : x ∈ l := by rw [← hx]; exact List.getElem_mem hlt
                  have := spl_mem_plain hq hm h47
                  rw [hpl] at this; cases this
              have HP := Lib.hid hpl
              clear h47 hdr hi hpl
              go_wp2_with (go_at_call 56; refine rplain_any _ _ ?_; rw [HP.out])
              exact rcast H.out (congrArg Value.bool HS.out)
            · have hdt : (l.take (k + 1)).drop k = [x] := by rw [take_drop_one hlt, hx]
              have HI : Hid (nameB l = (spl 47 ((p ++ [x]) ++ l.drop (k + 1))).all segB) := by
                refine Lib.hid ?_
                rw [hi.out, hdr]; simp
              have HQ : Hid ((p ++ [x]).all plainB = true) := by
                refine Lib.hid ?_
                rw [List.all_append, hp.out]; simp [hpl]
              have HP := Lib.hid hpl
              clear h47 hdr hi hpl
              go_wp2_with (go_at_call 56; refine rplain_any _ _ ?_; rw [HP.out])
              go_round
              case rel => exact ⟨k + 1, p ++ [x], rfl, by go_num, by simp; omega, HQ, .inl ⟨by omega, HI⟩⟩
              case measure => simp [intOf]; omega
        · obtain rfl : k = l.length := by omega
          have HJ : Hid (nameB l = segB p) := by
            refine Lib.hid ?_
            rw [hi.out, List.drop_length, List.append_nil, spl_none (plain_not47 hp.out)]; simp
          clear hi
          by_cases c0 : p = []
          · subst c0
            have HS := Lib.hid (show nameB l = false by rw [HJ.out]; rfl)
            go_wp2
            exact rcast H.out (congrArg Value.bool HS.out)
          by_cases c1 : p = [46]
          · subst c1
            have HS := Lib.hid (show nameB l = false by rw [HJ.out]; rfl)
            go_wp2
            exact rcast H.out (congrArg Value.bool HS.out)
          by_cases c2 : p = [46, 46]
          · subst c2
            have HS := Lib.hid (show nameB l = false by rw [HJ.out]; rfl)
            go_wp2
            exact rcast H.out (congrArg Value.bool HS.out)
          have d0 : p.isEmpty = false := by simpa using c0
          have d1 : (p == [46]) = false := by simpa using c1
          have d2 : (p == [46, 46]) = false := by simpa using c2
          have d3 : (p == []) = false := by simpa using c0
          have HI : Hid (nameB l = true) := by
            refine Lib.hid ?_
            rw [HJ.out, segB_of hp.out, d1, d2, d3]; rfl
          clear c0 c1 c2
          go_wp2
          go_round
          case rel => exact ⟨l.length + 1, [], rfl, by go_num, Nat.zero_le _, Lib.hid rfl, .inr ⟨rfl, HI⟩⟩
          case measure => simp [intOf]
      · go_wp2
        exact rcast H.out (congrArg Value.bool hi.out)
end Go.Proofs.YthppknpeagjcpaaDoor
