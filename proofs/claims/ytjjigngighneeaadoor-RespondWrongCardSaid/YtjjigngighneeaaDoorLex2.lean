/- Numbers of digits. -/
import Derived.Test.YtjjigngighneeaaDoorLex1
namespace Go.Proofs.YtjjigngighneeaaDoor
open Go.RowKit
set_option linter.unusedVariables false
set_option linter.unusedSimpArgs false
set_option maxRecDepth 100000

def digB (c : UInt8) : Bool := decide (48 ≤ c.toNat) && decide (c.toNat ≤ 57)
def numN (l : List UInt8) : Nat := l.foldl (fun n c => 10 * n + (c.toNat - 48)) 0
def numR (l : List UInt8) (most : Int) : Int × Bool := if !(l == []) && l.all digB && decide ((numN l : Int) ≤ most) then ((numN l : Int), true) else (0, false)
def numV (x : Int × Bool) : Value := .tuple #[.int .i64 x.1, .bool x.2]
theorem numN_snoc (l : List UInt8) (c : UInt8) : numN (l ++ [c]) = 10 * numN l + (c.toNat - 48) := by simp [numN]
theorem numN_append (a b : List UInt8) : numN a ≤ numN (a ++ b) := by
  induction b generalizing a with
  | nil => simp
  | cons x b ih =>
    have h := ih (a ++ [x])
    rw [numN_snoc, List.append_assoc] at h
    exact Nat.le_trans (by omega) h
theorem numN_take (l : List UInt8) (k : Nat) : numN (l.take k) ≤ numN l := by
  have := numN_append (l.take k) (l.drop k)
  rwa [List.take_append_drop] at this
theorem numR_bad {l : List UInt8} {most : Int} (h : l = [] ∨ l.all digB = false ∨ most < (numN l : Int)) : numR l most = (0, false) := by
  unfold numR
  rcases h with h | h | h
  · rw [h]; rfl
  · rw [h, Bool.and_false, Bool.false_and]; rfl
  · rw [decide_eq_false (by omega), Bool.and_false]; rfl
theorem numR_good {l : List UInt8} {most : Int} (h0 : l ≠ []) (h1 : l.all digB = true) (h2 : (numN l : Int) ≤ most) : numR l most = ((numN l : Int), true) := by
  unfold numR
  rw [h1, decide_eq_true h2, show (l == []) = false by simpa using h0]; rfl
theorem take_snoc' {l : List UInt8} {k : Nat} (h : k < l.length) : l.take (k + 1) = l.take k ++ [l[k]] := List.take_succ_eq_append_getElem h
theorem digB_stop {l : List UInt8} {k : Nat} (h : k < l.length) (hd : digB l[k] = false) : l.all digB = false := by
  rw [List.all_eq_false]; exact ⟨_, List.getElem_mem h, by simp [hd]⟩
set_option maxHeartbeats 2000000 in
theorem number_any {R : Ending → World → Prop} (l : List UInt8) (most : Int) (w : World) (hl : l.length ≤ 1000000) (hm1 : -9223372036854775808 ≤ most) (hm2 : most ≤ 9223372036854775807)
    (h : R (.returned (numV (numR l most))) w) : Calls Tryd.prog 75 #[.string (S l), .int .i64 most] w R := by
  have H := Lib.hid h
  clear h
  by_cases h0 : l = []
  · have HR := Lib.hid (numR_bad (most := most) (.inl h0))
    subst h0
    go_enter Tryd.func75, Tryd.ntmps75
    go_wp2
    exact rcast H.out (by rw [HR.out]; rfl)
  · have b0 : l.isEmpty = false := by simpa using h0
    have H0 := Lib.hid h0
    clear h0
    go_enter Tryd.func75, Tryd.ntmps75
    go_wp2
    go_loop [6, 13] (fun nn i => ∃ (k m : Nat), k ≤ l.length ∧ i = .int .i64 k ∧ nn = .int .i64 m ∧ Hid ((l.take k).all digB = true) ∧ Hid (numN (l.take k) = m) ∧ (0 < k → (m : Int) ≤ most) ∧ (k = 0 → m = 0)) (fun _ i => l.length - (intOf i).toNat)
    case atStart => exact ⟨0, 0, Nat.zero_le _, rfl, rfl, Lib.hid rfl, Lib.hid rfl, by omega, fun _ => rfl⟩
    case round =>
      obtain ⟨k, m, hk, rfl, rfl, ha, hn, hm, hz⟩ := hrel
      by_cases hlt : k < l.length
      · obtain ⟨x, hx⟩ : ∃ x, l[k]'hlt = x := ⟨_, rfl⟩
        have hx255 := x.toNat_lt
        have hmb : (m : Int) ≤ 9223372036854775807 := by
          rcases Nat.eq_zero_or_pos k with h | h
          · rw [hz h]; decide
          · have := hm h; omega
        have HT : Hid (l.take (k + 1) = l.take k ++ [x]) := Lib.hid (by rw [take_snoc' hlt, hx])
        have HM := Lib.hid hm
        clear hm hz
        by_cases hd : digB x = true
        · have hd' := hd
          unfold digB at hd'
          simp at hd'
          obtain ⟨d1, d2⟩ := hd'
          have HD := Lib.hid hd
          have hnx : numN (l.take (k + 1)) = 10 * m + (x.toNat - 48) := by rw [HT.out, numN_snoc, hn.out]
          have HN := Lib.hid hnx
          have hle := numN_take l (k + 1)
          have HL := Lib.hid hle
          clear hd hnx hle
          by_cases hbig : (10 * m + (x.toNat - 48) : Int) ≤ most
          · have c1 : (m : Int) ≤ (most - ((x.toNat : Int) - 48)) / 10 := by omega
            have c2 : (x.toNat : Int) - 48 ≤ most := by omega
            have c3 : 0 ≤ most - ((x.toNat : Int) - 48) := by omega
            have c4 : most - ((x.toNat : Int) - 48) ≤ 9223372036854775807 := by omega
            have HA2 : Hid ((l.take (k + 1)).all digB = true) := by
              refine Lib.hid ?_
              rw [HT.out, List.all_append, ha.out]; simp [HD.out]
            go_wp2
            exact ⟨⟨k + 1, 10 * m + (x.toNat - 48), by omega, by go_num, icast (by omega), HA2, HN, fun _ => by omega, fun h => by omega⟩, by simp [intOf]; omega⟩
          · have HR := Lib.hid (numR_bad (l := l) (most := most) (.inr (.inr (by have := HL.out; have := HN.out; omega))))
            by_cases c2 : most < (x.toNat : Int) - 48
            · clear hbig
              go_wp2
              all_goals exact rcast H.out (by rw [HR.out]; rfl)
            · have c3 : 0 ≤ most - ((x.toNat : Int) - 48) := by omega
              have c4 : most - ((x.toNat : Int) - 48) ≤ 9223372036854775807 := by omega
              have c1 : (most - ((x.toNat : Int) - 48)) / 10 < (m : Int) := by omega
              clear hbig
              go_wp2
              exact rcast H.out (by rw [HR.out]; rfl)
        · have hdf : digB x = false := by simpa using hd
          have HR := Lib.hid (numR_bad (l := l) (most := most) (.inr (.inl (digB_stop hlt (by rw [hx]; exact hdf)))))
          unfold digB at hdf
          simp at hdf
          clear hd
          by_cases h48 : x.toNat < 48
          · clear hdf
            go_wp2
            exact rcast H.out (by rw [HR.out]; rfl)
          · have h57 : 57 < x.toNat := hdf (by omega)
            clear hdf
            go_wp2
            exact rcast H.out (by rw [HR.out]; rfl)
      · have e : l.take k = l := List.take_of_length_le (by omega)
        have h00 : 0 < k := by
          rcases Nat.eq_zero_or_pos k with h | h
          · exact absurd (List.length_eq_zero_iff.1 (by omega)) H0.out
          · exact h
        have hq := hm h00
        have ha' := ha.out
        have hn' := hn.out
        rw [e] at ha' hn'
        have HR := Lib.hid (numR_good (most := most) H0.out ha' (by rw [hn']; exact hq))
        have HN := Lib.hid hn'
        clear e ha' hn' hm hz ha hn
        go_wp2
        exact rcast H.out (by rw [HR.out, HN.out]; rfl)
end Go.Proofs.YtjjigngighneeaaDoor
