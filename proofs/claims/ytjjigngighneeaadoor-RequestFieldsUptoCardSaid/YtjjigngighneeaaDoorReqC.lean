/- The walks of package request: a head. -/
import Derived.Test.YtjjigngighneeaaDoorReqB
import Derived.Test.YtjjigngighneeaaDoorReqA
import Derived.Test.YtjjigngighneeaaDoorLine
namespace Go.Proofs.YtjjigngighneeaaDoor
open Go.RowKit Go.Shelf
set_option linter.unusedVariables false
set_option linter.unusedSimpArgs false
set_option maxRecDepth 100000

def sLen : Value → Nat | .string b => b.size | _ => 0
theorem headF_wrong {f n : Nat} {ls : List (List UInt8)} {s : List UInt8} (h : lineL s = .wrong) : headF (f + 1) n ls s = ([], [], 400) := by rw [headF, h]
theorem headF_more {f n : Nat} {ls : List (List UInt8)} {s : List UInt8} (h : lineL s = .more) : headF (f + 1) n ls s = if 1024 ≤ n then ([], [], 431) else ([], [], -1) := by rw [headF, h]
theorem headF_got {f n : Nat} {ls : List (List UInt8)} {s l a : List UInt8} (h : lineL s = .got l a) : headF (f + 1) n ls s = if 1024 < n - a.length then ([], [], 431) else if l ≠ [] then headF f n (ls ++ [l]) a else if ls ≠ [] then (ls, a, 0) else headF f n ls a := by rw [headF, h]
def headV (A : Option Addr) (c : Nat) (p : List (List UInt8) × List UInt8 × Int) : Value := .tuple #[.slice A p.1.length c, .string (S p.2.1), .int .i64 p.2.2]
set_option maxHeartbeats 4000000 in
theorem head_any {R : Ending → World → Prop} (s : List UInt8) (w : World) (hs : s.length ≤ 100000)
    (h : ∀ A c w', Ow w' 9 1 A (headF (s.length + 1) s.length [] s).1.length c (strs (headF (s.length + 1) s.length [] s).1) → (∀ b ∈ bks A, w.heap.size ≤ b) → Kp [] w w' → R (.returned (headV A c (headF (s.length + 1) s.length [] s))) w') :
    Calls Tryd.prog 48 #[.string (S s)] w R := by
  obtain ⟨p, hp⟩ : ∃ p, headF (s.length + 1) s.length [] s = p := ⟨_, rfl⟩
  rw [hp] at h
  have H := Lib.hid h
  have HP := Lib.hid hp
  clear h hp
  go_enter Tryd.func48, Tryd.ntmps48
  go_wp2
  go_loopw [2, 3] (fun lv rv wr => ∃ (ls : List (List UInt8)) (rest : List UInt8) (n : Nat) (A : Option Addr) (c : Nat), lv = .slice A n c ∧ rv = .string (S rest) ∧ n + rest.length ≤ s.length ∧ Hid (ls.length = n) ∧ Hid (headF (rest.length + 1) s.length ls rest = p) ∧ Ow wr 9 1 A n c (strs ls) ∧ (∀ b ∈ bks A, w.heap.size ≤ b) ∧ Kp [] w wr) (fun _ rv _ => sLen rv)
  case atStart => exact ⟨[], s, 0, none, 0, rfl, rfl, by omega, Lib.hid rfl, HP, Ow.nil, by simp [bks], Kp.refl _ _⟩
  case round =>
    obtain ⟨ls, rest, n, A, c, rfl, rfl, hn, hl, hh, ho, hA, kr⟩ := hrel
    cases hL : lineL rest with
    | wrong =>
      have HE : Hid (p = ([], [], 400)) := Lib.hid (by rw [← hh.out, headF_wrong hL])
      have HLi : Hid (∀ (R : Ending → World → Prop) (w : World), (∀ w', Kp [] w w' → R (.returned (.tuple #[.string (S []), .string (S []), .bool false, .int .i64 50])) w') → Calls Tryd.prog 72 #[.string (S rest)] w R) := Lib.hid (fun R w h => line_any rest w (by omega) (by rw [hL]; exact h))
      clear hL hh
      go_wp2_with (go_at_call 72; ((refine HLi.out _ _ ?_); intro w1 k1))
      have := H.out none 0 w1 (by rw [HE.out]; exact Ow.nil) (by simp [bks]) (kr.trans k1)
      exact bodyPost_ret (v := headV none 0 p) (by rw [HE.out]; simp [results, Tryd.results48, go_sem, headV] <;> rfl) rfl this
    | more =>
      have HLi : Hid (∀ (R : Ending → World → Prop) (w : World), (∀ w', Kp [] w w' → R (.returned (.tuple #[.string (S []), .string (S rest), .bool false, .int .i64 0])) w') → Calls Tryd.prog 72 #[.string (S rest)] w R) := Lib.hid (fun R w h => line_any rest w (by omega) (by rw [hL]; exact h))
      by_cases h1 : 1024 ≤ s.length
      · have HE : Hid (p = ([], [], 431)) := Lib.hid (by rw [← hh.out, headF_more hL, if_pos h1])
        clear hL hh
        go_wp2_with (go_at_call 72; ((refine HLi.out _ _ ?_); intro w1 k1))
        have := H.out none 0 w1 (by rw [HE.out]; exact Ow.nil) (by simp [bks]) (kr.trans k1)
        exact bodyPost_ret (v := headV none 0 p) (by rw [HE.out]; simp [results, Tryd.results48, go_sem, headV] <;> rfl) rfl this
      · have HE : Hid (p = ([], [], -1)) := Lib.hid (by rw [← hh.out, headF_more hL, if_neg h1])
        clear hL hh
        go_wp2_with (go_at_call 72; ((refine HLi.out _ _ ?_); intro w1 k1))
        have := H.out none 0 w1 (by rw [HE.out]; exact Ow.nil) (by simp [bks]) (kr.trans k1)
        exact bodyPost_ret (v := headV none 0 p) (by rw [HE.out]; simp [results, Tryd.results48, go_sem, headV] <;> rfl) rfl this
    | got l a =>
      have hal := lineL_len hL
      have HG : Hid (p = if 1024 < s.length - a.length then ([], [], 431) else if l ≠ [] then headF rest.length s.length (ls ++ [l]) a else if ls ≠ [] then (ls, a, 0) else headF rest.length s.length ls a) := Lib.hid (by rw [← hh.out, headF_got hL])
      have HLi : Hid (∀ (R : Ending → World → Prop) (w : World), (∀ w', Kp [] w w' → R (.returned (.tuple #[.string (S l), .string (S a), .bool true, .int .i64 0])) w') → Calls Tryd.prog 72 #[.string (S rest)] w R) := Lib.hid (fun R w h => line_any rest w (by omega) (by rw [hL]; exact h))
      clear hL hh
      by_cases h1 : 1024 < s.length - a.length
      · have HE : Hid (p = ([], [], 431)) := Lib.hid (by rw [HG.out, if_pos h1])
        have h2 : 1024 < (s.length : Int) - (a.length : Int) := by omega
        clear HG
        go_wp2_with (go_at_call 72; ((refine HLi.out _ _ ?_); intro w1 k1))
        have := H.out none 0 w1 (by rw [HE.out]; exact Ow.nil) (by simp [bks]) (kr.trans k1)
        exact bodyPost_ret (v := headV none 0 p) (by rw [HE.out]; simp [results, Tryd.results48, go_sem, headV] <;> rfl) rfl this
      · have h2 : ¬ 1024 < (s.length : Int) - (a.length : Int) := by omega
        have HG2 : Hid (p = if l ≠ [] then headF rest.length s.length (ls ++ [l]) a else if ls ≠ [] then (ls, a, 0) else headF rest.length s.length ls a) := Lib.hid (by rw [HG.out, if_neg h1])
        clear HG h1
        by_cases h3 : l = []
        · subst h3
          by_cases h4 : n = 0
          · subst h4
            have h5 : ls = [] := List.eq_nil_of_length_eq_zero hl.out
            have HE : Hid (headF (a.length + 1) s.length ls a = p) := Lib.hid (by rw [HG2.out, if_neg (by simp), if_neg (by simp [h5])]; exact headF_fuel _ _ _ _ _ (by omega) (by omega))
            clear HG2 h5
            go_wp2_with (go_at_call 72; ((refine HLi.out _ _ ?_); intro w1 k1))
            have hal2 : a.length + 2 = rest.length := by simpa using hal
            exact ⟨⟨ls, a, 0, A, c, rfl, rfl, by omega, hl, HE, ho.kp k1 (by simp), hA, kr.trans k1⟩, by simp [sLen, S_size] <;> omega⟩
          · have HE : Hid (p = (ls, a, 0)) := Lib.hid (by rw [HG2.out, if_neg (by simp), if_pos (by intro e; subst e; exact h4 hl.out.symm)])
            have h5 : 0 < n := by omega
            clear HG2 h4
            go_wp2_with (go_at_call 72; ((refine HLi.out _ _ ?_); intro w1 k1))
            have e := hl.out
            subst e
            have := H.out A c w1 (by rw [HE.out]; exact ho.kp k1 (by simp)) hA (kr.trans k1)
            exact bodyPost_ret (v := headV A c p) (by rw [HE.out]; simp [results, Tryd.results48, go_sem, headV]) rfl this
        · have bl : l.isEmpty = false := by simpa using h3
          have HE : Hid (headF (a.length + 1) s.length (ls ++ [l]) a = p) := Lib.hid (by rw [HG2.out, if_pos h3]; exact headF_fuel _ _ _ _ _ (by omega) (by omega))
          clear HG2 h3
          go_wp2_with (first | (go_at_call 72; ((refine HLi.out _ _ ?_); intro w1 k1; have ho2 := ho.kp k1 (by simp); have k12 := kr.trans k1)) | (at_builtin; refine wpList_app _ rfl (.tmp 45) (.tmp 47) _ rfl elt_str A n c _ rfl (ho2.alloc _) [] _ 1 1 (strs [l]) rfl (app_at rfl) rfl (strs_one _) (by omega) ?_; intro A2 c2 w3 ho3 hk3 hA3))
          exact ⟨⟨ls ++ [l], a, n + 1, A2, c2, rfl, rfl, by omega, Lib.hid (by simp [hl.out]), HE, ho3.cast rfl (strs_append _ _).symm, bks_app hA3 hA (by have := k12.size; simp; omega), (k12.alloc _).thn hk3 (fun s hs => .inr (hA s hs))⟩, by simp [sLen, S_size] <;> omega⟩
end Go.Proofs.YtjjigngighneeaaDoor
