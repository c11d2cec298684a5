/- RangesParses walked. -/
import Derived.Test.YtcbmiidffcbikaaDoorRPar
namespace Go.Proofs.YtcbmiidffcbikaaDoor
open Go.RowKit Go.Shelf
set_option linter.unusedVariables false
set_option linter.unusedSimpArgs false
set_option maxRecDepth 100000

theorem rparse_some {R : Ending → World → Prop} (l : List UInt8) (n : Int) (zs : List (Int × Int)) (w : World) (hv : parseM l n = some zs) (hl : l.length ≤ 100000) (hn : n ≤ 35184372088832) (hn0 : -9223372036854775808 ≤ n)
    (h : ∀ A c w', Ow w' 30 2 A zs.length c (zs.flatMap spV) → (∀ b ∈ bks A, w.heap.size ≤ b) → Kp [] w w' → R (.returned (.tuple #[.slice A zs.length c, .bool true])) w') :
    Calls Tryd.prog 13 #[.string (S l), .int .i64 n] w R :=
  rparse_any l n w hl hn hn0 (fun w' e _ => by rw [e.out] at hv; cases hv) (fun zs' A c w' e h1 h2 h3 => by rw [e.out] at hv; cases hv; exact h A c w' h1 h2 h3)
theorem rparse_none {R : Ending → World → Prop} (l : List UInt8) (n : Int) (w : World) (hv : parseM l n = none) (hl : l.length ≤ 100000) (hn : n ≤ 35184372088832) (hn0 : -9223372036854775808 ≤ n)
    (h : ∀ w', Kp [] w w' → R (.returned (.tuple #[.slice none 0 0, .bool false])) w') :
    Calls Tryd.prog 13 #[.string (S l), .int .i64 n] w R :=
  rparse_any l n w hl hn hn0 (fun w' _ k => h w' k) (fun zs' A c w' e _ _ _ => by rw [e.out] at hv; cases hv)
theorem parse_some2 {R : Ending → World → Prop} (l : List UInt8) (n : Int) (zs : List (Int × Int)) (w : World) (hv : parseM l n = some zs) (hl : l.length ≤ 100000) (hn : n ≤ 35184372088832) (hn0 : -9223372036854775808 ≤ n) (hm : Ml w)
    (h : ∀ A c w', Ow w' 31 2 A zs.length c (zs.flatMap spV) → (∀ b ∈ bks A, w.heap.size ≤ b) → Kp [] w w' → R (.returned (.tuple #[.slice A zs.length c, .bool true])) w') :
    Calls Tryd.prog 12 #[.string (S l), .int .i64 n] w R :=
  parse_any l n w hl hn hn0 hm (fun w' e _ => by rw [e.out] at hv; cases hv) (fun zs' A c w' e h1 h2 h3 => by rw [e.out] at hv; cases hv; exact h A c w' h1 h2 h3)
set_option maxHeartbeats 4000000 in
theorem rpar_walk {R : Ending → World → Prop} (s : List UInt8) (n : Int) (w : World) (n0 : -9223372036854775808 ≤ n) (n1 : n ≤ 9223372036854775807) (hs : s.length ≤ 9223372036854775807) (hm : Ml w) (h : ∀ w', Kp [] w w' → R (.returned (.bool true)) w') :
    Calls Tryd.prog 3 #[.string (S s), .int .i64 n] w R := by
  have H := Lib.hid h
  clear h
  by_cases hs2 : s.length ≤ 2000
  · by_cases hn : n ≤ 35184372088832
    · cases hp : parseM s n with
      | none =>
        have HP := Lib.hid hp
        clear hp
        go_enter Tryd.func3, Tryd.ntmps3
        go_wp2_with (first | (go_at_call 11; ((refine alive25_any _ hm ?_); intro w1 k1)) | (go_at_call 12; ((refine parse_none s n _ HP.out (by omega) hn n0 (hm.kp k1) ?_); intro w2 k2)) | (go_at_call 13; ((refine rparse_none s n _ HP.out (by omega) hn n0 ?_); intro w3 k3)))
        refine wp_loop_rounds 1 ?_
        rw [rounds_succ]
        go_wp2
        exact H.out _ ((k1.trans k2).trans k3)
      | some zs =>
        have HP := Lib.hid hp
        clear hp
        go_enter Tryd.func3, Tryd.ntmps3
        go_wp2_with (first | (go_at_call 11; ((refine alive25_any _ hm ?_); intro w1 k1)) | (go_at_call 12; ((refine parse_some2 s n zs _ HP.out (by omega) hn n0 (hm.kp k1) ?_); intro A2 c2 w2 ho2 hA2 k2)) | (go_at_call 13; ((refine rparse_some s n zs _ HP.out (by omega) hn n0 ?_); intro A3 c3 w3 ho3 hA3 k3)))
        have HR2 := Lib.hid ((ho2.kp k3 (by simp)).rd (N := []) (by simp))
        have HR3 := Lib.hid (ho3.rd (N := []) (by simp))
        have kw := (k1.trans k2).trans k3
        have hzl : zs.length ≤ 4 := (parseM_ok HP.out).2
        clear ho2 ho3 hA2 hA3 k1 k2 k3
        go_loopw [9] (fun iv wr => ∃ k : Nat, k ≤ zs.length ∧ iv = .int .i64 k ∧ Kp [] w3 wr) (fun iv _ => zs.length - (intOf iv).toNat)
        case atStart => exact ⟨0, Nat.zero_le _, rfl, Kp.refl _ _⟩
        case round =>
          obtain ⟨k, hk, rfl, kr⟩ := hrel
          by_cases hlt : k < zs.length
          · obtain ⟨⟨u, v⟩, hx⟩ : ∃ x, zs[k]? = some x := ⟨_, List.getElem?_eq_getElem hlt⟩
            obtain ⟨g, off, rfl, _, _, hc⟩ := rd_at (F := spV) (K := 2) (HR2.out.kp kr (by simp)) (fun _ => rfl) (by omega) hx
            obtain ⟨g2, off2, rfl, _, _, hc2⟩ := rd_at (F := spV) (K := 2) (HR3.out.kp kr (by simp)) (fun _ => rfl) (by omega) hx
            have c0 := hc 0 _ rfl
            have c1 := hc 1 _ rfl
            have d0 := hc2 0 _ rfl
            have d1 := hc2 1 _ rfl
            rw [Nat.add_zero] at c0 d0
            simp only at c0 c1 d0 d1
            clear hc hc2 hx
            go_wp2
            go_quiet (fail)
            go_wp2
            exact ⟨⟨k + 1, by omega, by go_num, kr.drewN _⟩, by simp [intOf]; omega⟩
          · go_wp2
            exact H.out _ (kw.trans kr)
    · have h2 : 35184372088832 < n := by omega
      clear hn
      go_enter Tryd.func3, Tryd.ntmps3
      go_wp2_with (go_at_call 11; ((refine alive25_any _ hm ?_); intro w1 k1))
      exact H.out _ k1
  · have h2 : 2000 < s.length := by omega
    clear hs2
    go_enter Tryd.func3, Tryd.ntmps3
    go_wp2_with (go_at_call 11; ((refine alive25_any _ hm ?_); intro w1 k1))
    exact H.out _ k1
end Go.Proofs.YtcbmiidffcbikaaDoor
