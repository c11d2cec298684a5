/- RangesWithin walked. -/
import Derived.Test.YtcbmiidffcbikaaDoorLawRAll
import Derived.Test.YtcbmiidffcbikaaDoorCont
namespace Go.Proofs.YtcbmiidffcbikaaDoor
open Go.RowKit Go.Shelf
set_option linter.unusedVariables false
set_option linter.unusedSimpArgs false
set_option maxRecDepth 100000

def okZ (n : Int) (z : Int × Int) : Prop := 1 ≤ z.2 ∧ 0 ≤ z.1 ∧ z.1 + z.2 ≤ n
theorem okZ_span {x : List UInt8} {y : Int × Int} {n : Int} (hn : 0 ≤ n) (h : readM x = some y) (h2 : 0 < (spanM y n).2) : okZ n (spanM y n) := by
  obtain ⟨a, b⟩ := y
  have hb := readM_bd h
  unfold okZ
  unfold spanM at h2 ⊢
  split at h2
  · rename_i h3; rw [if_pos h3]; simp only at *; omega
  · rename_i h3
    rw [if_neg h3]
    split at h2
    · rename_i h4; rw [if_pos h4]; simp only at *; omega
    · rename_i h4; rw [if_neg h4]; simp only at *; omega
theorem fold_ok {n : Int} (hn : 0 ≤ n) : ∀ (l : List (List UInt8)) (acc : Option (List (Int × Int))) (m : Nat), (∀ zs, acc = some zs → (∀ z ∈ zs, okZ n z) ∧ zs.length ≤ m) → ∀ zs, l.foldl (stepS n) acc = some zs → (∀ z ∈ zs, okZ n z) ∧ zs.length ≤ m + l.length
  | [], acc, m, h, zs, e => by have := h zs e; exact ⟨this.1, by simp; exact this.2⟩
  | x :: l, acc, m, h, zs, e => by
    have := fold_ok hn l (stepS n acc x) (m + 1) (fun zs' e' => by
      unfold stepS at e'
      split at e'
      · rename_i zs0 y h1
        injection e' with e'
        have h0 := h zs0 rfl
        subst e'
        split
        · rename_i hp
          refine ⟨fun z hz => ?_, by simp; exact h0.2⟩
          rcases List.mem_append.1 hz with hz | hz
          · exact h0.1 z hz
          · simp at hz; subst hz; exact okZ_span hn h1 hp
        · exact ⟨h0.1, by omega⟩
      · cases e') zs e
    exact ⟨this.1, by simp; omega⟩
theorem parseM_ok {l : List UInt8} {n : Int} {zs : List (Int × Int)} (h : parseM l n = some zs) : (∀ z ∈ zs, okZ n z) ∧ zs.length ≤ 4 := by
  unfold parseM at h
  split at h
  · rename_i hk
    unfold okP at hk
    simp only [Bool.and_eq_true, decide_eq_true_eq] at hk
    have := fold_ok hk.1.1.1.1 _ (some []) 0 (fun zs e => by injection e with e; subst e; simp) zs h
    exact ⟨this.1, by omega⟩
  · cases h
theorem parse_gen {R : Ending → World → Prop} (l : List UInt8) (n : Int) (w : World) (hl : l.length ≤ 100000) (hn : n ≤ 35184372088832) (hn0 : -9223372036854775808 ≤ n) (hm : Ml w)
    (h : ∀ (zs : List (Int × Int)) (A : Option Addr) (c : Nat) (b : Bool) (w' : World), (∀ z ∈ zs, okZ n z) → zs.length ≤ 4 → (b = false → zs.length = 0) → Ow w' 31 2 A zs.length c (zs.flatMap spV) → (∀ b ∈ bks A, w.heap.size ≤ b) → Kp [] w w' → R (.returned (.tuple #[.slice A zs.length c, .bool b])) w') :
    Calls Tryd.prog 12 #[.string (S l), .int .i64 n] w R :=
  parse_any l n w hl hn hn0 hm (fun w' _ k => h [] none 0 false w' (by simp) (by simp) (by simp) Ow.nil (by simp [bks]) k) (fun zs A c w' e h1 h2 h3 => h zs A c true w' (parseM_ok e.out).1 (parseM_ok e.out).2 (by simp) h1 h2 h3)
set_option maxHeartbeats 4000000 in
theorem rwith_walk {R : Ending → World → Prop} (s : List UInt8) (n a b : Int) (w : World) (n0 : 0 ≤ n) (n1 : n ≤ 65535) (a0 : 0 ≤ a) (a1 : a ≤ 65535) (b0 : 0 ≤ b) (b1 : b ≤ 65535) (hs : s.length ≤ 9223372036854775807) (hw : Lw w) (h : ∀ w', Kp [] w w' → R (.returned (.bool true)) w') :
    Calls Tryd.prog 6 #[.string (S s), .int .u16 n, .int .u16 a, .int .u16 b] w R := by
  have H := Lib.hid h
  clear h
  by_cases hs2 : s.length ≤ 2000
  · go_enter Tryd.func6, Tryd.ntmps6
    go_wp2_with (first | (go_at_call 11; ((refine alive25_any _ hw.ml ?_); intro w1 k1)) | (go_at_call 12; ((refine parse_gen s n _ (by omega) (by omega) (by omega) (hw.ml.kp k1) ?_); intro zs A c bb w2 hz hz4 hzb ho hA k2; have k12 := k1.trans k2)))
    have HZ := Lib.hid hz
    have HR := Lib.hid (ho.rd (N := []) (by simp))
    clear hz ho hA k1 k2
    go_loopw [11] (fun iv wr => ∃ k : Nat, k ≤ zs.length ∧ iv = .int .i64 k ∧ Kp [] w2 wr) (fun iv _ => zs.length - (intOf iv).toNat)
    case atStart => exact ⟨0, Nat.zero_le _, rfl, Kp.refl _ _⟩
    case round =>
      obtain ⟨k, hk, rfl, kr⟩ := hrel
      by_cases hlt : k < zs.length
      · obtain ⟨⟨u, v⟩, hx⟩ : ∃ x, zs[k]? = some x := ⟨_, List.getElem?_eq_getElem hlt⟩
        obtain ⟨v1, u1, uv⟩ := HZ.out _ (List.mem_of_getElem? hx)
        obtain ⟨g, off, rfl, _, _, hc⟩ := rd_at (F := spV) (K := 2) (HR.out.kp kr (by simp)) (fun _ => rfl) (by omega) hx
        have c0 := hc 0 _ rfl
        have c1 := hc 1 _ rfl
        rw [Nat.add_zero] at c0
        simp only at v1 u1 uv c0 c1
        have d0 : decide (v < 1) = false := by simp; omega
        have d1 : decide (u < 0) = false := by simp; omega
        have d2 : decide (n < u + v) = false := by simp; omega
        have wr1 : IntKind.i64.wrap (u + v) = u + v := wrap_ok (by omega) (by omega)
        have wr2 : IntKind.i64.wrap n = n := wrap_ok (by omega) (by omega)
        clear hc hx
        go_wp2
        go_quiet (fail)
        go_wp2
        exact ⟨⟨k + 1, by omega, by go_num, kr.drewN _⟩, by simp [intOf]; omega⟩
      · obtain rfl : k = zs.length := by omega
        have kw := k12.trans kr
        have HW2 := Lib.hid (hw.kp kw)
        clear hk hlt k12 kr HR HZ
        by_cases hn0 : n = 0
        · subst hn0
          cases bb
          · have hz0 := hzb rfl
            go_wp2
            exact H.out _ kw
          · go_wp2
            exact H.out _ kw
        · have bn : (n == 0) = false := by simpa using hn0
          have hnp : 0 < n := by omega
          have e1 : 0 ≤ a % n ∧ a % n < n := ⟨Int.emod_nonneg a hn0, Int.emod_lt_of_pos a hnp⟩
          obtain ⟨F, hF⟩ : ∃ F : Nat, a % n = F := ⟨(a % n).toNat, by omega⟩
          rw [hF] at e1
          have e2 : 0 ≤ b % (n - F) ∧ b % (n - F) < n - F := ⟨Int.emod_nonneg b (by omega), Int.emod_lt_of_pos b (by omega)⟩
          obtain ⟨L, hL⟩ : ∃ L : Nat, 1 + b % (n - F) = L := ⟨(1 + b % (n - F)).toNat, by omega⟩
          obtain ⟨N, rfl⟩ : ∃ N : Nat, n = N := ⟨n.toNat, by omega⟩
          have hFL : F + L ≤ N ∧ 1 ≤ L := by omega
          clear e1 e2
          obtain ⟨hFL, hL1⟩ := hFL
          have hcase : bb = true ∨ (bb = false ∧ zs.length = 0) := by
            cases bb
            · exact .inr ⟨rfl, hzb rfl⟩
            · exact .inl rfl
          clear hzb
          have hmr : (65536 : Int) ≤ mostR := by decide
          have pm : parseM (66 :: 121 :: 116 :: 101 :: 115 :: 61 :: (decL F ++ 45 :: decL (F + L - 1))) N = some [((F : Int), (L : Int))] := by
            have h := parse_ab (u := [66, 121, 116, 101, 115]) F (F + L - 1) N (by decide) low_Bytes (by omega) (by omega) (by omega)
            rw [show min (((F + L - 1 : Nat) : Int) + 1) (N : Int) - F = L by omega] at h
            exact h
          have PM := Lib.hid pm
          have hml1 := decL_len20 (n := F) (by omega)
          have hml2 := decL_len20 (n := F + L - 1) (by omega)
          have hml3 := decL_len20 (n := N) (by omega)
          have hcl : contL F L N = ([98, 121, 116, 101, 115, 32] ++ (decL F ++ 45 :: decL (F + L - 1))) ++ 47 :: decL N := by
            unfold contL
            rw [show (F : Int) + L - 1 = ((F + L - 1 : Nat) : Int) by omega, itoaL_nat, itoaL_nat, itoaL_nat]
            simp
          obtain ⟨md, hmd⟩ : ∃ md, decL F ++ 45 :: decL (F + L - 1) = md := ⟨_, rfl⟩
          have hmdl : md.length ≤ 41 := by rw [← hmd]; simp; omega
          rw [hmd] at PM hcl
          have hdg : ∀ (e : Nat) (x : UInt8), (decL N)[e]? = some x → ¬ x = 47 := by
            intro e x hx h
            have := List.all_eq_true.1 (decL_spec N).1 x (List.mem_of_getElem? hx)
            subst h; revert this; decide
          have hdne := decL_ne N
          generalize decL N = dg at *
          have HCL := Lib.hid hcl
          have hd0 : 0 < dg.length := List.length_pos_iff.2 hdne
          have hlen : (contL F L N).length = 6 + md.length + 1 + dg.length := by rw [hcl]; simp; omega
          have htk : ((contL F L N).take (6 + md.length)).drop 6 = md := by
            rw [hcl, List.take_left' (by simp; omega)]; simp
          have hat : (contL F L N)[6 + md.length]? = some 47 := by
            have h0 : 6 + md.length - ([98, 121, 116, 101, 115, 32] ++ md).length = 0 := by simp; omega
            rw [hcl, List.getElem?_append_right (by simp; omega), h0]
            rfl
          have hdig : ∀ e, 6 + md.length < e → e < (contL F L N).length → ∃ x, (contL F L N)[e]? = some x ∧ ¬ x = 47 := by
            intro e h1 h2
            have h3 : e - (6 + md.length) - 1 < dg.length := by omega
            refine ⟨dg[e - (6 + md.length) - 1], ?_, hdg _ _ (List.getElem?_eq_getElem h3)⟩
            rw [hcl, List.getElem?_append_right (by simp; omega)]
            have : e - ([98, 121, 116, 101, 115, 32] ++ md).length = (e - (6 + md.length) - 1) + 1 := by simp; omega
            rw [this, List.getElem?_cons_succ, List.getElem?_eq_getElem h3]
          clear hcl hdg hdne hmr pm hmd
          obtain ⟨c, hc⟩ : ∃ c, contL F L N = c := ⟨_, rfl⟩
          rw [hc] at hlen htk hat hdig
          have HDG := Lib.hid hdig
          have HAT := Lib.hid hat
          have HTK := Lib.hid htk
          have HC : Hid (∀ (R : Ending → World → Prop) (w1 : World), Lw w1 → (∀ w', Kp [] w1 w' → R (.returned (.string (S c))) w') → Calls Tryd.prog 15 #[.agg #[.int .i64 F, .int .i64 L], .int .i64 N] w1 R) := Lib.hid (fun R w1 h1 h => by
            refine content_any F L N w1 ⟨by omega, by omega⟩ ⟨by omega, by omega⟩ ⟨by omega, by omega⟩ h1 ?_
            rw [hc]; exact h)
          clear hdig hat htk hc
          rcases hcase with rfl | ⟨rfl, hz0⟩
          all_goals
            go_wp2_with (go_at_call 15; ((refine HC.out _ _ HW2.out ?_); intro w5 k5))
            go_loop [15] (fun ev => ∃ e : Nat, ev = .int .i64 e ∧ 6 + md.length ≤ e ∧ e < c.length) (fun ev => (intOf ev).toNat)
            case atStart => exact ⟨c.length - 1, by congr 1; omega, by omega, by omega⟩
            case round =>
              obtain ⟨e, rfl, he1, he2⟩ := hrel
              by_cases hee : e = 6 + md.length
              · subst hee
                have hx : c[6 + md.length]'he2 = 47 := (List.getElem?_eq_some_iff.1 HAT.out).2
                have htk := HTK.out
                have m6 := HW2.out.ml.kp k5
                go_wp2_with (go_at_call 12; ((refine parse_some (66 :: 121 :: 116 :: 101 :: 115 :: 61 :: md) N _ _ PM.out (by simp; omega) (by omega) (by omega) m6 ?_); intro A6 c6 w6 ho6 hA6 k6; have ⟨g6, e6, hg6, hc6⟩ := span_cells ho6 (by simp); subst e6; have ⟨x6, y6⟩ := hc6 0 _ rfl; simp only [Nat.zero_mul, Nat.zero_add] at x6 y6))
                exact H.out _ ((kw.trans k5).trans k6)
              · obtain ⟨x, hx0, hx1⟩ := HDG.out e (by omega) he2
                have hx : c[e]'he2 = x := (List.getElem?_eq_some_iff.1 hx0).2
                have b1 : ((x.toNat : Int) != 47) = true := (u8_bne x 47).trans (by simpa using hx1)
                clear hx0 hx1
                go_wp2
                exact ⟨⟨e - 1, by congr 1; omega, by omega, by omega⟩, by simp [intOf]; omega⟩
  · have h2 : 2000 < s.length := by omega
    clear hs2
    go_enter Tryd.func6, Tryd.ntmps6
    go_wp2_with (go_at_call 11; ((refine alive25_any _ hw.ml ?_); intro w1 k1))
    exact H.out _ k1
end Go.Proofs.YtcbmiidffcbikaaDoor
