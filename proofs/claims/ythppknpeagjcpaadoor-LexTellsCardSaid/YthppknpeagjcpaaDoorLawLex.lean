/- LexTells and LexDigits walked. -/
import Derived.Test.YthppknpeagjcpaaDoorLex3
namespace Go.Proofs.YthppknpeagjcpaaDoor
open Go.RowKit
set_option linter.unusedVariables false
set_option linter.unusedSimpArgs false
set_option maxRecDepth 100000

theorem field1 : fieldL [72, 111, 115, 116, 58, 32, 32, 97, 32, 98, 32] = ([104, 111, 115, 116], [97, 32, 98], 0) := by decide +kernel
theorem field2 : fieldL [120] = ([], [], 50) := by decide +kernel
theorem field_lit {R : Ending → World → Prop} (l : List UInt8) (v : List UInt8 × List UInt8 × Int) (w : World) (e : fieldL l = v) (hl : l.length ≤ 1000000) (hm : Ml w)
    (h : ∀ w', Kp [] w w' → R (.returned (.tuple #[.string (S v.1), .string (S v.2.1), .int .i64 v.2.2])) w') : Calls Tryd.prog 57 #[.string ⟨l.toArray⟩] w R :=
  field_any l w hl hm fun w' k => by rw [e]; exact h w' k
set_option maxHeartbeats 1000000 in
theorem alive23_any {R : Ending → World → Prop} (w : World) (hm : Ml w) (h : ∀ w', Kp [] w w' → R (.returned (.bool true)) w') : Calls Tryd.prog 22 #[] w R := by
  have H := Lib.hid h
  clear h
  go_enter Tryd.func22, Tryd.ntmps22
  go_wp2_with (go_at_call 57; first | ((with_reducible refine field_lit [72, 111, 115, 116, 58, 32, 32, 97, 32, 98, 32] _ w field1 (by decide) hm ?_); intro w1 k1; have m1 := hm.kp k1) | ((with_reducible refine field_lit [120] _ w1 field2 (by decide) m1 ?_); intro w2 k2; have k2' := k1.trans k2))
  exact H.out _ k2'
set_option maxHeartbeats 2000000 in
theorem tells_walk {R : Ending → World → Prop} (s : List UInt8) (most : Int) (w : World) (hd : s.length ≤ 140737488355328) (hm1 : -9223372036854775808 ≤ most) (hm2 : most ≤ 9223372036854775807) (hm : Ml w) (h : ∀ w', Kp [] w w' → R (.returned (.bool true)) w') :
    Calls Tryd.prog 8 #[.string (S s), .int .i64 most] w R := by
  have H := Lib.hid h
  clear h
  by_cases hl : s.length ≤ 2000
  · obtain ⟨⟨n, ok⟩, hv⟩ : ∃ v, numR s most = v := ⟨_, rfl⟩
    have HV : Hid (numV (numR s most) = .tuple #[.int .i64 n, .bool ok]) := by rw [hv]; exact Lib.hid rfl
    clear hv
    obtain ⟨tb, htb⟩ : ∃ b, tokB s = b := ⟨_, rfl⟩
    obtain ⟨vb, hvb⟩ : ∃ b, s.all valB = b := ⟨_, rfl⟩
    have HTB := Lib.hid htb
    have HVB := Lib.hid hvb
    clear htb hvb
    go_enter Tryd.func8, Tryd.ntmps8
    go_wp2_with (first | (go_at_call 22; refine alive23_any _ hm ?_; intro w1 kk) | (go_at_call 23; ((with_reducible refine number_any s most _ (by omega) hm1 hm2 ?_); rw [HV.out])) | (go_at_call 24; ((with_reducible refine rnumber_any s most _ (by omega) hm1 hm2 ?_); rw [HV.out])) | (go_at_call 25; ((with_reducible refine token_any s _ (by omega) ?_); rw [HTB.out])) | (go_at_call 26; ((with_reducible refine rtoken_any s _ (by omega) ?_); rw [HTB.out])) | (go_at_call 27; ((with_reducible refine value_any s _ (by omega) ?_); rw [HVB.out])) | (go_at_call 28; ((with_reducible refine rvalue_any s _ (by omega) ?_); rw [HVB.out])) | (go_at_call 29; ((with_reducible refine trim_any s _ (by omega) ?_); intro w2 k2; have kk := Kp.trans (a := w) (by assumption) k2)) | (go_at_call 30; ((with_reducible refine rtrim_any s _ (by omega) ?_))) | (go_at_call 31; ((with_reducible refine lower_any s _ (by omega) ?_); intro w2 k2; have kk := Kp.trans (a := w) (by assumption) k2)) | (go_at_call 32; ((with_reducible refine rlower_any s _ (by omega) ?_); intro w2 k2; have kk := Kp.trans (a := w) (by assumption) k2)))
    exact H.out _ (by assumption)
  · go_enter Tryd.func8, Tryd.ntmps8
    go_wp2_with (go_at_call 22; refine alive23_any _ hm ?_; intro w1 k1)
    exact H.out _ k1
theorem numN_from (a : Nat) (l : List UInt8) : l.foldl (fun n c => 10 * n + (c.toNat - 48)) a = a * 10 ^ l.length + numN l := by
  induction l generalizing a with
  | nil => simp [numN]
  | cons c l ih =>
    have e : numN (c :: l) = l.foldl (fun n c => 10 * n + (c.toNat - 48)) (10 * 0 + (c.toNat - 48)) := rfl
    rw [List.foldl_cons, ih, e, ih, List.length_cons, Nat.pow_succ, Nat.add_mul, Nat.add_mul, Nat.add_assoc]
    congr 1
    · rw [Nat.mul_comm 10 a, Nat.mul_assoc, Nat.mul_comm 10]
    · simp
theorem numN_cons (c : UInt8) (l : List UInt8) : numN (c :: l) = (c.toNat - 48) * 10 ^ l.length + numN l := by
  have e : numN (c :: l) = l.foldl (fun n c => 10 * n + (c.toNat - 48)) (10 * 0 + (c.toNat - 48)) := rfl
  rw [e, numN_from]; simp
set_option maxHeartbeats 2000000 in
theorem digits_walk {R : Ending → World → Prop} (n z most : Int) (w : World) (n0 : 0 ≤ n) (n1 : n ≤ 4294967295) (z0 : 0 ≤ z) (z1 : z ≤ 255) (m0 : 0 ≤ most) (m1 : most ≤ 4294967295) (hm : Ml w) (h : ∀ w', Kp [] w w' → R (.returned (.bool true)) w') :
    Calls Tryd.prog 9 #[.int .u32 n, .int .u8 z, .int .u32 most] w R := by
  have H := Lib.hid h
  clear h
  go_enter Tryd.func9, Tryd.ntmps9
  go_wp2_with (go_at_call 22; refine alive23_any _ hm ?_; intro w1 kk)
  obtain ⟨N, rfl⟩ : ∃ N : Nat, n = N := ⟨n.toNat, by omega⟩
  go_loopw [7, 8] (fun s kv wr => ∃ (k : Nat) (q : List UInt8), kv = .int .u32 k ∧ s = .string (S q) ∧ (k : Int) ≤ 4294967295 ∧ Hid (q.all digB = true) ∧ Hid (N = k * 10 ^ q.length + numN q) ∧ (1 ≤ k ∨ q.length = 0) ∧ q.length ≤ 9 ∧ Kp [] w wr) (fun _ kv _ => (intOf kv).toNat)
  case atStart => exact ⟨N, [], rfl, rfl, n1, Lib.hid rfl, Lib.hid (by simp [numN]), .inr rfl, by simp, kk⟩
  case round =>
    obtain ⟨k, q, rfl, rfl, hk, hq, hn, hor, hq9, kr⟩ := hrel
    obtain ⟨c, hc⟩ : ∃ c : UInt8, c.toNat = 48 + k % 10 := ⟨UInt8.ofNat (48 + k % 10), by rw [UInt8.toNat_ofNat']; omega⟩
    have hE : 48 + (k : Int) % 10 = (c.toNat : Int) := by omega
    have hcl := c.toNat_lt
    have hcd : digB c = true := by unfold digB; simp; omega
    have HA : Hid ((c :: q).all digB = true) := Lib.hid (by rw [List.all_cons, hcd, hq.out]; rfl)
    have HN : Hid (N = (k / 10) * 10 ^ (c :: q).length + numN (c :: q)) := by
      refine Lib.hid ?_
      rw [numN_cons, List.length_cons, hn.out, hc, Nat.pow_succ, show 48 + k % 10 - 48 = k % 10 by omega, ← Nat.add_assoc]
      congr 1
      have e : k = 10 * (k / 10) + k % 10 := (Nat.div_add_mod k 10).symm
      conv => lhs; rw [e]
      rw [Nat.add_mul, Nat.mul_comm 10 (k / 10), Nat.mul_assoc, Nat.mul_comm (10 ^ q.length) 10]
    have H8 : Hid (10 ≤ k → q.length ≤ 8) := by
      refine Lib.hid fun h10 => ?_
      rcases Nat.lt_or_ge q.length 9 with h | h
      · omega
      · exfalso
        have h1 := hn.out
        have h2 : 10 ^ 9 ≤ 10 ^ q.length := Nat.pow_le_pow_right (by decide) h
        have h3 : 10 * 10 ^ 9 ≤ k * 10 ^ q.length := Nat.mul_le_mul h10 h2
        have h4 : (10 : Nat) * 10 ^ 9 = 10000000000 := by decide
        omega
    have hcv : (convert 36 9 (.slice (some ⟨wr.heap.size, 0, none⟩) 1 1)).run Tryd.prog (wr.alloc (.cells #[.int .u8 c.toNat] 5)) = .ok (.string (S [c])) (wr.alloc (.cells #[.int .u8 c.toNat] 5)) :=
      conv_bs (N := []) (l := [c]) (Rd.of_bk (Bk.newAt rfl _ _) (by simp)) rfl
    clear hc hcd hq hn
    by_cases h10 : 10 ≤ k
    · have h8 := H8.out h10
      go_wp2
      exact ⟨⟨k / 10, c :: q, congrArg (Value.int .u32) (by omega), rfl, by omega, HA, HN, .inl (by omega), by simp; omega, kr.alloc _⟩, by simp [intOf]; omega⟩
    · have HN2 : Hid (numN (c :: q) = N) := by
        refine Lib.hid ?_
        have := HN.out
        rw [show k / 10 = 0 by omega, Nat.zero_mul, Nat.zero_add] at this
        exact this.symm
      have k2 := kr.alloc (.cells #[.int .u8 (c.toNat : Int)] 5)
      go_wp2
      generalize wr.alloc (.cells #[.int .u8 (c.toNat : Int)] 5) = wx at *
      clear hcv hE H8 HN kr
      go_loop [7, 9] (fun s i => ∃ (j : Nat) (p : List UInt8), i = .int .i64 j ∧ s = .string (S p) ∧ j ≤ 40 ∧ p.length ≤ 10 + j ∧ Hid (p.all digB = true) ∧ Hid (numN p = N) ∧ Hid (p ≠ [])) (fun _ i => 40 - (intOf i).toNat)
      case atStart => exact ⟨0, c :: q, rfl, rfl, by omega, by simp; omega, HA, HN2, Lib.hid (by simp)⟩
      case round =>
        obtain ⟨j, p, rfl, rfl, hj, hpl, hpa, hpn, hp0⟩ := hrel
        by_cases hjz : (j : Int) < z % 40
        · have HA3 : Hid ((48 :: p).all digB = true) := Lib.hid (by rw [List.all_cons, hpa.out]; rfl)
          have HN3 : Hid (numN (48 :: p) = N) := Lib.hid (by rw [numN_cons, hpn.out]; simp)
          go_wp2
          exact ⟨⟨j + 1, 48 :: p, by go_num, rfl, by omega, by simp; omega, HA3, HN3, Lib.hid (by simp)⟩, by simp [intOf]; omega⟩
        · by_cases hgt : most < N
          · have HR := Lib.hid (numR_bad (l := p) (most := most) (.inr (.inr (by rw [hpn.out]; exact hgt))))
            go_wp2_with (go_at_call 23; ((with_reducible refine number_any p most _ (by omega) (by omega) (by omega) ?_); rw [HR.out, numV]))
            exact H.out _ k2
          · have hle : (N : Int) ≤ most := by omega
            have HR := Lib.hid (numR_good (l := p) (most := most) hp0.out hpa.out (by rw [hpn.out]; exact hle))
            clear hgt
            go_wp2_with (go_at_call 23; ((with_reducible refine number_any p most _ (by omega) (by omega) (by omega) ?_); rw [HR.out, hpn.out, numV]))
            exact H.out _ k2
end Go.Proofs.YthppknpeagjcpaaDoor
