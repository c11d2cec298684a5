/- OctetPuts walked. -/
import Derived.Test.YthppknpeagjcpaaDoorOct4
import Derived.Test.YthppknpeagjcpaaDoorOpen
namespace Go.Proofs.YthppknpeagjcpaaDoor
open Go.RowKit Go.Shelf
set_option linter.unusedVariables false
set_option linter.unusedSimpArgs false
set_option maxRecDepth 100000

def putV (N : Nat) (width : Int) : Value := if putOk N width then .tuple #[.string (S (putL N width.toNat)), .int .i64 0] else .tuple #[.string (S []), .int .i64 1]
set_option maxHeartbeats 2000000 in
theorem rput_any {R : Ending → World → Prop} (N : Nat) (width : Int) (w : World) (hN : N < 18446744073709551616) (h : ∀ w', Kp [] w w' → R (.returned (putV N width)) w') : Calls Tryd.prog 35 #[.int .u64 N, .int .i64 width] w R := by
  have H := Lib.hid h
  clear h
  cases hw : wideB width
  · have HV := Lib.hid (show putV N width = .tuple #[.string (S []), .int .i64 1] by unfold putV putOk; rw [hw]; rfl)
    have hw' : ¬ (1 ≤ width ∧ width ≤ 8) := by unfold wideB at hw; exact of_decide_eq_false hw
    clear hw
    by_cases h1 : width < 1
    · clear hw'
      go_enter Tryd.func35, Tryd.ntmps35
      go_wp2
      exact rcast (H.out _ (Kp.refl _ _)) (by rw [HV.out]; rfl)
    · have h8 : 8 < width := by omega
      clear hw'
      go_enter Tryd.func35, Tryd.ntmps35
      go_wp2
      exact rcast (H.out _ (Kp.refl _ _)) (by rw [HV.out]; rfl)
  · have hw' : 1 ≤ width ∧ width ≤ 8 := by unfold wideB at hw; exact of_decide_eq_true hw
    obtain ⟨k, rfl⟩ : ∃ k : Nat, width = k := ⟨width.toNat, by omega⟩
    obtain ⟨q1, q2⟩ := hw'
    have HV : Hid (putV N k = if N / 256 ^ k = 0 then .tuple #[.string (S (putL N k)), .int .i64 0] else .tuple #[.string (S []), .int .i64 1]) := by
      refine Lib.hid ?_
      unfold putV putOk
      rw [hw, Bool.true_and, Int.toNat_natCast]
      by_cases h8 : k = 8
      · subst h8
        have : N / 256 ^ 8 = 0 := Nat.div_eq_of_lt (by show N < 18446744073709551616; exact hN)
        rw [if_pos this]; rfl
      · have e8 : decide ((k : Int) = 8) = false := by rw [decide_eq_false_iff_not]; omega
        rw [e8, Bool.false_or]
        by_cases hlt : N < 256 ^ k
        · rw [decide_eq_true hlt, if_pos (Nat.div_eq_of_lt hlt)]; rfl
        · have hne : ¬ N / 256 ^ k = 0 := Nat.ne_of_gt (Nat.div_pos (Nat.le_of_not_lt hlt) (Nat.pow_pos (n := k) (by decide : 0 < 256)))
          rw [decide_eq_false hlt, if_neg (by decide : ¬ (false = true)), if_neg hne]
    clear hw
    go_enter Tryd.func35, Tryd.ntmps35
    go_wp2
    go_loopw [0, 6, 7] (fun nv sv iv wr => ∃ (i m : Nat) (q : List UInt8), i ≤ k ∧ iv = .int .i64 i ∧ nv = .int .u64 m ∧ sv = .string (S q) ∧ m < 18446744073709551616 ∧ q.length = i ∧ Hid (q = putL N i) ∧ Hid (m = N / 256 ^ i) ∧ Kp [] w wr) (fun _ _ iv _ => k - (intOf iv).toNat)
    case atStart => exact ⟨0, N, [], Nat.zero_le _, rfl, rfl, rfl, hN, rfl, Lib.hid rfl, Lib.hid (by simp), Kp.refl _ _⟩
    case round =>
      obtain ⟨i, m, q, hi, rfl, rfl, rfl, hm, hq, hd, hmd, kr⟩ := hrel
      by_cases hlt : i < k
      · obtain ⟨c, hc⟩ : ∃ c : UInt8, c.toNat = m % 256 := ⟨UInt8.ofNat m, by rw [UInt8.toNat_ofNat']⟩
        have hE : (m : Int) % 256 = (c.toNat : Int) := by omega
        have hcl := c.toNat_lt
        have HD : Hid (c :: q = putL N (i + 1)) := by
          refine Lib.hid ?_
          have e : c = UInt8.ofNat (N / 256 ^ i) := by
            apply UInt8.toNat_inj.1
            rw [hc, UInt8.toNat_ofNat', ← hmd.out]
          rw [e, hd.out]; rfl
        have HM : Hid (m / 256 = N / 256 ^ (i + 1)) := Lib.hid (by rw [hmd.out, Nat.div_div_eq_div_mul, Nat.pow_succ])
        have hcv : (convert 36 9 (.slice (some ⟨wr.heap.size, 0, none⟩) 1 1)).run Tryd.prog (wr.alloc (.cells #[.int .u8 c.toNat] 5)) = .ok (.string (S [c])) (wr.alloc (.cells #[.int .u8 c.toNat] 5)) :=
          conv_bs (N := []) (l := [c]) (Rd.of_bk (Bk.newAt rfl _ _) (by simp)) rfl
        clear hc hd hmd
        go_wp2
        exact ⟨⟨i + 1, m / 256, c :: q, by omega, by go_num, congrArg (Value.int .u64) (by omega), rfl, by omega, by simp [hq], HD, HM, kr.alloc _⟩, by simp [intOf]; omega⟩
      · obtain rfl : i = k := by omega
        by_cases hz : m = 0
        · have HR := Lib.hid (show putV N i = .tuple #[.string (S q), .int .i64 0] by rw [HV.out, ← hmd.out, if_pos hz, hd.out])
          clear hd hmd
          subst hz
          go_wp2
          exact rcast (H.out _ kr) (by rw [HR.out]; rfl)
        · have HR := Lib.hid (show putV N i = .tuple #[.string (S []), .int .i64 1] by rw [HV.out, ← hmd.out, if_neg hz])
          have hz' : 0 < m := by omega
          clear hd hmd hz
          go_wp2
          exact rcast (H.out _ kr) (by rw [HR.out]; rfl)
set_option maxHeartbeats 2000000 in
theorem puts_walk {R : Ending → World → Prop} (A : Option Addr) (n c N : Nat) (b : List UInt8) (width : Int) (w : World) (hr : Rd w [] A (bts b)) (hb : b.length = n) (hN : N < 18446744073709551616) (hw : Lw w) (h : ∀ w', Kp [] w w' → R (.returned (.bool true)) w') :
    Calls Tryd.prog 10 #[.slice A n c, .int .u64 N, .int .i64 width] w R := by
  have H := Lib.hid h
  clear h
  have HB := Lib.hid hb
  clear hb
  by_cases hl : n ≤ 2000
  · cases ho : putOk N width
    · have HV := Lib.hid (show putV N width = .tuple #[.string (S []), .int .i64 1] by unfold putV; rw [ho]; rfl)
      have HO := Lib.hid ho
      clear ho
      go_enter Tryd.func10, Tryd.ntmps10
      go_wp2_with (first | (go_at_call 33; ((with_reducible refine alive02_any _ hw ?_); intro w1 k1; have hr1 := hr.kp k1 (by simp))) | (go_at_call 34; (refine put_bad N width hN HO.out ?_)) | (go_at_call 35; ((with_reducible refine rput_any N width _ hN ?_); intro w3 k3; rw [HV.out])))
      exact H.out _ (k1.trans k3)
    · have hok : 1 ≤ width ∧ width ≤ 8 ∧ (width = 8 ∨ N < 256 ^ width.toNat) := by
        unfold putOk wideB at ho
        simp only [Bool.and_eq_true, Bool.or_eq_true, decide_eq_true_eq] at ho
        exact ⟨ho.1.1, ho.1.2, ho.2⟩
      obtain ⟨k, rfl⟩ : ∃ k : Nat, width = k := ⟨width.toNat, by omega⟩
      obtain ⟨o1, o2, o3⟩ := hok
      rw [Int.toNat_natCast] at o3
      have hf : k = 8 ∨ N < 256 ^ k := o3.elim (fun h => .inl (by omega)) .inr
      have HF := Lib.hid hf
      have HV := Lib.hid (show putV N k = .tuple #[.string (S (putL N k)), .int .i64 0] by unfold putV; rw [ho]; rfl)
      have hpl := putL_len N k
      clear ho o3 hf
      have HPL : Hid ((b ++ putL N k).length = n + k) := Lib.hid (by rw [List.length_append, HB.out, hpl])
      have hsum : b.length + (putL N k).length ≤ 5000 := by rw [hpl, HB.out]; omega
      clear hpl
      go_enter Tryd.func10, Tryd.ntmps10
      go_wp2_with (first | (go_at_call 33; ((with_reducible refine alive02_any _ hw ?_); intro w1 k1; have hr1 := hr.kp k1 (by simp))) | (go_at_call 34; ((with_reducible refine put_good N k hr1 HB.out (by omega) hN (by omega) (by omega) HF.out ?_); intro A2 c2 w2 hA2 ho2 k2; have hr2 := hr1.kp k2 (by simp))) | (go_at_call 35; ((with_reducible refine rput_any N k _ hN ?_); intro w3 k3; rw [HV.out]; have hr3 := hr2.kp k3 (by simp); have ho3 := ho2.kp k3 (by simp); have c3 := conv_bs (c := c2) (ho3.rd (N := []) (by simp)) HPL.out; have c4 := conv_bs (c := c) hr3 HB.out)))
      exact H.out _ ((k1.trans k2).trans k3)
  · have hl' : 2000 < n := by omega
    clear hl
    go_enter Tryd.func10, Tryd.ntmps10
    go_wp2_with (go_at_call 33; ((with_reducible refine alive02_any _ hw ?_); intro w1 k1))
    exact H.out _ k1
end Go.Proofs.YthppknpeagjcpaaDoor
