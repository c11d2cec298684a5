/- OctetOrder walked. -/
import Derived.Test.YthppknpeagjcpaaDoorLawPuts
namespace Go.Proofs.YthppknpeagjcpaaDoor
open Go.RowKit Go.Shelf
set_option linter.unusedVariables false
set_option linter.unusedSimpArgs false
set_option maxRecDepth 100000
theorem less_put (a b : Nat) : ∀ w, Op.bytesLess (putL a w) (putL b w) = decide (a % 256 ^ w < b % 256 ^ w) := by
  intro w
  induction w with
  | zero => simp [putL, Op.bytesLess, Nat.mod_one]
  | succ w ih =>
    rw [Nat.pow_succ, Nat.mod_mul, Nat.mod_mul]
    have h1 : (UInt8.ofNat (a / 256 ^ w)).toNat = a / 256 ^ w % 256 := UInt8.toNat_ofNat'
    have h2 : (UInt8.ofNat (b / 256 ^ w)).toNat = b / 256 ^ w % 256 := UInt8.toNat_ofNat'
    have hP : 0 < 256 ^ w := Nat.pow_pos (by decide)
    have l1 := Nat.mod_lt a hP
    have l2 := Nat.mod_lt b hP
    show Op.bytesLess (UInt8.ofNat (a / 256 ^ w) :: putL a w) (UInt8.ofNat (b / 256 ^ w) :: putL b w) = _
    generalize UInt8.ofNat (a / 256 ^ w) = x at *
    generalize UInt8.ofNat (b / 256 ^ w) = y at *
    rw [← h1, ← h2]
    generalize a % 256 ^ w = p at *
    generalize b % 256 ^ w = q at *
    generalize 256 ^ w = P at *
    rw [Op.bytesLess, ih]
    rcases Nat.lt_trichotomy x.toNat y.toNat with h | h | h
    · have hxy : x < y := UInt8.lt_iff_toNat_lt.2 h
      have := Nat.mul_le_mul_left P (Nat.succ_le_of_lt h)
      rw [Nat.mul_succ] at this
      rw [decide_eq_true hxy, Bool.true_or, decide_eq_true (by omega)]
    · have hxy : x = y := UInt8.toNat_inj.1 h
      subst hxy
      have hn : ¬ x < x := by rw [UInt8.lt_iff_toNat_lt]; omega
      rw [decide_eq_false hn, Bool.false_or, beq_self_eq_true, Bool.true_and, Bool.eq_iff_iff, decide_eq_true_iff, decide_eq_true_iff]
      omega
    · have hn : ¬ x < y := by rw [UInt8.lt_iff_toNat_lt]; omega
      have hne : (x == y) = false := by
        rw [beq_eq_false_iff_ne]; rintro rfl; omega
      have := Nat.mul_le_mul_left P (Nat.succ_le_of_lt h)
      rw [Nat.mul_succ] at this
      rw [decide_eq_false hn, hne, Bool.false_and, Bool.false_or, decide_eq_false (by omega)]
theorem less_ok (a b k : Nat) (ha : k = 8 ∨ a < 256 ^ k) (hb : k = 8 ∨ b < 256 ^ k) (ha2 : a < 18446744073709551616) (hb2 : b < 18446744073709551616) : Op.bytesLess (putL a k) (putL b k) = decide (a < b) := by
  have ea : a % 256 ^ k = a := Nat.mod_eq_of_lt (ha.elim (fun e => by subst e; show a < 18446744073709551616; exact ha2) id)
  have eb : b % 256 ^ k = b := Nat.mod_eq_of_lt (hb.elim (fun e => by subst e; show b < 18446744073709551616; exact hb2) id)
  rw [less_put, ea, eb]
theorem putOk_nat (N k : Nat) (h1 : 1 ≤ k) (h8 : k ≤ 8) : putOk N k = (decide (k = 8) || decide (N < 256 ^ k)) := by
  unfold putOk wideB
  rw [show decide (1 ≤ (k : Int) ∧ (k : Int) ≤ 8) = true by rw [decide_eq_true_iff]; omega, Bool.true_and, Int.toNat_natCast]
  congr 1
  rw [Bool.eq_iff_iff, decide_eq_true_iff, decide_eq_true_iff]; omega
theorem putOk_shift (N k : Nat) (h1 : 1 ≤ k) (h8 : k ≤ 8) (hN : N < 18446744073709551616) : putOk N k = decide (N / 2 ^ (8 * k - 1) / 2 = 0) := by
  rw [putOk_nat N k h1 h8, Nat.div_div_eq_div_mul, ← Nat.pow_succ, show (8 * k - 1).succ = 8 * k by omega, show (2 : Nat) ^ (8 * k) = 256 ^ k by rw [Nat.pow_mul]]
  by_cases h : k = 8
  · subst h
    have : N / 256 ^ 8 = 0 := Nat.div_eq_of_lt (by show N < 18446744073709551616; exact hN)
    rw [this]; rfl
  · rw [decide_eq_false h, Bool.false_or, Bool.eq_iff_iff, decide_eq_true_iff, decide_eq_true_iff]
    constructor
    · exact Nat.div_eq_of_lt
    · intro e
      rcases Nat.lt_or_ge N (256 ^ k) with h | h
      · exact h
      · have := Nat.div_pos h (Nat.pow_pos (n := k) (by decide : 0 < 256)); omega
set_option maxHeartbeats 2000000 in
theorem order_walk {R : Ending → World → Prop} (a b : Nat) (wd : Int) (w : World) (ha : a < 18446744073709551616) (hb : b < 18446744073709551616) (h0 : 0 ≤ wd) (h1 : wd ≤ 255) (hw : Lw w) (h : ∀ w', Kp [] w w' → R (.returned (.bool true)) w') :
    Calls Tryd.prog 11 #[.int .u64 a, .int .u64 b, .int .u8 wd] w R := by
  have H := Lib.hid h
  clear h
  obtain ⟨k, hk⟩ : ∃ k : Nat, 1 + wd % 8 = k := ⟨(1 + wd % 8).toNat, by omega⟩
  have k1 : 1 ≤ k := by omega
  have k8 : k ≤ 8 := by omega
  have cast0 : ∀ N : Nat, N < 18446744073709551616 → ((N : Int) / 2 ^ (8 * k - 1) / 2 == 0) = putOk N k := by
    intro N hN
    rw [putOk_shift N k k1 k8 hN, Bool.eq_iff_iff, beq_iff_eq, decide_eq_true_iff]
    have e : (N : Int) / 2 ^ (8 * k - 1) / 2 = ((N / 2 ^ (8 * k - 1) / 2 : Nat) : Int) := by simp
    rw [e]; omega
  have sa := cast0 a ha
  have sb := cast0 b hb
  clear cast0
  have okF : ∀ N : Nat, putOk N k = true → (k = 8 ∨ N < 256 ^ k) := by
    intro N h
    rw [putOk_nat N k k1 k8, Bool.or_eq_true, decide_eq_true_iff, decide_eq_true_iff] at h
    exact h
  have hgood : ∀ (N : Nat) (w : World) (R : Ending → World → Prop), N < 18446744073709551616 → (k = 8 ∨ N < 256 ^ k) → (∀ A' c' w', (∀ x ∈ bks A', w.heap.size ≤ x) → Ow w' 5 1 A' k c' (bts (putL N k)) → Kp [] w w' → R (.returned (.tuple #[.slice A' k c', .int .i64 0])) w') → Calls Tryd.prog 34 #[.slice none 0 0, .int .u64 N, .int .i64 k] w R := fun N w R h h2 h3 =>
    put_good (A := none) (n := 0) (c := 0) (b := []) N k Rd.nil rfl (by decide) h k1 k8 h2 (fun A' c' w' q1 q2 q3 => by
      have := h3 A' c' w' q1 (q2.cast (Nat.zero_add k) rfl) q3
      rwa [← Nat.zero_add k] at this)
  have HG := Lib.hid hgood
  clear hgood
  cases ca : putOk a k
  · have CA := Lib.hid ca
    rw [ca] at sa
    clear ca
    cases cb : putOk b k
    · have CB := Lib.hid cb
      rw [cb] at sb
      clear cb okF
      go_enter Tryd.func11, Tryd.ntmps11
      go_wp2_with (first | (go_at_call 33; ((with_reducible refine alive02_any _ hw ?_); intro w1 q1)) | (go_at_call 34; first | (with_reducible refine put_bad a k ha CA.out ?_) | (with_reducible refine put_bad b k hb CB.out ?_)))
      exact H.out _ q1
    · have FB := Lib.hid (okF b cb)
      rw [cb] at sb
      clear cb okF
      go_enter Tryd.func11, Tryd.ntmps11
      go_wp2_with (first | (go_at_call 33; ((with_reducible refine alive02_any _ hw ?_); intro w1 q1)) | (go_at_call 34; first | (with_reducible refine put_bad a k ha CA.out ?_) | ((with_reducible refine HG.out b _ _ hb FB.out ?_); intro A3 c3 w3 hA3 ho3 q3)))
      exact H.out _ (q1.trans q3)
  · have FA := Lib.hid (okF a ca)
    rw [ca] at sa
    clear ca
    cases cb : putOk b k
    · have CB := Lib.hid cb
      rw [cb] at sb
      clear cb okF
      go_enter Tryd.func11, Tryd.ntmps11
      go_wp2_with (first | (go_at_call 33; ((with_reducible refine alive02_any _ hw ?_); intro w1 q1)) | (go_at_call 34; first | ((with_reducible refine HG.out a _ _ ha FA.out ?_); intro A2 c2 w2 hA2 ho2 q2) | (with_reducible refine put_bad b k hb CB.out ?_)))
      exact H.out _ (q1.trans q2)
    · have FB := Lib.hid (okF b cb)
      rw [cb] at sb
      clear cb okF
      have hls := less_ok a b k FA.out FB.out ha hb
      have HLS := Lib.hid hls
      clear hls
      go_enter Tryd.func11, Tryd.ntmps11
      go_wp2_with (first | (go_at_call 33; ((with_reducible refine alive02_any _ hw ?_); intro w1 q1)) | (go_at_call 34; first | ((with_reducible refine HG.out a _ _ ha FA.out ?_); intro A2 c2 w2 hA2 ho2 q2) | ((with_reducible refine HG.out b _ _ hb FB.out ?_); intro A3 c3 w3 hA3 ho3 q3; have ho2' := ho2.kp q3 (by simp); have cv2 := conv_bs (c := c2) (ho2'.rd (N := []) (by simp)) (putL_len a k); have cv3 := conv_bs (c := c3) (ho3.rd (N := []) (by simp)) (putL_len b k))))
      exact rcast (H.out _ ((q1.trans q2).trans q3)) (congrArg Value.bool (by rw [HLS.out]; simp))
end Go.Proofs.YthppknpeagjcpaaDoor
