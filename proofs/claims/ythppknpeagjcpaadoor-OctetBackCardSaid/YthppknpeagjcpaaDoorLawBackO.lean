/- OctetBack walked. -/
import Derived.Test.YthppknpeagjcpaaDoorEye3
import Derived.Test.YthppknpeagjcpaaDoorLawReads
import Derived.Test.YthppknpeagjcpaaDoorBackN
namespace Go.Proofs.YthppknpeagjcpaaDoor
open Go.RowKit Go.Shelf
set_option linter.unusedVariables false
set_option linter.unusedSimpArgs false
set_option maxRecDepth 100000

theorem fold_putL (N w : Nat) : ∀ a, (putL N w).foldl (fun n (c : UInt8) => n * 256 + c.toNat) a = a * 256 ^ w + N % 256 ^ w := by
  induction w with
  | zero => intro a; simp [putL, Nat.mod_one]
  | succ w ih =>
    intro a
    simp only [putL, List.foldl_cons]
    have e : N % 256 ^ (w + 1) = N % 256 ^ w + 256 ^ w * (N / 256 ^ w % 256) := Nat.mod_pow_succ
    rw [ih, UInt8.toNat_ofNat', e]
    generalize hx : N / 256 ^ w = x
    generalize N % 256 ^ w = y
    have e2 : (256 : Nat) ^ (w + 1) = 256 * 256 ^ w := by rw [Nat.pow_succ, Nat.mul_comm]
    rw [e2, show (2 : Nat) ^ 8 = 256 from rfl, Nat.add_mul, ← Nat.mul_assoc, Nat.mul_comm (x % 256)]
    omega
theorem numB_putL (N k : Nat) (hN : N < 18446744073709551616) (hf : k = 8 ∨ N < 256 ^ k) : numB (putL N k) = N := by
  unfold numB
  rw [fold_putL, Nat.zero_mul, Nat.zero_add]
  rcases hf with rfl | h
  · exact Nat.mod_eq_of_lt (by show N < 18446744073709551616; exact hN)
  · exact Nat.mod_eq_of_lt h
theorem take_one (N k : Nat) (l : List UInt8) (h1 : 1 ≤ k) (h8 : k ≤ 8) : takeM (putL N k ++ l, 0) k (mayB k true) = (putL N k, l, 0) := by
  have hw : mayB k true = true := by unfold mayB wideB; simp; omega
  have hl := putL_len N k
  unfold takeM
  rw [hw, if_neg (by simp), if_neg (by simp), if_neg (by simp only [List.length_append]; omega), Int.toNat_natCast, List.take_left' hl, List.drop_left' hl]
theorem take_all (l : List UInt8) (n : Nat) (h : l.length = n) : takeM (l, 0) n (mayB n false) = (l, [], 0) := by
  subst h
  unfold takeM mayB
  simp
theorem rd_two {w : World} {N : List Nat} {A : Option Addr} {x y : List UInt8} (h : Rd w N A (bts x ++ bts y)) : Rd w N A (bts (x ++ y)) := by
  have e : bts (x ++ y) = bts x ++ bts y := by simp [bts]
  rw [e]; exact h
theorem num_at {R : Ending → World → Prop} {w : World} {g : Nat} {N : List Nat} {A : Option Addr} {n c : Nat} {l p q : List UInt8} {v : Nat} {k : Nat} (he : EyeR w g N A n c l 0) (hst : takeM (l, 0) k (mayB k true) = (p, q, 0)) (hv : numB p = v)
    (h : ∀ A' n' c' w', EyeR w' g N A' n' c' q 0 → Kp [g] w w' → R (.returned (.int .u64 v)) w') :
    Calls Tryd.prog 38 #[.pointer (some ⟨g, 0, none⟩), .int .i64 k] w R := by
  subst hv; exact num_st he k _ hst h
theorem bytes_at {R : Ending → World → Prop} {w : World} {g : Nat} {N : List Nat} {A : Option Addr} {n c : Nat} {l p q : List UInt8} {k : Nat} (he : EyeR w g N A n c l 0) (hst : takeM (l, 0) k (mayB k false) = (p, q, 0))
    (h : ∀ A' n' c' B m cB w', EyeR w' g N A' n' c' q 0 → Rd w' [] B (bts p) → p.length = m → Kp [g] w w' → R (.returned (.slice B m cB)) w') :
    Calls Tryd.prog 40 #[.pointer (some ⟨g, 0, none⟩), .int .i64 k] w R :=
  bytes_st he k _ hst h
theorem done_at {R : Ending → World → Prop} {w : World} {g : Nat} {N : List Nat} {A : Option Addr} {n c : Nat} (he : EyeR w g N A n c [] 0) (h : R (.returned (.int .i64 0)) w) : Calls Tryd.prog 43 #[.pointer (some ⟨g, 0, none⟩)] w R :=
  done_any he h
theorem ipL_len (a : Nat) : (ipL a).length ≤ 1000000 := by
  have hd3 : ∀ n, (d3 n).length ≤ 3 := fun n => by unfold d3; (repeat' split) <;> simp
  have h1 := hd3 (a / 16777216 % 256)
  have h2 := hd3 (a / 65536 % 256)
  have h3 := hd3 (a / 256 % 256)
  have h4 := hd3 (a % 256)
  unfold ipL ipP Lib.join
  simp [List.intercalate]
  omega
theorem put_nil (N k : Nat) (h : N < 18446744073709551616) (k1 : 1 ≤ k) (k8 : k ≤ 8) (h2 : k = 8 ∨ N < 256 ^ k) (w : World) (R : Ending → World → Prop) (h3 : ∀ A' c' w', (∀ x ∈ bks A', w.heap.size ≤ x) → Ow w' 5 1 A' k c' (bts (putL N k)) → Kp [] w w' → R (.returned (.tuple #[.slice A' k c', .int .i64 0])) w') : Calls Tryd.prog 34 #[.slice none 0 0, .int .u64 N, .int .i64 k] w R :=
  put_good (A := none) (n := 0) (c := 0) (b := []) N k Rd.nil rfl (by decide) h k1 k8 h2 (fun A' c' w' q1 q2 q3 => by
    have := h3 A' c' w' q1 (q2.cast (Nat.zero_add k) rfl) q3
    rwa [← Nat.zero_add k] at this)
set_option maxHeartbeats 4000000 in
theorem backo_walk {R : Ending → World → Prop} (A : Option Addr) (n c N : Nat) (b : List UInt8) (width : Int) (a : Nat) (w : World) (hr : Rd w [] A (bts b)) (hb : b.length = n) (hN : N < 18446744073709551616) (ha : a < 4294967296) (hw : Lw w) (h : ∀ w', Kp [] w w' → R (.returned (.bool true)) w') :
    Calls Tryd.prog 13 #[.int .u64 N, .int .i64 width, .int .u32 a, .slice A n c] w R := by
  have H := Lib.hid h
  clear h
  have HB := Lib.hid hb
  clear hb
  by_cases hl : n ≤ 1000
  · have hipl : (ipL a).length ≤ 1000000 := ipL_len a
    have HIP := Lib.hid (pip_ip a ha)
    by_cases hm : N < 281474976710656
    · have hml : (macL N).length ≤ 1000000 := by
        unfold macL macP Lib.join
        simp [putL, hexL, List.intercalate]
      have HMV := Lib.hid (pm_mac N hm)
      have HML := Lib.hid hml
      have HIL := Lib.hid hipl
      clear hml hipl
      cases ho : putOk N width
      · have HO := Lib.hid ho
        clear ho
        go_enter Tryd.func13, Tryd.ntmps13
        go_wp2_with (first | (go_at_call 33; ((with_reducible refine alive02_any _ hw ?_); intro w1 k1)) | (go_at_call 45; ((with_reducible refine ip_any a _ ha (hw.kp k1) ?_); intro w2 k2; have k12 := k1.trans k2)) | (go_at_call 44; ((with_reducible refine pip_any (ipL a) _ HIL.out (hw.kp k12) ?_); intro w3 k3; rw [HIP.out]; have k13 := k12.trans k3)) | (go_at_call 46; ((with_reducible refine mac_good N _ hm ?_); intro w4 k4)) | (go_at_call 47; ((with_reducible refine pm_any (macL N) _ HML.out ?_); intro w5 k5; rw [HMV.out]; have k15 := (k13.trans k4).trans k5)) | (go_at_call 34; (refine put_bad N width hN HO.out ?_)))
        exact H.out _ k15
      · have hok : 1 ≤ width ∧ width ≤ 8 ∧ (width = 8 ∨ N < 256 ^ width.toNat) := by
          unfold putOk wideB at ho
          simp only [Bool.and_eq_true, Bool.or_eq_true, decide_eq_true_eq] at ho
          exact ⟨ho.1.1, ho.1.2, ho.2⟩
        obtain ⟨k, rfl⟩ : ∃ k : Nat, width = k := ⟨width.toNat, by omega⟩
        obtain ⟨o1, o2, o3⟩ := hok
        rw [Int.toNat_natCast] at o3
        have q1 : 1 ≤ k := by omega
        have q8 : k ≤ 8 := by omega
        have hf : k = 8 ∨ N < 256 ^ k := o3.elim (fun h => .inl (by omega)) .inr
        have HG := Lib.hid (put_nil N k hN q1 q8 hf)
        have HN := Lib.hid (numB_putL N k hN hf)
        have HT := Lib.hid (take_one N k b q1 q8)
        have HA := Lib.hid (take_all b n HB.out)
        have HPL : Hid ((putL N k ++ b).length = k + n) := Lib.hid (by rw [List.length_append, HB.out, putL_len])
        clear ho o1 o2 o3 hf
        go_enter Tryd.func13, Tryd.ntmps13
        go_wp2_with (first | (go_at_call 33; ((with_reducible refine alive02_any _ hw ?_); intro w1 k1)) | (go_at_call 45; ((with_reducible refine ip_any a _ ha (hw.kp k1) ?_); intro w2 k2; have k12 := k1.trans k2)) | (go_at_call 44; ((with_reducible refine pip_any (ipL a) _ HIL.out (hw.kp k12) ?_); intro w3 k3; rw [HIP.out]; have k13 := k12.trans k3)) | (go_at_call 46; ((with_reducible refine mac_good N _ hm ?_); intro w4 k4)) | (go_at_call 47; ((with_reducible refine pm_any (macL N) _ HML.out ?_); intro w5 k5; rw [HMV.out]; have k15 := (k13.trans k4).trans k5)) | (go_at_call 34; ((with_reducible refine HG.out _ _ ?_); intro A6 c6 w6 hA6 ho6 k6; have k16 := k15.trans k6)) | (at_builtin; refine wpList_app _ rfl (.tmp 63) (.tmp 64) _ rfl elt_u8 A6 k c6 _ rfl ho6 [] A n c (bts b) rfl (hr.kp k16 (by simp)) (by rw [bts_len, HB.out, Nat.mul_one]) (bts_one _) (by omega) ?_; intro A7 c7 w7 ho7 hk7 hA7; have k17 : Kp [] w w7 := k16.thn hk7 (fun s hs => .inr (Nat.le_trans k15.size (hA6 s hs))); have hr7 := rd_two (ho7.rd (N := []) (by simp))) | (go_at_call 36; ((with_reducible refine new_any hr7 HPL.out (by omega) ?_); intro g A8 c8 w8 hg he kk8; have k18 := k17.trans kk8; have hgw : w.heap.size ≤ g := Nat.le_trans k17.size hg)))
        go_region_law (first | (go_simp; go_at_call 38; (refine num_at ((he [] (by simp)).kp ((Kp.refl [] w8).drew)) HT.out HN.out ?_); intro A9 n9 c9 w9 he9 k9; have k19 : Kp [] w w9 := (k18.drew).thn k9 (fun s hs => .inr (by simp at hs; omega)); have cv3 := conv_bs (c := c) (hr.kp k19 (by simp)) HB.out) | (go_simp; go_at_call 40; (refine bytes_at he9 HA.out ?_); intro A10 n10 c10 B m cB w10 he10 r10 l10 k10; have k110 : Kp [] w w10 := k19.thn k10 (fun s hs => .inr (by simp at hs; omega)); have cv1 := conv_bs (c := cB) r10 l10; have cv2 := conv_bs (c := c) (hr.kp k110 (by simp)) HB.out) | (go_simp; go_at_call 43; (refine done_at he10 ?_)))
        all_goals go_wp2
        all_goals first
          | exact bodyPost_ret (v := .bool true) (by rfl) (by rfl) (H.out _ k110)
          | (refine bodyPost_ret (results_tmp rfl _ _ _) ?_ ?_; · rfl; · exact H.out _ k110)
          | (simp [results, Tryd.results13, go_sem, bodyPost, Act.put]; exact H.out _ k110)
    · have HIL := Lib.hid hipl
      clear hipl
      cases ho : putOk N width
      · have HO := Lib.hid ho
        clear ho
        go_enter Tryd.func13, Tryd.ntmps13
        go_wp2_with (first | (go_at_call 33; ((with_reducible refine alive02_any _ hw ?_); intro w1 k1)) | (go_at_call 45; ((with_reducible refine ip_any a _ ha (hw.kp k1) ?_); intro w2 k2; have k12 := k1.trans k2)) | (go_at_call 44; ((with_reducible refine pip_any (ipL a) _ HIL.out (hw.kp k12) ?_); intro w3 k3; rw [HIP.out]; have k13 := k12.trans k3)) | (go_at_call 46; (refine mac_bad N _ (by omega) hN ?_; have k15 := k13)) | (go_at_call 34; (refine put_bad N width hN HO.out ?_)))
        exact H.out _ k15
      · have hok : 1 ≤ width ∧ width ≤ 8 ∧ (width = 8 ∨ N < 256 ^ width.toNat) := by
          unfold putOk wideB at ho
          simp only [Bool.and_eq_true, Bool.or_eq_true, decide_eq_true_eq] at ho
          exact ⟨ho.1.1, ho.1.2, ho.2⟩
        obtain ⟨k, rfl⟩ : ∃ k : Nat, width = k := ⟨width.toNat, by omega⟩
        obtain ⟨o1, o2, o3⟩ := hok
        rw [Int.toNat_natCast] at o3
        have q1 : 1 ≤ k := by omega
        have q8 : k ≤ 8 := by omega
        have hf : k = 8 ∨ N < 256 ^ k := o3.elim (fun h => .inl (by omega)) .inr
        have HG := Lib.hid (put_nil N k hN q1 q8 hf)
        have HN := Lib.hid (numB_putL N k hN hf)
        have HT := Lib.hid (take_one N k b q1 q8)
        have HA := Lib.hid (take_all b n HB.out)
        have HPL : Hid ((putL N k ++ b).length = k + n) := Lib.hid (by rw [List.length_append, HB.out, putL_len])
        clear ho o1 o2 o3 hf
        go_enter Tryd.func13, Tryd.ntmps13
        go_wp2_with (first | (go_at_call 33; ((with_reducible refine alive02_any _ hw ?_); intro w1 k1)) | (go_at_call 45; ((with_reducible refine ip_any a _ ha (hw.kp k1) ?_); intro w2 k2; have k12 := k1.trans k2)) | (go_at_call 44; ((with_reducible refine pip_any (ipL a) _ HIL.out (hw.kp k12) ?_); intro w3 k3; rw [HIP.out]; have k13 := k12.trans k3)) | (go_at_call 46; (refine mac_bad N _ (by omega) hN ?_; have k15 := k13)) | (go_at_call 34; ((with_reducible refine HG.out _ _ ?_); intro A6 c6 w6 hA6 ho6 k6; have k16 := k15.trans k6)) | (at_builtin; refine wpList_app _ rfl (.tmp 63) (.tmp 64) _ rfl elt_u8 A6 k c6 _ rfl ho6 [] A n c (bts b) rfl (hr.kp k16 (by simp)) (by rw [bts_len, HB.out, Nat.mul_one]) (bts_one _) (by omega) ?_; intro A7 c7 w7 ho7 hk7 hA7; have k17 : Kp [] w w7 := k16.thn hk7 (fun s hs => .inr (Nat.le_trans k15.size (hA6 s hs))); have hr7 := rd_two (ho7.rd (N := []) (by simp))) | (go_at_call 36; ((with_reducible refine new_any hr7 HPL.out (by omega) ?_); intro g A8 c8 w8 hg he kk8; have k18 := k17.trans kk8; have hgw : w.heap.size ≤ g := Nat.le_trans k17.size hg)))
        go_region_law (first | (go_simp; go_at_call 38; (refine num_at ((he [] (by simp)).kp ((Kp.refl [] w8).drew)) HT.out HN.out ?_); intro A9 n9 c9 w9 he9 k9; have k19 : Kp [] w w9 := (k18.drew).thn k9 (fun s hs => .inr (by simp at hs; omega)); have cv3 := conv_bs (c := c) (hr.kp k19 (by simp)) HB.out) | (go_simp; go_at_call 40; (refine bytes_at he9 HA.out ?_); intro A10 n10 c10 B m cB w10 he10 r10 l10 k10; have k110 : Kp [] w w10 := k19.thn k10 (fun s hs => .inr (by simp at hs; omega)); have cv1 := conv_bs (c := cB) r10 l10; have cv2 := conv_bs (c := c) (hr.kp k110 (by simp)) HB.out) | (go_simp; go_at_call 43; (refine done_at he10 ?_)))
        all_goals go_wp2
        all_goals first
          | exact bodyPost_ret (v := .bool true) (by rfl) (by rfl) (H.out _ k110)
          | (refine bodyPost_ret (results_tmp rfl _ _ _) ?_ ?_; · rfl; · exact H.out _ k110)
          | (simp [results, Tryd.results13, go_sem, bodyPost, Act.put]; exact H.out _ k110)
  · have hl' : 1000 < n := by omega
    clear hl
    go_enter Tryd.func13, Tryd.ntmps13
    go_wp2_with (go_at_call 33; ((with_reducible refine alive02_any _ hw ?_); intro w1 k1))
    exact H.out _ k1
end Go.Proofs.YthppknpeagjcpaaDoor
