/- The reader's methods, with where its bytes lie. -/
import Derived.Test.YtnpkfhnhcadgeaaDoorEye2
namespace Go.Proofs.YtnpkfhnhcadgeaaDoor
open Go.RowKit Go.Shelf
set_option linter.unusedVariables false
set_option linter.unusedSimpArgs false
set_option maxRecDepth 100000
theorem slice_toB {w : World} {N : List Nat} {A : Option Addr} {n c : Nat} {l : List UInt8} (hr : Rd w N A (bts l)) (hl : l.length = n) (hc : n ≤ c) (k : Nat) (hk : k ≤ n) :
    ∃ A1, (∀ W, (Instr.slice 29 (.slice A n c) none (some (.int .i64 k)) none).run Tryd.prog W = .ok (.slice A1 k c) W) ∧ Rd w N A1 (bts (l.take k)) ∧ ∀ b ∈ bks A1, b ∈ bks A := by
  refine ⟨if c = 0 then A else A.map (·.add 0), fun W => ?_, ?_, ?_⟩
  · rw [run_slice_h W _ _ _ _ und_u8 .i64 k (by omega) (by omega), size_u8]
    simp [Result.andThen, sliced]
  · rw [bts_take]
    have e : (if c = 0 then A else A.map (·.add 0)) = A := by
      split
      · rfl
      · cases A with
        | none => rfl
        | some a => simp [Addr.add]
    rw [e]
    exact hr.take k
  · intro b hb
    split at hb
    · exact hb
    · cases A with
      | none => simp [bks] at hb
      | some a =>
        have e : ∀ k, (a.add k).block = a.block := fun k => by unfold Addr.add; split <;> rfl
        simpa [bks, e] using hb
theorem slice_fromB {w : World} {N : List Nat} {A : Option Addr} {n c : Nat} {l : List UInt8} (hr : Rd w N A (bts l)) (hl : l.length = n) (hc : n ≤ c) (k : Nat) (hk : k ≤ n) :
    ∃ A1, (∀ W, (Instr.slice 29 (.slice A n c) (some (.int .i64 k)) none none).run Tryd.prog W = .ok (.slice A1 (n - k) (c - k)) W) ∧ Rd w N A1 (bts (l.drop k)) ∧ ∀ b ∈ bks A1, b ∈ bks A := by
  refine ⟨if c = k then A else A.map (·.add (k * 1)), fun W => ?_, ?_, ?_⟩
  · rw [run_slice_l W _ _ _ _ und_u8 .i64 k (by omega) (by omega), size_u8]
    simp [Result.andThen, sliced]
  · rw [bts_drop]
    rcases Nat.lt_or_ge k n with h | h
    · rw [if_neg (by omega), Nat.mul_one]
      exact hr.drop k (by rw [bts_len]; omega)
    · rw [List.drop_eq_nil_of_le (by rw [bts_len]; omega)]
      exact Rd.nil
  · intro b hb
    split at hb
    · exact hb
    · cases A with
      | none => simp [bks] at hb
      | some a =>
        have e : ∀ k, (a.add k).block = a.block := fun k => by unfold Addr.add; split <;> rfl
        simpa [bks, e] using hb
variable {N : List Nat}
set_option maxHeartbeats 1000000 in
theorem take_goodB {R : Ending → World → Prop} {w : World} {g : Nat} {A : Option Addr} {n c : Nat} {l : List UInt8} (he : EyeR w g N A n c l 0) (k : Nat) (hk : k ≤ n)
    (h : ∀ A' B m cB w', (∀ b ∈ bks A', b ∈ bks A) → EyeR w' g N A' (n - k) m (l.drop k) 0 → Rd w' (g :: N) B (bts (l.take k)) → Kp [g] w w' → R (.returned (.slice B k cB)) w') : Calls Tryd.prog 38 #[.pointer (some ⟨g, 0, none⟩), .int .i64 k, .bool true] w R := by
  have H := Lib.hid h
  clear h
  obtain ⟨c0, c1, f0, f1⟩ := he.ne
  obtain ⟨A1, e1, r1, _⟩ := slice_toB he.rd he.len he.cap k hk
  obtain ⟨A2, e2, r2, hA2⟩ := slice_fromB he.rd he.len he.cap k hk
  go_enter Tryd.func38, Tryd.ntmps38
  go_wp2
  refine wp_scope_fwd 0 (by rfl) ?_
  intro J HJ
  go_wp2
  have he2 : EyeR w.drew g N A n c l 0 := ⟨he.bk, he.rd, he.len, he.cap, he.max⟩
  have r1' : Rd w.drew (g :: N) A1 (bts (l.take k)) := r1
  have r2' : Rd w.drew (g :: N) A2 (bts (l.drop k)) := r2
  have k0 : Kp [g] w w.drew := (Kp.refl _ _).drew
  obtain ⟨d0, d1, d2, d3⟩ := he2.ne
  go_still_tail 16, (by kernel_rfl)
  change wpList _ _ _ _ _ w.drew
  clear c0 c1 f0 f1
  generalize w.drew = w2 at *
  go_wp2
  have kk : Kp [g] w2 (w2.setCell ⟨g, 0, none⟩ (.slice A2 (n - k) (c - k))) := (Kp.refl _ _).setCell (.inl (by simp)) _
  exact H.out _ _ _ _ _ hA2 ⟨(he2.bk.set_ 0 _).cast rfl, r2'.kp kk (fun s hs => .inl (by simp at hs; simp [hs])), by rw [List.length_drop, he2.len], by have := he2.cap; omega, by have := he2.max; omega⟩ (r1'.kp kk (fun s hs => .inl (by simp at hs; simp [hs]))) (k0.trans kk)
theorem take_anyB {R : Ending → World → Prop} {w : World} {g : Nat} {A : Option Addr} {n c : Nat} {l : List UInt8} {err : Int} (he : EyeR w g N A n c l err) (k : Int) (may : Bool) (hk : may = true → 0 ≤ k)
    (h : ∀ A' n' c' B m cB w', (∀ b ∈ bks A', b ∈ bks A) → EyeR w' g N A' n' c' (takeM (l, err) k may).2.1 (takeM (l, err) k may).2.2 → Rd w' (g :: N) B (bts (takeM (l, err) k may).1) → (takeM (l, err) k may).1.length = m → m ≤ 1000000 → Kp [g] w w' → R (.returned (.slice B m cB)) w') :
    Calls Tryd.prog 38 #[.pointer (some ⟨g, 0, none⟩), .int .i64 k, .bool may] w R := by
  have hlen := he.len
  have hmax := he.max
  unfold takeM at h
  by_cases h0 : err = 0
  · subst h0
    simp only [not_true_eq_false, if_false] at h
    cases may
    · simp only [if_true] at h
      exact take_wrong he k false (.inl rfl) (fun w' h1 h2 => h none 0 0 none 0 0 w' (by simp [bks]) h1 Rd.nil rfl (by omega) h2)
    · simp only [Bool.true_eq_false, if_false] at h
      by_cases hlt : (l.length : Int) < k
      · simp only [if_pos hlt] at h
        exact take_wrong he k true (.inr (by omega)) (fun w' h1 h2 => h none 0 0 none 0 0 w' (by simp [bks]) h1 Rd.nil rfl (by omega) h2)
      · simp only [if_neg hlt] at h
        have h0k := hk rfl
        obtain ⟨j, rfl⟩ : ∃ j : Nat, k = j := ⟨k.toNat, by omega⟩
        rw [Int.toNat_natCast] at h
        exact take_goodB he j (by omega) (fun A' B m cB w' h0 h1 h2 h3 => h A' _ m B j cB w' h0 h1 h2 (by rw [List.length_take]; omega) (by omega) h3)
  · simp only [h0, not_false_eq_true, if_true] at h
    exact take_err he k may h0 (h A n c none 0 0 w (fun b hb => hb) he Rd.nil rfl (by omega) (Kp.refl _ _))
set_option maxHeartbeats 1000000 in
theorem num_anyB {R : Ending → World → Prop} {w : World} {g : Nat} {A : Option Addr} {n c : Nat} {l : List UInt8} {err : Int} (he : EyeR w g N A n c l err) (k : Int)
    (h : ∀ A' n' c' w', (∀ b ∈ bks A', b ∈ bks A) → EyeR w' g N A' n' c' (takeM (l, err) k (wideB k)).2.1 (takeM (l, err) k (wideB k)).2.2 → Kp [g] w w' → R (.returned (.int .u64 (numB (takeM (l, err) k (wideB k)).1))) w') :
    Calls Tryd.prog 22 #[.pointer (some ⟨g, 0, none⟩), .int .i64 k] w R := by
  have H := Lib.hid h
  clear h
  have hsub := takeM_sub (l, err) k (wideB k)
  have h8 : wideB k = true → k ≤ 8 ∧ 0 ≤ k := fun h => by unfold wideB at h; have := of_decide_eq_true h; omega
  have hlen8 : (takeM (l, err) k (wideB k)).1.length ≤ 8 := by
    cases hw : wideB k
    · unfold takeM; (repeat' split) <;> simp_all
    · rw [hw] at hsub; have := h8 hw; omega
  have HT : Hid (∀ (R : Ending → World → Prop), (∀ A' n' c' B m cB w', (∀ b ∈ bks A', b ∈ bks A) → EyeR w' g N A' n' c' (takeM (l, err) k (wideB k)).2.1 (takeM (l, err) k (wideB k)).2.2 → Rd w' (g :: N) B (bts (takeM (l, err) k (wideB k)).1) → (takeM (l, err) k (wideB k)).1.length = m → m ≤ 1000000 → Kp [g] w w' → R (.returned (.slice B m cB)) w') → Calls Tryd.prog 38 #[.pointer (some ⟨g, 0, none⟩), .int .i64 k, .bool (wideB k)] w R) := Lib.hid fun R h => take_anyB he k (wideB k) (fun h => (h8 h).2) h
  clear hsub h8
  generalize takeM (l, err) k (wideB k) = st at *
  go_enter Tryd.func22, Tryd.ntmps22
  go_wp2_with (first | (go_at_call 39; refine wide_any _ _ ?_) | (go_at_call 38; ((with_reducible refine HT.out _ ?_); intro A1 n1 c1 B m cB w1 hbA he1 hr1 hl1 hm1 hk1)))
  have HE := Lib.hid he1
  have HBA := Lib.hid hbA
  have HK := Lib.hid hk1
  clear he1 hk1 hbA
  go_loop [5, 14] (fun av iv => ∃ (i a : Nat), i ≤ m ∧ iv = .int .i64 i ∧ av = .int .u64 a ∧ Hid (numB (st.1.take i) = a)) (fun _ iv => m - (intOf iv).toNat)
  case atStart => exact ⟨0, 0, Nat.zero_le _, rfl, rfl, Lib.hid rfl⟩
  case round =>
    obtain ⟨i, a, hi, rfl, rfl, ha⟩ := hrel
    by_cases hlt : i < m
    · have hil : i < st.1.length := by omega
      obtain ⟨x, hx⟩ : ∃ x, st.1[i]? = some x := ⟨_, List.getElem?_eq_getElem hil⟩
      have hab : a < 72057594037927936 := by
        have h1 := numB_lt (st.1.take i)
        rw [ha.out, List.length_take, Nat.min_eq_left (by omega)] at h1
        have h2 : 256 ^ i ≤ 256 ^ 7 := Nat.pow_le_pow_right (by decide) (by omega)
        have h3 : (256 : Nat) ^ 7 = 72057594037927936 := by decide
        omega
      obtain ⟨b', off, rfl, _, _, hcc⟩ := hr1 (by intro e; have := congrArg List.length e; rw [bts_len] at this; simp at this; rw [this] at hil; simp at hil)
      have hc : w1.cell? ⟨b', off + i, none⟩ = some (.int .u8 x.toNat) := hcc i _ (by rw [bts_get, hx]; rfl)
      have HA : Hid (numB (st.1.take (i + 1)) = a * 256 + x.toNat) := by
        refine Lib.hid ?_
        obtain ⟨hk', he'⟩ := List.getElem?_eq_some_iff.1 hx
        rw [List.take_succ_eq_append_getElem hk', numB_snoc, ha.out, he']
      have HV : Hid (bits .or .u64 ((a : Int) * 256) (IntKind.u64.wrap (x.toNat : Int)) = ((a * 256 + x.toNat : Nat) : Int)) := Lib.hid (by rw [IntWalk.u64_in _ (by have := x.toNat_lt; omega)]; exact numv a x hab)
      clear hcc hx ha
      go_wp2
      go_round
      case rel => exact ⟨i + 1, a * 256 + x.toNat, by omega, by go_num, congrArg (Value.int .u64) HV.out, HA⟩
      case measure => simp [intOf]; omega
    · obtain rfl : i = m := by omega
      have e : st.1.take i = st.1 := List.take_of_length_le (by omega)
      have ha' := ha.out
      rw [e] at ha'
      have HA := Lib.hid ha'
      clear e ha' ha
      go_wp2
      exact rcast (H.out _ _ _ _ HBA.out HE.out HK.out) (congrArg (fun x : Nat => Value.int .u64 x) HA.out)
set_option maxHeartbeats 1000000 in
theorem bytes_anyB {R : Ending → World → Prop} {w : World} {g : Nat} {A : Option Addr} {n c : Nat} {l : List UInt8} {err : Int} (he : EyeR w g N A n c l err) (k : Int)
    (h : ∀ A' n' c' B m cB w', (∀ b ∈ bks A', b ∈ bks A) → EyeR w' g N A' n' c' (takeM (l, err) k (decide (0 ≤ k))).2.1 (takeM (l, err) k (decide (0 ≤ k))).2.2 → Rd w' [] B (bts (takeM (l, err) k (decide (0 ≤ k))).1) → (takeM (l, err) k (decide (0 ≤ k))).1.length = m → Kp [g] w w' → R (.returned (.slice B m cB)) w') :
    Calls Tryd.prog 21 #[.pointer (some ⟨g, 0, none⟩), .int .i64 k] w R := by
  have H := Lib.hid h
  clear h
  have HT : Hid (∀ (R : Ending → World → Prop), (∀ A' n' c' B m cB w', (∀ b ∈ bks A', b ∈ bks A) → EyeR w' g N A' n' c' (takeM (l, err) k (decide (0 ≤ k))).2.1 (takeM (l, err) k (decide (0 ≤ k))).2.2 → Rd w' (g :: N) B (bts (takeM (l, err) k (decide (0 ≤ k))).1) → (takeM (l, err) k (decide (0 ≤ k))).1.length = m → m ≤ 1000000 → Kp [g] w w' → R (.returned (.slice B m cB)) w') → Calls Tryd.prog 38 #[.pointer (some ⟨g, 0, none⟩), .int .i64 k, .bool (decide (0 ≤ k))] w R) := Lib.hid fun R h => take_anyB he k _ (fun h => of_decide_eq_true h) h
  generalize takeM (l, err) k (decide (0 ≤ k)) = st at *
  go_enter Tryd.func21, Tryd.ntmps21
  go_wp2_with (first | (go_at_call 38; ((with_reducible refine HT.out _ ?_); intro A1 n1 c1 B m cB w1 hbA he1 hr1 hl1 hm1 hk1)) | (go_at_call 37; ((refine clone_any hr1 hl1 (by omega) ?_); intro A2 c2 w2 hA2 ho2 hk2)))
  exact H.out _ _ _ A2 m c2 w2 hbA (he1.kp hk2) (ho2.rd (by simp)) hl1 (hk1.thn hk2 (by simp))
end Go.Proofs.YtnpkfhnhcadgeaaDoor
