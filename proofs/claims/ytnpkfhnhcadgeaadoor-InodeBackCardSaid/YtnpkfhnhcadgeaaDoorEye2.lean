/- The reader's methods. -/
import Derived.Test.YtnpkfhnhcadgeaaDoorEye
namespace Go.Proofs.YtnpkfhnhcadgeaaDoor
open Go.RowKit Go.Shelf
set_option linter.unusedVariables false
set_option linter.unusedSimpArgs false
set_option maxRecDepth 100000

variable {N : List Nat}
def takeM (s : List UInt8 × Int) (k : Int) (may : Bool) : List UInt8 × List UInt8 × Int :=
  if ¬ s.2 = 0 then ([], s.1, s.2) else if may = false then ([], [], 1) else if (s.1.length : Int) < k then ([], [], 50) else (s.1.take k.toNat, s.1.drop k.toNat, 0)
theorem take_any {R : Ending → World → Prop} {w : World} {g : Nat} {A : Option Addr} {n c : Nat} {l : List UInt8} {err : Int} (he : EyeR w g N A n c l err) (k : Int) (may : Bool) (hk : may = true → 0 ≤ k)
    (h : ∀ A' n' c' B m cB w', EyeR w' g N A' n' c' (takeM (l, err) k may).2.1 (takeM (l, err) k may).2.2 → Rd w' (g :: N) B (bts (takeM (l, err) k may).1) → (takeM (l, err) k may).1.length = m → m ≤ 1000000 → Kp [g] w w' → R (.returned (.slice B m cB)) w') :
    Calls Tryd.prog 38 #[.pointer (some ⟨g, 0, none⟩), .int .i64 k, .bool may] w R := by
  have hlen := he.len
  have hmax := he.max
  unfold takeM at h
  by_cases h0 : err = 0
  · subst h0
    simp only [not_true_eq_false, if_false] at h
    cases may
    · simp only [if_true] at h
      exact take_wrong he k false (.inl rfl) (fun w' h1 h2 => h none 0 0 none 0 0 w' h1 Rd.nil rfl (by omega) h2)
    · simp only [Bool.true_eq_false, if_false] at h
      by_cases hlt : (l.length : Int) < k
      · simp only [if_pos hlt] at h
        exact take_wrong he k true (.inr (by omega)) (fun w' h1 h2 => h none 0 0 none 0 0 w' h1 Rd.nil rfl (by omega) h2)
      · simp only [if_neg hlt] at h
        have h0k := hk rfl
        obtain ⟨j, rfl⟩ : ∃ j : Nat, k = j := ⟨k.toNat, by omega⟩
        rw [Int.toNat_natCast] at h
        exact take_good he j (by omega) (fun A' B m cB w' h1 h2 h3 => h A' _ m B j cB w' h1 h2 (by rw [List.length_take]; omega) (by omega) h3)
  · simp only [h0, not_false_eq_true, if_true] at h
    exact take_err he k may h0 (h A n c none 0 0 w he Rd.nil rfl (by omega) (Kp.refl _ _))
theorem takeM_sub (s : List UInt8 × Int) (k : Int) (may : Bool) : (takeM s k may).1.length ≤ k.toNat := by
  unfold takeM; (repeat' split) <;> simp <;> omega
def numB (l : List UInt8) : Nat := l.foldl (fun n c => n * 256 + c.toNat) 0
theorem numB_snoc (l : List UInt8) (c : UInt8) : numB (l ++ [c]) = numB l * 256 + c.toNat := by simp [numB]
theorem numB_lt (l : List UInt8) : numB l < 256 ^ l.length := by
  have : ∀ k ≤ l.length, numB (l.take k) < 256 ^ k := by
    intro k
    induction k with
    | zero => intro _; simp [numB]
    | succ k ih =>
      intro hk
      have h1 := ih (by omega)
      rw [List.take_succ_eq_append_getElem (by omega), numB_snoc, Nat.pow_succ]
      have := (l[k]'(by omega)).toNat_lt
      omega
  have h := this l.length (Nat.le_refl _)
  rwa [List.take_length] at h
theorem numv (a : Nat) (c : UInt8) (ha : a < 72057594037927936) : bits .or .u64 ((a : Int) * 256) (c.toNat : Int) = ((a * 256 + c.toNat : Nat) : Int) := by
  have hc := c.toNat_lt
  have e1 : (a : Int) * 256 = ((2 ^ 8 * a : Nat) : Int) := by omega
  rw [e1, u64_or_nat _ _ (by omega) (by omega), ← Nat.two_pow_add_eq_or_of_lt (by omega)]
  omega
set_option maxHeartbeats 1000000 in
theorem num_any {R : Ending → World → Prop} {w : World} {g : Nat} {A : Option Addr} {n c : Nat} {l : List UInt8} {err : Int} (he : EyeR w g N A n c l err) (k : Int)
    (h : ∀ A' n' c' w', EyeR w' g N A' n' c' (takeM (l, err) k (wideB k)).2.1 (takeM (l, err) k (wideB k)).2.2 → Kp [g] w w' → R (.returned (.int .u64 (numB (takeM (l, err) k (wideB k)).1))) w') :
    Calls Tryd.prog 22 #[.pointer (some ⟨g, 0, none⟩), .int .i64 k] w R := by
  have H := Lib.hid h
  clear h
  have hsub := takeM_sub (l, err) k (wideB k)
  have h8 : wideB k = true → k ≤ 8 ∧ 0 ≤ k := fun h => by unfold wideB at h; have := of_decide_eq_true h; omega
  have hlen8 : (takeM (l, err) k (wideB k)).1.length ≤ 8 := by
    cases hw : wideB k
    · unfold takeM; (repeat' split) <;> simp_all
    · rw [hw] at hsub; have := h8 hw; omega
  have HT : Hid (∀ (R : Ending → World → Prop), (∀ A' n' c' B m cB w', EyeR w' g N A' n' c' (takeM (l, err) k (wideB k)).2.1 (takeM (l, err) k (wideB k)).2.2 → Rd w' (g :: N) B (bts (takeM (l, err) k (wideB k)).1) → (takeM (l, err) k (wideB k)).1.length = m → m ≤ 1000000 → Kp [g] w w' → R (.returned (.slice B m cB)) w') → Calls Tryd.prog 38 #[.pointer (some ⟨g, 0, none⟩), .int .i64 k, .bool (wideB k)] w R) := Lib.hid fun R h => take_any he k (wideB k) (fun h => (h8 h).2) h
  clear hsub h8
  generalize takeM (l, err) k (wideB k) = st at *
  go_enter Tryd.func22, Tryd.ntmps22
  go_wp2_with (first | (go_at_call 39; refine wide_any _ _ ?_) | (go_at_call 38; ((with_reducible refine HT.out _ ?_); intro A1 n1 c1 B m cB w1 he1 hr1 hl1 hm1 hk1)))
  have HE := Lib.hid he1
  have HK := Lib.hid hk1
  clear he1 hk1
  go_loop [5, 14] (fun av iv => ∃ (i a : Nat), i ≤ m ∧ iv = .int .i64 i ∧ av = .int .u64 a ∧ Hid (numB (st.1.take i) = a)) (fun _ iv => m - (intOf iv).toNat)
  case atStart => exact ⟨0, 0, Nat.zero_le _, rfl, rfl, Lib.hid rfl⟩
  case round =>
    obtain ⟨i, a, hi, rfl, rfl, ha⟩ := hrel
    by_cases hlt : i < m
    · have hil : i < st.1.length := by omega
      obtain ⟨x, hx⟩ : ∃ x, st.1[i]? = some x := ⟨_, List.getElem?_eq_getElem hil⟩
      have hab : a < 72057594037927936 := by
        have h1 := numB_lt (st.1.take i)
        rw [ha.out, List.length_take, Nat.min_eq_left (by omega)] at h1
        have h2 : 256 ^ i ≤ 256 ^ 7 := Nat.pow_le_pow_right (by decide) (by omega)
        have h3 : (256 : Nat) ^ 7 = 72057594037927936 := by decide
        omega
      obtain ⟨b', off, rfl, _, _, hcc⟩ := hr1 (by intro e; have := congrArg List.length e; rw [bts_len] at this; simp at this; rw [this] at hil; simp at hil)
      have hc : w1.cell? ⟨b', off + i, none⟩ = some (.int .u8 x.toNat) := hcc i _ (by rw [bts_get, hx]; rfl)
      have HA : Hid (numB (st.1.take (i + 1)) = a * 256 + x.toNat) := by
        refine Lib.hid ?_
        obtain ⟨hk', he'⟩ := List.getElem?_eq_some_iff.1 hx
        rw [List.take_succ_eq_append_getElem hk', numB_snoc, ha.out, he']
      have HV : Hid (bits .or .u64 ((a : Int) * 256) (IntKind.u64.wrap (x.toNat : Int)) = ((a * 256 + x.toNat : Nat) : Int)) := Lib.hid (by rw [IntWalk.u64_in _ (by have := x.toNat_lt; omega)]; exact numv a x hab)
      clear hcc hx ha
      go_wp2
      go_round
      case rel => exact ⟨i + 1, a * 256 + x.toNat, by omega, by go_num, congrArg (Value.int .u64) HV.out, HA⟩
      case measure => simp [intOf]; omega
    · obtain rfl : i = m := by omega
      have e : st.1.take i = st.1 := List.take_of_length_le (by omega)
      have ha' := ha.out
      rw [e] at ha'
      have HA := Lib.hid ha'
      clear e ha' ha
      go_wp2
      exact rcast (H.out _ _ _ _ HE.out HK.out) (congrArg (fun x : Nat => Value.int .u64 x) HA.out)
theorem EyeR.kp {w w' : World} {g : Nat} {A : Option Addr} {n c : Nat} {l : List UInt8} {err : Int} (he : EyeR w g N A n c l err) (hk : Kp [] w w') : EyeR w' g N A n c l err :=
  ⟨he.bk.kp hk (by simp), he.rd.kp hk (by simp), he.len, he.cap, he.max⟩
set_option maxHeartbeats 1000000 in
theorem bytes_any {R : Ending → World → Prop} {w : World} {g : Nat} {A : Option Addr} {n c : Nat} {l : List UInt8} {err : Int} (he : EyeR w g N A n c l err) (k : Int)
    (h : ∀ A' n' c' B m cB w', EyeR w' g N A' n' c' (takeM (l, err) k (decide (0 ≤ k))).2.1 (takeM (l, err) k (decide (0 ≤ k))).2.2 → Rd w' [] B (bts (takeM (l, err) k (decide (0 ≤ k))).1) → (takeM (l, err) k (decide (0 ≤ k))).1.length = m → Kp [g] w w' → R (.returned (.slice B m cB)) w') :
    Calls Tryd.prog 21 #[.pointer (some ⟨g, 0, none⟩), .int .i64 k] w R := by
  have H := Lib.hid h
  clear h
  have HT : Hid (∀ (R : Ending → World → Prop), (∀ A' n' c' B m cB w', EyeR w' g N A' n' c' (takeM (l, err) k (decide (0 ≤ k))).2.1 (takeM (l, err) k (decide (0 ≤ k))).2.2 → Rd w' (g :: N) B (bts (takeM (l, err) k (decide (0 ≤ k))).1) → (takeM (l, err) k (decide (0 ≤ k))).1.length = m → m ≤ 1000000 → Kp [g] w w' → R (.returned (.slice B m cB)) w') → Calls Tryd.prog 38 #[.pointer (some ⟨g, 0, none⟩), .int .i64 k, .bool (decide (0 ≤ k))] w R) := Lib.hid fun R h => take_any he k _ (fun h => of_decide_eq_true h) h
  generalize takeM (l, err) k (decide (0 ≤ k)) = st at *
  go_enter Tryd.func21, Tryd.ntmps21
  go_wp2_with (first | (go_at_call 38; ((with_reducible refine HT.out _ ?_); intro A1 n1 c1 B m cB w1 he1 hr1 hl1 hm1 hk1)) | (go_at_call 37; ((refine clone_any hr1 hl1 (by omega) ?_); intro A2 c2 w2 hA2 ho2 hk2)))
  exact H.out _ _ _ A2 m c2 w2 (he1.kp hk2) (ho2.rd (by simp)) hl1 (hk1.thn hk2 (by simp))
def doneI (l : List UInt8) (err : Int) : Int := if ¬ err = 0 then err else if 0 < l.length then 50 else 0
end Go.Proofs.YtnpkfhnhcadgeaaDoor
