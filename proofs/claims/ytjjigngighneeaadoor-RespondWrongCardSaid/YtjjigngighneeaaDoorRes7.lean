/- The document's answer to what is none, walked. -/
import Derived.Test.YtjjigngighneeaaDoorResD
import Derived.Test.YtjjigngighneeaaDoorRes2
namespace Go.Proofs.YtjjigngighneeaaDoor
open Go.RowKit
set_option linter.unusedVariables false
set_option linter.unusedSimpArgs false
set_option maxRecDepth 100000

set_option maxHeartbeats 2000000 in
theorem rparts_any {R : Ending → World → Prop} (st : Int) (w : World) (hst : okS st) (h : ∀ A c w', Kp [] w w' → Rd w' [] A (partC (bodyT st)) → R (.returned (.slice A 1 c)) w') : Calls Tryd.prog 24 #[.int .i64 st, .slice none 0 0, .agg #[.int .i64 0, .int .i64 0, .int .i64 0, .string ⟨#[]⟩]] w R := by
  have H := Lib.hid h
  obtain ⟨k, rfl⟩ : ∃ k : Nat, st = k := ⟨st.toNat, by unfold okS at hst; omega⟩
  have hk : k ≤ 9999 := by unfold okS at hst; omega
  have n1 : ((k : Int) == 200) = false := by unfold okS at hst; simp; omega
  have n2 : ((k : Int) != 206) = true := by unfold okS at hst; simp; omega
  have n3 : ((k : Int) == 304) = false := by unfold okS at hst; simp; omega
  obtain ⟨rs, hrs⟩ : ∃ rs, rsnL (k : Int) = rs := ⟨_, rfl⟩
  have hrl : rs.length ≤ 40 := by rw [← hrs]; exact rsn_len _
  have hdl := dec3 hk
  have HI : Hid (∀ (R : Ending → World → Prop) (w : World), (∀ w', Kp [] w w' → R (.returned (.string (S (decL k)))) w') → Calls Tryd.prog 41 #[.int .i64 k] w R) := Lib.hid (fun R w b => rdigits_sgn k w (by omega) (by omega) (by rw [itoaL_nat]; exact b))
  have HRs : Hid (∀ (R : Ending → World → Prop) (w : World), (∀ w', Kp [] w w' → R (.returned (.string (S rs))) w') → Calls Tryd.prog 12 #[.int .i64 k] w R) := Lib.hid (fun R w h => rreason_any k w (by rw [hrs]; exact h))
  have HBT : Hid (bodyT k = decL k ++ 32 :: (rs ++ [10])) := Lib.hid (by unfold bodyT; rw [hrs, Int.toNat_natCast])
  obtain ⟨ds, hds⟩ : ∃ ds, decL k = ds := ⟨_, rfl⟩
  rw [hds] at hdl HI HBT
  clear h hst hrs hds
  go_enter Tryd.func24, Tryd.ntmps24
  go_wp2_with (first | (go_at_call 41; ((refine HI.out _ _ ?_); intro w1 k1)) | (go_at_call 12; ((refine HRs.out _ _ ?_); intro w2 k2)))
  exact rcast (H.out (some ⟨w2.heap.size, 0, none⟩) 1 _ (((((Kp.refl _ _).alloc _).trans k1).trans k2).alloc _) (by rw [HBT.out]; exact Rd.of_bk ((Bk.new' _ _ _).cast rfl) (by simp))) rfl
set_option maxHeartbeats 4000000 in
theorem rhd_any {R : Ending → World → Prop} (st now : Int) (w : World) {A : Option Addr} {c : Nat} {D : List UInt8} (hst : okS st) (hr : Rd w [] A (partC (bodyT st))) (ht : mayB now = true → Told now D) (hf : mayB now = false → D = [])
    (h : ∀ w', Kp [] w w' → R (.returned (.string (S (headL st now D)))) w') : Calls Tryd.prog 25 #[.int .i64 st, .slice none 0 0, .slice A 1 c, .agg #[.int .i64 0, .int .i64 0, .int .i64 0, .string ⟨#[]⟩], .int .i64 1, .bool true, .int .i64 now] w R := by
  have H := Lib.hid h
  have HRd := Lib.hid hr
  obtain ⟨k, rfl⟩ : ∃ k : Nat, st = k := ⟨st.toNat, by unfold okS at hst; omega⟩
  have hk : k ≤ 9999 := by unfold okS at hst; omega
  have n1 : ((k : Int) == 200) = false := by unfold okS at hst; simp; omega
  have n2 : ((k : Int) == 206) = false := by unfold okS at hst; simp; omega
  have n3 : ((k : Int) == 304) = false := by unfold okS at hst; simp; omega
  have n4 : ((k : Int) == 405) = false := by unfold okS at hst; simp; omega
  have n5 : ((k : Int) == 416) = false := by unfold okS at hst; simp; omega
  have n6 : ((k : Int) != 304) = true := by unfold okS at hst; simp; omega
  have m1 : ¬ (k : Int) = 200 := by unfold okS at hst; omega
  have m2 : ¬ (k : Int) = 405 := by unfold okS at hst; omega
  obtain ⟨rs, hrs⟩ : ∃ rs, rsnL (k : Int) = rs := ⟨_, rfl⟩
  have hrl : rs.length ≤ 40 := by rw [← hrs]; exact rsn_len _
  have hdl := dec3 hk
  have HI : Hid (∀ (R : Ending → World → Prop) (w : World), (∀ w', Kp [] w w' → R (.returned (.string (S (decL k)))) w') → Calls Tryd.prog 41 #[.int .i64 k] w R) := Lib.hid (fun R w b => rdigits_sgn k w (by omega) (by omega) (by rw [itoaL_nat]; exact b))
  have HRs : Hid (∀ (R : Ending → World → Prop) (w : World), (∀ w', Kp [] w w' → R (.returned (.string (S rs))) w') → Calls Tryd.prog 12 #[.int .i64 k] w R) := Lib.hid (fun R w h => rreason_any k w (by rw [hrs]; exact h))
  have hbl : (bodyT k).length ≤ 100 := by unfold bodyT; rw [Int.toNat_natCast, hrs]; simp only [List.length_append, List.length_cons, List.length_nil]; omega
  obtain ⟨T, hT⟩ : ∃ T, bodyT k = T := ⟨_, rfl⟩
  rw [hT] at hbl HRd
  have HIL : Hid (∀ (R : Ending → World → Prop) (w : World), (∀ w', Kp [] w w' → R (.returned (.string (S (decL T.length)))) w') → Calls Tryd.prog 41 #[.int .i64 T.length] w R) := Lib.hid (fun R w b => rdigits_sgn T.length w (by omega) (by omega) (by rw [itoaL_nat]; exact b))
  have htl := dec3 (n := T.length) (by omega)
  have HHD : Hid (headL k now D = line1 (decL k) rs ++ ((if mayB now then hdr dateN D else []) ++ (hdr servN pantV ++ (hdr ctN txtV ++ (hdr clN (decL T.length) ++ (hdr connN closV ++ [13, 10])))))) := Lib.hid (by unfold headL; rw [hT, hrs, Int.toNat_natCast])
  obtain ⟨ds, hds⟩ : ∃ ds, decL k = ds := ⟨_, rfl⟩
  obtain ⟨ls, hls⟩ : ∃ ls, decL T.length = ls := ⟨_, rfl⟩
  rw [hds] at hdl HI HHD
  rw [hls] at htl HIL HHD
  have HMy : Hid (∀ (R : Ending → World → Prop) (w : World), R (.returned (.bool (mayB now))) w → Calls Tryd.prog 43 #[.int .i64 now] w R) := Lib.hid (fun R w h => may3_any now w h)
  have hDl : D.length ≤ 200 := by
    cases hm : mayB now
    · rw [hf hm]; simp
    · have hm2 : 0 ≤ now ∧ now ≤ 253402300799 := by simpa [mayB] using hm
      exact told_len (ht hm) hm2.1 hm2.2
  have HPr : Hid (mayB now = true → ∀ (R : Ending → World → Prop) (w : World), (∀ w', Kp [] w w' → R (.returned (.string (S D))) w') → Calls Tryd.prog 44 #[.int .i64 now] w R) := Lib.hid (fun hm R w h => by
    have hm2 : 0 ≤ now ∧ now ≤ 253402300799 := by simpa [mayB] using hm
    exact print3_any now w hm2.1 hm2.2 (ht hm) h)
  have HLen : Hid (∀ (R : Ending → World → Prop) (w1 : World), Kp [] w w1 → (∀ w', Kp [] w1 w' → R (.returned (.int .i64 T.length)) w') → Calls Tryd.prog 47 #[.slice A 1 c] w1 R) := Lib.hid (fun R w1 k1 h => rplen_any T c w1 (HRd.out.kp k1 (by simp)) (by omega) h)
  generalize mayB now = mb at HMy HPr HHD
  clear h hr hst hrs hds hls hT ht hf
  cases mb
  all_goals
    go_enter Tryd.func25, Tryd.ntmps25
    go_upto_region 1 with (fail)
    refine gen_worldC (fun W => Kp [] w W) ((Kp.refl _ _).alloc _) ?_
    intro W K0
    go_wp2_with (first | (go_at_call 12; ((refine HRs.out _ _ ?_); intro w2 k2; have K0 := K0.trans k2)) | (go_at_call 43; (refine HMy.out _ _ ?_)) | (go_at_call 44; ((refine HPr.out (by first | rfl | trivial) _ _ ?_); intro w3 k3; have K0 := K0.trans k3)) | (go_at_call 47; ((refine HLen.out _ _ K0 ?_); intro w4 k4; have K0 := K0.trans k4)) | (go_at_call 41; ((with_reducible refine HI.out _ _ ?_); intro w1 k1; have K0 := K0.trans k1)) | (go_at_call 41; ((with_reducible refine HIL.out _ _ ?_); intro w1 k1; have K0 := K0.trans k1)))
    exact rcast (H.out _ K0) (by
      rw [HHD.out]
      simp only [line1, hdr, dateN, servN, pantV, ctN, txtV, clN, connN, closV, if_true, Bool.false_eq_true, if_false, List.cons_append, List.nil_append, List.append_assoc]
      rfl)
end Go.Proofs.YtjjigngighneeaaDoor
