/- RespondWrong walked. -/
import Derived.Test.YtjjigngighneeaaDoorRes10
namespace Go.Proofs.YtjjigngighneeaaDoor
open Go.RowKit
set_option linter.unusedVariables false
set_option linter.unusedSimpArgs false
set_option maxRecDepth 100000

def badT : List UInt8 := [52, 48, 48, 32, 66, 97, 100, 32, 82, 101, 113, 117, 101, 115, 116, 10]
theorem body400 : bodyT 400 = badT := by
  unfold bodyT
  rw [show ((400 : Int).toNat) = 400 from rfl, decL_big (by omega), decL_big (n := 400 / 10) (by omega), decL_small (by omega)]
  rfl
set_option maxHeartbeats 2000000 in
theorem alive27_any {R : Ending → World → Prop} (w : World) (hw : Lw w) (h : ∀ w', Kp [] w w' → R (.returned (.bool true)) w') : Calls Tryd.prog 6 #[] w R := by
  have H := Lib.hid h
  have HW : Hid (∀ (R : Ending → World → Prop) (w1 : World), Lw w1 → (∀ L A c w', Kp [] w1 w' → Rd w' [] A (partC badT) → R (.returned (.agg #[.int .i64 400, .string (S L), .slice A 1 c, .bool true])) w') → Calls Tryd.prog 9 #[.int .i64 400, .int .i64 (-1)] w1 R) := Lib.hid (fun R w1 h1 h => wrong_any 400 (-1) w1 h1 (fun D A c w' k r _ _ => h _ A c w' k (by rw [← body400]; exact r)))
  have HRs : Hid (∀ (R : Ending → World → Prop) (w : World), R (.returned (.string (S [78, 111, 116, 32, 70, 111, 117, 110, 100]))) w → Calls Tryd.prog 11 #[.int .i64 404] w R) := Lib.hid (fun R w h => reason_any 404 w h)
  clear h
  go_enter Tryd.func6, Tryd.ntmps6
  go_upto_region 2 with (go_at_call 9; ((refine HW.out _ _ hw ?_); intro L A c w1 k1 r1))
  obtain ⟨x, o, rfl, hn, hb, hc⟩ := r1 (by simp [partC])
  have c0 : w1.cell? ⟨x, o, none⟩ = some (.string (S badT)) := hc 0 _ rfl
  have c1 := hc 1 _ rfl
  have c2 := hc 2 _ rfl
  have gBB : (badT == [52, 48, 48, 32, 66, 97, 100, 32, 82, 101, 113, 117, 101, 115, 116, 10]) = true := by decide
  clear hc r1
  go_wp2_with (go_at_call 11; (refine HRs.out _ _ ?_))
  exact rcast (H.out _ (k1.alloc _)) rfl
set_option maxHeartbeats 4000000 in
theorem wrong_walk {R : Ending → World → Prop} (s now : Int) (w : World) (hw : Lw w) (h : ∀ w', Kp [] w w' → R (.returned (.bool true)) w') : Calls Tryd.prog 3 #[.int .i64 s, .int .i64 now] w R := by
  have H := Lib.hid h
  have HW : Hid (∀ (R : Ending → World → Prop) (w1 : World), Kp [] w w1 → (∀ D A c w', Kp [] w w' → Rd w' [] A (partC (bodyT (nrmS s))) → (mayB now = true → Told now D) → (mayB now = false → D = []) → R (.returned (.agg #[.int .i64 (nrmS s), .string (S (headL (nrmS s) now D)), .slice A 1 c, .bool true])) w') → Calls Tryd.prog 9 #[.int .i64 s, .int .i64 now] w1 R) := Lib.hid (fun R w1 k h => wrong_any s now w1 (hw.kp k) (fun D A c w' j r a b => h D A c w' (k.trans j) r a b))
  have HTo : Hid (∀ (R : Ending → World → Prop) (L : List UInt8) (A : Option Addr) (c : Nat) (w1 : World), Kp [] w w1 → Rd w1 [] A (partC (bodyT (nrmS s))) → (∀ A' c' w', Kp [] w w' → Rd w' [] A' (partC (bodyT (nrmS s))) → R (.returned (.agg #[.int .i64 (nrmS s), .string (S L), .slice A' 1 c', .bool true])) w') → Calls Tryd.prog 8 #[.agg #[.int .i64 (nrmS s), .string (S L), .slice A 1 c, .bool true]] w1 R) := Lib.hid (fun R L A c w1 k r h => to27_any (nrmS s) L _ w1 r (fun A' c' w' j r' => h A' c' w' (k.trans j) r'))
  have HRW : Hid (∀ (R : Ending → World → Prop) (D : List UInt8) (w1 : World), (mayB now = true → Told now D) → (mayB now = false → D = []) → (∀ A c w', Kp [] w1 w' → Rd w' [] A (partC (bodyT (nrmS s))) → R (.returned (.agg #[.int .i64 (nrmS s), .string (S (headL (nrmS s) now D)), .slice A 1 c, .bool true])) w') → Calls Tryd.prog 10 #[.int .i64 s, .int .i64 now] w1 R) := Lib.hid (fun R D w1 a b h => rwrong_any s now w1 a b h)
  have HSm : Hid (∀ (R : Ending → World → Prop) (L : List UInt8) (A A' : Option Addr) (c c' : Nat) (w1 : World), Kp [] w w1 → Rd w1 [] A (partC (bodyT (nrmS s))) → Rd w1 [] A' (partC (bodyT (nrmS s))) → (∀ w', Kp [] w w' → R (.returned (.bool true)) w') → Calls Tryd.prog 7 #[.agg #[.int .i64 (nrmS s), .string (S L), .slice A 1 c, .bool true], .agg #[.int .i64 (nrmS s), .string (S L), .slice A' 1 c', .bool true]] w1 R) := Lib.hid (fun R L A A' c c' w1 k a b h => same27_any (nrmS s) L _ w1 a b (fun w' j => h w' (k.trans j)))
  obtain ⟨rs, hrs⟩ : ∃ rs, rsnL s = rs := ⟨_, rfl⟩
  have HRs : Hid (∀ (R : Ending → World → Prop) (w : World), R (.returned (.string (S rs))) w → Calls Tryd.prog 11 #[.int .i64 s] w R) := Lib.hid (fun R w h => reason_any s w (by rw [hrs]; exact h))
  have HRR : Hid (∀ (R : Ending → World → Prop) (w1 : World), Kp [] w w1 → (∀ w', Kp [] w w' → R (.returned (.string (S rs))) w') → Calls Tryd.prog 12 #[.int .i64 s] w1 R) := Lib.hid (fun R w1 k h => rreason_any s w1 (fun w' j => by rw [hrs]; exact h w' (k.trans j)))
  have gRR : (rs == rs) = true := by simp
  generalize bodyT (nrmS s) = T at HW HTo HRW HSm
  generalize headL (nrmS s) now = LF at HW HRW
  generalize nrmS s = z at HW HTo HRW HSm
  have HAl : Hid (∀ (R : Ending → World → Prop), (∀ w', Kp [] w w' → R (.returned (.bool true)) w') → Calls Tryd.prog 6 #[] w R) := Lib.hid (fun R h => alive27_any w hw h)
  clear h hrs
  go_enter Tryd.func3, Tryd.ntmps3
  go_upto_region 3 with (go_at_call 6; ((refine HAl.out _ ?_); intro w1 k1))
  go_wp2_with (first | (go_at_call 9; ((refine HW.out _ _ k1 ?_); intro D A c w2 k2 r2 ht hf)) | (go_at_call 8; ((refine HTo.out _ _ _ _ _ k2 r2 ?_); intro A3 c3 w3 k3 r3)) | (go_at_call 10; ((refine HRW.out _ D _ ht hf ?_); intro A4 c4 w4 k4 r4; have r34 := r3.kp k4 (by simp); have k34 := k3.trans k4)) | (go_at_call 7; ((refine HSm.out _ _ _ _ _ _ _ k34 r34 r4 ?_); intro w5 k5)) | (go_at_call 11; (refine HRs.out _ _ ?_)) | (go_at_call 12; ((refine HRR.out _ _ k5 ?_); intro w6 k6)))
  exact H.out _ k6
end Go.Proofs.YtjjigngighneeaaDoor
