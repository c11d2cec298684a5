/- KernNil walked: what no kernel answers. -/
import Derived.Test.YtogipajanbgenaaKn7
namespace Go.Proofs.Ytogipajanbgenaa
open Go.RowKit Go.Shelf
set_option linter.unusedVariables false
set_option linter.unusedSimpArgs false
set_option maxRecDepth 100000
section
variable {R : Ending → World → Prop}

def farC (x : Cl) : Bool := decide (1000 < x.s.size) || (decide (100 < x.p.n) || decide (100 < x.l.n))
theorem farC_no {x : Cl} (h : farC x = false) : x.s.size ≤ 1000 ∧ x.p.n ≤ 100 ∧ x.l.n ≤ 100 := by
  simp [farC] at h; omega
set_option maxHeartbeats 1000000 in
theorem far09_any (x : Cl) (w : World) (h : ∀ w', Kp [] w w' → R (.returned (.bool (farC x))) w') :
    Calls Try.prog 41 #[.agg #[.int .i64 x.op, .int .i64 x.env, .int .i64 x.a, .int .i64 x.b, .int .i64 x.c, .string x.s, .slice x.p.A x.p.n x.p.c, .slice x.l.A x.l.n x.l.c]] w R := by
  have H := Lib.hid h
  clear h
  have hk := fun o => (Kp.refl [] w).alloc o
  by_cases h1 : 1000 < x.s.size
  · go_enter Try.func41, Try.ntmps41
    go_wp2
    exact rcast (H.out _ (hk _)) (by simp [farC, h1])
  · by_cases h2 : 100 < x.p.n
    · go_enter Try.func41, Try.ntmps41
      go_wp2
      exact rcast (H.out _ (hk _)) (by simp [farC, h2])
    · by_cases h3 : 100 < x.l.n
      · go_enter Try.func41, Try.ntmps41
        go_wp2
        exact rcast (H.out _ (hk _)) (by simp [farC, h3]; omega)
      · go_enter Try.func41, Try.ntmps41
        go_wp2
        exact rcast (H.out _ (hk _)) (by simp [farC, h1, h2, h3]; omega)
set_option maxHeartbeats 1000000 in
theorem kcall_nil (a b c d e : Int) (A5 A6 A7 : Option Addr) (n5 c5 n6 c6 n7 c7 : Nat) (w : World) (h : ∀ w', Kp [] w w' → R (.returned (.tuple #[.agg #[.int .i64 0, .slice none 0 0], .int .i64 3])) w') :
    Calls Try.prog 33 #[.pointer none, .agg #[.int .i64 a, .int .i64 b, .int .i64 c, .int .i64 d, .int .i64 e, .slice A5 n5 c5, .slice A6 n6 c6, .slice A7 n7 c7]] w R := by
  have H := Lib.hid h
  clear h
  go_enter Try.func33, Try.ntmps33
  go_wp2
  exact bodyPost_ret (v := .tuple #[.agg #[.int .i64 0, .slice none 0 0], .int .i64 3]) (by simp [results, Try.results33, go_sem]; try rfl) rfl (H.out _ (by repeat (first | with_reducible exact Kp.refl _ _ | with_reducible refine Kp.drew ?_ | with_reducible refine Kp.alloc ?_ _)))
set_option maxHeartbeats 1000000 in
theorem karr_nil (A : Option Addr) (n c : Nat) (w : World) (h : R (.returned (.tuple #[.int .i64 0, .int .i64 3])) w) :
    Calls Try.prog 40 #[.pointer none, .slice A n c] w R := by
  go_enter Try.func40, Try.ntmps40
  go_wp2
  exact h
set_option maxHeartbeats 1000000 in
theorem kdep_nil (w : World) (h : R (.returned (.tuple #[.slice none 0 0, .int .i64 0, .int .i64 3])) w) :
    Calls Try.prog 39 #[.pointer none] w R := by
  go_enter Try.func39, Try.ntmps39
  go_wp2
  go_ret3
  exact h
set_option maxHeartbeats 1000000 in
theorem ktab_nil (w : World) (h : R (.returned (.pointer none)) w) : Calls Try.prog 36 #[.pointer none] w R := by
  go_enter Try.func36, Try.ntmps36
  go_wp2
  exact h
set_option maxHeartbeats 1000000 in
theorem kdsk_nil (w : World) (h : R (.returned (.pointer none)) w) : Calls Try.prog 42 #[.pointer none] w R := by
  go_enter Try.func42, Try.ntmps42
  go_wp2
  exact h
set_option maxHeartbeats 1000000 in
theorem find_nil (f : Int) (w : World) (h : R (.returned (.tuple #[.pointer none, .int .i64 3])) w) : Calls Try.prog 88 #[.pointer none, .int .i64 f] w R := by
  go_enter Try.func88, Try.ntmps88
  go_wp2
  exact h
set_option maxHeartbeats 1000000 in
theorem owner_nil (f : Int) (w : World) (h : R (.returned (.int .i64 0)) w) : Calls Try.prog 72 #[.pointer none, .int .i64 f] w R := by
  go_enter Try.func72, Try.ntmps72
  go_wp2_with (go_at_call 88; refine find_nil _ _ ?_)
  exact h
set_option maxHeartbeats 1000000 in
theorem kown_nil (w : World) (h : R (.returned (.bool false)) w) : Calls Try.prog 38 #[.pointer none, .int .i64 1, .int .i64 0] w R := by
  go_enter Try.func38, Try.ntmps38
  go_wp2_with (first | (go_at_call 36; refine ktab_nil _ ?_) | (go_at_call 72; refine owner_nil _ _ ?_))
  exact h
end
section
variable {R : Ending → World → Prop} {w : World}
set_option maxHeartbeats 4000000 in
theorem knil_walk (x : Cl) (hx : x.ok w) (s : ByteArray) (h : ∀ w', Kp [] w w' → R (.returned (.bool true)) w') :
    Calls Try.prog 7 #[.agg x.vals.toArray, .string s] w R := by
  have H := Lib.hid h
  clear h
  show Calls Try.prog 7 #[.agg #[.int .i64 x.op, .int .i64 x.env, .int .i64 x.a, .int .i64 x.b, .int .i64 x.c, .string x.s, .slice x.p.A x.p.n x.p.c, .slice x.l.A x.l.n x.l.c], .string s] w R
  have ki := fun o => (Kp.refl [] w).alloc o
  have HF : Hid (∀ (R : Ending → World → Prop) (w : World), (∀ w', Kp [] w w' → R (.returned (.bool (farC x))) w') → Calls Try.prog 41 #[.agg #[.int .i64 x.op, .int .i64 x.env, .int .i64 x.a, .int .i64 x.b, .int .i64 x.c, .string x.s, .slice x.p.A x.p.n x.p.c, .slice x.l.A x.l.n x.l.c]] w R) := Lib.hid (fun R w h => far09_any x w h)
  have HC : Hid (∀ (W : World), Bk W w.heap.size 67 x.vals → _) := Lib.hid (fun W h => bk8 h)
  have hb0 : Bk (w.alloc (.cells #[.int .i64 x.op, .int .i64 x.env, .int .i64 x.a, .int .i64 x.b, .int .i64 x.c, .string x.s, .slice x.p.A x.p.n x.p.c, .slice x.l.A x.l.n x.l.c] 67)) w.heap.size 67 x.vals := (Bk.new' _ _ _).cast rfl
  have HB0 := Lib.hid hb0
  clear hb0
  obtain ⟨bw, cw, hcs, hsz, hbk, hbr⟩ := conv_letter s
  have HBK := Lib.hid hbk
  clear hbk hbr hsz
  cases hf : farC x with
  | true =>
    rw [hf] at HF
    go_enter Try.func7, Try.ntmps7
    go_wp2_with (first | (go_at_call 30; ((refine alive09_any _ ?_); intro w1 k1; have b1 := HB0.out.kp k1 (by simp); obtain ⟨q0, q1, q2, q3, q4, q5, q6, q7⟩ := bk8 b1)) | (go_at_call 41; ((refine HF.out _ _ ?_); intro w2 k2)))
    exact H.out _ (((ki _).trans k1).trans k2)
  | false =>
    rw [hf] at HF
    obtain ⟨g1, g2, g3⟩ := farC_no hf
    have HOf : Hid (∀ (R : Ending → World → Prop) (w1 : World), Kp [] w w1 → (∀ A5 c5 A6 c6 A7 c7 w', Kp [] w1 w' → R (.returned (.agg #[.int .i64 x.op, .int .i64 x.env, .int .i64 x.a, .int .i64 x.b, .int .i64 x.c, .slice A5 x.s.size c5, .slice A6 x.p.n c6, .slice A7 x.l.n c7])) w') → Calls Try.prog 34 #[.agg #[.int .i64 x.op, .int .i64 x.env, .int .i64 x.a, .int .i64 x.b, .int .i64 x.c, .string x.s, .slice x.p.A x.p.n x.p.c, .slice x.l.A x.l.n x.l.c]] w1 R) := Lib.hid (fun R w1 k h => of09_any x w1 (hx.p.rd.kp k (by simp)) hx.p.len g2 (hx.l.rd.kp k (by simp)) hx.l.len g3 (fun A5 c5 A6 c6 A7 c7 w' k _ _ _ _ _ _ _ => h A5 c5 A6 c6 A7 c7 w' k))
    clear hx hf g1 g2 g3
    go_enter Try.func7, Try.ntmps7
    go_wp2_with (first | (go_at_call 30; ((refine alive09_any _ ?_); intro w1 k1; have b1 := HB0.out.kp k1 (by simp); obtain ⟨q0, q1, q2, q3, q4, q5, q6, q7⟩ := bk8 b1)) | (go_at_call 41; ((refine HF.out _ _ ?_); intro w2 k2; obtain ⟨q0, q1, q2, q3, q4, q5, q6, q7⟩ := bk8 (b1.kp k2 (by simp)))) | (go_at_call 34; ((refine HOf.out _ _ (((ki _).trans k1).trans k2) ?_); intro A5 c5 A6 c6 A7 c7 w3 k3)) | (go_at_call 33; ((refine kcall_nil _ _ _ _ _ _ _ _ _ _ _ _ _ _ _ ?_); intro w4 k4)) | (go_at_call 40; refine karr_nil _ _ _ _ ?_) | (go_at_call 39; refine kdep_nil _ ?_) | (go_at_call 36; refine ktab_nil _ ?_) | (go_at_call 42; refine kdsk_nil _ ?_) | (go_at_call 38; refine kown_nil _ ?_))
    exact H.out _ (by
      have e := (((ki (.cells #[.int .i64 x.op, .int .i64 x.env, .int .i64 x.a, .int .i64 x.b, .int .i64 x.c, .string x.s, .slice x.p.A x.p.n x.p.c, .slice x.l.A x.l.n x.l.c] 67)).trans k1).trans k2).trans (k3.trans k4)
      repeat (first | with_reducible exact e | with_reducible refine Kp.drew ?_ | with_reducible refine Kp.alloc ?_ _ | with_reducible refine HBK.out _ _ _ ?_))
end
end Go.Proofs.Ytogipajanbgenaa
