/- RangesTells walked. -/
import Derived.Test.YtcbmiidffcbikaaDoorHead
import Derived.Test.YtcbmiidffcbikaaDoorLawRAll
namespace Go.Proofs.YtcbmiidffcbikaaDoor
open Go.RowKit Go.Shelf
set_option linter.unusedVariables false
set_option linter.unusedSimpArgs false
set_option maxRecDepth 100000
set_option maxHeartbeats 4000000 in
theorem tells_walk {R : Ending → World → Prop} (f l n : Int) (kind : List UInt8) (w : World) (f0 : 0 ≤ f) (f1 : f ≤ 4294967295) (l0 : 0 ≤ l) (l1 : l ≤ 4294967295) (n0 : 0 ≤ n) (n1 : n ≤ 4294967295) (hk : kind.length ≤ 9223372036854775807) (hw : Lw w) (h : ∀ w', Kp [] w w' → R (.returned (.bool true)) w') :
    Calls Tryd.prog 5 #[.int .u32 f, .int .u32 l, .int .u32 n, .string (S kind)] w R := by
  have H := Lib.hid h
  clear h
  by_cases hs : kind.length ≤ 300
  · go_enter Tryd.func5, Tryd.ntmps5
    go_wp2_with (go_at_call 11; ((refine alive25_any _ hw.ml ?_); intro w1 k1))
    refine gen_world (fun W => Kp [] w1 W ∧ Bk W w1.heap.size 31 [.int .i64 f, .int .i64 l] ∧ Bk W (w1.heap.size + 1) 30 [.int .i64 f, .int .i64 l]) ⟨((Kp.refl _ _).alloc _).alloc _, (Bk.newAt rfl _ _).alloc _, Bk.newAt (by simp) _ _⟩ ?_
    rintro W ⟨kW, bW, bX⟩
    have q0 := bW.cell 0
    have q1 := bW.cell 1
    have q2 := bX.cell 0
    have q3 := bX.cell 1
    simp only [List.getElem?_cons_zero, List.getElem?_cons_succ] at q0 q1 q2 q3
    have LW := Lib.hid ((hw.kp k1).kp kW)
    have KW := Lib.hid (k1.trans kW)
    have e3 := itoaL_len n (by omega) (by omega)
    have wf : IntKind.i64.wrap n = n := wrap_ok (by omega) (by omega)
    have b1 : (noneL n == 98 :: 121 :: 116 :: 101 :: 115 :: 32 :: 42 :: 47 :: itoaL n) = true := by simp [noneL]
    have b2 : (tailL == [13, 10, 45, 45, 112, 97, 110, 116, 108, 101, 114, 45, 98, 111, 117, 110, 100, 97, 114, 121, 45, 45, 13, 10]) = true := by decide
    have b3 : (boundL == [112, 97, 110, 116, 108, 101, 114, 45, 98, 111, 117, 110, 100, 97, 114, 121]) = true := by decide
    clear bW bX kW k1
    refine wp_region_kp (by kernel_rfl) (by kernel_rfl) ?_
    repeat (quiet_step (first | (go_at_call 15; ((refine content_any f l n _ ⟨f0, f1⟩ ⟨l0, l1⟩ ⟨n0, n1⟩ (LW.out.kp (kpw_kp _ _)) ?_); intro w' k'; exact kpx_mk k')) | (go_at_call 16; ((refine rcontent_any f l n _ ⟨f0, f1⟩ ⟨l0, l1⟩ ⟨n0, n1⟩ ?_); intro w' k'; exact kpx_mk k')) | (go_at_call 17; ((refine none_any n _ ⟨n0, n1⟩ (LW.out.kp (kpw_kp _ _)) ?_); intro w' k'; exact kpx_mk k')) | (go_at_call 14; ((refine rdigits_sgn n _ (by omega) (by omega) ?_); intro w' k'; exact kpx_mk k')) | (go_at_call 18; ((refine head_any f l n kind _ hs ⟨f0, f1⟩ ⟨l0, l1⟩ ⟨n0, n1⟩ (LW.out.kp (kpw_kp _ _)) ?_); intro w' k'; exact kpx_mk k')) | (go_at_call 19; ((refine rhead_any f l n kind _ hs ⟨f0, f1⟩ ⟨l0, l1⟩ ⟨n0, n1⟩ ?_); intro w' k'; exact kpx_mk k')) | (go_at_call 20; (refine tail_any _ ?_; exact kpx_mk (Kp.refl _ _))) | (go_at_call 21; (refine bound_any _ ?_; exact kpx_mk (Kp.refl _ _))) | (rw [if_neg (by simp only [List.length_append, List.length_cons, List.length_nil]; omega)]; exact ⟨rfl, rfl⟩) | (rw [if_neg (by omega)]; exact ⟨rfl, rfl⟩)))
    refine wpQuiet_nil ?_
    intro w6 k6
    go_wp2
    exact H.out _ (KW.out.trans k6)
  · have h2 : 300 < kind.length := by omega
    clear hs
    go_enter Tryd.func5, Tryd.ntmps5
    go_wp2_with (go_at_call 11; ((refine alive25_any _ hw.ml ?_); intro w1 k1))
    exact H.out _ k1
end Go.Proofs.YtcbmiidffcbikaaDoor
