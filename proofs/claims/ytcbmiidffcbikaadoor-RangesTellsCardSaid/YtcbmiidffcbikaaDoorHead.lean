/- How parts are told: Boundary, Tail, None, Head; the document's. -/
import Derived.Test.YtcbmiidffcbikaaDoorCont
import Derived.Test.YtcbmiidffcbikaaDoorRng1
import Derived.BigRegion
import Derived.Deep.RegionLaw
namespace Go.Proofs.YtcbmiidffcbikaaDoor
open Go.RowKit Go.Shelf
set_option linter.unusedVariables false
set_option linter.unusedSimpArgs false
set_option maxRecDepth 100000

def boundL : List UInt8 := [112, 97, 110, 116, 108, 101, 114, 45, 98, 111, 117, 110, 100, 97, 114, 121]
theorem bound_any {R : Ending → World → Prop} (w : World) (h : R (.returned (.string (S boundL))) w) : Calls Tryd.prog 21 #[] w R := by
  go_enter Tryd.func21, Tryd.ntmps21
  go_wp2
  exact h
def tailL : List UInt8 := [13, 10, 45, 45] ++ boundL ++ [45, 45, 13, 10]
theorem tail_any {R : Ending → World → Prop} (w : World) (h : R (.returned (.string (S tailL))) w) : Calls Tryd.prog 20 #[] w R := by
  go_enter Tryd.func20, Tryd.ntmps20
  go_wp2_with (go_at_call 21; (refine bound_any _ ?_))
  exact h
def noneL (n : Int) : List UInt8 := 98 :: 121 :: 116 :: 101 :: 115 :: 32 :: 42 :: 47 :: itoaL n
theorem none_any {R : Ending → World → Prop} (n : Int) (w : World) (hn : 0 ≤ n ∧ n ≤ 4294967295) (hw : Lw w) (h : ∀ w', Kp [] w w' → R (.returned (.string (S (noneL n)))) w') : Calls Tryd.prog 17 #[.int .i64 n] w R := by
  have H := Lib.hid h
  obtain ⟨n1, n2⟩ := hn
  have e3 := itoaL_len n (by omega) (by omega)
  clear h
  go_enter Tryd.func17, Tryd.ntmps17
  go_wp2_with (go_at_call 50; ((refine itoa_all _ _ (by omega) (by omega) hw ?_); intro w1 k1))
  exact H.out _ k1
theorem rcontent_any {R : Ending → World → Prop} (f l n : Int) (w : World) (hf : 0 ≤ f ∧ f ≤ 4294967295) (hl : 0 ≤ l ∧ l ≤ 4294967295) (hn : 0 ≤ n ∧ n ≤ 4294967295)
    (h : ∀ w', Kp [] w w' → R (.returned (.string (S (contL f l n)))) w') : Calls Tryd.prog 16 #[.agg #[.int .i64 f, .int .i64 l], .int .i64 n] w R := by
  have H := Lib.hid h
  obtain ⟨f1, f2⟩ := hf
  obtain ⟨l1, l2⟩ := hl
  obtain ⟨n1, n2⟩ := hn
  have e1 := itoaL_len f (by omega) (by omega)
  have e2 := itoaL_len (f + l - 1) (by omega) (by omega)
  have e3 := itoaL_len n (by omega) (by omega)
  clear h
  have w1 : IntKind.i64.wrap (f + l) = f + l := wrap_ok (by omega) (by omega)
  have w2 : IntKind.i64.wrap (f + l - 1) = f + l - 1 := wrap_ok (by omega) (by omega)
  go_enter Tryd.func16, Tryd.ntmps16
  go_wp2_with fail
  refine wp_region_kp (by kernel_rfl) (by kernel_rfl) ?_
  repeat (quiet_step (first | (go_at_call 14; ((refine rdigits_sgn _ _ (by omega) (by omega) ?_); intro w' k'; exact kpx_mk k')) | (rw [if_neg (by simp only [List.length_append, List.length_cons, List.length_nil]; omega)]; exact ⟨rfl, rfl⟩) | (rw [if_neg (by omega)]; exact ⟨rfl, rfl⟩)))
  refine wpQuiet_nil ?_
  intro w6 k6
  go_wp2
  exact H.out _ (((Kp.refl _ _).alloc _).trans k6)
theorem contL_len (f l n : Int) (hf : 0 ≤ f ∧ f ≤ 4294967295) (hl : 0 ≤ l ∧ l ≤ 4294967295) (hn : 0 ≤ n ∧ n ≤ 4294967295) : (contL f l n).length ≤ 100 := by
  have e1 := itoaL_len f (by omega) (by omega)
  have e2 := itoaL_len (f + l - 1) (by omega) (by omega)
  have e3 := itoaL_len n (by omega) (by omega)
  unfold contL; simp; omega
def typeL : List UInt8 := [67, 111, 110, 116, 101, 110, 116, 45, 84, 121, 112, 101, 58, 32]
def rangeL : List UInt8 := [67, 111, 110, 116, 101, 110, 116, 45, 82, 97, 110, 103, 101, 58, 32]
def headL (c kind : List UInt8) : List UInt8 := [13, 10, 45, 45] ++ boundL ++ [13, 10] ++ typeL ++ kind ++ [13, 10] ++ rangeL ++ c ++ [13, 10, 13, 10]
theorem head_join (c kind : List UInt8) : Lib.join [[], [45, 45] ++ boundL, typeL ++ kind, rangeL ++ c, [], []] [13, 10] = headL c kind := by
  unfold Lib.join headL
  simp [List.intercalate]
set_option maxHeartbeats 2000000 in
theorem rhead_any {R : Ending → World → Prop} (f l n : Int) (kind : List UInt8) (w : World) (hk : kind.length ≤ 300) (hf : 0 ≤ f ∧ f ≤ 4294967295) (hl : 0 ≤ l ∧ l ≤ 4294967295) (hn : 0 ≤ n ∧ n ≤ 4294967295)
    (h : ∀ w', Kp [] w w' → R (.returned (.string (S (headL (contL f l n) kind)))) w') : Calls Tryd.prog 19 #[.agg #[.int .i64 f, .int .i64 l], .int .i64 n, .string (S kind)] w R := by
  have H := Lib.hid h
  have hcl := contL_len f l n hf hl hn
  have HC := Lib.hid (fun w => rcontent_any (R := R) f l n w hf hl hn)
  clear h
  go_enter Tryd.func19, Tryd.ntmps19
  go_wp2_with (go_at_call 16; ((refine rcontent_any f l n _ hf hl hn ?_); intro w1 k1))
  refine rcast (H.out _ (((Kp.refl _ _).alloc _).trans k1)) (congrArg (fun l => Value.string (S l)) ?_)
  simp [headL, boundL, typeL, rangeL]
set_option maxHeartbeats 2000000 in
theorem head_any {R : Ending → World → Prop} (f l n : Int) (kind : List UInt8) (w : World) (hk : kind.length ≤ 300) (hf : 0 ≤ f ∧ f ≤ 4294967295) (hl : 0 ≤ l ∧ l ≤ 4294967295) (hn : 0 ≤ n ∧ n ≤ 4294967295) (hw : Lw w)
    (h : ∀ w', Kp [] w w' → R (.returned (.string (S (headL (contL f l n) kind)))) w') : Calls Tryd.prog 18 #[.agg #[.int .i64 f, .int .i64 l], .int .i64 n, .string (S kind)] w R := by
  have H := Lib.hid h
  have hcl := contL_len f l n hf hl hn
  clear h
  obtain ⟨c, hc⟩ : ∃ c, contL f l n = c := ⟨_, rfl⟩
  have HCC : Hid (∀ (R : Ending → World → Prop) (w1 : World), Lw w1 → (∀ w', Kp [] w1 w' → R (.returned (.string (S c))) w') → Calls Tryd.prog 15 #[.agg #[.int .i64 f, .int .i64 l], .int .i64 n] w1 R) := Lib.hid (fun R w1 h1 h => content_any f l n w1 hf hl hn h1 (by rw [hc]; exact h))
  rw [hc] at H hcl
  clear hc
  have HJ := Lib.hid (head_join c kind)
  have HJL : Hid ((Lib.join [[], [45, 45] ++ boundL, typeL ++ kind, rangeL ++ c, [], []] [13, 10]).length ≤ 1000000) := Lib.hid (by rw [HJ.out]; unfold headL boundL typeL rangeL; simp; omega)
  have hb16 : boundL.length = 16 := rfl
  have n1 : ¬ 9223372036854775807 < 2 + boundL.length := by omega
  have n2 : ¬ 9223372036854775807 < 14 + kind.length := by omega
  have n3 : ¬ 9223372036854775807 < 15 + c.length := by omega
  go_enter Tryd.func18, Tryd.ntmps18
  go_wp2_with fail
  refine gen_world (fun W => Kp [] w W ∧ Bk W w.heap.size 31 [.int .i64 f, .int .i64 l]) ⟨(Kp.refl _ _).alloc _, Bk.newAt rfl _ _⟩ ?_
  rintro W ⟨kW, bW⟩
  have q0 := bW.cell 0
  have q1 := bW.cell 1
  simp only [List.getElem?_cons_zero, List.getElem?_cons_succ] at q0 q1
  have HW := Lib.hid (hw.kp kW)
  have KW := Lib.hid kW
  clear bW kW
  go_region_law (first | (go_simp; go_at_call 21; refine bound_any _ ?_) | (go_simp; go_at_call 15; (refine HCC.out _ _ (HW.out.kp ((Kp.refl [] W).drew)) ?_); intro w5 k5) | (go_simp; go_at_call 51; (refine join_any [[], [45, 45] ++ boundL, typeL ++ kind, rangeL ++ c, [], []] [13, 10] ((Ow.lit _ _ 1 _ 6 (by decide) rfl).cast rfl rfl) (by decide) (by decide) HJL.out ?_); rw [HJ.out]; intro w7 k7))
  all_goals go_wp2
  all_goals have hF := H.out _ (KW.out.trans (((Kp.refl [] W).drew.trans k5).alloc _ |>.trans k7))
  all_goals first
    | (refine bodyPost_ret (results_tmp rfl _ _ _) ?_ ?_; · rfl; · exact hF)
    | (simp [results, Tryd.results18, go_sem, bodyPost, Act.put]; exact hF)
end Go.Proofs.YtcbmiidffcbikaaDoor
