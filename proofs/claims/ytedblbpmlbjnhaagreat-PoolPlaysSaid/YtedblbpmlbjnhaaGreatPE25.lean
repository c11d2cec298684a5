/- The document's table: what is freed. -/
import Derived.Test.YtedblbpmlbjnhaaGreatPE20
import Derived.Test.YtedblbpmlbjnhaaGreatPE11
import Derived.Test.YtedblbpmlbjnhaaGreatPE21
import Derived.BigQuiet
namespace Go.Proofs.YtedblbpmlbjnhaaGreat
/-! ### The document's table: what is freed. -/
section
open Go.RowKit
set_option linter.unusedVariables false
set_option linter.unusedSimpArgs false
set_option maxRecDepth 100000
section
variable {R : Ending → World → Prop} {bM bO bH bB : Nat} {fs : List Fr} {w : World}
set_option maxHeartbeats 1600000 in
theorem rdo_free (hT : RT w bM bO bH bB fs) (e o n : Int) (i : Nat) (s : ByteArray) (x : Fr) (hx : fs[i]? = some x) (he : e = 1 ∨ e = 2) (hw : x.ow = e) (h0 : x.ho ≤ 0)
    (h : ∀ w', Kp [bO, bH, bB] w w' → RT w' bM bO bH bB (fs.set i { x with ow := 0, bs := zB }) → R (.returned (.tuple #[.int .i64 0, .string (S []), .int .i64 0])) w') :
    Calls Tryz.prog 54 #[.pointer (some ⟨bM, 0, none⟩), .agg #[.int .i64 1, .int .i64 e, .int .i64 i, .int .i64 o, .int .i64 n, .string s]] w R := by
  have H := Lib.hid h
  clear h
  have hn := hT.n1
  have hi := lt_of hx
  have i0 : ¬ (i : Int) < 0 := by omega
  have b0 : (x.ow != e) = false := by simp [hw]
  have b6 : decide (0 < x.ho) = false := by simp; omega
  have HX := Lib.hid hx
  have HT := Lib.hid hT
  clear hx hT
  rcases he with rfl | rfl
  all_goals
    go_enter Tryz.func54, Tryz.ntmps54
    go_upto_region 1 with (fail)
    refine gen_world (fun W => Kp [] w W ∧ RT W bM bO bH bB fs ∧ Bk W w.heap.size 132 [.int .i64 1, .int .i64 _, .int .i64 i, .int .i64 o, .int .i64 _, .string s]) ⟨(Kp.refl _ _).alloc _, HT.out.kp ((Kp.refl [] w).alloc _) (by simp) (by simp) (by simp) (by simp), Bk.newAt rfl _ _⟩ ?_
    rintro W ⟨kW, tW, bW⟩
    obtain ⟨cc0, cc1, cc2, ht⟩ := tW.t
    have q0 := ht.cell 0
    have q1 := ht.cell 1
    have q2 := ht.cell 2
    have c0 := bW.cell 0
    have c1 := bW.cell 1
    have c2 := bW.cell 2
    have c3 := bW.cell 3
    have c4 := bW.cell 4
    have c5 := bW.cell 5
    simp only [List.getElem?_cons_zero, List.getElem?_cons_succ] at q0 q1 q2 c0 c1 c2 c3 c4 c5
    have x0 := tW.ow HX.out
    have x1 := tW.ho HX.out
    have x2 := tW.bs HX.out
    have z0 := tW.o.frozen i
    have z1 := tW.h.frozen i
    have z2 := tW.b.frozen i
    have TW := Lib.hid tW
    have KW := Lib.hid kW
    clear tW kW ht bW
    go_wp2
    go_quiet (fail)
    go_wp2
    go_quiet (fail)
    go_wp2
    go_quiet (fail)
    go_wp2
    go_wp2
    go_quiet (fail)
    go_wp2
    have KW3 : Kp [bO, bH, bB] w W := KW.out.mono (by simp)
    go_region
    all_goals go_wp2
    all_goals
      refine gen_world (fun V => Kp [bO, bH, bB] w V ∧ RT V bM bO bH bB (fs.set i { x with ow := 0 }) ∧ V.cell? ⟨w.heap.size, 2, none⟩ = some (.int .i64 i)) ⟨(by repeat first | exact KW3 | exact KW.out | exact kV | refine Kp.setCell ?_ (.inl (by simp)) _ | refine Kp.drewN ?_ _ | refine Kp.drew ?_), (by repeat first | exact TW.out | refine RT.putOw ?_ HX.out _ | refine RT.drewN ?_ _ | refine RT.drew ?_), ?_⟩ ?_
      · refine (Kp.cell (S := [bO]) (w := W) ?_ (p := ⟨w.heap.size, 2, none⟩) ?_ ?_).trans c2
        · repeat first | exact Kp.refl _ _ | refine Kp.setCell ?_ (.inl (by simp)) _ | refine Kp.drewN ?_ _ | refine Kp.drew ?_
        · exact World.block_lt_of_cell? W _ c2
        · have := HT.out.o.lt; simp; omega
      rintro V ⟨kV, tV, v2⟩
      have hx2 : (fs.set i { x with ow := 0 })[i]? = some { x with ow := 0 } := by rw [List.getElem?_set]; simp [lt_of HX.out]
      obtain ⟨ee0, ee1, ee2, ht2⟩ := tV.t
      have r2 := ht2.cell 2
      simp only [List.getElem?_cons_zero, List.getElem?_cons_succ, List.length_set] at r2
      have y2 := tV.bs hx2
      have TV := Lib.hid tV
      have vl : w.heap.size < V.heap.size := World.block_lt_of_cell? V _ v2
      have ml := ht2.lt
      clear tV ht2 q0 q1 q2 c0 c1 c2 c3 c4 c5 x0 x1 x2 z0 z1 z2
      go_region_law (go_simp; go_at_call 93; (refine blank_any _ ?_); intro w9 k9; have y9 := (TV.out.drew.kp k9 (by simp) (by simp) (by simp) (by simp)).bs hx2; have z9 := (TV.out.drew.kp k9 (by simp) (by simp) (by simp) (by simp)).b.frozen i; have v9 := (k9.cell (p := ⟨w.heap.size, 2, none⟩) vl (by simp)).trans v2; have r9 := (k9.cell (p := ⟨bM, 2, none⟩) ml (by simp)).trans r2)
      all_goals go_wp2
      all_goals go_ret3
      all_goals have kF : Kp [bO, bH, bB] w w9 := (kV.drew).trans (k9.mono (by simp))
      all_goals have tF := TV.out.drew.kp k9 (by simp) (by simp) (by simp) (by simp)
      all_goals exact H.out _ (by repeat first | exact kF | refine Kp.setCell ?_ (.inl (by simp)) _ | refine Kp.drewN ?_ _ | refine Kp.drew ?_) (by have := tF.putBs hx2 zB; simpa using this)
    skip
end
end
end Go.Proofs.YtedblbpmlbjnhaaGreat
