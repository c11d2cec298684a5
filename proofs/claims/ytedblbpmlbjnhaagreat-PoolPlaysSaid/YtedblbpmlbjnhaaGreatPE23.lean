/- The document's table: reads; what is given. -/
import Derived.Test.YtedblbpmlbjnhaaGreatPE20
import Derived.Test.YtedblbpmlbjnhaaGreatPE11
import Derived.Test.YtedblbpmlbjnhaaGreatPE21
import Derived.BigQuiet
namespace Go.Proofs.YtedblbpmlbjnhaaGreat
/-! ### The document's table: reads; what is given. -/
section
open Go.RowKit
set_option linter.unusedVariables false
set_option linter.unusedSimpArgs false
set_option maxRecDepth 100000
section
variable {R : Ending → World → Prop} {bM bO bH bB : Nat} {fs : List Fr} {w : World}
set_option maxHeartbeats 1600000 in
theorem rdo_read (hT : RT w bM bO bH bB fs) (e o n : Int) (i : Nat) (s : ByteArray) (x : Fr) (hx : fs[i]? = some x) (he : e = 1 ∨ e = 2) (hw : x.ow = e) (hs : spanB o n = true) (o1 : -9223372036854775808 ≤ o) (o2 : o ≤ 9223372036854775807) (hl : x.bs.length = 256)
    (h : ∀ w', Kp [] w w' → RT w' bM bO bH bB fs → R (.returned (.tuple #[.int .i64 0, .string (S ((x.bs.take (o + n).toNat).drop o.toNat)), .int .i64 0])) w') :
    Calls Tryz.prog 54 #[.pointer (some ⟨bM, 0, none⟩), .agg #[.int .i64 3, .int .i64 e, .int .i64 i, .int .i64 o, .int .i64 n, .string s]] w R := by
  have H := Lib.hid h
  clear h
  have hn := hT.n1
  have hi := lt_of hx
  have i0 : ¬ (i : Int) < 0 := by omega
  have b0 : (x.ow != e) = false := by simp [hw]
  have HS1 : Hid (0 ≤ o ∧ 0 ≤ n ∧ o + n ≤ 256) := Lib.hid (by simpa [spanB] using hs)
  have HL := Lib.hid hl
  clear hl
  have HS := Lib.hid hs
  clear hs
  have HX := Lib.hid hx
  have HT := Lib.hid hT
  clear hx hT
  rcases he with rfl | rfl
  all_goals
    go_enter Tryz.func54, Tryz.ntmps54
    go_upto_region 1 with (fail)
    refine gen_world (fun W => Kp [] w W ∧ RT W bM bO bH bB fs ∧ Bk W w.heap.size 132 [.int .i64 3, .int .i64 _, .int .i64 i, .int .i64 o, .int .i64 _, .string s]) ⟨(Kp.refl _ _).alloc _, HT.out.kp ((Kp.refl [] w).alloc _) (by simp) (by simp) (by simp) (by simp), Bk.newAt rfl _ _⟩ ?_
    rintro W ⟨kW, tW, bW⟩
    obtain ⟨cc0, cc1, cc2, ht⟩ := tW.t
    have q0 := ht.cell 0
    have q1 := ht.cell 1
    have q2 := ht.cell 2
    have c0 := bW.cell 0
    have c1 := bW.cell 1
    have c2 := bW.cell 2
    have c3 := bW.cell 3
    have c4 := bW.cell 4
    have c5 := bW.cell 5
    simp only [List.getElem?_cons_zero, List.getElem?_cons_succ] at q0 q1 q2 c0 c1 c2 c3 c4 c5
    have x0 := tW.ow HX.out
    have x1 := tW.ho HX.out
    have x2 := tW.bs HX.out
    have z0 := tW.o.frozen i
    have z1 := tW.h.frozen i
    have z2 := tW.b.frozen i
    have TW := Lib.hid tW
    have KW := Lib.hid kW
    clear tW kW ht bW
    go_wp2
    go_quiet (fail)
    go_wp2
    go_quiet (fail)
    go_wp2
    go_quiet (fail)
    go_wp2_with (go_at_call 113; ((refine rwithin_any _ _ (by omega) (by omega) _ ?_); rw [HS.out]))
    go_wp2
    go_quiet (fail)
    have hl : x.bs.length = 256 := HL.out
    have s1 : 0 ≤ o := HS1.out.1
    have s2 : 0 ≤ n := HS1.out.2.1
    have s3 : o + n ≤ 256 := HS1.out.2.2
    go_wp2
    go_quiet (fail)
    go_wp2
    go_ret3
    exact H.out _ (by repeat first | exact KW.out | refine Kp.drewN ?_ _ | refine Kp.drew ?_) (by repeat first | exact TW.out | refine RT.drewN ?_ _ | refine RT.drew ?_)
set_option maxHeartbeats 1600000 in
theorem rdo_fetch (hT : RT w bM bO bH bB fs) (e o n : Int) (i : Nat) (s : ByteArray) (x : Fr) (hx : fs[i]? = some x) (he : e = 1 ∨ e = 2 ∨ (e ≠ 1 ∧ e ≠ 2)) (h0 : x.ho ≠ 0) (hs : spanB o n = true) (o1 : -9223372036854775808 ≤ o) (o2 : o ≤ 9223372036854775807) (hl : x.bs.length = 256)
    (h : ∀ w', Kp [] w w' → RT w' bM bO bH bB fs → R (.returned (.tuple #[.int .i64 0, .string (S ((x.bs.take (o + n).toNat).drop o.toNat)), .int .i64 0])) w') :
    Calls Tryz.prog 54 #[.pointer (some ⟨bM, 0, none⟩), .agg #[.int .i64 7, .int .i64 e, .int .i64 i, .int .i64 o, .int .i64 n, .string s]] w R := by
  have H := Lib.hid h
  clear h
  have hn := hT.n1
  have hi := lt_of hx
  have i0 : ¬ (i : Int) < 0 := by omega
  have b3 : (x.ho == 0) = false := by simpa using h0
  have HS1 : Hid (0 ≤ o ∧ 0 ≤ n ∧ o + n ≤ 256) := Lib.hid (by simpa [spanB] using hs)
  have HL := Lib.hid hl
  clear hl
  have HS := Lib.hid hs
  clear hs
  have HX := Lib.hid hx
  have HT := Lib.hid hT
  clear hx hT
  have he2 : e = 1 ∨ ((e == 1) = false ∧ e = 2) ∨ ((e == 1) = false ∧ (e == 2) = false) := by
    rcases he with h | h | h
    · exact .inl h
    · exact .inr (.inl ⟨by simp [h], h⟩)
    · exact .inr (.inr ⟨by simpa using h.1, by simpa using h.2⟩)
  clear he
  rcases he2 with rfl | ⟨b1, rfl⟩ | ⟨b1, b2⟩
  all_goals
    go_enter Tryz.func54, Tryz.ntmps54
    go_upto_region 1 with (fail)
    refine gen_world (fun W => Kp [] w W ∧ RT W bM bO bH bB fs ∧ Bk W w.heap.size 132 [.int .i64 7, .int .i64 _, .int .i64 i, .int .i64 o, .int .i64 _, .string s]) ⟨(Kp.refl _ _).alloc _, HT.out.kp ((Kp.refl [] w).alloc _) (by simp) (by simp) (by simp) (by simp), Bk.newAt rfl _ _⟩ ?_
    rintro W ⟨kW, tW, bW⟩
    obtain ⟨cc0, cc1, cc2, ht⟩ := tW.t
    have q0 := ht.cell 0
    have q1 := ht.cell 1
    have q2 := ht.cell 2
    have c0 := bW.cell 0
    have c1 := bW.cell 1
    have c2 := bW.cell 2
    have c3 := bW.cell 3
    have c4 := bW.cell 4
    have c5 := bW.cell 5
    simp only [List.getElem?_cons_zero, List.getElem?_cons_succ] at q0 q1 q2 c0 c1 c2 c3 c4 c5
    have x0 := tW.ow HX.out
    have x1 := tW.ho HX.out
    have x2 := tW.bs HX.out
    have z0 := tW.o.frozen i
    have z1 := tW.h.frozen i
    have z2 := tW.b.frozen i
    have TW := Lib.hid tW
    have KW := Lib.hid kW
    clear tW kW ht bW
    go_wp2
    go_quiet (fail)
    go_wp2
    go_quiet (fail)
    go_wp2
    go_quiet (fail)
    go_wp2_with (go_at_call 113; ((refine rwithin_any _ _ (by omega) (by omega) _ ?_); rw [HS.out]))
    go_wp2
    go_quiet (fail)
    have hl : x.bs.length = 256 := HL.out
    have s1 : 0 ≤ o := HS1.out.1
    have s2 : 0 ≤ n := HS1.out.2.1
    have s3 : o + n ≤ 256 := HS1.out.2.2
    go_wp2
    go_quiet (fail)
    go_wp2
    go_ret3
    exact H.out _ (by repeat first | exact KW.out | refine Kp.drewN ?_ _ | refine Kp.drew ?_) (by repeat first | exact TW.out | refine RT.drewN ?_ _ | refine RT.drew ?_)
set_option maxHeartbeats 1600000 in
theorem rdo_give (hT : RT w bM bO bH bB fs) (e o n : Int) (i : Nat) (s : ByteArray) (x : Fr) (hx : fs[i]? = some x) (he : e = 1 ∨ e = 2) (hw : x.ow = e) (hnn : n = 1 ∨ n = 2) (h0 : x.ho ≤ 0)
    (h : ∀ w', Kp [bO, bH, bB] w w' → RT w' bM bO bH bB (fs.set i { x with ow := n }) → R (.returned (.tuple #[.int .i64 0, .string (S []), .int .i64 0])) w') :
    Calls Tryz.prog 54 #[.pointer (some ⟨bM, 0, none⟩), .agg #[.int .i64 2, .int .i64 e, .int .i64 i, .int .i64 o, .int .i64 n, .string s]] w R := by
  have H := Lib.hid h
  clear h
  have hn := hT.n1
  have hi := lt_of hx
  have i0 : ¬ (i : Int) < 0 := by omega
  have b0 : (x.ow != e) = false := by simp [hw]
  have b6 : decide (0 < x.ho) = false := by simp; omega
  have HX := Lib.hid hx
  have HT := Lib.hid hT
  clear hx hT
  rcases he with rfl | rfl <;> rcases hnn with rfl | rfl
  all_goals
    go_enter Tryz.func54, Tryz.ntmps54
    go_upto_region 1 with (fail)
    refine gen_world (fun W => Kp [] w W ∧ RT W bM bO bH bB fs ∧ Bk W w.heap.size 132 [.int .i64 2, .int .i64 _, .int .i64 i, .int .i64 o, .int .i64 _, .string s]) ⟨(Kp.refl _ _).alloc _, HT.out.kp ((Kp.refl [] w).alloc _) (by simp) (by simp) (by simp) (by simp), Bk.newAt rfl _ _⟩ ?_
    rintro W ⟨kW, tW, bW⟩
    obtain ⟨cc0, cc1, cc2, ht⟩ := tW.t
    have q0 := ht.cell 0
    have q1 := ht.cell 1
    have q2 := ht.cell 2
    have c0 := bW.cell 0
    have c1 := bW.cell 1
    have c2 := bW.cell 2
    have c3 := bW.cell 3
    have c4 := bW.cell 4
    have c5 := bW.cell 5
    simp only [List.getElem?_cons_zero, List.getElem?_cons_succ] at q0 q1 q2 c0 c1 c2 c3 c4 c5
    have x0 := tW.ow HX.out
    have x1 := tW.ho HX.out
    have x2 := tW.bs HX.out
    have z0 := tW.o.frozen i
    have z1 := tW.h.frozen i
    have z2 := tW.b.frozen i
    have TW := Lib.hid tW
    have KW := Lib.hid kW
    clear tW kW ht bW
    go_wp2
    go_quiet (fail)
    go_wp2
    go_quiet (fail)
    go_wp2
    go_quiet (fail)
    go_wp2
    go_wp2
    go_quiet (fail)
    go_wp2
    have KW3 : Kp [bO, bH, bB] w W := KW.out.mono (by simp)
    go_region
    all_goals go_wp2
    all_goals go_ret3
    all_goals exact H.out _ (by repeat first | exact KW3 | exact KW.out | exact kV | refine Kp.setCell ?_ (.inl (by simp)) _ | refine Kp.drewN ?_ _ | refine Kp.drew ?_) (by repeat first | exact TW.out | refine RT.putOw ?_ HX.out _ | refine RT.drewN ?_ _ | refine RT.drew ?_)
end
end
end Go.Proofs.YtedblbpmlbjnhaaGreat
