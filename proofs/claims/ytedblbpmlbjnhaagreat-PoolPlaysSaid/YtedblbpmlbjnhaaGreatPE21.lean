/- The document's table: calls that are refused, more. -/
import Derived.Test.YtedblbpmlbjnhaaGreatPE20
import Derived.Test.YtedblbpmlbjnhaaGreatPE11
import Derived.BigQuiet
namespace Go.Proofs.YtedblbpmlbjnhaaGreat
/-! ### The document's table: calls that are refused, more. -/
section
open Go.RowKit
set_option linter.unusedVariables false
set_option linter.unusedSimpArgs false
set_option maxRecDepth 100000
section
variable {R : Ending → World → Prop} {bM bO bH bB : Nat} {fs : List Fr} {w : World}
theorem gen_world {P : Program} {c : Code} {Q : Exit → Act → World → Prop} {a : Act} {W : World} (Pr : World → Prop) (h : Pr W) (hk : ∀ W', Pr W' → Code.wp P c Q a W') : Code.wp P c Q a W := hk W h
set_option maxHeartbeats 1600000 in
theorem rdo_unh6 (hT : RT w bM bO bH bB fs) (e o n : Int) (i : Nat) (s : ByteArray) (x : Fr) (hx : fs[i]? = some x) (he : e = 1 ∨ e = 2 ∨ (e ≠ 1 ∧ e ≠ 2)) (h0 : x.ho = 0)
    (h : ∀ w', Kp [] w w' → RT w' bM bO bH bB fs → R (.returned (.tuple #[.int .i64 0, .string (S []), .int .i64 1])) w') :
    Calls Tryz.prog 54 #[.pointer (some ⟨bM, 0, none⟩), .agg #[.int .i64 6, .int .i64 e, .int .i64 i, .int .i64 o, .int .i64 n, .string s]] w R := by
  have H := Lib.hid h
  clear h
  have hn := hT.n1
  have hi := lt_of hx
  have i0 : ¬ (i : Int) < 0 := by omega
  have b3 : (x.ho == 0) = true := by simp [h0]
  have HX := Lib.hid hx
  have HT := Lib.hid hT
  clear hx hT
  have he2 : e = 1 ∨ ((e == 1) = false ∧ e = 2) ∨ ((e == 1) = false ∧ (e == 2) = false) := by
    rcases he with h | h | h
    · exact .inl h
    · exact .inr (.inl ⟨by simp [h], h⟩)
    · exact .inr (.inr ⟨by simpa using h.1, by simpa using h.2⟩)
  clear he
  rcases he2 with rfl | ⟨b1, rfl⟩ | ⟨b1, b2⟩
  all_goals
    go_enter Tryz.func54, Tryz.ntmps54
    go_upto_region 1 with (fail)
    refine gen_world (fun W => Kp [] w W ∧ RT W bM bO bH bB fs ∧ Bk W w.heap.size 132 [.int .i64 6, .int .i64 _, .int .i64 i, .int .i64 o, .int .i64 _, .string s]) ⟨(Kp.refl _ _).alloc _, HT.out.kp ((Kp.refl [] w).alloc _) (by simp) (by simp) (by simp) (by simp), Bk.newAt rfl _ _⟩ ?_
    rintro W ⟨kW, tW, bW⟩
    obtain ⟨cc0, cc1, cc2, ht⟩ := tW.t
    have q0 := ht.cell 0
    have q1 := ht.cell 1
    have q2 := ht.cell 2
    have c0 := bW.cell 0
    have c1 := bW.cell 1
    have c2 := bW.cell 2
    have c3 := bW.cell 3
    have c4 := bW.cell 4
    have c5 := bW.cell 5
    simp only [List.getElem?_cons_zero, List.getElem?_cons_succ] at q0 q1 q2 c0 c1 c2 c3 c4 c5
    have x0 := tW.ow HX.out
    have x1 := tW.ho HX.out
    have x2 := tW.bs HX.out
    have z0 := tW.o.frozen i
    have z1 := tW.h.frozen i
    have z2 := tW.b.frozen i
    have TW := Lib.hid tW
    have KW := Lib.hid kW
    clear tW kW ht bW
    go_wp2
    go_quiet (fail)
    go_wp2
    go_quiet (fail)
    go_wp2
    go_quiet (fail)
    go_wp2
    go_ret3
    first | exact H.out _ (((KW.out.drewN _).drewN _).drewN _) (((TW.out.drewN _).drewN _).drewN _) | exact H.out _ (KW.out.drewN _) (TW.out.drewN _)
set_option maxHeartbeats 1600000 in
theorem rdo_unh7 (hT : RT w bM bO bH bB fs) (e o n : Int) (i : Nat) (s : ByteArray) (x : Fr) (hx : fs[i]? = some x) (he : e = 1 ∨ e = 2 ∨ (e ≠ 1 ∧ e ≠ 2)) (h0 : x.ho = 0)
    (h : ∀ w', Kp [] w w' → RT w' bM bO bH bB fs → R (.returned (.tuple #[.int .i64 0, .string (S []), .int .i64 1])) w') :
    Calls Tryz.prog 54 #[.pointer (some ⟨bM, 0, none⟩), .agg #[.int .i64 7, .int .i64 e, .int .i64 i, .int .i64 o, .int .i64 n, .string s]] w R := by
  have H := Lib.hid h
  clear h
  have hn := hT.n1
  have hi := lt_of hx
  have i0 : ¬ (i : Int) < 0 := by omega
  have b3 : (x.ho == 0) = true := by simp [h0]
  have HX := Lib.hid hx
  have HT := Lib.hid hT
  clear hx hT
  have he2 : e = 1 ∨ ((e == 1) = false ∧ e = 2) ∨ ((e == 1) = false ∧ (e == 2) = false) := by
    rcases he with h | h | h
    · exact .inl h
    · exact .inr (.inl ⟨by simp [h], h⟩)
    · exact .inr (.inr ⟨by simpa using h.1, by simpa using h.2⟩)
  clear he
  rcases he2 with rfl | ⟨b1, rfl⟩ | ⟨b1, b2⟩
  all_goals
    go_enter Tryz.func54, Tryz.ntmps54
    go_upto_region 1 with (fail)
    refine gen_world (fun W => Kp [] w W ∧ RT W bM bO bH bB fs ∧ Bk W w.heap.size 132 [.int .i64 7, .int .i64 _, .int .i64 i, .int .i64 o, .int .i64 _, .string s]) ⟨(Kp.refl _ _).alloc _, HT.out.kp ((Kp.refl [] w).alloc _) (by simp) (by simp) (by simp) (by simp), Bk.newAt rfl _ _⟩ ?_
    rintro W ⟨kW, tW, bW⟩
    obtain ⟨cc0, cc1, cc2, ht⟩ := tW.t
    have q0 := ht.cell 0
    have q1 := ht.cell 1
    have q2 := ht.cell 2
    have c0 := bW.cell 0
    have c1 := bW.cell 1
    have c2 := bW.cell 2
    have c3 := bW.cell 3
    have c4 := bW.cell 4
    have c5 := bW.cell 5
    simp only [List.getElem?_cons_zero, List.getElem?_cons_succ] at q0 q1 q2 c0 c1 c2 c3 c4 c5
    have x0 := tW.ow HX.out
    have x1 := tW.ho HX.out
    have x2 := tW.bs HX.out
    have z0 := tW.o.frozen i
    have z1 := tW.h.frozen i
    have z2 := tW.b.frozen i
    have TW := Lib.hid tW
    have KW := Lib.hid kW
    clear tW kW ht bW
    go_wp2
    go_quiet (fail)
    go_wp2
    go_quiet (fail)
    go_wp2
    go_quiet (fail)
    go_wp2
    go_ret3
    first | exact H.out _ (((KW.out.drewN _).drewN _).drewN _) (((TW.out.drewN _).drewN _).drewN _) | exact H.out _ (KW.out.drewN _) (TW.out.drewN _)
set_option maxHeartbeats 1600000 in
theorem rdo_to (hT : RT w bM bO bH bB fs) (e o n : Int) (i : Nat) (s : ByteArray) (x : Fr) (hx : fs[i]? = some x) (he : e = 1 ∨ e = 2) (hw : x.ow = e) (hn1 : n ≠ 1) (hn2 : n ≠ 2)
    (h : ∀ w', Kp [] w w' → RT w' bM bO bH bB fs → R (.returned (.tuple #[.int .i64 0, .string (S []), .int .i64 1])) w') :
    Calls Tryz.prog 54 #[.pointer (some ⟨bM, 0, none⟩), .agg #[.int .i64 2, .int .i64 e, .int .i64 i, .int .i64 o, .int .i64 n, .string s]] w R := by
  have H := Lib.hid h
  clear h
  have hn := hT.n1
  have hi := lt_of hx
  have i0 : ¬ (i : Int) < 0 := by omega
  have b0 : (x.ow != e) = false := by simp [hw]
  have b4 : (n != 1) = true := by simpa using hn1
  have b5 : (n != 2) = true := by simpa using hn2
  have HX := Lib.hid hx
  have HT := Lib.hid hT
  clear hx hT
  rcases he with rfl | rfl
  all_goals
    go_enter Tryz.func54, Tryz.ntmps54
    go_upto_region 1 with (fail)
    refine gen_world (fun W => Kp [] w W ∧ RT W bM bO bH bB fs ∧ Bk W w.heap.size 132 [.int .i64 2, .int .i64 _, .int .i64 i, .int .i64 o, .int .i64 _, .string s]) ⟨(Kp.refl _ _).alloc _, HT.out.kp ((Kp.refl [] w).alloc _) (by simp) (by simp) (by simp) (by simp), Bk.newAt rfl _ _⟩ ?_
    rintro W ⟨kW, tW, bW⟩
    obtain ⟨cc0, cc1, cc2, ht⟩ := tW.t
    have q0 := ht.cell 0
    have q1 := ht.cell 1
    have q2 := ht.cell 2
    have c0 := bW.cell 0
    have c1 := bW.cell 1
    have c2 := bW.cell 2
    have c3 := bW.cell 3
    have c4 := bW.cell 4
    have c5 := bW.cell 5
    simp only [List.getElem?_cons_zero, List.getElem?_cons_succ] at q0 q1 q2 c0 c1 c2 c3 c4 c5
    have x0 := tW.ow HX.out
    have x1 := tW.ho HX.out
    have x2 := tW.bs HX.out
    have z0 := tW.o.frozen i
    have z1 := tW.h.frozen i
    have z2 := tW.b.frozen i
    have TW := Lib.hid tW
    have KW := Lib.hid kW
    clear tW kW ht bW
    go_wp2
    go_quiet (fail)
    go_wp2
    go_quiet (fail)
    go_wp2
    go_quiet (fail)
    go_wp2
    go_ret3
    first | exact H.out _ (((KW.out.drewN _).drewN _).drewN _) (((TW.out.drewN _).drewN _).drewN _) | exact H.out _ (KW.out.drewN _) (TW.out.drewN _)
set_option maxHeartbeats 1600000 in
theorem rdo_span3 (hT : RT w bM bO bH bB fs) (e o n : Int) (i : Nat) (s : ByteArray) (x : Fr) (hx : fs[i]? = some x) (he : e = 1 ∨ e = 2) (hw : x.ow = e) (hs : spanB o n = false) (o1 : -9223372036854775808 ≤ o) (o2 : o ≤ 9223372036854775807)
    (h : ∀ w', Kp [] w w' → RT w' bM bO bH bB fs → R (.returned (.tuple #[.int .i64 0, .string (S []), .int .i64 1])) w') :
    Calls Tryz.prog 54 #[.pointer (some ⟨bM, 0, none⟩), .agg #[.int .i64 3, .int .i64 e, .int .i64 i, .int .i64 o, .int .i64 n, .string s]] w R := by
  have H := Lib.hid h
  clear h
  have hn := hT.n1
  have hi := lt_of hx
  have i0 : ¬ (i : Int) < 0 := by omega
  have b0 : (x.ow != e) = false := by simp [hw]
  have HS := Lib.hid hs
  clear hs
  have HX := Lib.hid hx
  have HT := Lib.hid hT
  clear hx hT
  rcases he with rfl | rfl
  all_goals
    go_enter Tryz.func54, Tryz.ntmps54
    go_upto_region 1 with (fail)
    refine gen_world (fun W => Kp [] w W ∧ RT W bM bO bH bB fs ∧ Bk W w.heap.size 132 [.int .i64 3, .int .i64 _, .int .i64 i, .int .i64 o, .int .i64 _, .string s]) ⟨(Kp.refl _ _).alloc _, HT.out.kp ((Kp.refl [] w).alloc _) (by simp) (by simp) (by simp) (by simp), Bk.newAt rfl _ _⟩ ?_
    rintro W ⟨kW, tW, bW⟩
    obtain ⟨cc0, cc1, cc2, ht⟩ := tW.t
    have q0 := ht.cell 0
    have q1 := ht.cell 1
    have q2 := ht.cell 2
    have c0 := bW.cell 0
    have c1 := bW.cell 1
    have c2 := bW.cell 2
    have c3 := bW.cell 3
    have c4 := bW.cell 4
    have c5 := bW.cell 5
    simp only [List.getElem?_cons_zero, List.getElem?_cons_succ] at q0 q1 q2 c0 c1 c2 c3 c4 c5
    have x0 := tW.ow HX.out
    have x1 := tW.ho HX.out
    have x2 := tW.bs HX.out
    have z0 := tW.o.frozen i
    have z1 := tW.h.frozen i
    have z2 := tW.b.frozen i
    have TW := Lib.hid tW
    have KW := Lib.hid kW
    clear tW kW ht bW
    go_wp2
    go_quiet (fail)
    go_wp2
    go_quiet (fail)
    go_wp2
    go_quiet (fail)
    go_wp2_with (go_at_call 113; ((refine rwithin_any _ _ (by omega) (by omega) _ ?_); rw [HS.out]))
    go_ret3
    first | exact H.out _ (((KW.out.drewN _).drewN _).drewN _) (((TW.out.drewN _).drewN _).drewN _) | exact H.out _ (KW.out.drewN _) (TW.out.drewN _)
set_option maxHeartbeats 1600000 in
theorem rdo_span7 (hT : RT w bM bO bH bB fs) (e o n : Int) (i : Nat) (s : ByteArray) (x : Fr) (hx : fs[i]? = some x) (he : e = 1 ∨ e = 2 ∨ (e ≠ 1 ∧ e ≠ 2)) (h0 : x.ho ≠ 0) (hs : spanB o n = false) (o1 : -9223372036854775808 ≤ o) (o2 : o ≤ 9223372036854775807)
    (h : ∀ w', Kp [] w w' → RT w' bM bO bH bB fs → R (.returned (.tuple #[.int .i64 0, .string (S []), .int .i64 1])) w') :
    Calls Tryz.prog 54 #[.pointer (some ⟨bM, 0, none⟩), .agg #[.int .i64 7, .int .i64 e, .int .i64 i, .int .i64 o, .int .i64 n, .string s]] w R := by
  have H := Lib.hid h
  clear h
  have hn := hT.n1
  have hi := lt_of hx
  have i0 : ¬ (i : Int) < 0 := by omega
  have b3 : (x.ho == 0) = false := by simpa using h0
  have HS := Lib.hid hs
  clear hs
  have HX := Lib.hid hx
  have HT := Lib.hid hT
  clear hx hT
  have he2 : e = 1 ∨ ((e == 1) = false ∧ e = 2) ∨ ((e == 1) = false ∧ (e == 2) = false) := by
    rcases he with h | h | h
    · exact .inl h
    · exact .inr (.inl ⟨by simp [h], h⟩)
    · exact .inr (.inr ⟨by simpa using h.1, by simpa using h.2⟩)
  clear he
  rcases he2 with rfl | ⟨b1, rfl⟩ | ⟨b1, b2⟩
  all_goals
    go_enter Tryz.func54, Tryz.ntmps54
    go_upto_region 1 with (fail)
    refine gen_world (fun W => Kp [] w W ∧ RT W bM bO bH bB fs ∧ Bk W w.heap.size 132 [.int .i64 7, .int .i64 _, .int .i64 i, .int .i64 o, .int .i64 _, .string s]) ⟨(Kp.refl _ _).alloc _, HT.out.kp ((Kp.refl [] w).alloc _) (by simp) (by simp) (by simp) (by simp), Bk.newAt rfl _ _⟩ ?_
    rintro W ⟨kW, tW, bW⟩
    obtain ⟨cc0, cc1, cc2, ht⟩ := tW.t
    have q0 := ht.cell 0
    have q1 := ht.cell 1
    have q2 := ht.cell 2
    have c0 := bW.cell 0
    have c1 := bW.cell 1
    have c2 := bW.cell 2
    have c3 := bW.cell 3
    have c4 := bW.cell 4
    have c5 := bW.cell 5
    simp only [List.getElem?_cons_zero, List.getElem?_cons_succ] at q0 q1 q2 c0 c1 c2 c3 c4 c5
    have x0 := tW.ow HX.out
    have x1 := tW.ho HX.out
    have x2 := tW.bs HX.out
    have z0 := tW.o.frozen i
    have z1 := tW.h.frozen i
    have z2 := tW.b.frozen i
    have TW := Lib.hid tW
    have KW := Lib.hid kW
    clear tW kW ht bW
    go_wp2
    go_quiet (fail)
    go_wp2
    go_quiet (fail)
    go_wp2
    go_quiet (fail)
    go_wp2_with (go_at_call 113; ((refine rwithin_any _ _ (by omega) (by omega) _ ?_); rw [HS.out]))
    go_ret3
    first | exact H.out _ (((KW.out.drewN _).drewN _).drewN _) (((TW.out.drewN _).drewN _).drewN _) | exact H.out _ (KW.out.drewN _) (TW.out.drewN _)
set_option maxHeartbeats 1600000 in
theorem rdo_span4 (hT : RT w bM bO bH bB fs) (e o n : Int) (i : Nat) (s : ByteArray) (x : Fr) (hx : fs[i]? = some x) (he : e = 1 ∨ e = 2) (hw : x.ow = e) (hs : spanB o s.size = false) (o1 : -9223372036854775808 ≤ o) (o2 : o ≤ 9223372036854775807)
    (h : ∀ w', Kp [] w w' → RT w' bM bO bH bB fs → R (.returned (.tuple #[.int .i64 0, .string (S []), .int .i64 1])) w') :
    Calls Tryz.prog 54 #[.pointer (some ⟨bM, 0, none⟩), .agg #[.int .i64 4, .int .i64 e, .int .i64 i, .int .i64 o, .int .i64 n, .string s]] w R := by
  have H := Lib.hid h
  clear h
  have hn := hT.n1
  have hi := lt_of hx
  have i0 : ¬ (i : Int) < 0 := by omega
  have b0 : (x.ow != e) = false := by simp [hw]
  have HS := Lib.hid hs
  clear hs
  have HX := Lib.hid hx
  have HT := Lib.hid hT
  clear hx hT
  rcases he with rfl | rfl
  all_goals
    go_enter Tryz.func54, Tryz.ntmps54
    go_upto_region 1 with (fail)
    refine gen_world (fun W => Kp [] w W ∧ RT W bM bO bH bB fs ∧ Bk W w.heap.size 132 [.int .i64 4, .int .i64 _, .int .i64 i, .int .i64 o, .int .i64 _, .string s]) ⟨(Kp.refl _ _).alloc _, HT.out.kp ((Kp.refl [] w).alloc _) (by simp) (by simp) (by simp) (by simp), Bk.newAt rfl _ _⟩ ?_
    rintro W ⟨kW, tW, bW⟩
    obtain ⟨cc0, cc1, cc2, ht⟩ := tW.t
    have q0 := ht.cell 0
    have q1 := ht.cell 1
    have q2 := ht.cell 2
    have c0 := bW.cell 0
    have c1 := bW.cell 1
    have c2 := bW.cell 2
    have c3 := bW.cell 3
    have c4 := bW.cell 4
    have c5 := bW.cell 5
    simp only [List.getElem?_cons_zero, List.getElem?_cons_succ] at q0 q1 q2 c0 c1 c2 c3 c4 c5
    have x0 := tW.ow HX.out
    have x1 := tW.ho HX.out
    have x2 := tW.bs HX.out
    have z0 := tW.o.frozen i
    have z1 := tW.h.frozen i
    have z2 := tW.b.frozen i
    have TW := Lib.hid tW
    have KW := Lib.hid kW
    clear tW kW ht bW
    go_wp2
    go_quiet (fail)
    go_wp2
    go_quiet (fail)
    go_wp2
    go_quiet (fail)
    go_wp2_with (go_at_call 113; ((refine rwithin_any _ _ (by omega) (by omega) _ ?_); rw [HS.out]))
    go_ret3
    first | exact H.out _ (((KW.out.drewN _).drewN _).drewN _) (((TW.out.drewN _).drewN _).drewN _) | exact H.out _ (KW.out.drewN _) (TW.out.drewN _)
end
end
end Go.Proofs.YtedblbpmlbjnhaaGreat
