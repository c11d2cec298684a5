/- RespondWrong: To, Same, the example. -/
import Derived.Test.YtjjigngighneeaaDoorRes9
namespace Go.Proofs.YtjjigngighneeaaDoor
open Go.RowKit
set_option linter.unusedVariables false
set_option linter.unusedSimpArgs false
set_option maxRecDepth 100000

theorem plan_fin4 {w w2 : World} {pb rb tt : Nat} {A A1 A2 : Option Addr} {T : List UInt8} {z z1 z2 : Int} {s1 s2 L : ByteArray} {n1 n2 c1 c2 c : Nat} {d1 d2 : Bool} (i : Nat) (u : Value) (k : Kp [] w w2) (h1 : w.heap.size ≤ rb) (h2 : rb < pb) (bp : Bk w2 pb tt [.int .i64 z1, .string s1, .slice A1 n1 c1, .bool d1]) (br : Bk w2 rb tt [.int .i64 z2, .string s2, .slice A2 n2 c2, .bool d2]) (r : Rd w2 [] A (partC T)) :
    ∃ W', (((((w2.setCell ⟨pb, i, none⟩ u).setCell ⟨rb, 0, none⟩ (.int .i64 z)).setCell ⟨rb, 1, none⟩ (.string L)).setCell ⟨rb, 2, none⟩ (.slice A 1 c)).setCell ⟨rb, 3, none⟩ (.bool true)) = W' ∧ Kp [] w W' ∧ Bk W' rb tt [.int .i64 z, .string L, .slice A 1 c, .bool true] ∧ Rd W' [] A (partC T) := by
  have kk : Kp [rb, pb] w2 (((((w2.setCell ⟨pb, i, none⟩ u).setCell ⟨rb, 0, none⟩ (.int .i64 z)).setCell ⟨rb, 1, none⟩ (.string L)).setCell ⟨rb, 2, none⟩ (.slice A 1 c)).setCell ⟨rb, 3, none⟩ (.bool true)) :=
    (((((Kp.refl _ _).setCell (p := ⟨pb, i, none⟩) (.inl (by simp)) _).setCell (p := ⟨rb, 0, none⟩) (.inl (by simp)) _).setCell (p := ⟨rb, 1, none⟩) (.inl (by simp)) _).setCell (p := ⟨rb, 2, none⟩) (.inl (by simp)) _).setCell (p := ⟨rb, 3, none⟩) (.inl (by simp)) _
  refine ⟨_, rfl, k.thn kk (fun s hs => .inr (by simp at hs; omega)), ?_, ((rd_not (rd_not r bp) br).kp kk (fun s hs => .inl hs)).sub (by simp)⟩
  exact ((((((br.far (p := ⟨pb, i, none⟩) (by simp; omega) u).set_ 0 _).set_ 1 _).set_ 2 _).set_ 3 _).cast rfl)
theorem elt_rpart : Elt Tryd.prog 24 57 (.agg #[.string ByteArray.empty, .int .i64 0, .int .i64 0]) 3 32 := ⟨Tryd.underlying24, by kernel_rfl, rfl, by decide, by decide⟩
set_option maxHeartbeats 4000000 in
theorem to27_any {R : Ending → World → Prop} (st : Int) (hd T : List UInt8) {A : Option Addr} {c : Nat} (w : World) (hr : Rd w [] A (partC T))
    (h : ∀ A' c' w', Kp [] w w' → Rd w' [] A' (partC T) → R (.returned (.agg #[.int .i64 st, .string (S hd), .slice A' 1 c', .bool true])) w') :
    Calls Tryd.prog 8 #[.agg #[.int .i64 st, .string (S hd), .slice A 1 c, .bool true]] w R := by
  have H := Lib.hid h
  have HR := Lib.hid hr
  clear h hr
  go_enter Tryd.func8, Tryd.ntmps8
  go_upto_region 2 with (fail)
  refine gen_worldC (fun W => ∃ g, w.heap.size = g ∧ Kp [] w W ∧ Bk W g 30 [.int .i64 st, .string (S hd), .slice A 1 c, .bool true] ∧ Bk W (g + 1) 26 [.int .i64 0, .string ⟨#[]⟩, .slice none 0 0, .bool false] ∧ Bk W (g + 1 + 1) 26 [.int .i64 st, .string (S hd), .slice none 0 0, .bool true]) ⟨_, rfl, (((Kp.refl _ _).alloc _).alloc _).alloc _, (((Bk.new' _ _ _).alloc _).alloc _).cast rfl, ((Bk.newAt (by simp) _ _).alloc _).cast rfl, (Bk.newAt (by simp) _ _).cast rfl⟩ ?_
  rintro W ⟨g, hg, kW, b1, b2, b3⟩
  rw [hg]
  have hge : w.heap.size ≤ g := by omega
  have hlt := b3.lt
  obtain ⟨x, o, rfl, hn, hb, hc⟩ := (HR.out.kp kW (by simp)) (by simp [partC])
  have hx : x < g := by
    obtain ⟨x2, o2, he, _, hb2, _⟩ := HR.out (by simp [partC])
    injection he with he
    injection he with he _
    omega
  have e0 : W.cell? ⟨x, o, none⟩ = some (.string (S T)) := hc 0 _ rfl
  have e1 : W.cell? ⟨x, o + 1, none⟩ = some (.int .i64 0) := hc 1 _ rfl
  have e2 : W.cell? ⟨x, o + 2, none⟩ = some (.int .i64 0) := hc 2 _ rfl
  obtain ⟨⟨p0, p1, p2, p3⟩, _⟩ := bk4 b1
  obtain ⟨⟨q0, q1, q2, q3⟩, ⟨r0, r1, r2, r3⟩⟩ := bk4 b3
  have q2a : ∀ o, (W.drew.alloc o).cell? ⟨g + 1 + 1, 2, none⟩ = some (.slice none 0 0) := fun o => (b3.drew.alloc o).cell 2
  have B1 := Lib.hid b1
  have B2 := Lib.hid b2
  have B3 := Lib.hid b3
  have KW := Lib.hid kW
  clear b1 b2 b3 kW hc hn hb
  go_wp2
  refine wp_loop_rounds 2 ?_
  rw [rounds_succ]
  go_wp2
  go_region_law (refine step_app rfl (.tmp 20) (.tmp 26) _ rfl elt_rpart none 0 0 [] (by simp [Act.eval, Act.put]) Ow.nil [] (some ⟨W.heap.size, 0, none⟩) 1 1 (partC T) (by simp [Act.eval, Act.put]) (Rd.of_bk (Bk.newAt rfl _ _) (by simp)) rfl (part_one _) (by omega) ?_; intro A3 c3 w5 ho5 hk5 hA5; have b5 := (B3.out.drew.alloc _).kp hk5 (by simp [bks]); have a5 := (B2.out.drew.alloc _).kp hk5 (by simp [bks]); have m5 := (B1.out.drew.alloc _).kp hk5 (by simp [bks]); obtain ⟨⟨i0, i1, i2, i3⟩, ⟨j0, j1, j2, j3⟩⟩ := bk4 b5; obtain ⟨⟨l0, l1, l2, l3⟩, ⟨n0, n1, n2, n3⟩⟩ := bk4 a5; obtain ⟨⟨o0, o1, o2, o3⟩, _⟩ := bk4 m5)
  all_goals
    go_wp2
    rw [rounds_succ]
    go_wp2
    obtain ⟨W', hW', kF, bF, rF⟩ := plan_fin4 (w := w) (A := A3) (c := c3) (T := T) (L := S hd) (z := st) 2 (.slice A3 1 c3) ((KW.out.drew.alloc _).trans hk5) (by omega) (by omega) (b5.cast rfl) (a5.cast rfl) (ho5.rd (by intro b hb; simp))
    rw [hW']
    obtain ⟨⟨f0, f1, f2, f3⟩, _⟩ := bk4 bF
    exact bodyPost_ret (v := .agg #[.int .i64 st, .string (S hd), .slice A3 1 c3, .bool true]) (by simp [results, Tryd.results8, go_sem, f0, f1, f2, f3]; try rfl) rfl (H.out A3 c3 _ kF rF)
set_option maxHeartbeats 2000000 in
theorem same27_any {R : Ending → World → Prop} (st : Int) (hd T : List UInt8) {A A' : Option Addr} {c c' : Nat} (w : World) (hr : Rd w [] A (partC T)) (hr' : Rd w [] A' (partC T))
    (h : ∀ w', Kp [] w w' → R (.returned (.bool true)) w') :
    Calls Tryd.prog 7 #[.agg #[.int .i64 st, .string (S hd), .slice A 1 c, .bool true], .agg #[.int .i64 st, .string (S hd), .slice A' 1 c', .bool true]] w R := by
  have H := Lib.hid h
  obtain ⟨x, o, rfl, hn, hb, hc⟩ := hr (by simp [partC])
  obtain ⟨x', o', rfl, hn', hb', hc'⟩ := hr' (by simp [partC])
  have c0 : w.cell? ⟨x, o, none⟩ = some (.string (S T)) := hc 0 _ rfl
  have c1 := hc 1 _ rfl
  have c2 := hc 2 _ rfl
  have d0 : w.cell? ⟨x', o', none⟩ = some (.string (S T)) := hc' 0 _ rfl
  have d1 := hc' 1 _ rfl
  have d2 := hc' 2 _ rfl
  have gTT : (T == T) = true := by simp
  have gHH : (hd == hd) = true := by simp
  have gHn : (hd != hd) = false := by simp
  have gSS : (st == st) = true := by simp
  have gSn : (st != st) = false := by simp
  clear h hr hr' hc hc'
  go_enter Tryd.func7, Tryd.ntmps7
  go_wp2
  refine wp_loop_rounds 2 ?_
  rw [rounds_succ]
  go_wp2
  go_quiet (fail)
  go_wp2
  rw [rounds_succ]
  go_wp2
  exact H.out _ (by repeat first | exact Kp.refl _ _ | refine Kp.drewN ?_ _ | refine Kp.drew ?_ | refine Kp.alloc ?_ _)
end Go.Proofs.YtjjigngighneeaaDoor
