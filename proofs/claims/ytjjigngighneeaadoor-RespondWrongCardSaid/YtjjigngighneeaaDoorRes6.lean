/- Package respond: plan and Wrong, walked. -/
import Derived.Test.YtjjigngighneeaaDoorRes5
import Derived.Test.YtjjigngighneeaaDoorRes8
namespace Go.Proofs.YtjjigngighneeaaDoor
open Go.RowKit
set_option linter.unusedVariables false
set_option linter.unusedSimpArgs false
set_option maxRecDepth 100000

theorem plan_fin2 {w w2 : World} {rb tt : Nat} {A A2 : Option Addr} {T : List UInt8} {z z2 : Int} {s2 L : ByteArray} {n2 c2 c : Nat} {d2 : Bool} (k : Kp [] w w2) (h1 : w.heap.size ≤ rb) (br : Bk w2 rb tt [.int .i64 z2, .string s2, .slice A2 n2 c2, .bool d2]) (r : Rd w2 [] A (partC T)) :
    ∃ W', ((((w2.setCell ⟨rb, 0, none⟩ (.int .i64 z)).setCell ⟨rb, 1, none⟩ (.string L)).setCell ⟨rb, 2, none⟩ (.slice A 1 c)).setCell ⟨rb, 3, none⟩ (.bool true)) = W' ∧ Kp [] w W' ∧ Bk W' rb tt [.int .i64 z, .string L, .slice A 1 c, .bool true] ∧ Rd W' [] A (partC T) := by
  have kk : Kp [rb] w2 ((((w2.setCell ⟨rb, 0, none⟩ (.int .i64 z)).setCell ⟨rb, 1, none⟩ (.string L)).setCell ⟨rb, 2, none⟩ (.slice A 1 c)).setCell ⟨rb, 3, none⟩ (.bool true)) :=
    ((((Kp.refl _ _).setCell (p := ⟨rb, 0, none⟩) (.inl (by simp)) _).setCell (p := ⟨rb, 1, none⟩) (.inl (by simp)) _).setCell (p := ⟨rb, 2, none⟩) (.inl (by simp)) _).setCell (p := ⟨rb, 3, none⟩) (.inl (by simp)) _
  refine ⟨_, rfl, k.thn kk (fun s hs => .inr (by simp at hs; omega)), ?_, ((rd_not r br).kp kk (fun s hs => .inl hs)).sub (by simp)⟩
  exact (((((br.set_ 0 _).set_ 1 _).set_ 2 _).set_ 3 _).cast rfl)
theorem plan_fin5 {w w2 : World} {nb rb tt : Nat} {A A1 A2 : Option Addr} {T : List UInt8} {z z1 z2 : Int} {s1 s2 L : ByteArray} {n1 n2 c1 c2 c : Nat} {d1 d2 : Bool} (k : Kp [] w w2) (h1 : w.heap.size ≤ rb) (h2 : w.heap.size ≤ nb) (hne : rb ≠ nb) (bz : Bk w2 nb tt [.int .i64 z1, .string s1, .slice A1 n1 c1, .bool d1]) (br : Bk w2 rb tt [.int .i64 z2, .string s2, .slice A2 n2 c2, .bool d2]) (r : Rd w2 [] A (partC T)) :
    ∃ W', ((((((((w2.setCell ⟨nb, 0, none⟩ (.int .i64 z)).setCell ⟨nb, 1, none⟩ (.string L)).setCell ⟨nb, 2, none⟩ (.slice A 1 c)).setCell ⟨nb, 3, none⟩ (.bool true)).setCell ⟨rb, 0, none⟩ (.int .i64 z)).setCell ⟨rb, 1, none⟩ (.string L)).setCell ⟨rb, 2, none⟩ (.slice A 1 c)).setCell ⟨rb, 3, none⟩ (.bool true)) = W' ∧ Kp [] w W' ∧ Bk W' rb tt [.int .i64 z, .string L, .slice A 1 c, .bool true] ∧ Rd W' [] A (partC T) := by
  have kn : Kp [nb] w2 ((((w2.setCell ⟨nb, 0, none⟩ (.int .i64 z)).setCell ⟨nb, 1, none⟩ (.string L)).setCell ⟨nb, 2, none⟩ (.slice A 1 c)).setCell ⟨nb, 3, none⟩ (.bool true)) :=
    ((((Kp.refl _ _).setCell (p := ⟨nb, 0, none⟩) (.inl (by simp)) _).setCell (p := ⟨nb, 1, none⟩) (.inl (by simp)) _).setCell (p := ⟨nb, 2, none⟩) (.inl (by simp)) _).setCell (p := ⟨nb, 3, none⟩) (.inl (by simp)) _
  exact plan_fin2 (k.thn kn (fun s hs => .inr (by simp at hs; omega))) h1 (br.kp kn (by simp; omega)) (((rd_not r bz).kp kn (fun s hs => .inl hs)).sub (by simp))
theorem gen_worldB {Q : World → Prop} {W : World} (Pr : World → Prop) (h : Pr W) (hk : ∀ W', Pr W' → Q W') : Q W := hk W h
set_option maxHeartbeats 4000000 in
theorem plan_any {R : Ending → World → Prop} (st now : Int) (g : Nat) (w0 w : World) (hst : okS st) (hw : Lw w0) (k0 : Kp [] w0 w) (hg : w0.heap.size ≤ g) (hb : Bk w g 63 (ansC st now none 0 0))
    (h : ∀ D A c w', Kp [] w0 w' → Rd w' [] A (partC (bodyT st)) → (mayB now = true → Told now D) → (mayB now = false → D = []) → R (.returned (.agg #[.int .i64 st, .string (S (headL st now D)), .slice A 1 c, .bool true])) w') : Calls Tryd.prog 23 #[.pointer (some ⟨g, 0, none⟩), .bool false] w R := by
  have H := Lib.hid h
  have HL : Hid (∀ (R : Ending → World → Prop) (w1 : World), Kp [] w w1 → (∀ A c w', Kp [] w0 w' → Kp [g] w1 w' → Bk w' g 63 (ansC st now A 1 c) → Rd w' [g] A (partC (bodyT st)) → R (.returned (.tuple #[])) w') → Calls Tryd.prog 39 #[.pointer (some ⟨g, 0, none⟩)] w1 R) := Lib.hid (fun R w1 k1 h => lay_any st now g w1 hst (hw.kp (k0.trans k1)) (hb.kp k1 (by simp)) (fun A c w' k b r => h A c w' ((k0.trans k1).thn k (fun s hs => .inr (by simp at hs; omega))) k b r))
  have HH : Hid (∀ (R : Ending → World → Prop) (w1 : World) (A : Option Addr) (c : Nat), Kp [] w0 w1 → Bk w1 g 63 (ansC st now A 1 c) → Rd w1 [] A (partC (bodyT st)) → (∀ D w', Kp [] w1 w' → (mayB now = true → Told now D) → (mayB now = false → D = []) → R (.returned (.string (S (headL st now D)))) w') → Calls Tryd.prog 40 #[.pointer (some ⟨g, 0, none⟩)] w1 R) := Lib.hid (fun R w1 A c k b r h => ahead_any st now g w1 hst (hw.kp k) b r h)
  have hlt := hb.lt
  clear h hst hb
  go_enter Tryd.func23, Tryd.ntmps23
  go_upto_region 1 with (fail)
  refine gen_worldC (fun W => ∃ pb, w.heap.size = pb ∧ Kp [] w W ∧ Bk W pb 30 [.int .i64 0, .string ⟨#[]⟩, .slice none 0 0, .bool false]) ⟨_, rfl, (Kp.refl _ _).alloc _, (Bk.new' _ _ _).cast rfl⟩ ?_
  rintro W ⟨pb, hpb, kW, bW⟩
  have hne : pb ≠ g := by omega
  go_upto_region 2 with (go_at_call 39; ((refine HL.out _ _ kW ?_); intro A c w1 k1 kg1 b1 r1))
  have HS : Hid (∀ w', Kp [] w1 w' → w'.cell? ⟨g, 0, none⟩ = some (.int .i64 st) ∧ w'.cell? ⟨g, 9, none⟩ = some (.slice A 1 c) ∧ w'.cell? ⟨g, 2, none⟩ = some (.bool true)) := Lib.hid (fun w' k' => by have := bk10 (b1.kp k' (by simp)); exact ⟨this.1.1, this.1.2.2.2.2.2.2.2.2.2, this.1.2.2.1⟩)
  have HH2 : Hid (∀ (R : Ending → World → Prop) (w2 : World), Kp [] w1 w2 → (∀ D w', Kp [] w2 w' → Kp [] w1 w' → (mayB now = true → Told now D) → (mayB now = false → D = []) → R (.returned (.string (S (headL st now D)))) w') → Calls Tryd.prog 40 #[.pointer (some ⟨g, 0, none⟩)] w2 R) := Lib.hid (fun R w2 k h => HH.out R w2 A c (k1.trans k) (b1.kp k (by simp)) ((r1.kp k (by simp)).sub (by simp)) (fun D w' j a b => h D w' j (k.trans j) a b))
  have bP := bW.kp kg1 (by simp; omega)
  have hw1 := bP.lt
  have hgl := b1.lt
  have K1 := Lib.hid k1
  have R1 := Lib.hid r1
  have BP := Lib.hid bP
  have hle0 : w0.heap.size ≤ pb := by have := k0.size; omega
  obtain ⟨p0, p9, p2⟩ := HS.out w1 (Kp.refl _ _)
  clear HL HH k1 r1 b1 bP bW kW kg1 hpb
  go_region_held_law (fun w' => w'.cell? ⟨g, 0, none⟩ = some (.int .i64 st) ∧ w'.cell? ⟨g, 9, none⟩ = some (.slice A 1 c) ∧ w'.cell? ⟨g, 2, none⟩ = some (.bool true)) ((refine HS.out _ ?_; repeat (first | with_reducible exact k2 | with_reducible exact Kp.refl [] w1 | refine Kp.drew ?_ | refine Kp.setCell ?_ (.inr (by first | simp | (have := k2.size; simp; omega))) _ | refine Kp.alloc ?_ _))) (first | (go_simp; go_at_call 40; (refine HH2.out _ _ (by repeat (first | with_reducible exact Kp.refl [] w1 | refine Kp.drew ?_ | refine Kp.alloc ?_ _)) ?_); intro D w2 j2 k2 ht hf; have bp2 := BP.out.kp k2 (by simp); have hl2 := bp2.lt; obtain ⟨⟨y0, y1, y2, y3⟩, ⟨x0, x1, x2, x3⟩⟩ := bk4 bp2; (try (have bz : Bk w2 w1.heap.size 30 [.int .i64 0, .string ⟨#[]⟩, .slice none 0 0, .bool false] := (Bk.new' w1.drew 30 #[.int .i64 0, .string ⟨#[]⟩, .slice none 0 0, .bool false]).kp j2 (by simp); obtain ⟨⟨z0, z1, z2, z3⟩, ⟨zz0, zz1, zz2, zz3⟩⟩ := bk4 bz))))
  all_goals
    go_wp2
    have r2 : Rd w2 [] A (partC (bodyT st)) := (R1.out.kp k2 (by simp)).sub (by simp)
    first
    | (obtain ⟨W', hW', kF, bF, rF⟩ := plan_fin5 (L := S (headL st now D)) (A := A) (c := c) (z := st) (K1.out.trans k2) hle0 (by omega) (by omega) bz bp2 r2
       rw [hW']
       obtain ⟨⟨f0, f1, f2, f3⟩, _⟩ := bk4 bF
       exact bodyPost_ret (v := .agg #[.int .i64 st, .string (S (headL st now D)), .slice A 1 c, .bool true]) (by simp [results, Tryd.results23, go_sem, f0, f1, f2, f3]; try rfl) rfl (H.out D A c _ kF rF ht hf))
    | (obtain ⟨W', hW', kF, bF, rF⟩ := plan_fin2 (L := S (headL st now D)) (A := A) (c := c) (z := st) (K1.out.trans k2) hle0 bp2 r2
       rw [hW']
       refine gen_worldB (Q := fun W => bodyPost Tryd.prog Tryd.f23 R Exit.ret _ W) (fun W => Kp [] w0 W ∧ Bk W pb 30 [.int .i64 st, .string (S (headL st now D)), .slice A 1 c, .bool true] ∧ Rd W [] A (partC (bodyT st))) ⟨kF.alloc _, bF.alloc _, rF.kp (S := []) ((Kp.refl _ _).alloc _) (by simp)⟩ ?_
       rintro W ⟨kG, bG, rG⟩
       obtain ⟨⟨f0, f1, f2, f3⟩, _⟩ := bk4 bG
       exact bodyPost_ret (v := .agg #[.int .i64 st, .string (S (headL st now D)), .slice A 1 c, .bool true]) (by simp [results, Tryd.results23, go_sem, f0, f1, f2, f3]; try rfl) rfl (H.out D A c _ kG rG ht hf))
end Go.Proofs.YtjjigngighneeaaDoor
