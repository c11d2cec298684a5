/- respond: plan of any answer. respond: Of any request; Wrong. respond in plain words: spans lie within the file; a head asked for alone. The document's Print and Reason; lengths of parts. The document's Parts. The document's civil dates: read, the day of a date, Seconds. -/
import Derived.Test.YtnmafahbdfilcaaGreatDoorPC23
import Derived.Test.YtnmafahbdfilcaaGreatDoorPC11
import Derived.Test.YtnmafahbdfilcaaGreatDoorPC22
import Derived.Test.YtnmafahbdfilcaaGreatDoorPC7
import Derived.BigRegion
import Derived.Test.YtnmafahbdfilcaaGreatDoorPC15
import Derived.Test.YtnmafahbdfilcaaGreatDoorPC3
import Derived.Test.YtnmafahbdfilcaaGreatDoorPC9
import Derived.BigQuiet
import Derived.Deep.CutBlock
import Derived.Deep.DeepCutAuto
namespace Go.Proofs.YtnmafahbdfilcaaGreatDoor
/-! ### respond: plan of any answer. -/
section
open Go.RowKit Go.Shelf
set_option linter.unusedVariables false
set_option linter.unusedSimpArgs false
set_option maxRecDepth 100000
theorem put4 {w2 : World} {rb tt : Nat} {a0 a1 a2 a3 : Value} (br : Bk w2 rb tt [a0, a1, a2, a3]) (z L A d : Value) :
    ∃ W', ((((w2.setCell ⟨rb, 0, none⟩ z).setCell ⟨rb, 1, none⟩ L).setCell ⟨rb, 2, none⟩ A).setCell ⟨rb, 3, none⟩ d) = W' ∧ Kp [rb] w2 W' ∧ Bk W' rb tt [z, L, A, d] :=
  ⟨_, rfl, ((((Kp.refl _ _).setCell (.inl (by simp)) _).setCell (.inl (by simp)) _).setCell (.inl (by simp)) _).setCell (.inl (by simp)) _, ((((br.set_ 0 _).set_ 1 _).set_ 2 _).set_ 3 _).cast rfl⟩
theorem bk4r {w : World} {g tt : Nat} {a b c d : Value} (h : Bk w g tt [a, b, c, d]) : (w.cell? ⟨g, 0, none⟩ = some a ∧ w.cell? ⟨g, 1, none⟩ = some b ∧ w.cell? ⟨g, 2, none⟩ = some c ∧ w.cell? ⟨g, 3, none⟩ = some d) ∧ (w.frozen? ⟨g, 0, none⟩ = false ∧ w.frozen? ⟨g, 1, none⟩ = false ∧ w.frozen? ⟨g, 2, none⟩ = false ∧ w.frozen? ⟨g, 3, none⟩ = false) :=
  ⟨⟨h.cell 0, h.cell 1, h.cell 2, h.cell 3⟩, h.frozen 0, h.frozen 1, h.frozen 2, h.frozen 3⟩
/-- A row of parts is no plan's block. -/
theorem rd_notP {w : World} {N : List Nat} {A A' : Option Addr} {l : List Pt} {g tt n c : Nat} {a : Int} {s : ByteArray} {d : Bool} (r : Rd w N A (l.flatMap ptV)) (b : Bk w g tt [.int .i64 a, .string s, .slice A' n c, .bool d]) : Rd w (g :: N) A (l.flatMap ptV) := fun hx => by
  obtain ⟨b0, off, rfl, hN, hb, hc⟩ := r hx
  refine ⟨b0, off, rfl, ?_, hb, hc⟩
  intro hm
  rcases List.mem_cons.1 hm with rfl | hm
  · cases l with
    | nil => exact hx rfl
    | cons p l =>
      have c0 := hc 0 _ rfl
      have c1 := hc 1 _ rfl
      rw [b.cell] at c0 c1
      rcases off with _ | _ | _ | _ | off <;> simp at c0 c1
  · exact hN hm
section
variable {R : Ending → World → Prop} {w : World}
set_option maxHeartbeats 8000000 in
theorem plan_gen (st minor : Int) (cl : Bool) (v mt len : Int) (kd : List UInt8) (now : Int) (zs : List (Int × Int)) (only : Bool) {B : Option Addr} {nb db g : Nat} (w0 : World) (k0 : Kp [] w0 w) (hg : w0.heap.size ≤ g)
    (hb : Bk w g 75 (ansG st minor cl v mt len kd now B nb db none 0 0)) (hst : 0 ≤ st ∧ st ≤ 9999)
    (hz : Rd w [g] B (zs.flatMap spV)) (hzn : zs.length = nb) (hnb : nb ≤ 10) (hzo : ∀ z ∈ zs, 0 ≤ z.1 ∧ z.1 ≤ 35184372088832 ∧ 0 ≤ z.2 ∧ z.2 ≤ 35184372088832)
    (hv : 0 ≤ v ∧ v ≤ 9223372036854775807) (hmt : 0 ≤ mt ∧ mt ≤ 9223372036854775807) (hlen : 0 ≤ len ∧ len ≤ 35184372088832) (hkd : kd.length ≤ 300) (hw : Lw w0)
    (h : ∀ A n c w', Kp [] w0 w' → Hid (Rd w' [] A ((if only then [] else partsG st len kd zs).flatMap ptV) ∧ (if only then [] else partsG st len kd zs).length = n ∧ n ≤ 21) → R (.returned (.agg #[.int .i64 st, .string (S (headS ⟨st, minor, cl, v, mt, len, kd, now, zs, sumG (partsG st len kd zs)⟩)), .slice A n c, .bool cl])) w') :
    Calls Tryz.prog 31 #[.pointer (some ⟨g, 0, none⟩), .bool only] w R := by
  have H := Lib.hid h
  have HL : Hid (∀ (R : Ending → World → Prop) (w1 : World), Kp [] w w1 → (∀ A n c w', Kp [g] w1 w' → Bk w' g 75 (ansG st minor cl v mt len kd now B nb db A n c) → Hid (Rd w' [g] A ((partsG st len kd zs).flatMap ptV) ∧ (partsG st len kd zs).length = n ∧ n ≤ 21) → R (.returned (.tuple #[])) w') → Calls Tryz.prog 47 #[.pointer (some ⟨g, 0, none⟩)] w1 R) := Lib.hid (fun R w1 k1 h => lay_gen st minor cl v mt len kd now zs (hb.kp k1 (by simp)) hst (hz.kp k1 (by simp)) hzn hnb hzo hlen hkd (hw.kp (k0.trans k1)) h)
  have HH : Hid (∀ (R : Ending → World → Prop) (w1 : World) (A : Option Addr) (n c : Nat), Kp [] w0 w1 → Kp [g] w w1 → Bk w1 g 75 (ansG st minor cl v mt len kd now B nb db A n c) → Hid (Rd w1 [g] A ((partsG st len kd zs).flatMap ptV) ∧ (partsG st len kd zs).length = n ∧ n ≤ 21) → (∀ w', Kp [] w1 w' → R (.returned (.string (S (headS ⟨st, minor, cl, v, mt, len, kd, now, zs, sumG (partsG st len kd zs)⟩)))) w') → Calls Tryz.prog 48 #[.pointer (some ⟨g, 0, none⟩)] w1 R) := Lib.hid (fun R w1 A n c k kg b r h => head_gen st minor cl v mt len kd now zs (partsG st len kd zs) b ((hz.kp kg (by simp)).sub (by simp)) hzn hzo (r.out.1.sub (by simp)) r.out.2.1 (by have := r.out.2.2; omega) (parts_ok hst.1 hst.2 hlen.1 hlen.2 hkd hzo) hst hv hmt hlen hkd (hw.kp k) h)
  have hlt := hb.lt
  obtain ⟨ps, hps⟩ : ∃ ps, partsG st len kd zs = ps := ⟨_, rfl⟩
  obtain ⟨hd, hhd⟩ : ∃ hd, headS ⟨st, minor, cl, v, mt, len, kd, now, zs, sumG (partsG st len kd zs)⟩ = hd := ⟨_, rfl⟩
  rw [hhd] at H HH
  rw [hps] at H HH HL
  clear h hst hb hz hzn hzo hps hhd
  go_enter Tryz.func31, Tryz.ntmps31
  go_upto_region 1 with (fail)
  refine gen_worldC (fun W => ∃ pb, w.heap.size = pb ∧ Hid (Kp [] w W ∧ Bk W pb 31 [.int .i64 0, .string ⟨#[]⟩, .slice none 0 0, .bool false])) ⟨_, rfl, Lib.hid ⟨(Kp.refl _ _).alloc _, (Bk.new' _ _ _).cast rfl⟩⟩ ?_
  rintro W ⟨pb, hpb, hW⟩
  rw [hpb]
  go_upto_region 2 with (go_at_call 47; ((refine HL.out _ _ hW.out.1 ?_); intro A n c w1 kg1 b1 r1))
  have K1 : Hid (Kp [] w0 w1) := Lib.hid ((k0.trans hW.out.1).thn kg1 (fun s hs => .inr (by simp at hs; omega)))
  have KG : Hid (Kp [g] w w1) := Lib.hid ((hW.out.1.mono (by simp)).trans kg1)
  have BP : Hid (Bk w1 pb 31 [.int .i64 0, .string ⟨#[]⟩, .slice none 0 0, .bool false]) := Lib.hid (hW.out.2.kp kg1 (by simp; omega))
  have hpl := BP.out.lt
  have HP0 : Hid (w0.heap.size ≤ pb) := Lib.hid (by have := k0.size; omega)
  have B1 := Lib.hid b1
  have R1 := r1
  have HS : Hid (∀ w', Kp [] w1 w' → w'.cell? ⟨g, 0, none⟩ = some (.int .i64 st) ∧ w'.cell? ⟨g, 9, none⟩ = some (.slice A n c) ∧ w'.cell? ⟨g, 2, none⟩ = some (.bool cl)) := Lib.hid (fun w' k' => by have := bk10b (b1.kp k' (by simp)); exact ⟨this.1, this.2.2.2.2.2.2.2.2.2, this.2.2.1⟩)
  have HH2 : Hid (∀ (R : Ending → World → Prop) (w2 : World), Kp [] w1 w2 → (∀ w', Kp [] w2 w' → Kp [] w1 w' → R (.returned (.string (S hd))) w') → Calls Tryz.prog 48 #[.pointer (some ⟨g, 0, none⟩)] w2 R) := Lib.hid (fun R w2 k h => HH.out R w2 A n c (K1.out.trans k) (KG.out.trans (k.mono (by simp))) (B1.out.kp k (by simp)) (Lib.hid ⟨R1.out.1.kp k (by simp), R1.out.2⟩) (fun w' j => h w' j (k.trans j)))
  obtain ⟨p0, p9, p2⟩ := HS.out w1 (Kp.refl _ _)
  clear HL HH r1 b1 kg1 hpb hlt k0 hW
  go_cut [5] (fun x W' => ∃ nb2, x = .pointer (some ⟨nb2, 0, none⟩) ∧ Hid (w1.heap.size ≤ nb2 ∧ Kp [] w1 W' ∧ Bk W' nb2 31 [.int .i64 st, .string (S hd), .slice A n c, .bool cl]))
  case first =>
    go_region_held_law (fun w' => w'.cell? ⟨g, 0, none⟩ = some (.int .i64 st) ∧ w'.cell? ⟨g, 9, none⟩ = some (.slice A n c) ∧ w'.cell? ⟨g, 2, none⟩ = some (.bool cl)) ((refine HS.out _ ?_; repeat (first | with_reducible exact k2 | with_reducible exact Kp.refl [] w1 | with_reducible refine Kp.drew ?_ | refine Kp.setCell ?_ (.inr (by first | simp | (have := k2.size; simp; omega))) _ | with_reducible refine Kp.alloc ?_ _))) (first | (go_simp; go_at_call 48; (refine HH2.out _ _ (by repeat (first | with_reducible exact Kp.refl [] w1 | with_reducible refine Kp.drew ?_ | with_reducible refine Kp.alloc ?_ _)) ?_); intro w2 j2 k2; (try (have bz : Bk w2 w1.heap.size 31 [.int .i64 0, .string ⟨#[]⟩, .slice none 0 0, .bool false] := (Bk.new' w1.drew 31 #[.int .i64 0, .string ⟨#[]⟩, .slice none 0 0, .bool false]).kp j2 (by simp); obtain ⟨⟨z0, z1, z2, z3⟩, ⟨zz0, zz1, zz2, zz3⟩⟩ := bk4r bz))))
    all_goals
      go_wp2
      go_meet
      first
      | exact ⟨_, rfl, Lib.hid ⟨by have := k2.size; simp; omega, k2.alloc _, (Bk.new' _ _ _).cast rfl⟩⟩
      | (obtain ⟨W', hW', kW, bW⟩ := put4 bz (.int .i64 st) (.string (S hd)) (.slice A n c) (.bool cl)
         rw [hW']
         exact ⟨_, rfl, Lib.hid ⟨Nat.le_refl _, k2.thn kW (fun s hs => .inr (by simp at hs; omega)), bW⟩⟩)
  case rest =>
    obtain ⟨nb2, hx, hC⟩ := hcut
    rw [hx]
    clear hx
    have hnp : Hid (nb2 ≠ pb ∧ nb2 ≠ g) := Lib.hid (by have := hC.out.1; have := B1.out.lt; have := BP.out.lt; omega)
    have BP2 := Lib.hid (BP.out.kp hC.out.2.1 (by simp))
    obtain ⟨⟨y0, y1, y2, y3⟩, ⟨f0, f1, f2, f3⟩⟩ := bk4r BP2.out
    obtain ⟨⟨x0, x1, x2, x3⟩, ⟨e0, e1, e2, e3⟩⟩ := bk4r hC.out.2.2
    have hne1 : nb2 ≠ pb := hnp.out.1
    clear p0 p9 p2
    cases only with
    | false =>
      go_wp2
      obtain ⟨W', hW', kW, bW⟩ := put4 BP2.out (.int .i64 st) (.string (S hd)) (.slice A n c) (.bool cl)
      rw [hW']
      obtain ⟨⟨c0, c1, c2, c3⟩, _⟩ := bk4r bW
      have kF : Kp [] w0 W' := (K1.out.trans hC.out.2.1).thn kW (fun s hs => .inr (by have := HP0.out; simp at hs; omega))
      refine bodyPost_ret (v := .agg #[.int .i64 st, .string (S hd), .slice A n c, .bool cl]) (by simp [results, Tryz.results31, go_sem, c0, c1, c2, c3]; try rfl) rfl (H.out A n c _ kF (Lib.hid ⟨?_, R1.out.2⟩))
      exact ((rd_notP (R1.out.1.kp hC.out.2.1 (by simp)) BP2.out).kp kW (by simp)).sub (by simp)
    | true =>
      have hset := hC.out.2.2.set_ 2 (.slice none 0 0)
      go_wp2
      have kN : Kp [nb2] wc (wc.setCell ⟨nb2, 2, none⟩ (.slice none 0 0)) := (Kp.refl _ _).setCell (.inl (by simp)) _
      obtain ⟨W', hW', kW, bW⟩ := put4 (BP2.out.kp kN (by simp; omega)) (.int .i64 st) (.string (S hd)) (.slice none 0 0) (.bool cl)
      rw [hW']
      obtain ⟨⟨c0, c1, c2, c3⟩, _⟩ := bk4r bW
      have kF : Kp [] w0 W' := ((K1.out.trans hC.out.2.1).thn kN (fun s hs => .inr (by have := hC.out.1; have := K1.out.size; simp at hs; omega))).thn kW (fun s hs => .inr (by have := HP0.out; simp at hs; omega))
      exact bodyPost_ret (v := .agg #[.int .i64 st, .string (S hd), .slice none 0 0, .bool cl]) (by simp [results, Tryz.results31, go_sem, c0, c1, c2, c3]; try rfl) rfl (H.out none 0 0 _ kF (Lib.hid ⟨Rd.nil, rfl, by omega⟩))
end
end
/-! ### respond: Of any request; Wrong. -/
section
open Go.RowKit Go.Shelf
set_option linter.unusedVariables false
set_option linter.unusedSimpArgs false
set_option maxRecDepth 100000
/-- What Of tells: the head. -/
noncomputable def ofH (r : Req) (there : Bool) (v mt len : Int) (kd : List UInt8) (now : Int) : List UInt8 :=
  headS ⟨(chooseM r there v mt len).1, r.minor, r.close || (chooseM r there v mt len).1 == 400, v, mt, len, kd, now, (chooseM r there v mt len).2, sumG (partsG (chooseM r there v mt len).1 len kd (chooseM r there v mt len).2)⟩
/-- The parts. -/
noncomputable def ofP (r : Req) (there : Bool) (v mt len : Int) (kd : List UInt8) : List Pt :=
  if (r.m == [72, 69, 65, 68]) = true then [] else partsG (chooseM r there v mt len).1 len kd (chooseM r there v mt len).2
theorem bk5' {w : World} {g tt : Nat} {a b c d e : Value} (h : Bk w g tt [a, b, c, d, e]) : (w.cell? ⟨g, 0, none⟩ = some a ∧ w.cell? ⟨g, 1, none⟩ = some b ∧ w.cell? ⟨g, 2, none⟩ = some c ∧ w.cell? ⟨g, 3, none⟩ = some d ∧ w.cell? ⟨g, 4, none⟩ = some e) ∧ True :=
  ⟨⟨h.cell 0, h.cell 1, h.cell 2, h.cell 3, h.cell 4⟩, trivial⟩
section
variable {R : Ending → World → Prop} {w : World}
set_option maxHeartbeats 8000000 in
theorem rof_gen (r : Req) (there : Bool) (v mt len : Int) (kd : List UInt8) (now : Int) {A : Option Addr} {c : Nat} (hr : Rd w [] A (r.fs.flatMap fldC)) (hn : r.fs.length ≤ 2000) (hc : r.fs.length ≤ c)
    (hv : 0 ≤ v ∧ v ≤ 9223372036854775807) (hmt : 0 ≤ mt ∧ mt ≤ 9223372036854775807) (hlen : 0 ≤ len ∧ len ≤ 35184372088832) (hkd : kd.length ≤ 300) (hw : Lw w) (hsz : ∀ nm, (allF r.fs nm).length ≤ 2000000)
    (h : ∀ A' n c' w', Kp [] w w' → Hid (Rd w' [] A' ((ofP r there v mt len kd).flatMap ptV) ∧ (ofP r there v mt len kd).length = n ∧ n ≤ 21) → R (.returned (.agg #[.int .i64 (chooseM r there v mt len).1, .string (S (ofH r there v mt len kd now)), .slice A' n c', .bool (r.close || (chooseM r there v mt len).1 == 400)])) w') :
    Calls Tryz.prog 11 #[.agg #[.string (S r.m), .string (S r.t), .int .i64 r.minor, .slice A r.fs.length c, .bool r.close], .bool there, .agg #[.int .i64 v, .int .i64 mt, .int .i64 len, .string (S kd)], .int .i64 now] w R := by
  have H := Lib.hid h
  have HR := Lib.hid hr
  have HOK := Lib.hid (choose_ok r there v mt len)
  have hst := choose_st r there v mt len
  have HCh : Hid (∀ (R : Ending → World → Prop) (w1 : World) (g : Nat), Kp [] w w1 → w.heap.size ≤ g → Bk w1 g 75 (ansG 0 r.minor false v mt len kd now none 0 0 none 0 0) → (∀ B n d w', Kp [g] w1 w' → Bk w' g 75 (ansG 0 r.minor false v mt len kd now B n d none 0 0) → Hid (n = (chooseM r there v mt len).2.length ∧ Rd w' [g] B ((chooseM r there v mt len).2.flatMap spV)) → R (.returned (.int .i64 (chooseM r there v mt len).1)) w') → Calls Tryz.prog 30 #[.pointer (some ⟨g, 0, none⟩), .agg #[.string (S r.m), .string (S r.t), .int .i64 r.minor, .slice A r.fs.length c, .bool r.close], .bool there] w1 R) := Lib.hid (fun R w1 g k hg hb h => choose_any r there r.minor false v mt len kd now hb (by
    intro hx
    obtain ⟨b0, off, hA, _, hlt, hcc⟩ := HR.out hx
    refine ⟨b0, off, hA, by simp; omega, Nat.lt_of_lt_of_le hlt k.size, fun j u hu => ?_⟩
    rw [k.cell (p := ⟨b0, off + j, none⟩) hlt (by simp)]
    exact hcc j u hu) hn hc hv hmt hlen (hw.kp k) hsz h)
  have HPl : Hid (∀ (R : Ending → World → Prop) (V w1 : World) (g : Nat) (B : Option Addr) (n d : Nat), Kp [] w V → Kp [] V w1 → V.heap.size ≤ g → Bk w1 g 75 (ansG (chooseM r there v mt len).1 r.minor (r.close || (chooseM r there v mt len).1 == 400) v mt len kd now B n d none 0 0) → n = (chooseM r there v mt len).2.length → Rd w1 [g] B ((chooseM r there v mt len).2.flatMap spV) → (∀ A' n c' w', Kp [] V w' → Hid (Rd w' [] A' ((ofP r there v mt len kd).flatMap ptV) ∧ (ofP r there v mt len kd).length = n ∧ n ≤ 21) → R (.returned (.agg #[.int .i64 (chooseM r there v mt len).1, .string (S (ofH r there v mt len kd now)), .slice A' n c', .bool (r.close || (chooseM r there v mt len).1 == 400)])) w') → Calls Tryz.prog 31 #[.pointer (some ⟨g, 0, none⟩), .bool (r.m == [72, 69, 65, 68])] w1 R) := Lib.hid (fun R V w1 g B n d kV k hg hb hzn hz h => plan_gen _ _ _ v mt len kd now _ _ V k hg hb hst hz hzn.symm (by have := HOK.out.2.2.1; omega) (fun z hzm => okZ_sp hlen.2 (HOK.out.2.1 z hzm)) hv hmt hlen hkd (hw.kp kV) (fun A' n c' w' k' hh => h A' n c' w' k' hh))
  obtain ⟨st, hste⟩ : ∃ st, (chooseM r there v mt len).1 = st := ⟨_, rfl⟩
  obtain ⟨hd, hhd⟩ : ∃ hd, ofH r there v mt len kd now = hd := ⟨_, rfl⟩
  obtain ⟨ps, hps⟩ : ∃ ps, ofP r there v mt len kd = ps := ⟨_, rfl⟩
  obtain ⟨zs, hzs⟩ : ∃ zs, (chooseM r there v mt len).2 = zs := ⟨_, rfl⟩
  rw [hste] at H HCh HPl
  rw [hhd, hps] at H HPl
  rw [hzs] at HCh HPl
  obtain ⟨only, hon⟩ : ∃ only, (r.m == [72, 69, 65, 68]) = only := ⟨_, rfl⟩
  rw [hon] at HPl
  obtain ⟨rc, hrc⟩ : ∃ rc, r.close = rc := ⟨_, rfl⟩
  rw [hrc] at H HCh HPl ⊢
  obtain ⟨cl, hcl⟩ : ∃ cl, (rc || st == 400) = cl := ⟨_, rfl⟩
  rw [hcl] at H HPl
  clear h hr hste hhd hps hzs hsz HOK hst
  go_enter Tryz.func11, Tryz.ntmps11
  go_upto_region 2 with (fail)
  refine gen_worldC (fun W => ∃ (V : World) (g1 g2 g3 g4 : Nat), w.heap.size = g1 ∧ g1 + 1 = g2 ∧ g2 + 1 = g3 ∧ g3 + 1 = g4 ∧ Hid (Kp [] w V ∧ V.heap.size = g4 ∧ Bk V g3 31 [.int .i64 0, .string ⟨#[]⟩, .slice none 0 0, .bool false] ∧ Kp [] V W) ∧ Hid (Kp [] w W ∧ Bk W g1 35 [.string (S r.m), .string (S r.t), .int .i64 r.minor, .slice A r.fs.length c, .bool rc] ∧ Bk W g3 31 [.int .i64 0, .string ⟨#[]⟩, .slice none 0 0, .bool false] ∧ Bk W g4 75 (ansG 0 r.minor false v mt len kd now none 0 0 none 0 0))) ⟨((w.alloc _).alloc _).alloc _, _, _, _, _, rfl, rfl, rfl, rfl, Lib.hid ⟨(((Kp.refl _ _).alloc _).alloc _).alloc _, by simp, (Bk.newAt (by simp) _ _).cast rfl, (Kp.refl _ _).alloc _⟩, Lib.hid ⟨((((Kp.refl _ _).alloc _).alloc _).alloc _).alloc _, ((((Bk.new' _ _ _).alloc _).alloc _).alloc _).cast rfl, ((Bk.newAt (by simp) _ _).alloc _).cast rfl, (Bk.newAt (by simp) _ _).cast rfl⟩⟩ ?_
  rintro W ⟨V, g1, g2, g3, g4, hg1, hg2, hg3, hg4, hV, hW⟩
  rw [hg1, hg2, hg3, hg4]
  have HG : Hid (w.heap.size ≤ g1 ∧ g1 < g3 ∧ g3 < g4) := Lib.hid (by omega)
  clear hg1 hg2 hg3 hg4
  obtain ⟨⟨p0, p1, p2, p3, p4⟩, _⟩ := bk5' hW.out.2.1
  go_upto_region 3 with (go_at_call 30; ((refine HCh.out _ _ _ hW.out.1 (by have := HG.out; omega) hW.out.2.2.2 ?_); intro B n d w1 kg b1 hz; have a0 := b1.cell 0; have f0 := b1.frozen 0))
  clear p0 p1 p2 p3 p4
  have hne := HG.out
  refine gen_worldC (fun W2 => Hid (Kp [] V W2 ∧ Bk W2 g1 35 [.string (S r.m), .string (S r.t), .int .i64 r.minor, .slice A r.fs.length c, .bool rc] ∧ Bk W2 g3 31 [.int .i64 0, .string ⟨#[]⟩, .slice none 0 0, .bool false] ∧ Bk W2 g4 75 (ansG st r.minor false v mt len kd now B n d none 0 0) ∧ Rd W2 [g4] B (zs.flatMap spV))) (Lib.hid ?_) ?_
  · have ks : Kp [g4] w1 (w1.setCell ⟨g4, 0, none⟩ (.int .i64 st)) := (Kp.refl _ _).setCell (.inl (by simp)) _
    have hvs := hV.out.2.1
    exact ⟨(hV.out.2.2.2.thn kg (fun s hs => .inr (by simp at hs; omega))).thn ks (fun s hs => .inr (by simp at hs; omega)), (hW.out.2.1.kp kg (by simp; omega)).kp ks (by simp; omega), (hW.out.2.2.1.kp kg (by simp; omega)).kp ks (by simp; omega), (b1.set_ 0 _).cast rfl, hz.out.2.kp ks (by simp)⟩
  have hzn := Lib.hid hz.out.1
  clear a0 f0 kg b1 hz hW hne
  intro W2 hW2
  obtain ⟨⟨p0, p1, p2, p3, p4⟩, _⟩ := bk5' hW2.out.2.1
  have a0 : W2.cell? ⟨g4, 0, none⟩ = some (.int .i64 st) := hW2.out.2.2.2.1.cell 0
  have a2 : W2.cell? ⟨g4, 2, none⟩ = some (.bool false) := hW2.out.2.2.2.1.cell 2
  have f2 := hW2.out.2.2.2.1.frozen 2
  have HW3 : Hid (∀ W', W' = W2.setCell ⟨g4, 2, none⟩ (.bool cl) → Hid (Kp [] V W' ∧ Bk W' g1 35 [.string (S r.m), .string (S r.t), .int .i64 r.minor, .slice A r.fs.length c, .bool rc] ∧ Bk W' g3 31 [.int .i64 0, .string ⟨#[]⟩, .slice none 0 0, .bool false] ∧ Bk W' g4 75 (ansG st r.minor cl v mt len kd now B n d none 0 0) ∧ Rd W' [g4] B (zs.flatMap spV))) := Lib.hid (fun W' e => by
    have hne := HG.out
    have hvs := hV.out.2.1
    subst e
    have ks : Kp [g4] W2 (W2.setCell ⟨g4, 2, none⟩ (.bool cl)) := (Kp.refl _ _).setCell (.inl (by simp)) _
    exact Lib.hid ⟨hW2.out.1.thn ks (fun s hs => .inr (by simp at hs; omega)), hW2.out.2.1.kp ks (by simp; omega), hW2.out.2.2.1.kp ks (by simp; omega), (hW2.out.2.2.2.1.set_ 2 _).cast rfl, hW2.out.2.2.2.2.kp ks (by simp)⟩)
  go_cut [] (fun W' => Hid (Kp [] V W' ∧ Bk W' g1 35 [.string (S r.m), .string (S r.t), .int .i64 r.minor, .slice A r.fs.length c, .bool rc] ∧ Bk W' g3 31 [.int .i64 0, .string ⟨#[]⟩, .slice none 0 0, .bool false] ∧ Bk W' g4 75 (ansG st r.minor cl v mt len kd now B n d none 0 0) ∧ Rd W' [g4] B (zs.flatMap spV)))
  case first =>
    cases rc with
    | true =>
      have hcl2 : cl = true := by rw [← hcl]; rfl
      subst hcl2
      go_wp2
      go_meet
      exact HW3.out _ rfl
    | false =>
      have hcl2 : (st == 400) = cl := by rw [← hcl]; rfl
      clear hcl
      go_wp2
      go_meet
      exact HW3.out _ rfl
  case rest =>
    have hW3 := hcut
    clear hcut p0 p1 p2 p3 p4 a0 a2 f2 HW3
    clear hW2
    obtain ⟨⟨p0, p1, p2, p3, p4⟩, _⟩ := bk5' hW3.out.2.1
    go_wp2_with (go_at_call 31; ((refine HPl.out _ V _ g4 B n d hV.out.1 hW3.out.1 (by rw [hV.out.2.1]; exact Nat.le_refl _) hW3.out.2.2.2.1 hzn.out hW3.out.2.2.2.2 ?_); intro A5 n5 c5 w5 k5 h5; have br := hV.out.2.2.1.kp k5 (by simp); obtain ⟨⟨s0, s1, s2, s3⟩, ⟨t0, t1, t2, t3⟩⟩ := bk4r br))
    obtain ⟨W', hW', kW, bW⟩ := put4 br (.int .i64 st) (.string (S hd)) (.slice A5 n5 c5) (.bool cl)
    rw [hW']
    obtain ⟨⟨c0, c1, c2, c3⟩, _⟩ := bk4r bW
    have kF : Kp [] w W' := (hV.out.1.trans k5).thn kW (fun s hs => .inr (by have := HG.out; simp at hs; omega))
    exact bodyPost_ret (v := .agg #[.int .i64 st, .string (S hd), .slice A5 n5 c5, .bool cl]) (by simp [results, Tryz.results11, go_sem, c0, c1, c2, c3]; try rfl) rfl (H.out A5 n5 c5 _ kF (Lib.hid ⟨((rd_notP h5.out.1 br).kp kW (by simp)).sub (by simp), h5.out.2⟩))
end
/-- The answer to what is none. -/
def wrS (s : Int) : Int := if s = 414 ∨ s = 431 ∨ s = 501 ∨ s = 505 then s else 400
noncomputable def wrH (s now : Int) : List UInt8 := headS ⟨wrS s, 1, true, 0, 0, 0, [], now, [], sumG (partsG (wrS s) 0 [] [])⟩
theorem wrS_bd (s : Int) : 400 ≤ wrS s ∧ wrS s ≤ 505 := by unfold wrS; split <;> omega
section
variable {R : Ending → World → Prop} {w : World}
set_option maxHeartbeats 4000000 in
theorem rwrong_gen (s now : Int) (hw : Lw w)
    (h : ∀ A n c w', Kp [] w w' → Hid (Rd w' [] A ((partsG (wrS s) 0 [] []).flatMap ptV) ∧ (partsG (wrS s) 0 [] []).length = n ∧ n ≤ 21) → R (.returned (.agg #[.int .i64 (wrS s), .string (S (wrH s now)), .slice A n c, .bool true])) w') :
    Calls Tryz.prog 15 #[.int .i64 s, .int .i64 now] w R := by
  have H := Lib.hid h
  have hbd := wrS_bd s
  have HP : Hid (∀ (R : Ending → World → Prop) (V w1 : World) (g : Nat), Kp [] w V → Kp [] V w1 → V.heap.size ≤ g → Bk w1 g 75 (ansG (wrS s) 1 true 0 0 0 [] now none 0 0 none 0 0) → (∀ A n c w', Kp [] V w' → Hid (Rd w' [] A ((partsG (wrS s) 0 [] []).flatMap ptV) ∧ (partsG (wrS s) 0 [] []).length = n ∧ n ≤ 21) → R (.returned (.agg #[.int .i64 (wrS s), .string (S (wrH s now)), .slice A n c, .bool true])) w') → Calls Tryz.prog 31 #[.pointer (some ⟨g, 0, none⟩), .bool false] w1 R) := Lib.hid (fun R V w1 g kV k hg hb h => plan_gen (wrS s) 1 true 0 0 0 [] now [] false V k hg hb (by omega) Rd.nil rfl (by omega) (by simp) (by omega) (by omega) (by omega) (by simp) (hw.kp kV) (fun A n c w' k' hh => h A n c w' k' hh))
  have hs : (wrS s = s ∧ (s = 414 ∨ s = 431 ∨ s = 501 ∨ s = 505)) ∨ (wrS s = 400 ∧ ¬ s = 414 ∧ ¬ s = 431 ∧ ¬ s = 501 ∧ ¬ s = 505) := by unfold wrS; split <;> omega
  obtain ⟨hd, hhd⟩ : ∃ hd, wrH s now = hd := ⟨_, rfl⟩
  rw [hhd] at H HP
  clear h hhd
  generalize partsG (wrS s) 0 [] [] = ps at H HP
  generalize wrS s = z at H HP hs hbd
  clear hbd
  rcases hs with ⟨rfl, rfl | rfl | rfl | rfl⟩ | ⟨rfl, h1, h2, h3, h4⟩
  all_goals
    go_enter Tryz.func15, Tryz.ntmps15
    go_wp2_with (go_at_call 31; ((refine HP.out _ (w.alloc (.cells #[.int .i64 0, .string ⟨#[]⟩, .slice none 0 0, .bool false] 31)) _ _ ((Kp.refl _ _).alloc _) ((Kp.refl _ _).alloc _) (by simp) ((Bk.newAt (by simp) _ _).cast rfl) ?_); intro A5 n5 c5 w5 k5 h5; have br : Bk w5 w.heap.size 31 [.int .i64 0, .string ⟨#[]⟩, .slice none 0 0, .bool false] := ((Bk.new' w _ _).kp k5 (by simp)).cast rfl; obtain ⟨⟨s0, s1, s2, s3⟩, ⟨t0, t1, t2, t3⟩⟩ := bk4r br))
    obtain ⟨W', hW', kW, bW⟩ := put4 br (.int .i64 _) (.string (S hd)) (.slice A5 n5 c5) (.bool true)
    rw [hW']
    obtain ⟨⟨c0, c1, c2, c3⟩, _⟩ := bk4r bW
    exact bodyPost_ret (v := .agg #[.int .i64 _, .string (S hd), .slice A5 n5 c5, .bool true]) (by simp [results, Tryz.results15, go_sem, c0, c1, c2, c3]; try rfl) rfl (H.out A5 n5 c5 _ ((((Kp.refl [] w).alloc _).trans k5).thn kW (fun s hs => .inr (by simp at hs; omega))) (Lib.hid ⟨((rd_notP h5.out.1 br).kp kW (by simp)).sub (by simp), h5.out.2⟩))
end
end
/-! ### respond in plain words: spans lie within the file; a head asked for alone. -/
section
open Go.RowKit
set_option linter.unusedVariables false
set_option linter.unusedSimpArgs false
set_option maxRecDepth 100000
def inP (len : Int) (p : Pt) : Prop := 0 ≤ p.2.2 ∧ 0 ≤ p.2.1 ∧ (0 < p.2.2 → p.2.1 + p.2.2 ≤ len ∧ p.1 = [])
theorem lay_in {st len : Int} {kd : List UInt8} {zs : List (Int × Int)} (hl : 0 ≤ len) (hz : ∀ z ∈ zs, okZ len z) : ∀ p ∈ layG st len kd zs, inP len p := by
  intro p hp
  unfold layG at hp
  split at hp
  · simp at hp; subst hp; exact ⟨hl, by simp, fun _ => ⟨by simp, rfl⟩⟩
  · split at hp
    · rcases List.mem_append.1 hp with hp | hp
      · obtain ⟨z, hzm, hp⟩ := List.mem_flatMap.1 hp
        have hzz := hz z hzm
        unfold okZ at hzz
        have h2 : inP len ([], z.1, z.2) := ⟨by simp only; omega, by simp only; omega, fun _ => ⟨by simp only; omega, rfl⟩⟩
        unfold spP at hp
        split at hp
        · simp at hp
          rcases hp with rfl | rfl
          · exact ⟨by simp, by simp, fun h => absurd h (by simp)⟩
          · exact h2
        · simp at hp; subst hp; exact h2
      · split at hp
        · simp at hp; subst hp; exact ⟨by simp, by simp, fun h => absurd h (by simp)⟩
        · cases hp
    · split at hp
      · cases hp
      · simp at hp; subst hp; exact ⟨by simp, by simp, fun h => absurd h (by simp)⟩
theorem parts_in {st len : Int} {kd : List UInt8} {zs : List (Int × Int)} (hl : 0 ≤ len) (hz : ∀ z ∈ zs, okZ len z) : ∀ p ∈ partsG st len kd zs, inP len p := fun p hp => lay_in hl hz p (List.mem_filter.1 hp).1
theorem sum304 (len : Int) (kd : List UInt8) (zs : List (Int × Int)) : sumG (partsG 304 len kd zs) = 0 := rfl
def getM : List UInt8 := [71, 69, 84]
def headM : List UInt8 := [72, 69, 65, 68]
theorem choose_head {r : Req} (hm : r.m = getM) (hv : valsF r.fs rgL = []) (there : Bool) (v mt len : Int) : chooseM { r with m := headM } there v mt len = chooseM r there v mt len := by
  have h1 : readsM r.m = true := by rw [hm]; rfl
  have h2 : readsM headM = true := rfl
  have h3 : checkM { r with m := headM } v mt = checkM r v mt := by
    unfold checkM
    simp only
    rw [h1, h2]
  have hg : (getF r.fs rgL).2 = false := by unfold getF; rw [hv]
  have h4 : rangedM { r with m := headM } v mt = false := by unfold rangedM; simp [hg]
  have h5 : rangedM r v mt = false := by unfold rangedM; simp [hg]
  unfold chooseM
  simp only
  rw [h1, h2, h3, h4, h5]
theorem head_head {r : Req} (hm : r.m = getM) (hv : valsF r.fs rgL = []) (there : Bool) (v mt len : Int) (kd : List UInt8) (now : Int) : ofH { r with m := headM } there v mt len kd now = ofH r there v mt len kd now := by
  unfold ofH
  rw [choose_head hm hv]
theorem parts_head {r : Req} (hm : r.m = getM) (there : Bool) (v mt len : Int) (kd : List UInt8) : ofP { r with m := headM } there v mt len kd = [] ∧ ofP r there v mt len kd = partsG (chooseM r there v mt len).1 len kd (chooseM r there v mt len).2 := by
  unfold ofP
  simp only
  constructor
  · rw [if_pos (by rfl)]
  · rw [if_neg (by rw [hm]; decide)]
end
/-! ### The document's Print and Reason; lengths of parts. -/
section
open Go.RowKit
set_option linter.unusedVariables false
set_option linter.unusedSimpArgs false
set_option maxRecDepth 100000

set_option maxHeartbeats 4000000 in
theorem print3_any {R : Ending → World → Prop} (n : Int) (w : World) (h0 : 0 ≤ n) (h1 : n ≤ 253402300799) {D : List UInt8} (ht : Told n D) (h : ∀ w', Kp [] w w' → R (.returned (.string (S D))) w') : Calls Tryz.prog 96 #[.int .i64 n] w R := by
  have H := Lib.hid h
  clear h
  obtain ⟨y, m, d, hh, mi, s, wd, a, b, c, ha, hb, rfl⟩ := ht
  have HOf : Hid (∀ (R : Ending → World → Prop) (w : World), (∀ w', Kp [] w w' → R (.returned (.agg #[.int .i64 y, .int .i64 m, .int .i64 d, .int .i64 hh, .int .i64 mi, .int .i64 s, .int .i64 wd])) w') → Calls Tryz.prog 126 #[.int .i64 n] w R) := Lib.hid (fun R w h => rof_any n w h0 h1 c h)
  have y9 := civ_y c h1
  have y0 := c.y0
  have m0 := c.m0
  have m1 := c.m1
  have d31 : d ≤ 31 := by have := c.d1; have := lenM_31 y m; omega
  have hh1 : hh ≤ 23 := by have := c.eh; omega
  have mi1 : mi ≤ 59 := by have := c.emi; omega
  have s1 : s ≤ 59 := by have := c.es; omega
  have wd1 : wd ≤ 6 := by have := c.ew; omega
  go_enter Tryz.func96, Tryz.ntmps96
  go_upto_region 2 with (go_at_call 126; ((refine HOf.out _ _ ?_); intro w1 k1))
  refine gen_worldC (fun W => ∃ g, w1.heap.size = g ∧ Kp [] w W ∧ Bk W g 194 (dC y m d hh mi s wd)) ⟨_, rfl, k1.alloc _, (Bk.new' _ _ _).cast rfl⟩ ?_
  intro W ⟨g, hg, kW, bW⟩
  rw [hg]
  clear hg k1
  obtain ⟨⟨p0, p1, p2, p3, p4, p5, p6⟩, ⟨z0, z1, z2, z3, z4, z5, z6⟩⟩ := bk7 bW
  have HT2 : Hid (∀ (R : Ending → World → Prop) (x : Int) (w : World), 0 ≤ x ∧ x ≤ 999 → (∀ w', Kp [] w w' → R (.returned (.string (S (twoL x.toNat)))) w') → Calls Tryz.prog 127 #[.int .i64 x] w R) := Lib.hid (fun R x w hx h => by
    obtain ⟨n, rfl⟩ := Int.eq_ofNat_of_zero_le hx.1
    exact two_any n w (by omega) h)
  have HW1 : Hid (IntKind.i64.wrap (3 * (wd : Int)) = 3 * (wd : Int)) := Lib.hid (wrap_ok (by omega) (by omega))
  have HW2 : Hid (IntKind.i64.wrap (3 * (wd : Int) + 3) = 3 * (wd : Int) + 3) := Lib.hid (wrap_ok (by omega) (by omega))
  have HW3 : Hid (IntKind.i64.wrap (3 * (m : Int)) = 3 * (m : Int)) := Lib.hid (wrap_ok (by omega) (by omega))
  have HW4 : Hid (IntKind.i64.wrap (3 * (m : Int) - 3) = 3 * (m : Int) - 3) := Lib.hid (wrap_ok (by omega) (by omega))
  have HW5 : Hid (IntKind.i64.wrap ((y : Int) / 100) = (y : Int) / 100) := Lib.hid (wrap_ok (by omega) (by omega))
  have HW6 : Hid ((y : Int).tmod 100 = (y : Int) % 100) := Lib.hid (Int.tmod_eq_emod_of_nonneg (by omega))
  have HSa : Hid ((List.drop (3 * (wd : Int)).toNat (List.take (3 * (wd : Int) + 3).toNat [83, 117, 110, 77, 111, 110, 84, 117, 101, 87, 101, 100, 84, 104, 117, 70, 114, 105, 83, 97, 116])) = a) := Lib.hid (by
    rcases (by omega : wd = 0 ∨ wd = 1 ∨ wd = 2 ∨ wd = 3 ∨ wd = 4 ∨ wd = 5 ∨ wd = 6) with rfl | rfl | rfl | rfl | rfl | rfl | rfl <;> (simp [wdN] at ha; subst ha; rfl))
  have HSb : Hid ((List.drop (3 * (m : Int) - 3).toNat (List.take (3 * (m : Int)).toNat [74, 97, 110, 70, 101, 98, 77, 97, 114, 65, 112, 114, 77, 97, 121, 74, 117, 110, 74, 117, 108, 65, 117, 103, 83, 101, 112, 79, 99, 116, 78, 111, 118, 68, 101, 99])) = b) := Lib.hid (by
    rcases (by omega : m = 1 ∨ m = 2 ∨ m = 3 ∨ m = 4 ∨ m = 5 ∨ m = 6 ∨ m = 7 ∨ m = 8 ∨ m = 9 ∨ m = 10 ∨ m = 11 ∨ m = 12) with rfl | rfl | rfl | rfl | rfl | rfl | rfl | rfl | rfl | rfl | rfl | rfl <;> (simp [moN] at hb; subst hb; rfl))
  have la : a.length ≤ 3 := by
    have := List.mem_of_getElem? ha
    simp only [wdN, List.mem_cons, List.not_mem_nil, or_false] at this
    rcases this with rfl | rfl | rfl | rfl | rfl | rfl | rfl <;> simp
  have lb : b.length ≤ 3 := by
    have := List.mem_of_getElem? hb
    simp only [moN, List.mem_cons, List.not_mem_nil, or_false] at this
    rcases this with rfl | rfl | rfl | rfl | rfl | rfl | rfl | rfl | rfl | rfl | rfl | rfl <;> simp
  have l2 : ∀ x, (twoL x).length = 2 := fun x => rfl
  refine wp_region_kp (by kernel_rfl) (by kernel_rfl) ?_
  repeat (quiet_step (first | (go_at_call 127; ((refine HT2.out _ _ _ (by first | omega | (rw [HW5.out]; omega) | (rw [HW6.out]; omega)) ?_); intro w' k'; exact kpx_mk k')) | (rw [HW1.out, HW2.out, if_pos (by omega), if_pos (by omega), HSa.out]; exact ⟨rfl, rfl⟩) | (rw [HW3.out, HW4.out, if_pos (by omega), if_pos (by omega), HSb.out]; exact ⟨rfl, rfl⟩) | (rw [if_neg (by simp only [List.length_append, List.length_cons, List.length_nil, l2]; omega)]; exact ⟨rfl, rfl⟩) | (rw [if_neg (by omega)]; exact ⟨rfl, rfl⟩)))
  refine wpQuiet_nil ?_
  intro W4 k4
  go_wp2
  exact rcast (H.out _ (kW.trans k4)) (by unfold prL; rw [digL2 d (by omega), digL2 hh (by omega), digL2 mi (by omega), digL2 s (by omega), digL4 y (by omega) y9]; simp [S_append, HW5.out, HW6.out, (by omega : ((y : Int) / 100).toNat = y / 100), (by omega : ((y : Int) % 100).toNat = y % 100)])
end
/-! ### The document's Parts. -/
section
open Go.RowKit Go.Shelf
set_option linter.unusedVariables false
set_option linter.unusedSimpArgs false
set_option maxRecDepth 100000
theorem elt_part27 : Elt Tryz.prog 89 120 (.agg #[.string ByteArray.empty, .int .i64 0, .int .i64 0]) 3 32 := ⟨Tryz.underlying89, by kernel_rfl, rfl, by decide, by decide⟩
/-- Nothing is left out of 206. -/
theorem parts206 {len : Int} {kd : List UInt8} {zs : List (Int × Int)} (hz : ∀ z ∈ zs, okZ len z) : partsG 206 len kd zs = layG 206 len kd zs := by
  unfold partsG
  rw [List.filter_eq_self]
  intro p hp
  unfold layG at hp
  rw [if_neg (by decide), if_pos rfl] at hp
  rcases List.mem_append.1 hp with hp | hp
  · obtain ⟨z, hzm, hp⟩ := List.mem_flatMap.1 hp
    have h1 := (hz z hzm).1
    unfold spP at hp
    split at hp
    · simp at hp
      rcases hp with rfl | rfl
      · unfold keepP rgheadL; simp
      · unfold keepP; simp; omega
    · simp at hp; subst hp; unfold keepP; simp; omega
  · split at hp
    · simp at hp; subst hp; decide
    · cases hp
theorem parts_txt {st len : Int} {kd : List UInt8} {zs : List (Int × Int)} (h1 : st ≠ 200) (h2 : st ≠ 206) (h3 : st ≠ 304) : partsG st len kd zs = [(bodyT st, 0, 0)] := by
  unfold partsG layG
  rw [if_neg h1, if_neg h2, if_neg h3]
  unfold keepP bodyT
  simp
section
variable {R : Ending → World → Prop} {w : World}
set_option maxHeartbeats 8000000 in
theorem rparts27_any (st v mt len : Int) (kd : List UInt8) (zs : List (Int × Int)) {B : Option Addr} {nb db : Nat} (hst : 0 ≤ st ∧ st ≤ 9999) (hz : Rd w [] B (zs.flatMap spV)) (hzn : zs.length = nb) (hnb : nb ≤ 10) (hzo : ∀ z ∈ zs, okZ len z) (hne : st = 206 → zs ≠ []) (hlen : 0 ≤ len ∧ len ≤ 35184372088832) (hkd : kd.length ≤ 300)
    (h : ∀ A n c w', Kp [] w w' → Hid (Rd w' [] A ((partsG st len kd zs).flatMap ptV) ∧ (partsG st len kd zs).length = n ∧ n ≤ 21) → R (.returned (.slice A n c)) w') :
    Calls Tryz.prog 56 #[.int .i64 st, .slice B nb db, .agg #[.int .i64 v, .int .i64 mt, .int .i64 len, .string (S kd)]] w R := by
  have H := Lib.hid h
  have HZ := Lib.hid hz
  have HZN := Lib.hid hzn
  have HZO := Lib.hid hzo
  clear h hz hzn hzo
  by_cases h304 : st = 304
  · subst h304
    have E : Hid (∀ w', Kp [] w w' → R (.returned (.slice none 0 0)) w') := Lib.hid (fun w' k => H.out none 0 0 w' k (Lib.hid ⟨Rd.nil, rfl, by decide⟩))
    go_enter Tryz.func56, Tryz.ntmps56
    go_wp2
    exact E.out _ ((Kp.refl _ _).alloc _)
  · by_cases h200 : st = 200
    · subst h200
      have e304 : ((200 : Int) == 304) = false := by decide
      by_cases hl0 : len ≤ 0
      · have E : Hid (∀ w', Kp [] w w' → R (.returned (.slice none 0 0)) w') := Lib.hid (fun w' k => H.out none 0 0 w' k (Lib.hid (by
          have e : partsG 200 len kd zs = [] := by unfold partsG layG keepP; simp; omega
          rw [e]
          exact ⟨Rd.nil, rfl, by decide⟩)))
        have el : decide (len ≤ 0) = true := by simpa using hl0
        go_enter Tryz.func56, Tryz.ntmps56
        go_wp2
        exact E.out _ ((Kp.refl _ _).alloc _)
      · have e : partsG 200 len kd zs = [([], 0, len)] := by unfold partsG layG keepP; simp; omega
        rw [e] at H
        have el : decide (len ≤ 0) = false := by simpa using hl0
        go_enter Tryz.func56, Tryz.ntmps56
        go_wp2
        exact H.out (some ⟨_, 0, none⟩) 1 1 _ (((Kp.refl _ _).alloc _).alloc _) (Lib.hid ⟨Rd.of_bk (cs := ptV ([], 0, len)) (Bk.newAt (by simp) _ _) (by simp), rfl, by decide⟩)
    · by_cases h206 : st = 206
      · subst h206
        have hp := parts206 (kd := kd) HZO.out
        rw [hp] at H
        clear hp
        have hne2 := hne rfl
        have hnb1 : 1 ≤ nb := by rw [← HZN.out]; exact List.length_pos_iff.2 hne2
        rcases (by omega : nb = 1 ∨ 2 ≤ nb) with hone | hmany
        · obtain ⟨z, hzs⟩ : ∃ z, zs = [z] := by
            have := HZN.out
            match zs, this with
            | [z], _ => exact ⟨z, rfl⟩
            | [], h => simp at h; omega
            | _ :: _ :: _, h => simp at h; omega
          subst hzs
          subst hone
          obtain ⟨z1, z2⟩ := z
          obtain ⟨b, off, rfl, _, hbl, hc⟩ := HZ.out (by simp [spV])
          have y0 : w.cell? ⟨b, off, none⟩ = some (.int .i64 z1) := hc 0 _ rfl
          have y1 : w.cell? ⟨b, off + 1, none⟩ = some (.int .i64 z2) := hc 1 _ rfl
          have hl : layG 206 len kd [(z1, z2)] = [([], z1, z2)] := by unfold layG spP; simp
          rw [hl] at H
          clear hc hl HZ HZN HZO hne hne2
          have HS1 : Hid (∀ W', Kp [] w W' → W'.cell? ⟨b, off, none⟩ = some (.int .i64 z1) ∧ W'.cell? ⟨b, off + 1, none⟩ = some (.int .i64 z2)) := Lib.hid (fun W' k => ⟨by rw [k.cell (p := ⟨b, off, none⟩) hbl (by simp)]; exact y0, by rw [k.cell (p := ⟨b, off + 1, none⟩) hbl (by simp)]; exact y1⟩)
          go_enter Tryz.func56, Tryz.ntmps56
          go_upto_region 10 with (fail)
          refine gen_worldC (fun W => Hid (Kp [] w W)) (Lib.hid ((Kp.refl _ _).alloc _)) ?_
          intro W hW
          obtain ⟨x0, x1⟩ := HS1.out W hW.out
          clear y0 y1
          go_region
          all_goals
            go_wp2
            exact rcast (H.out (some ⟨W.heap.size, 0, none⟩) 1 1 _ (by repeat first | exact hW.out | refine Kp.drewN ?_ _ | refine Kp.drew ?_ | refine Kp.alloc ?_ _) (Lib.hid ⟨by first | exact Rd.of_bk (cs := ptV ([], z1, z2)) ((Bk.new' _ _ _).cast rfl) (by simp) | exact Rd.of_bk (cs := ptV ([], z1, z2)) (((Bk.new' _ _ _).drew).cast rfl) (by simp) | exact Rd.of_bk (cs := ptV ([], z1, z2)) (((Bk.newAt (by simp) _ _)).cast rfl) (by simp), rfl, by decide⟩)) rfl
        · have hm1 : ((nb : Int) == 1) = false := by simp; omega
          have hm2 : decide (1 < zs.length) = true := by have := HZN.out; simp; omega
          have HLY : Hid (layG 206 len kd zs = zs.flatMap (spP len kd true) ++ [(tailL, 0, 0)]) := Lib.hid (by unfold layG; rw [if_neg (by decide), if_pos rfl, hm2]; rw [if_pos (by have := HZN.out; omega)])
          clear hm2 hne hne2
          go_enter Tryz.func56, Tryz.ntmps56
          go_upto_region 11 with (fail)
          refine gen_worldC (fun W => ∃ g, w.heap.size = g ∧ Hid (Kp [] w W ∧ Bk W g 26 [.int .i64 v, .int .i64 mt, .int .i64 len, .string (S kd)])) ⟨_, rfl, Lib.hid ⟨(Kp.refl _ _).alloc _, (Bk.new' _ _ _).cast rfl⟩⟩ ?_
          rintro W0 ⟨g, hg, hW0⟩
          rw [hg]
          have HG : Hid (w.heap.size = g) := Lib.hid hg
          clear hg
          go_wp2
          go_loopw [7, 8] (fun lv iv wr => ∃ (k : Nat) (A : Option Addr) (n c : Nat), k ≤ nb ∧ iv = .int .i64 k ∧ lv = .slice A n c ∧ n ≤ 2 * k ∧ Hid (Kp [] W0 wr ∧ Ow wr 120 3 A n c (((zs.take k).flatMap (spP len kd true)).flatMap ptV) ∧ ((zs.take k).flatMap (spP len kd true)).length = n ∧ ∀ b ∈ bks A, W0.heap.size ≤ b)) (fun _ iv _ => nb - (intOf iv).toNat)
          case atStart => exact ⟨0, none, 0, 0, Nat.zero_le _, rfl, rfl, by omega, Lib.hid ⟨Kp.refl _ _, Ow.nil, rfl, by simp [bks]⟩⟩
          case round =>
            obtain ⟨k, A, n, c, hk, rfl, rfl, hnk, hr⟩ := hrel
            by_cases hlt : k < nb
            · obtain ⟨z, hz⟩ : ∃ z, zs[k]? = some z := ⟨_, List.getElem?_eq_getElem (by have := HZN.out; omega)⟩
              obtain ⟨b, off, rfl, _, hbl, hc⟩ := rd_at (HZ.out.kp (hW0.out.1.trans hr.out.1) (by simp)) spV_len (by omega) hz
              have HSN := Lib.hid (spP_snoc hz (spP len kd true))
              have hzk := HZO.out z (List.mem_of_getElem? hz)
              obtain ⟨z1, z2⟩ := z
              obtain ⟨za, zb, zc⟩ := hzk
              simp only at za zb zc
              have y0 : wr.cell? ⟨b, off + k * 2, none⟩ = some (.int .i64 z1) := hc 0 _ rfl
              have y1 : wr.cell? ⟨b, off + k * 2 + 1, none⟩ = some (.int .i64 z2) := hc 1 _ rfl
              obtain ⟨hd, hhd⟩ : ∃ hd, rgheadL (contL z1 z2 len) kd = hd := ⟨_, rfl⟩
              have HSP : Hid (spP len kd true (z1, z2) = [(hd, 0, 0), ([], z1, z2)]) := Lib.hid (by unfold spP; rw [if_pos rfl, hhd])
              have HHd : Hid (∀ (R : Ending → World → Prop) (w1 : World), Kp [] wr w1 → (∀ w', Kp [] wr w' → R (.returned (.string (S hd))) w') → Calls Tryz.prog 94 #[.agg #[.int .i64 z1, .int .i64 z2], .int .i64 len, .string (S kd)] w1 R) := Lib.hid (fun R w1 k1 h => rhead_any z1 z2 len kd w1 hkd ⟨by omega, by omega⟩ ⟨by omega, by omega⟩ hlen (fun w' k' => by rw [hhd]; exact h w' (k1.trans k')))
              have hbw : b < w.heap.size := by
                obtain ⟨b0, o0, e, _, hb0, _⟩ := HZ.out (by cases zs with | nil => simp at hz | cons a l => simp [spV])
                injection e with e
                injection e with e1 e2
                subst e1
                exact hb0
              have HNB : Hid (b ∉ bks A ∧ g ∉ bks A) := Lib.hid ⟨fun hm => by have := hr.out.2.2.2 _ hm; have := hW0.out.1.size; omega, fun hm => by have := hr.out.2.2.2 _ hm; have := hW0.out.2.lt; omega⟩
              have HS10 : Hid (∀ W', Kp (bks A) wr W' → W'.cell? ⟨g, 2, none⟩ = some (.int .i64 len) ∧ W'.cell? ⟨g, 3, none⟩ = some (.string (S kd)) ∧ W'.cell? ⟨b, off + k * 2, none⟩ = some (.int .i64 z1) ∧ W'.cell? ⟨b, off + k * 2 + 1, none⟩ = some (.int .i64 z2)) := Lib.hid (fun W' k' => by
                have b1 := (hW0.out.2.kp hr.out.1 (by simp)).kp k' HNB.out.2
                exact ⟨b1.cell 2, b1.cell 3, by rw [k'.cell (p := ⟨b, off + k * 2, none⟩) hbl HNB.out.1]; exact y0, by rw [k'.cell (p := ⟨b, off + k * 2 + 1, none⟩) hbl HNB.out.1]; exact y1⟩)
              have HO : Hid (Ow wr 120 3 A n c (((zs.take k).flatMap (spP len kd true)).flatMap ptV)) := Lib.hid hr.out.2.1
              clear hc hz hhd y0 y1
              obtain ⟨x2, x3, y0, y1⟩ := HS10.out wr (Kp.refl _ _)
              have HDr : Hid (Kp [] wr wr.drew) := Lib.hid (Kp.refl _ _).drew
              have HDm : Hid (Kp (bks A) wr wr.drew) := Lib.hid (Kp.refl _ _).drew
              go_upto_region 15 with (fail)
              go_region_held_law (fun W' => W'.cell? ⟨g, 2, none⟩ = some (.int .i64 len) ∧ W'.cell? ⟨g, 3, none⟩ = some (.string (S kd)) ∧ W'.cell? ⟨b, off + k * 2, none⟩ = some (.int .i64 z1) ∧ W'.cell? ⟨b, off + k * 2 + 1, none⟩ = some (.int .i64 z2)) (first | with_reducible exact HS10.out _ kk5 | with_reducible exact HS10.out _ (Kp.alloc kk3m _) | with_reducible exact HS10.out _ kk3m | with_reducible exact HS10.out _ HDm.out) (first | (go_simp; go_at_call 94; (with_reducible refine HHd.out _ _ HDr.out ?_); intro w3 kk3; have kk3m : Kp (bks A) wr w3 := kk3.mono (by simp)) | (refine step_app rfl (.tmp 50) (.tmp 72) _ rfl elt_part27 A n c _ (by simp [Act.eval, Act.put]) ((HO.out.kp kk3 (by simp)).alloc _) [] (some ⟨w3.heap.size, 0, none⟩) 2 2 (ptV (hd, 0, 0) ++ ptV ([], z1, z2)) (by simp [Act.eval, Act.put]) (Rd.of_bk (Bk.newAt rfl _ _) (by simp)) rfl (by intro u hu; rcases List.mem_append.1 hu with hu | hu <;> exact ptV_one _ u hu) (by omega) ?_; intro A3 c3 w5 ho5 hk5 hA5; have kk5 : Kp (bks A) wr w5 := (kk3m.alloc _).trans hk5))
              all_goals
                have HA3 : Hid (∀ b ∈ bks A3, W0.heap.size ≤ b) := Lib.hid (bks_app hA5 hr.out.2.2.2 (by have s1 := kk3.size; have s3 := hr.out.1.size; simp; omega))
                go_wp2
                refine ⟨⟨k + 1, A3, n + 2, c3, by omega, by go_num, rfl, by omega, Lib.hid ?_⟩, by simp [intOf]; omega⟩
                refine ⟨hr.out.1.thn kk5 (fun s hs => .inr (hr.out.2.2.2 s hs)), ?_, ?_, HA3.out⟩
                · rw [HSN.out, HSP.out]
                  exact ho5.cast rfl (by simp)
                · rw [HSN.out, List.length_append, hr.out.2.2.1, HSP.out]; rfl
            · obtain rfl : k = nb := by omega
              have e : zs.take k = zs := List.take_of_length_le (by have := HZN.out; omega)
              rw [e] at hr
              clear e
              go_wp2_with (at_builtin; refine wpList_app _ rfl (.tmp 74) (.tmp 76) _ rfl elt_part27 A n c _ rfl (hr.out.2.1.alloc _) [] (some ⟨wr.heap.size, 0, none⟩) 1 1 (ptV (tailL, 0, 0)) rfl (Rd.of_bk (Bk.newAt rfl _ _) (by simp)) rfl (ptV_one _) (by omega) ?_; intro A4 c4 w6 ho6 hk6 hA6)
              have k6 : Kp [] W0 w6 := (hr.out.1.alloc _).thn hk6 (fun s hs => .inr (hr.out.2.2.2 s hs))
              refine H.out A4 (n + 1) c4 _ (hW0.out.1.trans k6) (Lib.hid ⟨?_, ?_, by omega⟩)
              · rw [HLY.out, List.flatMap_append]
                exact (ho6.cast rfl (by simp)).rd (by simp)
              · rw [HLY.out, List.length_append, hr.out.2.2.1]; rfl
      · obtain ⟨k, rfl⟩ : ∃ k : Nat, st = k := ⟨st.toNat, by omega⟩
        have n1 : ((k : Int) == 200) = false := by simpa using h200
        have n2 : ((k : Int) != 206) = true := by simpa using h206
        have n3 : ((k : Int) == 304) = false := by simpa using h304
        have hpt := parts_txt (len := len) (kd := kd) (zs := zs) h200 h206 h304
        rw [hpt] at H
        obtain ⟨rs, hrs⟩ : ∃ rs, rsnL (k : Int) = rs := ⟨_, rfl⟩
        have hrl : rs.length ≤ 40 := by rw [← hrs]; exact rsn_len _
        have hdl := dec3 (n := k) (by omega)
        have HI : Hid (∀ (R : Ending → World → Prop) (w : World), (∀ w', Kp [] w w' → R (.returned (.string (S (decL k)))) w') → Calls Tryz.prog 14 #[.int .i64 k] w R) := Lib.hid (fun R w b => rdigits_sgn k w (by omega) (by omega) (by rw [itoaL_nat]; exact b))
        have HRs : Hid (∀ (R : Ending → World → Prop) (w : World), (∀ w', Kp [] w w' → R (.returned (.string (S rs))) w') → Calls Tryz.prog 93 #[.int .i64 k] w R) := Lib.hid (fun R w h => rreason_any k w (by rw [hrs]; exact h))
        have HBT : Hid (bodyT k = decL k ++ 32 :: (rs ++ [10])) := Lib.hid (by unfold bodyT; rw [hrs, Int.toNat_natCast])
        obtain ⟨ds, hds⟩ : ∃ ds, decL k = ds := ⟨_, rfl⟩
        rw [hds] at hdl HI HBT
        rw [HBT.out] at H
        clear hrs hds hpt
        go_enter Tryz.func56, Tryz.ntmps56
        go_wp2_with (first | (go_at_call 14; ((refine HI.out _ _ ?_); intro w1 k1)) | (go_at_call 93; ((refine HRs.out _ _ ?_); intro w2 k2)))
        exact rcast (H.out (some ⟨w2.heap.size, 0, none⟩) 1 1 _ (((((Kp.refl _ _).alloc _).trans k1).trans k2).alloc _) (Lib.hid ⟨Rd.of_bk (cs := ptV (ds ++ 32 :: (rs ++ [10]), 0, 0)) ((Bk.new' _ _ _).cast (by simp [ptV])) (by simp), rfl, by decide⟩)) rfl
end
end
/-! ### The document's civil dates: read, the day of a date, Seconds. -/
section
open Go.RowKit
set_option linter.unusedVariables false
set_option linter.unusedSimpArgs false
set_option maxRecDepth 100000
theorem day_eq {y m : Int} (hy : 1970 ≤ y) (m1 : 1 ≤ m) (m2 : m ≤ 12) :
    (m ≤ 2 → 365 * (y - 1) + (y - 1) / 4 - (y - 1) / 100 + (y - 1) / 400 + (153 * (m + 12 - 3) + 2) / 5 = befY y - befY 1970 + cumM y (m.toNat - 1) + 719468) ∧
    (2 < m → 365 * y + y / 4 - y / 100 + y / 400 + (153 * (m - 3) + 2) / 5 = befY y - befY 1970 + cumM y (m.toNat - 1) + 719468) := by
  have g4 : befY 1970 = 719527 := by decide
  have hl := leap_eq y
  obtain ⟨L, hL⟩ : ∃ L, oneI1 (leapB y) = L := ⟨_, rfl⟩
  rw [hL] at hl
  have hb : befY y = 365 * y + (y - 1) / 4 - (y - 1) / 100 + (y - 1) / 400 := rfl
  rw [g4, hb]
  have h2 : ∀ k : Int, lenM y k = if k = 2 then 28 + L else if k = 4 ∨ k = 6 ∨ k = 9 ∨ k = 11 then 30 else 31 := fun k => by unfold lenM; rw [hL]
  rcases (by omega : m = 1 ∨ m = 2 ∨ m = 3 ∨ m = 4 ∨ m = 5 ∨ m = 6 ∨ m = 7 ∨ m = 8 ∨ m = 9 ∨ m = 10 ∨ m = 11 ∨ m = 12) with rfl | rfl | rfl | rfl | rfl | rfl | rfl | rfl | rfl | rfl | rfl | rfl
  all_goals
    simp [cumM, h2]
    split at hl <;> omega
/-- Each date in its bounds is some second's. -/
theorem civ_ex {y m d h mi s : Int} (b : dBd y m d h mi s) : ∃ y' m' d' h' mi' s' wd' : Nat, CivN (secN y m d h mi s) y' m' d' h' mi' s' wd' ∧ (y' : Int) ≤ 9999 := by
  obtain ⟨b1, b2, b3, b4, b5, b6, b7, b8, b9, b10, b11, b12⟩ := b
  obtain ⟨Y, rfl⟩ : ∃ Y : Nat, y = Y := ⟨y.toNat, by omega⟩
  obtain ⟨M, rfl⟩ : ∃ M : Nat, m = M := ⟨m.toNat, by omega⟩
  obtain ⟨D, rfl⟩ : ∃ D : Nat, d = D := ⟨d.toNat, by omega⟩
  obtain ⟨HH, rfl⟩ : ∃ HH : Nat, h = HH := ⟨h.toNat, by omega⟩
  obtain ⟨MI, rfl⟩ : ∃ MI : Nat, mi = MI := ⟨mi.toNat, by omega⟩
  obtain ⟨SS, rfl⟩ : ∃ SS : Nat, s = SS := ⟨s.toNat, by omega⟩
  unfold secN
  rw [Int.toNat_natCast]
  obtain ⟨T, hT⟩ : ∃ T, befY (Y : Int) - befY 1970 + (D : Int) - 1 + cumM Y (M - 1) = T := ⟨_, rfl⟩
  rw [hT]
  have hw0 : ((T * 86400 + (3600 * (HH : Int) + 60 * MI + SS)) / 86400) = T := by omega
  have hwd : 0 ≤ (T + 4) % 7 := by omega
  by_cases hd : (D : Int) ≤ lenM Y M
  · refine ⟨Y, M, D, HH, MI, SS, ((T + 4) % 7).toNat, ⟨by omega, by omega, by omega, by omega, by omega, hd, by rw [hw0]; omega, by omega, by omega, by omega, by rw [hw0]; omega⟩, by omega⟩
  · have hl12 : M < 12 := by
      by_cases e : M = 12
      · subst e
        have : lenM (Y : Int) ((12 : Nat) : Int) = 31 := by unfold lenM; simp
        omega
      · omega
    have hl28 := (lenM_pos Y M).1
    have hl29 := (lenM_pos Y ((M : Int) + 1)).1
    have h28 : ∀ k : Int, 28 ≤ lenM Y k := fun k => by
      have := leap_01 (Y : Int)
      unfold lenM
      split
      · omega
      · split <;> omega
    have c1 : cumM (Y : Int) M = cumM Y (M - 1) + lenM Y M := by
      obtain ⟨k, rfl⟩ : ∃ k, M = k + 1 := ⟨M - 1, by omega⟩
      rfl
    have := h28 M
    have := h28 ((M + 1 : Nat) : Int)
    obtain ⟨E, hE⟩ : ∃ E : Nat, (E : Int) = D - lenM Y M := ⟨((D : Int) - lenM Y M).toNat, by omega⟩
    refine ⟨Y, M + 1, E, HH, MI, SS, ((T + 4) % 7).toNat, ⟨by omega, by omega, by omega, by omega, by omega, by omega, ?_, by omega, by omega, by omega, by rw [hw0]; omega⟩, by omega⟩
    rw [hw0, Nat.add_sub_cancel]
    omega
section
variable {R : Ending → World → Prop} {w : World}
set_option maxHeartbeats 2000000 in
theorem rread3_any (l : List UInt8) (hl : l.length ≤ 9) (h : R (.returned (.int .i64 (numF l))) w) : Calls Tryz.prog 182 #[.string (S l)] w R := by
  have H := Lib.hid h
  clear h
  go_enter Tryz.func182, Tryz.ntmps182
  go_wp2
  go_loop [3, 4] (fun v i => ∃ k : Nat, k ≤ l.length ∧ i = .int .i64 k ∧ v = .int .i64 (numN (l.take k) : Nat) ∧ Hid ((l.take k).all digB = true)) (fun _ i => l.length - (intOf i).toNat)
  case atStart => exact ⟨0, Nat.zero_le _, rfl, rfl, Lib.hid rfl⟩
  case round =>
    obtain ⟨k, hk, rfl, rfl, hd⟩ := hrel
    by_cases hlt : k < l.length
    · obtain ⟨c, hc⟩ : ∃ c, l[k]'hlt = c := ⟨_, rfl⟩
      have hcl := c.toNat_lt
      have hb := numN_bd _ hd.out
      have hp : 10 ^ (l.take k).length ≤ 10 ^ 9 := Nat.pow_le_pow_right (by decide) (by simp; omega)
      have hp9 : (10 : Nat) ^ 9 = 1000000000 := by decide
      have ht : l.take (k + 1) = l.take k ++ [c] := by rw [List.take_succ_eq_append_getElem hlt, hc]
      obtain ⟨N, hN⟩ : ∃ N, numN (l.take k) = N := ⟨_, rfl⟩
      have hNb : N < 1000000000 := by omega
      by_cases hdg : digB c = true
      · have hdg2 : 48 ≤ c.toNat ∧ c.toNat ≤ 57 := by simpa [digB] using hdg
        have hA : Hid ((l.take (k + 1)).all digB = true) := Lib.hid (by rw [ht, List.all_append, hd.out]; simp [hdg])
        have hS : Hid (numN (l.take (k + 1)) = 10 * N + (c.toNat - 48)) := Lib.hid (by rw [ht, numN_snoc, hN])
        rw [hN]
        have hq : decide ((c.toNat : Int) < 48) = false := by simp; omega
        have hq2 : decide ((57 : Int) < c.toNat) = false := by simp; omega
        clear hd hb hp ht hN hdg
        go_wp2
        exact ⟨⟨k + 1, by omega, by go_num, congrArg (Value.int .i64) (by rw [hS.out]; omega), hA⟩, by simp [intOf]; omega⟩
      · have hF : Hid (numF l = -1) := Lib.hid (by
          unfold numF
          rw [if_neg]
          intro h
          exact hdg (List.all_eq_true.1 h c (hc ▸ List.getElem_mem hlt)))
        rw [hF.out] at H
        have hdg2 : c.toNat < 48 ∨ 57 < c.toNat := by simp [digB] at hdg; omega
        clear hd hb hp ht hN hdg
        rcases hdg2 with h1 | h1
        · have hq : decide ((c.toNat : Int) < 48) = true := by simp; omega
          go_wp2
          exact H.out
        · have hq : decide ((c.toNat : Int) < 48) = false := by simp; omega
          have hq2 : decide ((57 : Int) < c.toNat) = true := by simp; omega
          go_wp2
          exact H.out
    · have hF : Hid (numF l = numN (l.take k)) := Lib.hid (by
        have h1 := hd.out
        rw [List.take_of_length_le (by omega)] at h1 ⊢
        unfold numF
        rw [if_pos h1])
      rw [hF.out] at H
      clear hd hF
      go_wp2
      exact H.out
end
end
end Go.Proofs.YtnmafahbdfilcaaGreatDoor
