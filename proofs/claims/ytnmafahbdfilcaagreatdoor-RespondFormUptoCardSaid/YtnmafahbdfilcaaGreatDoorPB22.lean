/- respond: plan of any answer. respond: Of any request; Wrong. respond in plain words: spans lie within the file; a head asked for alone. Package pantlerlaw24: a request as the other's. pantlerlaw27: far, Count, the chapter's example. respond in plain words: a head is short. -/
import Derived.Test.YtnmafahbdfilcaaGreatDoorPB20
import Derived.Test.YtnmafahbdfilcaaGreatDoorPB21
import Derived.Test.YtnmafahbdfilcaaGreatDoorPB19
import Derived.Test.YtnmafahbdfilcaaGreatDoorPB12
import Derived.BigRegion
import Derived.Test.YtnmafahbdfilcaaGreatDoorPB13
namespace Go.Proofs.YtnmafahbdfilcaaGreatDoor
/-! ### respond: plan of any answer. -/
section
open Go.RowKit Go.Shelf
set_option linter.unusedVariables false
set_option linter.unusedSimpArgs false
set_option maxRecDepth 100000
theorem put4 {w2 : World} {rb tt : Nat} {a0 a1 a2 a3 : Value} (br : Bk w2 rb tt [a0, a1, a2, a3]) (z L A d : Value) :
    ∃ W', ((((w2.setCell ⟨rb, 0, none⟩ z).setCell ⟨rb, 1, none⟩ L).setCell ⟨rb, 2, none⟩ A).setCell ⟨rb, 3, none⟩ d) = W' ∧ Kp [rb] w2 W' ∧ Bk W' rb tt [z, L, A, d] :=
  ⟨_, rfl, ((((Kp.refl _ _).setCell (.inl (by simp)) _).setCell (.inl (by simp)) _).setCell (.inl (by simp)) _).setCell (.inl (by simp)) _, ((((br.set_ 0 _).set_ 1 _).set_ 2 _).set_ 3 _).cast rfl⟩
theorem bk4r {w : World} {g tt : Nat} {a b c d : Value} (h : Bk w g tt [a, b, c, d]) : (w.cell? ⟨g, 0, none⟩ = some a ∧ w.cell? ⟨g, 1, none⟩ = some b ∧ w.cell? ⟨g, 2, none⟩ = some c ∧ w.cell? ⟨g, 3, none⟩ = some d) ∧ (w.frozen? ⟨g, 0, none⟩ = false ∧ w.frozen? ⟨g, 1, none⟩ = false ∧ w.frozen? ⟨g, 2, none⟩ = false ∧ w.frozen? ⟨g, 3, none⟩ = false) :=
  ⟨⟨h.cell 0, h.cell 1, h.cell 2, h.cell 3⟩, h.frozen 0, h.frozen 1, h.frozen 2, h.frozen 3⟩
/-- A row of parts is no plan's block. -/
theorem rd_notP {w : World} {N : List Nat} {A A' : Option Addr} {l : List Pt} {g tt n c : Nat} {a : Int} {s : ByteArray} {d : Bool} (r : Rd w N A (l.flatMap ptV)) (b : Bk w g tt [.int .i64 a, .string s, .slice A' n c, .bool d]) : Rd w (g :: N) A (l.flatMap ptV) := fun hx => by
  obtain ⟨b0, off, rfl, hN, hb, hc⟩ := r hx
  refine ⟨b0, off, rfl, ?_, hb, hc⟩
  intro hm
  rcases List.mem_cons.1 hm with rfl | hm
  · cases l with
    | nil => exact hx rfl
    | cons p l =>
      have c0 := hc 0 _ rfl
      have c1 := hc 1 _ rfl
      rw [b.cell] at c0 c1
      rcases off with _ | _ | _ | _ | off <;> simp at c0 c1
  · exact hN hm
section
variable {R : Ending → World → Prop} {w : World}
set_option maxHeartbeats 8000000 in
theorem plan_gen (st minor : Int) (cl : Bool) (v mt len : Int) (kd : List UInt8) (now : Int) (zs : List (Int × Int)) (only : Bool) {B : Option Addr} {nb db g : Nat} (w0 : World) (k0 : Kp [] w0 w) (hg : w0.heap.size ≤ g)
    (hb : Bk w g 75 (ansG st minor cl v mt len kd now B nb db none 0 0)) (hst : 0 ≤ st ∧ st ≤ 9999)
    (hz : Rd w [g] B (zs.flatMap spV)) (hzn : zs.length = nb) (hnb : nb ≤ 10) (hzo : ∀ z ∈ zs, 0 ≤ z.1 ∧ z.1 ≤ 35184372088832 ∧ 0 ≤ z.2 ∧ z.2 ≤ 35184372088832)
    (hv : 0 ≤ v ∧ v ≤ 9223372036854775807) (hmt : 0 ≤ mt ∧ mt ≤ 9223372036854775807) (hlen : 0 ≤ len ∧ len ≤ 35184372088832) (hkd : kd.length ≤ 300) (hw : Lw w0)
    (h : ∀ A n c w', Kp [] w0 w' → Hid (Rd w' [] A ((if only then [] else partsG st len kd zs).flatMap ptV) ∧ (if only then [] else partsG st len kd zs).length = n ∧ n ≤ 21) → R (.returned (.agg #[.int .i64 st, .string (S (headS ⟨st, minor, cl, v, mt, len, kd, now, zs, sumG (partsG st len kd zs)⟩)), .slice A n c, .bool cl])) w') :
    Calls Tryz.prog 31 #[.pointer (some ⟨g, 0, none⟩), .bool only] w R := by
  have H := Lib.hid h
  have HL : Hid (∀ (R : Ending → World → Prop) (w1 : World), Kp [] w w1 → (∀ A n c w', Kp [g] w1 w' → Bk w' g 75 (ansG st minor cl v mt len kd now B nb db A n c) → Hid (Rd w' [g] A ((partsG st len kd zs).flatMap ptV) ∧ (partsG st len kd zs).length = n ∧ n ≤ 21) → R (.returned (.tuple #[])) w') → Calls Tryz.prog 47 #[.pointer (some ⟨g, 0, none⟩)] w1 R) := Lib.hid (fun R w1 k1 h => lay_gen st minor cl v mt len kd now zs (hb.kp k1 (by simp)) hst (hz.kp k1 (by simp)) hzn hnb hzo hlen hkd (hw.kp (k0.trans k1)) h)
  have HH : Hid (∀ (R : Ending → World → Prop) (w1 : World) (A : Option Addr) (n c : Nat), Kp [] w0 w1 → Kp [g] w w1 → Bk w1 g 75 (ansG st minor cl v mt len kd now B nb db A n c) → Hid (Rd w1 [g] A ((partsG st len kd zs).flatMap ptV) ∧ (partsG st len kd zs).length = n ∧ n ≤ 21) → (∀ w', Kp [] w1 w' → R (.returned (.string (S (headS ⟨st, minor, cl, v, mt, len, kd, now, zs, sumG (partsG st len kd zs)⟩)))) w') → Calls Tryz.prog 48 #[.pointer (some ⟨g, 0, none⟩)] w1 R) := Lib.hid (fun R w1 A n c k kg b r h => head_gen st minor cl v mt len kd now zs (partsG st len kd zs) b ((hz.kp kg (by simp)).sub (by simp)) hzn hzo (r.out.1.sub (by simp)) r.out.2.1 (by have := r.out.2.2; omega) (parts_ok hst.1 hst.2 hlen.1 hlen.2 hkd hzo) hst hv hmt hlen hkd (hw.kp k) h)
  have hlt := hb.lt
  obtain ⟨ps, hps⟩ : ∃ ps, partsG st len kd zs = ps := ⟨_, rfl⟩
  obtain ⟨hd, hhd⟩ : ∃ hd, headS ⟨st, minor, cl, v, mt, len, kd, now, zs, sumG (partsG st len kd zs)⟩ = hd := ⟨_, rfl⟩
  rw [hhd] at H HH
  rw [hps] at H HH HL
  clear h hst hb hz hzn hzo hps hhd
  go_enter Tryz.func31, Tryz.ntmps31
  go_upto_region 1 with (fail)
  refine gen_worldC (fun W => ∃ pb, w.heap.size = pb ∧ Hid (Kp [] w W ∧ Bk W pb 31 [.int .i64 0, .string ⟨#[]⟩, .slice none 0 0, .bool false])) ⟨_, rfl, Lib.hid ⟨(Kp.refl _ _).alloc _, (Bk.new' _ _ _).cast rfl⟩⟩ ?_
  rintro W ⟨pb, hpb, hW⟩
  rw [hpb]
  go_upto_region 2 with (go_at_call 47; ((refine HL.out _ _ hW.out.1 ?_); intro A n c w1 kg1 b1 r1))
  have K1 : Hid (Kp [] w0 w1) := Lib.hid ((k0.trans hW.out.1).thn kg1 (fun s hs => .inr (by simp at hs; omega)))
  have KG : Hid (Kp [g] w w1) := Lib.hid ((hW.out.1.mono (by simp)).trans kg1)
  have BP : Hid (Bk w1 pb 31 [.int .i64 0, .string ⟨#[]⟩, .slice none 0 0, .bool false]) := Lib.hid (hW.out.2.kp kg1 (by simp; omega))
  have hpl := BP.out.lt
  have HP0 : Hid (w0.heap.size ≤ pb) := Lib.hid (by have := k0.size; omega)
  have B1 := Lib.hid b1
  have R1 := r1
  have HS : Hid (∀ w', Kp [] w1 w' → w'.cell? ⟨g, 0, none⟩ = some (.int .i64 st) ∧ w'.cell? ⟨g, 9, none⟩ = some (.slice A n c) ∧ w'.cell? ⟨g, 2, none⟩ = some (.bool cl)) := Lib.hid (fun w' k' => by have := bk10b (b1.kp k' (by simp)); exact ⟨this.1, this.2.2.2.2.2.2.2.2.2, this.2.2.1⟩)
  have HH2 : Hid (∀ (R : Ending → World → Prop) (w2 : World), Kp [] w1 w2 → (∀ w', Kp [] w2 w' → Kp [] w1 w' → R (.returned (.string (S hd))) w') → Calls Tryz.prog 48 #[.pointer (some ⟨g, 0, none⟩)] w2 R) := Lib.hid (fun R w2 k h => HH.out R w2 A n c (K1.out.trans k) (KG.out.trans (k.mono (by simp))) (B1.out.kp k (by simp)) (Lib.hid ⟨R1.out.1.kp k (by simp), R1.out.2⟩) (fun w' j => h w' j (k.trans j)))
  obtain ⟨p0, p9, p2⟩ := HS.out w1 (Kp.refl _ _)
  clear HL HH r1 b1 kg1 hpb hlt k0 hW
  go_cut [5] (fun x W' => ∃ nb2, x = .pointer (some ⟨nb2, 0, none⟩) ∧ Hid (w1.heap.size ≤ nb2 ∧ Kp [] w1 W' ∧ Bk W' nb2 31 [.int .i64 st, .string (S hd), .slice A n c, .bool cl]))
  case first =>
    go_region_held_law (fun w' => w'.cell? ⟨g, 0, none⟩ = some (.int .i64 st) ∧ w'.cell? ⟨g, 9, none⟩ = some (.slice A n c) ∧ w'.cell? ⟨g, 2, none⟩ = some (.bool cl)) ((refine HS.out _ ?_; repeat (first | with_reducible exact k2 | with_reducible exact Kp.refl [] w1 | with_reducible refine Kp.drew ?_ | refine Kp.setCell ?_ (.inr (by first | simp | (have := k2.size; simp; omega))) _ | with_reducible refine Kp.alloc ?_ _))) (first | (go_simp; go_at_call 48; (refine HH2.out _ _ (by repeat (first | with_reducible exact Kp.refl [] w1 | with_reducible refine Kp.drew ?_ | with_reducible refine Kp.alloc ?_ _)) ?_); intro w2 j2 k2; (try (have bz : Bk w2 w1.heap.size 31 [.int .i64 0, .string ⟨#[]⟩, .slice none 0 0, .bool false] := (Bk.new' w1.drew 31 #[.int .i64 0, .string ⟨#[]⟩, .slice none 0 0, .bool false]).kp j2 (by simp); obtain ⟨⟨z0, z1, z2, z3⟩, ⟨zz0, zz1, zz2, zz3⟩⟩ := bk4r bz))))
    all_goals
      go_wp2
      go_meet
      first
      | exact ⟨_, rfl, Lib.hid ⟨by have := k2.size; simp; omega, k2.alloc _, (Bk.new' _ _ _).cast rfl⟩⟩
      | (obtain ⟨W', hW', kW, bW⟩ := put4 bz (.int .i64 st) (.string (S hd)) (.slice A n c) (.bool cl)
         rw [hW']
         exact ⟨_, rfl, Lib.hid ⟨Nat.le_refl _, k2.thn kW (fun s hs => .inr (by simp at hs; omega)), bW⟩⟩)
  case rest =>
    obtain ⟨nb2, hx, hC⟩ := hcut
    rw [hx]
    clear hx
    have hnp : Hid (nb2 ≠ pb ∧ nb2 ≠ g) := Lib.hid (by have := hC.out.1; have := B1.out.lt; have := BP.out.lt; omega)
    have BP2 := Lib.hid (BP.out.kp hC.out.2.1 (by simp))
    obtain ⟨⟨y0, y1, y2, y3⟩, ⟨f0, f1, f2, f3⟩⟩ := bk4r BP2.out
    obtain ⟨⟨x0, x1, x2, x3⟩, ⟨e0, e1, e2, e3⟩⟩ := bk4r hC.out.2.2
    have hne1 : nb2 ≠ pb := hnp.out.1
    clear p0 p9 p2
    cases only with
    | false =>
      go_wp2
      obtain ⟨W', hW', kW, bW⟩ := put4 BP2.out (.int .i64 st) (.string (S hd)) (.slice A n c) (.bool cl)
      rw [hW']
      obtain ⟨⟨c0, c1, c2, c3⟩, _⟩ := bk4r bW
      have kF : Kp [] w0 W' := (K1.out.trans hC.out.2.1).thn kW (fun s hs => .inr (by have := HP0.out; simp at hs; omega))
      refine bodyPost_ret (v := .agg #[.int .i64 st, .string (S hd), .slice A n c, .bool cl]) (by simp [results, Tryz.results31, go_sem, c0, c1, c2, c3]; try rfl) rfl (H.out A n c _ kF (Lib.hid ⟨?_, R1.out.2⟩))
      exact ((rd_notP (R1.out.1.kp hC.out.2.1 (by simp)) BP2.out).kp kW (by simp)).sub (by simp)
    | true =>
      have hset := hC.out.2.2.set_ 2 (.slice none 0 0)
      go_wp2
      have kN : Kp [nb2] wc (wc.setCell ⟨nb2, 2, none⟩ (.slice none 0 0)) := (Kp.refl _ _).setCell (.inl (by simp)) _
      obtain ⟨W', hW', kW, bW⟩ := put4 (BP2.out.kp kN (by simp; omega)) (.int .i64 st) (.string (S hd)) (.slice none 0 0) (.bool cl)
      rw [hW']
      obtain ⟨⟨c0, c1, c2, c3⟩, _⟩ := bk4r bW
      have kF : Kp [] w0 W' := ((K1.out.trans hC.out.2.1).thn kN (fun s hs => .inr (by have := hC.out.1; have := K1.out.size; simp at hs; omega))).thn kW (fun s hs => .inr (by have := HP0.out; simp at hs; omega))
      exact bodyPost_ret (v := .agg #[.int .i64 st, .string (S hd), .slice none 0 0, .bool cl]) (by simp [results, Tryz.results31, go_sem, c0, c1, c2, c3]; try rfl) rfl (H.out none 0 0 _ kF (Lib.hid ⟨Rd.nil, rfl, by omega⟩))
end
end
/-! ### respond: Of any request; Wrong. -/
section
open Go.RowKit Go.Shelf
set_option linter.unusedVariables false
set_option linter.unusedSimpArgs false
set_option maxRecDepth 100000
/-- What Of tells: the head. -/
noncomputable def ofH (r : Req) (there : Bool) (v mt len : Int) (kd : List UInt8) (now : Int) : List UInt8 :=
  headS ⟨(chooseM r there v mt len).1, r.minor, r.close || (chooseM r there v mt len).1 == 400, v, mt, len, kd, now, (chooseM r there v mt len).2, sumG (partsG (chooseM r there v mt len).1 len kd (chooseM r there v mt len).2)⟩
/-- The parts. -/
noncomputable def ofP (r : Req) (there : Bool) (v mt len : Int) (kd : List UInt8) : List Pt :=
  if (r.m == [72, 69, 65, 68]) = true then [] else partsG (chooseM r there v mt len).1 len kd (chooseM r there v mt len).2
theorem bk5' {w : World} {g tt : Nat} {a b c d e : Value} (h : Bk w g tt [a, b, c, d, e]) : (w.cell? ⟨g, 0, none⟩ = some a ∧ w.cell? ⟨g, 1, none⟩ = some b ∧ w.cell? ⟨g, 2, none⟩ = some c ∧ w.cell? ⟨g, 3, none⟩ = some d ∧ w.cell? ⟨g, 4, none⟩ = some e) ∧ True :=
  ⟨⟨h.cell 0, h.cell 1, h.cell 2, h.cell 3, h.cell 4⟩, trivial⟩
section
variable {R : Ending → World → Prop} {w : World}
set_option maxHeartbeats 8000000 in
theorem rof_gen (r : Req) (there : Bool) (v mt len : Int) (kd : List UInt8) (now : Int) {A : Option Addr} {c : Nat} (hr : Rd w [] A (r.fs.flatMap fldC)) (hn : r.fs.length ≤ 2000) (hc : r.fs.length ≤ c)
    (hv : 0 ≤ v ∧ v ≤ 9223372036854775807) (hmt : 0 ≤ mt ∧ mt ≤ 9223372036854775807) (hlen : 0 ≤ len ∧ len ≤ 35184372088832) (hkd : kd.length ≤ 300) (hw : Lw w) (hsz : ∀ nm, (allF r.fs nm).length ≤ 2000000)
    (h : ∀ A' n c' w', Kp [] w w' → Hid (Rd w' [] A' ((ofP r there v mt len kd).flatMap ptV) ∧ (ofP r there v mt len kd).length = n ∧ n ≤ 21) → R (.returned (.agg #[.int .i64 (chooseM r there v mt len).1, .string (S (ofH r there v mt len kd now)), .slice A' n c', .bool (r.close || (chooseM r there v mt len).1 == 400)])) w') :
    Calls Tryz.prog 11 #[.agg #[.string (S r.m), .string (S r.t), .int .i64 r.minor, .slice A r.fs.length c, .bool r.close], .bool there, .agg #[.int .i64 v, .int .i64 mt, .int .i64 len, .string (S kd)], .int .i64 now] w R := by
  have H := Lib.hid h
  have HR := Lib.hid hr
  have HOK := Lib.hid (choose_ok r there v mt len)
  have hst := choose_st r there v mt len
  have HCh : Hid (∀ (R : Ending → World → Prop) (w1 : World) (g : Nat), Kp [] w w1 → w.heap.size ≤ g → Bk w1 g 75 (ansG 0 r.minor false v mt len kd now none 0 0 none 0 0) → (∀ B n d w', Kp [g] w1 w' → Bk w' g 75 (ansG 0 r.minor false v mt len kd now B n d none 0 0) → Hid (n = (chooseM r there v mt len).2.length ∧ Rd w' [g] B ((chooseM r there v mt len).2.flatMap spV)) → R (.returned (.int .i64 (chooseM r there v mt len).1)) w') → Calls Tryz.prog 30 #[.pointer (some ⟨g, 0, none⟩), .agg #[.string (S r.m), .string (S r.t), .int .i64 r.minor, .slice A r.fs.length c, .bool r.close], .bool there] w1 R) := Lib.hid (fun R w1 g k hg hb h => choose_any r there r.minor false v mt len kd now hb (by
    intro hx
    obtain ⟨b0, off, hA, _, hlt, hcc⟩ := HR.out hx
    refine ⟨b0, off, hA, by simp; omega, Nat.lt_of_lt_of_le hlt k.size, fun j u hu => ?_⟩
    rw [k.cell (p := ⟨b0, off + j, none⟩) hlt (by simp)]
    exact hcc j u hu) hn hc hv hmt hlen (hw.kp k) hsz h)
  have HPl : Hid (∀ (R : Ending → World → Prop) (V w1 : World) (g : Nat) (B : Option Addr) (n d : Nat), Kp [] w V → Kp [] V w1 → V.heap.size ≤ g → Bk w1 g 75 (ansG (chooseM r there v mt len).1 r.minor (r.close || (chooseM r there v mt len).1 == 400) v mt len kd now B n d none 0 0) → n = (chooseM r there v mt len).2.length → Rd w1 [g] B ((chooseM r there v mt len).2.flatMap spV) → (∀ A' n c' w', Kp [] V w' → Hid (Rd w' [] A' ((ofP r there v mt len kd).flatMap ptV) ∧ (ofP r there v mt len kd).length = n ∧ n ≤ 21) → R (.returned (.agg #[.int .i64 (chooseM r there v mt len).1, .string (S (ofH r there v mt len kd now)), .slice A' n c', .bool (r.close || (chooseM r there v mt len).1 == 400)])) w') → Calls Tryz.prog 31 #[.pointer (some ⟨g, 0, none⟩), .bool (r.m == [72, 69, 65, 68])] w1 R) := Lib.hid (fun R V w1 g B n d kV k hg hb hzn hz h => plan_gen _ _ _ v mt len kd now _ _ V k hg hb hst hz hzn.symm (by have := HOK.out.2.2.1; omega) (fun z hzm => okZ_sp hlen.2 (HOK.out.2.1 z hzm)) hv hmt hlen hkd (hw.kp kV) (fun A' n c' w' k' hh => h A' n c' w' k' hh))
  obtain ⟨st, hste⟩ : ∃ st, (chooseM r there v mt len).1 = st := ⟨_, rfl⟩
  obtain ⟨hd, hhd⟩ : ∃ hd, ofH r there v mt len kd now = hd := ⟨_, rfl⟩
  obtain ⟨ps, hps⟩ : ∃ ps, ofP r there v mt len kd = ps := ⟨_, rfl⟩
  obtain ⟨zs, hzs⟩ : ∃ zs, (chooseM r there v mt len).2 = zs := ⟨_, rfl⟩
  rw [hste] at H HCh HPl
  rw [hhd, hps] at H HPl
  rw [hzs] at HCh HPl
  obtain ⟨only, hon⟩ : ∃ only, (r.m == [72, 69, 65, 68]) = only := ⟨_, rfl⟩
  rw [hon] at HPl
  obtain ⟨rc, hrc⟩ : ∃ rc, r.close = rc := ⟨_, rfl⟩
  rw [hrc] at H HCh HPl ⊢
  obtain ⟨cl, hcl⟩ : ∃ cl, (rc || st == 400) = cl := ⟨_, rfl⟩
  rw [hcl] at H HPl
  clear h hr hste hhd hps hzs hsz HOK hst
  go_enter Tryz.func11, Tryz.ntmps11
  go_upto_region 2 with (fail)
  refine gen_worldC (fun W => ∃ (V : World) (g1 g2 g3 g4 : Nat), w.heap.size = g1 ∧ g1 + 1 = g2 ∧ g2 + 1 = g3 ∧ g3 + 1 = g4 ∧ Hid (Kp [] w V ∧ V.heap.size = g4 ∧ Bk V g3 31 [.int .i64 0, .string ⟨#[]⟩, .slice none 0 0, .bool false] ∧ Kp [] V W) ∧ Hid (Kp [] w W ∧ Bk W g1 35 [.string (S r.m), .string (S r.t), .int .i64 r.minor, .slice A r.fs.length c, .bool rc] ∧ Bk W g3 31 [.int .i64 0, .string ⟨#[]⟩, .slice none 0 0, .bool false] ∧ Bk W g4 75 (ansG 0 r.minor false v mt len kd now none 0 0 none 0 0))) ⟨((w.alloc _).alloc _).alloc _, _, _, _, _, rfl, rfl, rfl, rfl, Lib.hid ⟨(((Kp.refl _ _).alloc _).alloc _).alloc _, by simp, (Bk.newAt (by simp) _ _).cast rfl, (Kp.refl _ _).alloc _⟩, Lib.hid ⟨((((Kp.refl _ _).alloc _).alloc _).alloc _).alloc _, ((((Bk.new' _ _ _).alloc _).alloc _).alloc _).cast rfl, ((Bk.newAt (by simp) _ _).alloc _).cast rfl, (Bk.newAt (by simp) _ _).cast rfl⟩⟩ ?_
  rintro W ⟨V, g1, g2, g3, g4, hg1, hg2, hg3, hg4, hV, hW⟩
  rw [hg1, hg2, hg3, hg4]
  have HG : Hid (w.heap.size ≤ g1 ∧ g1 < g3 ∧ g3 < g4) := Lib.hid (by omega)
  clear hg1 hg2 hg3 hg4
  obtain ⟨⟨p0, p1, p2, p3, p4⟩, _⟩ := bk5' hW.out.2.1
  go_upto_region 3 with (go_at_call 30; ((refine HCh.out _ _ _ hW.out.1 (by have := HG.out; omega) hW.out.2.2.2 ?_); intro B n d w1 kg b1 hz; have a0 := b1.cell 0; have f0 := b1.frozen 0))
  clear p0 p1 p2 p3 p4
  have hne := HG.out
  refine gen_worldC (fun W2 => Hid (Kp [] V W2 ∧ Bk W2 g1 35 [.string (S r.m), .string (S r.t), .int .i64 r.minor, .slice A r.fs.length c, .bool rc] ∧ Bk W2 g3 31 [.int .i64 0, .string ⟨#[]⟩, .slice none 0 0, .bool false] ∧ Bk W2 g4 75 (ansG st r.minor false v mt len kd now B n d none 0 0) ∧ Rd W2 [g4] B (zs.flatMap spV))) (Lib.hid ?_) ?_
  · have ks : Kp [g4] w1 (w1.setCell ⟨g4, 0, none⟩ (.int .i64 st)) := (Kp.refl _ _).setCell (.inl (by simp)) _
    have hvs := hV.out.2.1
    exact ⟨(hV.out.2.2.2.thn kg (fun s hs => .inr (by simp at hs; omega))).thn ks (fun s hs => .inr (by simp at hs; omega)), (hW.out.2.1.kp kg (by simp; omega)).kp ks (by simp; omega), (hW.out.2.2.1.kp kg (by simp; omega)).kp ks (by simp; omega), (b1.set_ 0 _).cast rfl, hz.out.2.kp ks (by simp)⟩
  have hzn := Lib.hid hz.out.1
  clear a0 f0 kg b1 hz hW hne
  intro W2 hW2
  obtain ⟨⟨p0, p1, p2, p3, p4⟩, _⟩ := bk5' hW2.out.2.1
  have a0 : W2.cell? ⟨g4, 0, none⟩ = some (.int .i64 st) := hW2.out.2.2.2.1.cell 0
  have a2 : W2.cell? ⟨g4, 2, none⟩ = some (.bool false) := hW2.out.2.2.2.1.cell 2
  have f2 := hW2.out.2.2.2.1.frozen 2
  have HW3 : Hid (∀ W', W' = W2.setCell ⟨g4, 2, none⟩ (.bool cl) → Hid (Kp [] V W' ∧ Bk W' g1 35 [.string (S r.m), .string (S r.t), .int .i64 r.minor, .slice A r.fs.length c, .bool rc] ∧ Bk W' g3 31 [.int .i64 0, .string ⟨#[]⟩, .slice none 0 0, .bool false] ∧ Bk W' g4 75 (ansG st r.minor cl v mt len kd now B n d none 0 0) ∧ Rd W' [g4] B (zs.flatMap spV))) := Lib.hid (fun W' e => by
    have hne := HG.out
    have hvs := hV.out.2.1
    subst e
    have ks : Kp [g4] W2 (W2.setCell ⟨g4, 2, none⟩ (.bool cl)) := (Kp.refl _ _).setCell (.inl (by simp)) _
    exact Lib.hid ⟨hW2.out.1.thn ks (fun s hs => .inr (by simp at hs; omega)), hW2.out.2.1.kp ks (by simp; omega), hW2.out.2.2.1.kp ks (by simp; omega), (hW2.out.2.2.2.1.set_ 2 _).cast rfl, hW2.out.2.2.2.2.kp ks (by simp)⟩)
  go_cut [] (fun W' => Hid (Kp [] V W' ∧ Bk W' g1 35 [.string (S r.m), .string (S r.t), .int .i64 r.minor, .slice A r.fs.length c, .bool rc] ∧ Bk W' g3 31 [.int .i64 0, .string ⟨#[]⟩, .slice none 0 0, .bool false] ∧ Bk W' g4 75 (ansG st r.minor cl v mt len kd now B n d none 0 0) ∧ Rd W' [g4] B (zs.flatMap spV)))
  case first =>
    cases rc with
    | true =>
      have hcl2 : cl = true := by rw [← hcl]; rfl
      subst hcl2
      go_wp2
      go_meet
      exact HW3.out _ rfl
    | false =>
      have hcl2 : (st == 400) = cl := by rw [← hcl]; rfl
      clear hcl
      go_wp2
      go_meet
      exact HW3.out _ rfl
  case rest =>
    have hW3 := hcut
    clear hcut p0 p1 p2 p3 p4 a0 a2 f2 HW3
    clear hW2
    obtain ⟨⟨p0, p1, p2, p3, p4⟩, _⟩ := bk5' hW3.out.2.1
    go_wp2_with (go_at_call 31; ((refine HPl.out _ V _ g4 B n d hV.out.1 hW3.out.1 (by rw [hV.out.2.1]; exact Nat.le_refl _) hW3.out.2.2.2.1 hzn.out hW3.out.2.2.2.2 ?_); intro A5 n5 c5 w5 k5 h5; have br := hV.out.2.2.1.kp k5 (by simp); obtain ⟨⟨s0, s1, s2, s3⟩, ⟨t0, t1, t2, t3⟩⟩ := bk4r br))
    obtain ⟨W', hW', kW, bW⟩ := put4 br (.int .i64 st) (.string (S hd)) (.slice A5 n5 c5) (.bool cl)
    rw [hW']
    obtain ⟨⟨c0, c1, c2, c3⟩, _⟩ := bk4r bW
    have kF : Kp [] w W' := (hV.out.1.trans k5).thn kW (fun s hs => .inr (by have := HG.out; simp at hs; omega))
    exact bodyPost_ret (v := .agg #[.int .i64 st, .string (S hd), .slice A5 n5 c5, .bool cl]) (by simp [results, Tryz.results11, go_sem, c0, c1, c2, c3]; try rfl) rfl (H.out A5 n5 c5 _ kF (Lib.hid ⟨((rd_notP h5.out.1 br).kp kW (by simp)).sub (by simp), h5.out.2⟩))
end
/-- The answer to what is none. -/
def wrS (s : Int) : Int := if s = 414 ∨ s = 431 ∨ s = 501 ∨ s = 505 then s else 400
noncomputable def wrH (s now : Int) : List UInt8 := headS ⟨wrS s, 1, true, 0, 0, 0, [], now, [], sumG (partsG (wrS s) 0 [] [])⟩
theorem wrS_bd (s : Int) : 400 ≤ wrS s ∧ wrS s ≤ 505 := by unfold wrS; split <;> omega
section
variable {R : Ending → World → Prop} {w : World}
set_option maxHeartbeats 4000000 in
theorem rwrong_gen (s now : Int) (hw : Lw w)
    (h : ∀ A n c w', Kp [] w w' → Hid (Rd w' [] A ((partsG (wrS s) 0 [] []).flatMap ptV) ∧ (partsG (wrS s) 0 [] []).length = n ∧ n ≤ 21) → R (.returned (.agg #[.int .i64 (wrS s), .string (S (wrH s now)), .slice A n c, .bool true])) w') :
    Calls Tryz.prog 15 #[.int .i64 s, .int .i64 now] w R := by
  have H := Lib.hid h
  have hbd := wrS_bd s
  have HP : Hid (∀ (R : Ending → World → Prop) (V w1 : World) (g : Nat), Kp [] w V → Kp [] V w1 → V.heap.size ≤ g → Bk w1 g 75 (ansG (wrS s) 1 true 0 0 0 [] now none 0 0 none 0 0) → (∀ A n c w', Kp [] V w' → Hid (Rd w' [] A ((partsG (wrS s) 0 [] []).flatMap ptV) ∧ (partsG (wrS s) 0 [] []).length = n ∧ n ≤ 21) → R (.returned (.agg #[.int .i64 (wrS s), .string (S (wrH s now)), .slice A n c, .bool true])) w') → Calls Tryz.prog 31 #[.pointer (some ⟨g, 0, none⟩), .bool false] w1 R) := Lib.hid (fun R V w1 g kV k hg hb h => plan_gen (wrS s) 1 true 0 0 0 [] now [] false V k hg hb (by omega) Rd.nil rfl (by omega) (by simp) (by omega) (by omega) (by omega) (by simp) (hw.kp kV) (fun A n c w' k' hh => h A n c w' k' hh))
  have hs : (wrS s = s ∧ (s = 414 ∨ s = 431 ∨ s = 501 ∨ s = 505)) ∨ (wrS s = 400 ∧ ¬ s = 414 ∧ ¬ s = 431 ∧ ¬ s = 501 ∧ ¬ s = 505) := by unfold wrS; split <;> omega
  obtain ⟨hd, hhd⟩ : ∃ hd, wrH s now = hd := ⟨_, rfl⟩
  rw [hhd] at H HP
  clear h hhd
  generalize partsG (wrS s) 0 [] [] = ps at H HP
  generalize wrS s = z at H HP hs hbd
  clear hbd
  rcases hs with ⟨rfl, rfl | rfl | rfl | rfl⟩ | ⟨rfl, h1, h2, h3, h4⟩
  all_goals
    go_enter Tryz.func15, Tryz.ntmps15
    go_wp2_with (go_at_call 31; ((refine HP.out _ (w.alloc (.cells #[.int .i64 0, .string ⟨#[]⟩, .slice none 0 0, .bool false] 31)) _ _ ((Kp.refl _ _).alloc _) ((Kp.refl _ _).alloc _) (by simp) ((Bk.newAt (by simp) _ _).cast rfl) ?_); intro A5 n5 c5 w5 k5 h5; have br : Bk w5 w.heap.size 31 [.int .i64 0, .string ⟨#[]⟩, .slice none 0 0, .bool false] := ((Bk.new' w _ _).kp k5 (by simp)).cast rfl; obtain ⟨⟨s0, s1, s2, s3⟩, ⟨t0, t1, t2, t3⟩⟩ := bk4r br))
    obtain ⟨W', hW', kW, bW⟩ := put4 br (.int .i64 _) (.string (S hd)) (.slice A5 n5 c5) (.bool true)
    rw [hW']
    obtain ⟨⟨c0, c1, c2, c3⟩, _⟩ := bk4r bW
    exact bodyPost_ret (v := .agg #[.int .i64 _, .string (S hd), .slice A5 n5 c5, .bool true]) (by simp [results, Tryz.results15, go_sem, c0, c1, c2, c3]; try rfl) rfl (H.out A5 n5 c5 _ ((((Kp.refl [] w).alloc _).trans k5).thn kW (fun s hs => .inr (by simp at hs; omega))) (Lib.hid ⟨((rd_notP h5.out.1 br).kp kW (by simp)).sub (by simp), h5.out.2⟩))
end
end
/-! ### respond in plain words: spans lie within the file; a head asked for alone. -/
section
open Go.RowKit
set_option linter.unusedVariables false
set_option linter.unusedSimpArgs false
set_option maxRecDepth 100000
def inP (len : Int) (p : Pt) : Prop := 0 ≤ p.2.2 ∧ 0 ≤ p.2.1 ∧ (0 < p.2.2 → p.2.1 + p.2.2 ≤ len ∧ p.1 = [])
theorem lay_in {st len : Int} {kd : List UInt8} {zs : List (Int × Int)} (hl : 0 ≤ len) (hz : ∀ z ∈ zs, okZ len z) : ∀ p ∈ layG st len kd zs, inP len p := by
  intro p hp
  unfold layG at hp
  split at hp
  · simp at hp; subst hp; exact ⟨hl, by simp, fun _ => ⟨by simp, rfl⟩⟩
  · split at hp
    · rcases List.mem_append.1 hp with hp | hp
      · obtain ⟨z, hzm, hp⟩ := List.mem_flatMap.1 hp
        have hzz := hz z hzm
        unfold okZ at hzz
        have h2 : inP len ([], z.1, z.2) := ⟨by simp only; omega, by simp only; omega, fun _ => ⟨by simp only; omega, rfl⟩⟩
        unfold spP at hp
        split at hp
        · simp at hp
          rcases hp with rfl | rfl
          · exact ⟨by simp, by simp, fun h => absurd h (by simp)⟩
          · exact h2
        · simp at hp; subst hp; exact h2
      · split at hp
        · simp at hp; subst hp; exact ⟨by simp, by simp, fun h => absurd h (by simp)⟩
        · cases hp
    · split at hp
      · cases hp
      · simp at hp; subst hp; exact ⟨by simp, by simp, fun h => absurd h (by simp)⟩
theorem parts_in {st len : Int} {kd : List UInt8} {zs : List (Int × Int)} (hl : 0 ≤ len) (hz : ∀ z ∈ zs, okZ len z) : ∀ p ∈ partsG st len kd zs, inP len p := fun p hp => lay_in hl hz p (List.mem_filter.1 hp).1
theorem sum304 (len : Int) (kd : List UInt8) (zs : List (Int × Int)) : sumG (partsG 304 len kd zs) = 0 := rfl
def getM : List UInt8 := [71, 69, 84]
def headM : List UInt8 := [72, 69, 65, 68]
theorem choose_head {r : Req} (hm : r.m = getM) (hv : valsF r.fs rgL = []) (there : Bool) (v mt len : Int) : chooseM { r with m := headM } there v mt len = chooseM r there v mt len := by
  have h1 : readsM r.m = true := by rw [hm]; rfl
  have h2 : readsM headM = true := rfl
  have h3 : checkM { r with m := headM } v mt = checkM r v mt := by
    unfold checkM
    simp only
    rw [h1, h2]
  have hg : (getF r.fs rgL).2 = false := by unfold getF; rw [hv]
  have h4 : rangedM { r with m := headM } v mt = false := by unfold rangedM; simp [hg]
  have h5 : rangedM r v mt = false := by unfold rangedM; simp [hg]
  unfold chooseM
  simp only
  rw [h1, h2, h3, h4, h5]
theorem head_head {r : Req} (hm : r.m = getM) (hv : valsF r.fs rgL = []) (there : Bool) (v mt len : Int) (kd : List UInt8) (now : Int) : ofH { r with m := headM } there v mt len kd now = ofH r there v mt len kd now := by
  unfold ofH
  rw [choose_head hm hv]
theorem parts_head {r : Req} (hm : r.m = getM) (there : Bool) (v mt len : Int) (kd : List UInt8) : ofP { r with m := headM } there v mt len kd = [] ∧ ofP r there v mt len kd = partsG (chooseM r there v mt len).1 len kd (chooseM r there v mt len).2 := by
  unfold ofP
  simp only
  constructor
  · rw [if_pos (by rfl)]
  · rw [if_neg (by rw [hm]; decide)]
end
/-! ### Package pantlerlaw24: a request as the other's. -/
section
open Go.RowKit Go.Shelf
set_option linter.unusedVariables false
set_option linter.unusedSimpArgs false
set_option maxRecDepth 100000

/-- What is made: the result's struct, and the one that grows. -/
structure OfT (T FT : Nat) (w W : World) (g2 g4 : Nat) (r : Req) (A : Option Addr) (c : Nat) : Prop where
  kp : Kp [] w W
  hg : w.heap.size ≤ g2
  n4 : g2 < g4
  b2 : Bk W g2 T zeroC
  b4 : Bk W g4 T (reqC r A c)
  own : Ow W FT 2 A r.fs.length c (r.fs.flatMap fldC)
  fresh : ∀ b ∈ bks A, g4 < b
section
variable {T FT : Nat} {w W w3 : World} {g2 g4 : Nat} {r : Req} {A A3 : Option Addr} {c c3 : Nat}
theorem OfT.app (h : OfT T FT w W g2 g4 r A c) (o : Obj) (x : Fd) (ho : Ow w3 FT 2 A3 (r.fs.length + 1) c3 (r.fs.flatMap fldC ++ fldC x)) (hk : Kp (bks A) (W.alloc o) w3) (hA : A3 = A ∨ A3 = some ⟨(W.alloc o).heap.size, 0, none⟩) :
    (w3.cell? ⟨g4, 3, none⟩ = some (.slice A r.fs.length c) ∧ w3.frozen? ⟨g4, 3, none⟩ = false) ∧ OfT T FT w (w3.setCell ⟨g4, 3, none⟩ (.slice A3 (r.fs.length + 1) c3)) g2 g4 { r with fs := r.fs ++ [x] } A3 c3 := by
  have g0 := h.hg; have g1 := h.n4
  have n4 : g4 ∉ bks A := fun hm => by have := h.fresh _ hm; omega
  have n2 : g2 ∉ bks A := fun hm => by have := h.fresh _ hm; omega
  have b4 := (h.b4.alloc o).kp hk n4
  have b2 := (h.b2.alloc o).kp hk n2
  have h4 := h.b4.lt
  have hf : ∀ b ∈ bks A3, g4 < b := by
    rcases hA with rfl | rfl
    · exact h.fresh
    · intro b hb; simp [bks] at hb; omega
  have k : Kp [g4] w3 (w3.setCell ⟨g4, 3, none⟩ (.slice A3 (r.fs.length + 1) c3)) := (Kp.refl _ _).setCell (.inl (by simp)) _
  refine ⟨⟨b4.cell 3, b4.frozen 3⟩, ((h.kp.alloc o).thn hk (fun s hs => .inr (by have := h.fresh s hs; omega))).setCell (.inr (by simp; omega)) _, h.hg, h.n4, b2.kp k (by simp; omega), ((b4.set_ 3 _).cast ?_), (ho.kp k (fun b hb => by have := hf b hb; simp; omega)).cast (by simp) (by simp), hf⟩
  simp [reqC]
theorem OfT.fin (h : OfT T FT w W g2 g4 r A c) :
    ∃ W', ((((W.setCell ⟨g2, 0, none⟩ (.string (S r.m))).setCell ⟨g2, 1, none⟩ (.string (S r.t))).setCell ⟨g2, 2, none⟩ (.int .i64 r.minor)).setCell ⟨g2, 3, none⟩ (.slice A r.fs.length c)).setCell ⟨g2, 4, none⟩ (.bool r.close) = W' ∧ Kp [] w W' ∧ Rd W' [] A (r.fs.flatMap fldC) ∧ (∀ x ∈ bks A, w.heap.size ≤ x) ∧ r.fs.length ≤ c ∧
      (W'.cell? ⟨g2, 0, none⟩ = some (.string (S r.m)) ∧ W'.cell? ⟨g2, 1, none⟩ = some (.string (S r.t)) ∧ W'.cell? ⟨g2, 2, none⟩ = some (.int .i64 r.minor) ∧ W'.cell? ⟨g2, 3, none⟩ = some (.slice A r.fs.length c) ∧ W'.cell? ⟨g2, 4, none⟩ = some (.bool r.close)) := by
  have h0 := h.hg; have h2 := h.n4
  have kk : Kp [g2] W (((((W.setCell ⟨g2, 0, none⟩ (.string (S r.m))).setCell ⟨g2, 1, none⟩ (.string (S r.t))).setCell ⟨g2, 2, none⟩ (.int .i64 r.minor)).setCell ⟨g2, 3, none⟩ (.slice A r.fs.length c)).setCell ⟨g2, 4, none⟩ (.bool r.close)) :=
    (((((Kp.refl _ _).setCell (.inl (by simp)) _).setCell (.inl (by simp)) _).setCell (.inl (by simp)) _).setCell (.inl (by simp)) _).setCell (.inl (by simp)) _
  have hb := (((((h.b2.set_ 0 (.string (S r.m))).set_ 1 (.string (S r.t))).set_ 2 (.int .i64 r.minor)).set_ 3 (.slice A r.fs.length c)).set_ 4 (.bool r.close)).cast (cs' := reqC r A c) rfl
  have ho := h.own.kp kk (fun b hb => by have := h.fresh b hb; simp; omega)
  exact ⟨_, rfl, h.kp.thn kk (fun s hs => .inr (by simp at hs; omega)), ho.rd (by simp), fun x hx => by have := h.fresh x hx; omega, h.own.ncap, hb.cell 0, hb.cell 1, hb.cell 2, hb.cell 3, hb.cell 4⟩
theorem OfT.drew (h : OfT T FT w W g2 g4 r A c) : OfT T FT w W.drew g2 g4 r A c := ⟨h.kp.drew, h.hg, h.n4, h.b2, h.b4, h.own, h.fresh⟩
end
theorem elt_rfd : Elt Tryz.prog 22 80 (.agg #[.string ByteArray.empty, .string ByteArray.empty]) 2 32 := ⟨Tryz.underlying22, by kernel_rfl, rfl, by decide, by decide⟩
theorem rfd_rd {w : World} {g : Nat} (hg : g = w.heap.size) {a b : List UInt8} : Rd (w.alloc (.cells #[.string (S a), .string (S b)] 80)) [] (some ⟨g, 0, none⟩) (fldC (a, b)) := Rd.of_bk (Bk.newAt hg _ _) (by simp)
theorem fs_take {r : Req} {k : Nat} {x : Fd} (hx : r.fs[k]? = some x) : r.fs.take (k + 1) = r.fs.take k ++ [x] := by
  have hk : k < r.fs.length := (List.getElem?_eq_some_iff.1 hx).1
  rw [List.take_succ_eq_append_getElem hk, (List.getElem?_eq_some_iff.1 hx).2]
set_option maxHeartbeats 4000000 in
theorem of24_any {R : Ending → World → Prop} (r : Req) {A : Option Addr} {c : Nat} (w : World) (hr : Rd w [] A (r.fs.flatMap fldC)) (hn : r.fs.length ≤ 100000)
    (h : ∀ A' c' w', Kp [] w w' → Rd w' [] A' (r.fs.flatMap fldC) → (∀ b ∈ bks A', w.heap.size ≤ b) → r.fs.length ≤ c' → R (.returned (.agg #[.string (S r.m), .string (S r.t), .int .i64 r.minor, .slice A' r.fs.length c', .bool r.close])) w') :
    Calls Tryz.prog 12 #[.agg #[.string (S r.m), .string (S r.t), .int .i64 r.minor, .slice A r.fs.length c, .bool r.close]] w R := by
  have H := Lib.hid h
  have HR := Lib.hid hr
  clear h hr
  go_enter Tryz.func12, Tryz.ntmps12
  go_upto_region 2 with (fail)
  refine gen_world (fun W => OfT 35 79 w W (w.heap.size + 1) (w.heap.size + 2) { r with fs := [] } none 0 ∧ Bk W w.heap.size 24 (reqC r A c)) ?_ ?_
  · exact ⟨⟨(((Kp.refl _ _).alloc _).alloc _).alloc _, by omega, by omega, ((Bk.newAt (by simp) _ _).alloc _).cast rfl, (Bk.newAt (by simp) _ _).cast rfl, Ow.nil, by simp [bks]⟩, (((Bk.new' _ _ _).alloc _).alloc _).cast rfl⟩
  rintro W ⟨hs, h1⟩
  obtain ⟨g1, hg1⟩ : ∃ g1, w.heap.size = g1 := ⟨_, rfl⟩
  obtain ⟨g2, hg2⟩ : ∃ g2, w.heap.size + 1 = g2 := ⟨_, rfl⟩
  obtain ⟨g4, hg4⟩ : ∃ g4, w.heap.size + 2 = g4 := ⟨_, rfl⟩
  rw [hg1] at h1
  rw [hg4, hg2] at hs ⊢
  rw [hg1]
  have HS := Lib.hid hs
  have H1 := Lib.hid h1
  have hlt1 : g1 < g2 := by omega
  have hlt2 : g2 < g4 := by omega
  clear hg1 hg2 hg4 hs h1
  go_wp2
  go_loopw [4] (fun iv wr => ∃ (k : Nat) (A2 : Option Addr) (c2 : Nat) (fs : List Fd), k ≤ r.fs.length ∧ iv = .int .i64 k ∧ Hid (r.fs.take k = fs) ∧ Hid (fs.length = k) ∧ Hid (OfT 35 79 w wr g2 g4 { r with fs := fs } A2 c2) ∧ Hid (Bk wr g1 24 (reqC r A c))) (fun iv _ => r.fs.length - (intOf iv).toNat)
  case atStart => exact ⟨0, none, 0, [], Nat.zero_le _, rfl, Lib.hid rfl, Lib.hid rfl, HS, H1⟩
  case round =>
    obtain ⟨k, A2, c2, fs, hk, rfl, htk, hfl, hS, hB⟩ := hrel
    have hfl2 : fs.length ≤ 100000 := by have := hfl.out; omega
    have a3 := hB.out.cell 3
    simp only [reqC, List.getElem?_cons_zero, List.getElem?_cons_succ] at a3
    by_cases hlt : k < r.fs.length
    · obtain ⟨x, hx⟩ : ∃ x, r.fs[k]? = some x := ⟨_, List.getElem?_eq_getElem hlt⟩
      obtain ⟨b, off, rfl, _, hgl, hc⟩ := rd_at (HR.out.kp hS.out.kp (by simp)) fldC_len (by decide) hx
      have hc0 := hc 0 _ rfl
      have hc1 := hc 1 _ rfl
      rw [Nat.add_zero] at hc0
      have b3 := hS.out.b4.cell 3
      simp only [reqC, List.getElem?_cons_zero, List.getElem?_cons_succ] at b3
      have b3a := fun o => (hS.out.b4.alloc o).cell 3
      simp only [reqC, List.getElem?_cons_zero, List.getElem?_cons_succ] at b3a
      have HX := Lib.hid hx
      clear hc hx
      go_wp2
      go_region_law (refine step_app rfl (.tmp 22) (.tmp 28) _ rfl elt_fd A2 fs.length c2 _ (by simp [Act.eval, Act.put]) (hS.out.drew.own.alloc _) [] (some ⟨wr.heap.size, 0, none⟩) 1 1 (fldC x) (by simp [Act.eval, Act.put]) (fd_rd rfl) rfl (fd_one _) (by omega) ?_; intro A3 c3 w5 ho5 hk5 hA5; obtain ⟨⟨qn, en⟩, hs5⟩ := hS.out.drew.app _ x ho5 hk5 hA5)
      all_goals
        have H5 := Lib.hid hs5
        have hB5 := (((hB.out.drew).alloc (.cells #[.string (S x.1), .string (S x.2)] 79)).kp hk5 (fun hm => by have := hS.out.fresh _ hm; omega)).kp (Kp.setCell (Kp.refl [g4] w5) (.inl (by simp)) (.slice A3 (fs.length + 1) c3) (p := ⟨g4, 3, none⟩)) (by simp; omega)
        have HB5 := Lib.hid hB5
        clear hs5 hB5
        go_wp2
        exact ⟨⟨k + 1, A3, c3, fs ++ [x], by omega, by go_num, Lib.hid (by rw [fs_take HX.out, htk.out]), Lib.hid (by simp [hfl.out]), H5, HB5⟩, by simp [intOf]; omega⟩
    · obtain rfl : k = r.fs.length := by omega
      have e : fs = r.fs := by rw [← htk.out, List.take_length]
      subst e
      obtain ⟨⟨q0, q1, q2, q3, q4⟩, ⟨e0, e1, e2, e3, e4⟩⟩ := bk5 hS.out.b2
      obtain ⟨⟨p0, p1, p2, p3, p4⟩, _⟩ := bk5 hS.out.b4
      have hne : g2 ≠ g4 := by omega
      go_wp2
      obtain ⟨W4, hW4, k4, rd4, fr4, nc4, z0, z1, z2, z3, z4⟩ := hS.out.fin
      rw [hW4]
      exact bodyPost_ret (v := .agg #[.string (S r.m), .string (S r.t), .int .i64 r.minor, .slice A2 r.fs.length c2, .bool r.close]) (by simp [results, Tryz.results12, go_sem, z0, z1, z2, z3, z4]) rfl (H.out A2 c2 W4 k4 rd4 fr4 nc4)
end
/-! ### pantlerlaw27: far, Count, the chapter's example. -/
section
open Go.RowKit Go.Shelf
set_option linter.unusedVariables false
set_option linter.unusedSimpArgs false
set_option maxRecDepth 100000
section
variable {R : Ending → World → Prop} {w : World}
set_option maxHeartbeats 4000000 in
theorem far27_any (r : Req) (v mt len : Int) (kd : List UInt8) {A : Option Addr} {c : Nat} (h : ∀ b w', Kp [] w w' → (b = false → r.fs.length ≤ 60 ∧ kd.length ≤ 300 ∧ 0 ≤ len ∧ len ≤ 1099511627776 ∧ 0 ≤ v ∧ 0 ≤ mt) → R (.returned (.bool b)) w') :
    Calls Tryz.prog 10 #[.agg #[.string (S r.m), .string (S r.t), .int .i64 r.minor, .slice A r.fs.length c, .bool r.close], .agg #[.int .i64 v, .int .i64 mt, .int .i64 len, .string (S kd)]] w R := by
  have H := Lib.hid h
  clear h
  obtain ⟨c1, d1⟩ : ∃ c, decide ((60 : Int) < r.fs.length) = c := ⟨_, rfl⟩
  obtain ⟨c2, d2⟩ : ∃ c, decide ((300 : Int) < kd.length) = c := ⟨_, rfl⟩
  obtain ⟨c3, d3⟩ : ∃ c, decide (len < 0) = c := ⟨_, rfl⟩
  obtain ⟨c4, d4⟩ : ∃ c, decide (1099511627776 < len) = c := ⟨_, rfl⟩
  obtain ⟨c5, d5⟩ : ∃ c, decide (v < 0) = c := ⟨_, rfl⟩
  obtain ⟨c6, d6⟩ : ∃ c, decide (mt < 0) = c := ⟨_, rfl⟩
  go_enter Tryz.func10, Tryz.ntmps10
  cases c1 with
  | true =>
    go_wp2
    exact H.out true _ (((Kp.refl _ _).alloc _).alloc _) (fun e => by cases e)
  | false =>
    cases c2 with
    | true =>
      go_wp2
      exact H.out true _ (((Kp.refl _ _).alloc _).alloc _) (fun e => by cases e)
    | false =>
      cases c3 with
      | true =>
        go_wp2
        exact H.out true _ (((Kp.refl _ _).alloc _).alloc _) (fun e => by cases e)
      | false =>
        cases c4 with
        | true =>
          go_wp2
          exact H.out true _ (((Kp.refl _ _).alloc _).alloc _) (fun e => by cases e)
        | false =>
          cases c5 with
          | true =>
            go_wp2
            exact H.out true _ (((Kp.refl _ _).alloc _).alloc _) (fun e => by cases e)
          | false =>
            cases c6 with
            | true =>
              go_wp2
              exact H.out true _ (((Kp.refl _ _).alloc _).alloc _) (fun e => by cases e)
            | false =>
              go_wp2
              exact H.out false _ (((Kp.refl _ _).alloc _).alloc _) (fun _ => by simp at d1 d2 d3 d4 d5 d6; omega)
set_option maxHeartbeats 2000000 in
theorem rcount24_any (r : Req) (name : List UInt8) {A : Option Addr} {c : Nat} (hr : Rd w [] A (r.fs.flatMap fldC)) (hn : r.fs.length ≤ 100000)
    (h : ∀ w', Kp [] w w' → R (.returned (.int .i64 (valsF r.fs name).length)) w') :
    Calls Tryz.prog 13 #[.agg #[.string (S r.m), .string (S r.t), .int .i64 r.minor, .slice A r.fs.length c, .bool r.close], .string (S name)] w R := by
  have H := Lib.hid h
  have HR := Lib.hid hr
  clear h hr
  go_enter Tryz.func13, Tryz.ntmps13
  go_upto_region 1 with (fail)
  refine gen_worldC (fun W => ∃ g, w.heap.size = g ∧ Hid (Kp [] w W ∧ Bk W g 24 (reqC r A c))) ⟨_, rfl, Lib.hid ⟨(Kp.refl _ _).alloc _, (Bk.new' _ _ _).cast rfl⟩⟩ ?_
  rintro W ⟨g, hg, hW⟩
  rw [hg]
  have q3 : W.cell? ⟨g, 3, none⟩ = some (.slice A r.fs.length c) := hW.out.2.cell 3
  have RW := Lib.hid (HR.out.kp hW.out.1 (by simp))
  clear hg
  go_wp2
  go_loop [5, 6] (fun nv iv => ∃ k m : Nat, k ≤ r.fs.length ∧ iv = .int .i64 k ∧ nv = .int .i64 m ∧ m ≤ k ∧ Hid ((valsF (r.fs.take k) name).length = m)) (fun _ iv => r.fs.length - (intOf iv).toNat)
  case atStart => exact ⟨0, 0, Nat.zero_le _, rfl, rfl, Nat.le_refl _, Lib.hid rfl⟩
  case round =>
    obtain ⟨k, m, hk, rfl, rfl, hmk, hv⟩ := hrel
    by_cases hlt : k < r.fs.length
    · obtain ⟨x, hx⟩ : ∃ x, r.fs[k]? = some x := ⟨_, List.getElem?_eq_getElem hlt⟩
      have HV := Lib.hid (valsF_take hx name)
      obtain ⟨b, off, rfl, _, hgl, hc⟩ := rd_at RW.out fldC_len (by decide) hx
      have hc0 := hc 0 _ rfl
      rw [Nat.add_zero] at hc0
      clear hc hx
      cases hq : (x.1 == name)
      · have HV2 : Hid ((valsF (r.fs.take (k + 1)) name).length = m) := Lib.hid (by rw [HV.out, hq]; simpa using hv.out)
        clear HV
        go_wp2
        go_round
        case rel => exact ⟨k + 1, m, by omega, by go_num, rfl, by omega, HV2⟩
        case measure => simp [intOf]; omega
      · have HV2 : Hid ((valsF (r.fs.take (k + 1)) name).length = m + 1) := Lib.hid (by rw [HV.out, hq, if_pos rfl, List.length_append, hv.out]; rfl)
        clear HV
        go_wp2
        go_round
        case rel => exact ⟨k + 1, m + 1, by omega, by go_num, by go_num, by omega, HV2⟩
        case measure => simp [intOf]; omega
    · have hv2 := hv.out
      rw [List.take_of_length_le (by omega)] at hv2
      subst hv2
      go_wp2
      exact H.out _ hW.out.1
theorem wr400 : wrS 400 = 400 := by decide
def badTT : List UInt8 := [52, 48, 48, 32, 66, 97, 100, 32, 82, 101, 113, 117, 101, 115, 116, 10]
theorem body400B : bodyT 400 = badTT := by
  unfold bodyT
  rw [show ((400 : Int).toNat) = 400 from rfl, decL_big (by omega), decL_big (n := 400 / 10) (by omega), decL_small (by omega)]
  rfl
theorem parts400 : partsG 400 0 [] [] = [(badTT, 0, 0)] := by
  unfold partsG layG
  rw [if_neg (by decide), if_neg (by decide), if_neg (by decide), body400B]
  rfl
set_option maxHeartbeats 2000000 in
theorem alive27b_any (hw : Lw w) (h : ∀ w', Kp [] w w' → R (.returned (.bool true)) w') : Calls Tryz.prog 9 #[] w R := by
  have H := Lib.hid h
  have HW : Hid (∀ (R : Ending → World → Prop) (w1 : World), Lw w1 → (∀ L b o c w', Kp [] w1 w' → b < w'.heap.size → w'.cell? ⟨b, o, none⟩ = some (.string (S badTT)) ∧ w'.cell? ⟨b, o + 1, none⟩ = some (.int .i64 0) ∧ w'.cell? ⟨b, o + 2, none⟩ = some (.int .i64 0) → R (.returned (.agg #[.int .i64 400, .string (S L), .slice (some ⟨b, o, none⟩) 1 c, .bool true])) w') → Calls Tryz.prog 15 #[.int .i64 400, .int .i64 (-1)] w1 R) := Lib.hid (fun R w1 h1 h => rwrong_gen 400 (-1) h1 (fun A n c w' k hh => by
    rw [wr400, parts400] at hh
    obtain ⟨b, o, rfl, _, hb, hc⟩ := hh.out.1 (by simp [ptV])
    have e : n = 1 := hh.out.2.1.symm
    subst e
    rw [wr400]
    exact h _ b o c w' k hb ⟨hc 0 _ rfl, hc 1 _ rfl, hc 2 _ rfl⟩))
  have HRs : Hid (∀ (R : Ending → World → Prop) (w : World), R (.returned (.string (S [78, 111, 116, 32, 70, 111, 117, 110, 100]))) w → Calls Tryz.prog 16 #[.int .i64 404] w R) := Lib.hid (fun R w h => reason_any 404 w h)
  clear h
  go_enter Tryz.func9, Tryz.ntmps9
  go_upto_region 2 with (go_at_call 15; ((refine HW.out _ _ hw ?_); intro L x o cc w1 k1 hb hc))
  obtain ⟨c0, c1, c2⟩ := hc
  have gBB : (badTT == [52, 48, 48, 32, 66, 97, 100, 32, 82, 101, 113, 117, 101, 115, 116, 10]) = true := by decide
  go_wp2_with (go_at_call 16; (refine HRs.out _ _ ?_))
  exact rcast (H.out _ (k1.alloc _)) rfl
end
end
/-! ### respond in plain words: a head is short. -/
section
open Go.RowKit
set_option linter.unusedVariables false
set_option linter.unusedSimpArgs false
set_option maxRecDepth 100000
def spOkN (z : Int × Int) : Prop := 0 ≤ z.1 ∧ z.1 ≤ 35184372088832 ∧ 0 ≤ z.2 ∧ z.2 ≤ 35184372088832
theorem dateT_len {n : Int} (h : mayB n = true) : (dateT n).length ≤ 200 := by
  unfold mayB at h
  simp only [Bool.and_eq_true, decide_eq_true_eq] at h
  by_cases hx : ∃ D, Told n D
  · obtain ⟨D, hD⟩ := hx
    rw [dateT_is hD]
    exact told_len hD h.1 h.2
  · unfold dateT
    rw [dif_neg hx]
    simp
theorem date_hdr (b : Bool) (n : Int) (nm : List UInt8) (h : nm.length ≤ 30) : (hdrB (b && mayB n) nm (dateT n)).length ≤ 300 := by
  cases hb : (b && mayB n) with
  | false => simp [hdrB]
  | true =>
    have hm : mayB n = true := by cases b <;> simp_all
    have := dateT_len hm
    have h2 := hdrB_len true nm (dateT n)
    omega
theorem hdr_le (b : Bool) {nm v : List UInt8} {k : Nat} (h : nm.length + v.length + 4 ≤ k) : (hdrB b nm v).length ≤ k := Nat.le_trans (hdrB_len b nm v) h
theorem headS_len (a : HdA) (hst : 0 ≤ a.st ∧ a.st ≤ 9999) (hkd : a.kd.length ≤ 300) (hv : 0 ≤ a.v ∧ a.v ≤ 9223372036854775807) (hmt : 0 ≤ a.mt ∧ a.mt ≤ 9223372036854775807) (hlen : 0 ≤ a.len ∧ a.len ≤ 35184372088832) (hn : 0 ≤ a.n ∧ a.n ≤ 9223372036854775807) (hz : ∀ z ∈ a.zs, spOkN z) : (headS a).length ≤ 4000 := by
  have h1 : (line1 (decL a.st.toNat) (rsnL a.st)).length ≤ 100 := by
    have e1 := dec3 (n := a.st.toNat) (by omega)
    have e2 := rsn_len a.st
    unfold line1
    simp only [List.length_append, List.length_cons, List.length_nil]
    omega
  have h2 : (hdrB (mayB a.now) dateN (dateT a.now)).length ≤ 300 := date_hdr true a.now dateN (by decide)
  have h3 : (hdr servN pantV).length ≤ 100 := by decide
  have h4 : (hdrB (a.body || a.st == 304) etagN (tagL a.v a.mt)).length ≤ 100 := hdr_le _ (by
    have e1 := itoaL_len a.v (by omega) (by omega)
    have e2 := itoaL_len a.mt (by omega) (by omega)
    have e3 : etagN.length = 4 := rfl
    unfold tagL
    simp only [List.length_append, List.length_cons, List.length_nil]
    omega)
  have h5 : (hdrB (a.body && mayB a.mt) lmN (dateT a.mt)).length ≤ 300 := date_hdr a.body a.mt lmN (by decide)
  have h6 : (hdrB (a.st == 200) arN bytV).length ≤ 100 := hdr_le _ (by decide)
  have h7 : (hdrB (a.st == 405) allowN ghV).length ≤ 100 := hdr_le _ (by decide)
  have h8 : a.ct.length ≤ 400 := by
    unfold HdA.ct
    split
    · rw [hdr_len]; have : ctN.length = 12 := rfl; omega
    · split
      · decide
      · exact hdr_le _ (by decide)
  have h9 : a.cr.length ≤ 200 := by
    unfold HdA.cr
    split
    · rw [hdr_len]
      have hzz : spOkN (a.zs.headD (0, 0)) := by
        cases hq : a.zs with
        | nil => unfold spOkN; decide
        | cons z zs => exact hz z (by rw [hq]; simp)
      have := contL_len (a.zs.headD (0, 0)).1 (a.zs.headD (0, 0)).2 a.len ⟨hzz.1, hzz.2.1⟩ ⟨hzz.2.2.1, hzz.2.2.2⟩ hlen
      have : crN.length = 13 := rfl
      omega
    · simp
  have h10 : (hdrB (a.st == 416) crN (noneL a.len)).length ≤ 100 := hdr_le _ (by
    have e1 := itoaL_len a.len (by omega) (by omega)
    have e3 : crN.length = 13 := rfl
    unfold noneL
    simp only [List.length_cons]
    omega)
  have h11 : (hdrB (a.st != 304) clN (itoaL a.n)).length ≤ 100 := hdr_le _ (by
    have e1 := itoaL_len a.n (by omega) (by omega)
    have e3 : clN.length = 14 := rfl
    omega)
  have h12 : (hdrB a.cl connN closV).length ≤ 100 := hdr_le _ (by decide)
  have h13 : (hdrB (!a.cl && a.minor == 0) connN keepV).length ≤ 100 := hdr_le _ (by decide)
  unfold headS
  simp only [List.length_append, List.length_cons, List.length_nil]
  omega
theorem ofH_len (r : Req) (there : Bool) (v mt len : Int) (kd : List UInt8) (now : Int) (hkd : kd.length ≤ 300) (hv : 0 ≤ v ∧ v ≤ 9223372036854775807) (hmt : 0 ≤ mt ∧ mt ≤ 9223372036854775807) (hlen : 0 ≤ len ∧ len ≤ 35184372088832) : (ofH r there v mt len kd now).length ≤ 4000 := by
  have hc := choose_ok r there v mt len
  have hst := choose_st r there v mt len
  have hz : ∀ z ∈ (chooseM r there v mt len).2, spOkN z := fun z hzm => okZ_sp hlen.2 (hc.2.1 z hzm)
  have hp := parts_ok (kd := kd) hst.1 hst.2 hlen.1 hlen.2 hkd hz
  have hs := sum_bd _ hp
  have hn : (partsG (chooseM r there v mt len).1 len kd (chooseM r there v mt len).2).length ≤ 1000 := by
    have h4 := hc.2.2.1
    refine Nat.le_trans (List.length_filter_le _ _) ?_
    unfold layG
    split
    · simp
    · split
      · have : ∀ (zs : List (Int × Int)) (b : Bool), (zs.flatMap (spP len kd b)).length ≤ 2 * zs.length := by
          intro zs b
          induction zs with
          | nil => simp
          | cons z zs ih =>
            have : (spP len kd b z).length ≤ 2 := by unfold spP; split <;> simp
            simp only [List.flatMap_cons, List.length_append, List.length_cons]
            omega
        have := this (chooseM r there v mt len).2 (decide (1 < (chooseM r there v mt len).2.length))
        rw [List.length_append]
        split
        · simp only [List.length_cons, List.length_nil]; omega
        · simp only [List.length_nil]; omega
      · split <;> simp
  unfold ofH
  exact headS_len _ hst hkd hv hmt hlen ⟨hs.1, by have := hs.2; simp only; omega⟩ hz
theorem wr_parts (s : Int) : (∀ p ∈ partsG (wrS s) 0 [] [], inP 0 p ∧ okPt p) ∧ (partsG (wrS s) 0 [] []).length ≤ 21 := by
  have hb := wrS_bd s
  refine ⟨fun p hp => ⟨parts_in (by decide) (fun z hz => by cases hz) p hp, parts_ok (by omega) (by omega) (by decide) (by decide) (by decide) (fun z hz => by cases hz) p hp⟩, ?_⟩
  refine Nat.le_trans (List.length_filter_le _ _) ?_
  unfold layG
  rw [if_neg (by omega), if_neg (by omega), if_neg (by omega)]
  exact Nat.le_of_ble_eq_true rfl
theorem wrH_len (s now : Int) : (wrH s now).length ≤ 4000 := by
  have hb := wrS_bd s
  have hp := wr_parts s
  have hs := sum_bd _ (fun p h => (hp.1 p h).2)
  unfold wrH
  exact headS_len _ (by simp only; omega) (by simp) (by simp only; omega) (by simp only; omega) (by simp only; omega) ⟨hs.1, by have h1 := hs.2; have h2 := hp.2; simp only; omega⟩ (fun z hz => by cases hz)
/-- Does x stand in s at one of the first k places? -/
def srchB (s x : List UInt8) (k : Nat) : Bool := (List.range k).any fun i => (s.drop i).take x.length == x
theorem srchB_succ (s x : List UInt8) (k : Nat) : srchB s x (k + 1) = (srchB s x k || (s.drop k).take x.length == x) := by
  unfold srchB
  rw [List.range_succ, List.any_append]
  simp
theorem srch_fit {s x : List UInt8} {i : Nat} (hx : x ≠ []) (h : (s.drop i).take x.length = x) : i + x.length ≤ s.length := by
  have h1 := congrArg List.length h
  rw [List.length_take, List.length_drop] at h1
  have h2 : 0 < x.length := List.length_pos_iff.2 hx
  omega
theorem srchB_iff {s x : List UInt8} {k : Nat} (hx : x ≠ []) (h : ∀ i, i + x.length ≤ s.length → i < k) : srchB s x k = true ↔ ∃ i, (s.drop i).take x.length = x := by
  unfold srchB
  rw [List.any_eq_true]
  constructor
  · rintro ⟨i, _, hi⟩
    exact ⟨i, by simpa using hi⟩
  · rintro ⟨i, hi⟩
    exact ⟨i, List.mem_range.2 (h i (srch_fit hx hi)), by simpa using hi⟩
theorem srch_no {s x : List UInt8} {i : Nat} (hx : x ≠ []) (h : s.length < i + x.length) : ((s.drop i).take x.length == x) = false := by
  cases hb : ((s.drop i).take x.length == x) with
  | false => rfl
  | true => have := srch_fit hx (by simpa using hb); omega
theorem slc_eq (s : List UInt8) (k n : Nat) : (s.take (k + n)).drop k = (s.drop k).take n := by rw [List.drop_take, Nat.add_sub_cancel_left]
theorem lenLn_len (n : Int) : (lenLn n).length = (ln clN (itoaL n)).length + 4 := by simp [lenLn]
/-- The plain law of RespondLength. -/
theorem rlen_plain (r : Req) (hm : r.m = getM) (there : Bool) (v mt len : Int) (kd : List UInt8) (now : Int) (hkd : kd.length ≤ 300) (hv : 0 ≤ v ∧ v ≤ 9223372036854775807) (hmt : 0 ≤ mt ∧ mt ≤ 9223372036854775807) (hlen : 0 ≤ len ∧ len ≤ 35184372088832) :
    (∀ p ∈ ofP r there v mt len kd, inP len p ∧ okPt p) ∧ (ofH r there v mt len kd now).length ≤ 4000 ∧
    ((∃ i, ((ofH r there v mt len kd now).drop i).take (lenLn (sumG (ofP r there v mt len kd))).length = lenLn (sumG (ofP r there v mt len kd))) ↔ (chooseM r there v mt len).1 ≠ 304) ∧
    ((chooseM r there v mt len).1 = 304 → sumG (ofP r there v mt len kd) = 0) := by
  have hcc := choose_ok r there v mt len
  have hst := choose_st r there v mt len
  have hps := (parts_head hm there v mt len kd).2
  rw [hps]
  refine ⟨fun p hp => ⟨parts_in hlen.1 hcc.2.1 p hp, parts_ok hst.1 hst.2 hlen.1 hlen.2 hkd (fun z hz => okZ_sp hlen.2 (hcc.2.1 z hz)) p hp⟩, ofH_len r there v mt len kd now hkd hv hmt hlen, ?_, ?_⟩
  · rw [lenLn_len]
    exact length_iff ⟨(chooseM r there v mt len).1, r.minor, r.close || (chooseM r there v mt len).1 == 400, v, mt, len, kd, now, (chooseM r there v mt len).2, sumG (partsG (chooseM r there v mt len).1 len kd (chooseM r there v mt len).2)⟩
  · intro e
    rw [e]
    exact sum304 _ _ _
end
end Go.Proofs.YtnmafahbdfilcaaGreatDoor
