/- respond in plain words: what status and spans are chosen; parts are short. respond: plan of any answer. respond: Of any request; Wrong. serve: Plan. serve: the chapter's example in plain words. Package request: the chapter's example. -/
import Derived.Test.YtnmafahbdfilcaaGreatDoorPA21
import Derived.Test.YtnmafahbdfilcaaGreatDoorPA15
import Derived.Test.YtnmafahbdfilcaaGreatDoorPA18
import Derived.Test.YtnmafahbdfilcaaGreatDoorPA19
import Derived.Test.YtnmafahbdfilcaaGreatDoorPA17
import Derived.Test.YtnmafahbdfilcaaGreatDoorPA10
import Derived.Test.YtnmafahbdfilcaaGreatDoorPA6
namespace Go.Proofs.YtnmafahbdfilcaaGreatDoor
/-! ### respond in plain words: what status and spans are chosen; parts are short. -/
section
open Go.RowKit
set_option linter.unusedVariables false
set_option linter.unusedSimpArgs false
set_option maxRecDepth 100000
def okZ (n : Int) (z : Int × Int) : Prop := 1 ≤ z.2 ∧ 0 ≤ z.1 ∧ z.1 + z.2 ≤ n
theorem okZ_span {x : List UInt8} {y : Int × Int} {n : Int} (hn : 0 ≤ n) (h : readM x = some y) (h2 : 0 < (spanM y n).2) : okZ n (spanM y n) := by
  obtain ⟨a, b⟩ := y
  have hb := readM_bd h
  unfold okZ
  unfold spanM at h2 ⊢
  split at h2
  · rename_i h3; rw [if_pos h3]; simp only at *; omega
  · rename_i h3
    rw [if_neg h3]
    split at h2
    · rename_i h4; rw [if_pos h4]; simp only at *; omega
    · rename_i h4; rw [if_neg h4]; simp only at *; omega
theorem fold_ok {n : Int} (hn : 0 ≤ n) : ∀ (l : List (List UInt8)) (acc : Option (List (Int × Int))) (m : Nat), (∀ zs, acc = some zs → (∀ z ∈ zs, okZ n z) ∧ zs.length ≤ m) → ∀ zs, l.foldl (stepS n) acc = some zs → (∀ z ∈ zs, okZ n z) ∧ zs.length ≤ m + l.length
  | [], acc, m, h, zs, e => by have := h zs e; exact ⟨this.1, by simp; exact this.2⟩
  | x :: l, acc, m, h, zs, e => by
    have := fold_ok hn l (stepS n acc x) (m + 1) (fun zs' e' => by
      unfold stepS at e'
      split at e'
      · rename_i zs0 y h1
        injection e' with e'
        have h0 := h zs0 rfl
        subst e'
        split
        · rename_i hp
          refine ⟨fun z hz => ?_, by simp; exact h0.2⟩
          rcases List.mem_append.1 hz with hz | hz
          · exact h0.1 z hz
          · simp at hz; subst hz; exact okZ_span hn h1 hp
        · exact ⟨h0.1, by omega⟩
      · cases e') zs e
    exact ⟨this.1, by simp; omega⟩
theorem parseM_ok {l : List UInt8} {n : Int} {zs : List (Int × Int)} (h : parseM l n = some zs) : (∀ z ∈ zs, okZ n z) ∧ zs.length ≤ 4 := by
  unfold parseM at h
  split at h
  · rename_i hk
    unfold okP at hk
    simp only [Bool.and_eq_true, decide_eq_true_eq] at hk
    have := fold_ok hk.1.1.1.1 _ (some []) 0 (fun zs e => by injection e with e; subst e; simp) zs h
    exact ⟨this.1, by omega⟩
  · cases h
theorem ck_st (r : Req) (v mt : Int) : checkM r v mt = 0 ∨ checkM r v mt = 304 ∨ checkM r v mt = 412 := by
  unfold checkM ckF
  split
  · simp
  · split
    · simp
    · split
      · split <;> simp
      · split <;> simp
theorem choose_ok (r : Req) (there : Bool) (v mt len : Int) : ((chooseM r there v mt len).1 ∈ [200, 206, 304, 400, 404, 405, 412, 416]) ∧ (∀ z ∈ (chooseM r there v mt len).2, okZ len z) ∧ (chooseM r there v mt len).2.length ≤ 4 ∧ ((chooseM r there v mt len).1 = 206 → (chooseM r there v mt len).2 ≠ []) := by
  have hc := ck_st r v mt
  unfold chooseM
  split
  · simp
  · split
    · simp
    · split
      · simp
      · split
        · rcases hc with e | e | e
          · contradiction
          · rw [e]; simp
          · rw [e]; simp
        · split
          · simp
          · cases hp : parseM (allF r.fs rgL) len with
            | none => simp
            | some zs =>
              have hz := parseM_ok hp
              cases zs with
              | nil => simp
              | cons z zs => exact ⟨by simp, hz.1, hz.2, by simp⟩
theorem choose_st (r : Req) (there : Bool) (v mt len : Int) : 0 ≤ (chooseM r there v mt len).1 ∧ (chooseM r there v mt len).1 ≤ 9999 := by
  have := (choose_ok r there v mt len).1
  simp at this
  omega
theorem okZ_sp {len : Int} {z : Int × Int} (hl : len ≤ 35184372088832) (h : okZ len z) : 0 ≤ z.1 ∧ z.1 ≤ 35184372088832 ∧ 0 ≤ z.2 ∧ z.2 ≤ 35184372088832 := by unfold okZ at h; omega
theorem body_len {st : Int} (h0 : 0 ≤ st) (h1 : st ≤ 9999) : (bodyT st).length ≤ 100 := by
  have h2 := dec3 (n := st.toNat) (by omega)
  have h3 := rsn_len st
  unfold bodyT
  simp only [List.length_append, List.length_cons, List.length_nil]
  omega
theorem lay_ok {st len : Int} {kd : List UInt8} {zs : List (Int × Int)} (h0 : 0 ≤ st) (h1 : st ≤ 9999) (hl0 : 0 ≤ len) (hl1 : len ≤ 35184372088832) (hk : kd.length ≤ 300)
    (hz : ∀ z ∈ zs, 0 ≤ z.1 ∧ z.1 ≤ 35184372088832 ∧ 0 ≤ z.2 ∧ z.2 ≤ 35184372088832) : ∀ p ∈ layG st len kd zs, okPt p := by
  intro p hp
  unfold layG at hp
  split at hp
  · simp at hp; subst hp; unfold okPt; simp; omega
  · split at hp
    · rcases List.mem_append.1 hp with hp | hp
      · obtain ⟨z, hzm, hp⟩ := List.mem_flatMap.1 hp
        have hzz := hz z hzm
        have hc := contL_len z.1 z.2 len ⟨hzz.1, hzz.2.1⟩ ⟨hzz.2.2.1, hzz.2.2.2⟩ ⟨hl0, hl1⟩
        have h16 : boundL.length = 16 := rfl
        unfold spP at hp
        split at hp
        · simp at hp
          rcases hp with rfl | rfl
          · unfold okPt rgheadL typeL rangeL; simp; omega
          · unfold okPt; simp; omega
        · simp at hp; subst hp; unfold okPt; simp; omega
      · split at hp
        · simp at hp; subst hp; unfold okPt; refine ⟨by decide, by decide, by decide⟩
        · cases hp
    · split at hp
      · cases hp
      · simp at hp; subst hp
        have := body_len h0 h1
        unfold okPt; simp; omega
theorem parts_ok {st len : Int} {kd : List UInt8} {zs : List (Int × Int)} (h0 : 0 ≤ st) (h1 : st ≤ 9999) (hl0 : 0 ≤ len) (hl1 : len ≤ 35184372088832) (hk : kd.length ≤ 300)
    (hz : ∀ z ∈ zs, 0 ≤ z.1 ∧ z.1 ≤ 35184372088832 ∧ 0 ≤ z.2 ∧ z.2 ≤ 35184372088832) : ∀ p ∈ partsG st len kd zs, okPt p := fun p hp => lay_ok h0 h1 hl0 hl1 hk hz p (List.mem_filter.1 hp).1
end
/-! ### respond: plan of any answer. -/
section
open Go.RowKit Go.Shelf
set_option linter.unusedVariables false
set_option linter.unusedSimpArgs false
set_option maxRecDepth 100000
theorem put4 {w2 : World} {rb tt : Nat} {a0 a1 a2 a3 : Value} (br : Bk w2 rb tt [a0, a1, a2, a3]) (z L A d : Value) :
    ∃ W', ((((w2.setCell ⟨rb, 0, none⟩ z).setCell ⟨rb, 1, none⟩ L).setCell ⟨rb, 2, none⟩ A).setCell ⟨rb, 3, none⟩ d) = W' ∧ Kp [rb] w2 W' ∧ Bk W' rb tt [z, L, A, d] :=
  ⟨_, rfl, ((((Kp.refl _ _).setCell (.inl (by simp)) _).setCell (.inl (by simp)) _).setCell (.inl (by simp)) _).setCell (.inl (by simp)) _, ((((br.set_ 0 _).set_ 1 _).set_ 2 _).set_ 3 _).cast rfl⟩
theorem bk4r {w : World} {g tt : Nat} {a b c d : Value} (h : Bk w g tt [a, b, c, d]) : (w.cell? ⟨g, 0, none⟩ = some a ∧ w.cell? ⟨g, 1, none⟩ = some b ∧ w.cell? ⟨g, 2, none⟩ = some c ∧ w.cell? ⟨g, 3, none⟩ = some d) ∧ (w.frozen? ⟨g, 0, none⟩ = false ∧ w.frozen? ⟨g, 1, none⟩ = false ∧ w.frozen? ⟨g, 2, none⟩ = false ∧ w.frozen? ⟨g, 3, none⟩ = false) :=
  ⟨⟨h.cell 0, h.cell 1, h.cell 2, h.cell 3⟩, h.frozen 0, h.frozen 1, h.frozen 2, h.frozen 3⟩
/-- A row of parts is no plan's block. -/
theorem rd_notP {w : World} {N : List Nat} {A A' : Option Addr} {l : List Pt} {g tt n c : Nat} {a : Int} {s : ByteArray} {d : Bool} (r : Rd w N A (l.flatMap ptV)) (b : Bk w g tt [.int .i64 a, .string s, .slice A' n c, .bool d]) : Rd w (g :: N) A (l.flatMap ptV) := fun hx => by
  obtain ⟨b0, off, rfl, hN, hb, hc⟩ := r hx
  refine ⟨b0, off, rfl, ?_, hb, hc⟩
  intro hm
  rcases List.mem_cons.1 hm with rfl | hm
  · cases l with
    | nil => exact hx rfl
    | cons p l =>
      have c0 := hc 0 _ rfl
      have c1 := hc 1 _ rfl
      rw [b.cell] at c0 c1
      rcases off with _ | _ | _ | _ | off <;> simp at c0 c1
  · exact hN hm
section
variable {R : Ending → World → Prop} {w : World}
set_option maxHeartbeats 8000000 in
theorem plan_gen (st minor : Int) (cl : Bool) (v mt len : Int) (kd : List UInt8) (now : Int) (zs : List (Int × Int)) (only : Bool) {B : Option Addr} {nb db g : Nat} (w0 : World) (k0 : Kp [] w0 w) (hg : w0.heap.size ≤ g)
    (hb : Bk w g 75 (ansG st minor cl v mt len kd now B nb db none 0 0)) (hst : 0 ≤ st ∧ st ≤ 9999)
    (hz : Rd w [g] B (zs.flatMap spV)) (hzn : zs.length = nb) (hnb : nb ≤ 10) (hzo : ∀ z ∈ zs, 0 ≤ z.1 ∧ z.1 ≤ 35184372088832 ∧ 0 ≤ z.2 ∧ z.2 ≤ 35184372088832)
    (hv : 0 ≤ v ∧ v ≤ 9223372036854775807) (hmt : 0 ≤ mt ∧ mt ≤ 9223372036854775807) (hlen : 0 ≤ len ∧ len ≤ 35184372088832) (hkd : kd.length ≤ 300) (hw : Lw w0)
    (h : ∀ A n c w', Kp [] w0 w' → Hid (Rd w' [] A ((if only then [] else partsG st len kd zs).flatMap ptV) ∧ (if only then [] else partsG st len kd zs).length = n ∧ n ≤ 21) → R (.returned (.agg #[.int .i64 st, .string (S (headS ⟨st, minor, cl, v, mt, len, kd, now, zs, sumG (partsG st len kd zs)⟩)), .slice A n c, .bool cl])) w') :
    Calls Tryz.prog 31 #[.pointer (some ⟨g, 0, none⟩), .bool only] w R := by
  have H := Lib.hid h
  have HL : Hid (∀ (R : Ending → World → Prop) (w1 : World), Kp [] w w1 → (∀ A n c w', Kp [g] w1 w' → Bk w' g 75 (ansG st minor cl v mt len kd now B nb db A n c) → Hid (Rd w' [g] A ((partsG st len kd zs).flatMap ptV) ∧ (partsG st len kd zs).length = n ∧ n ≤ 21) → R (.returned (.tuple #[])) w') → Calls Tryz.prog 47 #[.pointer (some ⟨g, 0, none⟩)] w1 R) := Lib.hid (fun R w1 k1 h => lay_gen st minor cl v mt len kd now zs (hb.kp k1 (by simp)) hst (hz.kp k1 (by simp)) hzn hnb hzo hlen hkd (hw.kp (k0.trans k1)) h)
  have HH : Hid (∀ (R : Ending → World → Prop) (w1 : World) (A : Option Addr) (n c : Nat), Kp [] w0 w1 → Kp [g] w w1 → Bk w1 g 75 (ansG st minor cl v mt len kd now B nb db A n c) → Hid (Rd w1 [g] A ((partsG st len kd zs).flatMap ptV) ∧ (partsG st len kd zs).length = n ∧ n ≤ 21) → (∀ w', Kp [] w1 w' → R (.returned (.string (S (headS ⟨st, minor, cl, v, mt, len, kd, now, zs, sumG (partsG st len kd zs)⟩)))) w') → Calls Tryz.prog 48 #[.pointer (some ⟨g, 0, none⟩)] w1 R) := Lib.hid (fun R w1 A n c k kg b r h => head_gen st minor cl v mt len kd now zs (partsG st len kd zs) b ((hz.kp kg (by simp)).sub (by simp)) hzn hzo (r.out.1.sub (by simp)) r.out.2.1 (by have := r.out.2.2; omega) (parts_ok hst.1 hst.2 hlen.1 hlen.2 hkd hzo) hst hv hmt hlen hkd (hw.kp k) h)
  have hlt := hb.lt
  obtain ⟨ps, hps⟩ : ∃ ps, partsG st len kd zs = ps := ⟨_, rfl⟩
  obtain ⟨hd, hhd⟩ : ∃ hd, headS ⟨st, minor, cl, v, mt, len, kd, now, zs, sumG (partsG st len kd zs)⟩ = hd := ⟨_, rfl⟩
  rw [hhd] at H HH
  rw [hps] at H HH HL
  clear h hst hb hz hzn hzo hps hhd
  go_enter Tryz.func31, Tryz.ntmps31
  go_upto_region 1 with (fail)
  refine gen_worldC (fun W => ∃ pb, w.heap.size = pb ∧ Hid (Kp [] w W ∧ Bk W pb 31 [.int .i64 0, .string ⟨#[]⟩, .slice none 0 0, .bool false])) ⟨_, rfl, Lib.hid ⟨(Kp.refl _ _).alloc _, (Bk.new' _ _ _).cast rfl⟩⟩ ?_
  rintro W ⟨pb, hpb, hW⟩
  rw [hpb]
  go_upto_region 2 with (go_at_call 47; ((refine HL.out _ _ hW.out.1 ?_); intro A n c w1 kg1 b1 r1))
  have K1 : Hid (Kp [] w0 w1) := Lib.hid ((k0.trans hW.out.1).thn kg1 (fun s hs => .inr (by simp at hs; omega)))
  have KG : Hid (Kp [g] w w1) := Lib.hid ((hW.out.1.mono (by simp)).trans kg1)
  have BP : Hid (Bk w1 pb 31 [.int .i64 0, .string ⟨#[]⟩, .slice none 0 0, .bool false]) := Lib.hid (hW.out.2.kp kg1 (by simp; omega))
  have hpl := BP.out.lt
  have HP0 : Hid (w0.heap.size ≤ pb) := Lib.hid (by have := k0.size; omega)
  have B1 := Lib.hid b1
  have R1 := r1
  have HS : Hid (∀ w', Kp [] w1 w' → w'.cell? ⟨g, 0, none⟩ = some (.int .i64 st) ∧ w'.cell? ⟨g, 9, none⟩ = some (.slice A n c) ∧ w'.cell? ⟨g, 2, none⟩ = some (.bool cl)) := Lib.hid (fun w' k' => by have := bk10b (b1.kp k' (by simp)); exact ⟨this.1, this.2.2.2.2.2.2.2.2.2, this.2.2.1⟩)
  have HH2 : Hid (∀ (R : Ending → World → Prop) (w2 : World), Kp [] w1 w2 → (∀ w', Kp [] w2 w' → Kp [] w1 w' → R (.returned (.string (S hd))) w') → Calls Tryz.prog 48 #[.pointer (some ⟨g, 0, none⟩)] w2 R) := Lib.hid (fun R w2 k h => HH.out R w2 A n c (K1.out.trans k) (KG.out.trans (k.mono (by simp))) (B1.out.kp k (by simp)) (Lib.hid ⟨R1.out.1.kp k (by simp), R1.out.2⟩) (fun w' j => h w' j (k.trans j)))
  obtain ⟨p0, p9, p2⟩ := HS.out w1 (Kp.refl _ _)
  clear HL HH r1 b1 kg1 hpb hlt k0 hW
  go_cut [5] (fun x W' => ∃ nb2, x = .pointer (some ⟨nb2, 0, none⟩) ∧ Hid (w1.heap.size ≤ nb2 ∧ Kp [] w1 W' ∧ Bk W' nb2 31 [.int .i64 st, .string (S hd), .slice A n c, .bool cl]))
  case first =>
    go_region_held_law (fun w' => w'.cell? ⟨g, 0, none⟩ = some (.int .i64 st) ∧ w'.cell? ⟨g, 9, none⟩ = some (.slice A n c) ∧ w'.cell? ⟨g, 2, none⟩ = some (.bool cl)) ((refine HS.out _ ?_; repeat (first | with_reducible exact k2 | with_reducible exact Kp.refl [] w1 | with_reducible refine Kp.drew ?_ | refine Kp.setCell ?_ (.inr (by first | simp | (have := k2.size; simp; omega))) _ | with_reducible refine Kp.alloc ?_ _))) (first | (go_simp; go_at_call 48; (refine HH2.out _ _ (by repeat (first | with_reducible exact Kp.refl [] w1 | with_reducible refine Kp.drew ?_ | with_reducible refine Kp.alloc ?_ _)) ?_); intro w2 j2 k2; (try (have bz : Bk w2 w1.heap.size 31 [.int .i64 0, .string ⟨#[]⟩, .slice none 0 0, .bool false] := (Bk.new' w1.drew 31 #[.int .i64 0, .string ⟨#[]⟩, .slice none 0 0, .bool false]).kp j2 (by simp); obtain ⟨⟨z0, z1, z2, z3⟩, ⟨zz0, zz1, zz2, zz3⟩⟩ := bk4r bz))))
    all_goals
      go_wp2
      go_meet
      first
      | exact ⟨_, rfl, Lib.hid ⟨by have := k2.size; simp; omega, k2.alloc _, (Bk.new' _ _ _).cast rfl⟩⟩
      | (obtain ⟨W', hW', kW, bW⟩ := put4 bz (.int .i64 st) (.string (S hd)) (.slice A n c) (.bool cl)
         rw [hW']
         exact ⟨_, rfl, Lib.hid ⟨Nat.le_refl _, k2.thn kW (fun s hs => .inr (by simp at hs; omega)), bW⟩⟩)
  case rest =>
    obtain ⟨nb2, hx, hC⟩ := hcut
    rw [hx]
    clear hx
    have hnp : Hid (nb2 ≠ pb ∧ nb2 ≠ g) := Lib.hid (by have := hC.out.1; have := B1.out.lt; have := BP.out.lt; omega)
    have BP2 := Lib.hid (BP.out.kp hC.out.2.1 (by simp))
    obtain ⟨⟨y0, y1, y2, y3⟩, ⟨f0, f1, f2, f3⟩⟩ := bk4r BP2.out
    obtain ⟨⟨x0, x1, x2, x3⟩, ⟨e0, e1, e2, e3⟩⟩ := bk4r hC.out.2.2
    have hne1 : nb2 ≠ pb := hnp.out.1
    clear p0 p9 p2
    cases only with
    | false =>
      go_wp2
      obtain ⟨W', hW', kW, bW⟩ := put4 BP2.out (.int .i64 st) (.string (S hd)) (.slice A n c) (.bool cl)
      rw [hW']
      obtain ⟨⟨c0, c1, c2, c3⟩, _⟩ := bk4r bW
      have kF : Kp [] w0 W' := (K1.out.trans hC.out.2.1).thn kW (fun s hs => .inr (by have := HP0.out; simp at hs; omega))
      refine bodyPost_ret (v := .agg #[.int .i64 st, .string (S hd), .slice A n c, .bool cl]) (by simp [results, Tryz.results31, go_sem, c0, c1, c2, c3]; try rfl) rfl (H.out A n c _ kF (Lib.hid ⟨?_, R1.out.2⟩))
      exact ((rd_notP (R1.out.1.kp hC.out.2.1 (by simp)) BP2.out).kp kW (by simp)).sub (by simp)
    | true =>
      have hset := hC.out.2.2.set_ 2 (.slice none 0 0)
      go_wp2
      have kN : Kp [nb2] wc (wc.setCell ⟨nb2, 2, none⟩ (.slice none 0 0)) := (Kp.refl _ _).setCell (.inl (by simp)) _
      obtain ⟨W', hW', kW, bW⟩ := put4 (BP2.out.kp kN (by simp; omega)) (.int .i64 st) (.string (S hd)) (.slice none 0 0) (.bool cl)
      rw [hW']
      obtain ⟨⟨c0, c1, c2, c3⟩, _⟩ := bk4r bW
      have kF : Kp [] w0 W' := ((K1.out.trans hC.out.2.1).thn kN (fun s hs => .inr (by have := hC.out.1; have := K1.out.size; simp at hs; omega))).thn kW (fun s hs => .inr (by have := HP0.out; simp at hs; omega))
      exact bodyPost_ret (v := .agg #[.int .i64 st, .string (S hd), .slice none 0 0, .bool cl]) (by simp [results, Tryz.results31, go_sem, c0, c1, c2, c3]; try rfl) rfl (H.out none 0 0 _ kF (Lib.hid ⟨Rd.nil, rfl, by omega⟩))
end
end
/-! ### respond: Of any request; Wrong. -/
section
open Go.RowKit Go.Shelf
set_option linter.unusedVariables false
set_option linter.unusedSimpArgs false
set_option maxRecDepth 100000
/-- What Of tells: the head. -/
noncomputable def ofH (r : Req) (there : Bool) (v mt len : Int) (kd : List UInt8) (now : Int) : List UInt8 :=
  headS ⟨(chooseM r there v mt len).1, r.minor, r.close || (chooseM r there v mt len).1 == 400, v, mt, len, kd, now, (chooseM r there v mt len).2, sumG (partsG (chooseM r there v mt len).1 len kd (chooseM r there v mt len).2)⟩
/-- The parts. -/
noncomputable def ofP (r : Req) (there : Bool) (v mt len : Int) (kd : List UInt8) : List Pt :=
  if (r.m == [72, 69, 65, 68]) = true then [] else partsG (chooseM r there v mt len).1 len kd (chooseM r there v mt len).2
theorem bk5' {w : World} {g tt : Nat} {a b c d e : Value} (h : Bk w g tt [a, b, c, d, e]) : (w.cell? ⟨g, 0, none⟩ = some a ∧ w.cell? ⟨g, 1, none⟩ = some b ∧ w.cell? ⟨g, 2, none⟩ = some c ∧ w.cell? ⟨g, 3, none⟩ = some d ∧ w.cell? ⟨g, 4, none⟩ = some e) ∧ True :=
  ⟨⟨h.cell 0, h.cell 1, h.cell 2, h.cell 3, h.cell 4⟩, trivial⟩
section
variable {R : Ending → World → Prop} {w : World}
set_option maxHeartbeats 8000000 in
theorem rof_gen (r : Req) (there : Bool) (v mt len : Int) (kd : List UInt8) (now : Int) {A : Option Addr} {c : Nat} (hr : Rd w [] A (r.fs.flatMap fldC)) (hn : r.fs.length ≤ 2000) (hc : r.fs.length ≤ c)
    (hv : 0 ≤ v ∧ v ≤ 9223372036854775807) (hmt : 0 ≤ mt ∧ mt ≤ 9223372036854775807) (hlen : 0 ≤ len ∧ len ≤ 35184372088832) (hkd : kd.length ≤ 300) (hw : Lw w) (hsz : ∀ nm, (allF r.fs nm).length ≤ 2000000)
    (h : ∀ A' n c' w', Kp [] w w' → Hid (Rd w' [] A' ((ofP r there v mt len kd).flatMap ptV) ∧ (ofP r there v mt len kd).length = n ∧ n ≤ 21) → R (.returned (.agg #[.int .i64 (chooseM r there v mt len).1, .string (S (ofH r there v mt len kd now)), .slice A' n c', .bool (r.close || (chooseM r there v mt len).1 == 400)])) w') :
    Calls Tryz.prog 11 #[.agg #[.string (S r.m), .string (S r.t), .int .i64 r.minor, .slice A r.fs.length c, .bool r.close], .bool there, .agg #[.int .i64 v, .int .i64 mt, .int .i64 len, .string (S kd)], .int .i64 now] w R := by
  have H := Lib.hid h
  have HR := Lib.hid hr
  have HOK := Lib.hid (choose_ok r there v mt len)
  have hst := choose_st r there v mt len
  have HCh : Hid (∀ (R : Ending → World → Prop) (w1 : World) (g : Nat), Kp [] w w1 → w.heap.size ≤ g → Bk w1 g 75 (ansG 0 r.minor false v mt len kd now none 0 0 none 0 0) → (∀ B n d w', Kp [g] w1 w' → Bk w' g 75 (ansG 0 r.minor false v mt len kd now B n d none 0 0) → Hid (n = (chooseM r there v mt len).2.length ∧ Rd w' [g] B ((chooseM r there v mt len).2.flatMap spV)) → R (.returned (.int .i64 (chooseM r there v mt len).1)) w') → Calls Tryz.prog 30 #[.pointer (some ⟨g, 0, none⟩), .agg #[.string (S r.m), .string (S r.t), .int .i64 r.minor, .slice A r.fs.length c, .bool r.close], .bool there] w1 R) := Lib.hid (fun R w1 g k hg hb h => choose_any r there r.minor false v mt len kd now hb (by
    intro hx
    obtain ⟨b0, off, hA, _, hlt, hcc⟩ := HR.out hx
    refine ⟨b0, off, hA, by simp; omega, Nat.lt_of_lt_of_le hlt k.size, fun j u hu => ?_⟩
    rw [k.cell (p := ⟨b0, off + j, none⟩) hlt (by simp)]
    exact hcc j u hu) hn hc hv hmt hlen (hw.kp k) hsz h)
  have HPl : Hid (∀ (R : Ending → World → Prop) (V w1 : World) (g : Nat) (B : Option Addr) (n d : Nat), Kp [] w V → Kp [] V w1 → V.heap.size ≤ g → Bk w1 g 75 (ansG (chooseM r there v mt len).1 r.minor (r.close || (chooseM r there v mt len).1 == 400) v mt len kd now B n d none 0 0) → n = (chooseM r there v mt len).2.length → Rd w1 [g] B ((chooseM r there v mt len).2.flatMap spV) → (∀ A' n c' w', Kp [] V w' → Hid (Rd w' [] A' ((ofP r there v mt len kd).flatMap ptV) ∧ (ofP r there v mt len kd).length = n ∧ n ≤ 21) → R (.returned (.agg #[.int .i64 (chooseM r there v mt len).1, .string (S (ofH r there v mt len kd now)), .slice A' n c', .bool (r.close || (chooseM r there v mt len).1 == 400)])) w') → Calls Tryz.prog 31 #[.pointer (some ⟨g, 0, none⟩), .bool (r.m == [72, 69, 65, 68])] w1 R) := Lib.hid (fun R V w1 g B n d kV k hg hb hzn hz h => plan_gen _ _ _ v mt len kd now _ _ V k hg hb hst hz hzn.symm (by have := HOK.out.2.2.1; omega) (fun z hzm => okZ_sp hlen.2 (HOK.out.2.1 z hzm)) hv hmt hlen hkd (hw.kp kV) (fun A' n c' w' k' hh => h A' n c' w' k' hh))
  obtain ⟨st, hste⟩ : ∃ st, (chooseM r there v mt len).1 = st := ⟨_, rfl⟩
  obtain ⟨hd, hhd⟩ : ∃ hd, ofH r there v mt len kd now = hd := ⟨_, rfl⟩
  obtain ⟨ps, hps⟩ : ∃ ps, ofP r there v mt len kd = ps := ⟨_, rfl⟩
  obtain ⟨zs, hzs⟩ : ∃ zs, (chooseM r there v mt len).2 = zs := ⟨_, rfl⟩
  rw [hste] at H HCh HPl
  rw [hhd, hps] at H HPl
  rw [hzs] at HCh HPl
  obtain ⟨only, hon⟩ : ∃ only, (r.m == [72, 69, 65, 68]) = only := ⟨_, rfl⟩
  rw [hon] at HPl
  obtain ⟨rc, hrc⟩ : ∃ rc, r.close = rc := ⟨_, rfl⟩
  rw [hrc] at H HCh HPl ⊢
  obtain ⟨cl, hcl⟩ : ∃ cl, (rc || st == 400) = cl := ⟨_, rfl⟩
  rw [hcl] at H HPl
  clear h hr hste hhd hps hzs hsz HOK hst
  go_enter Tryz.func11, Tryz.ntmps11
  go_upto_region 2 with (fail)
  refine gen_worldC (fun W => ∃ (V : World) (g1 g2 g3 g4 : Nat), w.heap.size = g1 ∧ g1 + 1 = g2 ∧ g2 + 1 = g3 ∧ g3 + 1 = g4 ∧ Hid (Kp [] w V ∧ V.heap.size = g4 ∧ Bk V g3 31 [.int .i64 0, .string ⟨#[]⟩, .slice none 0 0, .bool false] ∧ Kp [] V W) ∧ Hid (Kp [] w W ∧ Bk W g1 35 [.string (S r.m), .string (S r.t), .int .i64 r.minor, .slice A r.fs.length c, .bool rc] ∧ Bk W g3 31 [.int .i64 0, .string ⟨#[]⟩, .slice none 0 0, .bool false] ∧ Bk W g4 75 (ansG 0 r.minor false v mt len kd now none 0 0 none 0 0))) ⟨((w.alloc _).alloc _).alloc _, _, _, _, _, rfl, rfl, rfl, rfl, Lib.hid ⟨(((Kp.refl _ _).alloc _).alloc _).alloc _, by simp, (Bk.newAt (by simp) _ _).cast rfl, (Kp.refl _ _).alloc _⟩, Lib.hid ⟨((((Kp.refl _ _).alloc _).alloc _).alloc _).alloc _, ((((Bk.new' _ _ _).alloc _).alloc _).alloc _).cast rfl, ((Bk.newAt (by simp) _ _).alloc _).cast rfl, (Bk.newAt (by simp) _ _).cast rfl⟩⟩ ?_
  rintro W ⟨V, g1, g2, g3, g4, hg1, hg2, hg3, hg4, hV, hW⟩
  rw [hg1, hg2, hg3, hg4]
  have HG : Hid (w.heap.size ≤ g1 ∧ g1 < g3 ∧ g3 < g4) := Lib.hid (by omega)
  clear hg1 hg2 hg3 hg4
  obtain ⟨⟨p0, p1, p2, p3, p4⟩, _⟩ := bk5' hW.out.2.1
  go_upto_region 3 with (go_at_call 30; ((refine HCh.out _ _ _ hW.out.1 (by have := HG.out; omega) hW.out.2.2.2 ?_); intro B n d w1 kg b1 hz; have a0 := b1.cell 0; have f0 := b1.frozen 0))
  clear p0 p1 p2 p3 p4
  have hne := HG.out
  refine gen_worldC (fun W2 => Hid (Kp [] V W2 ∧ Bk W2 g1 35 [.string (S r.m), .string (S r.t), .int .i64 r.minor, .slice A r.fs.length c, .bool rc] ∧ Bk W2 g3 31 [.int .i64 0, .string ⟨#[]⟩, .slice none 0 0, .bool false] ∧ Bk W2 g4 75 (ansG st r.minor false v mt len kd now B n d none 0 0) ∧ Rd W2 [g4] B (zs.flatMap spV))) (Lib.hid ?_) ?_
  · have ks : Kp [g4] w1 (w1.setCell ⟨g4, 0, none⟩ (.int .i64 st)) := (Kp.refl _ _).setCell (.inl (by simp)) _
    have hvs := hV.out.2.1
    exact ⟨(hV.out.2.2.2.thn kg (fun s hs => .inr (by simp at hs; omega))).thn ks (fun s hs => .inr (by simp at hs; omega)), (hW.out.2.1.kp kg (by simp; omega)).kp ks (by simp; omega), (hW.out.2.2.1.kp kg (by simp; omega)).kp ks (by simp; omega), (b1.set_ 0 _).cast rfl, hz.out.2.kp ks (by simp)⟩
  have hzn := Lib.hid hz.out.1
  clear a0 f0 kg b1 hz hW hne
  intro W2 hW2
  obtain ⟨⟨p0, p1, p2, p3, p4⟩, _⟩ := bk5' hW2.out.2.1
  have a0 : W2.cell? ⟨g4, 0, none⟩ = some (.int .i64 st) := hW2.out.2.2.2.1.cell 0
  have a2 : W2.cell? ⟨g4, 2, none⟩ = some (.bool false) := hW2.out.2.2.2.1.cell 2
  have f2 := hW2.out.2.2.2.1.frozen 2
  have HW3 : Hid (∀ W', W' = W2.setCell ⟨g4, 2, none⟩ (.bool cl) → Hid (Kp [] V W' ∧ Bk W' g1 35 [.string (S r.m), .string (S r.t), .int .i64 r.minor, .slice A r.fs.length c, .bool rc] ∧ Bk W' g3 31 [.int .i64 0, .string ⟨#[]⟩, .slice none 0 0, .bool false] ∧ Bk W' g4 75 (ansG st r.minor cl v mt len kd now B n d none 0 0) ∧ Rd W' [g4] B (zs.flatMap spV))) := Lib.hid (fun W' e => by
    have hne := HG.out
    have hvs := hV.out.2.1
    subst e
    have ks : Kp [g4] W2 (W2.setCell ⟨g4, 2, none⟩ (.bool cl)) := (Kp.refl _ _).setCell (.inl (by simp)) _
    exact Lib.hid ⟨hW2.out.1.thn ks (fun s hs => .inr (by simp at hs; omega)), hW2.out.2.1.kp ks (by simp; omega), hW2.out.2.2.1.kp ks (by simp; omega), (hW2.out.2.2.2.1.set_ 2 _).cast rfl, hW2.out.2.2.2.2.kp ks (by simp)⟩)
  go_cut [] (fun W' => Hid (Kp [] V W' ∧ Bk W' g1 35 [.string (S r.m), .string (S r.t), .int .i64 r.minor, .slice A r.fs.length c, .bool rc] ∧ Bk W' g3 31 [.int .i64 0, .string ⟨#[]⟩, .slice none 0 0, .bool false] ∧ Bk W' g4 75 (ansG st r.minor cl v mt len kd now B n d none 0 0) ∧ Rd W' [g4] B (zs.flatMap spV)))
  case first =>
    cases rc with
    | true =>
      have hcl2 : cl = true := by rw [← hcl]; rfl
      subst hcl2
      go_wp2
      go_meet
      exact HW3.out _ rfl
    | false =>
      have hcl2 : (st == 400) = cl := by rw [← hcl]; rfl
      clear hcl
      go_wp2
      go_meet
      exact HW3.out _ rfl
  case rest =>
    have hW3 := hcut
    clear hcut p0 p1 p2 p3 p4 a0 a2 f2 HW3
    clear hW2
    obtain ⟨⟨p0, p1, p2, p3, p4⟩, _⟩ := bk5' hW3.out.2.1
    go_wp2_with (go_at_call 31; ((refine HPl.out _ V _ g4 B n d hV.out.1 hW3.out.1 (by rw [hV.out.2.1]; exact Nat.le_refl _) hW3.out.2.2.2.1 hzn.out hW3.out.2.2.2.2 ?_); intro A5 n5 c5 w5 k5 h5; have br := hV.out.2.2.1.kp k5 (by simp); obtain ⟨⟨s0, s1, s2, s3⟩, ⟨t0, t1, t2, t3⟩⟩ := bk4r br))
    obtain ⟨W', hW', kW, bW⟩ := put4 br (.int .i64 st) (.string (S hd)) (.slice A5 n5 c5) (.bool cl)
    rw [hW']
    obtain ⟨⟨c0, c1, c2, c3⟩, _⟩ := bk4r bW
    have kF : Kp [] w W' := (hV.out.1.trans k5).thn kW (fun s hs => .inr (by have := HG.out; simp at hs; omega))
    exact bodyPost_ret (v := .agg #[.int .i64 st, .string (S hd), .slice A5 n5 c5, .bool cl]) (by simp [results, Tryz.results11, go_sem, c0, c1, c2, c3]; try rfl) rfl (H.out A5 n5 c5 _ kF (Lib.hid ⟨((rd_notP h5.out.1 br).kp kW (by simp)).sub (by simp), h5.out.2⟩))
end
/-- The answer to what is none. -/
def wrS (s : Int) : Int := if s = 414 ∨ s = 431 ∨ s = 501 ∨ s = 505 then s else 400
noncomputable def wrH (s now : Int) : List UInt8 := headS ⟨wrS s, 1, true, 0, 0, 0, [], now, [], sumG (partsG (wrS s) 0 [] [])⟩
theorem wrS_bd (s : Int) : 400 ≤ wrS s ∧ wrS s ≤ 505 := by unfold wrS; split <;> omega
section
variable {R : Ending → World → Prop} {w : World}
set_option maxHeartbeats 4000000 in
theorem rwrong_gen (s now : Int) (hw : Lw w)
    (h : ∀ A n c w', Kp [] w w' → Hid (Rd w' [] A ((partsG (wrS s) 0 [] []).flatMap ptV) ∧ (partsG (wrS s) 0 [] []).length = n ∧ n ≤ 21) → R (.returned (.agg #[.int .i64 (wrS s), .string (S (wrH s now)), .slice A n c, .bool true])) w') :
    Calls Tryz.prog 15 #[.int .i64 s, .int .i64 now] w R := by
  have H := Lib.hid h
  have hbd := wrS_bd s
  have HP : Hid (∀ (R : Ending → World → Prop) (V w1 : World) (g : Nat), Kp [] w V → Kp [] V w1 → V.heap.size ≤ g → Bk w1 g 75 (ansG (wrS s) 1 true 0 0 0 [] now none 0 0 none 0 0) → (∀ A n c w', Kp [] V w' → Hid (Rd w' [] A ((partsG (wrS s) 0 [] []).flatMap ptV) ∧ (partsG (wrS s) 0 [] []).length = n ∧ n ≤ 21) → R (.returned (.agg #[.int .i64 (wrS s), .string (S (wrH s now)), .slice A n c, .bool true])) w') → Calls Tryz.prog 31 #[.pointer (some ⟨g, 0, none⟩), .bool false] w1 R) := Lib.hid (fun R V w1 g kV k hg hb h => plan_gen (wrS s) 1 true 0 0 0 [] now [] false V k hg hb (by omega) Rd.nil rfl (by omega) (by simp) (by omega) (by omega) (by omega) (by simp) (hw.kp kV) (fun A n c w' k' hh => h A n c w' k' hh))
  have hs : (wrS s = s ∧ (s = 414 ∨ s = 431 ∨ s = 501 ∨ s = 505)) ∨ (wrS s = 400 ∧ ¬ s = 414 ∧ ¬ s = 431 ∧ ¬ s = 501 ∧ ¬ s = 505) := by unfold wrS; split <;> omega
  obtain ⟨hd, hhd⟩ : ∃ hd, wrH s now = hd := ⟨_, rfl⟩
  rw [hhd] at H HP
  clear h hhd
  generalize partsG (wrS s) 0 [] [] = ps at H HP
  generalize wrS s = z at H HP hs hbd
  clear hbd
  rcases hs with ⟨rfl, rfl | rfl | rfl | rfl⟩ | ⟨rfl, h1, h2, h3, h4⟩
  all_goals
    go_enter Tryz.func15, Tryz.ntmps15
    go_wp2_with (go_at_call 31; ((refine HP.out _ (w.alloc (.cells #[.int .i64 0, .string ⟨#[]⟩, .slice none 0 0, .bool false] 31)) _ _ ((Kp.refl _ _).alloc _) ((Kp.refl _ _).alloc _) (by simp) ((Bk.newAt (by simp) _ _).cast rfl) ?_); intro A5 n5 c5 w5 k5 h5; have br : Bk w5 w.heap.size 31 [.int .i64 0, .string ⟨#[]⟩, .slice none 0 0, .bool false] := ((Bk.new' w _ _).kp k5 (by simp)).cast rfl; obtain ⟨⟨s0, s1, s2, s3⟩, ⟨t0, t1, t2, t3⟩⟩ := bk4r br))
    obtain ⟨W', hW', kW, bW⟩ := put4 br (.int .i64 _) (.string (S hd)) (.slice A5 n5 c5) (.bool true)
    rw [hW']
    obtain ⟨⟨c0, c1, c2, c3⟩, _⟩ := bk4r bW
    exact bodyPost_ret (v := .agg #[.int .i64 _, .string (S hd), .slice A5 n5 c5, .bool true]) (by simp [results, Tryz.results15, go_sem, c0, c1, c2, c3]; try rfl) rfl (H.out A5 n5 c5 _ ((((Kp.refl [] w).alloc _).trans k5).thn kW (fun s hs => .inr (by simp at hs; omega))) (Lib.hid ⟨((rd_notP h5.out.1 br).kp kW (by simp)).sub (by simp), h5.out.2⟩))
end
end
/-! ### serve: Plan. -/
section
open Go.RowKit Go.Shelf
set_option linter.unusedVariables false
set_option linter.unusedSimpArgs false
set_option maxRecDepth 100000
/-- What a plan tells: status, head, parts, does it close. -/
noncomputable def planT (a : AskP) (there : Bool) (v mt len : Int) (kd : List UInt8) (now : Int) : Int × List UInt8 × List Pt × Bool :=
  if a.2.1 = 0 then ((chooseM a.2.2 (there && !(a.1 == [])) v mt len).1, ofH a.2.2 (there && !(a.1 == [])) v mt len kd now, ofP a.2.2 (there && !(a.1 == [])) v mt len kd, a.2.2.close || (chooseM a.2.2 (there && !(a.1 == [])) v mt len).1 == 400)
  else (wrS a.2.1, wrH a.2.1 now, partsG (wrS a.2.1) 0 [] [], true)
/-- A request whose fields are few and short. -/
def okR (r : Req) : Prop := r.fs.length ≤ 2000 ∧ ∀ nm, (allF r.fs nm).length ≤ 2000000
section
variable {R : Ending → World → Prop} {w0 w : World} {tg pg : Nat} {s : TkS}
theorem splan_nil (there : Bool) (v mt len now : Int) (kd : List UInt8) (h : ∀ w', Kp [] w w' → R (.returned (.agg #[.int .i64 0, .string ⟨#[]⟩, .slice none 0 0, .bool false])) w') : Calls Tryz.prog 23 #[.pointer none, .bool there, .agg #[.int .i64 v, .int .i64 mt, .int .i64 len, .string (S kd)], .int .i64 now] w R := by
  have H := Lib.hid h
  clear h
  go_enter Tryz.func23, Tryz.ntmps23
  go_wp2
  exact bodyPost_ret (v := .agg #[.int .i64 0, .string ⟨#[]⟩, .slice none 0 0, .bool false]) (by simp [results, Tryz.results23, go_sem]; try rfl) rfl (H.out _ (((Kp.refl _ _).alloc _).alloc _))
theorem splan_none (ht : Tk w tg pg s) (hs : s.op = none) (there : Bool) (v mt len now : Int) (kd : List UInt8) (h : ∀ w', Kp [] w w' → R (.returned (.agg #[.int .i64 0, .string ⟨#[]⟩, .slice none 0 0, .bool false])) w') : Calls Tryz.prog 23 #[.pointer (some ⟨tg, 0, none⟩), .bool there, .agg #[.int .i64 v, .int .i64 mt, .int .i64 len, .string (S kd)], .int .i64 now] w R := by
  have H := Lib.hid h
  obtain ⟨oa, b1, o1⟩ := ht.tk
  rw [hs] at o1
  have hoa : oa = none := o1
  subst hoa
  have t1 : w.cell? ⟨tg, 1, none⟩ = some (.pointer none) := b1.cell 1
  have hlt := b1.lt
  clear h ht b1 o1
  go_enter Tryz.func23, Tryz.ntmps23
  go_wp2
  exact bodyPost_ret (v := .agg #[.int .i64 0, .string ⟨#[]⟩, .slice none 0 0, .bool false]) (by simp [results, Tryz.results23, go_sem]; try rfl) rfl (H.out _ (((Kp.refl _ _).alloc _).alloc _))
set_option maxHeartbeats 8000000 in
theorem splan_any (hw : Lw w0) (ht : TB w0 w tg pg s) {a : AskP} (hs : s.op = some a) (hok : okR a.2.2) (there : Bool) (v mt len now : Int) (kd : List UInt8) (hv : 0 ≤ v ∧ v ≤ 9223372036854775807) (hmt : 0 ≤ mt ∧ mt ≤ 9223372036854775807) (hlen : 0 ≤ len ∧ len ≤ 35184372088832) (hkd : kd.length ≤ 300)
    (h : ∀ A n c w', Kp [] w w' → Hid (Rd w' [] A ((planT a there v mt len kd now).2.2.1.flatMap ptV) ∧ (planT a there v mt len kd now).2.2.1.length = n ∧ n ≤ 21) → R (.returned (.agg #[.int .i64 (planT a there v mt len kd now).1, .string (S (planT a there v mt len kd now).2.1), .slice A n c, .bool (planT a there v mt len kd now).2.2.2])) w') :
    Calls Tryz.prog 23 #[.pointer (some ⟨tg, 0, none⟩), .bool there, .agg #[.int .i64 v, .int .i64 mt, .int .i64 len, .string (S kd)], .int .i64 now] w R := by
  have H := Lib.hid h
  obtain ⟨oa, b1, o1⟩ := ht.tk.tk
  rw [hs] at o1
  obtain ⟨ag, A, c, rfl, hna, hba, hra, hca⟩ := o1.lt
  have hlw := hw.kp ht.kp
  have HB := Lib.hid b1
  have HA := Lib.hid hba
  obtain ⟨nm, st, r⟩ := a
  simp only at hba hra hca hok
  have hlt := b1.lt
  have hla := hba.lt
  unfold planT at H
  simp only at H
  clear h
  by_cases h0 : st = 0
  · subst h0
    rw [if_pos rfl] at H
    simp only at H
    have HOf : Hid (∀ (R : Ending → World → Prop) (w1 : World), Kp [] w w1 → (∀ A' n c' w', Kp [] w1 w' → Hid (Rd w' [] A' ((ofP r (there && !(nm == [])) v mt len kd).flatMap ptV) ∧ (ofP r (there && !(nm == [])) v mt len kd).length = n ∧ n ≤ 21) → R (.returned (.agg #[.int .i64 (chooseM r (there && !(nm == [])) v mt len).1, .string (S (ofH r (there && !(nm == [])) v mt len kd now)), .slice A' n c', .bool (r.close || (chooseM r (there && !(nm == [])) v mt len).1 == 400)])) w') → Calls Tryz.prog 11 #[.agg #[.string (S r.m), .string (S r.t), .int .i64 r.minor, .slice A r.fs.length c, .bool r.close], .bool (there && !(nm == [])), .agg #[.int .i64 v, .int .i64 mt, .int .i64 len, .string (S kd)], .int .i64 now] w1 R) := Lib.hid (fun R w1 k h => rof_gen r _ v mt len kd now ((hra.sub (by simp)).kp k (by simp)) hok.1 hca hv hmt hlen hkd (hlw.kp k) hok.2 h)
    obtain ⟨st2, e1⟩ : ∃ x, (chooseM r (there && !(nm == [])) v mt len).1 = x := ⟨_, rfl⟩
    obtain ⟨hd, e2⟩ : ∃ x, ofH r (there && !(nm == [])) v mt len kd now = x := ⟨_, rfl⟩
    obtain ⟨ps, e3⟩ : ∃ x, ofP r (there && !(nm == [])) v mt len kd = x := ⟨_, rfl⟩
    obtain ⟨cl, e4⟩ : ∃ x, (r.close || st2 == 400) = x := ⟨_, rfl⟩
    rw [e1] at H HOf
    rw [e4] at H HOf
    rw [e2, e3] at H HOf
    obtain ⟨ne, hne⟩ : ∃ x, (nm == []) = x := ⟨_, rfl⟩
    rw [hne] at HOf
    clear e1 e2 e3 e4 ht hs b1 o1 hba hra hca hok
    go_enter Tryz.func23, Tryz.ntmps23
    go_upto_region 1 with (fail)
    refine gen_worldC (fun W => ∃ g1 rb, w.heap.size = g1 ∧ g1 + 1 = rb ∧ Hid (Kp [] w W ∧ Bk W g1 37 [.int .i64 v, .int .i64 mt, .int .i64 len, .string (S kd)] ∧ Bk W rb 31 [.int .i64 0, .string ⟨#[]⟩, .slice none 0 0, .bool false])) ⟨_, _, rfl, rfl, Lib.hid ⟨((Kp.refl _ _).alloc _).alloc _, ((Bk.new' _ _ _).alloc _).cast rfl, (Bk.newAt (by simp) _ _).cast rfl⟩⟩ ?_
    rintro W ⟨g1, rb, hg1, hrb, hW⟩
    rw [hg1, hrb]
    have HRB : Hid (w.heap.size ≤ g1 ∧ g1 < rb) := Lib.hid (by omega)
    have HS : Hid (∀ W', Kp [rb] W W' → W'.cell? ⟨tg, 1, none⟩ = some (.pointer (some ⟨ag, 0, none⟩)) ∧ (W'.cell? ⟨ag, 0, none⟩ = some (.string (S nm)) ∧ W'.cell? ⟨ag, 1, none⟩ = some (.int .i64 0) ∧ W'.cell? ⟨ag, 2, none⟩ = some (.string (S r.m)) ∧ W'.cell? ⟨ag, 3, none⟩ = some (.string (S r.t)) ∧ W'.cell? ⟨ag, 4, none⟩ = some (.int .i64 r.minor) ∧ W'.cell? ⟨ag, 5, none⟩ = some (.slice A r.fs.length c) ∧ W'.cell? ⟨ag, 6, none⟩ = some (.bool r.close)) ∧ (W'.cell? ⟨g1, 0, none⟩ = some (.int .i64 v) ∧ W'.cell? ⟨g1, 1, none⟩ = some (.int .i64 mt) ∧ W'.cell? ⟨g1, 2, none⟩ = some (.int .i64 len) ∧ W'.cell? ⟨g1, 3, none⟩ = some (.string (S kd)))) := Lib.hid (fun W' k' => ⟨((HB.out.kp hW.out.1 (by simp)).kp k' (by have := HRB.out; simp; omega)).cell 1, (bk7r ((HA.out.kp hW.out.1 (by simp)).kp k' (by have := HRB.out; simp; omega))).1, (bk4r (hW.out.2.1.kp k' (by have := HRB.out; simp; omega))).1⟩)
    clear hg1 hrb
    obtain ⟨t1, ⟨a0, a1, a2, a3, a4, a5, a6⟩, ⟨q0, q1, q2, q3⟩⟩ := HS.out W (Kp.refl _ _)
    go_upto_region 5 with (fail)
    have HWD : Hid (Kp [] W W.drew) := Lib.hid (Kp.refl _ _).drew
    have HWDm : Hid (Kp [rb] W W.drew) := Lib.hid (Kp.refl _ _).drew
    have HPB : Hid (∀ W', Kp [] W W' → Bk W' rb 31 [.int .i64 0, .string ⟨#[]⟩, .slice none 0 0, .bool false]) := Lib.hid (fun W' k => hW.out.2.2.kp k (by simp))
    have HOf2 : Hid (∀ (b : Bool), (there && !ne) = b → ∀ (R : Ending → World → Prop), (∀ A' n c' w', Kp [] W w' → Hid (Rd w' [] A' (ps.flatMap ptV) ∧ ps.length = n ∧ n ≤ 21) → R (.returned (.agg #[.int .i64 st2, .string (S hd), .slice A' n c', .bool cl])) w') → Calls Tryz.prog 11 #[.agg #[.string (S r.m), .string (S r.t), .int .i64 r.minor, .slice A r.fs.length c, .bool r.close], .bool b, .agg #[.int .i64 v, .int .i64 mt, .int .i64 len, .string (S kd)], .int .i64 now] W.drew R) := Lib.hid (fun b e R h => by rw [← e]; exact HOf.out R _ (hW.out.1.trans HWD.out) (fun A' n c' w' k hh => h A' n c' w' (HWD.out.trans k) hh))
    clear HOf
    cases there with
    | true =>
      have HOf3 := Lib.hid (HOf2.out (!ne) rfl)
      clear HOf2
      have hne2 : ((nm == []) = ne) := hne
      go_region_held_law (fun W' => W'.cell? ⟨tg, 1, none⟩ = some (.pointer (some ⟨ag, 0, none⟩)) ∧ (W'.cell? ⟨ag, 0, none⟩ = some (.string (S nm)) ∧ W'.cell? ⟨ag, 1, none⟩ = some (.int .i64 0) ∧ W'.cell? ⟨ag, 2, none⟩ = some (.string (S r.m)) ∧ W'.cell? ⟨ag, 3, none⟩ = some (.string (S r.t)) ∧ W'.cell? ⟨ag, 4, none⟩ = some (.int .i64 r.minor) ∧ W'.cell? ⟨ag, 5, none⟩ = some (.slice A r.fs.length c) ∧ W'.cell? ⟨ag, 6, none⟩ = some (.bool r.close)) ∧ (W'.cell? ⟨g1, 0, none⟩ = some (.int .i64 v) ∧ W'.cell? ⟨g1, 1, none⟩ = some (.int .i64 mt) ∧ W'.cell? ⟨g1, 2, none⟩ = some (.int .i64 len) ∧ W'.cell? ⟨g1, 3, none⟩ = some (.string (S kd)))) (first | with_reducible exact HS.out _ kk5m | with_reducible exact HS.out _ HWDm.out | (refine HS.out _ ?_; repeat (first | with_reducible exact kk5m | refine Kp.setCell ?_ (.inl (by simp)) _))) (first | (go_simp; go_at_call 11; (refine HOf3.out _ ?_); intro A5 n5 c5 w5 kk5 h5; have kk5m : Kp [rb] W w5 := kk5.mono (by simp); have br := HPB.out _ kk5; obtain ⟨⟨s0, s1, s2, s3⟩, ⟨f0, f1, f2, f3⟩⟩ := bk4r br))
      all_goals
        go_wp2
        obtain ⟨W', hW', kW, bW⟩ := put4 br (.int .i64 st2) (.string (S hd)) (.slice A5 n5 c5) (.bool cl)
        rw [hW']
        obtain ⟨⟨c0, c1, c2, c3⟩, _⟩ := bk4r bW
        have kF : Kp [] w W' := (hW.out.1.trans kk5).thn kW (fun s hs => .inr (by have := HRB.out; simp at hs; omega))
        exact bodyPost_ret (v := .agg #[.int .i64 st2, .string (S hd), .slice A5 n5 c5, .bool cl]) (by simp [results, Tryz.results23, go_sem, c0, c1, c2, c3]; try rfl) rfl (H.out A5 n5 c5 _ kF (Lib.hid ⟨((rd_notP h5.out.1 br).kp kW (by simp)).sub (by simp), h5.out.2⟩))
    | false =>
      have HOf3 := Lib.hid (HOf2.out false rfl)
      clear HOf2
      refine wp_region_held_drew (S := fun W' => W'.cell? ⟨tg, 1, none⟩ = some (.pointer (some ⟨ag, 0, none⟩)) ∧ (W'.cell? ⟨ag, 0, none⟩ = some (.string (S nm)) ∧ W'.cell? ⟨ag, 1, none⟩ = some (.int .i64 0) ∧ W'.cell? ⟨ag, 2, none⟩ = some (.string (S r.m)) ∧ W'.cell? ⟨ag, 3, none⟩ = some (.string (S r.t)) ∧ W'.cell? ⟨ag, 4, none⟩ = some (.int .i64 r.minor) ∧ W'.cell? ⟨ag, 5, none⟩ = some (.slice A r.fs.length c) ∧ W'.cell? ⟨ag, 6, none⟩ = some (.bool r.close)) ∧ (W'.cell? ⟨g1, 0, none⟩ = some (.int .i64 v) ∧ W'.cell? ⟨g1, 1, none⟩ = some (.int .i64 mt) ∧ W'.cell? ⟨g1, 2, none⟩ = some (.int .i64 len) ∧ W'.cell? ⟨g1, 3, none⟩ = some (.string (S kd)))) (by kernel_rfl) (HS.out _ HWDm.out) (fun hHeld => ?_)
      refine wpAnyH_take (i := 0) (oi := { dst := some 38, op := Op.move (Operand.tmp 0), type := 49, pos := "serve.go:74", after := #[], guard := none }) (v := ?_) rfl (by kernel_rfl) (by kernel_rfl) (by kernel_rfl) (fun _ _ _ h => h) (Or.inl ⟨by rfl, ?_⟩) hHeld ?_
      rotate_left
      · intro w hSw; (try dsimp only at hSw); go_split_ands; go_simp; (try with_reducible rfl)
      (try simp only [Act.put, List.setIfInBounds_toArray, List.set_cons_zero, List.set_cons_succ])
      refine wpAnyH_take (i := 1) (oi := { dst := some 39, op := Op.nilCheck (Operand.tmp 38), type := 0, pos := "serve.go:74", after := #[{ on := 0, ground := Ground.data }], guard := none }) (v := ?_) rfl (by kernel_rfl) (by kernel_rfl) (by kernel_rfl) (fun _ _ _ h => h) (Or.inl ⟨by rfl, ?_⟩) hHeld ?_
      rotate_left
      · intro w hSw; (try dsimp only at hSw); go_split_ands; go_simp; (try with_reducible rfl)
      (try simp only [Act.put, List.setIfInBounds_toArray, List.set_cons_zero, List.set_cons_succ])
      refine wpAnyH_take (i := 2) (oi := { dst := some 40, op := Op.fieldAddr 85 (Operand.tmp 39) 1, type := 0, pos := "serve.go:74", after := #[{ on := 1, ground := Ground.data }], guard := none }) (v := ?_) rfl (by kernel_rfl) (by kernel_rfl) (by kernel_rfl) (fun _ _ _ h => h) (Or.inl ⟨by rfl, ?_⟩) hHeld ?_
      rotate_left
      · intro w hSw; (try dsimp only at hSw); go_split_ands; go_simp; (try with_reducible rfl)
      (try simp only [Act.put, List.setIfInBounds_toArray, List.set_cons_zero, List.set_cons_succ])
      refine wpAnyH_take (i := 3) (oi := { dst := some 41, op := Op.load 83 (Operand.tmp 40), type := 83, pos := "serve.go:74", after := #[{ on := 2, ground := Ground.data }], guard := none }) (v := ?_) rfl (by kernel_rfl) (by kernel_rfl) (by kernel_rfl) (fun _ _ _ h => h) (Or.inl ⟨by rfl, ?_⟩) hHeld ?_
      rotate_left
      · intro w hSw; (try dsimp only at hSw); go_split_ands; go_simp; (try with_reducible rfl)
      (try simp only [Act.put, List.setIfInBounds_toArray, List.set_cons_zero, List.set_cons_succ])
      refine wpAnyH_take (i := 4) (oi := { dst := some 42, op := Op.nilCheck (Operand.tmp 41), type := 0, pos := "serve.go:74", after := #[{ on := 3, ground := Ground.data }], guard := none }) (v := ?_) rfl (by kernel_rfl) (by kernel_rfl) (by kernel_rfl) (fun _ _ _ h => h) (Or.inl ⟨by rfl, ?_⟩) hHeld ?_
      rotate_left
      · intro w hSw; (try dsimp only at hSw); go_split_ands; go_simp; (try with_reducible rfl)
      (try simp only [Act.put, List.setIfInBounds_toArray, List.set_cons_zero, List.set_cons_succ])
      refine wpAnyH_take (i := 5) (oi := { dst := some 43, op := Op.fieldAddr 54 (Operand.tmp 42) 2, type := 0, pos := "serve.go:74", after := #[{ on := 4, ground := Ground.data }], guard := none }) (v := ?_) rfl (by kernel_rfl) (by kernel_rfl) (by kernel_rfl) (fun _ _ _ h => h) (Or.inl ⟨by rfl, ?_⟩) hHeld ?_
      rotate_left
      · intro w hSw; (try dsimp only at hSw); go_split_ands; go_simp; (try with_reducible rfl)
      (try simp only [Act.put, List.setIfInBounds_toArray, List.set_cons_zero, List.set_cons_succ])
      refine wpAnyH_take (i := 6) (oi := { dst := some 44, op := Op.load 35 (Operand.tmp 43), type := 35, pos := "serve.go:74", after := #[{ on := 5, ground := Ground.data }], guard := none }) (v := ?_) rfl (by kernel_rfl) (by kernel_rfl) (by kernel_rfl) (fun _ _ _ h => h) (Or.inl ⟨by rfl, ?_⟩) hHeld ?_
      rotate_left
      · intro w hSw; (try dsimp only at hSw); go_split_ands; go_simp; (try with_reducible rfl)
      (try simp only [Act.put, List.setIfInBounds_toArray, List.set_cons_zero, List.set_cons_succ])
      refine wpAnyH_take (i := 7) (oi := { dst := some 45, op := Op.move (Operand.tmp 1), type := 4, pos := "serve.go:74", after := #[], guard := none }) (v := ?_) rfl (by kernel_rfl) (by kernel_rfl) (by kernel_rfl) (fun _ _ _ h => h) (Or.inl ⟨by rfl, ?_⟩) hHeld ?_
      rotate_left
      · intro w hSw; (try dsimp only at hSw); go_split_ands; go_simp; (try with_reducible rfl)
      (try simp only [Act.put, List.setIfInBounds_toArray, List.set_cons_zero, List.set_cons_succ])
      refine wpAnyH_take (i := 8) (oi := { dst := some 46, op := Op.move (Operand.tmp 45), type := 4, pos := "serve.go:74", after := #[{ on := 7, ground := Ground.data }], guard := none }) (v := ?_) rfl (by kernel_rfl) (by kernel_rfl) (by kernel_rfl) (fun _ _ _ h => h) (Or.inl ⟨by rfl, ?_⟩) hHeld ?_
      rotate_left
      · intro w hSw; (try dsimp only at hSw); go_split_ands; go_simp; (try with_reducible rfl)
      (try simp only [Act.put, List.setIfInBounds_toArray, List.set_cons_zero, List.set_cons_succ])
      refine wpAnyH_take (i := 9) (oi := { dst := some 47, op := Op.move (Operand.tmp 0), type := 49, pos := "serve.go:74", after := #[{ on := 8, ground := Ground.guard }], guard := some (8, true) }) (v := undef) rfl (by kernel_rfl) (by kernel_rfl) (by kernel_rfl) (fun _ _ _ h => h) (Or.inr ⟨by rfl, rfl⟩) hHeld ?_
      (try simp only [Act.put, List.setIfInBounds_toArray, List.set_cons_zero, List.set_cons_succ])
      refine wpAnyH_take (i := 10) (oi := { dst := some 48, op := Op.nilCheck (Operand.tmp 47), type := 0, pos := "serve.go:74", after := #[{ on := 9, ground := Ground.data }, { on := 8, ground := Ground.guard }], guard := some (8, true) }) (v := undef) rfl (by kernel_rfl) (by kernel_rfl) (by kernel_rfl) (fun _ _ _ h => h) (Or.inr ⟨by rfl, rfl⟩) hHeld ?_
      (try simp only [Act.put, List.setIfInBounds_toArray, List.set_cons_zero, List.set_cons_succ])
      refine wpAnyH_take (i := 11) (oi := { dst := some 49, op := Op.fieldAddr 85 (Operand.tmp 48) 1, type := 0, pos := "serve.go:74", after := #[{ on := 10, ground := Ground.data }, { on := 8, ground := Ground.guard }], guard := some (8, true) }) (v := undef) rfl (by kernel_rfl) (by kernel_rfl) (by kernel_rfl) (fun _ _ _ h => h) (Or.inr ⟨by rfl, rfl⟩) hHeld ?_
      (try simp only [Act.put, List.setIfInBounds_toArray, List.set_cons_zero, List.set_cons_succ])
      refine wpAnyH_take (i := 12) (oi := { dst := some 50, op := Op.load 83 (Operand.tmp 49), type := 83, pos := "serve.go:74", after := #[{ on := 11, ground := Ground.data }, { on := 8, ground := Ground.guard }], guard := some (8, true) }) (v := undef) rfl (by kernel_rfl) (by kernel_rfl) (by kernel_rfl) (fun _ _ _ h => h) (Or.inr ⟨by rfl, rfl⟩) hHeld ?_
      (try simp only [Act.put, List.setIfInBounds_toArray, List.set_cons_zero, List.set_cons_succ])
      refine wpAnyH_take (i := 13) (oi := { dst := some 51, op := Op.nilCheck (Operand.tmp 50), type := 0, pos := "serve.go:74", after := #[{ on := 12, ground := Ground.data }, { on := 8, ground := Ground.guard }], guard := some (8, true) }) (v := undef) rfl (by kernel_rfl) (by kernel_rfl) (by kernel_rfl) (fun _ _ _ h => h) (Or.inr ⟨by rfl, rfl⟩) hHeld ?_
      (try simp only [Act.put, List.setIfInBounds_toArray, List.set_cons_zero, List.set_cons_succ])
      refine wpAnyH_take (i := 14) (oi := { dst := some 52, op := Op.fieldAddr 54 (Operand.tmp 51) 0, type := 0, pos := "serve.go:74", after := #[{ on := 13, ground := Ground.data }, { on := 8, ground := Ground.guard }], guard := some (8, true) }) (v := undef) rfl (by kernel_rfl) (by kernel_rfl) (by kernel_rfl) (fun _ _ _ h => h) (Or.inr ⟨by rfl, rfl⟩) hHeld ?_
      (try simp only [Act.put, List.setIfInBounds_toArray, List.set_cons_zero, List.set_cons_succ])
      refine wpAnyH_take (i := 15) (oi := { dst := some 53, op := Op.load 9 (Operand.tmp 52), type := 9, pos := "serve.go:74", after := #[{ on := 14, ground := Ground.data }, { on := 8, ground := Ground.guard }], guard := some (8, true) }) (v := undef) rfl (by kernel_rfl) (by kernel_rfl) (by kernel_rfl) (fun _ _ _ h => h) (Or.inr ⟨by rfl, rfl⟩) hHeld ?_
      (try simp only [Act.put, List.setIfInBounds_toArray, List.set_cons_zero, List.set_cons_succ])
      refine wpAnyH_take (i := 16) (oi := { dst := some 54, op := Op.binOp BinOp.neq 9 (Operand.tmp 53) (Operand.const (Value.string { data := #[] })) 9, type := 4, pos := "serve.go:74", after := #[{ on := 15, ground := Ground.data }, { on := 8, ground := Ground.guard }], guard := some (8, true) }) (v := undef) rfl (by kernel_rfl) (by kernel_rfl) (by kernel_rfl) (fun _ _ _ h => h) (Or.inr ⟨by rfl, rfl⟩) hHeld ?_
      (try simp only [Act.put, List.setIfInBounds_toArray, List.set_cons_zero, List.set_cons_succ])
      refine wpAnyH_take (i := 17) (oi := { dst := some 55, op := Op.pick (Operand.tmp 46) (Operand.tmp 54) (Operand.const (Value.bool false)), type := 4, pos := "serve.go:74", after := #[{ on := 8, ground := Ground.data }, { on := 16, ground := Ground.data }], guard := none }) (v := ?_) rfl (by kernel_rfl) (by kernel_rfl) (by kernel_rfl) (fun _ _ _ h => h) (Or.inl ⟨by rfl, ?_⟩) hHeld ?_
      rotate_left
      · intro w hSw; (try dsimp only at hSw); go_split_ands; go_simp; (try with_reducible rfl)
      (try simp only [Act.put, List.setIfInBounds_toArray, List.set_cons_zero, List.set_cons_succ])
      refine wpAnyH_take (i := 18) (oi := { dst := some 56, op := Op.load 37 (Operand.tmp 6), type := 37, pos := "serve.go:74", after := #[], guard := none }) (v := ?_) rfl (by kernel_rfl) (by kernel_rfl) (by kernel_rfl) (fun _ _ _ h => h) (Or.inl ⟨by rfl, ?_⟩) hHeld ?_
      rotate_left
      · intro w hSw; (try dsimp only at hSw); go_split_ands; go_simp; (try with_reducible rfl)
      (try simp only [Act.put, List.setIfInBounds_toArray, List.set_cons_zero, List.set_cons_succ])
      refine wpAnyH_take (i := 19) (oi := { dst := some 57, op := Op.move (Operand.tmp 3), type := 2, pos := "serve.go:74", after := #[], guard := none }) (v := ?_) rfl (by kernel_rfl) (by kernel_rfl) (by kernel_rfl) (fun _ _ _ h => h) (Or.inl ⟨by rfl, ?_⟩) hHeld ?_
      rotate_left
      · intro w hSw; (try dsimp only at hSw); go_split_ands; go_simp; (try with_reducible rfl)
      (try simp only [Act.put, List.setIfInBounds_toArray, List.set_cons_zero, List.set_cons_succ])
      refine wpAnyH_ready (rs := [20]) (by kernel_rfl) (by simp) ?_
      refine AllReadyH.cons rfl (fun K hK => ?_) AllReadyH.nil
      rw [if_pos (by rfl)]
      go_simp
      go_at_call 11
      refine HOf3.out _ ?_
      intro A5 n5 c5 w5 kk5 h5
      have kk5m : Kp [rb] W w5 := kk5.mono (by simp)
      have br := HPB.out _ kk5
      obtain ⟨⟨s0, s1, s2, s3⟩, ⟨f0, f1, f2, f3⟩⟩ := bk4r br
      go_wp2
      refine hK.out _ _ (HS.out _ kk5m) (fun hHeld => ?_)
      clear hK K
      (try simp only [Act.put, List.setIfInBounds_toArray, List.set_cons_zero, List.set_cons_succ])
      refine wpAnyH_ready (rs := [21]) (by kernel_rfl) (by simp) ?_
      refine AllReadyH.cons rfl (fun K hK => ?_) AllReadyH.nil
      rw [if_pos (by rfl)]
      go_simp
      refine hK.out _ _ (HS.out _ ((((kk5m.setCell (.inl (by simp)) _).setCell (.inl (by simp)) _).setCell (.inl (by simp)) _).setCell (.inl (by simp)) _)) (fun hHeld => ?_)
      clear hK K
      (try simp only [Act.put, List.setIfInBounds_toArray, List.set_cons_zero, List.set_cons_succ])
      refine wpAnyH_done (by kernel_rfl) ?_ _
      go_wp2
      obtain ⟨W', hW', kW, bW⟩ := put4 br (.int .i64 st2) (.string (S hd)) (.slice A5 n5 c5) (.bool cl)
      rw [hW']
      obtain ⟨⟨c0, c1, c2, c3⟩, _⟩ := bk4r bW
      have kF : Kp [] w W' := (hW.out.1.trans kk5).thn kW (fun s hs => .inr (by have := HRB.out; simp at hs; omega))
      exact bodyPost_ret (v := .agg #[.int .i64 st2, .string (S hd), .slice A5 n5 c5, .bool cl]) (by simp [results, Tryz.results23, go_sem, c0, c1, c2, c3]; try rfl) rfl (H.out A5 n5 c5 _ kF (Lib.hid ⟨((rd_notP h5.out.1 br).kp kW (by simp)).sub (by simp), h5.out.2⟩))
  · have hz : (st != 0) = true := by simpa using h0
    rw [if_neg h0] at H
    simp only at H
    have HWr : Hid (∀ (R : Ending → World → Prop) (w1 : World), Kp [] w w1 → (∀ A n c w', Kp [] w1 w' → Hid (Rd w' [] A ((partsG (wrS st) 0 [] []).flatMap ptV) ∧ (partsG (wrS st) 0 [] []).length = n ∧ n ≤ 21) → R (.returned (.agg #[.int .i64 (wrS st), .string (S (wrH st now)), .slice A n c, .bool true])) w') → Calls Tryz.prog 15 #[.int .i64 st, .int .i64 now] w1 R) := Lib.hid (fun R w1 k h => rwrong_gen st now (hlw.kp k) h)
    obtain ⟨st2, e1⟩ : ∃ x, wrS st = x := ⟨_, rfl⟩
    obtain ⟨hd, e2⟩ : ∃ x, wrH st now = x := ⟨_, rfl⟩
    obtain ⟨ps, e3⟩ : ∃ x, partsG (wrS st) 0 [] [] = x := ⟨_, rfl⟩
    rw [e2, e3] at H HWr
    rw [e1] at H HWr
    clear e1 e2 e3 ht hs b1 o1 hba hra hca hok h0
    go_enter Tryz.func23, Tryz.ntmps23
    go_upto_region 1 with (fail)
    refine gen_worldC (fun W => ∃ g1 rb, w.heap.size = g1 ∧ g1 + 1 = rb ∧ Hid (Kp [] w W ∧ Bk W rb 31 [.int .i64 0, .string ⟨#[]⟩, .slice none 0 0, .bool false])) ⟨_, _, rfl, rfl, Lib.hid ⟨((Kp.refl _ _).alloc _).alloc _, (Bk.newAt (by simp) _ _).cast rfl⟩⟩ ?_
    rintro W ⟨g1, rb, hg1, hrb, hW⟩
    rw [hg1, hrb]
    have HRB : Hid (w.heap.size ≤ g1 ∧ g1 < rb) := Lib.hid (by omega)
    have t1 : W.cell? ⟨tg, 1, none⟩ = some (.pointer (some ⟨ag, 0, none⟩)) := (HB.out.kp hW.out.1 (by simp)).cell 1
    have a1 : W.cell? ⟨ag, 1, none⟩ = some (.int .i64 st) := (HA.out.kp hW.out.1 (by simp)).cell 1
    clear hg1 hrb
    go_wp2_with (go_at_call 15; ((refine HWr.out _ _ hW.out.1 ?_); intro A5 n5 c5 w5 kk5 h5; have br := hW.out.2.kp kk5 (by simp); obtain ⟨⟨s0, s1, s2, s3⟩, ⟨f0, f1, f2, f3⟩⟩ := bk4r br))
    obtain ⟨W', hW', kW, bW⟩ := put4 br (.int .i64 st2) (.string (S hd)) (.slice A5 n5 c5) (.bool true)
    rw [hW']
    obtain ⟨⟨c0, c1, c2, c3⟩, _⟩ := bk4r bW
    have kF : Kp [] w W' := (hW.out.1.trans kk5).thn kW (fun s hs => .inr (by have := HRB.out; simp at hs; omega))
    exact bodyPost_ret (v := .agg #[.int .i64 st2, .string (S hd), .slice A5 n5 c5, .bool true]) (by simp [results, Tryz.results23, go_sem, c0, c1, c2, c3]; try rfl) rfl (H.out A5 n5 c5 _ kF (Lib.hid ⟨((rd_notP h5.out.1 br).kp kW (by simp)).sub (by simp), h5.out.2⟩))
end
end
/-! ### serve: the chapter's example in plain words. -/
section
open Go.RowKit Go.Shelf
set_option linter.unusedVariables false
set_option maxRecDepth 100000
def alvB : List UInt8 := [71, 69, 84, 32, 47, 97, 32, 72, 84, 84, 80, 47, 49, 46, 48, 13, 10, 13, 10]
def alvR : Req := ⟨[71, 69, 84], [47, 97], 0, [], true⟩
theorem alv_next : nxt alvB false = (alvR, 0, [], false) := by rfl
theorem alv_of : ofL [47, 97] = ([97], 0) := by rfl
theorem alv_op : nxtOp alvB false = some ([97], 0, alvR) := by unfold nxtOp; rw [alv_next]; simp only [alvR, alv_of]; rfl
theorem alv_choose (v mt len : Int) : chooseM alvR false v mt len = (404, []) := by unfold chooseM; rfl
end
/-! ### Package request: the chapter's example. -/
section
open Go.RowKit Go.Shelf
set_option linter.unusedVariables false
set_option linter.unusedSimpArgs false
set_option maxRecDepth 100000

def aliveB : List UInt8 := [71, 69, 84, 32, 47, 32, 72, 84, 84, 80, 47, 49, 46, 49, 13, 10, 72, 111, 115, 116, 58, 32, 97, 13, 10, 13, 10]
def aliveR : Req := ⟨[71, 69, 84], [47], 1, [([104, 111, 115, 116], [97])], false⟩
theorem next_alive : nextF aliveB = (aliveR, 0, [], false) := by
  have h1 : headF (aliveB.length + 1) aliveB.length [] aliveB = ([[71, 69, 84, 32, 47, 32, 72, 84, 84, 80, 47, 49, 46, 49], [72, 111, 115, 116, 58, 32, 97]], [], 0) := by decide +kernel
  have h2 : firstL [71, 69, 84, 32, 47, 32, 72, 84, 84, 80, 47, 49, 46, 49] = some ([71, 69, 84], [47], 49, 49) := by decide +kernel
  have h3 : fieldsL [[72, 111, 115, 116, 58, 32, 97]] = some [([104, 111, 115, 116], [97])] := by decide +kernel
  have h4 : ofFs [71, 69, 84] [47] 1 [([104, 111, 115, 116], [97])] = (aliveR, 0) := by
    unfold ofFs
    rw [if_neg (by decide +kernel), if_neg (by decide +kernel), if_neg (by decide +kernel), if_neg (by decide +kernel), show closesF [([104, 111, 115, 116], [97])] 1 = false by decide +kernel]; rfl
  have h5 : ofF [[71, 69, 84, 32, 47, 32, 72, 84, 84, 80, 47, 49, 46, 49], [72, 111, 115, 116, 58, 32, 97]] = (aliveR, 0) := by
    rw [ofF, h2]
    simp only
    rw [if_neg (by decide), if_neg (by decide), h3]
    exact h4
  unfold nextF
  rw [h1]
  simp only
  rw [h5]
  rfl
theorem bytes_rd {w : World} {g f1 f2 : Nat} {l : List UInt8} {C : Array Value} (hC : C = (bts l).toArray) (hf : l.length ≤ f1 := by decide) (hg : g = w.heap.size := by rfl) : Rd (w.alloc (.cells C 5 (f1, f2))) [] (some ⟨g, 0, none⟩) (bts l) := by
  subst hg; subst hC
  exact Bf.rd ⟨f1, f2, heap_alloc_new w _, by rw [bts_len]; exact hf⟩
theorem next_nil : nextF [] = (noReq, -1, [], false) := rfl
theorem next_lit1 {R : Ending → World → Prop} {w : World} {g : Nat} (hm : Ml w) (hp : Ps w g aliveB false)
    (h : ∀ A c w', Ps w' g [] false → Kp [g] w w' → R (.returned (.tuple #[.agg #[.string (S [71, 69, 84]), .string (S [47]), .int .i64 1, .slice A 1 c, .bool false], .int .i64 0])) w') : Calls Tryz.prog 40 #[.pointer (some ⟨g, 0, none⟩)] w R :=
  next_any hm hp (by decide) (by rw [next_alive]; exact fun A c w' h1 h2 _ _ _ => h A c w' h1 h2)
theorem next_lit2 {R : Ending → World → Prop} {w : World} {g : Nat} (hm : Ml w) (hp : Ps w g [] false)
    (h : ∀ A c w', Ps w' g [] false → Kp [g] w w' → R (.returned (.tuple #[.agg #[.string (S []), .string (S []), .int .i64 0, .slice A 0 c, .bool false], .int .i64 (-1)])) w') : Calls Tryz.prog 40 #[.pointer (some ⟨g, 0, none⟩)] w R :=
  next_any hm hp (by decide) (by rw [next_nil]; exact fun A c w' h1 h2 _ _ _ => h A c w' h1 h2)
end
end Go.Proofs.YtnmafahbdfilcaaGreatDoor
