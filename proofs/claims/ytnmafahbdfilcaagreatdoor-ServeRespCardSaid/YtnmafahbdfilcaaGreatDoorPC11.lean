/- respond: the parts of any answer. -/
import Derived.Test.YtnmafahbdfilcaaGreatDoorPC10
import Derived.Deep.RegionHeldLaw
import Derived.Deep.CutBlock
import Derived.Deep.DeepCutAuto
namespace Go.Proofs.YtnmafahbdfilcaaGreatDoor
/-! ### respond: the parts of any answer. -/
section
open Go.RowKit Go.Shelf
set_option linter.unusedVariables false
set_option linter.unusedSimpArgs false
set_option maxRecDepth 100000
theorem spP_snoc {zs : List (Int × Int)} {k : Nat} {z : Int × Int} (hz : zs[k]? = some z) (f : Int × Int → List Pt) : (zs.take (k + 1)).flatMap f = (zs.take k).flatMap f ++ f z := by
  rw [List.take_add_one, hz]; simp
theorem keep_snoc {L : List Pt} {k : Nat} {p : Pt} (hp : L[k]? = some p) : (L.take (k + 1)).filter keepP = (L.take k).filter keepP ++ (if keepP p = true then [p] else []) := by
  rw [List.take_add_one, hp, List.filter_append]
  cases h : keepP p <;> simp [h]
section
variable {R : Ending → World → Prop} {w : World}
set_option maxHeartbeats 16000000 in
theorem lay_gen (st minor : Int) (cl : Bool) (v mt len : Int) (kd : List UInt8) (now : Int) {B : Option Addr} {nb db g : Nat} (zs : List (Int × Int)) (hb : Bk w g 75 (ansG st minor cl v mt len kd now B nb db none 0 0)) (hst : 0 ≤ st ∧ st ≤ 9999)
    (hz : Rd w [g] B (zs.flatMap spV)) (hzn : zs.length = nb) (hnb : nb ≤ 10) (hzo : ∀ z ∈ zs, 0 ≤ z.1 ∧ z.1 ≤ 35184372088832 ∧ 0 ≤ z.2 ∧ z.2 ≤ 35184372088832) (hlen : 0 ≤ len ∧ len ≤ 35184372088832) (hkd : kd.length ≤ 300) (hw : Lw w)
    (h : ∀ A n c w', Kp [g] w w' → Bk w' g 75 (ansG st minor cl v mt len kd now B nb db A n c) → Hid (Rd w' [g] A ((partsG st len kd zs).flatMap ptV) ∧ (partsG st len kd zs).length = n ∧ n ≤ 21) → R (.returned (.tuple #[])) w') :
    Calls Tryz.prog 47 #[.pointer (some ⟨g, 0, none⟩)] w R := by
  have H := Lib.hid h
  have HB := Lib.hid hb
  have HZ := Lib.hid hz
  have HZN := Lib.hid hzn
  have HZO := Lib.hid hzo
  have c0 : w.cell? ⟨g, 0, none⟩ = some (.int .i64 st) := hb.cell 0
  have c5 : w.cell? ⟨g, 5, none⟩ = some (.int .i64 len) := hb.cell 5
  clear h hb hz hzn hzo
  go_enter Tryz.func47, Tryz.ntmps47
  go_upto_block 0 with (fail)
  go_cut [2] (fun x W' => ∃ A n c, x = .slice A n c ∧ Hid (Kp [] w W' ∧ Rd W' [g] A ((layG st len kd zs).flatMap ptV) ∧ (layG st len kd zs).length = n ∧ n ≤ 21))
  case first =>
    rcases (by omega : st = 200 ∨ st = 206 ∨ st = 304 ∨ (st ≠ 200 ∧ st ≠ 206 ∧ st ≠ 304)) with rfl | rfl | rfl | ⟨n1, n2, n3⟩
    · go_wp2
      go_meet
      exact ⟨_, _, _, rfl, Lib.hid ⟨(Kp.refl _ _).alloc _, Rd.of_bk (Bk.newAt rfl _ _) (by have := HB.out.lt; simp; omega), rfl, by decide⟩⟩
    · have x8 : w.cell? ⟨g, 8, none⟩ = some (.slice B nb db) := HB.out.cell 8
      rcases Nat.lt_or_ge 1 nb with hmany | hone
      · have hm1 : decide (1 < (nb : Int)) = true := by simp; omega
        have hm2 : decide (1 < zs.length) = true := by have := HZN.out; simp; omega
        have HLY : Hid (layG 206 len kd zs = zs.flatMap (spP len kd true) ++ [(tailL, 0, 0)]) := Lib.hid (by unfold layG; rw [if_neg (by decide), if_pos rfl, hm2]; rw [if_pos (by have := HZN.out; omega)])
        clear hm2
        go_wp2
        go_loopw [2, 42] (fun lv iv wr => ∃ (k : Nat) (A : Option Addr) (n c : Nat), k ≤ nb ∧ iv = .int .i64 k ∧ lv = .slice A n c ∧ n ≤ 2 * k ∧ Hid (Kp [] w wr ∧ Ow wr 40 3 A n c (((zs.take k).flatMap (spP len kd true)).flatMap ptV) ∧ ((zs.take k).flatMap (spP len kd true)).length = n ∧ ∀ b ∈ bks A, w.heap.size ≤ b)) (fun _ iv _ => nb - (intOf iv).toNat)
        case atStart => exact ⟨0, none, 0, 0, Nat.zero_le _, rfl, rfl, by omega, Lib.hid ⟨Kp.refl _ _, Ow.nil, rfl, by simp [bks]⟩⟩
        case round =>
          obtain ⟨k, A, n, c, hk, rfl, rfl, hnk, hr⟩ := hrel
          by_cases hlt : k < nb
          · obtain ⟨z, hz⟩ : ∃ z, zs[k]? = some z := ⟨_, List.getElem?_eq_getElem (by have := HZN.out; omega)⟩
            obtain ⟨b, off, rfl, _, _, hc⟩ := rd_at (HZ.out.kp hr.out.1 (by simp)) spV_len (by omega) hz
            have HSN := Lib.hid (spP_snoc hz (spP len kd true))
            have hzk := HZO.out z (List.mem_of_getElem? hz)
            obtain ⟨z1, z2⟩ := z
            obtain ⟨za, zb, zc, zd⟩ := hzk
            simp only at za zb zc zd
            have y0 : wr.cell? ⟨b, off + k * 2, none⟩ = some (.int .i64 z1) := hc 0 _ rfl
            have y1 : wr.cell? ⟨b, off + k * 2 + 1, none⟩ = some (.int .i64 z2) := hc 1 _ rfl
            have x8 : wr.cell? ⟨g, 8, none⟩ = some (.slice (some ⟨b, off, none⟩) nb db) := (HB.out.kp hr.out.1 (by simp)).cell 8
            clear hc hz
            go_upto_region 9 with (fail)
            refine gen_worldC (fun W => ∃ sb, wr.heap.size = sb ∧ Hid (Kp [] wr W ∧ Bk W sb 140 [.int .i64 z1, .int .i64 z2])) ⟨_, rfl, Lib.hid ⟨(Kp.refl _ _).alloc _, (Bk.new' _ _ _).cast rfl⟩⟩ ?_
            rintro W ⟨sb, hsb, hW⟩
            rw [hsb]
            have HNS : Hid (sb ∉ bks A) := Lib.hid (fun hm => by have := hr.out.2.1.lt _ hm; omega)
            have HNG : Hid (g ∉ bks A) := Lib.hid (fun hm => by have := hr.out.2.2.2 _ hm; have := HB.out.lt; omega)
            have HWS : Hid (wr.heap.size < W.heap.size) := Lib.hid (by have := hW.out.2.lt; omega)
            clear hsb y0 y1 x8
            have HS10 : Hid (∀ W', Kp (bks A) W W' → W'.cell? ⟨g, 5, none⟩ = some (.int .i64 len) ∧ W'.cell? ⟨g, 6, none⟩ = some (.string (S kd)) ∧ W'.cell? ⟨g, 8, none⟩ = some (.slice (some ⟨b, off, none⟩) nb db) ∧ W'.cell? ⟨sb, 0, none⟩ = some (.int .i64 z1) ∧ W'.cell? ⟨sb, 1, none⟩ = some (.int .i64 z2)) := Lib.hid (fun W' k' => by
              have b1 := ((HB.out.kp hr.out.1 (by simp)).kp hW.out.1 (by simp)).kp k' HNG.out
              have b2 := hW.out.2.kp k' HNS.out
              exact ⟨b1.cell 5, b1.cell 6, b1.cell 8, b2.cell 0, b2.cell 1⟩)
            have HO : Hid (Ow W 40 3 A n c (((zs.take k).flatMap (spP len kd true)).flatMap ptV)) := Lib.hid (hr.out.2.1.kp hW.out.1 (by simp))
            obtain ⟨x5, x6, x8, x1, x2⟩ := HS10.out W (Kp.refl _ _)
            obtain ⟨hd, hhd⟩ : ∃ hd, rgheadL (contL z1 z2 len) kd = hd := ⟨_, rfl⟩
            have HSP : Hid (spP len kd true (z1, z2) = [(hd, 0, 0), ([], z1, z2)]) := Lib.hid (by unfold spP; rw [if_pos rfl, hhd])
            have HHd : Hid (∀ (R : Ending → World → Prop) (w1 : World), Kp [] W w1 → (∀ w', Kp [] W w' → R (.returned (.string (S hd))) w') → Calls Tryz.prog 75 #[.agg #[.int .i64 z1, .int .i64 z2], .int .i64 len, .string (S kd)] w1 R) := Lib.hid (fun R w1 k1 h => rghead_any z1 z2 len kd w1 hkd ⟨za, zb⟩ ⟨zc, zd⟩ hlen (hw.kp ((hr.out.1.trans hW.out.1).trans k1)) (fun w' k' => by rw [hhd]; exact h w' (k1.trans k')))
            clear hhd
            go_upto_region 10 with (fail)
            go_region_held_law (fun W' => W'.cell? ⟨g, 5, none⟩ = some (.int .i64 len) ∧ W'.cell? ⟨g, 6, none⟩ = some (.string (S kd)) ∧ W'.cell? ⟨g, 8, none⟩ = some (.slice (some ⟨b, off, none⟩) nb db) ∧ W'.cell? ⟨sb, 0, none⟩ = some (.int .i64 z1) ∧ W'.cell? ⟨sb, 1, none⟩ = some (.int .i64 z2)) (first | with_reducible exact HS10.out _ kk5 | with_reducible exact HS10.out _ (Kp.alloc kk3m _) | with_reducible exact HS10.out _ kk3m | exact HS10.out _ (Kp.refl _ W).drew) (first | (go_simp; go_at_call 75; (refine HHd.out _ _ (Kp.refl [] W).drew ?_); intro w3 kk3; have kk3m : Kp (bks A) W w3 := kk3.mono (by simp)) | (refine step_app rfl (.tmp 52) (.tmp 66) _ rfl elt_part A n c _ (by simp [Act.eval, Act.put]) ((HO.out.kp kk3 (by simp)).alloc _) [] (some ⟨w3.heap.size, 0, none⟩) 1 1 (ptV (hd, 0, 0)) (by simp [Act.eval, Act.put]) (Rd.of_bk (Bk.newAt rfl _ _) (by simp)) rfl (ptV_one _) (by omega) ?_; intro A3 c3 w5 ho5 hk5 hA5; have kk5 : Kp (bks A) W w5 := (kk3m.alloc _).trans hk5))
            all_goals
              have HA3 : Hid (∀ b ∈ bks A3, w.heap.size ≤ b) := Lib.hid (bks_app hA5 hr.out.2.2.2 (by have s1 := kk3.size; have s3 := hr.out.1.size; have s4 := HWS.out; simp; omega))
              have HO5 := Lib.hid ho5
              have HK5 := Lib.hid kk5
              clear x5 x6 x8 x1 x2 ho5 hk5 hA5 kk3 kk3m
              obtain ⟨x5, x6, x8, x1, x2⟩ := HS10.out w5 kk5
              clear kk5
              go_wp2_with (at_builtin; refine wpList_app _ rfl (.tmp 68) (.tmp 74) _ rfl elt_part A3 (n + 1) c3 _ rfl (HO5.out.alloc _) [] (some ⟨w5.heap.size, 0, none⟩) 1 1 (ptV ([], z1, z2)) rfl (Rd.of_bk (Bk.newAt rfl _ _) (by simp)) rfl (ptV_one _) (by omega) ?_; intro A4 c4 w6 ho6 hk6 hA6)
              refine ⟨⟨k + 1, A4, n + 1 + 1, c4, by omega, by go_num, rfl, by omega, Lib.hid ?_⟩, by simp [intOf]; omega⟩
              have k6 : Kp [] w w6 := (((hr.out.1.trans hW.out.1).thn HK5.out (fun s hs => .inr (hr.out.2.2.2 s hs))).alloc _).thn hk6 (fun s hs => .inr (HA3.out s hs))
              refine ⟨k6, ?_, ?_, ?_⟩
              · rw [HSN.out, HSP.out]
                exact ho6.cast rfl (by simp)
              · rw [HSN.out, List.length_append, hr.out.2.2.1, HSP.out]; rfl
              · exact bks_app hA6 HA3.out (by have s1 := HK5.out.size; have s3 := hr.out.1.size; have s4 := HWS.out; simp; omega)
          · obtain rfl : k = nb := by omega
            have e : zs.take k = zs := List.take_of_length_le (by have := HZN.out; omega)
            rw [e] at hr
            have x8 : wr.cell? ⟨g, 8, none⟩ = some (.slice B k db) := (HB.out.kp hr.out.1 (by simp)).cell 8
            clear e
            go_wp2_with (first | (go_at_call 76; (refine tail_any _ ?_)) | (at_builtin; refine wpList_app _ rfl (.tmp 83) (.tmp 86) _ rfl elt_part A n c _ rfl (hr.out.2.1.alloc _) [] (some ⟨wr.heap.size, 0, none⟩) 1 1 (ptV (tailL, 0, 0)) rfl (Rd.of_bk (Bk.newAt rfl _ _) (by simp)) rfl (ptV_one _) (by omega) ?_; intro A4 c4 w6 ho6 hk6 hA6))
            go_meet
            refine ⟨A4, n + 1, c4, rfl, Lib.hid ?_⟩
            have k6 : Kp [] w w6 := (hr.out.1.alloc _).thn hk6 (fun s hs => .inr (hr.out.2.2.2 s hs))
            refine ⟨k6, ?_, ?_, by omega⟩
            · rw [HLY.out, List.flatMap_append]
              refine (ho6.cast rfl (by simp)).rd (fun b hb hm => ?_)
              have h1 := HB.out.lt
              have s2 := hr.out.1.size
              simp at hm
              rcases hA6 with rfl | rfl
              · have := hr.out.2.2.2 b hb; omega
              · simp [bks] at hb; omega
            · rw [HLY.out, List.length_append, hr.out.2.2.1]; rfl
      · have hm1 : decide (1 < (nb : Int)) = false := by simp; omega
        have hm2 : decide (1 < zs.length) = false := by have := HZN.out; simp; omega
        have HLY : Hid (layG 206 len kd zs = zs.flatMap (spP len kd false) ++ []) := Lib.hid (by unfold layG; rw [if_neg (by decide), if_pos rfl, hm2]; rw [if_neg (by have := HZN.out; omega)])
        clear hm2
        go_wp2
        go_loopw [2, 42] (fun lv iv wr => ∃ (k : Nat) (A : Option Addr) (n c : Nat), k ≤ nb ∧ iv = .int .i64 k ∧ lv = .slice A n c ∧ n ≤ k ∧ Hid (Kp [] w wr ∧ Ow wr 40 3 A n c (((zs.take k).flatMap (spP len kd false)).flatMap ptV) ∧ ((zs.take k).flatMap (spP len kd false)).length = n ∧ ∀ b ∈ bks A, w.heap.size ≤ b)) (fun _ iv _ => nb - (intOf iv).toNat)
        case atStart => exact ⟨0, none, 0, 0, Nat.zero_le _, rfl, rfl, by omega, Lib.hid ⟨Kp.refl _ _, Ow.nil, rfl, by simp [bks]⟩⟩
        case round =>
          obtain ⟨k, A, n, c, hk, rfl, rfl, hnk, hr⟩ := hrel
          by_cases hlt : k < nb
          · obtain ⟨z, hz⟩ : ∃ z, zs[k]? = some z := ⟨_, List.getElem?_eq_getElem (by have := HZN.out; omega)⟩
            obtain ⟨b, off, rfl, _, _, hc⟩ := rd_at (HZ.out.kp hr.out.1 (by simp)) spV_len (by omega) hz
            have HSN := Lib.hid (spP_snoc hz (spP len kd false))
            have hzk := HZO.out z (List.mem_of_getElem? hz)
            obtain ⟨z1, z2⟩ := z
            obtain ⟨za, zb, zc, zd⟩ := hzk
            simp only at za zb zc zd
            have y0 : wr.cell? ⟨b, off + k * 2, none⟩ = some (.int .i64 z1) := hc 0 _ rfl
            have y1 : wr.cell? ⟨b, off + k * 2 + 1, none⟩ = some (.int .i64 z2) := hc 1 _ rfl
            have x8 : wr.cell? ⟨g, 8, none⟩ = some (.slice (some ⟨b, off, none⟩) nb db) := (HB.out.kp hr.out.1 (by simp)).cell 8
            clear hc hz
            go_upto_region 9 with (fail)
            refine gen_worldC (fun W => ∃ sb, wr.heap.size = sb ∧ Hid (Kp [] wr W ∧ Bk W sb 140 [.int .i64 z1, .int .i64 z2])) ⟨_, rfl, Lib.hid ⟨(Kp.refl _ _).alloc _, (Bk.new' _ _ _).cast rfl⟩⟩ ?_
            rintro W ⟨sb, hsb, hW⟩
            rw [hsb]
            have HNS : Hid (sb ∉ bks A) := Lib.hid (fun hm => by have := hr.out.2.1.lt _ hm; omega)
            have HNG : Hid (g ∉ bks A) := Lib.hid (fun hm => by have := hr.out.2.2.2 _ hm; have := HB.out.lt; omega)
            have HWS : Hid (wr.heap.size < W.heap.size) := Lib.hid (by have := hW.out.2.lt; omega)
            clear hsb y0 y1 x8
            have HS10 : Hid (∀ W', Kp (bks A) W W' → W'.cell? ⟨g, 5, none⟩ = some (.int .i64 len) ∧ W'.cell? ⟨g, 6, none⟩ = some (.string (S kd)) ∧ W'.cell? ⟨g, 8, none⟩ = some (.slice (some ⟨b, off, none⟩) nb db) ∧ W'.cell? ⟨sb, 0, none⟩ = some (.int .i64 z1) ∧ W'.cell? ⟨sb, 1, none⟩ = some (.int .i64 z2)) := Lib.hid (fun W' k' => by
              have b1 := ((HB.out.kp hr.out.1 (by simp)).kp hW.out.1 (by simp)).kp k' HNG.out
              have b2 := hW.out.2.kp k' HNS.out
              exact ⟨b1.cell 5, b1.cell 6, b1.cell 8, b2.cell 0, b2.cell 1⟩)
            have HO : Hid (Ow W 40 3 A n c (((zs.take k).flatMap (spP len kd false)).flatMap ptV)) := Lib.hid (hr.out.2.1.kp hW.out.1 (by simp))
            obtain ⟨x5, x6, x8, x1, x2⟩ := HS10.out W (Kp.refl _ _)
            have HSP : Hid (spP len kd false (z1, z2) = [([], z1, z2)]) := Lib.hid rfl
            go_wp2_with (at_builtin; refine wpList_app _ rfl (.tmp 68) (.tmp 74) _ rfl elt_part A n c _ rfl (HO.out.alloc _) [] (some ⟨W.heap.size, 0, none⟩) 1 1 (ptV ([], z1, z2)) rfl (Rd.of_bk (Bk.newAt rfl _ _) (by simp)) rfl (ptV_one _) (by omega) ?_; intro A4 c4 w6 ho6 hk6 hA6)
            refine ⟨⟨k + 1, A4, n + 1, c4, by omega, by go_num, rfl, by omega, Lib.hid ?_⟩, by simp [intOf]; omega⟩
            have k6 : Kp [] w w6 := ((hr.out.1.trans hW.out.1).alloc _).thn hk6 (fun s hs => .inr (hr.out.2.2.2 s hs))
            refine ⟨k6, ?_, ?_, ?_⟩
            · rw [HSN.out, HSP.out]
              exact ho6.cast rfl (by simp)
            · rw [HSN.out, List.length_append, hr.out.2.2.1, HSP.out]; rfl
            · exact bks_app hA6 hr.out.2.2.2 (by have s3 := hr.out.1.size; have s4 := HWS.out; simp; omega)
          · obtain rfl : k = nb := by omega
            have e : zs.take k = zs := List.take_of_length_le (by have := HZN.out; omega)
            rw [e] at hr
            have x8 : wr.cell? ⟨g, 8, none⟩ = some (.slice B k db) := (HB.out.kp hr.out.1 (by simp)).cell 8
            clear e
            go_wp2
            go_meet
            refine ⟨A, n, c, rfl, Lib.hid ⟨hr.out.1, ?_, ?_, by omega⟩⟩
            · rw [HLY.out, List.append_nil]
              refine hr.out.2.1.rd (fun b hb hm => ?_)
              have h1 := HB.out.lt
              simp at hm
              have := hr.out.2.2.2 b hb; omega
            · rw [HLY.out, List.append_nil]; exact hr.out.2.2.1
    · go_wp2
      go_meet
      exact ⟨_, _, _, rfl, Lib.hid ⟨Kp.refl _ _, Rd.nil, rfl, by decide⟩⟩
    · obtain ⟨k, rfl⟩ : ∃ k : Nat, st = k := ⟨st.toNat, by omega⟩
      obtain ⟨rs, hrs⟩ : ∃ rs, rsnL (k : Int) = rs := ⟨_, rfl⟩
      have hrl : rs.length ≤ 40 := by rw [← hrs]; exact rsn_len _
      have hdl := dec3 (n := k) (by omega)
      have HBT : Hid (layG k len kd zs = [(decL k ++ 32 :: (rs ++ [10]), 0, 0)]) := Lib.hid (by unfold layG bodyT; rw [if_neg n1, if_neg n2, if_neg n3, hrs, Int.toNat_natCast])
      obtain ⟨ds, hds⟩ : ∃ ds, decL k = ds := ⟨_, rfl⟩
      have HI : Hid (∀ (R : Ending → World → Prop) (w1 : World), Kp [] w w1 → (∀ w', Kp [] w1 w' → Kp [] w w' → R (.returned (.string (S ds))) w') → Calls Tryz.prog 77 #[.int .i64 k] w1 R) := Lib.hid (fun R w1 a h => itoa_any k w1 (by omega) (hw.kp a) (fun w' k' => by rw [hds]; exact h w' k' (a.trans k')))
      have HRs : Hid (∀ (R : Ending → World → Prop) (w : World), R (.returned (.string (S rs))) w → Calls Tryz.prog 16 #[.int .i64 k] w R) := Lib.hid (fun R w h => reason_any k w (by rw [hrs]; exact h))
      rw [hds] at hdl HBT
      have HSK : Hid (∀ w', Kp [] w w' → w'.cell? ⟨g, 0, none⟩ = some (.int .i64 k)) := Lib.hid (fun w' k' => (HB.out.kp k' (by simp)).cell 0)
      clear hrs hds
      go_upto_region 2 with (fail)
      go_region_held_law (fun w' => w'.cell? ⟨g, 0, none⟩ = some (.int .i64 k)) (first | exact HSK.out _ (by assumption) | exact HSK.out _ (Kp.alloc (by assumption) _) | exact HSK.out _ (Kp.refl [] _).drew) (first | (go_simp; go_at_call 77; (refine HI.out _ _ (by first | assumption | exact (Kp.refl [] _).drew) ?_); intro w1 j1 k1) | (go_simp; go_at_call 16; (refine HRs.out _ _ ?_)))
      all_goals
        go_wp2
        go_meet
        obtain ⟨T, hT⟩ : ∃ T, ds ++ 32 :: (rs ++ [10]) = T := ⟨_, rfl⟩
        have HBT2 := HBT.out
        rw [hT] at HBT2 ⊢
        rw [HBT2]
        exact ⟨_, _, _, rfl, Lib.hid ⟨k1.alloc _, Rd.of_bk (cs := ptV (T, 0, 0)) (Bk.newAt rfl _ _) (by have := (HB.out.kp k1 (by simp)).lt; simp; omega), rfl, by decide⟩⟩
  case rest =>
    obtain ⟨A0, n0, d0, hx, hW⟩ := hcut
    rw [hx]
    clear hx
    obtain ⟨L, hL⟩ : ∃ L, layG st len kd zs = L := ⟨_, rfl⟩
    unfold partsG at H
    rw [hL] at hW H
    have HLn : Hid (L.length = n0 ∧ n0 ≤ 21) := Lib.hid hW.out.2.2
    have hn0 := HLn.out.2
    obtain ⟨w0, hw0⟩ : ∃ x, wc = x := ⟨_, rfl⟩
    rw [hw0] at hW ⊢
    clear hw0
    have HGC : Hid (g < w0.heap.size) := Lib.hid (HB.out.kp hW.out.1 (by simp)).lt
    clear hL hst
    go_wp2
    go_loopw [92] (fun i wr => ∃ (k : Nat) (A : Option Addr) (n c : Nat), k ≤ n0 ∧ i = .int .i64 k ∧ n ≤ k ∧ Hid (Kp [g] w0 wr ∧ Bk wr g 75 (ansG st minor cl v mt len kd now B nb db A n c) ∧ Ow wr 40 3 A n c (((L.take k).filter keepP).flatMap ptV) ∧ ((L.take k).filter keepP).length = n ∧ ∀ b ∈ bks A, w0.heap.size ≤ b)) (fun i _ => n0 - (intOf i).toNat)
    case atStart => exact ⟨0, none, 0, 0, Nat.zero_le _, rfl, Nat.le_refl _, Lib.hid ⟨Kp.refl _ _, HB.out.kp hW.out.1 (by simp), Ow.nil, rfl, by simp [bks]⟩⟩
    case round =>
      obtain ⟨k, A, n, c, hk, rfl, hnk, hr⟩ := hrel
      by_cases hlt : k < n0
      · obtain ⟨p, hp⟩ : ∃ p, L[k]? = some p := ⟨_, List.getElem?_eq_getElem (by have := HLn.out.1; omega)⟩
        obtain ⟨b, off, rfl, _, _, hc⟩ := rd_at (hW.out.2.1.kp hr.out.1 (fun s hs => .inl hs)) ptV_len (by omega) hp
        have HSN := Lib.hid (keep_snoc hp)
        obtain ⟨pt, pf, pl⟩ := p
        have y0 : wr.cell? ⟨b, off + k * 3, none⟩ = some (.string (S pt)) := hc 0 _ rfl
        have y1 : wr.cell? ⟨b, off + k * 3 + 1, none⟩ = some (.int .i64 pf) := hc 1 _ rfl
        have y2 : wr.cell? ⟨b, off + k * 3 + 2, none⟩ = some (.int .i64 pl) := hc 2 _ rfl
        clear hc hp
        go_upto_region 19 with (fail)
        refine gen_worldC (fun W => ∃ pb, wr.heap.size = pb ∧ Hid (Kp [] wr W ∧ Bk W pb 40 (ptV (pt, pf, pl)))) ⟨_, rfl, Lib.hid ⟨(Kp.refl _ _).alloc _, (Bk.new' _ _ _).cast rfl⟩⟩ ?_
        rintro W ⟨pb, hpb, hWp⟩
        rw [hpb]
        have HR : Hid (Kp [g] w0 W ∧ Bk W g 75 (ansG st minor cl v mt len kd now B nb db A n c) ∧ Ow W 40 3 A n c (((L.take k).filter keepP).flatMap ptV) ∧ ((L.take k).filter keepP).length = n ∧ ∀ b ∈ bks A, w0.heap.size ≤ b) := Lib.hid ⟨hr.out.1.trans (hWp.out.1.mono (by simp)), hr.out.2.1.kp hWp.out.1 (by simp), hr.out.2.2.1.kp hWp.out.1 (by simp), hr.out.2.2.2⟩
        clear hpb y0 y1 y2
        have z0 : W.cell? ⟨pb, 0, none⟩ = some (.string (S pt)) := hWp.out.2.cell 0
        have z1 : W.cell? ⟨pb, 1, none⟩ = some (.int .i64 pf) := hWp.out.2.cell 1
        have z2 : W.cell? ⟨pb, 2, none⟩ = some (.int .i64 pl) := hWp.out.2.cell 2
        obtain ⟨kb, hkb⟩ : ∃ kb, keepP (pt, pf, pl) = kb := ⟨_, rfl⟩
        rw [hkb] at HSN
        have HKB : Hid (kb = (!(pt == []) || decide (0 < pl))) := Lib.hid hkb.symm
        clear hkb
        go_cut [103] (fun x W' => x = .bool kb ∧ W' = W)
        case first =>
          cases q1 : (pt == []) with
          | true =>
            obtain ⟨q2, hq2⟩ : ∃ q2, decide (0 < pl) = q2 := ⟨_, rfl⟩
            have hkb := Lib.hid HKB.out
            rw [q1, hq2] at hkb
            go_wp2
            go_meet
            exact ⟨by rw [hkb.out]; rfl, rfl⟩
          | false =>
            have hkb := Lib.hid HKB.out
            rw [q1] at hkb
            go_wp2
            go_meet
            exact ⟨by rw [hkb.out]; rfl, rfl⟩
        case rest =>
          obtain ⟨hx1, hx2⟩ := hcut
          rw [hx1, hx2]
          clear hx1 hx2
          cases kb with
          | false =>
            have HSN2 : Hid ((L.take (k + 1)).filter keepP = (L.take k).filter keepP) := Lib.hid (by rw [HSN.out]; simp)
            clear HSN HKB z0 z1 z2
            go_wp2
            exact ⟨⟨k + 1, A, n, c, by omega, by go_num, by omega, Lib.hid (by rw [HSN2.out]; exact HR.out)⟩, by simp [intOf]; omega⟩
          | true =>
            have HSN2 : Hid ((L.take (k + 1)).filter keepP = (L.take k).filter keepP ++ [(pt, pf, pl)]) := Lib.hid (by rw [HSN.out]; simp)
            clear HSN HKB
            have x9 : W.cell? ⟨g, 9, none⟩ = some (.slice A n c) := HR.out.2.1.cell 9
            have f9 := HR.out.2.1.frozen 9
            have x9a : ∀ o, (W.drew.alloc o).cell? ⟨g, 9, none⟩ = some (.slice A n c) := fun o => (HR.out.2.1.drew.alloc o).cell 9
            have hltg := HR.out.2.1.lt
            have hltp := hWp.out.2.lt
            have HNA : Hid (g ∉ bks A) := Lib.hid (fun hm => by have := HR.out.2.2.2.2 g hm; have := HGC.out; omega)
            go_upto_region 20 with (fail)
            go_region_law (refine step_app rfl (.tmp 108) (.tmp 110) _ rfl elt_part A n c _ (by simp [Act.eval, Act.put]) (HR.out.2.2.1.drew.alloc _) [] (some ⟨W.heap.size, 0, none⟩) 1 1 (ptV (pt, pf, pl)) (by simp [Act.eval, Act.put]) (Rd.of_bk (Bk.newAt rfl _ _) (by simp)) rfl (ptV_one _) (by omega) ?_; intro A3 c3 w5 ho5 hk5 hA5; have b5 := (HR.out.2.1.drew.alloc _).kp hk5 HNA.out; have g9 := b5.cell 9; have h9 := b5.frozen 9; have hlt9 := b5.lt; simp only [ansG, List.getElem?_cons_zero, List.getElem?_cons_succ] at g9)
            all_goals
              have HK5 := Lib.hid hk5
              have HO5 := Lib.hid ho5
              have HA5 := Lib.hid hA5
              have HB5 := Lib.hid b5
              clear hk5 ho5 hA5 b5 x9 f9 x9a z0 z1 z2
              go_wp2
              refine ⟨⟨k + 1, A3, n + 1, c3, by omega, by go_num, by omega, Lib.hid ?_⟩, by simp [intOf]; omega⟩
              have ks : Kp [g] w5 (w5.setCell ⟨g, 9, none⟩ (.slice A3 (n + 1) c3)) := (Kp.refl _ _).setCell (.inl (by simp)) _
              have hA3 : ∀ b ∈ bks A3, w0.heap.size ≤ b := by
                rcases HA5.out with rfl | rfl
                · exact HR.out.2.2.2.2
                · intro b hb
                  have := HR.out.1.size
                  simp [bks] at hb
                  omega
              refine ⟨((HR.out.1.drew.alloc _).thn HK5.out (fun s hs => .inr (HR.out.2.2.2.2 s hs))).trans ks, (HB5.out.set_ 9 _).cast rfl, ?_, ?_, hA3⟩
              · rw [HSN2.out, List.flatMap_append]
                exact (HO5.out.cast rfl (by simp)).kp ks (fun b hb hm => by have := hA3 b hb; have := HGC.out; simp at hm; omega)
              · rw [HSN2.out, List.length_append, HR.out.2.2.2.1]; rfl
      · obtain rfl : k = n0 := by omega
        have e : L.take k = L := List.take_of_length_le (by have := HLn.out.1; omega)
        rw [e] at hr
        go_wp2
        go_end0
        refine H.out A n c _ ((hW.out.1.mono (by simp)).trans hr.out.1) hr.out.2.1 (Lib.hid ⟨hr.out.2.2.1.rd (N := [g]) (fun b hb hm => by have := hr.out.2.2.2.2 b hb; have := HGC.out; simp at hm; omega), hr.out.2.2.2.1, by omega⟩)
end
end
end Go.Proofs.YtnmafahbdfilcaaGreatDoor
