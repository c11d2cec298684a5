/- The document's pool: Forget. PoolPlays: do both pools show the same? The document's pool: its part of pieces. -/
import Derived.Test.YtedblbpmlbjnhaaGreatPE44
import Derived.Test.YtedblbpmlbjnhaaGreatPE40
import Derived.BigRegion
import Derived.BigQuiet
import Derived.Test.YtedblbpmlbjnhaaGreatPE43
import Derived.Deep.RegionHeldLaw
import Derived.Deep.DeepCutAuto
namespace Go.Proofs.YtedblbpmlbjnhaaGreat
/-! ### The document's pool: Forget. -/
section
open Go.RowKit Go.Shelf
set_option linter.unusedVariables false
set_option linter.unusedSimpArgs false
set_option maxRecDepth 100000
/-- After j rounds of the document's Forget. -/
structure FdI (D D1 : DP) (bl : List Int) (j : Nat) : Prop where
  len : D1.sl.length = D.sl.length
  at_ : ∀ i x, D.sl[i]? = some x → D1.sl[i]? = some (if i < j then dfgt bl x else x)
  hand : D1.hand = D.hand
  fills : D1.fills = D.fills
theorem FdI.fin {D D1 : DP} {bl : List Int} {j : Nat} (h : FdI D D1 bl j) (hj : D.sl.length ≤ j) : D1 = dForget D bl := by
  obtain ⟨sl, hand, fills⟩ := D1
  obtain ⟨h1, h2, h3, h4⟩ := h
  simp only at h1 h2 h3 h4
  subst h3; subst h4
  unfold dForget
  congr 1
  apply List.ext_getElem?
  intro i
  rw [List.getElem?_map]
  cases hx : D.sl[i]? with
  | none =>
    have hx2 := List.getElem?_eq_none_iff.1 hx
    exact List.getElem?_eq_none (by omega)
  | some x =>
    have hi := (List.getElem?_eq_some_iff.1 hx).1
    rw [h2 i x hx, if_pos (by omega)]; rfl
theorem FdI.set {D D1 : DP} {bl : List Int} {j : Nat} {x y : DSl} (h : FdI D D1 bl j) (hx : D.sl[j]? = some x) (hy : dfgt bl x = y) : FdI D { D1 with sl := D1.sl.set j y } bl (j + 1) := by
  have hj := (List.getElem?_eq_some_iff.1 hx).1
  refine ⟨by simpa using h.len, fun i z hz => ?_, h.hand, h.fills⟩
  show (D1.sl.set j y)[i]? = _
  by_cases hij : j = i
  · subst hij
    rw [hx] at hz; injection hz with hz; subst hz
    rw [List.getElem?_set_self (by rw [h.len]; exact hj), if_pos (by omega), hy]
  · rw [List.getElem?_set_ne hij, h.at_ i z hz]
    by_cases hlt : i < j
    · rw [if_pos hlt, if_pos (by omega)]
    · rw [if_neg hlt, if_neg (by omega)]
theorem dfgt_nil (d : DSl) : dfgt [] d = d := by unfold dfgt; rw [if_neg (by simp)]
theorem dfgt_kd {bl : List Int} {d : DSl} (h : d.x.kd ≠ 1) : dfgt bl d = d := by unfold dfgt; rw [if_neg (by simp [h])]
/-- It was told already. -/
theorem dfgt_old {bl : List Int} {d : DSl} {b : Int} (h : d.x.kd = 1) (hc : bl.contains d.x.bl = true) : dfgt (bl ++ [b]) d = dfgt bl d ∧ (dfgt bl d).x.kd ≠ 1 := by
  have hc2 : (bl ++ [b]).contains d.x.bl = true := by simp at hc ⊢; exact .inl hc
  have e1 : dfgt (bl ++ [b]) d = if 0 < d.x.pi then ⟨{ d.x with kd := 3 }, d.ev, d.od⟩ else DSl.e d.x.f := by unfold dfgt; exact if_pos ⟨h, hc2⟩
  have e2 : dfgt bl d = if 0 < d.x.pi then ⟨{ d.x with kd := 3 }, d.ev, d.od⟩ else DSl.e d.x.f := by unfold dfgt; exact if_pos ⟨h, hc⟩
  rw [e1, e2]
  refine ⟨rfl, ?_⟩
  split
  · simp
  · simp [DSl.e, PSl.e]
theorem dfgt_no {bl : List Int} {d : DSl} (hc : bl.contains d.x.bl = false) : dfgt bl d = d := by unfold dfgt; exact if_neg (fun hh => by rw [hc] at hh; cases hh.2)
section
variable {R : Ending → World → Prop} {w0 w w' : World} {B m : Nat} {q q' : QA} {k k' : KS} {qa : QPA} {D : DP}
set_option maxHeartbeats 8000000 in
theorem qfgt_any (h0 : QKP w0 B w q k qa D) (hbd : D.ps.bd m) {A : Option Addr} {n c : Nat} {bl : List Int} (hr : Rd w (qa.both q) A (ints bl)) (hl : bl.length = n) (hn : n ≤ 1000000)
    (h : ∀ w', Kp (qa.both q) w w' → QKP w0 B w' q k qa (dForget D bl) → R (.returned (.tuple #[])) w') : Calls Tryz.prog 33 #[.pointer (some ⟨qa.g, 0, none⟩), .slice A n c] w R := by
  have H := Lib.hid h
  have HR := Lib.hid hr
  have HL := Lib.hid hl
  have HK := Lib.hid h0
  have HBD := Lib.hid hbd
  have hne : qa.g ≠ qa.l := h0.ql.ne
  have hne2 : qa.l ≠ qa.g := fun e => hne e.symm
  have hn0 := h0.ql.hn
  obtain ⟨N, hN⟩ : ∃ N, D.sl.length = N := ⟨_, rfl⟩
  have g1 : w.cell? ⟨qa.g, 1, none⟩ = some (.slice (some ⟨qa.l, 0, none⟩) D.sl.length qa.lc) := h0.ql.g.cell 1
  rw [hN] at g1 hn0
  have HN := Lib.hid hN
  clear h h0 hr hl hN hbd
  go_enter Tryz.func33, Tryz.ntmps33
  go_wp2
  go_loopw [4, 5] (fun iv _ wr => ∃ (i : Nat) (D1 : DP), i ≤ N ∧ iv = .int .i64 i ∧ Hid (QKP w0 B wr q k qa D1 ∧ Kp (qa.both q) w wr) ∧ Hid (FdI D D1 bl i)) (fun iv _ _ => N - (intOf iv).toNat)
  case atStart => exact ⟨0, D, Nat.zero_le _, rfl, Lib.hid ⟨HK.out, Kp.refl _ _⟩, Lib.hid ⟨rfl, fun i x hx => by rw [if_neg (by omega)]; exact hx, rfl, rfl⟩⟩
  case round =>
    obtain ⟨i, D1, hi, rfl, hw, hp⟩ := hrel
    clear g1
    have g1 : wr.cell? ⟨qa.g, 1, none⟩ = some (.slice (some ⟨qa.l, 0, none⟩) N qa.lc) := by have := hw.out.1.ql.g.cell 1; rw [hp.out.len, HN.out] at this; exact this
    by_cases hlt : i < N
    · obtain ⟨d, hd⟩ : ∃ d, D.sl[i]? = some d := ⟨_, List.getElem?_eq_getElem (by have := HN.out; omega)⟩
      have HD := Lib.hid hd
      have HD1 := Lib.hid (show D1.sl[i]? = some d by rw [hp.out.at_ i d hd, if_neg (by omega)])
      have HLen := Lib.hid (show D1.sl.length = N by rw [hp.out.len, HN.out])
      have hset : D1.sl.set i d = D1.sl := by
        apply List.ext_getElem?
        intro j
        by_cases hij : i = j
        · subst hij; rw [List.getElem?_set_self (List.getElem?_eq_some_iff.1 HD1.out).1, HD1.out]
        · rw [List.getElem?_set_ne hij]
      have K0 : Hid (QKP w0 B wr q k qa { D1 with sl := D1.sl.set i (dfgt (bl.take 0) d) } ∧ Kp (qa.both q) w wr) := Lib.hid (by rw [List.take_zero, dfgt_nil, hset]; exact hw.out)
      clear hd hset
      go_wp2
      go_loopw [5] (fun iv wr => ∃ j : Nat, j ≤ n ∧ iv = .int .i64 j ∧ Hid (QKP w0 B wr q k qa { D1 with sl := D1.sl.set i (dfgt (bl.take j) d) } ∧ Kp (qa.both q) w wr)) (fun iv _ => n - (intOf iv).toNat)
      case atStart => exact ⟨0, Nat.zero_le _, rfl, K0⟩
      case round =>
        obtain ⟨j, hj, rfl, hw2⟩ := hrel
        clear K0 g1
        have g1 : wr.cell? ⟨qa.g, 1, none⟩ = some (.slice (some ⟨qa.l, 0, none⟩) N qa.lc) := by have := hw2.out.1.ql.g.cell 1; simp only [List.length_set, HLen.out] at this; exact this
        by_cases hlt2 : j < n
        · obtain ⟨b, hb⟩ : ∃ b, bl[j]? = some b := ⟨_, List.getElem?_eq_getElem (by have := HL.out; omega)⟩
          have hne : bl ≠ [] := by intro e; rw [e] at hb; simp at hb
          obtain ⟨b0, off, rfl, _, _, hc⟩ := HR.out.kp hw2.out.2 (fun s h => .inl h) (by intro e; unfold ints at e; simp at e; exact hne e)
          have gb := hc j _ (ints_at hb)
          obtain ⟨y, hy⟩ : ∃ y, dfgt (bl.take j) d = y := ⟨_, rfl⟩
          have HT : Hid (bl.take (j + 1) = bl.take j ++ [b]) := Lib.hid (take_snoc hb)
          have hx : (D1.sl.set i (dfgt (bl.take j) d))[i]? = some y := by rw [hy]; simp [HLen.out, hlt]
          obtain ⟨c0, c1, c2, c3, c4, c5, c6, c7⟩ := hw2.out.1.ql.cells hx
          have f9 := hw2.out.1.ql.free
          have HX := Lib.hid hx
          have HY := Lib.hid hy
          clear hc hb hne hx hy c4 c5 c6 c7
          by_cases hkd : y.x.kd = 1
          · have b1 : (y.x.kd == 1) = true := by simp [hkd]
            have HY2 : Hid (y = d ∧ (bl.take j).contains d.x.bl = false) := Lib.hid (by
              cases hcc : (bl.take j).contains d.x.bl with
              | false => exact ⟨by rw [← HY.out, dfgt_no hcc], rfl⟩
              | true =>
                by_cases hdk : d.x.kd = 1
                · have := (dfgt_old (b := b) hdk hcc).2; rw [HY.out] at this; exact absurd hkd this
                · rw [dfgt_kd hdk] at HY; have := HY.out; subst this; exact absurd hkd hdk)
            by_cases hbb : y.x.bl = b
            · have b2 : (y.x.bl == b) = true := by simp [hbb]
              have HC : Hid ((bl.take j ++ [b]).contains d.x.bl = true) := Lib.hid (by rw [← HY2.out.1, hbb]; simp)
              by_cases hpi : y.x.pi = 0
              · have b3 : (y.x.pi == 0) = true := by simp [hpi]
                have HE : Hid (dfgt (bl.take (j + 1)) d = DSl.e y.x.f) := Lib.hid (by
                  rw [HT.out]; unfold dfgt; rw [if_pos ⟨by rw [← HY2.out.1]; exact hkd, HC.out⟩, if_neg (by rw [← HY2.out.1]; omega), HY2.out.1])
                clear hkd hbb hpi
                go_upto_region 6 with (fail)
                refine wp_region_kp (by kernel_rfl) (by kernel_rfl) ?_
                repeat (go_big_quiet_step (fail))
                refine wpQuiet_nil ?_
                intro w3 k3
                have hw3 := Lib.hid (And.intro (hw2.out.1.kp k3) (hw2.out.2.thn k3 (by simp)))
                obtain ⟨d0, d1, d2, d3, _, _, _, _⟩ := hw3.out.1.ql.cells HX.out
                have e9 := hw3.out.1.ql.free
                have g31 : w3.cell? ⟨qa.g, 1, none⟩ = some (.slice (some ⟨qa.l, 0, none⟩) N qa.lc) := by have := hw3.out.1.ql.g.cell 1; simp only [List.length_set, HLen.out] at this; exact this
                clear c0 c1 c2 c3 f9 g1 gb k3 hw2
                go_upto_region 8 with (fail)
                refine genV (fun W => Hid (QKP w0 B W q k qa { D1 with sl := D1.sl.set i ⟨{ y.x with kd := 3 }, y.ev, y.od⟩ } ∧ Kp (qa.both q) w W)) (by
                  obtain ⟨z1, v1⟩ := hw3.out.1.put HX.out (x' := ⟨{ y.x with kd := 3 }, y.ev, y.od⟩) (j := 1) (v := .int .i64 3) (by omega) rfl rfl
                  simp only [List.set_set] at z1
                  exact Lib.hid ⟨z1, hw3.out.2.thn v1 (fun s h => .inl h)⟩) ?_
                intro W hW
                clear d0 d1 d2 d3 e9 g31 hw3
                have hx4 : (D1.sl.set i ⟨{ y.x with kd := 3 }, y.ev, y.od⟩)[i]? = some ⟨{ y.x with kd := 3 }, y.ev, y.od⟩ := by simp [HLen.out, hlt]
                obtain ⟨c0, c1, c2, c3, c4, c5, c6, c7⟩ := hW.out.1.ql.cells hx4
                have f9 := hW.out.1.ql.free
                have g1 : W.cell? ⟨qa.g, 1, none⟩ = some (.slice (some ⟨qa.l, 0, none⟩) N qa.lc) := by have := hW.out.1.ql.g.cell 1; simp only [List.length_set, HLen.out] at this; exact this
                obtain ⟨y1, y2⟩ := hW.out.1.clr8 hx4
                simp only [List.set_set] at y1
                simp only at c0 c1 c2 c3 c4 c5 c6 c7 y1 y2
                have Y := Lib.hid (And.intro y1 y2)
                clear y1 y2 hx4
                go_upto_region 9 with (fail)
                go_region
                go_wp2
                exact ⟨⟨j + 1, by omega, by go_num, Lib.hid ⟨by rw [HE.out]; exact Y.out.1.kp (Kp.refl [] _).drew, (hW.out.2.thn Y.out.2 (fun s h => .inl h)).thn (Kp.refl [] _).drew (by simp)⟩⟩, by simp [intOf]; omega⟩
              · have b3 : (y.x.pi == 0) = false := by simp [hpi]
                have HE : Hid (dfgt (bl.take (j + 1)) d = ⟨{ y.x with kd := 3 }, y.ev, y.od⟩) := Lib.hid (by
                  have := (HBD.out.pi d.x (List.mem_map.2 ⟨d, List.mem_of_getElem? HD.out, rfl⟩)).1
                  rw [HT.out]; unfold dfgt; rw [if_pos ⟨by rw [← HY2.out.1]; exact hkd, HC.out⟩, if_pos (by rw [HY2.out.1] at hpi; omega), HY2.out.1])
                clear hkd hbb hpi
                go_upto_region 6 with (fail)
                refine wp_region_kp (by kernel_rfl) (by kernel_rfl) ?_
                repeat (go_big_quiet_step (fail))
                refine wpQuiet_nil ?_
                intro w3 k3
                have hw3 := Lib.hid (And.intro (hw2.out.1.kp k3) (hw2.out.2.thn k3 (by simp)))
                obtain ⟨d0, d1, d2, d3, _, _, _, _⟩ := hw3.out.1.ql.cells HX.out
                have e9 := hw3.out.1.ql.free
                have g31 : w3.cell? ⟨qa.g, 1, none⟩ = some (.slice (some ⟨qa.l, 0, none⟩) N qa.lc) := by have := hw3.out.1.ql.g.cell 1; simp only [List.length_set, HLen.out] at this; exact this
                clear c0 c1 c2 c3 f9 g1 gb k3 hw2
                have Z : Hid (QKP w0 B (w3.setCell ⟨qa.l, i * 8 + 1, none⟩ (.int .i64 3)) q k qa { D1 with sl := D1.sl.set i ⟨{ y.x with kd := 3 }, y.ev, y.od⟩ } ∧ Kp (qa.both q) w (w3.setCell ⟨qa.l, i * 8 + 1, none⟩ (.int .i64 3))) := Lib.hid (by
                  obtain ⟨z1, v1⟩ := hw3.out.1.put HX.out (x' := ⟨{ y.x with kd := 3 }, y.ev, y.od⟩) (j := 1) (v := .int .i64 3) (by omega) rfl rfl
                  simp only [List.set_set] at z1
                  exact ⟨z1, hw3.out.2.thn v1 (fun s h => .inl h)⟩)
                go_wp2
                exact ⟨⟨j + 1, by omega, by go_num, Lib.hid ⟨by rw [HE.out]; exact Z.out.1, Z.out.2⟩⟩, by simp [intOf]; omega⟩
            · have b2 : (y.x.bl == b) = false := by simp [hbb]
              have HE : Hid (dfgt (bl.take (j + 1)) d = dfgt (bl.take j) d) := Lib.hid (by
                have hcc := HY2.out.2
                rw [HT.out, dfgt_no hcc]
                refine dfgt_no ?_
                rw [HY2.out.1] at hbb
                simp at hcc ⊢
                exact ⟨hcc, fun e => hbb e⟩)
              clear hkd hbb
              go_upto_region 6 with (fail)
              refine wp_region_kp (by kernel_rfl) (by kernel_rfl) ?_
              repeat (go_big_quiet_step (fail))
              refine wpQuiet_nil ?_
              intro w3 k3
              go_wp2
              exact ⟨⟨j + 1, by omega, by go_num, Lib.hid ⟨by rw [HE.out]; exact hw2.out.1.kp k3, hw2.out.2.thn k3 (by simp)⟩⟩, by simp [intOf]; omega⟩
          · have b1 : (y.x.kd == 1) = false := by simp [hkd]
            have HE : Hid (dfgt (bl.take (j + 1)) d = dfgt (bl.take j) d) := Lib.hid (by
              rw [HT.out]
              by_cases hdk : d.x.kd = 1
              · cases hcc : (bl.take j).contains d.x.bl with
                | true => exact (dfgt_old (b := b) hdk hcc).1
                | false => rw [dfgt_no hcc] at HY; have := HY.out; subst this; exact absurd hdk hkd
              · rw [dfgt_kd hdk, dfgt_kd hdk])
            clear hkd
            go_upto_region 6 with (fail)
            refine wp_region_kp (by kernel_rfl) (by kernel_rfl) ?_
            repeat (go_big_quiet_step (fail))
            refine wpQuiet_nil ?_
            intro w3 k3
            go_wp2
            exact ⟨⟨j + 1, by omega, by go_num, Lib.hid ⟨by rw [HE.out]; exact hw2.out.1.kp k3, hw2.out.2.thn k3 (by simp)⟩⟩, by simp [intOf]; omega⟩
        · obtain rfl : j = n := by omega
          have hfin : Hid (FdI D { D1 with sl := D1.sl.set i (dfgt bl d) } bl (i + 1)) := Lib.hid (hp.out.set HD.out rfl)
          have hw3 : Hid (QKP w0 B wr q k qa { D1 with sl := D1.sl.set i (dfgt bl d) } ∧ Kp (qa.both q) w wr) := Lib.hid (by have := hw2.out; rw [List.take_of_length_le (by have := HL.out; omega)] at this; exact this)
          go_wp2
          exact ⟨⟨i + 1, _, by omega, by go_num, hw3, hfin⟩, by simp [intOf]; omega⟩
    · obtain rfl : i = N := by omega
      have e := hp.out.fin (by rw [HN.out]; exact Nat.le_refl _)
      subst e
      go_wp2
      exact bodyPost_end (v := .tuple #[]) (by simp [results, Tryz.results33, go_sem]) rfl (H.out _ hw.out.2 hw.out.1)
end
end
/-! ### PoolPlays: do both pools show the same? -/
section
open Go.RowKit Go.Shelf
set_option linter.unusedVariables false
set_option linter.unusedSimpArgs false
set_option maxRecDepth 100000
theorem any_idx {l : List DSl} (p : PSl → Bool) : (l.findIdx? (fun d => p d.x)).isSome = l.any (fun d => p d.x) := by
  rw [List.findIdx?_isSome]
section
variable {R : Ending → World → Prop} {w0 w w' : World} {B B2 m : Nat} {a : KA} {pa : PA} {q q' : QA} {k k' : KS} {qa : QPA} {D : DP}
set_option maxHeartbeats 4000000 in
theorem shows13_any (hK : KPl w B a k pa D.ps) (hQ : QKP w0 B2 w q k qa D) (h : ∀ w', Kp [] w w' → R (.returned (.bool true)) w') : Calls Tryz.prog 38 #[.pointer (some ⟨pa.g, 0, none⟩), .pointer (some ⟨qa.g, 0, none⟩)] w R := by
  have H := Lib.hid h
  have HK := Lib.hid hK
  have HQ := Lib.hid hQ
  obtain ⟨N, hN⟩ : ∃ N, D.sl.length = N := ⟨_, rfl⟩
  have hn0 := hQ.ql.hn
  rw [hN] at hn0
  have HN := Lib.hid hN
  have HPd : Hid (∀ (R : Ending → World → Prop) (w1 : World) (f : Int), Kp [] w w1 → (∀ w', Kp [] w1 w' → R (.returned (.int .i64 (idxV (D.sl.findIdx? (fun d => pinB f d.x))))) w') → Calls Tryz.prog 84 #[.pointer (some ⟨qa.g, 0, none⟩), .int .i64 f] w1 R) := Lib.hid (fun R w1 f k1 h => qpin_any (hQ.kp k1).ql f h)
  have HPs : Hid (∀ (R : Ending → World → Prop) (w1 : World) (f : Int), Kp [] w w1 → (∀ w', Kp [] w1 w' → R (.returned (.int .i64 (pPins D.ps f))) w') → Calls Tryz.prog 73 #[.pointer (some ⟨pa.g, 0, none⟩), .int .i64 f] w1 R) := Lib.hid (fun R w1 f k1 h => ppins_any (hK.off0 k1) f h)
  have HHs : Hid (∀ (R : Ending → World → Prop) (w1 : World) (f : Int), Kp [] w w1 → (∀ w', Kp [] w1 w' → R (.returned (.bool (D.sl.any (fun d => hasB f d.x)))) w') → Calls Tryz.prog 89 #[.pointer (some ⟨pa.g, 0, none⟩), .int .i64 f] w1 R) := Lib.hid (fun R w1 f k1 h => phas_any (hK.off0 k1) f (fun w' k' => by rw [ps_idx, any_idx]; exact h w' k'))
  have HFl : Hid (∀ (R : Ending → World → Prop) (w1 : World), Kp [] w w1 → R (.returned (.int .i64 D.fills)) w1 → Calls Tryz.prog 90 #[.pointer (some ⟨pa.g, 0, none⟩)] w1 R) := Lib.hid (fun R w1 k1 h => pfills_any (hK.off0 k1) h)
  clear h hK hQ hN
  go_enter Tryz.func38, Tryz.ntmps38
  go_wp2
  go_loopw [5, 6, 7] (fun iv _ _ wr => ∃ f : Int, -1 ≤ f ∧ f ≤ 7 ∧ iv = .int .i64 f ∧ Hid (Kp [] w wr)) (fun iv _ _ _ => (7 - intOf iv).toNat)
  case atStart => exact ⟨-1, by omega, by omega, rfl, Lib.hid (Kp.refl _ _)⟩
  case round =>
    obtain ⟨f, hf0, hf7, rfl, kr⟩ := hrel
    by_cases hlt : f < 7
    · have hlt' : decide (f < 7) = true := by simpa using hlt
      cases hfi : D.sl.findIdx? (fun d => pinB f d.x) with
      | none =>
        have HPd1 : Hid (∀ (R : Ending → World → Prop) (w1 : World), Kp [] w w1 → (∀ w', Kp [] w1 w' → R (.returned (.int .i64 (-1))) w') → Calls Tryz.prog 84 #[.pointer (some ⟨qa.g, 0, none⟩), .int .i64 f] w1 R) := Lib.hid (fun R w1 k1 h => HPd.out R w1 f k1 (by rw [hfi]; exact h))
        have HPs1 : Hid (∀ (R : Ending → World → Prop) (w1 : World), Kp [] w w1 → (∀ w', Kp [] w1 w' → R (.returned (.int .i64 0)) w') → Calls Tryz.prog 73 #[.pointer (some ⟨pa.g, 0, none⟩), .int .i64 f] w1 R) := Lib.hid (fun R w1 k1 h => HPs.out R w1 f k1 (by unfold pPins; rw [ps_idx, hfi]; exact h))
        clear hfi
        go_wp2_with (first | (go_at_call 84; ((refine HPd1.out _ _ kr.out ?_); intro w2 k2)) | (go_at_call 73; ((refine HPs1.out _ _ (kr.out.trans k2) ?_); intro w3 k3)))
        exact ⟨⟨f + 1, by omega, by omega, by go_num, Lib.hid ((kr.out.trans k2).trans k3)⟩, by simp [intOf]; omega⟩
      | some i =>
        obtain ⟨d, hd, _⟩ : ∃ d, D.sl[i]? = some d ∧ pinB f d.x = true := by
          obtain ⟨hi, hp, _⟩ := List.findIdx?_eq_some_iff_getElem.1 hfi
          exact ⟨_, List.getElem?_eq_getElem hi, hp⟩
        have hiN : i < N := by rw [← HN.out]; exact (List.getElem?_eq_some_iff.1 hd).1
        have HPd1 : Hid (∀ (R : Ending → World → Prop) (w1 : World), Kp [] w w1 → (∀ w', Kp [] w1 w' → R (.returned (.int .i64 i)) w') → Calls Tryz.prog 84 #[.pointer (some ⟨qa.g, 0, none⟩), .int .i64 f] w1 R) := Lib.hid (fun R w1 k1 h => HPd.out R w1 f k1 (by rw [hfi]; exact h))
        have HPs1 : Hid (∀ (R : Ending → World → Prop) (w1 : World), Kp [] w w1 → (∀ w', Kp [] w1 w' → R (.returned (.int .i64 d.x.pi)) w') → Calls Tryz.prog 73 #[.pointer (some ⟨pa.g, 0, none⟩), .int .i64 f] w1 R) := Lib.hid (fun R w1 k1 h => HPs.out R w1 f k1 (by
          have e : pPins D.ps f = d.x.pi := by
            unfold pPins; rw [ps_idx, hfi]; simp only
            have hd2 : D.ps.sl[i]? = some d.x := by simp [DP.ps, hd]
            rw [hd2]
          rw [e]; exact h))
        have HC : Hid (∀ w', Kp [] w w' → w'.cell? ⟨qa.g, 1, none⟩ = some (.slice (some ⟨qa.l, 0, none⟩) N qa.lc) ∧ w'.cell? ⟨qa.l, i * 8 + 3, none⟩ = some (.int .i64 d.x.pi)) := Lib.hid (fun w' k' => by
          have z := (HQ.out.kp k').ql
          obtain ⟨c0, c1, c2, c3, c4, c5, c6, c7⟩ := z.cells hd
          exact ⟨by have := z.g.cell 1; rw [HN.out] at this; exact this, c3⟩)
        have hge : (0 : Int) ≤ (i : Int) := by omega
        clear hfi hd
        go_wp2_with (first | (go_at_call 84; ((refine HPd1.out _ _ kr.out ?_); intro w2 k2; obtain ⟨g1, c3⟩ := HC.out _ (kr.out.trans k2))) | (go_at_call 73; ((refine HPs1.out _ _ (kr.out.trans k2) ?_); intro w3 k3)))
        exact ⟨⟨f + 1, by omega, by omega, by go_num, Lib.hid ((kr.out.trans k2).trans k3)⟩, by simp [intOf]; omega⟩
    · obtain rfl : f = 7 := by omega
      clear hlt hf0 hf7
      go_wp2
      go_loopw [8, 9, 10] (fun iv _ _ wr => ∃ b : Nat, b ≤ 12 ∧ iv = .int .i64 b ∧ Hid (Kp [] w wr)) (fun iv _ _ _ => 12 - (intOf iv).toNat)
      case atStart => exact ⟨0, Nat.zero_le _, rfl, kr⟩
      case round =>
        obtain ⟨b, hb, rfl, kr2⟩ := hrel
        clear kr
        have g1 : wr.cell? ⟨qa.g, 1, none⟩ = some (.slice (some ⟨qa.l, 0, none⟩) N qa.lc) := by have := (HQ.out.kp kr2.out).ql.g.cell 1; rw [HN.out] at this; exact this
        by_cases hlt : b < 12
        · go_wp2
          go_loopw [9, 10] (fun hv iv wr => ∃ j : Nat, j ≤ N ∧ iv = .int .i64 j ∧ ∃ t : Bool, hv = .bool t ∧ Hid (Kp [] w wr) ∧ Hid (t = (D.sl.take j).any (fun d => hasB (b : Int) d.x))) (fun _ iv _ => N - (intOf iv).toNat)
          case atStart => exact ⟨0, Nat.zero_le _, rfl, false, rfl, kr2, Lib.hid (by simp)⟩
          case round =>
            obtain ⟨j, hj, rfl, t, rfl, kr3, ht⟩ := hrel
            clear g1
            have g1 : wr.cell? ⟨qa.g, 1, none⟩ = some (.slice (some ⟨qa.l, 0, none⟩) N qa.lc) := by have := (HQ.out.kp kr3.out).ql.g.cell 1; rw [HN.out] at this; exact this
            by_cases hlt2 : j < N
            · obtain ⟨d, hd, _⟩ := get_lt (l := D.sl) (k := j) (by have := HN.out; omega)
              obtain ⟨c0, c1, c2, c3, c4, c5, c6, c7⟩ := (HQ.out.kp kr3.out).ql.cells hd
              have HT : Hid (((D.sl.take (j + 1)).any (fun d => hasB (b : Int) d.x)) = (t || hasB (b : Int) d.x)) := Lib.hid (by rw [take_snoc hd, List.any_append, ← ht.out]; simp)
              clear c0 c3 c4 c5 c6 c7 hd
              cases t with
              | true =>
                go_wp2
                exact ⟨⟨j + 1, by omega, by go_num, true, rfl, kr3, Lib.hid (by rw [HT.out]; rfl)⟩, by simp [intOf]; omega⟩
              | false =>
                by_cases hkd : (d.x.kd == 1) = true
                · by_cases hbl : (d.x.bl == (b : Int)) = true
                  · have HT2 := Lib.hid (show ((D.sl.take (j + 1)).any (fun d => hasB (b : Int) d.x)) = true by rw [HT.out]; unfold hasB; rw [hkd, hbl]; rfl)
                    go_wp2
                    exact ⟨⟨j + 1, by omega, by go_num, true, rfl, kr3, Lib.hid HT2.out.symm⟩, by simp [intOf]; omega⟩
                  · have hbl' : (d.x.bl == (b : Int)) = false := by simpa using hbl
                    have HT2 := Lib.hid (show ((D.sl.take (j + 1)).any (fun d => hasB (b : Int) d.x)) = false by rw [HT.out]; unfold hasB; rw [hbl']; simp)
                    clear hbl
                    go_wp2
                    exact ⟨⟨j + 1, by omega, by go_num, false, rfl, kr3, Lib.hid HT2.out.symm⟩, by simp [intOf]; omega⟩
                · have hkd' : (d.x.kd == 1) = false := by simpa using hkd
                  have HT2 := Lib.hid (show ((D.sl.take (j + 1)).any (fun d => hasB (b : Int) d.x)) = false by rw [HT.out]; unfold hasB; rw [hkd']; simp)
                  clear hkd
                  go_wp2
                  exact ⟨⟨j + 1, by omega, by go_num, false, rfl, kr3, Lib.hid HT2.out.symm⟩, by simp [intOf]; omega⟩
            · obtain rfl : j = N := by omega
              have e : t = D.sl.any (fun d => hasB (b : Int) d.x) := by have := ht.out; rw [List.take_of_length_le (by have := HN.out; omega)] at this; exact this
              have HHs1 : Hid (∀ (R : Ending → World → Prop) (w1 : World), Kp [] w w1 → (∀ w', Kp [] w1 w' → R (.returned (.bool t)) w') → Calls Tryz.prog 89 #[.pointer (some ⟨pa.g, 0, none⟩), .int .i64 b] w1 R) := Lib.hid (fun R w1 k1 h => HHs.out R w1 b k1 (by rw [← e]; exact h))
              clear e ht
              cases t
              all_goals
                go_wp2_with (go_at_call 89; ((refine HHs1.out _ _ kr3.out ?_); intro w2 k2))
                exact ⟨⟨b + 1, by omega, by go_num, Lib.hid (kr3.out.trans k2)⟩, by simp [intOf]; omega⟩
        · obtain rfl : b = 12 := by omega
          have g3 : wr.cell? ⟨qa.g, 3, none⟩ = some (.int .i64 D.fills) := (HQ.out.kp kr2.out).ql.g.cell 3
          have HFl1 : Hid (∀ (R : Ending → World → Prop) (w1 : World), Kp [] wr w1 → R (.returned (.int .i64 D.fills)) w1 → Calls Tryz.prog 90 #[.pointer (some ⟨pa.g, 0, none⟩)] w1 R) := Lib.hid (fun R w1 k1 h => HFl.out R w1 (kr2.out.trans k1) h)
          clear HPd HPs HHs HFl g1
          go_upto_region 20 with (fail)
          refine wp_region_kp (by kernel_rfl) (by kernel_rfl) ?_
          repeat (go_big_quiet_step (first | (go_at_call 90; (refine HFl1.out _ _ (kpw_kp _ _) ?_; exact kpx_mk (Kp.refl _ _)))))
          refine wpQuiet_nil ?_
          intro w9 k9
          go_wp2
          exact H.out _ (kr2.out.trans k9)
end
end
/-! ### The document's pool: its part of pieces. -/
section
open Go.RowKit Go.Shelf
set_option linter.unusedVariables false
set_option linter.unusedSimpArgs false
set_option maxRecDepth 100000
section
variable {R : Ending → World → Prop} {w w' : World}
set_option maxHeartbeats 2000000 in
theorem rjoin_any (a b c d L : Nat) (ha : a ≤ 274877906944) (hb : b ≤ 274877906944) (hc : c ≤ 274877906944) (hd : d ≤ 274877906944) (h : ∀ w', Kp [] w w' → R (.returned (.agg #[.int .i64 (joinP (a, b) L (c, d)).1, .int .i64 (joinP (a, b) L (c, d)).2])) w') :
    Calls Tryz.prog 88 #[.agg #[.int .i64 a, .int .i64 b], .int .i64 L, .agg #[.int .i64 c, .int .i64 d]] w R := by
  unfold joinP at h
  have w1 : IntKind.i64.wrap ((a : Int) + c) = ((a + c : Nat) : Int) := by simp [IntKind.wrap, IntKind.signed, IntKind.bits]; omega
  have w2 : IntKind.i64.wrap ((b : Int) + d) = ((b + d : Nat) : Int) := by simp [IntKind.wrap, IntKind.signed, IntKind.bits]; omega
  have w3 : IntKind.i64.wrap ((a : Int) + d) = ((a + d : Nat) : Int) := by simp [IntKind.wrap, IntKind.signed, IntKind.bits]; omega
  have w4 : IntKind.i64.wrap ((b : Int) + c) = ((b + c : Nat) : Int) := by simp [IntKind.wrap, IntKind.signed, IntKind.bits]; omega
  by_cases hp : L % 2 = 0
  · rw [if_pos hp] at h
    have H := Lib.hid h
    have hq : (L : Int).tmod 2 = 0 := by rw [Int.tmod_eq_emod_of_nonneg (by omega)]; omega
    clear h hp w3 w4
    go_enter Tryz.func88, Tryz.ntmps88
    go_wp2
    exact bodyPost_ret (v := .agg #[.int .i64 (a + c : Nat), .int .i64 (b + d : Nat)]) (by simp [results, Tryz.results88, go_sem]; try rfl) rfl (H.out _ (by repeat first | exact Kp.refl _ _ | refine Kp.setCell ?_ (.inr (by simp)) _ | refine Kp.alloc ?_ _))
  · rw [if_neg hp] at h
    have H := Lib.hid h
    have hq : (L : Int).tmod 2 = 1 := by rw [Int.tmod_eq_emod_of_nonneg (by omega)]; omega
    clear h hp w1 w2
    go_enter Tryz.func88, Tryz.ntmps88
    go_wp2
    exact bodyPost_ret (v := .agg #[.int .i64 (a + d : Nat), .int .i64 (b + c : Nat)]) (by simp [results, Tryz.results88, go_sem]; try rfl) rfl (H.out _ (by repeat first | exact Kp.refl _ _ | refine Kp.setCell ?_ (.inr (by simp)) _ | refine Kp.alloc ?_ _))
end
section
variable {R : Ending → World → Prop} {w0 w w' : World} {B m : Nat} {q q' : QA} {k k' : KS} {qa : QPA} {D : DP}
set_option maxHeartbeats 8000000 in
theorem qpart_any (h0 : QKP w0 B w q k qa D) (hi : DI m k D) {A : Option Addr} {n c : Nat} {l : List Pc} (hr : Rd w [] A (l.flatMap Pc.vals)) (hl : l.length = n) (hn : n ≤ 200) (hok : ∀ x ∈ l, x.ok)
    (h1 : partD k D l (0, 0) 0 = none → ∀ w', Kp [] w w' → R (.returned (.tuple #[.agg #[.int .i64 0, .int .i64 0], .int .i64 1])) w')
    (h2 : ∀ z1 z2 : Nat, partD k D l (0, 0) 0 = some (z1, z2) → ∀ w', Kp [] w w' → R (.returned (.tuple #[.agg #[.int .i64 z1, .int .i64 z2], .int .i64 0])) w') :
    Calls Tryz.prog 36 #[.pointer (some ⟨qa.g, 0, none⟩), .slice A n c] w R := by
  have H1 := Lib.hid h1
  have H2 := Lib.hid h2
  have HL := Lib.hid hl
  have HR := Lib.hid hr
  have HI := Lib.hid hi
  have HOK := Lib.hid hok
  have HQ := Lib.hid h0
  obtain ⟨N, hN⟩ : ∃ N, D.sl.length = N := ⟨_, rfl⟩
  have HN := Lib.hid hN
  have HPd : Hid (∀ (R : Ending → World → Prop) (w1 : World) (f : Int), Kp [] w w1 → (∀ w', Kp [] w1 w' → R (.returned (.int .i64 (idxV (D.sl.findIdx? (fun d => pinB f d.x))))) w') → Calls Tryz.prog 84 #[.pointer (some ⟨qa.g, 0, none⟩), .int .i64 f] w1 R) := Lib.hid (fun R w1 f k1 h => qpin_any (h0.kp k1).ql f h)
  clear h1 h2 hl hr hi h0 hok hN
  go_enter Tryz.func36, Tryz.ntmps36
  go_upto_region 2 with (fail)
  refine genV (fun W => ∃ rb, w.heap.size = rb ∧ Hid (Kp [] w W ∧ Bk W rb 85 [.int .i64 0, .int .i64 0] ∧ Bk W (rb + 1) 85 [.int .i64 0, .int .i64 0])) (by
    refine ⟨_, rfl, Lib.hid ⟨?_, ?_, ?_⟩⟩
    · repeat first | exact Kp.refl _ _ | refine Kp.setCell ?_ (.inr (by simp)) _ | refine Kp.alloc ?_ _
    · exact ((Bk.new' _ _ _).alloc _).cast rfl
    · exact (Bk.newAt (by simp) _ _).cast rfl) ?_
  rintro W0 ⟨rb, hrb, hW0⟩
  rw [hrb]
  have hrw : w.heap.size ≤ rb := by omega
  clear hrb
  go_wp2
  go_loopw [7, 8, 9, 10, 11] (fun nv iv _ _ _ wr => ∃ (i z1 z2 L : Nat), i ≤ n ∧ nv = .int .i64 L ∧ iv = .int .i64 i ∧ (L ≤ 256 * i ∧ z1 ≤ 1073741824 * i ∧ z2 ≤ 1073741824 * i) ∧ Hid (Kp [] w wr ∧ Bk wr rb 85 [.int .i64 0, .int .i64 0] ∧ Bk wr (rb + 1) 85 [.int .i64 z1, .int .i64 z2]) ∧ Hid (partD k D (l.drop i) (z1, z2) L = partD k D l (0, 0) 0)) (fun _ iv _ _ _ _ => n - (intOf iv).toNat)
  case atStart => exact ⟨0, 0, 0, 0, Nat.zero_le _, rfl, rfl, by simp, hW0, Lib.hid (by simp)⟩
  case round =>
    obtain ⟨i, z1, z2, L, hin, rfl, rfl, hLn, hP, hQ⟩ := hrel
    by_cases hlt : i < n
    · obtain ⟨x, hx, hmx⟩ := get_lt (l := l) (k := i) (by have := HL.out; omega)
      obtain ⟨b, o, rfl, _, hbl0, hc⟩ := rd_at HR.out pvals_len (by have := HL.out; omega) hx
      have HDR := Lib.hid (show l.drop i = x :: l.drop (i + 1) by rw [List.drop_eq_getElem_cons (List.getElem?_eq_some_iff.1 hx).1]; rw [(List.getElem?_eq_some_iff.1 hx).2])
      have HXOK := Lib.hid (HOK.out x hmx)
      have HCX : Hid (∀ w', Kp [] wr w' → w'.cell? ⟨b, o + i * 3, none⟩ = some (.int .i64 x.f) ∧ w'.cell? ⟨b, o + i * 3 + 1, none⟩ = some (.int .i64 x.o) ∧ w'.cell? ⟨b, o + i * 3 + 2, none⟩ = some (.int .i64 x.n)) := Lib.hid (fun w' k' => ⟨((hP.out.1.trans k').cell (p := ⟨b, o + i * 3, none⟩) hbl0 (by simp)).trans (hc 0 _ rfl), ((hP.out.1.trans k').cell (p := ⟨b, o + i * 3 + 1, none⟩) hbl0 (by simp)).trans (hc 1 _ rfl), ((hP.out.1.trans k').cell (p := ⟨b, o + i * 3 + 2, none⟩) hbl0 (by simp)).trans (hc 2 _ rfl)⟩)
      obtain ⟨c0, c1, c2⟩ := HCX.out _ (Kp.refl _ _)
      clear hc hmx
      have HFail : Hid (partD k D (x :: l.drop (i + 1)) (z1, z2) L = none → ∀ w', Kp [] wr w' → ∀ u1 u2, R (.returned (.tuple #[.agg #[.int .i64 0, .int .i64 0], .int .i64 1])) ((w'.setCell ⟨rb, 0, none⟩ u1).setCell ⟨rb, 1, none⟩ u2)) := Lib.hid (fun he w' k' u1 u2 => H1.out (by rw [← hQ.out, HDR.out]; exact he) _ (((hP.out.1.trans k').setCell (p := ⟨rb, 0, none⟩) (.inr hrw) _).setCell (p := ⟨rb, 1, none⟩) (.inr hrw) _))
      cases hfi : D.sl.findIdx? (fun d => pinB x.f d.x) with
      | none =>
        have HPd1 : Hid (∀ (R : Ending → World → Prop) (w1 : World), Kp [] w w1 → (∀ w', Kp [] w1 w' → R (.returned (.int .i64 (-1))) w') → Calls Tryz.prog 84 #[.pointer (some ⟨qa.g, 0, none⟩), .int .i64 x.f] w1 R) := Lib.hid (fun R w1 k1 h => HPd.out R w1 x.f k1 (by rw [hfi]; exact h))
        have HH := Lib.hid (HFail.out (partD_none (by rw [ps_idx]; exact hfi)))
        clear hfi HFail hx
        go_upto_region 7 with (go_at_call 84; ((refine HPd1.out _ _ hP.out.1 ?_); intro w2 k2))
        have bR := hP.out.2.1.kp k2 (by simp)
        obtain ⟨s0, s1, t0, t1⟩ := bk2t bR
        go_wp2
        have bz := (bR.set_ 0 (.int .i64 0)).set_ 1 (.int .i64 0)
        obtain ⟨g0, g1, _⟩ := bk2t (bz.cast rfl)
        exact bodyPost_ret (v := .tuple #[.agg #[.int .i64 0, .int .i64 0], .int .i64 1]) (by simp [results, Tryz.results36, go_sem, g0, g1]; try rfl) rfl (HH.out _ k2 _ _)
      | some j =>
        have HPd1 : Hid (∀ (R : Ending → World → Prop) (w1 : World), Kp [] w w1 → (∀ w', Kp [] w1 w' → R (.returned (.int .i64 j)) w') → Calls Tryz.prog 84 #[.pointer (some ⟨qa.g, 0, none⟩), .int .i64 x.f] w1 R) := Lib.hid (fun R w1 k1 h => HPd.out R w1 x.f k1 (by rw [hfi]; exact h))
        have hj0 : ¬ ((j : Int) < 0) := by omega
        have HWi : Hid (∀ (R : Ending → World → Prop) (w1 : World), (∀ w', Kp [] w1 w' → R (.returned (.bool (wB x))) w') → Calls Tryz.prog 87 #[.agg #[.int .i64 x.f, .int .i64 x.o, .int .i64 x.n]] w1 R) := Lib.hid (fun R w1 h => pwithin_any x HXOK.out h)
        by_cases hwb : wB x = true
        · have hbd := wB_bd hwb
          obtain ⟨d, y, hd, hd2, hft, htr, hbl2, e0, e1, o0, o1, _, _⟩ := HI.out.pin (f := x.f) (by rw [ps_idx]; exact hfi) (o := x.o) (n := x.n) hbd.1 hbd.2.1 (by omega)
          have hstep := partD_step (k := k) (z := (z1, z2)) (L := L) (l := l.drop (i + 1)) (by rw [ps_idx]; exact hfi) hd ⟨hbd.1, hbd.2.1, by omega⟩
          rw [htr] at hstep
          dsimp only at hstep
          obtain ⟨y1, hy1⟩ : ∃ a : Nat, d.ev = a := ⟨d.ev.toNat, by omega⟩
          obtain ⟨y2, hy2⟩ : ∃ a : Nat, d.od = a := ⟨d.od.toNat, by omega⟩
          rw [hy1, hy2] at hstep
          simp only [Int.toNat_natCast] at hstep
          have hyb : y1 ≤ 1073741824 ∧ y2 ≤ 1073741824 := by omega
          obtain ⟨xo, hxo⟩ : ∃ a : Nat, x.o = a := ⟨x.o.toNat, by omega⟩
          obtain ⟨xn, hxn⟩ : ∃ a : Nat, x.n = a := ⟨x.n.toNat, by omega⟩
          obtain ⟨xf, hxf⟩ : ∃ a : Nat, x.f = a := ⟨x.f.toNat, by have := fat_some hft; omega⟩
          have hyf : k.fs[xf]? = some y := by have := (fat_some hft).2; rw [hxf] at this; simpa using this
          have hxon : xo + xn ≤ 256 := by omega
          have hyl : y.bs.length = 256 := by
            obtain ⟨fi, y', hf', hy', _, hl'⟩ := HI.out.fr d (List.mem_of_getElem? hd)
            have hpf := (pin_pos' (f := x.f) (by
              obtain ⟨x9, hx9, hp9⟩ := idx_at (p := D.ps) (by rw [ps_idx]; exact hfi)
              rw [hd2] at hx9; injection hx9 with hx9; subst hx9; exact hp9)).1
            have : fi = xf := by omega
            subst this
            rw [hyf] at hy'; injection hy' with hy'; subst hy'; exact hl'
          obtain ⟨bs, hbs⟩ : ∃ bs, cutB y.bs x.o x.n = bs := ⟨_, rfl⟩
          rw [hbs] at hbl2 hstep
          have hcutb : List.drop xo (List.take (xo + xn) y.bs) = bs := by rw [← hbs, hxo, hxn]; unfold cutB; rw [List.drop_take]; simp
          have hbsl : bs.length = xn := by rw [hbl2, hxn]; simp
          have HST := Lib.hid hstep
          have HCD : Hid (∀ w', Kp [] w w' → w'.cell? ⟨qa.g, 1, none⟩ = some (.slice (some ⟨qa.l, 0, none⟩) N qa.lc) ∧ w'.cell? ⟨qa.l, j * 8 + 4, none⟩ = some (.int .i64 d.x.n) ∧ w'.cell? ⟨qa.l, j * 8 + 5, none⟩ = some (.int .i64 y1) ∧ w'.cell? ⟨qa.l, j * 8 + 6, none⟩ = some (.int .i64 y2) ∧ w'.cell? ⟨qa.g, 0, none⟩ = some (.pointer (some ⟨q.g, 0, none⟩)) ∧ w'.cell? ⟨q.g, 0, none⟩ = some (.pointer (some ⟨q.bM, 0, none⟩)) ∧ (∃ cc, w'.cell? ⟨q.bM, 2, none⟩ = some (.slice (some ⟨q.bB, 0, none⟩) k.fs.length cc)) ∧ w'.cell? ⟨q.bB, xf, none⟩ = some (.string (S y.bs))) := Lib.hid (fun w' k' => by
            have z := HQ.out.kp k'
            obtain ⟨c0, c1, c2, c3, c4, c5, c6, c7⟩ := z.ql.cells hd
            obtain ⟨cc0, cc1, cc2, ht⟩ := z.qn.t.t
            rw [hy1] at c5
            rw [hy2] at c6
            exact ⟨by have := z.ql.g.cell 1; rw [HN.out] at this; exact this, c4, c5, c6, z.ql.g.cell 0, z.qn.g.cell 0, ⟨cc2, ht.cell 2⟩, z.qn.t.b.cell (by simp [hyf, bsV])⟩)
          have hjN : j < N := by rw [← HN.out]; exact (List.getElem?_eq_some_iff.1 hd).1
          have hfl : xf < k.fs.length := (List.getElem?_eq_some_iff.1 hyf).1
          obtain ⟨dn, hdn⟩ : ∃ dn, d.x.n = dn := ⟨_, rfl⟩
          rw [hdn] at HCD HST
          rw [hwb] at HWi
          have HXO := Lib.hid (And.intro hxo hxn)
          have HXF := Lib.hid hxf
          clear hfi HFail hx hd hd2 hft htr hwb hbd e0 e1 o0 o1 hy1 hy2 hbs hbl2 hyf hxo hxn hxf HOK HPd hstep hdn
          go_upto_region 9 with (first | (go_at_call 84; ((refine HPd1.out _ _ hP.out.1 ?_); intro w2 k2; obtain ⟨d0, d1, d2⟩ := HCX.out _ k2)) | (go_at_call 87; ((refine HWi.out _ _ ?_); intro w3 k3)))
          have K3 := Lib.hid (k2.trans k3)
          obtain ⟨v1, v4, v5, v6, _, _, _, _⟩ := HCD.out _ (hP.out.1.trans K3.out)
          clear c0 c1 c2 d0 d1 d2 k2 k3 HPd1 HWi
          go_upto_region 10 with (fail)
          refine genV (fun W => ∃ xb, w3.heap.size = xb ∧ Hid (Kp [] wr W ∧ Bk W xb 85 [.int .i64 y1, .int .i64 y2])) ⟨_, rfl, Lib.hid ⟨K3.out.alloc _, (Bk.new' _ _ _).cast rfl⟩⟩ ?_
          rintro W4 ⟨xb, hxb, hW4⟩
          rw [hxb]
          have hrx : rb + 1 < xb := by have h5 := hP.out.2.2.lt; have h6 := K3.out.size; omega
          have hwx : wr.heap.size ≤ xb := by have h6 := K3.out.size; omega
          clear v1 v4 v5 v6 hxb K3
          obtain ⟨d0, d1, d2⟩ := HCX.out _ hW4.out.1
          obtain ⟨v1, v4, _, _, _, _, _, _⟩ := HCD.out _ (hP.out.1.trans hW4.out.1)
          go_cut [66] (fun v W' => ∃ t : Bool, v = .bool t ∧ Hid (t = false ↔ (x.o = 0 ∧ x.n = dn)) ∧ Hid (Kp [] wr W' ∧ Bk W' xb 85 [.int .i64 y1, .int .i64 y2]))
          case first =>
            rcases (by omega : x.o ≠ 0 ∨ (x.o = 0 ∧ x.n ≠ dn) ∨ (x.o = 0 ∧ x.n = dn)) with g1 | ⟨g1, g2⟩ | ⟨g1, g2⟩
            · have g3 : (x.o != 0) = true := by simpa using g1
              have E1 := Lib.hid (show ¬ (x.o = 0 ∧ x.n = dn) by omega)
              clear g1
              refine wp_region_kp (by kernel_rfl) (by kernel_rfl) ?_
              repeat (go_big_quiet_step (fail))
              refine wpQuiet_nil ?_
              intro w5 k5
              go_wp2
              go_meet
              exact ⟨true, rfl, Lib.hid ⟨(fun h => by cases h), fun h => absurd h E1.out⟩, Lib.hid ⟨hW4.out.1.trans k5, hW4.out.2.kp k5 (by simp)⟩⟩
            · have g3 : (x.o != 0) = false := by simp [g1]
              have g4 : (x.n != dn) = true := by simpa using g2
              have E1 := Lib.hid (show ¬ (x.o = 0 ∧ x.n = dn) by omega)
              clear g1 g2
              refine wp_region_kp (by kernel_rfl) (by kernel_rfl) ?_
              repeat (go_big_quiet_step (fail))
              refine wpQuiet_nil ?_
              intro w5 k5
              go_wp2
              go_meet
              exact ⟨true, rfl, Lib.hid ⟨(fun h => by cases h), fun h => absurd h E1.out⟩, Lib.hid ⟨hW4.out.1.trans k5, hW4.out.2.kp k5 (by simp)⟩⟩
            · have g3 : (x.o != 0) = false := by simp [g1]
              have g4 : (x.n != dn) = false := by simp [g2]
              have E1 := Lib.hid (And.intro g1 g2)
              clear g1 g2
              refine wp_region_kp (by kernel_rfl) (by kernel_rfl) ?_
              repeat (go_big_quiet_step (fail))
              refine wpQuiet_nil ?_
              intro w5 k5
              go_wp2
              go_meet
              exact ⟨false, rfl, Lib.hid ⟨fun _ => E1.out, fun _ => rfl⟩, Lib.hid ⟨hW4.out.1.trans k5, hW4.out.2.kp k5 (by simp)⟩⟩
          case rest =>
          obtain ⟨t, rfl, ht, hk5⟩ := hcut
          obtain ⟨w5, hw5⟩ : ∃ w5, wc = w5 := ⟨_, rfl⟩
          rw [hw5] at hk5 ⊢
          clear hw5 d0 d1 d2 v1 v4 hW4
          obtain ⟨yy, hyy⟩ : ∃ yy, (if x.o = 0 ∧ x.n = dn then (y1, y2) else pr bs) = yy := ⟨_, rfl⟩
          have HYY := Lib.hid hyy
          have hyb2 : yy.1 ≤ 1073741824 ∧ yy.2 ≤ 1073741824 := by
            rw [← hyy]
            split
            · exact hyb
            · have := pr_bd bs; omega
          have hst := HST.out
          rw [hyy] at hst
          have HST2 := Lib.hid hst
          have HCX2 : Hid (∀ w', Kp [] wr w' → w'.cell? ⟨b, o + i * 3, none⟩ = some (.int .i64 xf) ∧ w'.cell? ⟨b, o + i * 3 + 1, none⟩ = some (.int .i64 xo) ∧ w'.cell? ⟨b, o + i * 3 + 2, none⟩ = some (.int .i64 xn)) := Lib.hid (fun w' k' => by
            have := HCX.out w' k'
            rw [HXF.out, HXO.out.1, HXO.out.2] at this; exact this)
          clear hyy hst HST HCX
          go_upto_if 66 with (fail)
          go_cut [11] (fun _ W' => Hid (Kp [] wr W' ∧ Bk W' xb 85 [.int .i64 yy.1, .int .i64 yy.2]))
          case first =>
            cases t with
            | false =>
              have E1 := Lib.hid (ht.out.1 rfl)
              clear ht
              go_wp2
              go_meet
              exact Lib.hid ⟨hk5.out.1, by rw [← HYY.out, if_pos E1.out]; exact hk5.out.2⟩
            | true =>
              have E1 := Lib.hid (show ¬ (x.o = 0 ∧ x.n = dn) from fun h => by have := ht.out.2 h; cases this)
              have HYB : Hid (pr bs = yy) := Lib.hid (by rw [← HYY.out, if_neg E1.out])
              clear ht
              obtain ⟨d0, d1, d2⟩ := HCX2.out _ hk5.out.1
              obtain ⟨v1, _, _, _, u0, u1, ⟨cc2, u2⟩, u3⟩ := HCD.out _ (hP.out.1.trans hk5.out.1)
              go_upto_region 11 with (fail)
              refine wp_region_kp (by kernel_rfl) (by kernel_rfl) ?_
              repeat (go_big_quiet_step (fail))
              refine wpQuiet_nil ?_
              intro w6 k6
              have K6 := Lib.hid (And.intro (hk5.out.1.trans k6) (hk5.out.2.kp k6 (by simp)))
              clear d0 d1 d2 v1 u0 u1 u2 u3 k6 hk5
              obtain ⟨d0, d1, d2⟩ := HCX2.out _ K6.out.1
              obtain ⟨bw, cw, hcs, _, hbk, hbr⟩ := conv_letter (S bs)
              rw [S_size, hbsl] at hcs
              rw [S_data] at hbr
              have HOf : Hid (∀ (R : Ending → World → Prop) (V : World) (b : Nat), b = V.heap.size → (∀ w', Kp [] (bw V) w' → R (.returned (.agg #[.int .i64 yy.1, .int .i64 yy.2])) w') → Calls Tryz.prog 82 #[.slice (some ⟨b, 0, none⟩) xn (cw V)] (bw V) R) := Lib.hid (fun R V b hb h => rof_any (hbr V b hb).rd0 hbsl (by omega) (by rw [HYB.out]; exact h))
              have HBK : Hid (∀ (S : List Nat) (a w : World), Kp S a w → Kp S a (bw w)) := Lib.hid hbk
              have hw9 : IntKind.i64.wrap ((xo : Int) + xn) = ((xo + xn : Nat) : Int) := by simp [IntKind.wrap, IntKind.signed, IntKind.bits]; omega
              obtain ⟨x0, x1, xf0, xf1⟩ := bk2t K6.out.2
              have HXB : Hid (∀ w', Kp [] w6 w' → w'.cell? ⟨xb, 0, none⟩ = some (.int .i64 y1) ∧ w'.cell? ⟨xb, 1, none⟩ = some (.int .i64 y2) ∧ w'.frozen? ⟨xb, 0, none⟩ = false ∧ w'.frozen? ⟨xb, 1, none⟩ = false) := Lib.hid (fun w' k' => by
                obtain ⟨a, b, c, d⟩ := bk2t (K6.out.2.kp k' (by simp))
                exact ⟨a, b, c, d⟩)
              clear hbk hbr x0 x1 xf0 xf1
              have HCX3 : Hid (∀ w', Kp [xb] w6 w' → w'.cell? ⟨b, o + i * 3, none⟩ = some (.int .i64 xf) ∧ w'.cell? ⟨b, o + i * 3 + 1, none⟩ = some (.int .i64 xo) ∧ w'.cell? ⟨b, o + i * 3 + 2, none⟩ = some (.int .i64 xn)) := Lib.hid (fun w' k' => by
                obtain ⟨a1, a2, a3⟩ := HCX2.out _ K6.out.1
                have hbx : b < w6.heap.size := Nat.lt_of_lt_of_le hbl0 (hP.out.1.trans K6.out.1).size
                have hbn : b ∉ [xb] := by simp; have := hP.out.1.size; omega
                exact ⟨(k'.cell (p := ⟨b, o + i * 3, none⟩) hbx hbn).trans a1, (k'.cell (p := ⟨b, o + i * 3 + 1, none⟩) hbx hbn).trans a2, (k'.cell (p := ⟨b, o + i * 3 + 2, none⟩) hbx hbn).trans a3⟩)
              go_upto_region 12 with (fail)
              go_region_held_law (fun w' => w'.cell? ⟨b, o + i * 3, none⟩ = some (.int .i64 xf) ∧ w'.cell? ⟨b, o + i * 3 + 1, none⟩ = some (.int .i64 xo) ∧ w'.cell? ⟨b, o + i * 3 + 2, none⟩ = some (.int .i64 xn)) ((refine HCX3.out _ ?_; repeat (first | with_reducible exact kk9' | with_reducible refine Kp.setCell ?_ (.inl (by simp)) _ | with_reducible exact Kp.refl _ _ | with_reducible refine Kp.drew ?_ | with_reducible refine HBK.out _ _ _ ?_))) (first | (go_simp; go_at_call 82; ((refine HOf.out _ w6.drew _ rfl ?_); intro w9 k9; have kk9 : Kp [] w6 w9 := (HBK.out _ _ _ (Kp.refl [] w6).drew).trans k9; have kk9' : Kp [xb] w6 w9 := kk9.mono (by simp); obtain ⟨x0, x1, xf0, xf1⟩ := HXB.out _ kk9)))
              all_goals
                go_wp2_with fail
                go_meet
                have b9 := K6.out.2.kp kk9 (by simp)
                obtain ⟨bb, kb⟩ := bk2set b9 (.int .i64 yy.1) (.int .i64 yy.2)
                exact Lib.hid ⟨(K6.out.1.trans kk9).thn kb (fun s hs => by simp at hs; subst hs; exact .inr hwx), bb⟩
          case rest =>
            have h7 := hcut
            clear hcut
            obtain ⟨d0, d1, d2⟩ := HCX2.out _ h7.out.1
            have bz := hP.out.2.2.kp h7.out.1 (by simp)
            obtain ⟨z0', z1', fz0, fz1⟩ := bk2t bz
            obtain ⟨x0, x1, _, _⟩ := bk2t h7.out.2
            obtain ⟨b1, b2, b3⟩ := hLn
            have hi200 : i ≤ 199 := by omega
            obtain ⟨zz, hzz⟩ : ∃ zz, joinP (z1, z2) L yy = zz := ⟨_, rfl⟩
            have hzb : zz.1 ≤ 1073741824 * (i + 1) ∧ zz.2 ≤ 1073741824 * (i + 1) := by
              rw [← hzz]; unfold joinP
              split <;> simp <;> omega
            have HJ : Hid (∀ (R : Ending → World → Prop) (w1 : World), (∀ w', Kp [] w1 w' → R (.returned (.agg #[.int .i64 zz.1, .int .i64 zz.2])) w') → Calls Tryz.prog 88 #[.agg #[.int .i64 z1, .int .i64 z2], .int .i64 L, .agg #[.int .i64 yy.1, .int .i64 yy.2]] w1 R) := Lib.hid (fun R w1 h => by
              rw [← hzz] at h
              exact rjoin_any z1 z2 yy.1 yy.2 L (by omega) (by omega) (by omega) (by omega) h)
            have hst := HST2.out
            rw [hzz] at hst
            have HQ2 : Hid (partD k D (l.drop (i + 1)) (zz.1, zz.2) (L + xn) = partD k D l (0, 0) 0) := Lib.hid (by
              rw [← hQ.out, HDR.out, hst, HXO.out.2]; simp)
            have hwl : IntKind.i64.wrap ((L : Int) + xn) = ((L + xn : Nat) : Int) := by simp [IntKind.wrap, IntKind.signed, IntKind.bits]; omega
            have HFIN := Lib.hid (show L + xn ≤ 256 * (i + 1) ∧ zz.1 ≤ 1073741824 * (i + 1) ∧ zz.2 ≤ 1073741824 * (i + 1) from ⟨by omega, hzb.1, hzb.2⟩)
            have HZ : Hid (∀ w', Kp [] wc w' → w'.cell? ⟨rb + 1, 0, none⟩ = some (.int .i64 z1) ∧ w'.cell? ⟨rb + 1, 1, none⟩ = some (.int .i64 z2) ∧ w'.frozen? ⟨rb + 1, 0, none⟩ = false ∧ w'.frozen? ⟨rb + 1, 1, none⟩ = false ∧ w'.cell? ⟨b, o + i * 3 + 2, none⟩ = some (.int .i64 xn)) := Lib.hid (fun w' k' => by
              obtain ⟨a, b, c, d⟩ := bk2t (bz.kp k' (by simp))
              exact ⟨a, b, c, d, (HCX2.out w' (h7.out.1.trans k')).2.2⟩)
            have hbz : b ≠ rb + 1 := by omega
            clear hzz hyb2 hyb b1 b2 b3 hzb hst HST2
            go_wp2_with (go_at_call 88; ((refine HJ.out _ _ ?_); intro w8 k8; obtain ⟨e0, e1, e2, e3, e4⟩ := HZ.out w8 k8))
            obtain ⟨bb, kb⟩ := bk2set (bz.kp k8 (by simp)) (.int .i64 zz.1) (.int .i64 zz.2)
            exact ⟨⟨i + 1, zz.1, zz.2, L + xn, by omega, rfl, by go_num, HFIN.out, Lib.hid ⟨((hP.out.1.trans h7.out.1).trans k8).thn kb (fun s hs => by simp at hs; subst hs; exact .inr (by omega)), ((hP.out.2.1.kp h7.out.1 (by simp)).kp k8 (by simp)).kp kb (by simp), bb⟩, HQ2⟩, by simp [intOf]; omega⟩
        · have hno : ¬ (0 ≤ x.o ∧ 0 ≤ x.n ∧ x.n ≤ 256 - x.o) := by
            intro hh; apply hwb; unfold wB; exact decide_eq_true (by omega)
          have HH := Lib.hid (HFail.out (partD_out hno))
          have hwb' : wB x = false := by simpa using hwb
          rw [hwb'] at HWi
          clear hfi HFail hx hwb hwb' hno
          go_upto_region 8 with (first | (go_at_call 84; ((refine HPd1.out _ _ hP.out.1 ?_); intro w2 k2; obtain ⟨d0, d1, d2⟩ := HCX.out _ k2)) | (go_at_call 87; ((refine HWi.out _ _ ?_); intro w3 k3)))
          have bR := (hP.out.2.1.kp k2 (by simp)).kp k3 (by simp)
          obtain ⟨s0, s1, t0, t1⟩ := bk2t bR
          go_wp2
          have bz := (bR.set_ 0 (.int .i64 0)).set_ 1 (.int .i64 0)
          obtain ⟨g0, g1, _⟩ := bk2t (bz.cast rfl)
          exact bodyPost_ret (v := .tuple #[.agg #[.int .i64 0, .int .i64 0], .int .i64 1]) (by simp [results, Tryz.results36, go_sem, g0, g1]; try rfl) rfl (HH.out _ (k2.trans k3) _ _)
    · obtain rfl : i = n := by omega
      have HE : Hid (∀ u0 u1, R (.returned (.tuple #[.agg #[.int .i64 z1, .int .i64 z2], .int .i64 0])) ((wr.setCell ⟨rb, 0, none⟩ u0).setCell ⟨rb, 1, none⟩ u1)) := Lib.hid (fun u0 u1 => by
        have q1 := hQ.out
        rw [List.drop_of_length_le (by have := HL.out; omega)] at q1
        exact H2.out z1 z2 (by rw [← q1]; rfl) _ ((hP.out.1.setCell (p := ⟨rb, 0, none⟩) (.inr hrw) _).setCell (p := ⟨rb, 1, none⟩) (.inr hrw) _))
      have bR := hP.out.2.1
      obtain ⟨s0, s1, t0, t1⟩ := bk2t bR
      obtain ⟨q0, q1, _, _⟩ := bk2t hP.out.2.2
      go_wp2
      have bz := (bR.set_ 0 (.int .i64 z1)).set_ 1 (.int .i64 z2)
      obtain ⟨g0, g1, _⟩ := bk2t (bz.cast rfl)
      exact bodyPost_ret (v := .tuple #[.agg #[.int .i64 z1, .int .i64 z2], .int .i64 0]) (by simp [results, Tryz.results36, go_sem, g0, g1]; try rfl) rfl (HE.out _ _)
end
end
end Go.Proofs.YtedblbpmlbjnhaaGreat
