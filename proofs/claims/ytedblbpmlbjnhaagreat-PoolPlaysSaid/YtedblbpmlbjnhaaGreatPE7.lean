/- A disk's Write, its settling and Sync. A disk's settling and Sync. pantlerlaw05: alive, FrameBlank. -/
import Derived.Test.YtedblbpmlbjnhaaGreatPE6
import Derived.Deep.CutBlock
import Derived.Deep.DeepCutAuto
import Derived.Deep.RegionHeldLaw
import Derived.Laws.Cover3
import Derived.Great.BuildSlice
import Derived.Test.YtedblbpmlbjnhaaGreatPE2
import Derived.Lib.SliceRun
namespace Go.Proofs.YtedblbpmlbjnhaaGreat
/-! ### A disk's Write, its settling and Sync. -/
section
open Go.RowKit Go.Shelf
set_option linter.unusedVariables false
set_option linter.unusedSimpArgs false
set_option maxRecDepth 100000
theorem fold_set : ∀ (vs : List Value) (k o : Nat) (arr : Array Value), o + k + vs.length ≤ arr.size → ((vs.zipIdx k).foldl (fun cs x => cs.setIfInBounds (o + x.snd) x.fst) arr).toList = arr.toList.take (o + k) ++ vs ++ arr.toList.drop (o + k + vs.length)
  | [], k, o, arr, _ => by simp
  | v :: vs, k, o, arr, h => by
    simp only [List.zipIdx_cons, List.foldl_cons, List.length_cons] at h ⊢
    rw [fold_set vs (k + 1) o _ (by simp; omega)]
    simp only [Array.toList_setIfInBounds]
    have hp : o + k < arr.toList.length := by simp; omega
    have e1 : (arr.toList.set (o + k) v).take (o + (k + 1)) = arr.toList.take (o + k) ++ [v] := by
      rw [← Nat.add_assoc, List.take_succ_eq_append_getElem (by simpa using hp), List.getElem_set_self, List.take_set_of_le (Nat.le_refl _)]
    have e2 : (arr.toList.set (o + k) v).drop (o + (k + 1) + vs.length) = arr.toList.drop (o + k + (vs.length + 1)) := by
      rw [List.drop_set_of_lt (by omega)]; congr 1; omega
    rw [e1, e2]
    simp
theorem build_wr (W : World) (b : Int) {l : List UInt8} (hl : l.length = 256) : (Instr.build 247 #[(0, .int .i64 b), (1, .agg (bts l).toArray)]).run Tryz.prog W = .ok (.agg (wcells ⟨b, l⟩).toArray) W := by
  have hbl : (bts l).length = 256 := by rw [bts_len, hl]
  have e : List.foldl (fun cs x => cs.setIfInBounds (1 + x.snd) x.fst) (Tryz.zeroCells247.setIfInBounds 0 (.int .i64 b)) (bts l).zipIdx = (wcells ⟨b, l⟩).toArray := by
    apply Array.ext'
    rw [fold_set _ 0 1 _ (by rw [hbl]; simp [zc_wr])]
    rw [wcells_eq hl, hbl]
    have h1 : (Tryz.zeroCells247.setIfInBounds 0 (Value.int .i64 b)).toList.take (1 + 0) = [.int .i64 b] := by
      simp only [Array.toList_setIfInBounds]
      have : Tryz.zeroCells247.toList = .int .i64 0 :: List.replicate 256 (.int .u8 0) := by kernel_rfl
      rw [this]; rfl
    have h2 : (Tryz.zeroCells247.setIfInBounds 0 (Value.int .i64 b)).toList.drop (1 + 0 + 256) = [] := List.drop_eq_nil_of_le (by simp [zc_wr])
    rw [h1, h2]
    simp
  simp [go_sem, hbl, e]
theorem fill_wr {x : Wr} (hx : x.s.length = 256) : Instr.fill (fun i => some (i * 257, 257)) ((Array.range (1 * 257)).map (Tryz.zeroCells247[· % 257]!)) #[(0, .agg (wcells x).toArray)].toList = some (wcells x).toArray := by
  have hs : ∀ a : Array Value, a.size = 257 → Array.foldl (fun cs x => cs.setIfInBounds (0 * 257 + x.snd) x.fst) a (Value.agg (wcells x).toArray).cells.zipIdx = (wcells x).toArray := by
    intro a ha
    apply Array.ext'
    have : (Value.agg (wcells x).toArray).cells.zipIdx = ((wcells x).zipIdx).toArray := by simp [Value.cells]
    rw [this, List.foldl_toArray']
    · simp only [Nat.zero_mul]
      rw [fold_set _ 0 0 _ (by rw [wcells_len, ha]; decide), wcells_len]
      simp [List.drop_eq_nil_of_le, ha]
    · rfl
  simp only [Instr.fill]
  rw [if_neg (by simp [Value.cells, wcells_len]), hs _ (by simp)]
theorem bslice_wr (W : World) {x : Wr} (hx : x.s.length = 256) : (Instr.buildSlice 161 1 #[(0, .agg (wcells x).toArray)]).run Tryz.prog W = .ok (.slice (some ⟨W.heap.size, 0, none⟩) 1 1) (W.alloc (.cells (wcells x).toArray 247)) := by
  obtain ⟨ie, hie, hz, hsz, _⟩ := info_parts (show (Tryz.prog.info? 247).map (fun i => (i.zero, i.size, i.bytes)) = some (some (.agg Tryz.zeroCells247), 257, 264) by kernel_rfl)
  refine run_buildSlice W _ _ 1 _ _ ie _ Tryz.underlying161 hie hz (by rw [hsz]; decide) (by rw [hsz]; decide) ?_
  rw [hsz]
  have := fill_wr hx
  simpa [Value.cells, zc_wr] using this
theorem yields_build {P : Program} {ops : Array Oper} {S : World → Prop} {op : Oper} {a : Act} {t : Nat} {parts : Array (Nat × Operand)} {v : Value} (hw : Region.wanted op (yielded ops a.tmps) = true) (ho : op.op = .build t parts)
    (h : ∀ w, S w → (Instr.build t (parts.map fun (i, x) => (i, a.eval x))).run P w = .ok v w) : YieldsIf P ops S op v a :=
  .inl ⟨hw, fun w hs => by unfold execOp; simp only [ho, Sem.run_bind, h w hs, Result.andThen_ok]; rfl⟩
theorem wp_bs {P : Program} {o : Oper} {a : Act} {w w' : World} {K : Act → World → Prop} {Q : Exit → Act → World → Prop} {t n : Nat} {parts : Array (Nat × Operand)} {v : Value} (ho : o.op = .buildSlice t n parts)
    (h : (Instr.buildSlice t n (parts.map fun (i, x) => (i, a.eval x))).run P w = .ok v w') (hk : K (a.put o.dst v) w') : o.wp P a w K Q := by
  unfold Oper.wp execOp
  simp only [ho, Sem.run_bind, h, Result.andThen_ok]
  exact hk
theorem Dsk.app {R : Ending → World → Prop} {w W w5 : World} {bD bL bO c c3 : Nat} {A A3 : Option Addr} {d : DkS} (h : Dsk w bD bL bO A c d) {env b : Int} {l : List UInt8} (hm : dMay d env b = 0) (hl : l.length = 256) (kW : Kp [] w W)
    (ho : Ow w5 247 257 A3 (d.ln.length + 1) c3 (d.ln.flatMap wcells ++ wcells ⟨b, l⟩)) (hk : Kp (bks A) W w5) (hA : A3 = A ∨ A3 = some ⟨W.heap.size, 0, none⟩) :
    w5.cell? ⟨bD, 2, none⟩ = some (.slice A d.ln.length c) ∧ w5.frozen? ⟨bD, 2, none⟩ = false ∧ True ∧ Kp (bD :: bks A) w (w5.setCell ⟨bD, 2, none⟩ (.slice A3 (d.ln.length + 1) c3)) ∧
      Dsk (w5.setCell ⟨bD, 2, none⟩ (.slice A3 (d.ln.length + 1) c3)) bD bL bO A3 c3 { d with ln := d.ln ++ [⟨b, l⟩] } ∧ (A3 = A ∨ Fresh w.heap.size A3) := by
  have kk : Kp (bks A) w w5 := (kW.mono (by simp)).thn hk (fun s hs => .inl hs)
  have oW : ∀ e, 247 ≠ e → Off w (bks A) e := fun e he => Off.bks h.ln.ty he
  have h1 := h.dd.off kk (oW _ (by decide))
  have ks : Kp [bD] w5 (w5.setCell ⟨bD, 2, none⟩ (.slice A3 (d.ln.length + 1) c3)) := (Kp.refl _ _).setCell (p := ⟨bD, 2, none⟩) (.inl (by simp)) _
  have oD : ∀ e, 163 ≠ e → Off w5 [bD] e := fun e he => Off.one h1.ty he
  refine ⟨h1.cell 2, h1.frozen 2, trivial, (kk.mono (fun s hs => .inl (by simp [hs]))).thn ks (fun s hs => .inl (by simp at hs; simp [hs])), ⟨(h1.set_ 2 _).cast (by simp), (h.l.off kk (oW _ (by decide))).off ks (oD _ (by decide)), (h.o.off kk (oW _ (by decide))).off ks (oD _ (by decide)), (ho.off ks (oD _ (by decide))).cast (by simp) (by simp [List.flatMap_append]), ?_⟩, ?_⟩
  · have ⟨m1, m2, _⟩ := dMay_ok hm
    refine ⟨h.ok.n1, h.ok.ow, h.ok.pg, ?_, h.ok.lf, h.ok.ar⟩
    intro x hx
    simp at hx
    rcases hx with hx | rfl
    · exact h.ok.ln x hx
    · exact ⟨m1, m2, hl⟩
  · rcases hA with rfl | rfl
    · exact .inl rfl
    · refine .inr fun x hx => ?_
      simp [bks] at hx; have := kW.size; omega
section
variable {R : Ending → World → Prop} {w : World} {bD bL bO c : Nat} {A : Option Addr} {d : DkS}
theorem info_page2 : (Tryz.prog.info? 245).map (·.size) = some 256 := by kernel_rfl
theorem elt_wr : Elt Tryz.prog 161 247 (.agg Tryz.zeroCells247) 257 264 := ⟨Tryz.underlying161, by kernel_rfl, by kernel_rfl, by decide, by decide⟩
theorem wrapK {x : Int} (h1 : -9223372036854775808 ≤ x) (h2 : x ≤ 9223372036854775807) : IntKind.i64.wrap x = x := by
  first | (simp only [IntKind.wrap, wrap64]; omega) | (simp [IntKind.wrap, IntKind.signed, IntKind.bits]; omega) | (unfold IntKind.wrap; simp; omega)
/-- One write less, where the power is armed. -/
def dLess (d : DkS) : DkS := if d.arm = true then { d with left := d.left - 1 } else d
theorem dLess_eq (d : DkS) : (dLess d).bl = d.bl ∧ (dLess d).ow = d.ow ∧ (dLess d).ln = d.ln ∧ (dLess d).off = d.off ∧ (dLess d).arm = d.arm := by
  unfold dLess; split <;> exact ⟨rfl, rfl, rfl, rfl, rfl⟩
theorem dLess_may (d : DkS) (env b : Int) : dMay (dLess d) env b = dMay d env b := by
  obtain ⟨h1, h2, h3, h4, h5⟩ := dLess_eq d
  unfold dMay
  rw [h1, h2, h4]
theorem dLess_ok {d : DkS} (h : d.ok) (h0 : ¬ (d.arm = true ∧ d.left = 0)) : (dLess d).ok := by
  unfold dLess
  split
  · rename_i ha
    have h1 := h.ar ha
    have h2 := h.lf
    have h3 : d.left ≠ 0 := fun e => h0 ⟨ha, e⟩
    exact ⟨h.n1, h.ow, h.pg, h.ln, by simp only; omega, fun _ => by simp only; omega⟩
  · exact h
theorem dLess_write {d : DkS} {env b : Int} {l : List UInt8} (hm : dMay d env b = 0) (hl : l.length = 256) (h0 : ¬ (d.arm = true ∧ d.left = 0)) : dWrite d env b l = (0, { dLess d with ln := (dLess d).ln ++ [⟨b, l⟩] }) := by
  unfold dWrite dLess
  rw [if_pos hm, if_pos hl]
  split
  · rename_i ha
    rw [if_neg (fun e => h0 ⟨ha, e⟩)]
  · rfl
theorem Dsk.put_ {w w' : World} {bD bL bO c : Nat} {A : Option Addr} {d d' : DkS} (h : Dsk w bD bL bO A c d) (k : Kp [bD] w w') (hb : Bk w' bD 163 [.slice (some ⟨bL, 0, none⟩) d.bl.length d.bl.length, .slice (some ⟨bO, 0, none⟩) d.bl.length d.bl.length, .slice A d.ln.length c, .bool d'.off, .bool d'.arm, .int .i64 d'.left]) (e1 : d'.bl = d.bl) (e2 : d'.ow = d.ow) (e3 : d'.ln = d.ln) (ok : d'.ok) : Dsk w' bD bL bO A c d' := by
  have oD : ∀ e, 163 ≠ e → Off w [bD] e := fun e he => Off.one h.dd.ty he
  refine ⟨by rw [e1, e3]; exact hb, by rw [e1]; exact h.l.off k (oD _ (by decide)), by rw [e2]; exact h.o.off k (oD _ (by decide)), by rw [e3]; exact h.ln.off k (oD _ (by decide)), ok⟩
set_option maxHeartbeats 1000000 in
theorem dcut_any (hd : Dsk w bD bL bO A c d) (h : ∀ w', Kp [bD] w w' → Dsk w' bD bL bO A c (dCut d) → R (.returned (.tuple #[])) w') : Calls Tryz.prog 140 #[.pointer (some ⟨bD, 0, none⟩)] w R := by
  have H := Lib.hid h
  have HD := Lib.hid hd
  have c3 := hd.dd.cell 3
  have c4 := hd.dd.cell 4
  have f3 := hd.dd.frozen 3
  have f4 := hd.dd.frozen 4
  simp only [List.getElem?_cons_zero, List.getElem?_cons_succ] at c3 c4
  clear h hd
  go_enter Tryz.func140, Tryz.ntmps140
  go_wp2
  have kc : Kp [bD] w ((w.setCell ⟨bD, 3, none⟩ (.bool true)).setCell ⟨bD, 4, none⟩ (.bool false)) := ((Kp.refl _ _).setCell (p := ⟨bD, 3, none⟩) (.inl (by simp)) _).setCell (p := ⟨bD, 4, none⟩) (.inl (by simp)) _
  exact bodyPost_ret (results_none rfl _ _ _) rfl (H.out _ kc (HD.out.put_ kc (((HD.out.dd.set_ 3 _).set_ 4 _).cast rfl) rfl rfl rfl HD.out.ok.cut))
set_option maxHeartbeats 2000000 in
theorem dwrite_any (hd : Dsk w bD bL bO A c d) (hlm : d.ln.length ≤ 1000000) (env b : Int) {A2 : Option Addr} {n c2 : Nat} {l : List UInt8} (hr : Tb w 5 A2 (bts l)) (hl : l.length = n) (hn : n ≤ 1000000)
    (h : ∀ e A' c' d' w', Hid (dWrite d env b l = (e, d')) → Kp (bD :: bks A) w w' → Dsk w' bD bL bO A' c' d' → (A' = A ∨ Fresh w.heap.size A') → R (.returned (.int .i64 e)) w') :
    Calls Tryz.prog 95 #[.pointer (some ⟨bD, 0, none⟩), .int .i64 env, .int .i64 b, .slice A2 n c2] w R := by
  have H := Lib.hid h
  have HL := Lib.hid hl
  clear h hl
  by_cases hm : dMay d env b = 0
  · have HM : Hid (∀ (R : Ending → World → Prop), R (.returned (.int .i64 0)) w → Calls Tryz.prog 139 #[.pointer (some ⟨bD, 0, none⟩), .int .i64 env, .int .i64 b] w R) := Lib.hid (fun R h => may_any hd env b (by rw [hm]; exact h))
    by_cases h256 : n = 256
    · subst h256
      have c4 := hd.dd.cell 4
      have c5 := hd.dd.cell 5
      have f5 := hd.dd.frozen 5
      simp only [List.getElem?_cons_zero, List.getElem?_cons_succ] at c4 c5
      by_cases hA : d.arm = true ∧ d.left = 0
      · have hw : dWrite d env b l = (30, dCut d) := by
          unfold dWrite dCut
          rw [if_pos hm, if_pos HL.out, if_pos hA.1, if_pos hA.2]
        have HW := Lib.hid hw
        have HD := Lib.hid hd
        obtain ⟨hA1, hA2⟩ := hA
        rw [hA1] at c4
        rw [hA2] at c5
        clear hd hm hr hw hA1 hA2
        go_enter Tryz.func95, Tryz.ntmps95
        go_wp2_with (first | (go_at_call 139; refine HM.out _ ?_) | (go_at_call 140; ((refine dcut_any HD.out ?_); intro w1 k1 d1)))
        exact H.out 30 A c _ _ HW.out (k1.mono (by simp)) d1 (.inl rfl)
      have HDW := Lib.hid hd
      have hmm := hm
      have HWR := Lib.hid (dLess_write (l := l) hm HL.out hA)
      have HOK := Lib.hid (dLess_ok hd.ok hA)
      have HMM : Hid (dMay (dLess d) env b = 0) := Lib.hid (by rw [dLess_may]; exact hm)
      have HLE := Lib.hid (dLess_eq d)
      obtain ⟨am, ham⟩ : ∃ am, d.arm = am := ⟨_, rfl⟩
      rw [ham] at c4
      have hle0 : am = true → (d.left == 0) = false ∧ IntKind.i64.wrap (d.left - 1) = d.left - 1 := fun e => by
        have h1 := hd.ok.ar (by rw [ham]; exact e)
        have h2 := hd.ok.lf
        have h3 : d.left ≠ 0 := fun e2 => hA ⟨by rw [ham]; exact e, e2⟩
        exact ⟨by simpa using h3, wrapK (by omega) (by omega)⟩
      have HLS : Hid (∀ x, am = x → dLess d = if x = true then { d with left := d.left - 1 } else d) := Lib.hid (fun x e => by subst e; unfold dLess; rw [ham])
      have HLE0 := Lib.hid hle0
      have hr0 := Lib.hid hr
      clear hmm hle0 hA ham hd hm hr
      go_enter Tryz.func95, Tryz.ntmps95
      go_upto_if 23 with (go_at_call 139; refine HM.out _ ?_)
      go_cut [] (fun W' => Hid (Kp [bD] w W' ∧ Dsk W' bD bL bO A c (dLess d)))
      case first =>
        cases am with
        | true =>
          obtain ⟨g1, g2⟩ := HLE0.out rfl
          go_wp2
          go_meet
          have kc : Kp [bD] w (w.setCell ⟨bD, 5, none⟩ (.int .i64 (d.left - 1))) := (Kp.refl _ _).setCell (p := ⟨bD, 5, none⟩) (.inl (by simp)) _
          refine Lib.hid ⟨kc, HDW.out.put_ kc ?_ HLE.out.1 HLE.out.2.1 HLE.out.2.2.1 HOK.out⟩
          refine ((HDW.out.dd.set_ 5 _).cast ?_)
          rw [HLE.out.2.2.2.1, HLE.out.2.2.2.2, HLS.out true rfl]
          rfl
        | false =>
          go_wp2
          go_meet
          have e := HLS.out false rfl
          rw [if_neg (by simp)] at e
          rw [e]
          exact Lib.hid ⟨Kp.refl _ _, HDW.out⟩
      case rest =>
      obtain ⟨d2, hd2⟩ : ∃ d2, dLess d = d2 := ⟨_, rfl⟩
      have hlm2 : d2.ln.length ≤ 1000000 := by rw [← hd2, HLE.out.2.2.1]; exact hlm
      rw [hd2] at hcut HWR HMM
      have hd := hcut.out.2
      have KC := Lib.hid hcut.out.1
      have hr : Tb wc 5 A2 (bts l) := hr0.out.kp KC.out (Off.one HDW.out.dd.ty (by decide))
      have hA9 : Fresh wc.heap.size = Fresh wc.heap.size := rfl
      have hws := KC.out.size
      have HFR : Hid (∀ A', Fresh wc.heap.size A' → Fresh w.heap.size A') := Lib.hid (fun A' h b hb => Nat.le_trans hws (h b hb))
      have H2 : Hid (∀ e A' c' d' w', Hid (dWrite d env b l = (e, d')) → Kp (bD :: bks A) wc w' → Dsk w' bD bL bO A' c' d' → (A' = A ∨ Fresh wc.heap.size A') → R (.returned (.int .i64 e)) w') := Lib.hid (fun e A' c' d' w' h1 h2 h3 h4 => H.out e A' c' d' w' h1 ((KC.out.mono (fun s hs => .inl (by simp at hs; simp [hs]))).thn h2 (fun s hs => .inl hs)) h3 (h4.imp id (HFR.out _)))
      clear H HFR hws hA9 hcut HDW HOK HLE HLS HLE0 hr0 c4 c5 f5 HM hd2
      have c2' := hd.dd.cell 2
      have f2 := hd.dd.frozen 2
      simp only [List.getElem?_cons_zero, List.getElem?_cons_succ] at c2'
      have HD := Lib.hid hd
      have hrg : ∃ b2 o2, A2 = some ⟨b2, o2, none⟩ ∧ wc.rangeAt b2 o2 (bts l) := by
        obtain ⟨b2, o2, he, _, _, hc⟩ := hr.rd0 (by intro e; have := congrArg List.length e; rw [bts_len, HL.out] at this; simp at this)
        exact ⟨b2, o2, he, hc⟩
      obtain ⟨b2, o2, rfl, hrg⟩ := hrg
      have hrT := hr
      clear hd hr
      go_upto_region 11 with (fail)
      have hu := Tryz.underlying245
      have hi : (Tryz.prog.info? 245).map (·.size) = some (bts l).length := by rw [bts_len, HL.out]; exact info_page2
      have hbl : (bts l).length = 256 := by rw [bts_len, HL.out]
      have c2a : ∀ o, (wc.alloc o).cell? ⟨bD, 2, none⟩ = some (.slice A d2.ln.length c) := fun o => ((Kp.refl [] wc).alloc o).cell HD.out.dd.lt (by simp) |>.trans c2'
      have HK : Hid (∀ w', Kp [] wc w' → w'.cell? ⟨bD, 2, none⟩ = some (.slice A d2.ln.length c) ∧ w'.rangeAt b2 o2 (bts l)) := Lib.hid (fun w' k' => ⟨(k'.cell HD.out.dd.lt (by simp)).trans c2', fun j v hv => (k'.cell (World.block_lt_of_cell? wc _ (hrg j v hv)) (by simp)).trans (hrg j v hv)⟩)
      have hat : ∀ W, (Instr.arrayAt 245 (.slice (some ⟨b2, o2, none⟩) 256 c2)).run Tryz.prog W = .ok (.pointer (some ⟨b2, o2, none⟩)) W := fun W => run_arrayAt (w := W) 245 5 256 (some ⟨b2, o2, none⟩) 256 c2 Tryz.underlying245 (by omega)
      have hb2 : ∀ w', Kp (bD :: bks A) wc w' → w'.rangeAt b2 o2 (bts l) := fun w' k' j v hv => by
        obtain ⟨b3, o3, he, _, _, hc⟩ := (hrT.kp k' (Off.app (S := [bD]) (Off.one HD.out.dd.ty (by decide)) (Off.bks HD.out.ln.ty (by decide)))).rd0 (by intro e; rw [e] at hv; simp at hv)
        injection he with he
        injection he with h1 h2
        subst h1; subst h2
        exact hc j v hv
      have HB2 := Lib.hid hb2
      clear hb2 hrT
      refine wp_region_held_drew (S := fun w' => w'.rangeAt b2 o2 (bts l)) (by kernel_rfl) (HK.out _ (Kp.refl _ _).drew).2 (fun hHeld => ?_)
      refine wpAnyH_take (i := 0) (oi := { dst := some 38, op := .move (.tmp 0), type := 68, pos := "disk.go:97", after := #[], guard := none }) (v := ?_) rfl (by kernel_rfl) (by kernel_rfl) (by kernel_rfl) (fun _ _ _ h => h) (Or.inl ⟨by rfl, ?_⟩) hHeld ?_
      rotate_left
      · intro w hSw; (try dsimp only at hSw); go_simp; (try with_reducible rfl)
      (try simp only [Act.put, List.setIfInBounds_toArray, List.set_cons_zero, List.set_cons_succ])
      refine wpAnyH_take (i := 1) (oi := { dst := some 39, op := .move (.tmp 0), type := 68, pos := "disk.go:97", after := #[], guard := none }) (v := ?_) rfl (by kernel_rfl) (by kernel_rfl) (by kernel_rfl) (fun _ _ _ h => h) (Or.inl ⟨by rfl, ?_⟩) hHeld ?_
      rotate_left
      · intro w hSw; (try dsimp only at hSw); go_simp; (try with_reducible rfl)
      (try simp only [Act.put, List.setIfInBounds_toArray, List.set_cons_zero, List.set_cons_succ])
      refine wpAnyH_take (i := 2) (oi := { dst := some 40, op := .nilCheck (.tmp 39), type := 0, pos := "disk.go:97", after := #[{ on := 1, ground := .data }], guard := none }) (v := ?_) rfl (by kernel_rfl) (by kernel_rfl) (by kernel_rfl) (fun _ _ _ h => h) (Or.inl ⟨by rfl, ?_⟩) hHeld ?_
      rotate_left
      · intro w hSw; (try dsimp only at hSw); go_simp; (try with_reducible rfl)
      (try simp only [Act.put, List.setIfInBounds_toArray, List.set_cons_zero, List.set_cons_succ])
      refine wpAnyH_take (i := 3) (oi := { dst := some 41, op := .fieldAddr 163 (.tmp 40) 2, type := 0, pos := "disk.go:97", after := #[{ on := 2, ground := .data }], guard := none }) (v := ?_) rfl (by kernel_rfl) (by kernel_rfl) (by kernel_rfl) (fun _ _ _ h => h) (Or.inl ⟨by rfl, ?_⟩) hHeld ?_
      rotate_left
      · intro w hSw; (try dsimp only at hSw); go_simp; (try with_reducible rfl)
      (try simp only [Act.put, List.setIfInBounds_toArray, List.set_cons_zero, List.set_cons_succ])
      refine wpAnyH_take (i := 5) (oi := { dst := some 43, op := .move (.tmp 2), type := 3, pos := "disk.go:97", after := #[], guard := none }) (v := ?_) rfl (by kernel_rfl) (by kernel_rfl) (by kernel_rfl) (fun _ _ _ h => h) (Or.inl ⟨by rfl, ?_⟩) hHeld ?_
      rotate_left
      · intro w hSw; (try dsimp only at hSw); go_simp; (try with_reducible rfl)
      (try simp only [Act.put, List.setIfInBounds_toArray, List.set_cons_zero, List.set_cons_succ])
      refine wpAnyH_take (i := 6) (oi := { dst := some 44, op := .move (.tmp 3), type := 37, pos := "disk.go:97", after := #[], guard := none }) (v := ?_) rfl (by kernel_rfl) (by kernel_rfl) (by kernel_rfl) (fun _ _ _ h => h) (Or.inl ⟨by rfl, ?_⟩) hHeld ?_
      rotate_left
      · intro w hSw; (try dsimp only at hSw); go_simp; (try with_reducible rfl)
      (try simp only [Act.put, List.setIfInBounds_toArray, List.set_cons_zero, List.set_cons_succ])
      refine wpAnyH_take (i := 7) (oi := { dst := some 45, op := .sliceToArrayPointer 245 (.tmp 44), type := 0, pos := "disk.go:97", after := #[{ on := 6, ground := .data }], guard := none }) (v := ?_) rfl (by kernel_rfl) (by kernel_rfl) (by kernel_rfl) (fun _ _ _ h => h) (Or.inl ⟨by rfl, ?_⟩) hHeld ?_
      rotate_left
      · intro w hSw; (try dsimp only at hSw); go_simp; (try with_reducible rfl)
      (try simp only [Act.put, List.setIfInBounds_toArray, List.set_cons_zero, List.set_cons_succ])
      refine wpAnyH_take (i := 8) (oi := { dst := some 46, op := .load 245 (.tmp 45), type := 245, pos := "disk.go:97", after := #[{ on := 7, ground := .data }], guard := none }) (v := .agg (bts l).toArray) rfl (by kernel_rfl) (by kernel_rfl) (by kernel_rfl) (fun _ _ _ h => h) (yieldsIf_load_mid (by rfl) 245 (.tmp 45) rfl b2 o2 rfl (bts l) _ (fun _ h => h) hu rfl hi) hHeld ?_
      (try simp only [Act.put, List.setIfInBounds_toArray, List.set_cons_zero, List.set_cons_succ])
      refine wpAnyH_take (i := 9) (oi := { dst := some 47, op := .build 247 #[(0, .tmp 43), (1, .tmp 46)], type := 247, pos := "disk.go:97", after := #[{ on := 5, ground := .data }, { on := 8, ground := .data }], guard := none }) (v := .agg (wcells ⟨b, l⟩).toArray) rfl (by kernel_rfl) (by kernel_rfl) (by kernel_rfl) (fun _ _ _ h => h) (yields_build rfl rfl (fun w _ => (congrArg (fun p => (Instr.build 247 p).run Tryz.prog w) (by simp [Act.eval])).trans (build_wr w b HL.out))) hHeld ?_
      (try simp only [Act.put, List.setIfInBounds_toArray, List.set_cons_zero, List.set_cons_succ])
      refine wpAnyH_ready (rs := [4, 10]) (by kernel_rfl) (by simp) ?_
      refine AllReadyH.cons rfl (fun K hK => ?_) (AllReadyH.cons rfl (fun K hK => ?_) AllReadyH.nil)
      · rw [if_pos (by rfl)]
        go_simp
        refine hK.out _ _ hHeld (fun hHeld => ?_)
        clear hK K
        (try simp only [Act.put, List.setIfInBounds_toArray, List.set_cons_zero, List.set_cons_succ])
        refine wpAnyH_ready (rs := [10]) (by kernel_rfl) (by simp) ?_
        refine AllReadyH.cons rfl (fun K hK => ?_) AllReadyH.nil
        rw [if_pos (by rfl)]
        refine wp_bs (t := 161) rfl ((congrArg (fun p => (Instr.buildSlice 161 1 p).run Tryz.prog wc.drew) (by simp [Act.eval])).trans (bslice_wr wc.drew (x := ⟨b, l⟩) HL.out)) ?_
        refine hK.out _ _ (HK.out _ ((Kp.refl _ _).drew.alloc _)).2 (fun hHeld => ?_)
        clear hK K
        (try simp only [Act.put, List.setIfInBounds_toArray, List.set_cons_zero, List.set_cons_succ])
        refine wpAnyH_ready (rs := [11]) (by kernel_rfl) (by simp) ?_
        refine AllReadyH.cons rfl (fun K hK => ?_) AllReadyH.nil
        rw [if_pos (by rfl)]
        refine wp_app _ (.tmp 42) (.tmp 48) 161 rfl elt_wr A d2.ln.length c _ (by simp [Act.eval]) (HD.out.ln.drew.alloc _) [] (some ⟨wc.heap.size, 0, none⟩) 1 1 (wcells ⟨b, l⟩) (by simp [Act.eval]) (Rd.of_bk ((Bk.newAt rfl _ _).cast rfl) (by simp)) (by rw [wcells_len]) (wcells_one HL.out) (by omega) (fun A3 c3 w5 ho5 hk5 hA5 => ?_)
        obtain ⟨q5, f5, e5, k6, d6, a6⟩ := HD.out.app (R := R) HMM.out HL.out ((Kp.refl [] wc).drew.alloc _) ho5 hk5 hA5
        refine hK.out _ _ (HB2.out _ (((Kp.refl [] wc).drew.alloc _).mono (by simp) |>.thn hk5 (fun s hs => .inl (by simp [hs])))) (fun hHeld => ?_)
        clear hK K
        (try simp only [Act.put, List.setIfInBounds_toArray, List.set_cons_zero, List.set_cons_succ])
        clear c2' c2a f2
        refine wpAnyH_ready (rs := [12]) (by kernel_rfl) (by simp) ?_
        refine AllReadyH.cons rfl (fun K hK => ?_) AllReadyH.nil
        rw [if_pos (by rfl)]
        go_simp
        refine hK.out _ _ hHeld (fun hHeld => ?_)
        clear hK K
        (try simp only [Act.put, List.setIfInBounds_toArray, List.set_cons_zero, List.set_cons_succ])
        refine wpAnyH_ready (rs := [13]) (by kernel_rfl) (by simp) ?_
        refine AllReadyH.cons rfl (fun K hK => ?_) AllReadyH.nil
        rw [if_pos (by rfl)]
        go_simp
        refine hK.out _ _ hHeld (fun hHeld => ?_)
        clear hK K
        (try simp only [Act.put, List.setIfInBounds_toArray, List.set_cons_zero, List.set_cons_succ])
        refine wpAnyH_ready (rs := [14]) (by kernel_rfl) (by simp) ?_
        refine AllReadyH.cons rfl (fun K hK => ?_) AllReadyH.nil
        rw [if_pos (by rfl)]
        go_simp
        refine hK.out _ _ (HB2.out _ k6) (fun hHeld => ?_)
        clear hK K
        (try simp only [Act.put, List.setIfInBounds_toArray, List.set_cons_zero, List.set_cons_succ])
        refine wpAnyH_done (by kernel_rfl) ?_ _
        go_wp2
        exact H2.out 0 A3 c3 _ _ HWR k6 d6 a6
      · rw [if_pos (by rfl)]
        refine wp_bs (t := 161) rfl ((congrArg (fun p => (Instr.buildSlice 161 1 p).run Tryz.prog wc.drew) (by simp [Act.eval])).trans (bslice_wr wc.drew (x := ⟨b, l⟩) HL.out)) ?_
        refine hK.out _ _ (HK.out _ ((Kp.refl _ _).drew.alloc _)).2 (fun hHeld => ?_)
        clear hK K
        (try simp only [Act.put, List.setIfInBounds_toArray, List.set_cons_zero, List.set_cons_succ])
        refine wpAnyH_ready (rs := [4]) (by kernel_rfl) (by simp) ?_
        refine AllReadyH.cons rfl (fun K hK => ?_) AllReadyH.nil
        rw [if_pos (by rfl)]
        go_simp
        refine hK.out _ _ hHeld (fun hHeld => ?_)
        clear hK K
        (try simp only [Act.put, List.setIfInBounds_toArray, List.set_cons_zero, List.set_cons_succ])
        refine wpAnyH_ready (rs := [11]) (by kernel_rfl) (by simp) ?_
        refine AllReadyH.cons rfl (fun K hK => ?_) AllReadyH.nil
        rw [if_pos (by rfl)]
        refine wp_app _ (.tmp 42) (.tmp 48) 161 rfl elt_wr A d2.ln.length c _ (by simp [Act.eval]) (HD.out.ln.drew.alloc _) [] (some ⟨wc.heap.size, 0, none⟩) 1 1 (wcells ⟨b, l⟩) (by simp [Act.eval]) (Rd.of_bk ((Bk.newAt rfl _ _).cast rfl) (by simp)) (by rw [wcells_len]) (wcells_one HL.out) (by omega) (fun A3 c3 w5 ho5 hk5 hA5 => ?_)
        obtain ⟨q5, f5, e5, k6, d6, a6⟩ := HD.out.app (R := R) HMM.out HL.out ((Kp.refl [] wc).drew.alloc _) ho5 hk5 hA5
        refine hK.out _ _ (HB2.out _ (((Kp.refl [] wc).drew.alloc _).mono (by simp) |>.thn hk5 (fun s hs => .inl (by simp [hs])))) (fun hHeld => ?_)
        clear hK K
        (try simp only [Act.put, List.setIfInBounds_toArray, List.set_cons_zero, List.set_cons_succ])
        clear c2' c2a f2
        refine wpAnyH_ready (rs := [12]) (by kernel_rfl) (by simp) ?_
        refine AllReadyH.cons rfl (fun K hK => ?_) AllReadyH.nil
        rw [if_pos (by rfl)]
        go_simp
        refine hK.out _ _ hHeld (fun hHeld => ?_)
        clear hK K
        (try simp only [Act.put, List.setIfInBounds_toArray, List.set_cons_zero, List.set_cons_succ])
        refine wpAnyH_ready (rs := [13]) (by kernel_rfl) (by simp) ?_
        refine AllReadyH.cons rfl (fun K hK => ?_) AllReadyH.nil
        rw [if_pos (by rfl)]
        go_simp
        refine hK.out _ _ hHeld (fun hHeld => ?_)
        clear hK K
        (try simp only [Act.put, List.setIfInBounds_toArray, List.set_cons_zero, List.set_cons_succ])
        refine wpAnyH_ready (rs := [14]) (by kernel_rfl) (by simp) ?_
        refine AllReadyH.cons rfl (fun K hK => ?_) AllReadyH.nil
        rw [if_pos (by rfl)]
        go_simp
        refine hK.out _ _ (HB2.out _ k6) (fun hHeld => ?_)
        clear hK K
        (try simp only [Act.put, List.setIfInBounds_toArray, List.set_cons_zero, List.set_cons_succ])
        refine wpAnyH_done (by kernel_rfl) ?_ _
        go_wp2
        exact H2.out 0 A3 c3 _ _ HWR k6 d6 a6
    · have HH := H.out 1 A c d w (by simp [Hid, dWrite, hm, HL.out, h256]) (Kp.refl _ _) hd (.inl rfl)
      clear hd hr
      go_enter Tryz.func95, Tryz.ntmps95
      go_wp2_with (go_at_call 139; refine HM.out _ ?_)
      exact HH
  · have HM : Hid (∀ (R : Ending → World → Prop), R (.returned (.int .i64 (dMay d env b))) w → Calls Tryz.prog 139 #[.pointer (some ⟨bD, 0, none⟩), .int .i64 env, .int .i64 b] w R) := Lib.hid (fun R h => may_any hd env b h)
    have HH := H.out (dMay d env b) A c d w (by simp [Hid, dWrite, hm]) (Kp.refl _ _) hd (.inl rfl)
    clear hd
    go_enter Tryz.func95, Tryz.ntmps95
    go_wp2_with (go_at_call 139; refine HM.out _ ?_)
    exact HH
end
end
/-! ### A disk's settling and Sync. -/
section
open Go.RowKit Go.Shelf
set_option linter.unusedVariables false
set_option linter.unusedSimpArgs false
set_option maxRecDepth 100000

theorem kp_setCells {S : List Nat} {b : Nat} (hb : b ∈ S) : ∀ (vs : List Value) (o : Nat) (w : World), Kp S w (w.setCells b o vs)
  | [], _, w => Kp.refl _ _
  | v :: r, o, w => ((Kp.refl S w).setCell (p := ⟨b, o, none⟩) (.inl hb) v).trans (kp_setCells hb r (o + 1) _)
theorem bk_setCells {g t : Nat} : ∀ (vs : List Value) (o : Nat) (w : World) (cs : List Value), Bk w g t cs → o + vs.length ≤ cs.length → Bk (w.setCells g o vs) g t (cs.take o ++ vs ++ cs.drop (o + vs.length))
  | [], o, w, cs, h, _ => h.cast (by simp)
  | v :: r, o, w, cs, h, hl => by
    simp only [List.length_cons] at hl
    have := bk_setCells r (o + 1) _ _ (h.set_ o v) (by simp; omega)
    refine this.cast ?_
    have e1 : (cs.set o v).take (o + 1) = cs.take o ++ [v] := by
      rw [List.take_succ_eq_append_getElem (by simp; omega), List.getElem_set_self, List.take_set_of_le (Nat.le_refl _)]
    have e2 : (cs.set o v).drop (o + 1 + r.length) = cs.drop (o + (v :: r).length) := by
      rw [List.drop_set_of_lt (by omega)]; congr 1; simp; omega
    rw [e1, e2]
    simp
section
variable {R : Ending → World → Prop} {w : World} {bD bL bO c : Nat} {A : Option Addr} {d : DkS}
theorem bk_page {W : World} {bl : List (List UInt8)} (h : Bk W bL 245 (bl.flatMap pcells)) (hp : ∀ s ∈ bl, s.length = 256) {x : Wr} (h0 : 0 ≤ x.b) (h1 : x.b < bl.length) (hx : x.s.length = 256) :
    W.there bL (x.b.toNat * 256) 256 ∧ Bk (W.setCells bL (x.b.toNat * 256) (bts x.s)) bL 245 ((dSet bl x).flatMap pcells) := by
  have hl : x.b.toNat < bl.length := by omega
  have e := List.getElem?_eq_getElem hl
  have hlen : x.b.toNat * 256 + 256 ≤ (bl.flatMap pcells).length := by
    rw [flat_len pcells_len]
    have := Nat.mul_le_mul_right 256 (Nat.succ_le_of_lt hl)
    omega
  refine ⟨fun j hj => ⟨by rw [h.cell]; rw [List.getElem?_eq_getElem (by omega)]; rfl, h.frozen _⟩, (bk_setCells _ _ _ _ h (by rw [bts_len, hx]; exact hlen)).cast ?_⟩
  have := flat_splice pcells_len e (x' := x.s) (o := 0) (cs := bts x.s) (by rw [bts_len, hx]; decide) (by rw [pcells_eq hx, bts_len, hx, List.drop_eq_nil_of_le (by rw [pcells_len]; omega)]; simp)
  rw [Nat.add_zero] at this
  exact this
structure Stl (w W : World) (bD bL bO c : Nat) (A : Option Addr) (d : DkS) (k : Nat) : Prop where
  kp : Kp [bL] w W
  dd : Bk W bD 163 [.slice (some ⟨bL, 0, none⟩) d.bl.length d.bl.length, .slice (some ⟨bO, 0, none⟩) d.bl.length d.bl.length, .slice A d.ln.length c, .bool d.off, .bool d.arm, .int .i64 d.left]
  l : Bk W bL 245 (((d.ln.take k).foldl dSet d.bl).flatMap pcells)
  o : Bk W bO 3 (ints d.ow)
  ln : Ow W 247 257 A d.ln.length c (d.ln.flatMap wcells)
set_option maxHeartbeats 2000000 in
theorem settle_any (hd : Dsk w bD bL bO A c d) (hlm : d.ln.length ≤ 1000000) (n : Nat) (hnl : n ≤ d.ln.length)
    (h : ∀ w', Kp [bD, bL] w w' → Dsk w' bD bL bO none 0 (dSettle d n) → R (.returned (.tuple #[])) w') :
    Calls Tryz.prog 141 #[.pointer (some ⟨bD, 0, none⟩), .int .i64 n] w R := by
  have H := Lib.hid h
  have c0 := hd.dd.cell 0
  have c2 := hd.dd.cell 2
  simp only [List.getElem?_cons_zero, List.getElem?_cons_succ] at c0 c2
  have HD := Lib.hid hd
  have hcap : d.ln.length ≤ c := by
    rcases hd.ln.2 with ⟨_, h0⟩ | ⟨g, cap, cur, hv, _, _, hc, _⟩
    · omega
    · injection hv with _ _ hv; omega
  have hmax : c ≤ maxLen := by
    rcases hd.ln.2 with ⟨hv, h0⟩ | ⟨g, cap, cur, hv, _, _, hc, hm, _⟩
    · injection hv with _ _ hv; rw [hv]; decide
    · injection hv with _ _ hv; omega
  clear h hd
  go_enter Tryz.func141, Tryz.ntmps141
  go_wp2
  have hS0 : Stl w w bD bL bO c A d 0 := ⟨Kp.refl _ _, HD.out.dd, HD.out.l, HD.out.o, HD.out.ln⟩
  have HS0 := Lib.hid hS0
  clear hS0 c0 c2
  go_loopw [13] (fun iv wr => ∃ k : Nat, k ≤ n ∧ iv = .int .i64 k ∧ Hid (Stl w wr bD bL bO c A d k)) (fun iv _ => n - (intOf iv).toNat)
  case atStart => exact ⟨0, Nat.zero_le _, rfl, HS0⟩
  case round =>
    obtain ⟨k, hk, rfl, hS⟩ := hrel
    by_cases hlt : k < n
    · obtain ⟨x, hx, hxm⟩ := get_lt (l := d.ln) (k := k) (by omega)
      obtain ⟨hx0, hx1, hx2⟩ := HD.out.ok.ln x hxm
      have hrg : ∃ g, A = some ⟨g, 0, none⟩ ∧ wr.rangeAt g (k * 257) (wcells x) := by
        obtain ⟨b, off, hA, _, _, hc⟩ := rd_at (hS.out.ln.rd (N := []) (by simp)) wcells_len (by omega) hx
        obtain ⟨g, hg, _⟩ := hS.out.ln.form (by omega)
        rw [hg] at hA
        injection hA with hA
        injection hA with h1 h2
        subst h1; subst h2
        exact ⟨g, hg, fun j v hv => by have := hc j v hv; rwa [Nat.zero_add] at this⟩
      obtain ⟨g, hg, hrg⟩ := hrg
      have hst := box_write wr hx2
      have hwl := wcells_len x
      have HX := Lib.hid hx
      have HW := Lib.hid (wcells_eq hx2)
      have HX2 := Lib.hid hx2
      clear hx
      subst hg
      go_wp2
      refine wp_load_mid 247 (.tmp 15) rfl g (k * 257) rfl (wcells x) _ hrg Tryz.underlying247 rfl (by rw [wcells_len]; exact info_wr) ?_
      clear hrg
      go_wp2
      have hbk : Bk (wr.alloc (.cells (wcells x).toArray 247)) wr.heap.size 247 (wcells x) := (Bk.newAt rfl _ _).cast rfl
      have ka : Kp [] wr (wr.alloc (.cells (wcells x).toArray 247)) := (Kp.refl _ _).alloc _
      obtain ⟨W, hWe⟩ : ∃ W, wr.alloc (.cells (wcells x).toArray 247) = W := ⟨_, rfl⟩
      obtain ⟨bx, hbx⟩ : ∃ bx, wr.heap.size = bx := ⟨_, rfl⟩
      rw [hWe] at hbk ka ⊢
      rw [hbx] at hbk ⊢
      have hS2 : Stl w W bD bL bO c (some ⟨g, 0, none⟩) d k := ⟨hS.out.kp.trans (ka.mono (by simp)), hS.out.dd.kp ka (by simp), hS.out.l.kp ka (by simp), hS.out.o.kp ka (by simp), hS.out.ln.kp ka (by simp)⟩
      have hpg := dSet_pg (d.ln.take k) d.bl HD.out.ok.pg (fun y hy => (HD.out.ok.ln y (List.mem_of_mem_take hy)).2.2)
      have hln := dSet_len (d.ln.take k) d.bl
      have oL : Off W [bL] 163 := Off.one hS2.l.ty (by decide)
      have oW : Off W [bL] 247 := Off.one hS2.l.ty (by decide)
      have oO : Off W [bL] 3 := Off.one hS2.l.ty (by decide)
      obtain ⟨hth, _⟩ := bk_page hS2.l hpg hx0 (by rw [hln]; exact hx1) HX2.out
      obtain ⟨_, hb9⟩ := bk_page (W := W.drew) hS2.l hpg hx0 (by rw [hln]; exact hx1) HX2.out
      obtain ⟨m, hm⟩ : ∃ m : Nat, x.b = m := ⟨x.b.toNat, by omega⟩
      have HN : Hid (Stl w (W.drew.setCells bL (m * 256) (bts x.s)) bD bL bO c (some ⟨g, 0, none⟩) d (k + 1)) := by
        have kc : Kp [bL] W (W.drew.setCells bL (m * 256) (bts x.s)) := (Kp.refl [bL] W).drew.trans (kp_setCells (by simp) _ _ _)
        refine Lib.hid ⟨hS2.kp.thn kc (fun s hs => .inl hs), hS2.dd.off kc oL, ?_, hS2.o.off kc oO, hS2.ln.off kc oW⟩
        have e : (d.ln.take (k + 1)).foldl dSet d.bl = dSet ((d.ln.take k).foldl dSet d.bl) x := foldl_snoc HX.out
        rw [e]
        rw [hm, Int.toNat_natCast] at hb9
        exact hb9
      rw [hm, Int.toNat_natCast] at hth
      clear hb9 hpg hln
      have HK : Hid (∀ w', Kp [bL] W w' → w'.cell? ⟨bD, 0, none⟩ = some (.slice (some ⟨bL, 0, none⟩) d.bl.length d.bl.length) ∧ w'.cell? ⟨bx, 0, none⟩ = some (.int .i64 m) ∧ w'.rangeAt bx 1 (bts x.s)) := Lib.hid (fun w' k' => ⟨(hS2.dd.off k' oL).cell 0, by rw [(hbk.off k' oW).cell, HW.out, hm]; rfl, fun j v hv => by rw [(hbk.off k' oW).cell, HW.out, Nat.add_comm, List.getElem?_cons_succ]; exact hv⟩)
      obtain ⟨p0, p1, p2⟩ := HK.out W (Kp.refl _ _)
      have hu := Tryz.underlying245
      have hbl : (bts x.s).length = 256 := by rw [bts_len, HX2.out]
      have hi : (Tryz.prog.info? 245).map (·.size) = some (bts x.s).length := by rw [hbl]; exact info_page2
      have h1c := bts_one x.s
      have hm1 : m < d.bl.length := by omega
      have hn1 := HD.out.ok.n1
      clear hm hx0 hx1 hbk ka hWe hbx hst hwl
      go_region_held_law (fun w' => w'.cell? ⟨bD, 0, none⟩ = some (.slice (some ⟨bL, 0, none⟩) d.bl.length d.bl.length) ∧ w'.cell? ⟨bx, 0, none⟩ = some (.int .i64 m) ∧ w'.rangeAt bx 1 (bts x.s)) ((refine HK.out _ ?_; repeat (first | with_reducible exact Kp.refl _ _ | with_reducible refine Kp.drew ?_ | with_reducible refine Kp.trans ?_ (kp_setCells (by simp) _ _ _)))) (fail)
      go_wp2
      exact ⟨⟨k + 1, by omega, by go_num, HN⟩, by simp [intOf]; omega⟩
    · obtain rfl : k = n := by omega
      have q2 := hS.out.dd.cell 2
      have f2 := hS.out.dd.frozen 2
      simp only [List.getElem?_cons_zero, List.getElem?_cons_succ] at q2
      go_wp2
      have ks : Kp [bD] wr (wr.setCell ⟨bD, 2, none⟩ (.slice none 0 0)) := (Kp.refl _ _).setCell (p := ⟨bD, 2, none⟩) (.inl (by simp)) _
      have oD : ∀ e, 163 ≠ e → Off wr [bD] e := fun e he => Off.one hS.out.dd.ty he
      have hl := hS.out.l
      have hlen := dSet_len (d.ln.take k) d.bl
      refine bodyPost_ret (results_none rfl _ _ _) rfl (H.out _ ((hS.out.kp.mono (by simp)).thn ks (fun s hs => .inl (by simp at hs; simp [hs]))) ⟨(hS.out.dd.set_ 2 _).cast (by simp [dSettle, hlen]), hl.off ks (oD _ (by decide)), hS.out.o.off ks (oD _ (by decide)), Ow.nil, HD.out.ok.settle _⟩)
set_option maxHeartbeats 1000000 in
theorem sync_any (hd : Dsk w bD bL bO A c d) (hlm : d.ln.length ≤ 1000000)
    (h : ∀ e A' c' d' w', Hid (dSyncE d = (e, d')) → Kp [bD, bL] w w' → Dsk w' bD bL bO A' c' d' → (A' = A ∨ A' = none) → R (.returned (.int .i64 e)) w') :
    Calls Tryz.prog 96 #[.pointer (some ⟨bD, 0, none⟩)] w R := by
  have H := Lib.hid h
  have c2 := hd.dd.cell 2
  have c3 := hd.dd.cell 3
  simp only [List.getElem?_cons_zero, List.getElem?_cons_succ] at c2 c3
  have HD := Lib.hid hd
  clear h
  cases hof : d.off with
  | true =>
    rw [hof] at c3
    have HH := H.out 30 A c d w (by simp [Hid, dSyncE, hof]) (Kp.refl _ _) hd (.inl rfl)
    clear hd hof
    go_enter Tryz.func96, Tryz.ntmps96
    go_wp2
    exact HH
  | false =>
    rw [hof] at c3
    have HO := Lib.hid hof
    clear hd hof
    go_enter Tryz.func96, Tryz.ntmps96
    go_wp2_with (go_at_call 141; ((refine settle_any HD.out hlm d.ln.length (Nat.le_refl _) ?_); intro w1 k1 d1))
    exact H.out 0 none 0 (dSync d) _ (by simp [Hid, dSyncE, HO.out]) k1 (by rw [← dSettle_all]; exact d1) (.inr rfl)
end
end
/-! ### pantlerlaw05: alive, FrameBlank. -/
section
open Go.RowKit
set_option linter.unusedVariables false
set_option linter.unusedSimpArgs false
set_option maxRecDepth 100000
section
variable {R : Ending → World → Prop} {w : World}

def fw (o : Int) : Fr := { fz with ow := o }
end
end
end Go.Proofs.YtedblbpmlbjnhaaGreat
