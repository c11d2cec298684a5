/- A disk's Write, its settling and Sync. -/
import Derived.Test.YthlmfjfkkndboaaKb
import Derived.Deep.RegionHeldLaw
import Derived.Laws.Cover3
import Derived.Great.BuildSlice
namespace Go.Proofs.Ythlmfjfkkndboaa
open Go.RowKit Go.Shelf
set_option linter.unusedVariables false
set_option linter.unusedSimpArgs false
set_option maxRecDepth 100000
theorem fold_set : ∀ (vs : List Value) (k o : Nat) (arr : Array Value), o + k + vs.length ≤ arr.size → ((vs.zipIdx k).foldl (fun cs x => cs.setIfInBounds (o + x.snd) x.fst) arr).toList = arr.toList.take (o + k) ++ vs ++ arr.toList.drop (o + k + vs.length)
  | [], k, o, arr, _ => by simp
  | v :: vs, k, o, arr, h => by
    simp only [List.zipIdx_cons, List.foldl_cons, List.length_cons] at h ⊢
    rw [fold_set vs (k + 1) o _ (by simp; omega)]
    simp only [Array.toList_setIfInBounds]
    have hp : o + k < arr.toList.length := by simp; omega
    have e1 : (arr.toList.set (o + k) v).take (o + (k + 1)) = arr.toList.take (o + k) ++ [v] := by
      rw [← Nat.add_assoc, List.take_succ_eq_append_getElem (by simpa using hp), List.getElem_set_self, List.take_set_of_le (Nat.le_refl _)]
    have e2 : (arr.toList.set (o + k) v).drop (o + (k + 1) + vs.length) = arr.toList.drop (o + k + (vs.length + 1)) := by
      rw [List.drop_set_of_lt (by omega)]; congr 1; omega
    rw [e1, e2]
    simp
theorem build_wr (W : World) (b : Int) {l : List UInt8} (hl : l.length = 256) : (Instr.build 189 #[(0, .int .i64 b), (1, .agg (bts l).toArray)]).run Try.prog W = .ok (.agg (wcells ⟨b, l⟩).toArray) W := by
  have hbl : (bts l).length = 256 := by rw [bts_len, hl]
  have e : List.foldl (fun cs x => cs.setIfInBounds (1 + x.snd) x.fst) (Try.zeroCells189.setIfInBounds 0 (.int .i64 b)) (bts l).zipIdx = (wcells ⟨b, l⟩).toArray := by
    apply Array.ext'
    rw [fold_set _ 0 1 _ (by rw [hbl]; simp [zc_wr])]
    rw [wcells_eq hl, hbl]
    have h1 : (Try.zeroCells189.setIfInBounds 0 (Value.int .i64 b)).toList.take (1 + 0) = [.int .i64 b] := by
      simp only [Array.toList_setIfInBounds]
      have : Try.zeroCells189.toList = .int .i64 0 :: List.replicate 256 (.int .u8 0) := by kernel_rfl
      rw [this]; rfl
    have h2 : (Try.zeroCells189.setIfInBounds 0 (Value.int .i64 b)).toList.drop (1 + 0 + 256) = [] := List.drop_eq_nil_of_le (by simp [zc_wr])
    rw [h1, h2]
    simp
  simp [go_sem, hbl, e]
theorem fill_wr {x : Wr} (hx : x.s.length = 256) : Instr.fill (fun i => some (i * 257, 257)) ((Array.range (1 * 257)).map (Try.zeroCells189[· % 257]!)) #[(0, .agg (wcells x).toArray)].toList = some (wcells x).toArray := by
  have hs : ∀ a : Array Value, a.size = 257 → Array.foldl (fun cs x => cs.setIfInBounds (0 * 257 + x.snd) x.fst) a (Value.agg (wcells x).toArray).cells.zipIdx = (wcells x).toArray := by
    intro a ha
    apply Array.ext'
    have : (Value.agg (wcells x).toArray).cells.zipIdx = ((wcells x).zipIdx).toArray := by simp [Value.cells]
    rw [this, List.foldl_toArray']
    · simp only [Nat.zero_mul]
      rw [fold_set _ 0 0 _ (by rw [wcells_len, ha]; decide), wcells_len]
      simp [List.drop_eq_nil_of_le, ha]
    · rfl
  simp only [Instr.fill]
  rw [if_neg (by simp [Value.cells, wcells_len]), hs _ (by simp)]
theorem bslice_wr (W : World) {x : Wr} (hx : x.s.length = 256) : (Instr.buildSlice 154 1 #[(0, .agg (wcells x).toArray)]).run Try.prog W = .ok (.slice (some ⟨W.heap.size, 0, none⟩) 1 1) (W.alloc (.cells (wcells x).toArray 189)) := by
  obtain ⟨ie, hie, hz, hsz, _⟩ := info_parts (show (Try.prog.info? 189).map (fun i => (i.zero, i.size, i.bytes)) = some (some (.agg Try.zeroCells189), 257, 264) by kernel_rfl)
  refine run_buildSlice W _ _ 1 _ _ ie _ Try.underlying154 hie hz (by rw [hsz]; decide) (by rw [hsz]; decide) ?_
  rw [hsz]
  have := fill_wr hx
  simpa [Value.cells, zc_wr] using this
theorem yields_build {P : Program} {ops : Array Oper} {S : World → Prop} {op : Oper} {a : Act} {t : Nat} {parts : Array (Nat × Operand)} {v : Value} (hw : Region.wanted op (yielded ops a.tmps) = true) (ho : op.op = .build t parts)
    (h : ∀ w, S w → (Instr.build t (parts.map fun (i, x) => (i, a.eval x))).run P w = .ok v w) : YieldsIf P ops S op v a :=
  .inl ⟨hw, fun w hs => by unfold execOp; simp only [ho, Sem.run_bind, h w hs, Result.andThen_ok]; rfl⟩
theorem wp_bs {P : Program} {o : Oper} {a : Act} {w w' : World} {K : Act → World → Prop} {Q : Exit → Act → World → Prop} {t n : Nat} {parts : Array (Nat × Operand)} {v : Value} (ho : o.op = .buildSlice t n parts)
    (h : (Instr.buildSlice t n (parts.map fun (i, x) => (i, a.eval x))).run P w = .ok v w') (hk : K (a.put o.dst v) w') : o.wp P a w K Q := by
  unfold Oper.wp execOp
  simp only [ho, Sem.run_bind, h, Result.andThen_ok]
  exact hk
theorem Dsk.app {R : Ending → World → Prop} {w W w5 : World} {bD bL bO c c3 : Nat} {A A3 : Option Addr} {d : DkS} (h : Dsk w bD bL bO A c d) {env b : Int} {l : List UInt8} (hm : dMay d env b = 0) (hl : l.length = 256) (kW : Kp [] w W)
    (ho : Ow w5 189 257 A3 (d.ln.length + 1) c3 (d.ln.flatMap wcells ++ wcells ⟨b, l⟩)) (hk : Kp (bks A) W w5) (hA : A3 = A ∨ A3 = some ⟨W.heap.size, 0, none⟩) :
    w5.cell? ⟨bD, 2, none⟩ = some (.slice A d.ln.length c) ∧ w5.frozen? ⟨bD, 2, none⟩ = false ∧ dWrite d env b l = (0, { d with ln := d.ln ++ [⟨b, l⟩] }) ∧ Kp (bD :: bks A) w (w5.setCell ⟨bD, 2, none⟩ (.slice A3 (d.ln.length + 1) c3)) ∧
      Dsk (w5.setCell ⟨bD, 2, none⟩ (.slice A3 (d.ln.length + 1) c3)) bD bL bO A3 c3 { d with ln := d.ln ++ [⟨b, l⟩] } ∧ (A3 = A ∨ Fresh w.heap.size A3) := by
  have kk : Kp (bks A) w w5 := (kW.mono (by simp)).thn hk (fun s hs => .inl hs)
  have oW : ∀ e, 189 ≠ e → Off w (bks A) e := fun e he => Off.bks h.ln.ty he
  have h1 := h.dd.off kk (oW _ (by decide))
  have ks : Kp [bD] w5 (w5.setCell ⟨bD, 2, none⟩ (.slice A3 (d.ln.length + 1) c3)) := (Kp.refl _ _).setCell (p := ⟨bD, 2, none⟩) (.inl (by simp)) _
  have oD : ∀ e, 156 ≠ e → Off w5 [bD] e := fun e he => Off.one h1.ty he
  have hw : dWrite d env b l = (0, { d with ln := d.ln ++ [⟨b, l⟩] }) := by simp [dWrite, hm, hl]
  refine ⟨h1.cell 2, h1.frozen 2, hw, (kk.mono (fun s hs => .inl (by simp [hs]))).thn ks (fun s hs => .inl (by simp at hs; simp [hs])), ⟨(h1.set_ 2 _).cast (by simp), (h.l.off kk (oW _ (by decide))).off ks (oD _ (by decide)), (h.o.off kk (oW _ (by decide))).off ks (oD _ (by decide)), (ho.off ks (oD _ (by decide))).cast (by simp) (by simp [List.flatMap_append]), ?_⟩, ?_⟩
  · have := h.ok.write env b l
    rw [hw] at this
    exact this
  · rcases hA with rfl | rfl
    · exact .inl rfl
    · refine .inr fun x hx => ?_
      simp [bks] at hx; have := kW.size; omega
section
variable {R : Ending → World → Prop} {w : World} {bD bL bO c : Nat} {A : Option Addr} {d : DkS}
theorem info_page2 : (Try.prog.info? 187).map (·.size) = some 256 := by kernel_rfl
theorem elt_wr : Elt Try.prog 154 189 (.agg Try.zeroCells189) 257 264 := ⟨Try.underlying154, by kernel_rfl, by kernel_rfl, by decide, by decide⟩
set_option maxHeartbeats 2000000 in
theorem dwrite_any (hd : Dsk w bD bL bO A c d) (hlm : d.ln.length ≤ 1000000) (env b : Int) {A2 : Option Addr} {n c2 : Nat} {l : List UInt8} (hr : Tb w 5 A2 (bts l)) (hl : l.length = n) (hn : n ≤ 1000000)
    (h : ∀ e A' c' d' w', Hid (dWrite d env b l = (e, d')) → Kp (bD :: bks A) w w' → Dsk w' bD bL bO A' c' d' → (A' = A ∨ Fresh w.heap.size A') → R (.returned (.int .i64 e)) w') :
    Calls Try.prog 98 #[.pointer (some ⟨bD, 0, none⟩), .int .i64 env, .int .i64 b, .slice A2 n c2] w R := by
  have H := Lib.hid h
  have HL := Lib.hid hl
  clear h hl
  by_cases hm : dMay d env b = 0
  · have HM : Hid (∀ (R : Ending → World → Prop), R (.returned (.int .i64 0)) w → Calls Try.prog 115 #[.pointer (some ⟨bD, 0, none⟩), .int .i64 env, .int .i64 b] w R) := Lib.hid (fun R h => may_any hd env b (by rw [hm]; exact h))
    by_cases h256 : n = 256
    · subst h256
      have c2' := hd.dd.cell 2
      have c4 := hd.dd.cell 4
      have f2 := hd.dd.frozen 2
      simp only [List.getElem?_cons_zero, List.getElem?_cons_succ] at c2' c4
      have HD := Lib.hid hd
      have HMM := Lib.hid hm
      have hrg : ∃ b2 o2, A2 = some ⟨b2, o2, none⟩ ∧ w.rangeAt b2 o2 (bts l) := by
        obtain ⟨b2, o2, he, _, _, hc⟩ := hr.rd0 (by intro e; have := congrArg List.length e; rw [bts_len, HL.out] at this; simp at this)
        exact ⟨b2, o2, he, hc⟩
      obtain ⟨b2, o2, rfl, hrg⟩ := hrg
      have hrT := hr
      clear hd hm hr
      go_enter Try.func98, Try.ntmps98
      go_wp2_with (go_at_call 115; refine HM.out _ ?_)
      have hu := Try.underlying187
      have hi : (Try.prog.info? 187).map (·.size) = some (bts l).length := by rw [bts_len, HL.out]; exact info_page2
      have hbl : (bts l).length = 256 := by rw [bts_len, HL.out]
      have c2a : ∀ o, (w.alloc o).cell? ⟨bD, 2, none⟩ = some (.slice A d.ln.length c) := fun o => ((Kp.refl [] w).alloc o).cell HD.out.dd.lt (by simp) |>.trans c2'
      have HK : Hid (∀ w', Kp [] w w' → w'.cell? ⟨bD, 2, none⟩ = some (.slice A d.ln.length c) ∧ w'.rangeAt b2 o2 (bts l)) := Lib.hid (fun w' k' => ⟨(k'.cell HD.out.dd.lt (by simp)).trans c2', fun j v hv => (k'.cell (World.block_lt_of_cell? w _ (hrg j v hv)) (by simp)).trans (hrg j v hv)⟩)
      have hat : ∀ W, (Instr.arrayAt 187 (.slice (some ⟨b2, o2, none⟩) 256 c2)).run Try.prog W = .ok (.pointer (some ⟨b2, o2, none⟩)) W := fun W => run_arrayAt (w := W) 187 5 256 (some ⟨b2, o2, none⟩) 256 c2 Try.underlying187 (by omega)
      have hb2 : ∀ w', Kp (bD :: bks A) w w' → w'.rangeAt b2 o2 (bts l) := fun w' k' j v hv => by
        obtain ⟨b3, o3, he, _, _, hc⟩ := (hrT.kp k' (Off.app (S := [bD]) (Off.one HD.out.dd.ty (by decide)) (Off.bks HD.out.ln.ty (by decide)))).rd0 (by intro e; rw [e] at hv; simp at hv)
        injection he with he
        injection he with h1 h2
        subst h1; subst h2
        exact hc j v hv
      have HB2 := Lib.hid hb2
      clear hb2 hrT
      refine wp_region_held_drew (S := fun w' => w'.rangeAt b2 o2 (bts l)) (by kernel_rfl) (HK.out _ (Kp.refl _ _).drew).2 (fun hHeld => ?_)
      refine wpAnyH_take (i := 0) (oi := { dst := some 38, op := .move (.tmp 0), type := 113, pos := "disk.go:97", after := #[], guard := none }) (v := ?_) rfl (by kernel_rfl) (by kernel_rfl) (by kernel_rfl) (fun _ _ _ h => h) (Or.inl ⟨by rfl, ?_⟩) hHeld ?_
      rotate_left
      · intro w hSw; (try dsimp only at hSw); go_simp; (try with_reducible rfl)
      (try simp only [Act.put, List.setIfInBounds_toArray, List.set_cons_zero, List.set_cons_succ])
      refine wpAnyH_take (i := 1) (oi := { dst := some 39, op := .move (.tmp 0), type := 113, pos := "disk.go:97", after := #[], guard := none }) (v := ?_) rfl (by kernel_rfl) (by kernel_rfl) (by kernel_rfl) (fun _ _ _ h => h) (Or.inl ⟨by rfl, ?_⟩) hHeld ?_
      rotate_left
      · intro w hSw; (try dsimp only at hSw); go_simp; (try with_reducible rfl)
      (try simp only [Act.put, List.setIfInBounds_toArray, List.set_cons_zero, List.set_cons_succ])
      refine wpAnyH_take (i := 2) (oi := { dst := some 40, op := .nilCheck (.tmp 39), type := 0, pos := "disk.go:97", after := #[{ on := 1, ground := .data }], guard := none }) (v := ?_) rfl (by kernel_rfl) (by kernel_rfl) (by kernel_rfl) (fun _ _ _ h => h) (Or.inl ⟨by rfl, ?_⟩) hHeld ?_
      rotate_left
      · intro w hSw; (try dsimp only at hSw); go_simp; (try with_reducible rfl)
      (try simp only [Act.put, List.setIfInBounds_toArray, List.set_cons_zero, List.set_cons_succ])
      refine wpAnyH_take (i := 3) (oi := { dst := some 41, op := .fieldAddr 156 (.tmp 40) 2, type := 0, pos := "disk.go:97", after := #[{ on := 2, ground := .data }], guard := none }) (v := ?_) rfl (by kernel_rfl) (by kernel_rfl) (by kernel_rfl) (fun _ _ _ h => h) (Or.inl ⟨by rfl, ?_⟩) hHeld ?_
      rotate_left
      · intro w hSw; (try dsimp only at hSw); go_simp; (try with_reducible rfl)
      (try simp only [Act.put, List.setIfInBounds_toArray, List.set_cons_zero, List.set_cons_succ])
      refine wpAnyH_take (i := 5) (oi := { dst := some 43, op := .move (.tmp 2), type := 3, pos := "disk.go:97", after := #[], guard := none }) (v := ?_) rfl (by kernel_rfl) (by kernel_rfl) (by kernel_rfl) (fun _ _ _ h => h) (Or.inl ⟨by rfl, ?_⟩) hHeld ?_
      rotate_left
      · intro w hSw; (try dsimp only at hSw); go_simp; (try with_reducible rfl)
      (try simp only [Act.put, List.setIfInBounds_toArray, List.set_cons_zero, List.set_cons_succ])
      refine wpAnyH_take (i := 6) (oi := { dst := some 44, op := .move (.tmp 3), type := 44, pos := "disk.go:97", after := #[], guard := none }) (v := ?_) rfl (by kernel_rfl) (by kernel_rfl) (by kernel_rfl) (fun _ _ _ h => h) (Or.inl ⟨by rfl, ?_⟩) hHeld ?_
      rotate_left
      · intro w hSw; (try dsimp only at hSw); go_simp; (try with_reducible rfl)
      (try simp only [Act.put, List.setIfInBounds_toArray, List.set_cons_zero, List.set_cons_succ])
      refine wpAnyH_take (i := 7) (oi := { dst := some 45, op := .sliceToArrayPointer 187 (.tmp 44), type := 0, pos := "disk.go:97", after := #[{ on := 6, ground := .data }], guard := none }) (v := ?_) rfl (by kernel_rfl) (by kernel_rfl) (by kernel_rfl) (fun _ _ _ h => h) (Or.inl ⟨by rfl, ?_⟩) hHeld ?_
      rotate_left
      · intro w hSw; (try dsimp only at hSw); go_simp; (try with_reducible rfl)
      (try simp only [Act.put, List.setIfInBounds_toArray, List.set_cons_zero, List.set_cons_succ])
      refine wpAnyH_take (i := 8) (oi := { dst := some 46, op := .load 187 (.tmp 45), type := 187, pos := "disk.go:97", after := #[{ on := 7, ground := .data }], guard := none }) (v := .agg (bts l).toArray) rfl (by kernel_rfl) (by kernel_rfl) (by kernel_rfl) (fun _ _ _ h => h) (yieldsIf_load_mid (by rfl) 187 (.tmp 45) rfl b2 o2 rfl (bts l) _ (fun _ h => h) hu rfl hi) hHeld ?_
      (try simp only [Act.put, List.setIfInBounds_toArray, List.set_cons_zero, List.set_cons_succ])
      refine wpAnyH_take (i := 9) (oi := { dst := some 47, op := .build 189 #[(0, .tmp 43), (1, .tmp 46)], type := 189, pos := "disk.go:97", after := #[{ on := 5, ground := .data }, { on := 8, ground := .data }], guard := none }) (v := .agg (wcells ⟨b, l⟩).toArray) rfl (by kernel_rfl) (by kernel_rfl) (by kernel_rfl) (fun _ _ _ h => h) (yields_build rfl rfl (fun w _ => (congrArg (fun p => (Instr.build 189 p).run Try.prog w) (by simp [Act.eval])).trans (build_wr w b HL.out))) hHeld ?_
      (try simp only [Act.put, List.setIfInBounds_toArray, List.set_cons_zero, List.set_cons_succ])
      refine wpAnyH_ready (rs := [4, 10]) (by kernel_rfl) (by simp) ?_
      refine AllReadyH.cons rfl (fun K hK => ?_) (AllReadyH.cons rfl (fun K hK => ?_) AllReadyH.nil)
      · rw [if_pos (by rfl)]
        go_simp
        refine hK.out _ _ hHeld (fun hHeld => ?_)
        clear hK K
        (try simp only [Act.put, List.setIfInBounds_toArray, List.set_cons_zero, List.set_cons_succ])
        refine wpAnyH_ready (rs := [10]) (by kernel_rfl) (by simp) ?_
        refine AllReadyH.cons rfl (fun K hK => ?_) AllReadyH.nil
        rw [if_pos (by rfl)]
        refine wp_bs (t := 154) rfl ((congrArg (fun p => (Instr.buildSlice 154 1 p).run Try.prog w.drew) (by simp [Act.eval])).trans (bslice_wr w.drew (x := ⟨b, l⟩) HL.out)) ?_
        refine hK.out _ _ (HK.out _ ((Kp.refl _ _).drew.alloc _)).2 (fun hHeld => ?_)
        clear hK K
        (try simp only [Act.put, List.setIfInBounds_toArray, List.set_cons_zero, List.set_cons_succ])
        refine wpAnyH_ready (rs := [11]) (by kernel_rfl) (by simp) ?_
        refine AllReadyH.cons rfl (fun K hK => ?_) AllReadyH.nil
        rw [if_pos (by rfl)]
        refine wp_app _ (.tmp 42) (.tmp 48) 154 rfl elt_wr A d.ln.length c _ (by simp [Act.eval]) (HD.out.ln.drew.alloc _) [] (some ⟨w.heap.size, 0, none⟩) 1 1 (wcells ⟨b, l⟩) (by simp [Act.eval]) (Rd.of_bk ((Bk.newAt rfl _ _).cast rfl) (by simp)) (by rw [wcells_len]) (wcells_one HL.out) (by omega) (fun A3 c3 w5 ho5 hk5 hA5 => ?_)
        obtain ⟨q5, f5, e5, k6, d6, a6⟩ := HD.out.app (R := R) HMM.out HL.out ((Kp.refl [] w).drew.alloc _) ho5 hk5 hA5
        refine hK.out _ _ (HB2.out _ (((Kp.refl [] w).drew.alloc _).mono (by simp) |>.thn hk5 (fun s hs => .inl (by simp [hs])))) (fun hHeld => ?_)
        clear hK K
        (try simp only [Act.put, List.setIfInBounds_toArray, List.set_cons_zero, List.set_cons_succ])
        clear c2' c2a f2
        refine wpAnyH_ready (rs := [12]) (by kernel_rfl) (by simp) ?_
        refine AllReadyH.cons rfl (fun K hK => ?_) AllReadyH.nil
        rw [if_pos (by rfl)]
        go_simp
        refine hK.out _ _ hHeld (fun hHeld => ?_)
        clear hK K
        (try simp only [Act.put, List.setIfInBounds_toArray, List.set_cons_zero, List.set_cons_succ])
        refine wpAnyH_ready (rs := [13]) (by kernel_rfl) (by simp) ?_
        refine AllReadyH.cons rfl (fun K hK => ?_) AllReadyH.nil
        rw [if_pos (by rfl)]
        go_simp
        refine hK.out _ _ hHeld (fun hHeld => ?_)
        clear hK K
        (try simp only [Act.put, List.setIfInBounds_toArray, List.set_cons_zero, List.set_cons_succ])
        refine wpAnyH_ready (rs := [14]) (by kernel_rfl) (by simp) ?_
        refine AllReadyH.cons rfl (fun K hK => ?_) AllReadyH.nil
        rw [if_pos (by rfl)]
        go_simp
        refine hK.out _ _ (HB2.out _ k6) (fun hHeld => ?_)
        clear hK K
        (try simp only [Act.put, List.setIfInBounds_toArray, List.set_cons_zero, List.set_cons_succ])
        refine wpAnyH_done (by kernel_rfl) ?_ _
        go_wp2
        exact H.out 0 A3 c3 _ _ e5 k6 d6 a6
      · rw [if_pos (by rfl)]
        refine wp_bs (t := 154) rfl ((congrArg (fun p => (Instr.buildSlice 154 1 p).run Try.prog w.drew) (by simp [Act.eval])).trans (bslice_wr w.drew (x := ⟨b, l⟩) HL.out)) ?_
        refine hK.out _ _ (HK.out _ ((Kp.refl _ _).drew.alloc _)).2 (fun hHeld => ?_)
        clear hK K
        (try simp only [Act.put, List.setIfInBounds_toArray, List.set_cons_zero, List.set_cons_succ])
        refine wpAnyH_ready (rs := [4]) (by kernel_rfl) (by simp) ?_
        refine AllReadyH.cons rfl (fun K hK => ?_) AllReadyH.nil
        rw [if_pos (by rfl)]
        go_simp
        refine hK.out _ _ hHeld (fun hHeld => ?_)
        clear hK K
        (try simp only [Act.put, List.setIfInBounds_toArray, List.set_cons_zero, List.set_cons_succ])
        refine wpAnyH_ready (rs := [11]) (by kernel_rfl) (by simp) ?_
        refine AllReadyH.cons rfl (fun K hK => ?_) AllReadyH.nil
        rw [if_pos (by rfl)]
        refine wp_app _ (.tmp 42) (.tmp 48) 154 rfl elt_wr A d.ln.length c _ (by simp [Act.eval]) (HD.out.ln.drew.alloc _) [] (some ⟨w.heap.size, 0, none⟩) 1 1 (wcells ⟨b, l⟩) (by simp [Act.eval]) (Rd.of_bk ((Bk.newAt rfl _ _).cast rfl) (by simp)) (by rw [wcells_len]) (wcells_one HL.out) (by omega) (fun A3 c3 w5 ho5 hk5 hA5 => ?_)
        obtain ⟨q5, f5, e5, k6, d6, a6⟩ := HD.out.app (R := R) HMM.out HL.out ((Kp.refl [] w).drew.alloc _) ho5 hk5 hA5
        refine hK.out _ _ (HB2.out _ (((Kp.refl [] w).drew.alloc _).mono (by simp) |>.thn hk5 (fun s hs => .inl (by simp [hs])))) (fun hHeld => ?_)
        clear hK K
        (try simp only [Act.put, List.setIfInBounds_toArray, List.set_cons_zero, List.set_cons_succ])
        clear c2' c2a f2
        refine wpAnyH_ready (rs := [12]) (by kernel_rfl) (by simp) ?_
        refine AllReadyH.cons rfl (fun K hK => ?_) AllReadyH.nil
        rw [if_pos (by rfl)]
        go_simp
        refine hK.out _ _ hHeld (fun hHeld => ?_)
        clear hK K
        (try simp only [Act.put, List.setIfInBounds_toArray, List.set_cons_zero, List.set_cons_succ])
        refine wpAnyH_ready (rs := [13]) (by kernel_rfl) (by simp) ?_
        refine AllReadyH.cons rfl (fun K hK => ?_) AllReadyH.nil
        rw [if_pos (by rfl)]
        go_simp
        refine hK.out _ _ hHeld (fun hHeld => ?_)
        clear hK K
        (try simp only [Act.put, List.setIfInBounds_toArray, List.set_cons_zero, List.set_cons_succ])
        refine wpAnyH_ready (rs := [14]) (by kernel_rfl) (by simp) ?_
        refine AllReadyH.cons rfl (fun K hK => ?_) AllReadyH.nil
        rw [if_pos (by rfl)]
        go_simp
        refine hK.out _ _ (HB2.out _ k6) (fun hHeld => ?_)
        clear hK K
        (try simp only [Act.put, List.setIfInBounds_toArray, List.set_cons_zero, List.set_cons_succ])
        refine wpAnyH_done (by kernel_rfl) ?_ _
        go_wp2
        exact H.out 0 A3 c3 _ _ e5 k6 d6 a6
    · have HH := H.out 1 A c d w (by simp [Hid, dWrite, hm, HL.out, h256]) (Kp.refl _ _) hd (.inl rfl)
      clear hd hr
      go_enter Try.func98, Try.ntmps98
      go_wp2_with (go_at_call 115; refine HM.out _ ?_)
      exact HH
  · have HM : Hid (∀ (R : Ending → World → Prop), R (.returned (.int .i64 (dMay d env b))) w → Calls Try.prog 115 #[.pointer (some ⟨bD, 0, none⟩), .int .i64 env, .int .i64 b] w R) := Lib.hid (fun R h => may_any hd env b h)
    have HH := H.out (dMay d env b) A c d w (by simp [Hid, dWrite, hm]) (Kp.refl _ _) hd (.inl rfl)
    clear hd
    go_enter Try.func98, Try.ntmps98
    go_wp2_with (go_at_call 115; refine HM.out _ ?_)
    exact HH
end
end Go.Proofs.Ythlmfjfkkndboaa
