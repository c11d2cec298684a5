/- A string's bytes: the conversion's world as a letter. ServeNil, walked. serve in plain words: the fields of what is asked are few and short. The frame of a law whose row lists variables: what is listed and the world's shape handed to the walk together. What the rows list, in the walks' words. -/
import Derived.Test.YtnmafahbdfilcaaGreatDoorPA2
import Derived.Test.YtnmafahbdfilcaaGreatDoorPA22
import Derived.Test.YtnmafahbdfilcaaGreatDoorPA4
import Derived.SizedLaws
import Derived.Handed
import Derived.LaidMore
import Derived.Lay
import Derived.Shelf.Vars
import Derived.Stop.Joined
import Derived.Test.YtnmafahbdfilcaaGreatDoorRows
import Derived.Stop.LaidErr
import Derived.Lib.LaidTab
namespace Go.Proofs.YtnmafahbdfilcaaGreatDoor
/-! ### A string's bytes: the conversion's world as a letter. -/
section
open Go.RowKit
set_option linter.unusedVariables false
theorem conv_rd (s : ByteArray) : ∃ (bw : World → World) (cw : World → Nat), (∀ W, (convert 9 52 (.string s)).run Tryz.prog W = .ok (.slice (some ⟨W.heap.size, 0, none⟩) s.size (cw W)) (bw W)) ∧
    (∀ (S : List Nat) (a w : World), Kp S a w → Kp S a (bw w)) ∧ (∀ (w : World) (b : Nat) (N : List Nat), b = w.heap.size → b ∉ N → Rd (bw w) N (some ⟨b, 0, none⟩) (bts s.data.toList)) :=
  ⟨fun W => Lib.bytesWorld W 5 s, fun W => grownCap W s.size 0 5, fun W => conv_sb W s, fun S a w k => k.bytesWorld _ _, fun w b N hb hN => rd_bytesWorld w _ s hb hN⟩
end
/-! ### ServeNil, walked. -/
section
open Go.RowKit Go.Shelf
set_option linter.unusedVariables false
set_option linter.unusedSimpArgs false
set_option maxRecDepth 100000
def alvA : AskP := ([97], 0, alvR)
theorem alv_ask1 : askS ⟨alvB, false, none, false⟩ = (⟨[], false, some alvA, false⟩, some alvA) := by
  unfold askS
  rw [if_neg (by simp)]
  simp only [alv_next, alv_op, alvA]
theorem alv_ask2 : askS ⟨[], false, some alvA, false⟩ = (⟨[], false, some alvA, false⟩, some alvA) := rfl
theorem alv_done : doneS ⟨[], false, some alvA, false⟩ = ⟨[], false, none, true⟩ := by unfold doneS; rfl
theorem alv_plan : (planT alvA false 0 0 0 [] (-1)).1 = 404 := by
  have h0 : alvA.2.1 = 0 := rfl
  unfold planT
  rw [if_pos h0]
  exact congrArg Prod.fst (alv_choose 0 0 0)
theorem alv_ok : okR alvA.2.2 := ⟨by decide, fun nm => by simp [alvA, alvR, allF, valsF, Lib.join]⟩
section
variable {R : Ending → World → Prop} {w w1 : World} {tg pg : Nat}
theorem ask_lit1 (hm : Ml w) (ht : TB w w1 tg pg ⟨alvB, false, none, false⟩) (h : ∀ A c w', TB w w' tg pg ⟨[], false, some alvA, false⟩ → Kp [tg, pg] w1 w' → R (.returned (.tuple #[.agg #[.string (S [97]), .int .i64 0, .string (S [71, 69, 84]), .string (S [47, 97]), .int .i64 0, .slice A 0 c, .bool true], .bool true])) w') :
    Calls Tryz.prog 21 #[.pointer (some ⟨tg, 0, none⟩)] w1 R :=
  sask_any hm ht (fun _ => by decide) (fun e => by rw [alv_ask1] at e; cases e) (fun a e A c w' t k => by
    rw [alv_ask1] at e t
    injection e with e
    subst e
    exact h A c w' t k)
theorem ask_lit2 (hm : Ml w) (ht : TB w w1 tg pg ⟨[], false, some alvA, false⟩) (h : ∀ A c w', TB w w' tg pg ⟨[], false, some alvA, false⟩ → Kp [tg, pg] w1 w' → R (.returned (.tuple #[.agg #[.string (S [97]), .int .i64 0, .string (S [71, 69, 84]), .string (S [47, 97]), .int .i64 0, .slice A 0 c, .bool true], .bool true])) w') :
    Calls Tryz.prog 21 #[.pointer (some ⟨tg, 0, none⟩)] w1 R :=
  sask_any hm ht (fun _ => by decide) (fun e => by rw [alv_ask2] at e; cases e) (fun a e A c w' t k => by
    rw [alv_ask2] at e t
    injection e with e
    subst e
    exact h A c w' t k)
theorem plan_lit (hw : Lw w) (ht : TB w w1 tg pg ⟨[], false, some alvA, false⟩) (h : ∀ L A n c cl w', Kp [] w1 w' → R (.returned (.agg #[.int .i64 404, .string (S L), .slice A n c, .bool cl])) w') :
    Calls Tryz.prog 23 #[.pointer (some ⟨tg, 0, none⟩), .bool false, .agg #[.int .i64 0, .int .i64 0, .int .i64 0, .string ⟨#[]⟩], .int .i64 (-1)] w1 R :=
  splan_any (kd := []) hw ht rfl alv_ok false 0 0 0 (-1) (by decide) (by decide) (by decide) (by decide) (fun A n c w' k _ => by rw [alv_plan]; exact h _ A n c _ w' k)
theorem done_lit (ht : TB w w1 tg pg ⟨[], false, some alvA, false⟩) (h : ∀ w', TB w w' tg pg ⟨[], false, none, true⟩ → Kp [tg, pg] w1 w' → R (.returned (.tuple #[])) w') : Calls Tryz.prog 26 #[.pointer (some ⟨tg, 0, none⟩)] w1 R :=
  sdone_any ht (fun w' t k => h w' (by rw [alv_done] at t; exact t) k)
set_option maxHeartbeats 4000000 in
theorem alive28_any (hw : Lw w) (h : ∀ w', Kp [] w w' → R (.returned (.bool true)) w') : Calls Tryz.prog 17 #[] w R := by
  have H := Lib.hid h
  clear h
  go_enter Tryz.func17, Tryz.ntmps17
  go_upto_region 2 with (go_at_call 19; ((refine snew_any ?_); intro tg pg w1 g1 g2 t1 k1; have T1 := Lib.hid (TB.mk k1 g1 g2 t1); have hcv := fun C => Lib.run_convert_bytes_const (P := Tryz.prog) w1 52 5 C 19 19 Tryz.underlying52 Tryz.underlying5; clear t1 k1))
  go_upto_region 3 with (go_at_call 20; ((refine sfeed_any (T1.out.tk.kp ((Kp.refl _ _).alloc _)) alvB (bytes_rd rfl) rfl (by decide) ?_); intro w2 t2 k2; have T2 : Hid (TB w w2 tg pg ⟨alvB, false, none, false⟩) := Lib.hid ((T1.out.kp' ((Kp.refl _ _).alloc _)).step t2 k2); clear t2 k2))
  have hne : Hid (tg ≠ pg) := Lib.hid T1.out.tk.ne
  go_upto_region 4 with (go_at_call 21; ((refine ask_lit1 hw.ml T2.out ?_); intro A3 c3 w3 t3 k3))
  refine gen_worldC (fun W => ∃ ga, w3.heap.size = ga ∧ Hid (tg < ga ∧ pg < ga) ∧ Hid (TB w W tg pg ⟨[], false, some alvA, false⟩ ∧ Bk W ga 54 [.string (S [97]), .int .i64 0, .string (S [71, 69, 84]), .string (S [47, 97]), .int .i64 0, .slice A3 0 c3, .bool true])) ⟨_, rfl, Lib.hid ⟨by obtain ⟨_, hb, _⟩ := t3.tk.tk; exact hb.lt, Bk.lt t3.tk.ps⟩, Lib.hid ⟨t3.kp' ((Kp.refl _ _).alloc _), (Bk.new' _ _ _).cast rfl⟩⟩ ?_
  rintro W3 ⟨ga, hga, hn3, hW3⟩
  rw [hga]
  clear hga t3 k3
  go_upto_region 5 with (go_at_call 21; ((refine ask_lit2 hw.ml hW3.out.1 ?_); intro A4 c4 w4 t4 k4))
  refine gen_worldC (fun W => ∃ gb, w4.heap.size = gb ∧ Hid (tg < gb ∧ pg < gb ∧ ga < gb) ∧ Hid (TB w W tg pg ⟨[], false, some alvA, false⟩ ∧ Bk W ga 54 [.string (S [97]), .int .i64 0, .string (S [71, 69, 84]), .string (S [47, 97]), .int .i64 0, .slice A3 0 c3, .bool true] ∧ Bk W gb 54 [.string (S [97]), .int .i64 0, .string (S [71, 69, 84]), .string (S [47, 97]), .int .i64 0, .slice A4 0 c4, .bool true])) ⟨_, rfl, Lib.hid ⟨by obtain ⟨_, hb, _⟩ := t4.tk.tk; exact hb.lt, Bk.lt t4.tk.ps, by have := hW3.out.2.lt; have := k4.size; omega⟩, Lib.hid ⟨t4.kp' ((Kp.refl _ _).alloc _), (hW3.out.2.kp k4 (by have := hn3.out; simp; omega)).alloc _, (Bk.new' _ _ _).cast rfl⟩⟩ ?_
  rintro W4 ⟨gb, hgb, hn4, hW4⟩
  rw [hgb]
  clear hgb t4 k4 hW3
  go_upto_region 6 with (go_at_call 23; ((refine plan_lit hw hW4.out.1 ?_); intro L A5 n5 c5 cl w5 k5))
  refine gen_worldC (fun W => ∃ gp, w5.heap.size = gp ∧ Hid (tg < gp ∧ pg < gp) ∧ Hid (TB w W tg pg ⟨[], false, some alvA, false⟩ ∧ Bk W ga 54 [.string (S [97]), .int .i64 0, .string (S [71, 69, 84]), .string (S [47, 97]), .int .i64 0, .slice A3 0 c3, .bool true] ∧ Bk W gb 54 [.string (S [97]), .int .i64 0, .string (S [71, 69, 84]), .string (S [47, 97]), .int .i64 0, .slice A4 0 c4, .bool true] ∧ Bk W gp 31 [.int .i64 404, .string (S L), .slice A5 n5 c5, .bool cl])) ⟨_, rfl, Lib.hid ⟨by have := hW4.out.2.2.lt; have := k5.size; have := hn4.out; omega, by have := hW4.out.2.2.lt; have := k5.size; have := hn4.out; omega⟩, Lib.hid ⟨hW4.out.1.kp' (k5.alloc _), (hW4.out.2.1.kp k5 (by simp)).alloc _, (hW4.out.2.2.kp k5 (by simp)).alloc _, (Bk.new' _ _ _).cast rfl⟩⟩ ?_
  rintro W5 ⟨gp, hgp, hn5, hW5⟩
  rw [hgp]
  clear hgp k5 hW4
  go_upto_region 7 with (go_at_call 26; ((refine done_lit hW5.out.1 ?_); intro w6 t6 k6))
  have b1 := hW5.out.2.1.kp k6 (by have := hn3.out; simp; omega)
  have b2 := hW5.out.2.2.1.kp k6 (by have := hn4.out; simp; omega)
  have b3 := hW5.out.2.2.2.kp k6 (by have := hn5.out; simp; omega)
  have c1 : w6.cell? ⟨ga, 0, none⟩ = some (.string (S [97])) := b1.cell 0
  have c2 : w6.cell? ⟨gb, 0, none⟩ = some (.string (S [97])) := b2.cell 0
  have c3' : w6.cell? ⟨gp, 0, none⟩ = some (.int .i64 404) := b3.cell 0
  have e1 : (([97] : List UInt8) == [97]) = true := by decide
  have HT := Lib.hid t6
  clear t6 k6 b1 b2 b3 hW5
  go_wp2_with (go_at_call 27; (refine sover_any HT.out.tk ?_))
  exact H.out _ HT.out.kp
theorem sask_nilE (h : ∀ w', Kp [] w w' → R (.returned (.tuple #[.agg #[.string ⟨#[]⟩, .int .i64 0, .string ⟨#[]⟩, .string ⟨#[]⟩, .int .i64 0, .slice none 0 0, .bool false], .bool false])) w') : Calls Tryz.prog 21 #[.pointer none] w R := sask_nil h
set_option maxHeartbeats 4000000 in
theorem snil_walk (x : ByteArray) (now : Int) (hw : Lw w) (h : ∀ w', Kp [] w w' → R (.returned (.bool true)) w') : Calls Tryz.prog 7 #[.string x, .int .i64 now] w R := by
  have H := Lib.hid h
  clear h
  obtain ⟨bw, cw, hcs, hbk, -⟩ := conv_rd x
  have HBK := Lib.hid hbk
  clear hbk
  go_enter Tryz.func7, Tryz.ntmps7
  go_upto_region 8 with (first | (go_at_call 17; ((refine alive28_any hw ?_); intro w1 k1)) | (go_at_call 20; (refine sfeed_nil ?_)) | (go_at_call 26; (refine sdone_nil ?_)) | (go_at_call 21; ((refine sask_nilE ?_); intro w2 k2)) | (go_at_call 23; ((refine splan_nil (kd := []) _ _ _ _ _ ?_); intro w3 k3)))
  refine gen_worldC (fun W => ∃ ga, w3.heap.size = ga ∧ Hid (Kp [] w W ∧ Bk W ga 31 [.int .i64 0, .string ⟨#[]⟩, .slice none 0 0, .bool false])) ⟨_, rfl, Lib.hid ⟨((((HBK.out _ _ _ k1).trans k2).alloc _).trans k3).alloc _, (Bk.new' _ _ _).cast rfl⟩⟩ ?_
  rintro W ⟨ga, hga, hW⟩
  rw [hga]
  clear hga k1 k2 k3
  go_upto_region 9 with (first | (go_at_call 19; ((refine snew_any ?_); intro tg pg w4 g1 g2 t4 k4)) | (go_at_call 23; ((refine splan_none (kd := []) t4 rfl _ _ _ _ _ ?_); intro w5 k5)))
  have b5 := (hW.out.2.kp k4 (by simp)).kp k5 (by simp)
  have KF : Hid (Kp [] w w5) := Lib.hid ((hW.out.1.trans k4).trans k5)
  have hlt := b5.lt
  obtain ⟨⟨c0, c1, c2, c3⟩, _⟩ := bk4r b5
  clear t4 k4 k5 b5 hW
  go_wp2_with (go_at_call 27; (refine sover_nil ?_))
  exact H.out _ (KF.out.alloc _)
end
end
/-! ### serve in plain words: the fields of what is asked are few and short. -/
section
open Go.RowKit
set_option linter.unusedVariables false
set_option linter.unusedSimpArgs false
set_option maxRecDepth 100000
theorem next_fsB (b : List UInt8) : (nextF b).1.fs.length ≤ b.length ∧ ((nextF b).1.fs.map (fun f => f.2.length)).sum ≤ b.length := by
  unfold nextF
  have h := headF_sum (b.length + 1) b.length [] b
  generalize headF (b.length + 1) b.length [] b = p at *
  obtain ⟨ls, rest, st⟩ := p
  simp only [List.length_nil, Nat.zero_add, List.map_nil, List.sum_nil] at h ⊢
  have ho : (ofF ls).1.fs.length ≤ ls.length ∧ ((ofF ls).1.fs.map (fun f => f.2.length)).sum ≤ (ls.map List.length).sum := by
    unfold ofF
    split
    · simp [noReq]
    · rename_i l ls'
      split
      · simp [noReq]
      · split
        · simp [noReq]
        · split
          · simp [noReq]
          · split
            · simp [noReq]
            · rename_i fs hfs
              obtain ⟨h1, h2⟩ := fields_sum ls' fs hfs
              unfold ofFs
              repeat' split
              all_goals first | exact ⟨by simp only [List.length_cons]; omega, Nat.le_trans h1 (by simp only [List.map_cons, List.sum_cons]; omega)⟩ | (simp [noReq]; done) | (simp [noReq]; omega)
  repeat' split
  all_goals first | omega | (simp only; omega) | (simp [noReq]; done) | (simp [noReq]; omega)
theorem nxt_ok {b : List UInt8} {ov : Bool} (hb : b.length ≤ 2000) : okR (nxt b ov).1 := by
  unfold nxt
  split
  · exact ⟨by simp [noReq], fun nm => by simp [noReq, allF, valsF, Lib.join]⟩
  · have h := next_fsB b
    refine ⟨by omega, fun nm => ?_⟩
    exact Nat.le_trans (allF_len _ nm) (Nat.le_trans (Nat.add_le_add (Nat.mul_le_mul_left 2 h.1) h.2) (by omega))
theorem op_ok {b : List UInt8} {ov : Bool} {a : AskP} (hb : b.length ≤ 2000) (h : nxtOp b ov = some a) : okR a.2.2 := by
  unfold nxtOp at h
  split at h
  · cases h
  · injection h with h
    subst h
    exact nxt_ok hb
end
/-! ### The frame of a law whose row lists variables: what is listed and the world's shape handed to the walk together. -/
section
open Go
variable {H : Type} {enc : TypeId × Value → H}

theorem handed_cs {a : Assume} {C : Checked} {os : Os} {f : FuncId} {fn : Func} {s : ChangeSpec} {conds : List PathCond} {apart fresh handsOn again : Bool} {X : World → Array Value → Prop}
    (hX : ∀ (w w' : World) (args : Array Value), w.heap = w'.heap → X w args → X w' args)
    (own : ownKnob C.prog.godebug = none) (started : os.Started) (noInit : C.prog.inits.idxOf? f = none) (hfn : C.prog.funcs[f]? = some fn)
    (witness : ∃ (w : World) (tape : Tape) (i : Input), w.os = os ∧ (w.forCall tape i).Shaped C.prog ∧ i.vars = [] ∧ Input.okWide C.prog (w.forCall tape i) .any w.heap.size f i ∧
      ((s.pre enc C.prog fn conds apart (w.forCall tape i).memory i.args ∧ X (w.forCall tape i).memory i.args) ∧ sizedMet enc C.prog fn (OpenSpec.ofChange s) apart (w.forCall tape i).memory i.args) ∧ a.holds C.prog (lone (Frame.enter C.prog f i.args .normal) [] (w.forCall tape i)))
    (contract : ∀ (W : World) (base : Nat) (args : Array Value) (ds gs : List (DataW H)) (before : List MemPlace),
      (∀ (j : Nat) t v, fn.params[j]? = some t → args[j]? = some v → Value.okWide C.prog W .any base t v) →
      DataW.Whole enc C.prog fn.params.toList s.vars apart W args.toList ds gs before →
      (DataW.weightsEach C.prog (fn.params.toList ++ s.plain.varTypes C.prog) (ds ++ gs)).all (· ≤ reachBytes) = true → X W args → W.ShapedOpen C.prog →
      Calls C.prog f args W fun e W' => ∃ v, e = .returned v ∧ s.post enc C.prog fn apart fresh handsOn again W args v W') :
    ReturnsInHanded a C os f .any (fun w args => (s.pre enc C.prog fn conds apart w args ∧ X w args) ∧ sizedMet enc C.prog fn (OpenSpec.ofChange s) apart w args) (s.post enc C.prog fn apart fresh handsOn again) := by
  refine returnsInHanded_of_calls own started noInit witness ?_
  intro w tape i _ hsh _ hok hpre _
  obtain ⟨_, _, _, fn', hfn', _, _, _, _, hval⟩ := hok
  have e : fn' = fn := Option.some.inj (hfn'.symm.trans hfn)
  subst e
  obtain ⟨⟨⟨ds, gs, before, hw, _⟩, hx⟩, hz⟩ := hpre
  have hw' := DataW.Whole.of_heap (w' := w.forCall tape i) (by rfl) hw
  refine (contract (w.forCall tape i) w.heap.size i.args ds gs before hval hw' (hz.weights hw) (hX _ _ _ (by rfl) hx) hsh).mono fun e W' ⟨v, he, hp⟩ => ?_
  subst he
  exact ChangeSpec.post_blind hp
end
/-! ### What the rows list, in the walks' words. -/
section
open Go Go.ChangeShapes Go.WideShapes Go.ChangeAt Go.RowKit Go.Proofs
set_option linter.unusedVariables false

theorem lw_snil {W : World} (hL : laidMetH Tryz.prog Rows.serveNilRow.laid W) (hsh : W.ShapedOpen Tryz.prog) : Lw W := by
  refine ⟨ml_of_shape hsh, ?_⟩
  rw [MakeChecks.laidMetH_plain _ _ _ (by kernel_rfl)] at hL
  first
  | exact Lib.tabIs_of_head (g := 1) (by kernel_rfl) (by kernel_rfl) Tryz.underlying236 Tryz.underlying160 (by kernel_rfl) (by kernel_rfl) hL
  | exact Lib.tabIs_of_head (g := 1) (by kernel_rfl) (by kernel_rfl) Tryz.underlying236 Tryz.underlying160 (by kernel_rfl) (by kernel_rfl) (laidMet.tail hL)
  | exact Lib.tabIs_of_head (g := 1) (by kernel_rfl) (by kernel_rfl) Tryz.underlying236 Tryz.underlying160 (by kernel_rfl) (by kernel_rfl) (laidMet.tail (laidMet.tail hL))
  | exact Lib.tabIs_of_head (g := 1) (by kernel_rfl) (by kernel_rfl) Tryz.underlying236 Tryz.underlying160 (by kernel_rfl) (by kernel_rfl) (laidMet.tail (laidMet.tail (laidMet.tail hL)))
  | exact Lib.tabIs_of_head (g := 1) (by kernel_rfl) (by kernel_rfl) Tryz.underlying236 Tryz.underlying160 (by kernel_rfl) (by kernel_rfl) (laidMet.tail (laidMet.tail (laidMet.tail (laidMet.tail hL))))
  | exact Lib.tabIs_of_head (g := 1) (by kernel_rfl) (by kernel_rfl) Tryz.underlying236 Tryz.underlying160 (by kernel_rfl) (by kernel_rfl) (laidMet.tail (laidMet.tail (laidMet.tail (laidMet.tail (laidMet.tail hL)))))
  | exact Lib.tabIs_of_head (g := 1) (by kernel_rfl) (by kernel_rfl) Tryz.underlying236 Tryz.underlying160 (by kernel_rfl) (by kernel_rfl) (laidMet.tail (laidMet.tail (laidMet.tail (laidMet.tail (laidMet.tail (laidMet.tail hL))))))
  | exact Lib.tabIs_of_head (g := 1) (by kernel_rfl) (by kernel_rfl) Tryz.underlying236 Tryz.underlying160 (by kernel_rfl) (by kernel_rfl) (laidMet.tail (laidMet.tail (laidMet.tail (laidMet.tail (laidMet.tail (laidMet.tail (laidMet.tail hL)))))))
theorem lw_sstays {W : World} (hL : laidMetH Tryz.prog Rows.serveStaysRow.laid W) (hsh : W.ShapedOpen Tryz.prog) : Lw W := by
  refine ⟨ml_of_shape hsh, ?_⟩
  rw [MakeChecks.laidMetH_plain _ _ _ (by kernel_rfl)] at hL
  first
  | exact Lib.tabIs_of_head (g := 1) (by kernel_rfl) (by kernel_rfl) Tryz.underlying236 Tryz.underlying160 (by kernel_rfl) (by kernel_rfl) hL
  | exact Lib.tabIs_of_head (g := 1) (by kernel_rfl) (by kernel_rfl) Tryz.underlying236 Tryz.underlying160 (by kernel_rfl) (by kernel_rfl) (laidMet.tail hL)
  | exact Lib.tabIs_of_head (g := 1) (by kernel_rfl) (by kernel_rfl) Tryz.underlying236 Tryz.underlying160 (by kernel_rfl) (by kernel_rfl) (laidMet.tail (laidMet.tail hL))
  | exact Lib.tabIs_of_head (g := 1) (by kernel_rfl) (by kernel_rfl) Tryz.underlying236 Tryz.underlying160 (by kernel_rfl) (by kernel_rfl) (laidMet.tail (laidMet.tail (laidMet.tail hL)))
  | exact Lib.tabIs_of_head (g := 1) (by kernel_rfl) (by kernel_rfl) Tryz.underlying236 Tryz.underlying160 (by kernel_rfl) (by kernel_rfl) (laidMet.tail (laidMet.tail (laidMet.tail (laidMet.tail hL))))
  | exact Lib.tabIs_of_head (g := 1) (by kernel_rfl) (by kernel_rfl) Tryz.underlying236 Tryz.underlying160 (by kernel_rfl) (by kernel_rfl) (laidMet.tail (laidMet.tail (laidMet.tail (laidMet.tail (laidMet.tail hL)))))
  | exact Lib.tabIs_of_head (g := 1) (by kernel_rfl) (by kernel_rfl) Tryz.underlying236 Tryz.underlying160 (by kernel_rfl) (by kernel_rfl) (laidMet.tail (laidMet.tail (laidMet.tail (laidMet.tail (laidMet.tail (laidMet.tail hL))))))
  | exact Lib.tabIs_of_head (g := 1) (by kernel_rfl) (by kernel_rfl) Tryz.underlying236 Tryz.underlying160 (by kernel_rfl) (by kernel_rfl) (laidMet.tail (laidMet.tail (laidMet.tail (laidMet.tail (laidMet.tail (laidMet.tail (laidMet.tail hL)))))))
theorem lw_spipes {W : World} (hL : laidMetH Tryz.prog Rows.servePipesRow.laid W) (hsh : W.ShapedOpen Tryz.prog) : Lw W := by
  refine ⟨ml_of_shape hsh, ?_⟩
  rw [MakeChecks.laidMetH_plain _ _ _ (by kernel_rfl)] at hL
  first
  | exact Lib.tabIs_of_head (g := 1) (by kernel_rfl) (by kernel_rfl) Tryz.underlying236 Tryz.underlying160 (by kernel_rfl) (by kernel_rfl) hL
  | exact Lib.tabIs_of_head (g := 1) (by kernel_rfl) (by kernel_rfl) Tryz.underlying236 Tryz.underlying160 (by kernel_rfl) (by kernel_rfl) (laidMet.tail hL)
  | exact Lib.tabIs_of_head (g := 1) (by kernel_rfl) (by kernel_rfl) Tryz.underlying236 Tryz.underlying160 (by kernel_rfl) (by kernel_rfl) (laidMet.tail (laidMet.tail hL))
  | exact Lib.tabIs_of_head (g := 1) (by kernel_rfl) (by kernel_rfl) Tryz.underlying236 Tryz.underlying160 (by kernel_rfl) (by kernel_rfl) (laidMet.tail (laidMet.tail (laidMet.tail hL)))
  | exact Lib.tabIs_of_head (g := 1) (by kernel_rfl) (by kernel_rfl) Tryz.underlying236 Tryz.underlying160 (by kernel_rfl) (by kernel_rfl) (laidMet.tail (laidMet.tail (laidMet.tail (laidMet.tail hL))))
  | exact Lib.tabIs_of_head (g := 1) (by kernel_rfl) (by kernel_rfl) Tryz.underlying236 Tryz.underlying160 (by kernel_rfl) (by kernel_rfl) (laidMet.tail (laidMet.tail (laidMet.tail (laidMet.tail (laidMet.tail hL)))))
  | exact Lib.tabIs_of_head (g := 1) (by kernel_rfl) (by kernel_rfl) Tryz.underlying236 Tryz.underlying160 (by kernel_rfl) (by kernel_rfl) (laidMet.tail (laidMet.tail (laidMet.tail (laidMet.tail (laidMet.tail (laidMet.tail hL))))))
  | exact Lib.tabIs_of_head (g := 1) (by kernel_rfl) (by kernel_rfl) Tryz.underlying236 Tryz.underlying160 (by kernel_rfl) (by kernel_rfl) (laidMet.tail (laidMet.tail (laidMet.tail (laidMet.tail (laidMet.tail (laidMet.tail (laidMet.tail hL)))))))
theorem lw_rlen {W : World} (hL : laidMetH Tryz.prog Rows.respondLengthRow.laid W) (hsh : W.ShapedOpen Tryz.prog) : Lw W := by
  refine ⟨ml_of_shape hsh, ?_⟩
  rw [MakeChecks.laidMetH_plain _ _ _ (by kernel_rfl)] at hL
  first
  | exact Lib.tabIs_of_head (g := 1) (by kernel_rfl) (by kernel_rfl) Tryz.underlying236 Tryz.underlying160 (by kernel_rfl) (by kernel_rfl) hL
  | exact Lib.tabIs_of_head (g := 1) (by kernel_rfl) (by kernel_rfl) Tryz.underlying236 Tryz.underlying160 (by kernel_rfl) (by kernel_rfl) (laidMet.tail hL)
  | exact Lib.tabIs_of_head (g := 1) (by kernel_rfl) (by kernel_rfl) Tryz.underlying236 Tryz.underlying160 (by kernel_rfl) (by kernel_rfl) (laidMet.tail (laidMet.tail hL))
  | exact Lib.tabIs_of_head (g := 1) (by kernel_rfl) (by kernel_rfl) Tryz.underlying236 Tryz.underlying160 (by kernel_rfl) (by kernel_rfl) (laidMet.tail (laidMet.tail (laidMet.tail hL)))
  | exact Lib.tabIs_of_head (g := 1) (by kernel_rfl) (by kernel_rfl) Tryz.underlying236 Tryz.underlying160 (by kernel_rfl) (by kernel_rfl) (laidMet.tail (laidMet.tail (laidMet.tail (laidMet.tail hL))))
  | exact Lib.tabIs_of_head (g := 1) (by kernel_rfl) (by kernel_rfl) Tryz.underlying236 Tryz.underlying160 (by kernel_rfl) (by kernel_rfl) (laidMet.tail (laidMet.tail (laidMet.tail (laidMet.tail (laidMet.tail hL)))))
  | exact Lib.tabIs_of_head (g := 1) (by kernel_rfl) (by kernel_rfl) Tryz.underlying236 Tryz.underlying160 (by kernel_rfl) (by kernel_rfl) (laidMet.tail (laidMet.tail (laidMet.tail (laidMet.tail (laidMet.tail (laidMet.tail hL))))))
  | exact Lib.tabIs_of_head (g := 1) (by kernel_rfl) (by kernel_rfl) Tryz.underlying236 Tryz.underlying160 (by kernel_rfl) (by kernel_rfl) (laidMet.tail (laidMet.tail (laidMet.tail (laidMet.tail (laidMet.tail (laidMet.tail (laidMet.tail hL)))))))
theorem lw_rform {W : World} (hL : laidMetH Tryz.prog Rows.respondFormRow.laid W) (hsh : W.ShapedOpen Tryz.prog) : Lw W := by
  refine ⟨ml_of_shape hsh, ?_⟩
  rw [MakeChecks.laidMetH_plain _ _ _ (by kernel_rfl)] at hL
  first
  | exact Lib.tabIs_of_head (g := 1) (by kernel_rfl) (by kernel_rfl) Tryz.underlying236 Tryz.underlying160 (by kernel_rfl) (by kernel_rfl) hL
  | exact Lib.tabIs_of_head (g := 1) (by kernel_rfl) (by kernel_rfl) Tryz.underlying236 Tryz.underlying160 (by kernel_rfl) (by kernel_rfl) (laidMet.tail hL)
  | exact Lib.tabIs_of_head (g := 1) (by kernel_rfl) (by kernel_rfl) Tryz.underlying236 Tryz.underlying160 (by kernel_rfl) (by kernel_rfl) (laidMet.tail (laidMet.tail hL))
  | exact Lib.tabIs_of_head (g := 1) (by kernel_rfl) (by kernel_rfl) Tryz.underlying236 Tryz.underlying160 (by kernel_rfl) (by kernel_rfl) (laidMet.tail (laidMet.tail (laidMet.tail hL)))
  | exact Lib.tabIs_of_head (g := 1) (by kernel_rfl) (by kernel_rfl) Tryz.underlying236 Tryz.underlying160 (by kernel_rfl) (by kernel_rfl) (laidMet.tail (laidMet.tail (laidMet.tail (laidMet.tail hL))))
  | exact Lib.tabIs_of_head (g := 1) (by kernel_rfl) (by kernel_rfl) Tryz.underlying236 Tryz.underlying160 (by kernel_rfl) (by kernel_rfl) (laidMet.tail (laidMet.tail (laidMet.tail (laidMet.tail (laidMet.tail hL)))))
  | exact Lib.tabIs_of_head (g := 1) (by kernel_rfl) (by kernel_rfl) Tryz.underlying236 Tryz.underlying160 (by kernel_rfl) (by kernel_rfl) (laidMet.tail (laidMet.tail (laidMet.tail (laidMet.tail (laidMet.tail (laidMet.tail hL))))))
  | exact Lib.tabIs_of_head (g := 1) (by kernel_rfl) (by kernel_rfl) Tryz.underlying236 Tryz.underlying160 (by kernel_rfl) (by kernel_rfl) (laidMet.tail (laidMet.tail (laidMet.tail (laidMet.tail (laidMet.tail (laidMet.tail (laidMet.tail hL)))))))
end
end Go.Proofs.YtnmafahbdfilcaaGreatDoor
