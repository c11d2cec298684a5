/- ServeNil, walked. serve in plain words: the fields of what is asked are few and short. ServeStays, walked. ServeStays: what comes in, opened. Arguments opened to lists, and what the bound of the second form says of them: strings, fields, requests. All values of a name are no longer than the request's bulk. -/
import Derived.Test.YtnmafahbdfilcaaGreatDoorPB25
import Derived.Deep.CutBlock
import Derived.Deep.DeepCutAuto
import Derived.Test.YtnmafahbdfilcaaGreatDoorPB1
import Derived.Test.YtnmafahbdfilcaaGreatDoorRows
import Derived.Test.YtnmafahbdfilcaaGreatDoorPB13
namespace Go.Proofs.YtnmafahbdfilcaaGreatDoor
/-! ### ServeNil, walked. -/
section
open Go.RowKit Go.Shelf
set_option linter.unusedVariables false
set_option linter.unusedSimpArgs false
set_option maxRecDepth 100000
def alvA : AskP := ([97], 0, alvR)
theorem alv_ask1 : askS ⟨alvB, false, none, false⟩ = (⟨[], false, some alvA, false⟩, some alvA) := by
  unfold askS
  rw [if_neg (by simp)]
  simp only [alv_next, alv_op, alvA]
theorem alv_ask2 : askS ⟨[], false, some alvA, false⟩ = (⟨[], false, some alvA, false⟩, some alvA) := rfl
theorem alv_done : doneS ⟨[], false, some alvA, false⟩ = ⟨[], false, none, true⟩ := by unfold doneS; rfl
theorem alv_plan : (planT alvA false 0 0 0 [] (-1)).1 = 404 := by
  have h0 : alvA.2.1 = 0 := rfl
  unfold planT
  rw [if_pos h0]
  exact congrArg Prod.fst (alv_choose 0 0 0)
theorem alv_ok : okR alvA.2.2 := ⟨by decide, fun nm => by simp [alvA, alvR, allF, valsF, Lib.join]⟩
section
variable {R : Ending → World → Prop} {w w1 : World} {tg pg : Nat}
theorem ask_lit1 (hm : Ml w) (ht : TB w w1 tg pg ⟨alvB, false, none, false⟩) (h : ∀ A c w', TB w w' tg pg ⟨[], false, some alvA, false⟩ → Kp [tg, pg] w1 w' → R (.returned (.tuple #[.agg #[.string (S [97]), .int .i64 0, .string (S [71, 69, 84]), .string (S [47, 97]), .int .i64 0, .slice A 0 c, .bool true], .bool true])) w') :
    Calls Tryz.prog 21 #[.pointer (some ⟨tg, 0, none⟩)] w1 R :=
  sask_any hm ht (fun _ => by decide) (fun e => by rw [alv_ask1] at e; cases e) (fun a e A c w' t k => by
    rw [alv_ask1] at e t
    injection e with e
    subst e
    exact h A c w' t k)
theorem ask_lit2 (hm : Ml w) (ht : TB w w1 tg pg ⟨[], false, some alvA, false⟩) (h : ∀ A c w', TB w w' tg pg ⟨[], false, some alvA, false⟩ → Kp [tg, pg] w1 w' → R (.returned (.tuple #[.agg #[.string (S [97]), .int .i64 0, .string (S [71, 69, 84]), .string (S [47, 97]), .int .i64 0, .slice A 0 c, .bool true], .bool true])) w') :
    Calls Tryz.prog 21 #[.pointer (some ⟨tg, 0, none⟩)] w1 R :=
  sask_any hm ht (fun _ => by decide) (fun e => by rw [alv_ask2] at e; cases e) (fun a e A c w' t k => by
    rw [alv_ask2] at e t
    injection e with e
    subst e
    exact h A c w' t k)
theorem plan_lit (hw : Lw w) (ht : TB w w1 tg pg ⟨[], false, some alvA, false⟩) (h : ∀ L A n c cl w', Kp [] w1 w' → R (.returned (.agg #[.int .i64 404, .string (S L), .slice A n c, .bool cl])) w') :
    Calls Tryz.prog 23 #[.pointer (some ⟨tg, 0, none⟩), .bool false, .agg #[.int .i64 0, .int .i64 0, .int .i64 0, .string ⟨#[]⟩], .int .i64 (-1)] w1 R :=
  splan_any (kd := []) hw ht rfl alv_ok false 0 0 0 (-1) (by decide) (by decide) (by decide) (by decide) (fun A n c w' k _ => by rw [alv_plan]; exact h _ A n c _ w' k)
theorem done_lit (ht : TB w w1 tg pg ⟨[], false, some alvA, false⟩) (h : ∀ w', TB w w' tg pg ⟨[], false, none, true⟩ → Kp [tg, pg] w1 w' → R (.returned (.tuple #[])) w') : Calls Tryz.prog 26 #[.pointer (some ⟨tg, 0, none⟩)] w1 R :=
  sdone_any ht (fun w' t k => h w' (by rw [alv_done] at t; exact t) k)
set_option maxHeartbeats 4000000 in
theorem alive28_any (hw : Lw w) (h : ∀ w', Kp [] w w' → R (.returned (.bool true)) w') : Calls Tryz.prog 17 #[] w R := by
  have H := Lib.hid h
  clear h
  go_enter Tryz.func17, Tryz.ntmps17
  go_upto_region 2 with (go_at_call 19; ((refine snew_any ?_); intro tg pg w1 g1 g2 t1 k1; have T1 := Lib.hid (TB.mk k1 g1 g2 t1); have hcv := fun C => Lib.run_convert_bytes_const (P := Tryz.prog) w1 52 5 C 19 19 Tryz.underlying52 Tryz.underlying5; clear t1 k1))
  go_upto_region 3 with (go_at_call 20; ((refine sfeed_any (T1.out.tk.kp ((Kp.refl _ _).alloc _)) alvB (bytes_rd rfl) rfl (by decide) ?_); intro w2 t2 k2; have T2 : Hid (TB w w2 tg pg ⟨alvB, false, none, false⟩) := Lib.hid ((T1.out.kp' ((Kp.refl _ _).alloc _)).step t2 k2); clear t2 k2))
  have hne : Hid (tg ≠ pg) := Lib.hid T1.out.tk.ne
  go_upto_region 4 with (go_at_call 21; ((refine ask_lit1 hw.ml T2.out ?_); intro A3 c3 w3 t3 k3))
  refine gen_worldC (fun W => ∃ ga, w3.heap.size = ga ∧ Hid (tg < ga ∧ pg < ga) ∧ Hid (TB w W tg pg ⟨[], false, some alvA, false⟩ ∧ Bk W ga 54 [.string (S [97]), .int .i64 0, .string (S [71, 69, 84]), .string (S [47, 97]), .int .i64 0, .slice A3 0 c3, .bool true])) ⟨_, rfl, Lib.hid ⟨by obtain ⟨_, hb, _⟩ := t3.tk.tk; exact hb.lt, Bk.lt t3.tk.ps⟩, Lib.hid ⟨t3.kp' ((Kp.refl _ _).alloc _), (Bk.new' _ _ _).cast rfl⟩⟩ ?_
  rintro W3 ⟨ga, hga, hn3, hW3⟩
  rw [hga]
  clear hga t3 k3
  go_upto_region 5 with (go_at_call 21; ((refine ask_lit2 hw.ml hW3.out.1 ?_); intro A4 c4 w4 t4 k4))
  refine gen_worldC (fun W => ∃ gb, w4.heap.size = gb ∧ Hid (tg < gb ∧ pg < gb ∧ ga < gb) ∧ Hid (TB w W tg pg ⟨[], false, some alvA, false⟩ ∧ Bk W ga 54 [.string (S [97]), .int .i64 0, .string (S [71, 69, 84]), .string (S [47, 97]), .int .i64 0, .slice A3 0 c3, .bool true] ∧ Bk W gb 54 [.string (S [97]), .int .i64 0, .string (S [71, 69, 84]), .string (S [47, 97]), .int .i64 0, .slice A4 0 c4, .bool true])) ⟨_, rfl, Lib.hid ⟨by obtain ⟨_, hb, _⟩ := t4.tk.tk; exact hb.lt, Bk.lt t4.tk.ps, by have := hW3.out.2.lt; have := k4.size; omega⟩, Lib.hid ⟨t4.kp' ((Kp.refl _ _).alloc _), (hW3.out.2.kp k4 (by have := hn3.out; simp; omega)).alloc _, (Bk.new' _ _ _).cast rfl⟩⟩ ?_
  rintro W4 ⟨gb, hgb, hn4, hW4⟩
  rw [hgb]
  clear hgb t4 k4 hW3
  go_upto_region 6 with (go_at_call 23; ((refine plan_lit hw hW4.out.1 ?_); intro L A5 n5 c5 cl w5 k5))
  refine gen_worldC (fun W => ∃ gp, w5.heap.size = gp ∧ Hid (tg < gp ∧ pg < gp) ∧ Hid (TB w W tg pg ⟨[], false, some alvA, false⟩ ∧ Bk W ga 54 [.string (S [97]), .int .i64 0, .string (S [71, 69, 84]), .string (S [47, 97]), .int .i64 0, .slice A3 0 c3, .bool true] ∧ Bk W gb 54 [.string (S [97]), .int .i64 0, .string (S [71, 69, 84]), .string (S [47, 97]), .int .i64 0, .slice A4 0 c4, .bool true] ∧ Bk W gp 31 [.int .i64 404, .string (S L), .slice A5 n5 c5, .bool cl])) ⟨_, rfl, Lib.hid ⟨by have := hW4.out.2.2.lt; have := k5.size; have := hn4.out; omega, by have := hW4.out.2.2.lt; have := k5.size; have := hn4.out; omega⟩, Lib.hid ⟨hW4.out.1.kp' (k5.alloc _), (hW4.out.2.1.kp k5 (by simp)).alloc _, (hW4.out.2.2.kp k5 (by simp)).alloc _, (Bk.new' _ _ _).cast rfl⟩⟩ ?_
  rintro W5 ⟨gp, hgp, hn5, hW5⟩
  rw [hgp]
  clear hgp k5 hW4
  go_upto_region 7 with (go_at_call 26; ((refine done_lit hW5.out.1 ?_); intro w6 t6 k6))
  have b1 := hW5.out.2.1.kp k6 (by have := hn3.out; simp; omega)
  have b2 := hW5.out.2.2.1.kp k6 (by have := hn4.out; simp; omega)
  have b3 := hW5.out.2.2.2.kp k6 (by have := hn5.out; simp; omega)
  have c1 : w6.cell? ⟨ga, 0, none⟩ = some (.string (S [97])) := b1.cell 0
  have c2 : w6.cell? ⟨gb, 0, none⟩ = some (.string (S [97])) := b2.cell 0
  have c3' : w6.cell? ⟨gp, 0, none⟩ = some (.int .i64 404) := b3.cell 0
  have e1 : (([97] : List UInt8) == [97]) = true := by decide
  have HT := Lib.hid t6
  clear t6 k6 b1 b2 b3 hW5
  go_wp2_with (go_at_call 27; (refine sover_any HT.out.tk ?_))
  exact H.out _ HT.out.kp
theorem sask_nilE (h : ∀ w', Kp [] w w' → R (.returned (.tuple #[.agg #[.string ⟨#[]⟩, .int .i64 0, .string ⟨#[]⟩, .string ⟨#[]⟩, .int .i64 0, .slice none 0 0, .bool false], .bool false])) w') : Calls Tryz.prog 21 #[.pointer none] w R := sask_nil h
set_option maxHeartbeats 4000000 in
theorem snil_walk (x : ByteArray) (now : Int) (hw : Lw w) (h : ∀ w', Kp [] w w' → R (.returned (.bool true)) w') : Calls Tryz.prog 7 #[.string x, .int .i64 now] w R := by
  have H := Lib.hid h
  clear h
  obtain ⟨bw, cw, hcs, hbk, -⟩ := conv_rd x
  have HBK := Lib.hid hbk
  clear hbk
  go_enter Tryz.func7, Tryz.ntmps7
  go_upto_region 8 with (first | (go_at_call 17; ((refine alive28_any hw ?_); intro w1 k1)) | (go_at_call 20; (refine sfeed_nil ?_)) | (go_at_call 26; (refine sdone_nil ?_)) | (go_at_call 21; ((refine sask_nilE ?_); intro w2 k2)) | (go_at_call 23; ((refine splan_nil (kd := []) _ _ _ _ _ ?_); intro w3 k3)))
  refine gen_worldC (fun W => ∃ ga, w3.heap.size = ga ∧ Hid (Kp [] w W ∧ Bk W ga 31 [.int .i64 0, .string ⟨#[]⟩, .slice none 0 0, .bool false])) ⟨_, rfl, Lib.hid ⟨((((HBK.out _ _ _ k1).trans k2).alloc _).trans k3).alloc _, (Bk.new' _ _ _).cast rfl⟩⟩ ?_
  rintro W ⟨ga, hga, hW⟩
  rw [hga]
  clear hga k1 k2 k3
  go_upto_region 9 with (first | (go_at_call 19; ((refine snew_any ?_); intro tg pg w4 g1 g2 t4 k4)) | (go_at_call 23; ((refine splan_none (kd := []) t4 rfl _ _ _ _ _ ?_); intro w5 k5)))
  have b5 := (hW.out.2.kp k4 (by simp)).kp k5 (by simp)
  have KF : Hid (Kp [] w w5) := Lib.hid ((hW.out.1.trans k4).trans k5)
  have hlt := b5.lt
  obtain ⟨⟨c0, c1, c2, c3⟩, _⟩ := bk4r b5
  clear t4 k4 k5 b5 hW
  go_wp2_with (go_at_call 27; (refine sover_nil ?_))
  exact H.out _ (KF.out.alloc _)
end
end
/-! ### serve in plain words: the fields of what is asked are few and short. -/
section
open Go.RowKit
set_option linter.unusedVariables false
set_option linter.unusedSimpArgs false
set_option maxRecDepth 100000
theorem next_fsB (b : List UInt8) : (nextF b).1.fs.length ≤ b.length ∧ ((nextF b).1.fs.map (fun f => f.2.length)).sum ≤ b.length := by
  unfold nextF
  have h := headF_sum (b.length + 1) b.length [] b
  generalize headF (b.length + 1) b.length [] b = p at *
  obtain ⟨ls, rest, st⟩ := p
  simp only [List.length_nil, Nat.zero_add, List.map_nil, List.sum_nil] at h ⊢
  have ho : (ofF ls).1.fs.length ≤ ls.length ∧ ((ofF ls).1.fs.map (fun f => f.2.length)).sum ≤ (ls.map List.length).sum := by
    unfold ofF
    split
    · simp [noReq]
    · rename_i l ls'
      split
      · simp [noReq]
      · split
        · simp [noReq]
        · split
          · simp [noReq]
          · split
            · simp [noReq]
            · rename_i fs hfs
              obtain ⟨h1, h2⟩ := fields_sum ls' fs hfs
              unfold ofFs
              repeat' split
              all_goals first | exact ⟨by simp only [List.length_cons]; omega, Nat.le_trans h1 (by simp only [List.map_cons, List.sum_cons]; omega)⟩ | (simp [noReq]; done) | (simp [noReq]; omega)
  repeat' split
  all_goals first | omega | (simp only; omega) | (simp [noReq]; done) | (simp [noReq]; omega)
theorem nxt_ok {b : List UInt8} {ov : Bool} (hb : b.length ≤ 2000) : okR (nxt b ov).1 := by
  unfold nxt
  split
  · exact ⟨by simp [noReq], fun nm => by simp [noReq, allF, valsF, Lib.join]⟩
  · have h := next_fsB b
    refine ⟨by omega, fun nm => ?_⟩
    exact Nat.le_trans (allF_len _ nm) (Nat.le_trans (Nat.add_le_add (Nat.mul_le_mul_left 2 h.1) h.2) (by omega))
theorem op_ok {b : List UInt8} {ov : Bool} {a : AskP} (hb : b.length ≤ 2000) (h : nxtOp b ov = some a) : okR a.2.2 := by
  unfold nxtOp at h
  split at h
  · cases h
  · injection h with h
    subst h
    exact nxt_ok hb
end
/-! ### ServeStays, walked. -/
section
open Go.RowKit Go.Shelf
set_option linter.unusedVariables false
set_option linter.unusedSimpArgs false
set_option maxRecDepth 100000
theorem askS_some {b : List UInt8} {ov : Bool} {a : AskP} : askS ⟨b, ov, some a, false⟩ = (⟨b, ov, some a, false⟩, some a) := rfl
theorem askS_over {b : List UInt8} {ov : Bool} {op : Option AskP} : askS ⟨b, ov, op, true⟩ = (⟨b, ov, op, true⟩, none) := rfl
theorem askS_none {b : List UInt8} {ov : Bool} : askS ⟨b, ov, none, false⟩ = (⟨(nxt b ov).2.2.1, (nxt b ov).2.2.2, nxtOp b ov, false⟩, nxtOp b ov) := rfl
theorem nxt_len {b : List UInt8} {ov : Bool} (hb : b.length < 1024) : (nxt b ov).2.2.1.length ≤ b.length := by
  unfold nxt
  split
  · exact Nat.le_refl _
  · unfold nextF
    have h := (headF_sum (b.length + 1) b.length [] b).2.2
    generalize headF (b.length + 1) b.length [] b = p at *
    obtain ⟨ls, rest, st⟩ := p
    simp only at h ⊢
    repeat' split
    all_goals simp
    all_goals omega
/-- What the loop keeps: the talk, the first ask's block, the first plan's. -/
def StI (w0 w : World) (tg pg ga gp : Nat) (s : TkS) (a : AskP) (A : Option Addr) (c : Nat) (st : Int) (L : List UInt8) (B : Option Addr) (n d : Nat) (cl : Bool) : Prop :=
  TB w0 w tg pg s ∧ tg ≠ ga ∧ pg ≠ ga ∧ tg ≠ gp ∧ pg ≠ gp ∧ Bk w ga 54 (askC a A c) ∧ Bk w gp 31 [.int .i64 st, .string (S L), .slice B n d, .bool cl]
theorem StI.step {w0 w w' : World} {tg pg ga gp : Nat} {s s' : TkS} {a : AskP} {A : Option Addr} {c : Nat} {st : Int} {L : List UInt8} {B : Option Addr} {n d : Nat} {cl : Bool} (h : StI w0 w tg pg ga gp s a A c st L B n d cl) (t : TB w0 w' tg pg s') (k : Kp [tg, pg] w w') : StI w0 w' tg pg ga gp s' a A c st L B n d cl := by
  obtain ⟨h1, h2, h3, h4, h5, h6, h7⟩ := h
  exact ⟨t, h2, h3, h4, h5, h6.kp k (by simp; omega), h7.kp k (by simp; omega)⟩
theorem StI.cells {w0 w : World} {tg pg ga gp : Nat} {s : TkS} {a : AskP} {A : Option Addr} {c : Nat} {st : Int} {L : List UInt8} {B : Option Addr} {n d : Nat} {cl : Bool} (h : StI w0 w tg pg ga gp s a A c st L B n d cl) :
    w.cell? ⟨ga, 0, none⟩ = some (.string (S a.1)) ∧ w.cell? ⟨ga, 1, none⟩ = some (.int .i64 a.2.1) ∧ w.cell? ⟨ga, 3, none⟩ = some (.string (S a.2.2.t)) ∧ w.cell? ⟨gp, 1, none⟩ = some (.string (S L)) ∧ w.cell? ⟨gp, 2, none⟩ = some (.slice B n d) ∧ ga < w.heap.size ∧ gp < w.heap.size :=
  ⟨h.2.2.2.2.2.1.cell 0, h.2.2.2.2.2.1.cell 1, h.2.2.2.2.2.1.cell 3, h.2.2.2.2.2.2.cell 1, h.2.2.2.2.2.2.cell 2, h.2.2.2.2.2.1.lt, h.2.2.2.2.2.2.lt⟩
theorem StI.kp' {w0 w w' : World} {tg pg ga gp : Nat} {s : TkS} {a : AskP} {A : Option Addr} {c : Nat} {st : Int} {L : List UInt8} {B : Option Addr} {n d : Nat} {cl : Bool} (h : StI w0 w tg pg ga gp s a A c st L B n d cl) (k : Kp [] w w') : StI w0 w' tg pg ga gp s a A c st L B n d cl :=
  h.step (h.1.kp' k) (k.mono (by simp))
section
variable {R : Ending → World → Prop} {w : World}
theorem sask_overE {w1 : World} {tg pg : Nat} {b : List UInt8} {ov : Bool} (hm : Ml w) (ht : TB w w1 tg pg ⟨b, ov, none, true⟩) (h : ∀ w', TB w w' tg pg ⟨b, ov, none, true⟩ → R (.returned (.tuple #[.agg #[.string ⟨#[]⟩, .int .i64 0, .string ⟨#[]⟩, .string ⟨#[]⟩, .int .i64 0, .slice none 0 0, .bool false], .bool false])) w') :
    Calls Tryz.prog 21 #[.pointer (some ⟨tg, 0, none⟩)] w1 R := by
  have H := Lib.hid h
  have HT := Lib.hid ht
  obtain ⟨oa, b1, o1⟩ := ht.tk.tk
  have HB := Lib.hid b1
  have hlt := b1.lt
  clear h ht b1 o1
  go_enter Tryz.func21, Tryz.ntmps21
  go_upto_region 1 with (fail)
  refine gen_worldC (fun W => ∃ rb, w1.heap.size = rb ∧ Hid (Kp [] w1 W ∧ Bk W rb 54 zA ∧ Bk W tg 85 [.pointer (some ⟨pg, 0, none⟩), .pointer oa, .bool true])) ⟨_, rfl, Lib.hid ⟨(Kp.refl _ _).alloc _, (Bk.new' _ _ _).cast rfl, HB.out.alloc _⟩⟩ ?_
  rintro W ⟨rb, hrb, hW⟩
  rw [hrb]
  have HRB : Hid (w1.heap.size ≤ rb) := Lib.hid (by omega)
  clear hrb
  have t2 : W.cell? ⟨tg, 2, none⟩ = some (.bool true) := hW.out.2.2.cell 2
  obtain ⟨⟨z0, z1, z2, z3, z4, z5, z6⟩, ⟨f0, f1, f2, f3, f4, f5, f6⟩⟩ := bk7r hW.out.2.1
  go_wp2
  obtain ⟨W', hW', kW, bW⟩ := put7 hW.out.2.1 (.string ⟨#[]⟩) (.int .i64 0) (.string ⟨#[]⟩) (.string ⟨#[]⟩) (.int .i64 0) (.slice none 0 0) (.bool false)
  rw [hW']
  obtain ⟨⟨c0, c1, c2, c3, c4, c5, c6⟩, _⟩ := bk7r bW
  have kF : Kp [] w1 W' := hW.out.1.thn kW (fun s hs => .inr (by have := HRB.out; simp at hs; omega))
  exact bodyPost_ret (v := .tuple #[noAsk, .bool false]) (by simp [results, Tryz.results21, go_sem, noAsk, c0, c1, c2, c3, c4, c5, c6]; try rfl) rfl (H.out _ (HT.out.kp' kF))
set_option maxHeartbeats 16000000 in
theorem stays_walk (x : ByteArray) (more : List ByteArray) (v mt len : Int) (kd : List UInt8) (now : Int) {A1 : Option Addr} {n1 cc : Nat} (hr : Rd w [] A1 (more.map Value.string)) (hl : more.length = n1)
    (v1 : -9223372036854775808 ≤ v ∧ v ≤ 9223372036854775807) (m1 : -9223372036854775808 ≤ mt ∧ mt ≤ 9223372036854775807) (l1 : -9223372036854775808 ≤ len ∧ len ≤ 9223372036854775807) (hw : Lw w) (h : ∀ w', Kp [] w w' → R (.returned (.bool true)) w') :
    Calls Tryz.prog 6 #[.string x, .slice A1 n1 cc, .agg #[.int .i64 v, .int .i64 mt, .int .i64 len, .string (S kd)], .int .i64 now] w R := by
  have H := Lib.hid h
  have HR := Lib.hid hr
  have HL := Lib.hid hl
  clear h hr hl
  obtain ⟨c1, d1⟩ : ∃ c, decide ((900 : Int) < x.size) = c := ⟨_, rfl⟩
  obtain ⟨c2, d2⟩ : ∃ c, decide ((20 : Int) < n1) = c := ⟨_, rfl⟩
  obtain ⟨c3, d3⟩ : ∃ c, decide (len < 0) = c := ⟨_, rfl⟩
  obtain ⟨c4, d4⟩ : ∃ c, decide (1099511627776 < len) = c := ⟨_, rfl⟩
  obtain ⟨c5, d5⟩ : ∃ c, decide (mt < 0) = c := ⟨_, rfl⟩
  obtain ⟨c6, d6⟩ : ∃ c, decide (v < 0) = c := ⟨_, rfl⟩
  obtain ⟨c7, d7⟩ : ∃ c, decide ((300 : Int) < kd.length) = c := ⟨_, rfl⟩
  go_enter Tryz.func6, Tryz.ntmps6
  go_upto_region 3 with (go_at_call 17; ((refine alive28_any (hw.kp ((Kp.refl _ _).alloc _)) ?_); intro w1 k1))
  refine gen_worldC (fun W => ∃ gf, w.heap.size = gf ∧ Hid (Kp [] w W ∧ Bk W gf 26 [.int .i64 v, .int .i64 mt, .int .i64 len, .string (S kd)])) ⟨_, rfl, Lib.hid ⟨((Kp.refl _ _).alloc _).trans k1, ((Bk.new' _ _ _).kp k1 (by simp)).cast rfl⟩⟩ ?_
  rintro W ⟨gf, hgf, hW⟩
  rw [hgf]
  clear hgf k1
  obtain ⟨⟨q0, q1, q2, q3⟩, _⟩ := bk4r hW.out.2
  go_cut [54] (fun b W' => ∃ t, b = .bool t ∧ W' = W ∧ Hid (t = false → x.size ≤ 900 ∧ n1 ≤ 20 ∧ 0 ≤ len ∧ len ≤ 1099511627776 ∧ 0 ≤ mt ∧ 0 ≤ v ∧ kd.length ≤ 300))
  case first =>
    cases c1 with
    | true =>
      go_wp2
      go_meet
      exact ⟨true, rfl, rfl, Lib.hid (fun e => by cases e)⟩
    | false =>
      cases c2 with
      | true =>
        go_wp2
        go_meet
        exact ⟨true, rfl, rfl, Lib.hid (fun e => by cases e)⟩
      | false =>
        cases c3 with
        | true =>
          go_wp2
          go_meet
          exact ⟨true, rfl, rfl, Lib.hid (fun e => by cases e)⟩
        | false =>
          cases c4 with
          | true =>
            go_wp2
            go_meet
            exact ⟨true, rfl, rfl, Lib.hid (fun e => by cases e)⟩
          | false =>
            cases c5 with
            | true =>
              go_wp2
              go_meet
              exact ⟨true, rfl, rfl, Lib.hid (fun e => by cases e)⟩
            | false =>
              cases c6 with
              | true =>
                go_wp2
                go_meet
                exact ⟨true, rfl, rfl, Lib.hid (fun e => by cases e)⟩
              | false =>
                cases c7 with
                | true =>
                  go_wp2
                  go_meet
                  exact ⟨true, rfl, rfl, Lib.hid (fun e => by cases e)⟩
                | false =>
                  go_wp2
                  go_meet
                  exact ⟨false, rfl, rfl, Lib.hid (fun _ => by simp at d1 d2 d3 d4 d5 d6 d7; omega)⟩
  case rest =>
    obtain ⟨t, hx1, hx2, hbd⟩ := hcut
    rw [hx1, hx2]
    clear hx1 hx2 d1 d2 d3 d4 d5 d6 d7
    cases t with
    | true =>
      go_wp2
      exact H.out _ hW.out.1
    | false =>
      obtain ⟨b1, b2, b3, b4, b5, b6, b7⟩ := hbd.out rfl
      obtain ⟨bw, cw, hcs, hbk, hbr⟩ := conv_rd x
      have HBK := Lib.hid hbk
      have HBR := Lib.hid hbr
      clear hbk hbr hbd
      have xl : x.data.toList.length = x.size := by rw [Array.length_toList]; rfl
      go_upto_region 7 with (first | (go_at_call 19; ((refine snew_any ?_); intro tg pg w1 g1 g2 t1 k1; have T1 := Lib.hid (TB.mk (hW.out.1.trans k1) (Nat.le_trans hW.out.1.size g1) (Nat.le_trans hW.out.1.size g2) t1); have K1 := Lib.hid k1; have HGF : Hid (gf < tg ∧ gf < pg) := Lib.hid (by have := hW.out.2.lt; omega); clear t1 k1)) | (go_at_call 20; ((refine sfeed_any (T1.out.tk.kp (HBK.out [] _ _ (Kp.refl [] _))) x.data.toList (HBR.out _ _ [] rfl (by simp)) xl (by first | omega | (show 0 + x.size ≤ _; omega) | (simp; omega)) ?_); intro w2 t2 k2; have T2 : Hid (TB w w2 tg pg ⟨x.data.toList, false, none, false⟩) := Lib.hid ((T1.out.kp' (HBK.out [] _ _ (Kp.refl [] _))).step t2 k2); have BF : Hid (Bk w2 gf 26 [.int .i64 v, .int .i64 mt, .int .i64 len, .string (S kd)]) := Lib.hid (((hW.out.2.kp K1.out (by simp)).kp (HBK.out [] _ _ (Kp.refl [] _)) (by simp)).kp k2 (by have := HGF.out; simp; omega)); clear t2 k2)))
      have HB900 : Hid (x.data.toList.length ≤ 900) := Lib.hid (by omega)
      obtain ⟨xs, hxs⟩ : ∃ xs, x.data.toList = xs := ⟨_, rfl⟩
      rw [hxs] at T2 HB900
      clear HBR HBK hcs hxs xl
      have hvv : 0 ≤ v ∧ v ≤ 9223372036854775807 := ⟨b6, v1.2⟩
      have hmm : 0 ≤ mt ∧ mt ≤ 9223372036854775807 := ⟨b5, m1.2⟩
      have hll : 0 ≤ len ∧ len ≤ 35184372088832 := ⟨b3, by omega⟩
      have HFC : Hid (∀ w', Kp [tg, pg] w2 w' → Bk w' gf 26 [.int .i64 v, .int .i64 mt, .int .i64 len, .string (S kd)]) := Lib.hid (fun w' k => BF.out.kp k (by have := HGF.out; simp; omega))
      have HRM : Hid (∀ w', Kp [] w w' → Rd w' [] A1 (more.map Value.string)) := Lib.hid (fun w' k => HR.out.kp k (by simp))
      have hon : askS ⟨xs, false, none, false⟩ = (⟨(nxt xs false).2.2.1, (nxt xs false).2.2.2, nxtOp xs false, false⟩, nxtOp xs false) := rfl
      have hnl := nxt_len (b := xs) (ov := false) (by have := HB900.out; omega)
      have HAsk : Hid (∀ (R : Ending → World → Prop), (nxtOp xs false = none → ∀ w', TB w w' tg pg ⟨(nxt xs false).2.2.1, (nxt xs false).2.2.2, none, false⟩ → Kp [tg, pg] w2 w' → R (.returned (.tuple #[noAsk, .bool false])) w') → (∀ a, nxtOp xs false = some a → ∀ A c w', TB w w' tg pg ⟨(nxt xs false).2.2.1, (nxt xs false).2.2.2, some a, false⟩ → Kp [tg, pg] w2 w' → R (.returned (.tuple #[.agg (askC a A c).toArray, .bool true])) w') → Calls Tryz.prog 21 #[.pointer (some ⟨tg, 0, none⟩)] w2 R) := Lib.hid (fun R h0 h1 => sask_any hw.ml T2.out (fun _ => by have := HB900.out; simp only; omega) (fun e w' t k => by rw [hon] at e t; simp only at e t; rw [e] at t; exact h0 e w' t k) (fun a e A c w' t k => by rw [hon] at e t; simp only at e t; rw [e] at t; exact h1 a e A c w' t k))
      have HOK : Hid (∀ a, nxtOp xs false = some a → okR a.2.2) := Lib.hid (fun a e => op_ok (by have := HB900.out; omega) e)
      obtain ⟨rb, e1⟩ : ∃ rb, (nxt xs false).2.2.1 = rb := ⟨_, rfl⟩
      obtain ⟨rv, e2⟩ : ∃ rv, (nxt xs false).2.2.2 = rv := ⟨_, rfl⟩
      obtain ⟨op, e3⟩ : ∃ op, nxtOp xs false = op := ⟨_, rfl⟩
      rw [e1, e2, e3] at HAsk
      rw [e3] at HOK
      have hrb : rb.length ≤ 900 := by rw [← e1]; have := HB900.out; omega
      clear e1 e2 e3 hon hnl T2 HB900
      cases op with
      | none =>
        have HA0 : Hid (∀ (R : Ending → World → Prop), (∀ w', TB w w' tg pg ⟨rb, rv, none, false⟩ → Kp [tg, pg] w2 w' → R (.returned (.tuple #[.agg #[.string ⟨#[]⟩, .int .i64 0, .string ⟨#[]⟩, .string ⟨#[]⟩, .int .i64 0, .slice none 0 0, .bool false], .bool false])) w') → Calls Tryz.prog 21 #[.pointer (some ⟨tg, 0, none⟩)] w2 R) := Lib.hid (fun R h => HAsk.out R (fun _ w' t k => h w' t k) (fun a e => by cases e))
        clear HAsk HOK
        go_upto_region 8 with (go_at_call 21; ((refine HA0.out _ ?_); intro w3 t3 k3))
        refine gen_worldC (fun W3 => Hid (TB w W3 tg pg ⟨rb, rv, none, false⟩ ∧ Kp [tg, pg] w2 W3)) (Lib.hid ⟨t3.kp' ((Kp.refl _ _).alloc _), k3.alloc _⟩) ?_
        intro W3 hW3
        obtain ⟨⟨y0, y1, y2, y3⟩, _⟩ := bk4r (HFC.out W3 hW3.out.2)
        clear t3 k3
        go_upto_region 9 with (go_at_call 23; ((refine splan_none hW3.out.1.tk rfl _ _ _ _ _ kd ?_); intro w4 k4))
        refine gen_worldC (fun W4 => Hid (TB w W4 tg pg ⟨rb, rv, none, false⟩)) (Lib.hid (hW3.out.1.kp' (k4.alloc _))) ?_
        intro W4 hW4
        clear k4 hW3 y0 y1 y2 y3
        go_wp2
        go_loopw [13] (fun iv wr => ∃ (i : Nat) (b : List UInt8) (ov : Bool), i ≤ n1 ∧ iv = .int .i64 i ∧ b.length ≤ 900 + 900 * i ∧ Hid (TB w wr tg pg ⟨b, ov, none, false⟩)) (fun iv _ => n1 - (intOf iv).toNat)
        case atStart => exact ⟨0, rb, rv, Nat.zero_le _, rfl, by omega, hW4⟩
        case round =>
          obtain ⟨i, b, ov, hi, rfl, hbl, hT⟩ := hrel
          by_cases hlt : i < n1
          · obtain ⟨y, hy⟩ : ∃ y, more[i]? = some y := ⟨_, List.getElem?_eq_getElem (by have := HL.out; omega)⟩
            obtain ⟨bb, off, rfl, _, _, hc⟩ := (HRM.out wr hT.out.kp) (by intro e; have := HL.out; simp at e; subst e; simp at this; omega)
            have y0 : wr.cell? ⟨bb, off + i, none⟩ = some (.string y) := hc i _ (by simp [hy])
            clear hc hy
            obtain ⟨e9, d9⟩ : ∃ c, decide ((900 : Int) < y.size) = c := ⟨_, rfl⟩
            cases e9 with
            | true =>
              go_wp2
              exact H.out _ hT.out.kp
            | false =>
              have yl : y.size ≤ 900 := (fun h9 : (y.size : Int) ≤ 900 => by omega) (by simpa using d9)
              obtain ⟨bw, cw, hcs, hbk, hbr⟩ := conv_rd y
              have HBK := Lib.hid hbk
              have HBR := Lib.hid hbr
              have xl : y.data.toList.length = y.size := by rw [Array.length_toList]; rfl
              clear hbk hbr
              go_wp2_with (go_at_call 20; ((refine sfeed_any (hT.out.tk.kp (HBK.out [] _ _ (Kp.refl [] _))) y.data.toList (HBR.out _ _ [] rfl (by simp)) xl (by simp only; omega) ?_); intro w5 t5 k5))
              refine ⟨⟨i + 1, _, ov, by omega, by go_num, ?_, Lib.hid ((hT.out.kp' (HBK.out [] _ _ (Kp.refl [] _))).step t5 k5)⟩, by simp [intOf]; omega⟩
              split
              · omega
              · simp only [List.length_append]; omega
          · obtain rfl : i = n1 := by omega
            go_wp2
            exact H.out _ hT.out.kp
      | some a =>
        have HA1 : Hid (∀ (R : Ending → World → Prop), (∀ A c w', TB w w' tg pg ⟨rb, rv, some a, false⟩ → Kp [tg, pg] w2 w' → R (.returned (.tuple #[.agg #[.string (S a.1), .int .i64 a.2.1, .string (S a.2.2.m), .string (S a.2.2.t), .int .i64 a.2.2.minor, .slice A a.2.2.fs.length c, .bool a.2.2.close], .bool true])) w') → Calls Tryz.prog 21 #[.pointer (some ⟨tg, 0, none⟩)] w2 R) := Lib.hid (fun R h => HAsk.out R (fun e => by cases e) (fun a' e A c w' t k => by injection e with e; subst e; exact h A c w' t k))
        have HA2 : Hid (∀ (R : Ending → World → Prop) (w1 : World) (b : List UInt8) (ov : Bool), TB w w1 tg pg ⟨b, ov, some a, false⟩ → (∀ A c w', TB w w' tg pg ⟨b, ov, some a, false⟩ → Kp [tg, pg] w1 w' → R (.returned (.tuple #[.agg #[.string (S a.1), .int .i64 a.2.1, .string (S a.2.2.m), .string (S a.2.2.t), .int .i64 a.2.2.minor, .slice A a.2.2.fs.length c, .bool a.2.2.close], .bool true])) w') → Calls Tryz.prog 21 #[.pointer (some ⟨tg, 0, none⟩)] w1 R) := Lib.hid (fun R w1 b ov t0 h => sask_any hw.ml t0 (fun e => by cases e) (fun e => by cases e) (fun a' e A c w' t k => by injection e with e; subst e; exact h A c w' t k))
        have HPl : Hid (∀ (R : Ending → World → Prop) (w1 : World) (b : List UInt8) (ov : Bool), TB w w1 tg pg ⟨b, ov, some a, false⟩ → (∀ A n c w', Kp [] w1 w' → Hid ((planT a true v mt len kd now).2.2.1.length = n) → R (.returned (.agg #[.int .i64 (planT a true v mt len kd now).1, .string (S (planT a true v mt len kd now).2.1), .slice A n c, .bool (planT a true v mt len kd now).2.2.2])) w') → Calls Tryz.prog 23 #[.pointer (some ⟨tg, 0, none⟩), .bool true, .agg #[.int .i64 v, .int .i64 mt, .int .i64 len, .string (S kd)], .int .i64 now] w1 R) := Lib.hid (fun R w1 b ov t0 h => splan_any hw t0 rfl (HOK.out a rfl) true v mt len now kd hvv hmm hll b7 (fun A n c w' k hh => h A n c w' k (Lib.hid hh.out.2.1)))
        obtain ⟨st, e1⟩ : ∃ st, (planT a true v mt len kd now).1 = st := ⟨_, rfl⟩
        obtain ⟨L, e2⟩ : ∃ L, (planT a true v mt len kd now).2.1 = L := ⟨_, rfl⟩
        obtain ⟨np, e3⟩ : ∃ n, (planT a true v mt len kd now).2.2.1.length = n := ⟨_, rfl⟩
        obtain ⟨cl, e4⟩ : ∃ cl, (planT a true v mt len kd now).2.2.2 = cl := ⟨_, rfl⟩
        rw [e1, e2, e3, e4] at HPl
        have HPn : Hid (∀ (R : Ending → World → Prop) (w1 : World) (b : List UInt8) (ov : Bool), TB w w1 tg pg ⟨b, ov, some a, false⟩ → (∀ A c w', Kp [] w1 w' → R (.returned (.agg #[.int .i64 st, .string (S L), .slice A np c, .bool cl])) w') → Calls Tryz.prog 23 #[.pointer (some ⟨tg, 0, none⟩), .bool true, .agg #[.int .i64 v, .int .i64 mt, .int .i64 len, .string (S kd)], .int .i64 now] w1 R) := Lib.hid (fun R w1 b ov t0 h => HPl.out R w1 b ov t0 (fun A n c w' k e => by have e5 := e.out; subst e5; exact h A c w' k))
        clear HAsk HOK HPl e1 e2 e3 e4
        go_upto_region 8 with (go_at_call 21; ((refine HA1.out _ ?_); intro A c w3 t3 k3))
        refine gen_worldC (fun W3 => ∃ ga, w3.heap.size = ga ∧ Hid (tg < ga ∧ pg < ga) ∧ Hid (TB w W3 tg pg ⟨rb, rv, some a, false⟩ ∧ Kp [tg, pg] w2 W3 ∧ Bk W3 ga 54 (askC a A c))) ⟨_, rfl, Lib.hid ⟨by obtain ⟨_, hb, _⟩ := t3.tk.tk; exact hb.lt, Bk.lt t3.tk.ps⟩, Lib.hid ⟨t3.kp' ((Kp.refl _ _).alloc _), k3.alloc _, (Bk.new' _ _ _).cast rfl⟩⟩ ?_
        rintro W3 ⟨ga, hga, hn3, hW3⟩
        rw [hga]
        obtain ⟨⟨y0, y1, y2, y3⟩, _⟩ := bk4r (HFC.out W3 hW3.out.2.1)
        clear t3 k3 hga
        go_upto_region 9 with (go_at_call 23; ((refine HPn.out _ _ _ _ hW3.out.1 ?_); intro B d w4 k4))
        refine gen_worldC (fun W4 => ∃ gp, w4.heap.size = gp ∧ Hid (StI w W4 tg pg ga gp ⟨rb, rv, some a, false⟩ a A c st L B np d cl ∧ Bk W4 gf 26 [.int .i64 v, .int .i64 mt, .int .i64 len, .string (S kd)])) ⟨_, rfl, Lib.hid ⟨⟨hW3.out.1.kp' (k4.alloc _), by have := hn3.out; omega, by have := hn3.out; omega, by have := hn3.out; have := hW3.out.2.2.lt; have := k4.size; omega, by have := hn3.out; have := hW3.out.2.2.lt; have := k4.size; omega, (hW3.out.2.2.kp k4 (by simp)).alloc _, (Bk.new' _ _ _).cast rfl⟩, ((HFC.out W3 hW3.out.2.1).kp k4 (by simp)).alloc _⟩⟩ ?_
        rintro W4 ⟨gp, hgp, hW4⟩
        rw [hgp]
        clear k4 hW3 y0 y1 y2 y3 hgp hn3
        have f1 : (a.1 == a.1) = true := by simp
        have f2 : (a.1 != a.1) = false := by simp
        have f3 : (a.2.1 != a.2.1) = false := by simp
        have f4 : (a.2.2.t == a.2.2.t) = true := by simp
        have f5 : (a.2.2.t != a.2.2.t) = false := by simp
        have f6 : (L == L) = true := by simp
        have f7 : (L != L) = false := by simp
        have f8 : ((np : Int) != np) = false := by simp
        go_wp2
        go_loopw [13] (fun iv wr => ∃ (i : Nat) (b : List UInt8) (ov : Bool), i ≤ n1 ∧ iv = .int .i64 i ∧ b.length ≤ 900 + 900 * i ∧ Hid (StI w wr tg pg ga gp ⟨b, ov, some a, false⟩ a A c st L B np d cl ∧ Bk wr gf 26 [.int .i64 v, .int .i64 mt, .int .i64 len, .string (S kd)])) (fun iv _ => n1 - (intOf iv).toNat)
        case atStart => exact ⟨0, rb, rv, Nat.zero_le _, rfl, by omega, hW4⟩
        case round =>
          obtain ⟨i, b, ov, hi, rfl, hbl, hT⟩ := hrel
          by_cases hlt : i < n1
          · obtain ⟨y, hy⟩ : ∃ y, more[i]? = some y := ⟨_, List.getElem?_eq_getElem (by have := HL.out; omega)⟩
            obtain ⟨bb, off, rfl, _, _, hc⟩ := (HRM.out wr hT.out.1.1.kp) (by intro e; have := HL.out; simp at e; subst e; simp at this; omega)
            have y0 : wr.cell? ⟨bb, off + i, none⟩ = some (.string y) := hc i _ (by simp [hy])
            clear hc hy
            obtain ⟨e9, d9⟩ : ∃ c, decide ((900 : Int) < y.size) = c := ⟨_, rfl⟩
            cases e9 with
            | true =>
              go_wp2
              exact H.out _ hT.out.1.1.kp
            | false =>
              have yl : y.size ≤ 900 := (fun h9 : (y.size : Int) ≤ 900 => by omega) (by simpa using d9)
              obtain ⟨bw, cw, hcs, hbk, hbr⟩ := conv_rd y
              have HBK := Lib.hid hbk
              have HBR := Lib.hid hbr
              have xl : y.data.toList.length = y.size := by rw [Array.length_toList]; rfl
              clear hbk hbr
              go_upto_region 15 with (go_at_call 20; ((refine sfeed_any (hT.out.1.1.tk.kp (HBK.out [] _ _ (Kp.refl [] _))) y.data.toList (HBR.out _ _ [] rfl (by simp)) xl (by simp only; omega) ?_); intro w5 t5 k5))
              obtain ⟨b', hb'⟩ : ∃ b', (if (false || ov) = true then b else b ++ y.data.toList) = b' := ⟨_, rfl⟩
              have hbl' : b'.length ≤ 900 + 900 * (i + 1) := by
                rw [← hb']
                split
                · omega
                · simp only [List.length_append]; omega
              have hT5 : Hid (StI w w5 tg pg ga gp ⟨b', ov, some a, false⟩ a A c st L B np d cl ∧ Bk w5 gf 26 [.int .i64 v, .int .i64 mt, .int .i64 len, .string (S kd)]) := Lib.hid (by
                have t6 : Tk w5 tg pg ⟨b', ov, some a, false⟩ := by rw [← hb']; exact t5
                have hx := hT.out.1.kp' (HBK.out [] _ _ (Kp.refl [] _))
                exact ⟨hx.step (hx.1.step t6 k5) k5, (hT.out.2.kp (HBK.out [] _ _ (Kp.refl [] _)) (by simp)).kp k5 (by have := HGF.out; simp; omega)⟩)
              clear t5 k5 hT y0 hb' xl hcs HBK HBR yl d9
              go_upto_region 17 with (go_at_call 21; ((refine HA2.out _ _ _ _ hT5.out.1.1 ?_); intro A6 c6 w6 t6 k6))
              refine gen_worldC (fun W => ∃ g6, w6.heap.size = g6 ∧ Hid (StI w W tg pg ga gp ⟨b', ov, some a, false⟩ a A c st L B np d cl ∧ Bk W gf 26 [.int .i64 v, .int .i64 mt, .int .i64 len, .string (S kd)] ∧ Bk W g6 54 (askC a A6 c6))) ⟨_, rfl, Lib.hid ⟨(hT5.out.1.step t6 k6).kp' ((Kp.refl _ _).alloc _), (hT5.out.2.kp k6 (by have := HGF.out; simp; omega)).alloc _, (Bk.new' _ _ _).cast rfl⟩⟩ ?_
              rintro W6 ⟨g6, hg6, hW6⟩
              rw [hg6]
              obtain ⟨⟨y0, y1, y2, y3⟩, _⟩ := bk4r hW6.out.2.1
              clear t6 k6 hg6 hT5
              go_upto_region 18 with (go_at_call 23; ((refine HPn.out _ _ _ _ hW6.out.1.1 ?_); intro B7 d7 w7 k7))
              refine gen_worldC (fun W => ∃ g7, w7.heap.size = g7 ∧ Hid (StI w W tg pg ga gp ⟨b', ov, some a, false⟩ a A c st L B np d cl ∧ Bk W gf 26 [.int .i64 v, .int .i64 mt, .int .i64 len, .string (S kd)] ∧ Bk W g6 54 (askC a A6 c6) ∧ Bk W g7 31 [.int .i64 st, .string (S L), .slice B7 np d7, .bool cl])) ⟨_, rfl, Lib.hid ⟨hW6.out.1.kp' (k7.alloc _), (hW6.out.2.1.kp k7 (by simp)).alloc _, (hW6.out.2.2.kp k7 (by simp)).alloc _, (Bk.new' _ _ _).cast rfl⟩⟩ ?_
              rintro W7 ⟨g7, hg7, hW7⟩
              rw [hg7]
              clear k7 hg7 hW6 y0 y1 y2 y3
              obtain ⟨u0, u1, u3, v1', v2', _, _⟩ := hW7.out.1.cells
              have u6 : W7.cell? ⟨g6, 0, none⟩ = some (.string (S a.1)) := hW7.out.2.2.1.cell 0
              have u7 : W7.cell? ⟨g6, 1, none⟩ = some (.int .i64 a.2.1) := hW7.out.2.2.1.cell 1
              have u8 : W7.cell? ⟨g6, 3, none⟩ = some (.string (S a.2.2.t)) := hW7.out.2.2.1.cell 3
              have v6 : W7.cell? ⟨g7, 1, none⟩ = some (.string (S L)) := hW7.out.2.2.2.cell 1
              have v7 : W7.cell? ⟨g7, 2, none⟩ = some (.slice B7 np d7) := hW7.out.2.2.2.cell 2
              go_wp2
              exact ⟨⟨i + 1, b', ov, by omega, by go_num, hbl', Lib.hid ⟨hW7.out.1, hW7.out.2.1⟩⟩, by simp [intOf]; omega⟩
          · obtain rfl : i = n1 := by omega
            have HD : Hid (∀ (R : Ending → World → Prop), (∀ w', TB w w' tg pg ⟨b, ov, none, endsB a⟩ → Kp [tg, pg] wr w' → R (.returned (.tuple #[])) w') → Calls Tryz.prog 26 #[.pointer (some ⟨tg, 0, none⟩)] wr R) := Lib.hid (fun R h => sdone_any hT.out.1.1 (fun w' t k => h w' t k))
            obtain ⟨en, hen⟩ : ∃ en, endsB a = en := ⟨_, rfl⟩
            rw [hen] at HD
            cases en with
            | false =>
              go_wp2_with (first | (go_at_call 26; ((refine HD.out _ ?_); intro w5 t5 k5)) | (go_at_call 27; (refine sover_any t5.tk ?_)))
              exact H.out _ t5.kp
            | true =>
              go_wp2_with (first | (go_at_call 26; ((refine HD.out _ ?_); intro w5 t5 k5)) | (go_at_call 27; (refine sover_any t5.tk ?_)) | (go_at_call 21; ((refine sask_overE hw.ml t5 ?_); intro w6 t6)))
              exact H.out _ (t6.kp.alloc _)
end
end
/-! ### ServeStays: what comes in, opened. -/
section
open Go.RowKit Go.Shelf Go.ChangeShapes Go.WideShapes Go.ChangeAt Go.Deep
set_option linter.unusedVariables false
set_option linter.unusedSimpArgs false
set_option maxRecDepth 100000
def i64F (n : Int) : Prop := -9223372036854775808 ≤ n ∧ n ≤ 9223372036854775807
theorem i64_bdF {m : Int} (h : (Lit.int .i64 m).wf = true) : i64F m := by
  simp [Lit.wf, IntKind.min, IntKind.max, IntKind.signed, IntKind.bits] at h
  unfold i64F
  omega
structure FileA where
  v : Int
  mt : Int
  len : Int
  kd : ByteArray
def FileA.vals (x : FileA) : List Value := [.int .i64 x.v, .int .i64 x.mt, .int .i64 x.len, .string x.kd]
section
variable {H : Type} {enc : TypeId × Value → H} {W : World}
theorem opn_file27 : Opn enc Tryz.prog W 26 FileA.vals (fun x => i64F x.v ∧ i64F x.mt ∧ i64F x.len) := ⟨fun fuel cs x h => by
  obtain ⟨xs, n, _, _, hlen, hxl, hg⟩ := DataW.trod_struct Tryz.underlying26 h
  have hK : Tryz.prog.cellsOf 26 = 4 := by kernel_rfl
  have hI : Tryz.prog.cellsOf 3 = 1 := by kernel_rfl
  have hJ : Tryz.prog.cellsOf 2 = 1 := by kernel_rfl
  have hS : Tryz.prog.cellsOf 9 = 1 := by kernel_rfl
  rw [hK] at hlen
  match cs, hlen with
  | [c0, c1, c2, c3], _ =>
    obtain ⟨m0, rfl, h0⟩ := fld_int hg hxl 0 rfl hI Tryz.underlying3 rfl
    obtain ⟨m1, rfl, h1⟩ := fld_int hg hxl 1 rfl hJ Tryz.underlying2 rfl
    obtain ⟨m2, rfl, h2⟩ := fld_int hg hxl 2 rfl hI Tryz.underlying3 rfl
    obtain ⟨m3, rfl, h3⟩ := fld_string hg hxl 3 rfl hS Tryz.underlying9 rfl
    exact ⟨⟨m0, m1, m2, m3⟩, rfl, i64_bdF h0, i64_bdF h1, i64_bdF h2⟩⟩
theorem top_agg {t base : Nat} {fs : Array Field} {α : Type} {vals : α → List Value} {ok : α → Prop} (ht : Tryz.prog.underlying t = some (.struct fs)) (O : Opn enc Tryz.prog W t vals ok) {v : Value} {d : DataW H} {p : List MemPlace}
    (hv : Value.okWide Tryz.prog W .any base t v) (h : DataW.Trod enc Tryz.prog W 0 (fun _ => true) true t v d p) : ∃ a, v = .agg (vals a).toArray ∧ ok a := by
  obtain ⟨cs, rfl, hsz⟩ := okWide_struct ht hv
  obtain ⟨fuel, hf⟩ := h
  obtain ⟨a, ha, hok⟩ := O.op _ _ _ hf
  refine ⟨a, ?_, hok⟩
  congr 1
  rw [← ha]
  simp [Value.cells]
end
theorem stays_top {R : Ending → World → Prop} {W : World} (x : ByteArray) (s : Sin ByteArray) (f : FileA) (now : Int) (ws : Sin.ok W (fun s : ByteArray => [Value.string s]) (fun s => s.size ≤ maxLen) s) (wf : i64F f.v ∧ i64F f.mt ∧ i64F f.len) (hw : Lw W) (h : ∀ w', Kp [] W w' → R (.returned (.bool true)) w') :
    Calls Tryz.prog 6 #[.string x, .slice s.A s.n s.c, .agg f.vals.toArray, .int .i64 now] W R := by
  have e : f.kd = S f.kd.data.toList := S_eta _
  unfold FileA.vals
  rw [e]
  refine stays_walk x s.l f.v f.mt f.len f.kd.data.toList now (by have := ws.rd; rwa [show s.l.flatMap (fun s : ByteArray => [Value.string s]) = s.l.map Value.string from by induction s.l with | nil => rfl | cons y l ih => simp only [List.flatMap_cons, List.map_cons, ih]; rfl] at this) ws.len wf.1 wf.2.1 wf.2.2 hw h
end
/-! ### Arguments opened to lists, and what the bound of the second form says of them: strings, fields, requests. -/
section
open Go.ChangeShapes Go.WideShapes Go.ChangeAt Go.RowKit Go.Deep
set_option linter.unusedVariables false
set_option linter.unusedSimpArgs false

theorem bulk_app {H : Type} (l r : List (DataW H)) : Rows.uptoBulkAll (l ++ r) = Rows.uptoBulkAll l + Rows.uptoBulkAll r := by
  induction l with
  | nil => simp [Rows.uptoBulkAll]
  | cons x l ih => simp only [List.cons_append, Rows.uptoBulkAll, ih]; omega
section
variable {H : Type} {enc : TypeId × Value → H} {P : Program} {W : World}
/-- Whatever reads as type t is 'vals' of some a, 'ok' holds of it, and it is no longer than the reading's bulk. -/
structure OpnS (enc : TypeId × Value → H) (P : Program) (W : World) (t : Nat) {α : Type} (vals : α → List Value) (ok : α → Prop) (sz : α → Nat) : Prop where
  op : ∀ fuel cs x, DataW.trod enc P W 0 (fun _ => true) true fuel t cs = some x → ∃ a, cs = vals a ∧ ok a ∧ sz a ≤ Rows.uptoBulk x.1
theorem opnS_string {t : Nat} (ht : P.underlying t = some .string) : OpnS enc P W t (fun s => [.string s]) (fun s => s.size ≤ maxLen) (fun s => s.size + 1) :=
  ⟨fun fuel cs x h => by
    obtain ⟨n, hc, hx, hw⟩ := DataW.trod_string ht h
    refine ⟨n, hc, hw, ?_⟩
    subst hx
    simp only [Rows.uptoBulk, Array.length_toList]
    exact Nat.le_refl _⟩
theorem opnS_pair {t : Nat} {f0 f1 : Field} (ht : P.underlying t = some (.struct #[f0, f1])) (hc : P.cellsOf t = 2) (o0 : f0.offset = 0) (o1 : f1.offset = 1) (c0 : P.cellsOf f0.type = 1) (c1 : P.cellsOf f1.type = 1)
    (t0 : P.underlying f0.type = some .string) (t1 : P.underlying f1.type = some .string) : OpnS enc P W t (fun s : ByteArray × ByteArray => [.string s.1, .string s.2]) (fun s => s.1.size ≤ maxLen ∧ s.2.size ≤ maxLen) (fun s => s.1.size + s.2.size + 3) :=
  ⟨fun fuel cs x h => by
    obtain ⟨y0, y1, n, rfl, hl, h0, h1⟩ := trod_struct2 ht h
    rw [hc] at hl
    match cs, hl with
    | [a, b], _ =>
      rw [o0, c0] at h0
      rw [o1, c1] at h1
      obtain ⟨s0, e0, k0, z0⟩ := (opnS_string t0).op _ _ _ h0
      obtain ⟨s1, e1, k1, z1⟩ := (opnS_string t1).op _ _ _ h1
      simp at e0 e1
      subst e0; subst e1
      refine ⟨(s0, s1), rfl, ⟨k0, k1⟩, ?_⟩
      simp only [Rows.uptoBulk, Rows.uptoBulkAll]
      omega⟩
theorem opnS_slice {t e K : Nat} {α : Type} {vals : α → List Value} {ok : α → Prop} {sz : α → Nat} (ht : P.underlying t = some (.slice e)) (hK : P.cellsOf e = K) (hv : ∀ a, (vals a).length = K) (he : OpnS enc P W e vals ok sz) :
    OpnS enc P W t (Sin.vals (α := α)) (Sin.ok W vals ok) (fun s => (s.l.map sz).sum) := ⟨fun fuel cs x h => by
  rcases open_slice ht h with ⟨rfl, rfl⟩ | ⟨a, len, cap, m, n, D, Pl, rfl, _, hl, hm, hmm, rfl, hi⟩
  · exact ⟨⟨none, 0, 0, []⟩, rfl, ⟨rfl, Nat.le_refl _, Nat.zero_le _, by simp, Rd.nil, fun _ => ⟨rfl, rfl⟩⟩, by simp⟩
  · simp only [if_true] at hmm
    subst hmm
    have hex : ∀ i, i < len → ∃ y, (ok y ∧ ∀ j, j < K → W.cell? ((a.add (i * K)).add j) = (vals y)[j]?) ∧ sz y ≤ Rows.uptoBulk (D i) := by
      intro i hil
      obtain ⟨cs', hc, htr⟩ := hi i (by omega)
      obtain ⟨y, rfl, hy, hz⟩ := he.op _ _ _ htr
      obtain ⟨_, hcl, hat⟩ := World.cells?_some hc
      rw [hK] at hat
      exact ⟨y, ⟨hy, hat⟩, hz⟩
    have hlist : ∀ k, k ≤ len → ∃ l : List α, l.length = k ∧ (∀ i y, l[i]? = some y → ok y ∧ ∀ j, j < K → W.cell? ((a.add (i * K)).add j) = (vals y)[j]?) ∧ (l.map sz).sum ≤ Rows.uptoBulkAll ((List.range k).map D) := by
      intro k
      induction k with
      | zero => intro _; exact ⟨[], rfl, by simp, by simp⟩
      | succ k ih =>
        intro hk
        obtain ⟨l, hl', hl2, hl3⟩ := ih (by omega)
        obtain ⟨y, hy, hz⟩ := hex k (by omega)
        refine ⟨l ++ [y], by simp [hl'], fun i z hz => ?_, ?_⟩
        · rcases Nat.lt_or_ge i l.length with h' | h'
          · rw [List.getElem?_append_left h'] at hz; exact hl2 i z hz
          · rw [List.getElem?_append_right h'] at hz
            have hil : i - l.length = 0 := by
              rcases Nat.eq_zero_or_pos (i - l.length) with e | e
              · exact e
              · rw [List.getElem?_eq_none (by simp; omega)] at hz; cases hz
            have hi' : i = k := by omega
            rw [hil] at hz
            simp at hz
            subst hz
            subst hi'
            exact hy
        · simp only [List.range_succ, List.map_append, bulk_app, List.map_cons, List.map_nil, List.sum_append, List.sum_cons, List.sum_nil, Rows.uptoBulkAll]
          omega
    obtain ⟨l, hll, hla, hls⟩ := hlist len (Nat.le_refl _)
    refine ⟨⟨some a, len, _, l⟩, rfl, ⟨hll, hl, hm, ?_, ?_, fun h => by cases h⟩, by simp only [Rows.uptoBulk]; omega⟩
    · intro y hy
      obtain ⟨i, hi'⟩ := List.getElem?_of_mem hy
      exact (hla i y hi').1
    · intro hne
      have hKp : 0 < K := by
        rcases Nat.eq_zero_or_pos K with h0 | h0
        · exfalso; apply hne
          apply List.eq_nil_of_length_eq_zero
          rw [flat_len hv, h0, Nat.mul_zero]
        · exact h0
      have hl0 : 0 < l.length := by
        cases l with
        | nil => exact absurd rfl hne
        | cons => simp
      have hcell : ∀ j u, (l.flatMap vals)[j]? = some u → W.cell? (a.add j) = some u := by
        intro j u hu
        have hj : j < l.length * K := by
          rcases Nat.lt_or_ge j (l.length * K) with h | h
          · exact h
          · rw [List.getElem?_eq_none (by rw [flat_len hv]; exact h)] at hu; cases hu
        have hq : j / K < l.length := Nat.div_lt_of_lt_mul (by rw [Nat.mul_comm]; exact hj)
        have hm' : j % K < K := Nat.mod_lt _ hKp
        have e : j / K * K + j % K = j := Nat.div_add_mod' j K
        have hx : l[j / K]? = some l[j / K] := List.getElem?_eq_getElem hq
        have h2 := (hla _ _ hx).2 _ hm'
        rw [← e, flat_get hv hx hm'] at hu
        rw [Go.Deep.add_add, e] at h2
        rw [h2]; exact hu
      obtain ⟨u0, hu0⟩ : ∃ u, (l.flatMap vals)[0]? = some u := ⟨_, List.getElem?_eq_getElem (by rw [flat_len hv]; exact Nat.mul_pos hl0 hKp)⟩
      have h0 := hcell 0 u0 hu0
      have ha0 : a.add 0 = a := rfl
      rw [ha0] at h0
      have hs : a.spot = none := by
        unfold World.cell? at h0
        split at h0
        · cases hsp : a.spot with
          | none => rfl
          | some _ => simp [hsp] at h0
        · cases h0
      obtain ⟨b, off, sp⟩ := a
      simp only at hs
      subst hs
      refine ⟨b, off, rfl, by simp, World.block_lt_of_cell? W _ h0, fun j u hu => ?_⟩
      have := hcell j u hu
      have e : (⟨b, off, none⟩ : Addr).add j = ⟨b, off + j, none⟩ := by unfold Addr.add; split <;> simp_all
      rwa [e] at this⟩
end
/-- A field's two texts. -/
def fdB (s : ByteArray × ByteArray) : Fd := (s.1.data.toList, s.2.data.toList)
set_option maxRecDepth 100000 in
/-- A request that came in, and its bulk. -/
theorem top_request {H : Type} {enc : TypeId × Value → H} {W : World} {base : Nat} {v : Value} {d : DataW H} {p : List MemPlace} (hv : Value.okWide Tryz.prog W .any base 24 v) (h : DataW.Trod enc Tryz.prog W 0 (fun _ => true) true 24 v d p) :
    ∃ (m t : ByteArray) (minor : Int) (s : Sin (ByteArray × ByteArray)) (cl : Bool), v = .agg #[.string m, .string t, .int .i64 minor, .slice s.A s.n s.c, .bool cl] ∧
      Sin.ok W (fun s : ByteArray × ByteArray => [Value.string s.1, Value.string s.2]) (fun s => s.1.size ≤ maxLen ∧ s.2.size ≤ maxLen) s ∧ (s.l.map fun s => s.1.size + s.2.size + 3).sum ≤ Rows.uptoBulk d := by
  obtain ⟨cs, rfl, hsz⟩ := okWide_struct Tryz.underlying24 hv
  obtain ⟨fuel, hf⟩ := h
  obtain ⟨xs, n, _, hx, hl, hxl, hg⟩ := DataW.trod_struct Tryz.underlying24 hf
  have hc5 : Tryz.prog.cellsOf 24 = 5 := by kernel_rfl
  have hc1 : Tryz.prog.cellsOf 9 = 1 := by kernel_rfl
  have hc2 : Tryz.prog.cellsOf 3 = 1 := by kernel_rfl
  have hc3 : Tryz.prog.cellsOf 22 = 1 := by kernel_rfl
  have hc4 : Tryz.prog.cellsOf 4 = 1 := by kernel_rfl
  rw [hc5] at hsz
  obtain ⟨l, hl5⟩ : ∃ l, cs = l.toArray := ⟨cs.toList, by simp⟩
  subst hl5
  match l, hsz with
  | [c0, c1, c2, c3, c4], _ =>
    match xs, hxl with
    | [x0, x1, x2, x3, x4], _ =>
      have g0 : DataW.trod enc Tryz.prog W 0 (fun _ => true) true n 9 (([c0, c1, c2, c3, c4].drop 0).take (Tryz.prog.cellsOf 9)) = some x0 := hg 0 _ rfl
      rw [hc1] at g0
      replace g0 : DataW.trod enc Tryz.prog W 0 (fun _ => true) true n 9 [c0] = some x0 := g0
      have g1 : DataW.trod enc Tryz.prog W 0 (fun _ => true) true n 9 (([c0, c1, c2, c3, c4].drop 1).take (Tryz.prog.cellsOf 9)) = some x1 := hg 1 _ rfl
      rw [hc1] at g1
      replace g1 : DataW.trod enc Tryz.prog W 0 (fun _ => true) true n 9 [c1] = some x1 := g1
      have g2 : DataW.trod enc Tryz.prog W 0 (fun _ => true) true n 3 (([c0, c1, c2, c3, c4].drop 2).take (Tryz.prog.cellsOf 3)) = some x2 := hg 2 _ rfl
      rw [hc2] at g2
      replace g2 : DataW.trod enc Tryz.prog W 0 (fun _ => true) true n 3 [c2] = some x2 := g2
      have g3 : DataW.trod enc Tryz.prog W 0 (fun _ => true) true n 22 (([c0, c1, c2, c3, c4].drop 3).take (Tryz.prog.cellsOf 22)) = some x3 := hg 3 _ rfl
      rw [hc3] at g3
      replace g3 : DataW.trod enc Tryz.prog W 0 (fun _ => true) true n 22 [c3] = some x3 := g3
      have g4 : DataW.trod enc Tryz.prog W 0 (fun _ => true) true n 4 (([c0, c1, c2, c3, c4].drop 4).take (Tryz.prog.cellsOf 4)) = some x4 := hg 4 _ rfl
      rw [hc4] at g4
      replace g4 : DataW.trod enc Tryz.prog W 0 (fun _ => true) true n 4 [c4] = some x4 := g4
      obtain ⟨m, e0, -, -⟩ := DataW.trod_string Tryz.underlying9 g0
      obtain ⟨t, e1, -, -⟩ := DataW.trod_string Tryz.underlying9 g1
      obtain ⟨mi, e2, -, -⟩ := DataW.trod_int Tryz.underlying3 g2
      obtain ⟨s, e3, k3, z3⟩ := (opnS_slice (K := 2) Tryz.underlying22 (by kernel_rfl) (fun _ => rfl) (opnS_pair Tryz.underlying80 (by kernel_rfl) rfl rfl hc1 hc1 Tryz.underlying9 Tryz.underlying9)).op _ _ _ g3
      obtain ⟨cl, e4, -⟩ := DataW.trod_bool Tryz.underlying4 g4
      simp [Sin.vals] at e0 e1 e2 e3 e4
      subst e0; subst e1; subst e2; subst e3; subst e4
      refine ⟨m, t, mi, s, cl, rfl, k3, ?_⟩
      have hd : d = .agg [x0.1, x1.1, x2.1, x3.1, x4.1] := by have := congrArg Prod.fst hx; simpa using this
      rw [hd]
      simp only [Rows.uptoBulk, Rows.uptoBulkAll]
      omega
end
/-! ### All values of a name are no longer than the request's bulk. -/
section
open Go.RowKit
set_option linter.unusedVariables false
set_option linter.unusedSimpArgs false

theorem join_le (sep : List UInt8) : ∀ xs : List (List UInt8), (Lib.join xs sep).length ≤ (xs.map fun x => x.length + sep.length).sum
  | [] => by simp [Lib.join_nil]
  | [x] => by rw [Lib.join_one]; simp
  | x :: y :: r => by
    have ih := join_le sep (y :: r)
    rw [Lib.join_cons] at ih ⊢
    simp only [Lib.joinTail, List.map_cons, List.flatten_cons, List.length_append, List.sum_cons] at ih ⊢
    omega
theorem vals_le (name : List UInt8) (k : Nat) : ∀ fs : List Fd, ((valsF fs name).map fun x => x.length + k).sum ≤ (fs.map fun f => f.2.length + k).sum
  | [] => by simp [valsF]
  | f :: r => by
    have ih := vals_le name k r
    unfold valsF at ih ⊢
    by_cases h : (f.1 == name) = true
    · rw [List.filter_cons, if_pos h]; simp only [List.map_cons, List.sum_cons]; omega
    · rw [List.filter_cons, if_neg h]; simp only [List.map_cons, List.sum_cons]; omega
theorem all_le (fs : List Fd) (name : List UInt8) : (allF fs name).length ≤ (fs.map fun f => f.2.length + 2).sum := by
  have h1 : (Lib.join (valsF fs name) [44, 32]).length ≤ ((valsF fs name).map fun x => x.length + 2).sum := join_le [44, 32] (valsF fs name)
  have h2 := vals_le name 2 fs
  unfold allF
  omega
theorem sum_at {α : Type} (g : α → Nat) : ∀ (l : List α) (x : α), x ∈ l → g x ≤ (l.map g).sum
  | y :: r, x, h => by
    simp only [List.map_cons, List.sum_cons]
    rcases List.mem_cons.1 h with rfl | h
    · omega
    · have := sum_at g r x h; omega
theorem fd_sum (l : List (ByteArray × ByteArray)) : ((l.map fdB).map fun f => f.2.length + 2).sum ≤ (l.map fun s => s.1.size + s.2.size + 3).sum := by
  induction l with
  | nil => simp
  | cons s l ih =>
    have e : (fdB s).2.length = s.2.size := by unfold fdB; rw [Array.length_toList]; rfl
    simp only [List.map_cons, List.sum_cons]
    omega
theorem flat_fd (l : List (ByteArray × ByteArray)) : l.flatMap (fun s => [Value.string s.1, Value.string s.2]) = (l.map fdB).flatMap fldC := by
  rw [List.flatMap_map]
  simp only [fldC, fdB, ← S_eta]
end
end Go.Proofs.YtnmafahbdfilcaaGreatDoor
