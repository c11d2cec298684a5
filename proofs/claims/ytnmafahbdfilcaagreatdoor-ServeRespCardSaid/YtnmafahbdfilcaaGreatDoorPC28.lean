/- serve: the chapter's example in plain words. Package request: the chapter's example. A string's bytes: the conversion's world as a letter. ServeNil, walked. serve in plain words: the fields of what is asked are few and short. ServeStays, walked. -/
import Derived.Test.YtnmafahbdfilcaaGreatDoorPC27
import Derived.Test.YtnmafahbdfilcaaGreatDoorPC21
import Derived.Test.YtnmafahbdfilcaaGreatDoorPC18
import Derived.Test.YtnmafahbdfilcaaGreatDoorPC2
import Derived.Deep.CutBlock
import Derived.Deep.DeepCutAuto
namespace Go.Proofs.YtnmafahbdfilcaaGreatDoor
/-! ### serve: the chapter's example in plain words. -/
section
open Go.RowKit Go.Shelf
set_option linter.unusedVariables false
set_option maxRecDepth 100000
def alvB : List UInt8 := [71, 69, 84, 32, 47, 97, 32, 72, 84, 84, 80, 47, 49, 46, 48, 13, 10, 13, 10]
def alvR : Req := ⟨[71, 69, 84], [47, 97], 0, [], true⟩
theorem alv_next : nxt alvB false = (alvR, 0, [], false) := by rfl
theorem alv_of : ofL [47, 97] = ([97], 0) := by rfl
theorem alv_op : nxtOp alvB false = some ([97], 0, alvR) := by unfold nxtOp; rw [alv_next]; simp only [alvR, alv_of]; rfl
theorem alv_choose (v mt len : Int) : chooseM alvR false v mt len = (404, []) := by unfold chooseM; rfl
end
/-! ### Package request: the chapter's example. -/
section
open Go.RowKit Go.Shelf
set_option linter.unusedVariables false
set_option linter.unusedSimpArgs false
set_option maxRecDepth 100000

def aliveB : List UInt8 := [71, 69, 84, 32, 47, 32, 72, 84, 84, 80, 47, 49, 46, 49, 13, 10, 72, 111, 115, 116, 58, 32, 97, 13, 10, 13, 10]
def aliveR : Req := ⟨[71, 69, 84], [47], 1, [([104, 111, 115, 116], [97])], false⟩
theorem next_alive : nextF aliveB = (aliveR, 0, [], false) := by
  have h1 : headF (aliveB.length + 1) aliveB.length [] aliveB = ([[71, 69, 84, 32, 47, 32, 72, 84, 84, 80, 47, 49, 46, 49], [72, 111, 115, 116, 58, 32, 97]], [], 0) := by decide +kernel
  have h2 : firstL [71, 69, 84, 32, 47, 32, 72, 84, 84, 80, 47, 49, 46, 49] = some ([71, 69, 84], [47], 49, 49) := by decide +kernel
  have h3 : fieldsL [[72, 111, 115, 116, 58, 32, 97]] = some [([104, 111, 115, 116], [97])] := by decide +kernel
  have h4 : ofFs [71, 69, 84] [47] 1 [([104, 111, 115, 116], [97])] = (aliveR, 0) := by
    unfold ofFs
    rw [if_neg (by decide +kernel), if_neg (by decide +kernel), if_neg (by decide +kernel), if_neg (by decide +kernel), show closesF [([104, 111, 115, 116], [97])] 1 = false by decide +kernel]; rfl
  have h5 : ofF [[71, 69, 84, 32, 47, 32, 72, 84, 84, 80, 47, 49, 46, 49], [72, 111, 115, 116, 58, 32, 97]] = (aliveR, 0) := by
    rw [ofF, h2]
    simp only
    rw [if_neg (by decide), if_neg (by decide), h3]
    exact h4
  unfold nextF
  rw [h1]
  simp only
  rw [h5]
  rfl
theorem bytes_rd {w : World} {g f1 f2 : Nat} {l : List UInt8} {C : Array Value} (hC : C = (bts l).toArray) (hf : l.length ≤ f1 := by decide) (hg : g = w.heap.size := by rfl) : Rd (w.alloc (.cells C 5 (f1, f2))) [] (some ⟨g, 0, none⟩) (bts l) := by
  subst hg; subst hC
  exact Bf.rd ⟨f1, f2, heap_alloc_new w _, by rw [bts_len]; exact hf⟩
theorem next_nil : nextF [] = (noReq, -1, [], false) := rfl
theorem next_lit1 {R : Ending → World → Prop} {w : World} {g : Nat} (hm : Ml w) (hp : Ps w g aliveB false)
    (h : ∀ A c w', Ps w' g [] false → Kp [g] w w' → R (.returned (.tuple #[.agg #[.string (S [71, 69, 84]), .string (S [47]), .int .i64 1, .slice A 1 c, .bool false], .int .i64 0])) w') : Calls Tryz.prog 40 #[.pointer (some ⟨g, 0, none⟩)] w R :=
  next_any hm hp (by decide) (by rw [next_alive]; exact fun A c w' h1 h2 _ _ _ => h A c w' h1 h2)
theorem next_lit2 {R : Ending → World → Prop} {w : World} {g : Nat} (hm : Ml w) (hp : Ps w g [] false)
    (h : ∀ A c w', Ps w' g [] false → Kp [g] w w' → R (.returned (.tuple #[.agg #[.string (S []), .string (S []), .int .i64 0, .slice A 0 c, .bool false], .int .i64 (-1)])) w') : Calls Tryz.prog 40 #[.pointer (some ⟨g, 0, none⟩)] w R :=
  next_any hm hp (by decide) (by rw [next_nil]; exact fun A c w' h1 h2 _ _ _ => h A c w' h1 h2)
end
/-! ### A string's bytes: the conversion's world as a letter. -/
section
open Go.RowKit
set_option linter.unusedVariables false
theorem conv_rd (s : ByteArray) : ∃ (bw : World → World) (cw : World → Nat), (∀ W, (convert 9 52 (.string s)).run Tryz.prog W = .ok (.slice (some ⟨W.heap.size, 0, none⟩) s.size (cw W)) (bw W)) ∧
    (∀ (S : List Nat) (a w : World), Kp S a w → Kp S a (bw w)) ∧ (∀ (w : World) (b : Nat) (N : List Nat), b = w.heap.size → b ∉ N → Rd (bw w) N (some ⟨b, 0, none⟩) (bts s.data.toList)) :=
  ⟨fun W => Lib.bytesWorld W 5 s, fun W => grownCap W s.size 0 5, fun W => conv_sb W s, fun S a w k => k.bytesWorld _ _, fun w b N hb hN => rd_bytesWorld w _ s hb hN⟩
end
/-! ### ServeNil, walked. -/
section
open Go.RowKit Go.Shelf
set_option linter.unusedVariables false
set_option linter.unusedSimpArgs false
set_option maxRecDepth 100000
def alvA : AskP := ([97], 0, alvR)
theorem alv_ask1 : askS ⟨alvB, false, none, false⟩ = (⟨[], false, some alvA, false⟩, some alvA) := by
  unfold askS
  rw [if_neg (by simp)]
  simp only [alv_next, alv_op, alvA]
theorem alv_ask2 : askS ⟨[], false, some alvA, false⟩ = (⟨[], false, some alvA, false⟩, some alvA) := rfl
theorem alv_done : doneS ⟨[], false, some alvA, false⟩ = ⟨[], false, none, true⟩ := by unfold doneS; rfl
theorem alv_plan : (planT alvA false 0 0 0 [] (-1)).1 = 404 := by
  have h0 : alvA.2.1 = 0 := rfl
  unfold planT
  rw [if_pos h0]
  exact congrArg Prod.fst (alv_choose 0 0 0)
theorem alv_ok : okR alvA.2.2 := ⟨by decide, fun nm => by simp [alvA, alvR, allF, valsF, Lib.join]⟩
section
variable {R : Ending → World → Prop} {w w1 : World} {tg pg : Nat}
theorem ask_lit1 (hm : Ml w) (ht : TB w w1 tg pg ⟨alvB, false, none, false⟩) (h : ∀ A c w', TB w w' tg pg ⟨[], false, some alvA, false⟩ → Kp [tg, pg] w1 w' → R (.returned (.tuple #[.agg #[.string (S [97]), .int .i64 0, .string (S [71, 69, 84]), .string (S [47, 97]), .int .i64 0, .slice A 0 c, .bool true], .bool true])) w') :
    Calls Tryz.prog 21 #[.pointer (some ⟨tg, 0, none⟩)] w1 R :=
  sask_any hm ht (fun _ => by decide) (fun e => by rw [alv_ask1] at e; cases e) (fun a e A c w' t k => by
    rw [alv_ask1] at e t
    injection e with e
    subst e
    exact h A c w' t k)
theorem ask_lit2 (hm : Ml w) (ht : TB w w1 tg pg ⟨[], false, some alvA, false⟩) (h : ∀ A c w', TB w w' tg pg ⟨[], false, some alvA, false⟩ → Kp [tg, pg] w1 w' → R (.returned (.tuple #[.agg #[.string (S [97]), .int .i64 0, .string (S [71, 69, 84]), .string (S [47, 97]), .int .i64 0, .slice A 0 c, .bool true], .bool true])) w') :
    Calls Tryz.prog 21 #[.pointer (some ⟨tg, 0, none⟩)] w1 R :=
  sask_any hm ht (fun _ => by decide) (fun e => by rw [alv_ask2] at e; cases e) (fun a e A c w' t k => by
    rw [alv_ask2] at e t
    injection e with e
    subst e
    exact h A c w' t k)
theorem plan_lit (hw : Lw w) (ht : TB w w1 tg pg ⟨[], false, some alvA, false⟩) (h : ∀ L A n c cl w', Kp [] w1 w' → R (.returned (.agg #[.int .i64 404, .string (S L), .slice A n c, .bool cl])) w') :
    Calls Tryz.prog 23 #[.pointer (some ⟨tg, 0, none⟩), .bool false, .agg #[.int .i64 0, .int .i64 0, .int .i64 0, .string ⟨#[]⟩], .int .i64 (-1)] w1 R :=
  splan_any (kd := []) hw ht rfl alv_ok false 0 0 0 (-1) (by decide) (by decide) (by decide) (by decide) (fun A n c w' k _ => by rw [alv_plan]; exact h _ A n c _ w' k)
theorem done_lit (ht : TB w w1 tg pg ⟨[], false, some alvA, false⟩) (h : ∀ w', TB w w' tg pg ⟨[], false, none, true⟩ → Kp [tg, pg] w1 w' → R (.returned (.tuple #[])) w') : Calls Tryz.prog 26 #[.pointer (some ⟨tg, 0, none⟩)] w1 R :=
  sdone_any ht (fun w' t k => h w' (by rw [alv_done] at t; exact t) k)
set_option maxHeartbeats 4000000 in
theorem alive28_any (hw : Lw w) (h : ∀ w', Kp [] w w' → R (.returned (.bool true)) w') : Calls Tryz.prog 17 #[] w R := by
  have H := Lib.hid h
  clear h
  go_enter Tryz.func17, Tryz.ntmps17
  go_upto_region 2 with (go_at_call 19; ((refine snew_any ?_); intro tg pg w1 g1 g2 t1 k1; have T1 := Lib.hid (TB.mk k1 g1 g2 t1); have hcv := fun C => Lib.run_convert_bytes_const (P := Tryz.prog) w1 52 5 C 19 19 Tryz.underlying52 Tryz.underlying5; clear t1 k1))
  go_upto_region 3 with (go_at_call 20; ((refine sfeed_any (T1.out.tk.kp ((Kp.refl _ _).alloc _)) alvB (bytes_rd rfl) rfl (by decide) ?_); intro w2 t2 k2; have T2 : Hid (TB w w2 tg pg ⟨alvB, false, none, false⟩) := Lib.hid ((T1.out.kp' ((Kp.refl _ _).alloc _)).step t2 k2); clear t2 k2))
  have hne : Hid (tg ≠ pg) := Lib.hid T1.out.tk.ne
  go_upto_region 4 with (go_at_call 21; ((refine ask_lit1 hw.ml T2.out ?_); intro A3 c3 w3 t3 k3))
  refine gen_worldC (fun W => ∃ ga, w3.heap.size = ga ∧ Hid (tg < ga ∧ pg < ga) ∧ Hid (TB w W tg pg ⟨[], false, some alvA, false⟩ ∧ Bk W ga 54 [.string (S [97]), .int .i64 0, .string (S [71, 69, 84]), .string (S [47, 97]), .int .i64 0, .slice A3 0 c3, .bool true])) ⟨_, rfl, Lib.hid ⟨by obtain ⟨_, hb, _⟩ := t3.tk.tk; exact hb.lt, Bk.lt t3.tk.ps⟩, Lib.hid ⟨t3.kp' ((Kp.refl _ _).alloc _), (Bk.new' _ _ _).cast rfl⟩⟩ ?_
  rintro W3 ⟨ga, hga, hn3, hW3⟩
  rw [hga]
  clear hga t3 k3
  go_upto_region 5 with (go_at_call 21; ((refine ask_lit2 hw.ml hW3.out.1 ?_); intro A4 c4 w4 t4 k4))
  refine gen_worldC (fun W => ∃ gb, w4.heap.size = gb ∧ Hid (tg < gb ∧ pg < gb ∧ ga < gb) ∧ Hid (TB w W tg pg ⟨[], false, some alvA, false⟩ ∧ Bk W ga 54 [.string (S [97]), .int .i64 0, .string (S [71, 69, 84]), .string (S [47, 97]), .int .i64 0, .slice A3 0 c3, .bool true] ∧ Bk W gb 54 [.string (S [97]), .int .i64 0, .string (S [71, 69, 84]), .string (S [47, 97]), .int .i64 0, .slice A4 0 c4, .bool true])) ⟨_, rfl, Lib.hid ⟨by obtain ⟨_, hb, _⟩ := t4.tk.tk; exact hb.lt, Bk.lt t4.tk.ps, by have := hW3.out.2.lt; have := k4.size; omega⟩, Lib.hid ⟨t4.kp' ((Kp.refl _ _).alloc _), (hW3.out.2.kp k4 (by have := hn3.out; simp; omega)).alloc _, (Bk.new' _ _ _).cast rfl⟩⟩ ?_
  rintro W4 ⟨gb, hgb, hn4, hW4⟩
  rw [hgb]
  clear hgb t4 k4 hW3
  go_upto_region 6 with (go_at_call 23; ((refine plan_lit hw hW4.out.1 ?_); intro L A5 n5 c5 cl w5 k5))
  refine gen_worldC (fun W => ∃ gp, w5.heap.size = gp ∧ Hid (tg < gp ∧ pg < gp) ∧ Hid (TB w W tg pg ⟨[], false, some alvA, false⟩ ∧ Bk W ga 54 [.string (S [97]), .int .i64 0, .string (S [71, 69, 84]), .string (S [47, 97]), .int .i64 0, .slice A3 0 c3, .bool true] ∧ Bk W gb 54 [.string (S [97]), .int .i64 0, .string (S [71, 69, 84]), .string (S [47, 97]), .int .i64 0, .slice A4 0 c4, .bool true] ∧ Bk W gp 31 [.int .i64 404, .string (S L), .slice A5 n5 c5, .bool cl])) ⟨_, rfl, Lib.hid ⟨by have := hW4.out.2.2.lt; have := k5.size; have := hn4.out; omega, by have := hW4.out.2.2.lt; have := k5.size; have := hn4.out; omega⟩, Lib.hid ⟨hW4.out.1.kp' (k5.alloc _), (hW4.out.2.1.kp k5 (by simp)).alloc _, (hW4.out.2.2.kp k5 (by simp)).alloc _, (Bk.new' _ _ _).cast rfl⟩⟩ ?_
  rintro W5 ⟨gp, hgp, hn5, hW5⟩
  rw [hgp]
  clear hgp k5 hW4
  go_upto_region 7 with (go_at_call 26; ((refine done_lit hW5.out.1 ?_); intro w6 t6 k6))
  have b1 := hW5.out.2.1.kp k6 (by have := hn3.out; simp; omega)
  have b2 := hW5.out.2.2.1.kp k6 (by have := hn4.out; simp; omega)
  have b3 := hW5.out.2.2.2.kp k6 (by have := hn5.out; simp; omega)
  have c1 : w6.cell? ⟨ga, 0, none⟩ = some (.string (S [97])) := b1.cell 0
  have c2 : w6.cell? ⟨gb, 0, none⟩ = some (.string (S [97])) := b2.cell 0
  have c3' : w6.cell? ⟨gp, 0, none⟩ = some (.int .i64 404) := b3.cell 0
  have e1 : (([97] : List UInt8) == [97]) = true := by decide
  have HT := Lib.hid t6
  clear t6 k6 b1 b2 b3 hW5
  go_wp2_with (go_at_call 27; (refine sover_any HT.out.tk ?_))
  exact H.out _ HT.out.kp
theorem sask_nilE (h : ∀ w', Kp [] w w' → R (.returned (.tuple #[.agg #[.string ⟨#[]⟩, .int .i64 0, .string ⟨#[]⟩, .string ⟨#[]⟩, .int .i64 0, .slice none 0 0, .bool false], .bool false])) w') : Calls Tryz.prog 21 #[.pointer none] w R := sask_nil h
set_option maxHeartbeats 4000000 in
theorem snil_walk (x : ByteArray) (now : Int) (hw : Lw w) (h : ∀ w', Kp [] w w' → R (.returned (.bool true)) w') : Calls Tryz.prog 7 #[.string x, .int .i64 now] w R := by
  have H := Lib.hid h
  clear h
  obtain ⟨bw, cw, hcs, hbk, -⟩ := conv_rd x
  have HBK := Lib.hid hbk
  clear hbk
  go_enter Tryz.func7, Tryz.ntmps7
  go_upto_region 8 with (first | (go_at_call 17; ((refine alive28_any hw ?_); intro w1 k1)) | (go_at_call 20; (refine sfeed_nil ?_)) | (go_at_call 26; (refine sdone_nil ?_)) | (go_at_call 21; ((refine sask_nilE ?_); intro w2 k2)) | (go_at_call 23; ((refine splan_nil (kd := []) _ _ _ _ _ ?_); intro w3 k3)))
  refine gen_worldC (fun W => ∃ ga, w3.heap.size = ga ∧ Hid (Kp [] w W ∧ Bk W ga 31 [.int .i64 0, .string ⟨#[]⟩, .slice none 0 0, .bool false])) ⟨_, rfl, Lib.hid ⟨((((HBK.out _ _ _ k1).trans k2).alloc _).trans k3).alloc _, (Bk.new' _ _ _).cast rfl⟩⟩ ?_
  rintro W ⟨ga, hga, hW⟩
  rw [hga]
  clear hga k1 k2 k3
  go_upto_region 9 with (first | (go_at_call 19; ((refine snew_any ?_); intro tg pg w4 g1 g2 t4 k4)) | (go_at_call 23; ((refine splan_none (kd := []) t4 rfl _ _ _ _ _ ?_); intro w5 k5)))
  have b5 := (hW.out.2.kp k4 (by simp)).kp k5 (by simp)
  have KF : Hid (Kp [] w w5) := Lib.hid ((hW.out.1.trans k4).trans k5)
  have hlt := b5.lt
  obtain ⟨⟨c0, c1, c2, c3⟩, _⟩ := bk4r b5
  clear t4 k4 k5 b5 hW
  go_wp2_with (go_at_call 27; (refine sover_nil ?_))
  exact H.out _ (KF.out.alloc _)
end
end
/-! ### serve in plain words: the fields of what is asked are few and short. -/
section
open Go.RowKit
set_option linter.unusedVariables false
set_option linter.unusedSimpArgs false
set_option maxRecDepth 100000
theorem next_fsB (b : List UInt8) : (nextF b).1.fs.length ≤ b.length ∧ ((nextF b).1.fs.map (fun f => f.2.length)).sum ≤ b.length := by
  unfold nextF
  have h := headF_sum (b.length + 1) b.length [] b
  generalize headF (b.length + 1) b.length [] b = p at *
  obtain ⟨ls, rest, st⟩ := p
  simp only [List.length_nil, Nat.zero_add, List.map_nil, List.sum_nil] at h ⊢
  have ho : (ofF ls).1.fs.length ≤ ls.length ∧ ((ofF ls).1.fs.map (fun f => f.2.length)).sum ≤ (ls.map List.length).sum := by
    unfold ofF
    split
    · simp [noReq]
    · rename_i l ls'
      split
      · simp [noReq]
      · split
        · simp [noReq]
        · split
          · simp [noReq]
          · split
            · simp [noReq]
            · rename_i fs hfs
              obtain ⟨h1, h2⟩ := fields_sum ls' fs hfs
              unfold ofFs
              repeat' split
              all_goals first | exact ⟨by simp only [List.length_cons]; omega, Nat.le_trans h1 (by simp only [List.map_cons, List.sum_cons]; omega)⟩ | (simp [noReq]; done) | (simp [noReq]; omega)
  repeat' split
  all_goals first | omega | (simp only; omega) | (simp [noReq]; done) | (simp [noReq]; omega)
theorem nxt_ok {b : List UInt8} {ov : Bool} (hb : b.length ≤ 2000) : okR (nxt b ov).1 := by
  unfold nxt
  split
  · exact ⟨by simp [noReq], fun nm => by simp [noReq, allF, valsF, Lib.join]⟩
  · have h := next_fsB b
    refine ⟨by omega, fun nm => ?_⟩
    exact Nat.le_trans (allF_len _ nm) (Nat.le_trans (Nat.add_le_add (Nat.mul_le_mul_left 2 h.1) h.2) (by omega))
theorem op_ok {b : List UInt8} {ov : Bool} {a : AskP} (hb : b.length ≤ 2000) (h : nxtOp b ov = some a) : okR a.2.2 := by
  unfold nxtOp at h
  split at h
  · cases h
  · injection h with h
    subst h
    exact nxt_ok hb
end
/-! ### ServeStays, walked. -/
section
open Go.RowKit Go.Shelf
set_option linter.unusedVariables false
set_option linter.unusedSimpArgs false
set_option maxRecDepth 100000
theorem askS_some {b : List UInt8} {ov : Bool} {a : AskP} : askS ⟨b, ov, some a, false⟩ = (⟨b, ov, some a, false⟩, some a) := rfl
theorem askS_over {b : List UInt8} {ov : Bool} {op : Option AskP} : askS ⟨b, ov, op, true⟩ = (⟨b, ov, op, true⟩, none) := rfl
theorem askS_none {b : List UInt8} {ov : Bool} : askS ⟨b, ov, none, false⟩ = (⟨(nxt b ov).2.2.1, (nxt b ov).2.2.2, nxtOp b ov, false⟩, nxtOp b ov) := rfl
theorem nxt_len {b : List UInt8} {ov : Bool} (hb : b.length < 1024) : (nxt b ov).2.2.1.length ≤ b.length := by
  unfold nxt
  split
  · exact Nat.le_refl _
  · unfold nextF
    have h := (headF_sum (b.length + 1) b.length [] b).2.2
    generalize headF (b.length + 1) b.length [] b = p at *
    obtain ⟨ls, rest, st⟩ := p
    simp only at h ⊢
    repeat' split
    all_goals simp
    all_goals omega
/-- What the loop keeps: the talk, the first ask's block, the first plan's. -/
def StI (w0 w : World) (tg pg ga gp : Nat) (s : TkS) (a : AskP) (A : Option Addr) (c : Nat) (st : Int) (L : List UInt8) (B : Option Addr) (n d : Nat) (cl : Bool) : Prop :=
  TB w0 w tg pg s ∧ tg ≠ ga ∧ pg ≠ ga ∧ tg ≠ gp ∧ pg ≠ gp ∧ Bk w ga 54 (askC a A c) ∧ Bk w gp 31 [.int .i64 st, .string (S L), .slice B n d, .bool cl]
theorem StI.step {w0 w w' : World} {tg pg ga gp : Nat} {s s' : TkS} {a : AskP} {A : Option Addr} {c : Nat} {st : Int} {L : List UInt8} {B : Option Addr} {n d : Nat} {cl : Bool} (h : StI w0 w tg pg ga gp s a A c st L B n d cl) (t : TB w0 w' tg pg s') (k : Kp [tg, pg] w w') : StI w0 w' tg pg ga gp s' a A c st L B n d cl := by
  obtain ⟨h1, h2, h3, h4, h5, h6, h7⟩ := h
  exact ⟨t, h2, h3, h4, h5, h6.kp k (by simp; omega), h7.kp k (by simp; omega)⟩
theorem StI.cells {w0 w : World} {tg pg ga gp : Nat} {s : TkS} {a : AskP} {A : Option Addr} {c : Nat} {st : Int} {L : List UInt8} {B : Option Addr} {n d : Nat} {cl : Bool} (h : StI w0 w tg pg ga gp s a A c st L B n d cl) :
    w.cell? ⟨ga, 0, none⟩ = some (.string (S a.1)) ∧ w.cell? ⟨ga, 1, none⟩ = some (.int .i64 a.2.1) ∧ w.cell? ⟨ga, 3, none⟩ = some (.string (S a.2.2.t)) ∧ w.cell? ⟨gp, 1, none⟩ = some (.string (S L)) ∧ w.cell? ⟨gp, 2, none⟩ = some (.slice B n d) ∧ ga < w.heap.size ∧ gp < w.heap.size :=
  ⟨h.2.2.2.2.2.1.cell 0, h.2.2.2.2.2.1.cell 1, h.2.2.2.2.2.1.cell 3, h.2.2.2.2.2.2.cell 1, h.2.2.2.2.2.2.cell 2, h.2.2.2.2.2.1.lt, h.2.2.2.2.2.2.lt⟩
theorem StI.kp' {w0 w w' : World} {tg pg ga gp : Nat} {s : TkS} {a : AskP} {A : Option Addr} {c : Nat} {st : Int} {L : List UInt8} {B : Option Addr} {n d : Nat} {cl : Bool} (h : StI w0 w tg pg ga gp s a A c st L B n d cl) (k : Kp [] w w') : StI w0 w' tg pg ga gp s a A c st L B n d cl :=
  h.step (h.1.kp' k) (k.mono (by simp))
section
variable {R : Ending → World → Prop} {w : World}
theorem sask_overE {w1 : World} {tg pg : Nat} {b : List UInt8} {ov : Bool} (hm : Ml w) (ht : TB w w1 tg pg ⟨b, ov, none, true⟩) (h : ∀ w', TB w w' tg pg ⟨b, ov, none, true⟩ → R (.returned (.tuple #[.agg #[.string ⟨#[]⟩, .int .i64 0, .string ⟨#[]⟩, .string ⟨#[]⟩, .int .i64 0, .slice none 0 0, .bool false], .bool false])) w') :
    Calls Tryz.prog 21 #[.pointer (some ⟨tg, 0, none⟩)] w1 R := by
  have H := Lib.hid h
  have HT := Lib.hid ht
  obtain ⟨oa, b1, o1⟩ := ht.tk.tk
  have HB := Lib.hid b1
  have hlt := b1.lt
  clear h ht b1 o1
  go_enter Tryz.func21, Tryz.ntmps21
  go_upto_region 1 with (fail)
  refine gen_worldC (fun W => ∃ rb, w1.heap.size = rb ∧ Hid (Kp [] w1 W ∧ Bk W rb 54 zA ∧ Bk W tg 85 [.pointer (some ⟨pg, 0, none⟩), .pointer oa, .bool true])) ⟨_, rfl, Lib.hid ⟨(Kp.refl _ _).alloc _, (Bk.new' _ _ _).cast rfl, HB.out.alloc _⟩⟩ ?_
  rintro W ⟨rb, hrb, hW⟩
  rw [hrb]
  have HRB : Hid (w1.heap.size ≤ rb) := Lib.hid (by omega)
  clear hrb
  have t2 : W.cell? ⟨tg, 2, none⟩ = some (.bool true) := hW.out.2.2.cell 2
  obtain ⟨⟨z0, z1, z2, z3, z4, z5, z6⟩, ⟨f0, f1, f2, f3, f4, f5, f6⟩⟩ := bk7r hW.out.2.1
  go_wp2
  obtain ⟨W', hW', kW, bW⟩ := put7 hW.out.2.1 (.string ⟨#[]⟩) (.int .i64 0) (.string ⟨#[]⟩) (.string ⟨#[]⟩) (.int .i64 0) (.slice none 0 0) (.bool false)
  rw [hW']
  obtain ⟨⟨c0, c1, c2, c3, c4, c5, c6⟩, _⟩ := bk7r bW
  have kF : Kp [] w1 W' := hW.out.1.thn kW (fun s hs => .inr (by have := HRB.out; simp at hs; omega))
  exact bodyPost_ret (v := .tuple #[noAsk, .bool false]) (by simp [results, Tryz.results21, go_sem, noAsk, c0, c1, c2, c3, c4, c5, c6]; try rfl) rfl (H.out _ (HT.out.kp' kF))
set_option maxHeartbeats 16000000 in
theorem stays_walk (x : ByteArray) (more : List ByteArray) (v mt len : Int) (kd : List UInt8) (now : Int) {A1 : Option Addr} {n1 cc : Nat} (hr : Rd w [] A1 (more.map Value.string)) (hl : more.length = n1)
    (v1 : -9223372036854775808 ≤ v ∧ v ≤ 9223372036854775807) (m1 : -9223372036854775808 ≤ mt ∧ mt ≤ 9223372036854775807) (l1 : -9223372036854775808 ≤ len ∧ len ≤ 9223372036854775807) (hw : Lw w) (h : ∀ w', Kp [] w w' → R (.returned (.bool true)) w') :
    Calls Tryz.prog 6 #[.string x, .slice A1 n1 cc, .agg #[.int .i64 v, .int .i64 mt, .int .i64 len, .string (S kd)], .int .i64 now] w R := by
  have H := Lib.hid h
  have HR := Lib.hid hr
  have HL := Lib.hid hl
  clear h hr hl
  obtain ⟨c1, d1⟩ : ∃ c, decide ((900 : Int) < x.size) = c := ⟨_, rfl⟩
  obtain ⟨c2, d2⟩ : ∃ c, decide ((20 : Int) < n1) = c := ⟨_, rfl⟩
  obtain ⟨c3, d3⟩ : ∃ c, decide (len < 0) = c := ⟨_, rfl⟩
  obtain ⟨c4, d4⟩ : ∃ c, decide (1099511627776 < len) = c := ⟨_, rfl⟩
  obtain ⟨c5, d5⟩ : ∃ c, decide (mt < 0) = c := ⟨_, rfl⟩
  obtain ⟨c6, d6⟩ : ∃ c, decide (v < 0) = c := ⟨_, rfl⟩
  obtain ⟨c7, d7⟩ : ∃ c, decide ((300 : Int) < kd.length) = c := ⟨_, rfl⟩
  go_enter Tryz.func6, Tryz.ntmps6
  go_upto_region 3 with (go_at_call 17; ((refine alive28_any (hw.kp ((Kp.refl _ _).alloc _)) ?_); intro w1 k1))
  refine gen_worldC (fun W => ∃ gf, w.heap.size = gf ∧ Hid (Kp [] w W ∧ Bk W gf 26 [.int .i64 v, .int .i64 mt, .int .i64 len, .string (S kd)])) ⟨_, rfl, Lib.hid ⟨((Kp.refl _ _).alloc _).trans k1, ((Bk.new' _ _ _).kp k1 (by simp)).cast rfl⟩⟩ ?_
  rintro W ⟨gf, hgf, hW⟩
  rw [hgf]
  clear hgf k1
  obtain ⟨⟨q0, q1, q2, q3⟩, _⟩ := bk4r hW.out.2
  go_cut [54] (fun b W' => ∃ t, b = .bool t ∧ W' = W ∧ Hid (t = false → x.size ≤ 900 ∧ n1 ≤ 20 ∧ 0 ≤ len ∧ len ≤ 1099511627776 ∧ 0 ≤ mt ∧ 0 ≤ v ∧ kd.length ≤ 300))
  case first =>
    cases c1 with
    | true =>
      go_wp2
      go_meet
      exact ⟨true, rfl, rfl, Lib.hid (fun e => by cases e)⟩
    | false =>
      cases c2 with
      | true =>
        go_wp2
        go_meet
        exact ⟨true, rfl, rfl, Lib.hid (fun e => by cases e)⟩
      | false =>
        cases c3 with
        | true =>
          go_wp2
          go_meet
          exact ⟨true, rfl, rfl, Lib.hid (fun e => by cases e)⟩
        | false =>
          cases c4 with
          | true =>
            go_wp2
            go_meet
            exact ⟨true, rfl, rfl, Lib.hid (fun e => by cases e)⟩
          | false =>
            cases c5 with
            | true =>
              go_wp2
              go_meet
              exact ⟨true, rfl, rfl, Lib.hid (fun e => by cases e)⟩
            | false =>
              cases c6 with
              | true =>
                go_wp2
                go_meet
                exact ⟨true, rfl, rfl, Lib.hid (fun e => by cases e)⟩
              | false =>
                cases c7 with
                | true =>
                  go_wp2
                  go_meet
                  exact ⟨true, rfl, rfl, Lib.hid (fun e => by cases e)⟩
                | false =>
                  go_wp2
                  go_meet
                  exact ⟨false, rfl, rfl, Lib.hid (fun _ => by simp at d1 d2 d3 d4 d5 d6 d7; omega)⟩
  case rest =>
    obtain ⟨t, hx1, hx2, hbd⟩ := hcut
    rw [hx1, hx2]
    clear hx1 hx2 d1 d2 d3 d4 d5 d6 d7
    cases t with
    | true =>
      go_wp2
      exact H.out _ hW.out.1
    | false =>
      obtain ⟨b1, b2, b3, b4, b5, b6, b7⟩ := hbd.out rfl
      obtain ⟨bw, cw, hcs, hbk, hbr⟩ := conv_rd x
      have HBK := Lib.hid hbk
      have HBR := Lib.hid hbr
      clear hbk hbr hbd
      have xl : x.data.toList.length = x.size := by rw [Array.length_toList]; rfl
      go_upto_region 7 with (first | (go_at_call 19; ((refine snew_any ?_); intro tg pg w1 g1 g2 t1 k1; have T1 := Lib.hid (TB.mk (hW.out.1.trans k1) (Nat.le_trans hW.out.1.size g1) (Nat.le_trans hW.out.1.size g2) t1); have K1 := Lib.hid k1; have HGF : Hid (gf < tg ∧ gf < pg) := Lib.hid (by have := hW.out.2.lt; omega); clear t1 k1)) | (go_at_call 20; ((refine sfeed_any (T1.out.tk.kp (HBK.out [] _ _ (Kp.refl [] _))) x.data.toList (HBR.out _ _ [] rfl (by simp)) xl (by first | omega | (show 0 + x.size ≤ _; omega) | (simp; omega)) ?_); intro w2 t2 k2; have T2 : Hid (TB w w2 tg pg ⟨x.data.toList, false, none, false⟩) := Lib.hid ((T1.out.kp' (HBK.out [] _ _ (Kp.refl [] _))).step t2 k2); have BF : Hid (Bk w2 gf 26 [.int .i64 v, .int .i64 mt, .int .i64 len, .string (S kd)]) := Lib.hid (((hW.out.2.kp K1.out (by simp)).kp (HBK.out [] _ _ (Kp.refl [] _)) (by simp)).kp k2 (by have := HGF.out; simp; omega)); clear t2 k2)))
      have HB900 : Hid (x.data.toList.length ≤ 900) := Lib.hid (by omega)
      obtain ⟨xs, hxs⟩ : ∃ xs, x.data.toList = xs := ⟨_, rfl⟩
      rw [hxs] at T2 HB900
      clear HBR HBK hcs hxs xl
      have hvv : 0 ≤ v ∧ v ≤ 9223372036854775807 := ⟨b6, v1.2⟩
      have hmm : 0 ≤ mt ∧ mt ≤ 9223372036854775807 := ⟨b5, m1.2⟩
      have hll : 0 ≤ len ∧ len ≤ 35184372088832 := ⟨b3, by omega⟩
      have HFC : Hid (∀ w', Kp [tg, pg] w2 w' → Bk w' gf 26 [.int .i64 v, .int .i64 mt, .int .i64 len, .string (S kd)]) := Lib.hid (fun w' k => BF.out.kp k (by have := HGF.out; simp; omega))
      have HRM : Hid (∀ w', Kp [] w w' → Rd w' [] A1 (more.map Value.string)) := Lib.hid (fun w' k => HR.out.kp k (by simp))
      have hon : askS ⟨xs, false, none, false⟩ = (⟨(nxt xs false).2.2.1, (nxt xs false).2.2.2, nxtOp xs false, false⟩, nxtOp xs false) := rfl
      have hnl := nxt_len (b := xs) (ov := false) (by have := HB900.out; omega)
      have HAsk : Hid (∀ (R : Ending → World → Prop), (nxtOp xs false = none → ∀ w', TB w w' tg pg ⟨(nxt xs false).2.2.1, (nxt xs false).2.2.2, none, false⟩ → Kp [tg, pg] w2 w' → R (.returned (.tuple #[noAsk, .bool false])) w') → (∀ a, nxtOp xs false = some a → ∀ A c w', TB w w' tg pg ⟨(nxt xs false).2.2.1, (nxt xs false).2.2.2, some a, false⟩ → Kp [tg, pg] w2 w' → R (.returned (.tuple #[.agg (askC a A c).toArray, .bool true])) w') → Calls Tryz.prog 21 #[.pointer (some ⟨tg, 0, none⟩)] w2 R) := Lib.hid (fun R h0 h1 => sask_any hw.ml T2.out (fun _ => by have := HB900.out; simp only; omega) (fun e w' t k => by rw [hon] at e t; simp only at e t; rw [e] at t; exact h0 e w' t k) (fun a e A c w' t k => by rw [hon] at e t; simp only at e t; rw [e] at t; exact h1 a e A c w' t k))
      have HOK : Hid (∀ a, nxtOp xs false = some a → okR a.2.2) := Lib.hid (fun a e => op_ok (by have := HB900.out; omega) e)
      obtain ⟨rb, e1⟩ : ∃ rb, (nxt xs false).2.2.1 = rb := ⟨_, rfl⟩
      obtain ⟨rv, e2⟩ : ∃ rv, (nxt xs false).2.2.2 = rv := ⟨_, rfl⟩
      obtain ⟨op, e3⟩ : ∃ op, nxtOp xs false = op := ⟨_, rfl⟩
      rw [e1, e2, e3] at HAsk
      rw [e3] at HOK
      have hrb : rb.length ≤ 900 := by rw [← e1]; have := HB900.out; omega
      clear e1 e2 e3 hon hnl T2 HB900
      cases op with
      | none =>
        have HA0 : Hid (∀ (R : Ending → World → Prop), (∀ w', TB w w' tg pg ⟨rb, rv, none, false⟩ → Kp [tg, pg] w2 w' → R (.returned (.tuple #[.agg #[.string ⟨#[]⟩, .int .i64 0, .string ⟨#[]⟩, .string ⟨#[]⟩, .int .i64 0, .slice none 0 0, .bool false], .bool false])) w') → Calls Tryz.prog 21 #[.pointer (some ⟨tg, 0, none⟩)] w2 R) := Lib.hid (fun R h => HAsk.out R (fun _ w' t k => h w' t k) (fun a e => by cases e))
        clear HAsk HOK
        go_upto_region 8 with (go_at_call 21; ((refine HA0.out _ ?_); intro w3 t3 k3))
        refine gen_worldC (fun W3 => Hid (TB w W3 tg pg ⟨rb, rv, none, false⟩ ∧ Kp [tg, pg] w2 W3)) (Lib.hid ⟨t3.kp' ((Kp.refl _ _).alloc _), k3.alloc _⟩) ?_
        intro W3 hW3
        obtain ⟨⟨y0, y1, y2, y3⟩, _⟩ := bk4r (HFC.out W3 hW3.out.2)
        clear t3 k3
        go_upto_region 9 with (go_at_call 23; ((refine splan_none hW3.out.1.tk rfl _ _ _ _ _ kd ?_); intro w4 k4))
        refine gen_worldC (fun W4 => Hid (TB w W4 tg pg ⟨rb, rv, none, false⟩)) (Lib.hid (hW3.out.1.kp' (k4.alloc _))) ?_
        intro W4 hW4
        clear k4 hW3 y0 y1 y2 y3
        go_wp2
        go_loopw [13] (fun iv wr => ∃ (i : Nat) (b : List UInt8) (ov : Bool), i ≤ n1 ∧ iv = .int .i64 i ∧ b.length ≤ 900 + 900 * i ∧ Hid (TB w wr tg pg ⟨b, ov, none, false⟩)) (fun iv _ => n1 - (intOf iv).toNat)
        case atStart => exact ⟨0, rb, rv, Nat.zero_le _, rfl, by omega, hW4⟩
        case round =>
          obtain ⟨i, b, ov, hi, rfl, hbl, hT⟩ := hrel
          by_cases hlt : i < n1
          · obtain ⟨y, hy⟩ : ∃ y, more[i]? = some y := ⟨_, List.getElem?_eq_getElem (by have := HL.out; omega)⟩
            obtain ⟨bb, off, rfl, _, _, hc⟩ := (HRM.out wr hT.out.kp) (by intro e; have := HL.out; simp at e; subst e; simp at this; omega)
            have y0 : wr.cell? ⟨bb, off + i, none⟩ = some (.string y) := hc i _ (by simp [hy])
            clear hc hy
            obtain ⟨e9, d9⟩ : ∃ c, decide ((900 : Int) < y.size) = c := ⟨_, rfl⟩
            cases e9 with
            | true =>
              go_wp2
              exact H.out _ hT.out.kp
            | false =>
              have yl : y.size ≤ 900 := (fun h9 : (y.size : Int) ≤ 900 => by omega) (by simpa using d9)
              obtain ⟨bw, cw, hcs, hbk, hbr⟩ := conv_rd y
              have HBK := Lib.hid hbk
              have HBR := Lib.hid hbr
              have xl : y.data.toList.length = y.size := by rw [Array.length_toList]; rfl
              clear hbk hbr
              go_wp2_with (go_at_call 20; ((refine sfeed_any (hT.out.tk.kp (HBK.out [] _ _ (Kp.refl [] _))) y.data.toList (HBR.out _ _ [] rfl (by simp)) xl (by simp only; omega) ?_); intro w5 t5 k5))
              refine ⟨⟨i + 1, _, ov, by omega, by go_num, ?_, Lib.hid ((hT.out.kp' (HBK.out [] _ _ (Kp.refl [] _))).step t5 k5)⟩, by simp [intOf]; omega⟩
              split
              · omega
              · simp only [List.length_append]; omega
          · obtain rfl : i = n1 := by omega
            go_wp2
            exact H.out _ hT.out.kp
      | some a =>
        have HA1 : Hid (∀ (R : Ending → World → Prop), (∀ A c w', TB w w' tg pg ⟨rb, rv, some a, false⟩ → Kp [tg, pg] w2 w' → R (.returned (.tuple #[.agg #[.string (S a.1), .int .i64 a.2.1, .string (S a.2.2.m), .string (S a.2.2.t), .int .i64 a.2.2.minor, .slice A a.2.2.fs.length c, .bool a.2.2.close], .bool true])) w') → Calls Tryz.prog 21 #[.pointer (some ⟨tg, 0, none⟩)] w2 R) := Lib.hid (fun R h => HAsk.out R (fun e => by cases e) (fun a' e A c w' t k => by injection e with e; subst e; exact h A c w' t k))
        have HA2 : Hid (∀ (R : Ending → World → Prop) (w1 : World) (b : List UInt8) (ov : Bool), TB w w1 tg pg ⟨b, ov, some a, false⟩ → (∀ A c w', TB w w' tg pg ⟨b, ov, some a, false⟩ → Kp [tg, pg] w1 w' → R (.returned (.tuple #[.agg #[.string (S a.1), .int .i64 a.2.1, .string (S a.2.2.m), .string (S a.2.2.t), .int .i64 a.2.2.minor, .slice A a.2.2.fs.length c, .bool a.2.2.close], .bool true])) w') → Calls Tryz.prog 21 #[.pointer (some ⟨tg, 0, none⟩)] w1 R) := Lib.hid (fun R w1 b ov t0 h => sask_any hw.ml t0 (fun e => by cases e) (fun e => by cases e) (fun a' e A c w' t k => by injection e with e; subst e; exact h A c w' t k))
        have HPl : Hid (∀ (R : Ending → World → Prop) (w1 : World) (b : List UInt8) (ov : Bool), TB w w1 tg pg ⟨b, ov, some a, false⟩ → (∀ A n c w', Kp [] w1 w' → Hid ((planT a true v mt len kd now).2.2.1.length = n) → R (.returned (.agg #[.int .i64 (planT a true v mt len kd now).1, .string (S (planT a true v mt len kd now).2.1), .slice A n c, .bool (planT a true v mt len kd now).2.2.2])) w') → Calls Tryz.prog 23 #[.pointer (some ⟨tg, 0, none⟩), .bool true, .agg #[.int .i64 v, .int .i64 mt, .int .i64 len, .string (S kd)], .int .i64 now] w1 R) := Lib.hid (fun R w1 b ov t0 h => splan_any hw t0 rfl (HOK.out a rfl) true v mt len now kd hvv hmm hll b7 (fun A n c w' k hh => h A n c w' k (Lib.hid hh.out.2.1)))
        obtain ⟨st, e1⟩ : ∃ st, (planT a true v mt len kd now).1 = st := ⟨_, rfl⟩
        obtain ⟨L, e2⟩ : ∃ L, (planT a true v mt len kd now).2.1 = L := ⟨_, rfl⟩
        obtain ⟨np, e3⟩ : ∃ n, (planT a true v mt len kd now).2.2.1.length = n := ⟨_, rfl⟩
        obtain ⟨cl, e4⟩ : ∃ cl, (planT a true v mt len kd now).2.2.2 = cl := ⟨_, rfl⟩
        rw [e1, e2, e3, e4] at HPl
        have HPn : Hid (∀ (R : Ending → World → Prop) (w1 : World) (b : List UInt8) (ov : Bool), TB w w1 tg pg ⟨b, ov, some a, false⟩ → (∀ A c w', Kp [] w1 w' → R (.returned (.agg #[.int .i64 st, .string (S L), .slice A np c, .bool cl])) w') → Calls Tryz.prog 23 #[.pointer (some ⟨tg, 0, none⟩), .bool true, .agg #[.int .i64 v, .int .i64 mt, .int .i64 len, .string (S kd)], .int .i64 now] w1 R) := Lib.hid (fun R w1 b ov t0 h => HPl.out R w1 b ov t0 (fun A n c w' k e => by have e5 := e.out; subst e5; exact h A c w' k))
        clear HAsk HOK HPl e1 e2 e3 e4
        go_upto_region 8 with (go_at_call 21; ((refine HA1.out _ ?_); intro A c w3 t3 k3))
        refine gen_worldC (fun W3 => ∃ ga, w3.heap.size = ga ∧ Hid (tg < ga ∧ pg < ga) ∧ Hid (TB w W3 tg pg ⟨rb, rv, some a, false⟩ ∧ Kp [tg, pg] w2 W3 ∧ Bk W3 ga 54 (askC a A c))) ⟨_, rfl, Lib.hid ⟨by obtain ⟨_, hb, _⟩ := t3.tk.tk; exact hb.lt, Bk.lt t3.tk.ps⟩, Lib.hid ⟨t3.kp' ((Kp.refl _ _).alloc _), k3.alloc _, (Bk.new' _ _ _).cast rfl⟩⟩ ?_
        rintro W3 ⟨ga, hga, hn3, hW3⟩
        rw [hga]
        obtain ⟨⟨y0, y1, y2, y3⟩, _⟩ := bk4r (HFC.out W3 hW3.out.2.1)
        clear t3 k3 hga
        go_upto_region 9 with (go_at_call 23; ((refine HPn.out _ _ _ _ hW3.out.1 ?_); intro B d w4 k4))
        refine gen_worldC (fun W4 => ∃ gp, w4.heap.size = gp ∧ Hid (StI w W4 tg pg ga gp ⟨rb, rv, some a, false⟩ a A c st L B np d cl ∧ Bk W4 gf 26 [.int .i64 v, .int .i64 mt, .int .i64 len, .string (S kd)])) ⟨_, rfl, Lib.hid ⟨⟨hW3.out.1.kp' (k4.alloc _), by have := hn3.out; omega, by have := hn3.out; omega, by have := hn3.out; have := hW3.out.2.2.lt; have := k4.size; omega, by have := hn3.out; have := hW3.out.2.2.lt; have := k4.size; omega, (hW3.out.2.2.kp k4 (by simp)).alloc _, (Bk.new' _ _ _).cast rfl⟩, ((HFC.out W3 hW3.out.2.1).kp k4 (by simp)).alloc _⟩⟩ ?_
        rintro W4 ⟨gp, hgp, hW4⟩
        rw [hgp]
        clear k4 hW3 y0 y1 y2 y3 hgp hn3
        have f1 : (a.1 == a.1) = true := by simp
        have f2 : (a.1 != a.1) = false := by simp
        have f3 : (a.2.1 != a.2.1) = false := by simp
        have f4 : (a.2.2.t == a.2.2.t) = true := by simp
        have f5 : (a.2.2.t != a.2.2.t) = false := by simp
        have f6 : (L == L) = true := by simp
        have f7 : (L != L) = false := by simp
        have f8 : ((np : Int) != np) = false := by simp
        go_wp2
        go_loopw [13] (fun iv wr => ∃ (i : Nat) (b : List UInt8) (ov : Bool), i ≤ n1 ∧ iv = .int .i64 i ∧ b.length ≤ 900 + 900 * i ∧ Hid (StI w wr tg pg ga gp ⟨b, ov, some a, false⟩ a A c st L B np d cl ∧ Bk wr gf 26 [.int .i64 v, .int .i64 mt, .int .i64 len, .string (S kd)])) (fun iv _ => n1 - (intOf iv).toNat)
        case atStart => exact ⟨0, rb, rv, Nat.zero_le _, rfl, by omega, hW4⟩
        case round =>
          obtain ⟨i, b, ov, hi, rfl, hbl, hT⟩ := hrel
          by_cases hlt : i < n1
          · obtain ⟨y, hy⟩ : ∃ y, more[i]? = some y := ⟨_, List.getElem?_eq_getElem (by have := HL.out; omega)⟩
            obtain ⟨bb, off, rfl, _, _, hc⟩ := (HRM.out wr hT.out.1.1.kp) (by intro e; have := HL.out; simp at e; subst e; simp at this; omega)
            have y0 : wr.cell? ⟨bb, off + i, none⟩ = some (.string y) := hc i _ (by simp [hy])
            clear hc hy
            obtain ⟨e9, d9⟩ : ∃ c, decide ((900 : Int) < y.size) = c := ⟨_, rfl⟩
            cases e9 with
            | true =>
              go_wp2
              exact H.out _ hT.out.1.1.kp
            | false =>
              have yl : y.size ≤ 900 := (fun h9 : (y.size : Int) ≤ 900 => by omega) (by simpa using d9)
              obtain ⟨bw, cw, hcs, hbk, hbr⟩ := conv_rd y
              have HBK := Lib.hid hbk
              have HBR := Lib.hid hbr
              have xl : y.data.toList.length = y.size := by rw [Array.length_toList]; rfl
              clear hbk hbr
              go_upto_region 15 with (go_at_call 20; ((refine sfeed_any (hT.out.1.1.tk.kp (HBK.out [] _ _ (Kp.refl [] _))) y.data.toList (HBR.out _ _ [] rfl (by simp)) xl (by simp only; omega) ?_); intro w5 t5 k5))
              obtain ⟨b', hb'⟩ : ∃ b', (if (false || ov) = true then b else b ++ y.data.toList) = b' := ⟨_, rfl⟩
              have hbl' : b'.length ≤ 900 + 900 * (i + 1) := by
                rw [← hb']
                split
                · omega
                · simp only [List.length_append]; omega
              have hT5 : Hid (StI w w5 tg pg ga gp ⟨b', ov, some a, false⟩ a A c st L B np d cl ∧ Bk w5 gf 26 [.int .i64 v, .int .i64 mt, .int .i64 len, .string (S kd)]) := Lib.hid (by
                have t6 : Tk w5 tg pg ⟨b', ov, some a, false⟩ := by rw [← hb']; exact t5
                have hx := hT.out.1.kp' (HBK.out [] _ _ (Kp.refl [] _))
                exact ⟨hx.step (hx.1.step t6 k5) k5, (hT.out.2.kp (HBK.out [] _ _ (Kp.refl [] _)) (by simp)).kp k5 (by have := HGF.out; simp; omega)⟩)
              clear t5 k5 hT y0 hb' xl hcs HBK HBR yl d9
              go_upto_region 17 with (go_at_call 21; ((refine HA2.out _ _ _ _ hT5.out.1.1 ?_); intro A6 c6 w6 t6 k6))
              refine gen_worldC (fun W => ∃ g6, w6.heap.size = g6 ∧ Hid (StI w W tg pg ga gp ⟨b', ov, some a, false⟩ a A c st L B np d cl ∧ Bk W gf 26 [.int .i64 v, .int .i64 mt, .int .i64 len, .string (S kd)] ∧ Bk W g6 54 (askC a A6 c6))) ⟨_, rfl, Lib.hid ⟨(hT5.out.1.step t6 k6).kp' ((Kp.refl _ _).alloc _), (hT5.out.2.kp k6 (by have := HGF.out; simp; omega)).alloc _, (Bk.new' _ _ _).cast rfl⟩⟩ ?_
              rintro W6 ⟨g6, hg6, hW6⟩
              rw [hg6]
              obtain ⟨⟨y0, y1, y2, y3⟩, _⟩ := bk4r hW6.out.2.1
              clear t6 k6 hg6 hT5
              go_upto_region 18 with (go_at_call 23; ((refine HPn.out _ _ _ _ hW6.out.1.1 ?_); intro B7 d7 w7 k7))
              refine gen_worldC (fun W => ∃ g7, w7.heap.size = g7 ∧ Hid (StI w W tg pg ga gp ⟨b', ov, some a, false⟩ a A c st L B np d cl ∧ Bk W gf 26 [.int .i64 v, .int .i64 mt, .int .i64 len, .string (S kd)] ∧ Bk W g6 54 (askC a A6 c6) ∧ Bk W g7 31 [.int .i64 st, .string (S L), .slice B7 np d7, .bool cl])) ⟨_, rfl, Lib.hid ⟨hW6.out.1.kp' (k7.alloc _), (hW6.out.2.1.kp k7 (by simp)).alloc _, (hW6.out.2.2.kp k7 (by simp)).alloc _, (Bk.new' _ _ _).cast rfl⟩⟩ ?_
              rintro W7 ⟨g7, hg7, hW7⟩
              rw [hg7]
              clear k7 hg7 hW6 y0 y1 y2 y3
              obtain ⟨u0, u1, u3, v1', v2', _, _⟩ := hW7.out.1.cells
              have u6 : W7.cell? ⟨g6, 0, none⟩ = some (.string (S a.1)) := hW7.out.2.2.1.cell 0
              have u7 : W7.cell? ⟨g6, 1, none⟩ = some (.int .i64 a.2.1) := hW7.out.2.2.1.cell 1
              have u8 : W7.cell? ⟨g6, 3, none⟩ = some (.string (S a.2.2.t)) := hW7.out.2.2.1.cell 3
              have v6 : W7.cell? ⟨g7, 1, none⟩ = some (.string (S L)) := hW7.out.2.2.2.cell 1
              have v7 : W7.cell? ⟨g7, 2, none⟩ = some (.slice B7 np d7) := hW7.out.2.2.2.cell 2
              go_wp2
              exact ⟨⟨i + 1, b', ov, by omega, by go_num, hbl', Lib.hid ⟨hW7.out.1, hW7.out.2.1⟩⟩, by simp [intOf]; omega⟩
          · obtain rfl : i = n1 := by omega
            have HD : Hid (∀ (R : Ending → World → Prop), (∀ w', TB w w' tg pg ⟨b, ov, none, endsB a⟩ → Kp [tg, pg] wr w' → R (.returned (.tuple #[])) w') → Calls Tryz.prog 26 #[.pointer (some ⟨tg, 0, none⟩)] wr R) := Lib.hid (fun R h => sdone_any hT.out.1.1 (fun w' t k => h w' t k))
            obtain ⟨en, hen⟩ : ∃ en, endsB a = en := ⟨_, rfl⟩
            rw [hen] at HD
            cases en with
            | false =>
              go_wp2_with (first | (go_at_call 26; ((refine HD.out _ ?_); intro w5 t5 k5)) | (go_at_call 27; (refine sover_any t5.tk ?_)))
              exact H.out _ t5.kp
            | true =>
              go_wp2_with (first | (go_at_call 26; ((refine HD.out _ ?_); intro w5 t5 k5)) | (go_at_call 27; (refine sover_any t5.tk ?_)) | (go_at_call 21; ((refine sask_overE hw.ml t5 ?_); intro w6 t6)))
              exact H.out _ (t6.kp.alloc _)
end
end
end Go.Proofs.YtnmafahbdfilcaaGreatDoor
