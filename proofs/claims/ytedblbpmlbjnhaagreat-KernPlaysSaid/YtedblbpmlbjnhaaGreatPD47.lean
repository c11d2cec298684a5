/- pantlerref09: any call; what a kernel's frames are. KernPlays walked. -/
import Derived.Test.YtedblbpmlbjnhaaGreatPD41
import Derived.Test.YtedblbpmlbjnhaaGreatPD46
import Derived.Test.YtedblbpmlbjnhaaGreatPD38
import Derived.Test.YtedblbpmlbjnhaaGreatPD12
import Derived.Test.YtedblbpmlbjnhaaGreatPD44
import Derived.Test.YtedblbpmlbjnhaaGreatPD45
import Derived.BigQuiet
import Derived.Deep.DeepCutAuto
import Derived.Deep.CutBlock
namespace Go.Proofs.YtedblbpmlbjnhaaGreat
/-! ### pantlerref09: any call; what a kernel's frames are. -/
section
open Go.RowKit Go.Shelf
set_option linter.unusedVariables false
set_option linter.unusedSimpArgs false
set_option maxRecDepth 100000
/-- The table's acts that a call asks. -/
def acOf (x : Kc) (s : ByteArray) : Ac :=
  if x.op = 1 then ⟨0, x.env, 0, 0, 0, ⟨#[]⟩⟩ else if x.op = 2 then ⟨1, x.env, x.a, 0, 0, ⟨#[]⟩⟩ else if x.op = 3 then ⟨2, x.env, x.a, 0, x.b, ⟨#[]⟩⟩ else if x.op = 4 then ⟨3, x.env, x.a, x.b, x.c, ⟨#[]⟩⟩ else ⟨4, x.env, x.a, x.b, 0, s⟩
theorem kFB_dDo {k : KS} {x : Kc} {s : ByteArray} (hs : x.s = s.data.toList) (h1 : 1 ≤ x.op) (h5 : x.op ≤ 5) : kFB k x = ⟨(dDo k.fs (acOf x s)).n, (dDo k.fs (acOf x s)).s, (dDo k.fs (acOf x s)).e, { k with fs := (dDo k.fs (acOf x s)).fs }⟩ := by
  rcases (by omega : x.op = 1 ∨ x.op = 2 ∨ x.op = 3 ∨ x.op = 4 ∨ x.op = 5) with h | h | h | h | h
  · simp [kFB, acOf, dDo, h]
  · simp [kFB, acOf, dDo, h]
  · simp [kFB, acOf, dDo, h]
  · simp [kFB, acOf, dDo, h]
  · simp [kFB, acOf, dDo, h, hs]
/-- The frames are somebody's, or nobody's. -/
def GOx (k : KS) : Prop := ∃ M : Int, 0 ≤ M ∧ GOk M k.fs
theorem GOk.turnQ {m : Int} {fs : List Fr} {a : Ac} (h : GOk m fs) (hm : 0 ≤ m) (hpg : ∀ x ∈ fs, x.bs.length = 256) : GOk (m + 1) (dDo fs a).fs := by
  have ht := dDo_turn hpg a
  have hb : Hb m fs := h.b
  exact ⟨hb.turn hm ht, h.o.turn ht, h.h.turn (fun x hx => (h.b x hx).1) ht⟩
theorem kFB_fs6 {k : KS} {x : Kc} (h : 6 ≤ x.op) : (kFB k x).k.fs = k.fs := by
  unfold kFB
  rw [if_neg (by omega), if_neg (by omega), if_neg (by omega), if_neg (by omega), if_neg (by omega)]
  split
  · rfl
  · split <;> rfl
theorem GOx.step {k k' : KS} {x : Kc} {n e : Int} {l : List UInt8} (h : GOx k) (hpg : ∀ y ∈ k.fs, y.bs.length = 256) (hs : kStep k x n l e k') : GOx k' := by
  obtain ⟨M, hM, hg⟩ := h
  unfold kStep at hs
  split at hs
  · obtain ⟨_, _, _, rfl⟩ := hs; exact ⟨M, hM, hg⟩
  · rename_i hno
    split at hs
    · rename_i h8
      by_cases h5 : x.op ≤ 5
      · rw [kFB_dDo (s := ⟨x.s.toArray⟩) (by simp) (by omega) h5] at hs
        injection hs with e1 e2 e3 e4
        subst e4
        exact ⟨M + 1, by omega, hg.turnQ hM hpg⟩
      · have := kFB_fs6 (k := k) (x := x) (by omega)
        rw [hs] at this
        exact ⟨M, hM, by rw [show k'.fs = k.fs from this]; exact hg⟩
    · split at hs
      · obtain ⟨hb, _⟩ := hs
        rcases hb with ⟨_, _, _, rfl⟩ | ⟨_, _, _, _, rfl⟩ | ⟨_, _, _, _, y, _, _, _, rfl⟩ <;> exact ⟨M, hM, hg⟩
      · split at hs
        · obtain ⟨hb, _⟩ := hs
          rcases hb with ⟨_, _, rfl⟩ | ⟨i, _, _, rfl⟩ <;> exact ⟨M, hM, hg⟩
        · split at hs
          · obtain ⟨hb, _⟩ := hs
            rcases hb with ⟨_, _, _, rfl⟩ | ⟨_, _, _, _, rfl⟩ | ⟨_, _, _, _, y, _, _, rfl⟩
            · exact ⟨M, hM, hg⟩
            · exact ⟨M, hM, hg⟩
            · exact ⟨M + x.l.length, by omega, GOk.gHoldAll x.l hg⟩
          · split at hs
            · split at hs
              · rcases hs with ⟨_, _, _, _, rfl⟩ | ⟨y, q, _, _, _, _, rfl⟩ <;> exact ⟨M, hM, hg⟩
              · rcases hs with ⟨_, _, _, _, rfl⟩ | ⟨y, q, _, _, _, _, rfl⟩ <;> exact ⟨M, hM, hg⟩
            · obtain ⟨_, _, _, rfl⟩ := hs; exact ⟨M, hM, hg⟩
theorem GOx.dep {k k' : KS} {env e : Int} {l : List UInt8} (h : GOx k) (hi : HInv k) (hd : kDep k l env e k') : GOx k' := by
  obtain ⟨M, hM, hg⟩ := h
  rcases hd with ⟨_, _, _, _, rfl⟩ | ⟨y, q, hq, _, _, _, rfl⟩
  · exact ⟨M, hM, hg⟩
  · exact ⟨M, hM, hg.gDropAll (hi.first hq).1⟩
theorem GOx.arr {k k' : KS} {s : List UInt8} {n e : Int} (h : GOx k) (ha : kArr k s n e k') : GOx k' := by
  obtain ⟨M, hM, hg⟩ := h
  exact ⟨M, hM, by rw [(kArr_inv ha).1]; exact hg⟩
section
variable {R : Ending → World → Prop} {w0 w : World} {B m : Nat} {q : QA} {k : KS} {f1 f2 : List Bnd}
/-- What the document's kernel shows hangs on the keys alone. -/
theorem Qn.key_fl (h : Qn w0 B w q { k with fl := f1 }) (he : f1.map bkey = f2.map bkey) : Qn w0 B w q { k with fl := f2 } := by
  have hl : f1.length = f2.length := by have := congrArg List.length he; simpa using this
  obtain ⟨ys, hy⟩ := h.f
  exact ⟨h.old, h.hB, h.g.cast (by simp [QA.cells, hl]), h.t, h.d, ⟨ys, hy.key.trans he, hy.rd, hy.p⟩, h.in1, h.in2, h.o, h.new, h.nM, h.nO, ⟨by have := h.cp.1; simp only at this ⊢; omega, h.cp.2⟩⟩
theorem Qn.key_qo {f1 f2 : List Tq} (h : Qn w0 B w q { k with qo := f1 }) (he : f1.map tkey = f2.map tkey) : Qn w0 B w q { k with qo := f2 } := by
  have hl : f1.length = f2.length := by have := congrArg List.length he; simpa using this
  obtain ⟨ys, hy⟩ := h.o
  exact ⟨h.old, h.hB, h.g.cast (by simp [QA.cells, hl]), h.t, h.d, h.f, h.in1, h.in2, ⟨ys, hy.key.trans he, hy.rd, hy.p⟩, h.new, h.nM, h.nO, ⟨h.cp.1, h.cp.2.1, h.cp.2.2.1, by have := h.cp.2.2.2; simp only at this ⊢; omega⟩⟩
theorem RcP.same_fl {n e : Int} {l : List UInt8} {nx : Nat} {y z : Bnd} (h : RcP R w0 B w q { k with fl := k.fl ++ [z], nx := nx } n l e) (he : bkey y = bkey z) : RcP R w0 B w q { k with fl := k.fl ++ [y], nx := nx } n l e :=
  fun q' w' h1 h2 h3 h4 => h q' w' h1 (Qn.key_fl (k := { k with nx := nx }) h2 (by simp [he])) h3 h4
theorem RcP.same_qo {n e : Int} {l : List UInt8} {fs : List Fr} {y z : Tq} (h : RcP R w0 B w q { k with fs := fs, qo := k.qo ++ [z] } n l e) (he : tkey y = tkey z) : RcP R w0 B w q { k with fs := fs, qo := k.qo ++ [y] } n l e :=
  fun q' w' h1 h2 h3 h4 => h q' w' h1 (Qn.key_qo (k := { k with fs := fs }) h2 (by simp [he])) h3 h4
theorem rcall_any (hQ : Qn w0 B w q k) (hc : k.cnt m) (hm : m ≤ 10000) (hpg : ∀ y ∈ k.fs, y.bs.length = 256) (hr : k.qo.length ≤ 16) (x : Kc) (c : Cl) (hx : KCl x c) (hcc : QC w0 c) (hi : i64B c.b) {n e : Int} {l : List UInt8} {k' : KS} (hs : kStep k x n l e k') (h : RcP R w0 B w q k' n l e) :
    Calls Tryz.prog 11 #[.pointer (some ⟨q.g, 0, none⟩), .agg #[.int .i64 c.op, .int .i64 c.env, .int .i64 c.a, .int .i64 c.b, .int .i64 c.c, .string c.s, .slice c.p.A c.p.n c.p.c, .slice c.l.A c.l.n c.l.c]] w R := by
  have hln := hc.ln
  have hnx := hc.nx
  have hfl := hc.fl
  have hco := hc.co
  have hF : Fok (16 * m) k.fs := ⟨fun y hy => by have := hc.ho y hy; omega, hpg⟩
  unfold kStep at hs
  rw [hx.env, hx.op] at hs
  split at hs
  · rename_i hno
    obtain ⟨rfl, rfl, rfl, rfl⟩ := hs
    exact rc_no hQ c hno h
  · rename_i hno
    have he1 : 1 ≤ c.env := by omega
    have he2 : c.env ≤ 2 := by omega
    split at hs
    · rename_i h8
      by_cases h5 : c.op ≤ 5
      · rw [kFB_dDo (s := c.s) hx.s (by rw [hx.op]; omega) (by rw [hx.op]; omega)] at hs
        injection hs with e1 e2 e3 e4
        subst e1; subst e2; subst e3; subst e4
        rcases (by omega : c.op = 1 ∨ c.op = 2 ∨ c.op = 3 ∨ c.op = 4 ∨ c.op = 5) with h' | h' | h' | h' | h'
        · have ea : acOf x c.s = ⟨0, c.env, 0, 0, 0, ⟨#[]⟩⟩ := by unfold acOf; rw [hx.op, hx.env, if_pos h']
          rw [ea] at h; rw [h']; exact rc_1 hQ hF hm c hi he1 he2 h
        · have ea : acOf x c.s = ⟨1, c.env, c.a, 0, 0, ⟨#[]⟩⟩ := by unfold acOf; rw [hx.op, hx.env, hx.a, if_neg (by omega), if_pos h']
          rw [ea] at h; rw [h']; exact rc_2 hQ hF hm c hi he1 he2 h
        · have ea : acOf x c.s = ⟨2, c.env, c.a, 0, c.b, ⟨#[]⟩⟩ := by unfold acOf; rw [hx.op, hx.env, hx.a, hx.b, if_neg (by omega), if_neg (by omega), if_pos h']
          rw [ea] at h; rw [h']; exact rc_3 hQ hF hm c hi he1 he2 h
        · have ea : acOf x c.s = ⟨3, c.env, c.a, c.b, c.c, ⟨#[]⟩⟩ := by unfold acOf; rw [hx.op, hx.env, hx.a, hx.b, hx.c, if_neg (by omega), if_neg (by omega), if_neg (by omega), if_pos h']
          rw [ea] at h; rw [h']; exact rc_4 hQ hF hm c hi he1 he2 h
        · have ea : acOf x c.s = ⟨4, c.env, c.a, c.b, 0, c.s⟩ := by unfold acOf; rw [hx.op, hx.env, hx.a, hx.b, if_neg (by omega), if_neg (by omega), if_neg (by omega), if_neg (by omega)]
          rw [ea] at h; rw [h']; exact rc_5 hQ hF hm c hi he1 he2 h
      · have h6 := hs
        unfold kFB at h6
        rw [hx.op, hx.env, hx.a, hx.s, if_neg (by omega), if_neg (by omega), if_neg (by omega), if_neg (by omega), if_neg (by omega)] at h6
        by_cases o6 : c.op = 6
        · rw [if_pos o6] at h6
          injection h6 with e1 e2 e3 e4
          subst e1; subst e2; subst e3; subst e4
          rw [o6]; exact rc_6 hQ (by omega) c he1 he2 h
        · rw [if_neg o6] at h6
          by_cases o7 : c.op = 7
          · rw [if_pos o7] at h6
            injection h6 with e1 e2 e3 e4
            subst e1; subst e2; subst e3; subst e4
            rw [o7]; exact rc_7 hQ (by omega) c he1 he2 h
          · rw [if_neg o7] at h6
            injection h6 with e1 e2 e3 e4
            subst e1; subst e2; subst e3; subst e4
            have o8 : c.op = 8 := by omega
            rw [o8]; exact rc_8 hQ (by omega) c he1 he2 h
    · split at hs
      · rename_i o9
        obtain ⟨hb, rfl⟩ := hs
        rw [o9]
        refine rc_9 hQ (by omega) hfl c hcc he1 he2 (fun h8 => ?_) (fun h8 hf => ?_) (fun h8 hf y hy => ?_)
        · rcases hb with ⟨_, rfl, rfl, rfl⟩ | ⟨hl, _⟩ | ⟨hl, _⟩
          · exact h
          · omega
          · omega
        · rw [← hx.p] at hf
          rcases hb with ⟨hl, _⟩ | ⟨_, _, rfl, rfl, rfl⟩ | ⟨_, hf2, _⟩
          · omega
          · exact h
          · rw [hf] at hf2; cases hf2
        · rw [← hx.p] at hf
          rcases hb with ⟨hl, _⟩ | ⟨_, hf2, _⟩ | ⟨_, _, rfl, rfl, z, z1, z2, z3, rfl⟩
          · omega
          · rw [hf] at hf2; cases hf2
          · exact h.same_fl (y := y) (z := z) (by rw [hy]; unfold bkey; rw [z1, z2, z3, hx.env, hx.p])
      · split at hs
        · rename_i o10
          obtain ⟨hb, rfl, rfl⟩ := hs
          rw [o10]
          unfold kUnb at hb
          rw [hx.a, hx.env] at hb
          refine rc_10 hQ hfl c he1 he2 (fun h8 => ?_) (fun i h8 => ?_)
          · rcases hb with ⟨_, rfl, rfl⟩ | ⟨i, hi', _⟩
            · exact h
            · rw [h8] at hi'; cases hi'
          · rcases hb with ⟨hi', _⟩ | ⟨j, hi', rfl, rfl⟩
            · rw [h8] at hi'; cases hi'
            · rw [h8] at hi'; injection hi' with hi'; subst hi'; exact h
        · split at hs
          · rename_i o11
            obtain ⟨hb, rfl⟩ := hs
            rw [o11]
            unfold kSend at hb
            rw [hx.env, hx.l] at hb
            refine rc_11 hQ (fun y hy => by have := hc.ho y hy; omega) (by omega) hr c hcc he1 he2 (fun h8 => ?_) (fun h8 hf => ?_) (fun h8 hf y hy => ?_)
            · rcases hb with ⟨_, rfl, rfl, rfl⟩ | ⟨hl, _⟩ | ⟨hl, _⟩
              · exact h
              · omega
              · omega
            · rcases hb with ⟨hl, _⟩ | ⟨_, _, rfl, rfl, rfl⟩ | ⟨_, hf2, _⟩
              · omega
              · exact h
              · exact absurd hf2 hf
            · rcases hb with ⟨hl, _⟩ | ⟨_, hf2, _⟩ | ⟨_, _, rfl, rfl, z, z1, z2, rfl⟩
              · omega
              · exact absurd hf hf2
              · exact h.same_qo (y := y) (z := z) (by rw [hy]; unfold tkey; rw [z1, z2])
          · split at hs
            · rename_i o12
              rw [o12]
              split at hs
              · rename_i ev
                refine rc_12a hQ c ev (fun hq => ?_) (fun y q' hq => ?_)
                · rcases hs with ⟨_, rfl, rfl, rfl, rfl⟩ | ⟨y, q', hq', _⟩
                  · exact h
                  · rw [hq] at hq'; cases hq'
                · rcases hs with ⟨hq', _⟩ | ⟨y2, q2, hq', rfl, rfl, rfl, rfl⟩
                  · rw [hq] at hq'; cases hq'
                  · rw [hq] at hq'; injection hq' with a1 a2; subst a1; subst a2; exact h
              · rename_i ev
                refine rc_12b hQ c (by omega) (fun hq => ?_) (fun y q' hq => ?_)
                · rcases hs with ⟨_, rfl, rfl, rfl, rfl⟩ | ⟨y, q', hq', _⟩
                  · exact h
                  · rw [hq] at hq'; cases hq'
                · rcases hs with ⟨hq', _⟩ | ⟨y2, q2, hq', rfl, rfl, rfl, rfl⟩
                  · rw [hq] at hq'; cases hq'
                  · rw [hq] at hq'; injection hq' with a1 a2; subst a1; subst a2; exact h
            · obtain ⟨rfl, rfl, rfl, rfl⟩ := hs
              have o13 : c.op = 13 := by omega
              rw [o13]; exact rc_13 hQ c he1 he2 h
end
end
/-! ### KernPlays walked. -/
section
open Go.RowKit Go.Shelf
set_option linter.unusedVariables false
set_option linter.unusedSimpArgs false
set_option maxRecDepth 100000
theorem convQ (s : ByteArray) : ∃ (bw : World → World) (cw : World → Nat), (∀ W, (convert 9 37 (.string s)).run Tryz.prog W = .ok (.slice (some ⟨W.heap.size, 0, none⟩) s.size (cw W)) (bw W)) ∧ (∀ W, s.size ≤ cw W) ∧
    (∀ (S : List Nat) (a w : World), Kp S a w → Kp S a (bw w)) ∧ (∀ (w : World) (b : Nat), b = w.heap.size → Tb (bw w) 5 (some ⟨b, 0, none⟩) (bts s.data.toList)) :=
  ⟨fun W => Lib.bytesWorld W 5 s, fun W => grownCap W s.size 0 5, fun W => conv_sb W s, fun W => grownCap_ge _ _ _ _, fun S a w k => k.bytesWorld _ _, fun w b hb => Tb.fresh w hb⟩
section
variable {R : Ending → World → Prop} {w w0 : World} {B B2 m : Nat} {a : KA} {q : QA} {k : KS}
theorem dnew_bad (n : Int) (hn : n < 1 ∨ 512 < n) (h : R (.returned (.tuple #[.pointer none, .int .i64 1])) w) : Calls Tryz.prog 41 #[.int .i64 n] w R := by
  have H := Lib.hid h
  clear h
  by_cases h1 : n < 1
  · clear hn
    go_enter Tryz.func41, Tryz.ntmps41
    go_wp2
    exact H.out
  · have h2 : 512 < n := by omega
    clear hn
    go_enter Tryz.func41, Tryz.ntmps41
    go_wp2
    exact H.out
set_option maxHeartbeats 2000000 in
theorem knew_bad (F N : Int) (hn : F < 1 ∨ 256 < F ∨ N < 4 ∨ 512 < N) (h : ∀ w', Kp [] w w' → R (.returned (.tuple #[.pointer none, .int .i64 1])) w') : Calls Tryz.prog 7 #[.int .i64 F, .int .i64 N] w R := by
  have H := Lib.hid h
  clear h
  by_cases h1 : F < 1 ∨ 256 < F
  · have HN : Hid (∀ (R : Ending → World → Prop) (w : World), R (.returned (.tuple #[.pointer none, .int .i64 1])) w → Calls Tryz.prog 40 #[.int .i64 F] w R) := Lib.hid (fun R w h => new_bad F h1 h)
    clear hn h1
    go_enter Tryz.func7, Tryz.ntmps7
    go_wp2_with (go_at_call 40; (refine HN.out _ _ ?_))
    first | exact H.out _ (Kp.refl _ _) | exact H.out _ ((Kp.refl _ _).alloc _)
  · obtain ⟨f, rfl⟩ : ∃ f : Nat, F = f := ⟨F.toNat, by omega⟩
    have HN : Hid (∀ (R : Ending → World → Prop) (w : World), (∀ bT w', Kp [] w w' → R (.returned (.tuple #[.pointer (some ⟨bT, 0, none⟩), .int .i64 0])) w') → Calls Tryz.prog 40 #[.int .i64 f] w R) := Lib.hid (fun R w h => new_any f (by omega) (by omega) (fun bT bL w' _ _ k _ => h bT w' k))
    by_cases h2 : N < 1 ∨ 512 < N
    · have HD : Hid (∀ (R : Ending → World → Prop) (w : World), R (.returned (.tuple #[.pointer none, .int .i64 1])) w → Calls Tryz.prog 41 #[.int .i64 N] w R) := Lib.hid (fun R w h => dnew_bad N h2 h)
      clear hn h1 h2
      go_enter Tryz.func7, Tryz.ntmps7
      go_wp2_with (first | (go_at_call 40; ((refine HN.out _ _ ?_); intro bT w1 k1)) | (go_at_call 41; (refine HD.out _ _ ?_)))
      exact H.out _ k1
    · obtain ⟨n, rfl⟩ : ∃ n : Nat, N = n := ⟨N.toNat, by omega⟩
      have HD : Hid (∀ (R : Ending → World → Prop) (w : World), (∀ bD w', Kp [] w w' → R (.returned (.tuple #[.pointer (some ⟨bD, 0, none⟩), .int .i64 0])) w') → Calls Tryz.prog 41 #[.int .i64 n] w R) := Lib.hid (fun R w h => dnew2_any n w (by omega) (by omega) (fun bD bL bO w' _ _ _ k _ => h bD w' k))
      have hq : (n : Int).tdiv 4 = 0 := by rw [Int.tdiv_eq_ediv_of_nonneg (by omega)]; omega
      clear hn h1 h2
      go_enter Tryz.func7, Tryz.ntmps7
      go_wp2_with (first | (go_at_call 40; ((refine HN.out _ _ ?_); intro bT w1 k1)) | (go_at_call 41; ((refine HD.out _ _ ?_); intro bD w2 k2)))
      exact H.out _ (k1.trans k2)
theorem kdisk_any (hK : Kn w B a k) (h : R (.returned (.pointer (some ⟨a.bD, 0, none⟩))) w) : Calls Tryz.prog 18 #[.pointer (some ⟨a.g, 0, none⟩)] w R := by
  have c1 : w.cell? ⟨a.g, 1, none⟩ = some (.pointer (some ⟨a.bD, 0, none⟩)) := hK.cell 1
  have H := Lib.hid h
  clear hK h
  go_enter Tryz.func18, Tryz.ntmps18
  go_wp2
  exact H.out
theorem kwaits_any (hK : Kn w B a k) (h : R (.returned (.int .i64 k.d.ln.length)) w) : Calls Tryz.prog 19 #[.pointer (some ⟨a.bD, 0, none⟩)] w R := by
  have c2 : w.cell? ⟨a.bD, 2, none⟩ = some (.slice a.dA k.d.ln.length a.dc) := hK.d.dd.cell 2
  have H := Lib.hid h
  clear hK h
  go_enter Tryz.func19, Tryz.ntmps19
  go_wp2
  exact H.out
theorem Qn.key_q1 {f1 f2 : List Sl} (h : Qn w0 B w q { k with q1 := f1 }) (he : f1.map slV = f2.map slV) : Qn w0 B w q { k with q1 := f2 } := by
  have hl : f1.length = f2.length := by have := congrArg List.length he; simpa using this
  have hi := h.in1
  simp only at hi
  rw [he] at hi
  exact ⟨h.old, h.hB, h.g.cast (by simp [QA.cells, hl]), h.t, h.d, h.f, hi, h.in2, h.o, h.new, h.nM, h.nO, ⟨h.cp.1, by have := h.cp.2.1; simp only at this ⊢; omega, h.cp.2.2⟩⟩
theorem Qn.key_q2 {f1 f2 : List Sl} (h : Qn w0 B w q { k with q2 := f1 }) (he : f1.map slV = f2.map slV) : Qn w0 B w q { k with q2 := f2 } := by
  have hl : f1.length = f2.length := by have := congrArg List.length he; simpa using this
  have hi := h.in2
  simp only at hi
  rw [he] at hi
  exact ⟨h.old, h.hB, h.g.cast (by simp [QA.cells, hl]), h.t, h.d, h.f, h.in1, hi, h.o, h.new, h.nM, h.nO, ⟨h.cp.1, h.cp.2.1, by have := h.cp.2.2.1; simp only at this ⊢; omega, h.cp.2.2.2⟩⟩
theorem RaP.same1 {n e : Int} {f1 f2 : List Sl} (h : RaP R w0 B w q { k with q1 := f1 } n e) (he : f2.map slV = f1.map slV) : RaP R w0 B w q { k with q1 := f2 } n e :=
  fun q' w' h1 h2 h3 h4 => h q' w' h1 (h2.key_q1 he) h3 h4
theorem RaP.same2 {n e : Int} {f1 f2 : List Sl} (h : RaP R w0 B w q { k with q2 := f1 } n e) (he : f2.map slV = f1.map slV) : RaP R w0 B w q { k with q2 := f2 } n e :=
  fun q' w' h1 h2 h3 h4 => h q' w' h1 (h2.key_q2 he) h3 h4
/-- Both kernels. -/
structure K2 (w0 w : World) (B : Nat) (a : KA) (B2 : Nat) (q : QA) (k : KS) (m : Nat) : Prop where
  kn : Kn w B a k
  qn : Qn w0 B2 w q k
  hB : w0.heap.size ≤ B
  ag : a.g < B2
  c : k.cnt m
  h : HInv k
  f : FInv k
  o : GOx k
theorem K2.kp {w' : World} (h : K2 w0 w B a B2 q k m) (hk : Kp [] w w') : K2 w0 w' B a B2 q k m := ⟨h.kn.off0 hk, h.qn.kp hk, h.hB, h.ag, h.c, h.h, h.f, h.o⟩
/-- The program's call was done, the document's follows. -/
theorem k2_call (h2 : K2 w0 w B a B2 q k m) (hm : m ≤ 5000) (c : Cl) (hc : QC w0 c) (hi : i64B c.b) {A5 A6 A7 : Option Addr} {c5 c6 c7 : Nat} (hx : Kc.ok w ⟨c.op, c.env, c.a, c.b, c.c, A5, c.s.size, c5, c.s.data.toList, A6, c.p.n, c6, c.p.l, A7, c.l.n, c7, c.l.l⟩)
    (h : ∀ n A len cc l e w' a' k', Tb w' 5 A (bts l) → l.length = len → (∀ (R : Ending → World → Prop) w1, Kp [] w' w1 → (∀ w2 q2, K2 w0 w2 B a' B2 q2 k' (m + 1) → q2.g = q.g → q2.bM = q.bM → q2.bD = q.bD → (∀ A xs, Tb w1 5 A xs → Tb w2 5 A xs) → (∀ g cs, Bk w1 g 39 cs → Bk w2 g 39 cs) → R (.returned (.tuple #[.int .i64 n, .string (S l), .int .i64 e])) w2) → Calls Tryz.prog 11 #[.pointer (some ⟨q.g, 0, none⟩), .agg #[.int .i64 c.op, .int .i64 c.env, .int .i64 c.a, .int .i64 c.b, .int .i64 c.c, .string c.s, .slice c.p.A c.p.n c.p.c, .slice c.l.A c.l.n c.l.c]] w1 R) → a'.g = a.g → a'.bT = a.bT → a'.g ∉ q.own → Kq B w w' → R (.returned (.tuple #[.agg #[.int .i64 n, .slice A len cc], .int .i64 e])) w') :
    Calls Tryz.prog 9 #[.pointer (some ⟨a.g, 0, none⟩), .agg #[.int .i64 c.op, .int .i64 c.env, .int .i64 c.a, .int .i64 c.b, .int .i64 c.c, .slice A5 c.s.size c5, .slice A6 c.p.n c6, .slice A7 c.l.n c7]] w R := by
  refine kcall_any (x := ⟨c.op, c.env, c.a, c.b, c.c, A5, c.s.size, c5, c.s.data.toList, A6, c.p.n, c6, c.p.l, A7, c.l.n, c7, c.l.l⟩) h2.kn h2.c (by omega) hx (fun n A len cc l e k' a' w' hs hq hk hl ht => ?_)
  have hno : a'.g ∉ q.own := fun hm => by have h1 := h2.qn.new _ hm; have h3 := h2.ag; rw [hk.2.1] at h1; omega
  refine h n A len cc l e w' a' k' ht hl (fun R w1 k1 hr => ?_) hk.2.1 hk.2.2 hno hq
  have q1 := (h2.qn.kq hq h2.hB).kp k1
  refine rcall_any q1 h2.c (by omega) h2.kn.t.pg h2.kn.o.room _ c ⟨rfl, rfl, rfl, rfl, rfl, rfl, rfl, rfl⟩ hc hi hs.out (fun q' w2 kk hq2 ho hb => ?_)
  have hg' : q'.g = q.g := by have := congrArg (·.head?) ho; simpa [QA.own] using this
  refine hr w2 q' ⟨(hk.1.off0 k1).offQ q1 (by rw [hk.2.1]; exact h2.ag) kk, hq2, h2.hB, by rw [hk.2.1]; exact h2.ag, kStep_cnt hs.out h2.c h2.kn.o.room, h2.h.step hs.out, h2.f.step hx.po hs.out, h2.o.step h2.kn.t.pg hs.out⟩ hg' hb.1 hb.2 (fun A xs ht => ht.kp kk (q1.offO _ (by decide) (by decide) (by decide) (by decide))) (fun g cs hb => hb.off kk (q1.offO _ (by decide) (by decide) (by decide) (by decide)))
theorem k2_arr (h2 : K2 w0 w B a B2 q k m) (hm : m ≤ 5000) {ad : Addr} {n c : Nat} {s : ByteArray} (hs : Tb w 5 (some ad) (bts s.data.toList)) (hsl : s.size = n) (hn : n ≤ 100000) (hc : n ≤ c)
    (h : ∀ nn e w' a' k', (∀ (R : Ending → World → Prop) w1, Kp [] w' w1 → (∀ w2 q2, K2 w0 w2 B a' B2 q2 k' (m + 1) → q2.g = q.g → q2.bM = q.bM → q2.bD = q.bD → (∀ A xs, Tb w1 5 A xs → Tb w2 5 A xs) → (∀ g cs, Bk w1 g 39 cs → Bk w2 g 39 cs) → R (.returned (.tuple #[.int .i64 nn, .int .i64 e])) w2) → Calls Tryz.prog 13 #[.pointer (some ⟨q.g, 0, none⟩), .string s] w1 R) → a'.g = a.g → a'.bT = a.bT → Kq B w w' → R (.returned (.tuple #[.int .i64 nn, .int .i64 e])) w') :
    Calls Tryz.prog 12 #[.pointer (some ⟨a.g, 0, none⟩), .slice (some ad) n c] w R := by
  have hl : s.data.toList.length = n := by rw [Array.length_toList]; exact hsl
  refine karr_any h2.kn h2.c (by omega) h2.f hs hl (by omega) hc (fun nn e k' w' ha hq hk => ?_)
  refine h nn e w' a k' (fun R w1 k1 hr => ?_) rfl rfl hq
  have ha := ha.out
  have q1 := (h2.qn.kq hq h2.hB).kp k1
  have kn1 := hk.off0 k1
  have fin : RaP R w0 B2 w1 q k' nn e := fun q' w2 kk hq2 ho hb => by
    have hg' : q'.g = q.g := by have := congrArg (·.head?) ho; simpa [QA.own] using this
    exact hr w2 q' ⟨kn1.offQ q1 h2.ag kk, hq2, h2.hB, h2.ag, kArr_cnt ha h2.c, h2.h.arr ha, h2.f.arr ha, h2.o.arr ha⟩ hg' hb.1 hb.2 (fun A xs ht => ht.kp kk (q1.offO _ (by decide) (by decide) (by decide) (by decide))) (fun g cs hb => hb.off kk (q1.offO _ (by decide) (by decide) (by decide) (by decide)))
  have es : s = S s.data.toList := rfl
  rw [es]
  refine rarr_any q1 h2.c.fl h2.f h2.kn.i1.room h2.kn.i2.room s.data.toList (by omega) (fun h1 => ?_) (fun h1 h3 => ?_) (fun h1 b hb he h16 => ?_) (fun h1 b hb he h16 y hy => ?_) (fun h1 b hb he h16 => ?_) (fun h1 b hb he h16 y hy => ?_)
  · rcases ha with ⟨_, rfl, rfl, rfl⟩ | ⟨hx, _⟩ | ⟨hx, _⟩ | ⟨hx, _⟩
    · exact fin
    · omega
    · omega
    · omega
  · rcases ha with ⟨hx, _⟩ | ⟨_, _, rfl, rfl, rfl⟩ | ⟨_, b, hb, _⟩ | ⟨_, b, hb, _⟩
    · omega
    · exact fin
    · rw [h3] at hb; cases hb
    · rw [h3] at hb; cases hb
  · rcases ha with ⟨hx, _⟩ | ⟨_, hx, _⟩ | ⟨_, b2, hb2, _, ⟨_, rfl, rfl, rfl⟩ | ⟨hx, _⟩⟩ | ⟨_, b2, hb2, he2, _⟩
    · omega
    · rw [hb] at hx; cases hx
    · exact fin
    · omega
    · rw [hb] at hb2; injection hb2 with hb2; subst hb2; omega
  · rcases ha with ⟨hx, _⟩ | ⟨_, hx, _⟩ | ⟨_, b2, hb2, _, ⟨hx, _⟩ | ⟨_, rfl, rfl, z, hz, rfl⟩⟩ | ⟨_, b2, hb2, he2, _⟩
    · omega
    · rw [hb] at hx; cases hx
    · omega
    · exact fin.same1 (by simp [slV, hy, hz])
    · rw [hb] at hb2; injection hb2 with hb2; subst hb2; omega
  · rcases ha with ⟨hx, _⟩ | ⟨_, hx, _⟩ | ⟨_, b2, hb2, he2, _⟩ | ⟨_, b2, hb2, _, ⟨_, rfl, rfl, rfl⟩ | ⟨hx, _⟩⟩
    · omega
    · rw [hb] at hx; cases hx
    · rw [hb] at hb2; injection hb2 with hb2; subst hb2; omega
    · exact fin
    · omega
  · rcases ha with ⟨hx, _⟩ | ⟨_, hx, _⟩ | ⟨_, b2, hb2, he2, _⟩ | ⟨_, b2, hb2, _, ⟨hx, _⟩ | ⟨_, rfl, rfl, z, hz, rfl⟩⟩
    · omega
    · rw [hb] at hx; cases hx
    · rw [hb] at hb2; injection hb2 with hb2; subst hb2; omega
    · omega
    · exact fin.same2 (by simp [slV, hy, hz])
theorem k2_dep (h2 : K2 w0 w B a B2 q k m) (hm : m ≤ 5000)
    (h : ∀ A len cc l env e w' a' k', Tb w' 5 A (bts l) → l.length = len → (∀ (R : Ending → World → Prop) w1, Kp [] w' w1 → (∀ w2 q2, K2 w0 w2 B a' B2 q2 k' (m + 1) → q2.g = q.g → q2.bM = q.bM → q2.bD = q.bD → (∀ A xs, Tb w1 5 A xs → Tb w2 5 A xs) → (∀ g cs, Bk w1 g 39 cs → Bk w2 g 39 cs) → R (.returned (.tuple #[.string (S l), .int .i64 env, .int .i64 e])) w2) → Calls Tryz.prog 15 #[.pointer (some ⟨q.g, 0, none⟩)] w1 R) → a'.g = a.g → a'.bT = a.bT → Kq B w w' → R (.returned (.tuple #[.slice A len cc, .int .i64 env, .int .i64 e])) w') :
    Calls Tryz.prog 14 #[.pointer (some ⟨a.g, 0, none⟩)] w R := by
  refine kdep_any h2.kn h2.c (by omega) (fun y q' hq => (h2.h.first hq).1) (fun A len cc l env e k' a' w' hd hq hk hl ht => ?_)
  refine h A len cc l env e w' a' k' ht hl (fun R w1 k1 hr => ?_) hk.2.1 hk.2.2 hq
  have hd := hd.out
  have q1 := (h2.qn.kq hq h2.hB).kp k1
  have kn1 := hk.1.off0 k1
  have fin : RdP R w0 B2 w1 q k' l env e := fun q' w2 kk hq2 ho hb => by
    have hg' : q'.g = q.g := by have := congrArg (·.head?) ho; simpa [QA.own] using this
    exact hr w2 q' ⟨kn1.offQ q1 (by rw [hk.2.1]; exact h2.ag) kk, hq2, h2.hB, by rw [hk.2.1]; exact h2.ag, kDep_cnt hd h2.h h2.c, h2.h.dep hd, h2.f.dep hd, h2.o.dep h2.h hd⟩ hg' hb.1 hb.2 (fun A xs ht => ht.kp kk (q1.offO _ (by decide) (by decide) (by decide) (by decide))) (fun g cs hb => hb.off kk (q1.offO _ (by decide) (by decide) (by decide) (by decide)))
  have hcd := h2.c.dn
  refine rdep_any q1 h2.kn.t.pg (fun y hy => by have := h2.c.ho y hy; omega) (by omega) (fun y q' hq => (h2.h.first hq).1) (fun hq => ?_) (fun y q' hq => ?_)
  · rcases hd with ⟨_, rfl, rfl, rfl, rfl⟩ | ⟨y, q', hq', _⟩
    · exact fin
    · rw [hq] at hq'; cases hq'
  · rcases hd with ⟨hq', _⟩ | ⟨y2, q2, hq', rfl, rfl, rfl, rfl⟩
    · rw [hq] at hq'; cases hq'
    · rw [hq] at hq'; injection hq' with a1 a2; subst a1; subst a2; exact fin
end
end
end Go.Proofs.YtedblbpmlbjnhaaGreat
