/- PoolNil walked. The part of bytes, as whole numbers; a pool's Part. A pool's part of pieces, whatever its slots were told. -/
import Derived.Test.YtedblbpmlbjnhaaGreatPE42
import Derived.Lib.SlBytesConst
import Derived.Test.YtedblbpmlbjnhaaGreatPE41
import Derived.Deep.CutBlock
import Derived.Deep.DeepCutAuto
import Derived.BigQuiet
import Derived.Deep.RegionHeldLaw
import Derived.Test.YtedblbpmlbjnhaaGreatPE39
namespace Go.Proofs.YtedblbpmlbjnhaaGreat
/-! ### PoolNil walked. -/
section
open Go.RowKit Go.Shelf
set_option linter.unusedVariables false
set_option linter.unusedSimpArgs false
set_option maxRecDepth 100000
theorem hoz {fs : List Fr} (h : hoIn fs 0) (f : Int) : tHolds fs f = 0 := by
  unfold tHolds
  cases hx : fat fs f with
  | none => rfl
  | some x => have := hoIn_at h hx; simp only; omega
theorem fsN_hoz (F i : Nat) : hoIn (fsN F i) 0 := fun y hy => by
  simp only [fsN, List.mem_append] at hy
  rcases hy with hy | hy
  · rw [List.eq_of_mem_replicate hy]; simp [f1, fz]
  · rw [List.eq_of_mem_replicate hy]; simp [fz]
theorem kw_cnt {k : KS} {m : Nat} (h : k.cnt m) (e f o : Int) (s : List UInt8) : ({ k with fs := (tWrite k.fs e f o s).2 } : KS).cnt m := ⟨h.ln, h.nx, h.c1, h.c2, h.co, h.dn, h.fl, tWrite_ho h.ho⟩
/-- The pool of one slot, with its head. -/
def p1h (a b : Nat) : PS := ⟨[⟨0, 2, 0, 1, 1, a, b, false⟩], 0, 0⟩
theorem al_head {f e : Int} {p' : PS} {k' : KS} (h : HeadR (kzi 2 8 1) ⟨psN 1, 0, 0⟩ [120] f e p' k') : f = 0 ∧ e = 0 ∧ ∃ a b, p' = p1h a b ∧ k'.cnt 0 ∧ hoIn k'.fs 0 := by
  have hT : pTake (kzi 2 8 1) ⟨psN 1, 0, 0⟩ = (some 0, ⟨psN 1, 0, 0⟩) := by
    unfold pTake
    have : (psN 1).findIdx? (tkB (kzi 2 8 1)) = some 0 := by
      show [PSl.e 0].findIdx? _ = _
      simp [List.findIdx?_cons, tkB, PSl.e, maB, hoz (show hoIn (kzi 2 8 1).fs 0 from fsN_hoz 2 1)]
    rw [this]
  rcases h with ⟨h, _⟩ | ⟨_, h, _⟩ | ⟨_, i, x, h1, h2, h3, h4, h5, h6⟩
  · simp at h
  · rw [hT] at h; cases h
  · rw [hT] at h1 h2 h5
    simp only [Option.some.injEq] at h1
    subst h1
    have hx : x = PSl.e 0 := by
      have : [PSl.e 0][0]? = some x := h2
      simpa using this.symm
    subst hx
    refine ⟨h3, h4, _, _, h5, ?_, ?_⟩
    · rw [h6]; exact kw_cnt (kzi_cnt 2 8 1) _ _ _ _
    · rw [h6]; exact tWrite_ho (fsN_hoz 2 1)
theorem al_take (k : KS) (a b : Nat) : pTake k (p1h a b) = (none, p1h a b) := by
  unfold pTake
  have : (p1h a b).sl.findIdx? (tkB k) = none := by simp [p1h, List.findIdx?_cons, tkB]
  rw [this]
  simp [p1h, pRnd, maB]
theorem al_get {k k' : KS} {a b : Nat} {f e : Int} {p' : PS} (h : GetR k (p1h a b) 2 0 0 0 f e p' k') : f = 0 ∧ e = 80 ∧ p' = p1h a b ∧ k' = k := by
  have hf : (p1h a b).sl.findIdx? (hasB 2) = none := by simp [p1h, List.findIdx?_cons, hasB]
  rcases h with ⟨h, _⟩ | ⟨_, i, x, h, _⟩ | ⟨_, _, _, h1, h2, h3, h4⟩ | ⟨_, _, i, x, h, _⟩
  · omega
  · rw [hf] at h; cases h
  · rw [al_take] at h3; exact ⟨h1, h2, h3, h4⟩
  · rw [al_take] at h; cases h
theorem al_pins (a b : Nat) : pPins (p1h a b) 0 = 1 := by simp [pPins, p1h, List.findIdx?_cons, pinB]
theorem al_unpin (a b : Nat) : pUnpin (p1h a b) 0 = (0, ⟨[PSl.e 0], 0, 0⟩) := by simp [pUnpin, p1h, List.findIdx?_cons, pinB, PSl.less]
theorem al_pins0 : pPins ⟨[PSl.e 0], 0, 0⟩ 0 = 0 := by simp [pPins, List.findIdx?_cons, pinB, PSl.e]
theorem al_bd (a b : Nat) : (p1h a b).bd 1 := ⟨fun x hx => by simp [p1h] at hx; subst hx; simp, by simp [p1h], by simp [p1h]⟩
section
variable {R : Ending → World → Prop} {w w' : World}
theorem tb_mark (W : World) (C : Array Value) (t : Nat) (z : Nat × Nat) : Tb (W.alloc (.cells C t z)) t (some ⟨W.heap.size, 0, none⟩) C.toList := fun _ =>
  ⟨W.heap.size, 0, C.toList, rfl, ⟨z, by rw [Array.toArray_toList]; exact heap_alloc_new W _⟩, fun j u hu => by rw [Nat.zero_add]; exact hu⟩
set_option maxHeartbeats 4000000 in
theorem alive13_any (h : ∀ w', Kp [] w w' → R (.returned (.bool true)) w') : Calls Tryz.prog 20 #[] w R := by
  have H := Lib.hid h
  obtain ⟨B, hB⟩ : ∃ B, w.heap.size = B := ⟨_, rfl⟩
  have HN : Hid (∀ (R : Ending → World → Prop), (∀ kg w', Hid (∃ a, a.g = kg ∧ Kp [] w w' ∧ Kn w' B a (kz0 2 8)) → R (.returned (.tuple #[.pointer (some ⟨kg, 0, none⟩), .int .i64 0])) w') → Calls Tryz.prog 7 #[.int .i64 2, .int .i64 8] w R) := Lib.hid (fun R h => knew2_any 2 8 (by omega) (by omega) (by omega) (by omega) w (fun a w' k n => h a.g w' (Lib.hid ⟨a, rfl, k, by rw [← hB]; exact n⟩)))
  have HP : Hid (∀ (R : Ending → World → Prop) (w1 : World) (kg : Nat), Hid (∃ a, a.g = kg ∧ Kp [] w w1 ∧ Kn w1 B a (kz0 2 8)) → (∀ pg w', Hid (∃ ka pa, pa.g = pg ∧ Kp [] w w' ∧ KPl w' B ka (kzi 2 8 1) pa ⟨psN 1, 0, 0⟩) → R (.returned (.tuple #[.pointer (some ⟨pg, 0, none⟩), .int .i64 0])) w') → Calls Tryz.prog 22 #[.pointer (some ⟨kg, 0, none⟩), .int .i64 1] w1 R) := Lib.hid (fun R w1 kg hw h => by
    obtain ⟨a, rfl, k1, n1⟩ := hw.out
    exact pnew_any n1 1 (by omega) (by omega) (by omega) (fun ka' pa w' q z e1 e2 g1 g2 => h pa.g w' (Lib.hid ⟨ka', pa, rfl, q.old k1 (by omega), z⟩)))
  have HH : Hid (∀ (R : Ending → World → Prop) (w1 w2 : World) (pg g c : Nat), Hid (∃ ka pa, pa.g = pg ∧ Kp [] w w1 ∧ KPl w1 B ka (kzi 2 8 1) pa ⟨psN 1, 0, 0⟩) → Kp [] w1 w2 → Tb w2 5 (some ⟨g, 0, none⟩) (bts [120]) → (∀ w', Hid (∃ ka pa a b k, pa.g = pg ∧ Kp [] w w' ∧ KPl w' B ka k pa (p1h a b) ∧ k.cnt 0 ∧ hoIn k.fs 0) → R (.returned (.tuple #[.int .i64 0, .int .i64 0])) w') → Calls Tryz.prog 27 #[.pointer (some ⟨pg, 0, none⟩), .slice (some ⟨g, 0, none⟩) 1 c] w2 R) := Lib.hid (fun R w1 w2 pg g c hw k2 ht h => by
    obtain ⟨ka, pa, rfl, k1, z1⟩ := hw.out
    refine phead_any (z1.off0 k2) (kzi_cnt 2 8 1) (by omega) ht rfl (by omega) (fun e => by cases e) (fun f e p' k' ka' w' hr q z e1 e2 => ?_)
    obtain ⟨rfl, rfl, a, b, rfl, hc, ho⟩ := al_head hr.out
    exact h w' (Lib.hid ⟨ka', pa, a, b, k', rfl, q.old (k1.trans k2) (by omega), z, hc, ho⟩))
  have HG : Hid (∀ (R : Ending → World → Prop) (w1 : World) (pg : Nat), Hid (∃ ka pa a b k, pa.g = pg ∧ Kp [] w w1 ∧ KPl w1 B ka k pa (p1h a b) ∧ k.cnt 0 ∧ hoIn k.fs 0) → (∀ w', Hid (∃ ka pa a b k, pa.g = pg ∧ Kp [] w w' ∧ KPl w' B ka k pa (p1h a b)) → R (.returned (.tuple #[.int .i64 0, .int .i64 80])) w') → Calls Tryz.prog 24 #[.pointer (some ⟨pg, 0, none⟩), .int .i64 2, .int .i64 0, .complex .f64 0 0] w1 R) := Lib.hid (fun R w1 pg hw h => by
    obtain ⟨ka, pa, a, b, k, rfl, k1, z1, hc, ho⟩ := hw.out
    have hc1 : k.cnt 1 := ⟨by have := hc.ln; omega, by have := hc.nx; omega, by have := hc.c1; omega, by have := hc.c2; omega, by have := hc.co; omega, by have := hc.dn; omega, hc.fl, fun y hy => by have := hc.ho y hy; omega⟩
    refine pget_any z1 (al_bd a b) hc1 (by omega) 2 0 0 0 (fun f e p' k' ka' w' hr q z e1 e2 => ?_)
    obtain ⟨rfl, rfl, rfl, rfl⟩ := al_get hr.out
    exact h w' (Lib.hid ⟨ka', pa, a, b, _, rfl, q.old k1 (by omega), z⟩))
  have HI : Hid (∀ (R : Ending → World → Prop) (w1 : World) (pg : Nat), Hid (∃ ka pa a b k, pa.g = pg ∧ Kp [] w w1 ∧ KPl w1 B ka k pa (p1h a b)) → (∀ w', Hid (∃ ka pa a b k, pa.g = pg ∧ Kp [] w w' ∧ KPl w' B ka k pa (p1h a b)) → R (.returned (.int .i64 1)) w') → Calls Tryz.prog 73 #[.pointer (some ⟨pg, 0, none⟩), .int .i64 0] w1 R) := Lib.hid (fun R w1 pg hw h => by
    obtain ⟨ka, pa, a, b, k, rfl, k1, z1⟩ := hw.out
    refine ppins_any z1 0 (fun w' k' => ?_)
    rw [al_pins]
    exact h w' (Lib.hid ⟨ka, pa, a, b, k, rfl, k1.trans k', z1.off0 k'⟩))
  have HU : Hid (∀ (R : Ending → World → Prop) (w1 : World) (pg : Nat), Hid (∃ ka pa a b k, pa.g = pg ∧ Kp [] w w1 ∧ KPl w1 B ka k pa (p1h a b)) → (∀ w', Hid (∃ ka pa k, pa.g = pg ∧ Kp [] w w' ∧ KPl w' B ka k pa ⟨[PSl.e 0], 0, 0⟩) → R (.returned (.int .i64 0)) w') → Calls Tryz.prog 31 #[.pointer (some ⟨pg, 0, none⟩), .int .i64 0] w1 R) := Lib.hid (fun R w1 pg hw h => by
    obtain ⟨ka, pa, a, b, k, rfl, k1, z1⟩ := hw.out
    refine punpin_any z1 (al_bd a b) (by omega) 0 (fun w' q z => ?_)
    rw [al_unpin] at z ⊢
    exact h w' (Lib.hid ⟨ka, pa, k, rfl, q.old k1 (by omega), z⟩))
  have HJ : Hid (∀ (R : Ending → World → Prop) (w1 : World) (pg : Nat), Hid (∃ ka pa k, pa.g = pg ∧ Kp [] w w1 ∧ KPl w1 B ka k pa ⟨[PSl.e 0], 0, 0⟩) → (∀ w', Hid (Kp [] w w') → R (.returned (.int .i64 0)) w') → Calls Tryz.prog 73 #[.pointer (some ⟨pg, 0, none⟩), .int .i64 0] w1 R) := Lib.hid (fun R w1 pg hw h => by
    obtain ⟨ka, pa, k, rfl, k1, z1⟩ := hw.out
    refine ppins_any z1 0 (fun w' k' => ?_)
    rw [al_pins0]
    exact h w' (Lib.hid (k1.trans k')))
  have hcv := fun (W : World) (C : Array Value) (n c : Nat) => Lib.run_convert_bytes_const (P := Tryz.prog) W 37 5 C n c Tryz.underlying37 Tryz.underlying5
  clear h hB
  go_enter Tryz.func20, Tryz.ntmps20
  go_wp2_with (first | (go_at_call 7; ((refine HN.out _ ?_); intro kg w1 h1)) | (go_at_call 22; ((refine HP.out _ _ _ h1 ?_); intro pg w2 h2)) | (go_at_call 27; ((refine HH.out _ _ _ _ _ _ h2 ((Kp.refl _ _).alloc _) (tb_mark _ #[.int .u8 120] _ _) ?_); intro w3 h3)) | (go_at_call 24; ((refine HG.out _ _ _ h3 ?_); intro w4 h4)) | (go_at_call 73; ((refine HJ.out _ _ _ h6 ?_); intro w7 h7)) | (go_at_call 31; ((refine HU.out _ _ _ h5 ?_); intro w6 h6)) | (go_at_call 73; ((refine HI.out _ _ _ h4 ?_); intro w5 h5)))
  exact H.out _ h7.out
end
end
/-! ### The part of bytes, as whole numbers; a pool's Part. -/
section
open Go.RowKit Go.Shelf
set_option linter.unusedVariables false
set_option linter.unusedSimpArgs false
set_option maxRecDepth 100000
/-- What the pool's Part leans on. -/
structure PPI (m : Nat) (k : KS) (p : PS) : Prop where
  c : k.cnt m
  ho : hoIn k.fs 0
  fr : ∀ j : Nat, j < p.sl.length → ∃ y : Fr, k.fs[j]? = some y ∧ y.ow = 1 ∧ y.bs.length = 256
  sf : ∀ (j : Nat) (x : PSl), p.sl[j]? = some x → x.f = (j : Int)
  pt : ∀ (j : Nat) (x : PSl), p.sl[j]? = some x → 0 < x.pi → 0 ≤ x.n ∧ x.n ≤ 256 ∧ ∀ y : Fr, k.fs[j]? = some y → x.re = fl (pr (y.bs.take x.n.toNat)).1 ∧ x.im = fl (pr (y.bs.take x.n.toNat)).2
/-- The bytes of a piece. -/
def pcB (k : KS) (x : Pc) : List UInt8 := (tRead k.fs 1 x.f x.o x.n).2
theorem PPI.pin {m : Nat} {k : KS} {p : PS} (h : PPI m k p) {f o n : Int} {i : Nat} (hi : p.sl.findIdx? (pinB f) = some i) (h0 : 0 ≤ o) (h1 : 0 ≤ n) (h2 : n ≤ 256 - o) :
    ∃ (x : PSl) (y : Fr), p.sl[i]? = some x ∧ k.fs[i]? = some y ∧ tRead k.fs 1 f o n = (0, cutB y.bs o n) ∧ (cutB y.bs o n).length = n.toNat ∧ 0 ≤ x.n ∧ x.n ≤ 256 ∧ (o = 0 → n = x.n → x.re = fl (pr (cutB y.bs o n)).1 ∧ x.im = fl (pr (cutB y.bs o n)).2) := by
  obtain ⟨x, hx, hp⟩ := idx_at hi
  unfold pinB at hp
  simp at hp
  obtain ⟨y, hy, ho, hl⟩ := h.fr i (List.getElem?_eq_some_iff.1 hx).1
  have hf := h.sf i x hx
  obtain ⟨n0, n1, hr⟩ := h.pt i x hx hp.2
  have hfi : f = (i : Int) := by omega
  subst hfi
  have hft : fat k.fs (i : Int) = some y := by unfold fat; rw [if_pos (by omega)]; simpa using hy
  have e1 : ownE k.fs 1 i = 0 := by unfold ownE; rw [if_pos (by rfl), hft]; simp [ho]
  have e2 : spanB o n = true := by simp [spanB]; omega
  refine ⟨x, y, hx, hy, ?_, by unfold cutB; simp; omega, n0, n1, fun ho0 hn => ?_⟩
  · unfold tRead
    rw [if_pos e1, if_neg (by simp [e2]), hft]
  · subst ho0; subst hn
    have := hr y hy
    simpa [cutB] using this
section
variable {R : Ending → World → Prop} {w w' : World} {B m : Nat} {ka ka' : KA} {k k' : KS} {pa : PA} {p : PS}
/-- The kernel's reading of a frame. -/
theorem kc4_any (h0 : KPl w B ka k pa p) (hm : k.cnt m) (hm2 : m ≤ 10000) (f o n : Int) {l : List UInt8} (hl : tRead k.fs 1 f o n = (0, l)) (h : ∀ A c w', Hid (∃ ka', ka'.g = ka.g ∧ ka'.bT = ka.bT ∧ KPl w' B ka' k pa p) → Hid (Tb w' 5 A (bts l)) → Hid (Kq B w w') → R (.returned (.tuple #[.agg #[.int .i64 0, .slice A l.length c], .int .i64 0])) w') :
    Calls Tryz.prog 9 #[.pointer (some ⟨ka.g, 0, none⟩), .agg #[.int .i64 4, .int .i64 1, .int .i64 f, .int .i64 o, .int .i64 n, .slice none 0 0, .slice none 0 0, .slice none 0 0]] w R := by
  refine kcall_any (x := ⟨4, 1, f, o, n, none, 0, 0, [], none, 0, 0, [], none, 0, 0, []⟩) h0.kn hm hm2 ⟨Tb.nil, rfl, by show 0 ≤ _; omega, fun _ => ⟨rfl, rfl⟩, Tb.nil, rfl, by show 0 ≤ _; omega, fun _ => ⟨rfl, rfl⟩, by simp, Tb.nil, rfl, by show 0 ≤ _; omega, fun _ => ⟨rfl, rfl⟩, by simp⟩ (fun nn AA len c2 l' e k' a' w2 hst q n9 hl' ht => ?_)
  have h1 := hst.out
  unfold kStep at h1
  rw [if_neg (by simp), if_pos (by simp)] at h1
  unfold kFB at h1
  rw [if_neg (by simp), if_neg (by simp), if_neg (by simp), if_pos rfl] at h1
  injection h1 with e1 e2 e3 e4
  rw [hl] at e2 e3
  subst e1; subst e2; subst e3; subst e4
  subst hl'
  exact h AA c2 w2 (Lib.hid ⟨a', n9.2.1, n9.2.2, h0.kcall q n9⟩) (Lib.hid ht) (Lib.hid q)
theorem Kq.drew' {w w' : World} {B : Nat} (h : Kq B w w') : Kq B w w'.drew := h.trans (Kq.of (Kp.refl [] w').drew (by simp) (fun e _ => Off.nil _ e))
theorem Kq.alloc' {w w' : World} {B : Nat} (h : Kq B w w') (o : Obj) : Kq B w (w'.alloc o) := h.trans (Kq.of ((Kp.refl [] w').alloc o) (by simp) (fun e _ => Off.nil _ e))
theorem Kq.set' {w w' : World} {B : Nat} (h : Kq B w w') {p : Addr} (hp : w.heap.size ≤ p.block) (v : Value) : Kq B w (w'.setCell p v) := by
  have k : Kp [p.block] w' (w'.setCell p v) := (Kp.refl _ _).setCell (.inl (by simp)) v
  exact ⟨k.os.trans h.os, k.tape.trans h.tape, k.output.trans h.output, Nat.le_trans h.size k.size, fun b hb hc => (k.block b (Nat.lt_of_lt_of_le hb h.size) (by simp; omega)).trans (h.block b hb hc)⟩
/-- The pool in the midst of its Part. -/
def PPW (w wr : World) (B kg tb : Nat) (k : KS) (pa : PA) (p : PS) : Prop := ∃ ka, ka.g = kg ∧ ka.bT = tb ∧ Pq B w wr ∧ KPl wr B ka k pa p
theorem PPW.off0 {w1 : World} {kg tb : Nat} (h : PPW w w1 B kg tb k pa p) (hk : Kp [] w1 w') : PPW w w' B kg tb k pa p := by
  obtain ⟨ka, a, b, c, d⟩ := h
  exact ⟨ka, a, b, c.trans (Pq.of0 hk), d.off0 hk⟩
theorem take_snoc {α : Type} {l : List α} {i : Nat} {x : α} (hx : l[i]? = some x) : l.take (i + 1) = l.take i ++ [x] := by rw [List.take_add_one, hx]; rfl
end
end
/-! ### A pool's part of pieces, whatever its slots were told. -/
section
open Go.RowKit Go.Shelf
set_option linter.unusedVariables false
set_option linter.unusedSimpArgs false
set_option maxRecDepth 100000
def joinP (z : Nat × Nat) (L : Nat) (y : Nat × Nat) : Nat × Nat := if L % 2 = 0 then (z.1 + y.1, z.2 + y.2) else (z.1 + y.2, z.2 + y.1)
def partD (k : KS) (D : DP) : List Pc → Nat × Nat → Nat → Option (Nat × Nat)
  | [], z, _ => some z
  | x :: l, z, L => match D.ps.sl.findIdx? (pinB x.f) with
    | none => none
    | some i => match D.sl[i]? with
      | none => none
      | some d => if 0 ≤ x.o ∧ 0 ≤ x.n ∧ x.n ≤ 256 - x.o then partD k D l (joinP z L (if x.o = 0 ∧ x.n = d.x.n then (d.ev.toNat, d.od.toNat) else pr (tRead k.fs 1 x.f x.o x.n).2)) (L + x.n.toNat) else none
section
variable {k : KS} {D : DP} {x : Pc} {l : List Pc} {z : Nat × Nat} {L : Nat}
theorem partD_none (h : D.ps.sl.findIdx? (pinB x.f) = none) : partD k D (x :: l) z L = none := by unfold partD; rw [h]
theorem partD_out (h : ¬ (0 ≤ x.o ∧ 0 ≤ x.n ∧ x.n ≤ 256 - x.o)) : partD k D (x :: l) z L = none := by
  unfold partD
  split
  · rfl
  · split
    · rfl
    · rw [if_neg h]
theorem partD_step {i : Nat} {d : DSl} (h : D.ps.sl.findIdx? (pinB x.f) = some i) (hd : D.sl[i]? = some d) (hw : 0 ≤ x.o ∧ 0 ≤ x.n ∧ x.n ≤ 256 - x.o) :
    partD k D (x :: l) z L = partD k D l (joinP z L (if x.o = 0 ∧ x.n = d.x.n then (d.ev.toNat, d.od.toNat) else pr (tRead k.fs 1 x.f x.o x.n).2)) (L + x.n.toNat) := by
  rw [partD, h]
  simp only
  rw [hd]
  simp only
  rw [if_pos hw]
end
/-- What a part leans on. -/
structure DI (m : Nat) (k : KS) (D : DP) : Prop where
  c : k.cnt m
  fr : ∀ d ∈ D.sl, ∃ (fi : Nat) (y : Fr), d.x.f = (fi : Int) ∧ k.fs[fi]? = some y ∧ y.ow = 1 ∧ y.bs.length = 256
  pt : ∀ d ∈ D.sl, 0 ≤ d.ev ∧ d.ev ≤ 1073741824 ∧ 0 ≤ d.od ∧ d.od ≤ 1073741824 ∧ d.x.re = fl d.ev.toNat ∧ d.x.im = fl d.od.toNat
theorem DI.pin {m : Nat} {k : KS} {D : DP} (h : DI m k D) {f o n : Int} {i : Nat} (hi : D.ps.sl.findIdx? (pinB f) = some i) (h0 : 0 ≤ o) (h1 : 0 ≤ n) (h2 : n ≤ 256 - o) :
    ∃ (d : DSl) (y : Fr), D.sl[i]? = some d ∧ D.ps.sl[i]? = some d.x ∧ fat k.fs f = some y ∧ tRead k.fs 1 f o n = (0, cutB y.bs o n) ∧ (cutB y.bs o n).length = n.toNat ∧ 0 ≤ d.ev ∧ d.ev ≤ 1073741824 ∧ 0 ≤ d.od ∧ d.od ≤ 1073741824 ∧ d.x.re = fl d.ev.toNat ∧ d.x.im = fl d.od.toNat := by
  obtain ⟨x, hx, hp⟩ := idx_at hi
  have hx2 : (D.sl.map DSl.x)[i]? = some x := hx
  rw [List.getElem?_map] at hx2
  obtain ⟨d, hd, rfl⟩ : ∃ d, D.sl[i]? = some d ∧ d.x = x := by
    cases hd : D.sl[i]? with
    | none => rw [hd] at hx2; cases hx2
    | some d => rw [hd] at hx2; exact ⟨d, rfl, by simpa using hx2⟩
  unfold pinB at hp
  simp at hp
  obtain ⟨fi, y, hf, hy, ho, hl⟩ := h.fr d (List.mem_of_getElem? hd)
  have hfi : f = (fi : Int) := by omega
  subst hfi
  have hft : fat k.fs (fi : Int) = some y := by unfold fat; rw [if_pos (by omega)]; simpa using hy
  have e1 : ownE k.fs 1 fi = 0 := by unfold ownE; rw [if_pos (by rfl), hft]; simp [ho]
  have e2 : spanB o n = true := by simp [spanB]; omega
  refine ⟨d, y, hd, hx, hft, ?_, by unfold cutB; simp; omega, h.pt d (List.mem_of_getElem? hd)⟩
  unfold tRead
  rw [if_pos e1, if_neg (by simp [e2]), hft]
section
variable {R : Ending → World → Prop} {w w' : World}
set_option maxHeartbeats 2000000 in
/-- The part of what stands one behind the other, where both are small. -/
theorem sjoin2_any {a b c d L : Nat} (ha : a ≤ 274877906944) (hb : b ≤ 274877906944) (hc : c ≤ 274877906944) (hd : d ≤ 274877906944)
    (h2 : L % 2 = 0 → R (.returned (.tuple #[.complex .f64 (fl (a + c)) (fl (b + d)), .int .i64 0])) w) (h3 : L % 2 = 1 → R (.returned (.tuple #[.complex .f64 (fl (a + d)) (fl (b + c)), .int .i64 0])) w) : Calls Tryz.prog 86 #[.complex .f64 (fl a) (fl b), .int .i64 L, .complex .f64 (fl c) (fl d)] w R := by
  have H2 := Lib.hid h2
  have H3 := Lib.hid h3
  clear h2 h3
  have HM : ∀ {x y : Nat}, x ≤ 1099511627776 → y ≤ 1099511627776 → Hid (∀ (R : Ending → World → Prop) (w : World), R (.returned (.bool true)) w → Calls Tryz.prog 136 #[.complex .f64 (fl x) (fl y)] w R) := fun hx hy => Lib.hid (fun R w h => smay_any (by omega) (by omega) (by rw [decide_eq_true hx, decide_eq_true hy]; exact h))
  have M1 := HM (x := a) (y := b) (by omega) (by omega)
  have M2 := HM (x := c) (y := d) (by omega) (by omega)
  have hL : decide ((L : Int) < 0) = false := by simp
  by_cases hp : L % 2 = 1
  · have M3 := HM (x := a + d) (y := b + c) (by omega) (by omega)
    have hsum := fun W => run_complex_sum (P := Tryz.prog) W .add (Or.inl rfl) 89 .f64 (fl a) (fl b) (fl d) (fl c) _ _ (csum_fl (by omega) (by omega))
    have H := Lib.hid (H3.out hp)
    have hq : (L : Int).tmod 2 = 1 := by rw [Int.tmod_eq_emod_of_nonneg (by omega)]; omega
    obtain ⟨xa, hxa⟩ : ∃ x, fl a = x := ⟨_, rfl⟩
    obtain ⟨xb, hxb⟩ : ∃ x, fl b = x := ⟨_, rfl⟩
    obtain ⟨xc, hxc⟩ : ∃ x, fl c = x := ⟨_, rfl⟩
    obtain ⟨xd, hxd⟩ : ∃ x, fl d = x := ⟨_, rfl⟩
    obtain ⟨xe, hxe⟩ : ∃ x, fl (a + d) = x := ⟨_, rfl⟩
    obtain ⟨xf, hxf⟩ : ∃ x, fl (b + c) = x := ⟨_, rfl⟩
    rw [hxa, hxb, hxc, hxd, hxe, hxf] at hsum
    rw [hxa, hxb] at M1 ⊢
    rw [hxc, hxd] at M2 ⊢
    rw [hxe, hxf] at M3 H
    clear HM H2 H3 hxa hxb hxc hxd hxe hxf ha hb hc hd
    go_enter Tryz.func86, Tryz.ntmps86
    go_wp2_with (first | (go_at_call 136; with_reducible refine M1.out _ _ ?_) | (go_at_call 136; with_reducible refine M2.out _ _ ?_) | (go_at_call 136; with_reducible refine M3.out _ _ ?_) | (go_at_call 133; refine turn_any _ _ ?_))
    exact H.out
  · have M3 := HM (x := a + c) (y := b + d) (by omega) (by omega)
    have hsum := fun W => run_complex_sum (P := Tryz.prog) W .add (Or.inl rfl) 89 .f64 (fl a) (fl b) (fl c) (fl d) _ _ (csum_fl (by omega) (by omega))
    have H := Lib.hid (H2.out (by omega))
    have hq : (L : Int).tmod 2 = 0 := by rw [Int.tmod_eq_emod_of_nonneg (by omega)]; omega
    obtain ⟨xa, hxa⟩ : ∃ x, fl a = x := ⟨_, rfl⟩
    obtain ⟨xb, hxb⟩ : ∃ x, fl b = x := ⟨_, rfl⟩
    obtain ⟨xc, hxc⟩ : ∃ x, fl c = x := ⟨_, rfl⟩
    obtain ⟨xd, hxd⟩ : ∃ x, fl d = x := ⟨_, rfl⟩
    obtain ⟨xe, hxe⟩ : ∃ x, fl (a + c) = x := ⟨_, rfl⟩
    obtain ⟨xf, hxf⟩ : ∃ x, fl (b + d) = x := ⟨_, rfl⟩
    rw [hxa, hxb, hxc, hxd, hxe, hxf] at hsum
    rw [hxa, hxb] at M1 ⊢
    rw [hxc, hxd] at M2 ⊢
    rw [hxe, hxf] at M3 H
    clear HM H2 H3 hxa hxb hxc hxd hxe hxf ha hb hc hd
    go_enter Tryz.func86, Tryz.ntmps86
    go_wp2_with (first | (go_at_call 136; with_reducible refine M1.out _ _ ?_) | (go_at_call 136; with_reducible refine M2.out _ _ ?_) | (go_at_call 136; with_reducible refine M3.out _ _ ?_))
    exact H.out
end
section
variable {R : Ending → World → Prop} {w w' : World} {B m : Nat} {ka ka' : KA} {k k' : KS} {pa : PA} {p : PS} {D : DP}
set_option maxHeartbeats 8000000 in
/-- A pool's part of pieces. -/
theorem ppart2_any (h0 : KPl w B ka k pa p) (hi : DI m k D) (hd : D.ps = p) (hm : m ≤ 10000) {A : Option Addr} {n c : Nat} {l : List Pc} (hr : Tb w 187 A (l.flatMap Pc.vals)) (hl : l.length = n) (hn : n ≤ 200)
    (h1 : partD k D l (0, 0) 0 = none → ∀ w', Hid (PPW w w' B ka.g ka.bT k pa p) → R (.returned (.tuple #[.complex .f64 0 0, .int .i64 1])) w')
    (h2 : ∀ z, partD k D l (0, 0) 0 = some z → ∀ w', Hid (PPW w w' B ka.g ka.bT k pa p) → R (.returned (.tuple #[.complex .f64 (fl z.1) (fl z.2), .int .i64 0])) w') :
    Calls Tryz.prog 34 #[.pointer (some ⟨pa.g, 0, none⟩), .slice A n c] w R := by
  have H1 := Lib.hid h1
  have H2 := Lib.hid h2
  have HL := Lib.hid hl
  have HR := Lib.hid hr
  have HI := Lib.hid hi
  have HD := Lib.hid hd
  have P0 : Hid (PPW w w B ka.g ka.bT k pa p) := Lib.hid ⟨ka, rfl, rfl, Pq.refl _ _, h0⟩
  obtain ⟨kg, hkg⟩ : ∃ kg, ka.g = kg := ⟨_, rfl⟩
  obtain ⟨tb, htb⟩ : ∃ tb, ka.bT = tb := ⟨_, rfl⟩
  rw [hkg, htb] at H1 H2 P0
  clear h1 h2 hl hr hi hd h0 hkg htb
  go_enter Tryz.func34, Tryz.ntmps34
  go_wp2
  go_loopw [6, 7, 19] (fun zv av iv wr => ∃ (i : Nat) (z1 z2 : Nat) (L : Nat), i ≤ n ∧ zv = .complex .f64 (fl z1) (fl z2) ∧ av = .int .i64 L ∧ iv = .int .i64 i ∧ (L ≤ 256 * i ∧ z1 ≤ 1073741824 * i ∧ z2 ≤ 1073741824 * i) ∧ Hid (PPW w wr B kg tb k pa p) ∧ Hid (partD k D (l.drop i) (z1, z2) L = partD k D l (0, 0) 0)) (fun _ _ iv _ => n - (intOf iv).toNat)
  case atStart => exact ⟨0, 0, 0, 0, Nat.zero_le _, by rw [fl_zero], rfl, rfl, by simp, P0, Lib.hid (by simp)⟩
  case round =>
    obtain ⟨i, z1, z2, L, hin, rfl, rfl, rfl, hLn, hP, hQ⟩ := hrel
    by_cases hlt : i < n
    · obtain ⟨x, hx, hm⟩ := get_lt (l := l) (k := i) (by have := HL.out; omega)
      have hrd : Rd wr [] A (l.flatMap Pc.vals) := by obtain ⟨ka, _, _, q, _⟩ := hP.out; exact (q.tb HR.out (by decide)).rd0
      obtain ⟨b, o, rfl, _, hbl, hc⟩ := rd_at hrd pvals_len (by have := HL.out; omega) hx
      have c0 := hc 0 _ rfl
      have c1 := hc 1 _ rfl
      have c2 := hc 2 _ rfl
      rw [Nat.add_zero] at c0
      have HX := Lib.hid hx
      have hdr : l.drop i = x :: l.drop (i + 1) := by rw [List.drop_eq_getElem_cons (List.getElem?_eq_some_iff.1 hx).1]; rw [(List.getElem?_eq_some_iff.1 hx).2]
      have HDR := Lib.hid hdr
      clear hdr
      clear hc hx hrd hm
      go_upto_region 8 with (fail)
      refine gen_worldK (fun W => ∃ ba, wr.heap.size = ba ∧ Hid (Kp [] wr W ∧ Bk W ba 187 [.int .i64 x.f, .int .i64 x.o, .int .i64 x.n])) ⟨_, rfl, Lib.hid ⟨(Kp.refl _ _).alloc _, (Bk.new' _ _ _).cast rfl⟩⟩ ?_
      rintro W ⟨ba, hba, hW⟩
      rw [hba]
      have PW := Lib.hid (hP.out.off0 hW.out.1)
      have HB := Lib.hid hW.out.2
      clear c0 c1 c2 hba
      have q0 : W.cell? ⟨ba, 0, none⟩ = some (.int .i64 x.f) := HB.out.cell 0
      obtain ⟨lA, hlA⟩ : ∃ lA, pa.l = lA := ⟨_, rfl⟩
      have HPin : Hid (∀ (R : Ending → World → Prop), (∀ w', Kp [] W w' → R (.returned (.pointer (pfind p lA (pinB x.f)))) w') → Calls Tryz.prog 83 #[.pointer (some ⟨pa.g, 0, none⟩), .int .i64 x.f] W R) := Lib.hid (fun R h => by
        obtain ⟨ka, rfl, rfl, _, z⟩ := PW.out
        rw [← hlA] at h
        exact ppin_any z x.f h)
      cases hfi : p.sl.findIdx? (pinB x.f) with
      | none =>
        have e : pfind p lA (pinB x.f) = none := by unfold pfind; rw [hfi]
        rw [e] at HPin
        have HN0 : Hid (partD k D l (0, 0) 0 = none) := Lib.hid (by rw [← hQ.out, HDR.out]; exact partD_none (by rw [← HD.out] at hfi; exact hfi))
        clear e hfi hlA
        go_wp2_with (go_at_call 83; ((refine HPin.out _ ?_); intro w2 k2))
        exact H1.out HN0.out _ (Lib.hid (PW.out.off0 k2))
      | some j =>
        have e : pfind p lA (pinB x.f) = some ⟨lA, j * 7, none⟩ := by unfold pfind; rw [hfi]
        rw [e] at HPin
        have HFI := Lib.hid hfi
        clear e hfi
        have HB1 : Hid (∀ w', Kp [] W w' → w'.cell? ⟨ba, 0, none⟩ = some (.int .i64 x.f) ∧ w'.cell? ⟨ba, 1, none⟩ = some (.int .i64 x.o) ∧ w'.cell? ⟨ba, 2, none⟩ = some (.int .i64 x.n)) := Lib.hid (fun w' k' => ⟨(HB.out.kp k' (by simp)).cell 0, (HB.out.kp k' (by simp)).cell 1, (HB.out.kp k' (by simp)).cell 2⟩)
        by_cases o0 : x.o < 0
        · have o0' : decide (x.o < 0) = true := by simpa using o0
          have HN0 : Hid (partD k D l (0, 0) 0 = none) := Lib.hid (by rw [← hQ.out, HDR.out]; exact partD_out (by omega))
          clear o0 hlA
          go_wp2_with (go_at_call 83; ((refine HPin.out _ ?_); intro w2 k2; obtain ⟨b0, b1, b2⟩ := HB1.out w2 k2))
          exact H1.out HN0.out _ (Lib.hid (PW.out.off0 k2))
        by_cases n0 : x.n < 0
        · have o0' : decide (x.o < 0) = false := by simpa using o0
          have n0' : decide (x.n < 0) = true := by simpa using n0
          have HN0 : Hid (partD k D l (0, 0) 0 = none) := Lib.hid (by rw [← hQ.out, HDR.out]; exact partD_out (by omega))
          clear o0 n0 hlA
          go_wp2_with (go_at_call 83; ((refine HPin.out _ ?_); intro w2 k2; obtain ⟨b0, b1, b2⟩ := HB1.out w2 k2))
          exact H1.out HN0.out _ (Lib.hid (PW.out.off0 k2))
        by_cases o2 : 256 < x.o
        · have o0' : decide (x.o < 0) = false := by simpa using o0
          have n0' : decide (x.n < 0) = false := by simpa using n0
          have o2' : decide (256 < x.o) = true := by simpa using o2
          have HN0 : Hid (partD k D l (0, 0) 0 = none) := Lib.hid (by rw [← hQ.out, HDR.out]; exact partD_out (by omega))
          clear o0 n0 o2 hlA
          go_wp2_with (go_at_call 83; ((refine HPin.out _ ?_); intro w2 k2; obtain ⟨b0, b1, b2⟩ := HB1.out w2 k2))
          exact H1.out HN0.out _ (Lib.hid (PW.out.off0 k2))
        have o0' : decide (x.o < 0) = false := by simpa using o0
        have n0' : decide (x.n < 0) = false := by simpa using n0
        have o2' : decide (256 < x.o) = false := by simpa using o2
        have hsub : IntKind.i64.wrap (256 - x.o) = 256 - x.o := by simp [IntKind.wrap, IntKind.signed, IntKind.bits]; omega
        by_cases n2 : 256 - x.o < x.n
        · have n2' : decide (256 - x.o < x.n) = true := by simpa using n2
          have HN0 : Hid (partD k D l (0, 0) 0 = none) := Lib.hid (by rw [← hQ.out, HDR.out]; exact partD_out (by omega))
          clear o0 n0 o2 n2 hlA
          go_wp2_with (go_at_call 83; ((refine HPin.out _ ?_); intro w2 k2; obtain ⟨b0, b1, b2⟩ := HB1.out w2 k2))
          exact H1.out HN0.out _ (Lib.hid (PW.out.off0 k2))
        have n2' : decide (256 - x.o < x.n) = false := by simpa using n2
        obtain ⟨xd, y, hxd, hxs, hy, htr, hbl, hpt⟩ := HI.out.pin (f := x.f) (by rw [HD.out]; exact HFI.out) (o := x.o) (n := x.n) (by omega) (by omega) (by omega)
        rw [HD.out] at hxs
        obtain ⟨xs, hxse⟩ : ∃ xs, xd.x = xs := ⟨_, rfl⟩
        obtain ⟨y1, hy1⟩ : ∃ y, xd.ev.toNat = y := ⟨_, rfl⟩
        obtain ⟨y2, hy2⟩ : ∃ y, xd.od.toNat = y := ⟨_, rfl⟩
        obtain ⟨p1, p2, p3, p4, p5, p6⟩ := hpt
        rw [hxse] at hxs p5 p6
        rw [hy1] at p5
        rw [hy2] at p6
        have hpst := partD_step (k := k) (z := (z1, z2)) (L := L) (l := l.drop (i + 1)) (by rw [HD.out]; exact HFI.out) hxd ⟨by omega, by omega, by omega⟩
        rw [htr, hxse, hy1, hy2] at hpst
        dsimp only at hpst
        have hyb : y1 ≤ 1073741824 ∧ y2 ≤ 1073741824 := by omega
        obtain ⟨bs, hbs⟩ : ∃ bs, cutB y.bs x.o x.n = bs := ⟨_, rfl⟩
        rw [hbs] at htr hbl hpst
        have HPS := Lib.hid hpst
        have HPP := Lib.hid (And.intro p5 p6)
        clear hpst p1 p2 p3 p4 p5 p6 hy1 hy2 hxd hxse
        go_upto_region 11 with (go_at_call 83; ((refine HPin.out _ ?_); intro w2 k2; obtain ⟨b0, b1, b2⟩ := HB1.out w2 k2))
        have HXS := Lib.hid hxs
        have HTR := Lib.hid htr
        have HBL := Lib.hid hbl
        have HCE : Hid (∀ W', PPW w W' B kg tb k pa p → W'.cell? ⟨lA, j * 7 + 4, none⟩ = some (.int .i64 xs.n) ∧ W'.cell? ⟨lA, j * 7 + 5, none⟩ = some (.complex .f64 xs.re xs.im)) := Lib.hid (fun W' h => by
          obtain ⟨ka, _, _, _, z⟩ := h
          obtain ⟨_, _, _, _, c4, c5, _⟩ := z.pl.cells hxs
          rw [hlA] at c4 c5
          exact ⟨c4, c5⟩)
        have HGE : Hid (∀ W', PPW w W' B kg tb k pa p → W'.cell? ⟨pa.g, 0, none⟩ = some (.pointer (some ⟨kg, 0, none⟩))) := Lib.hid (fun W' h => by
          obtain ⟨ka, rfl, _, _, z⟩ := h
          exact z.pl.g.cell 0)
        have P2 := Lib.hid (PW.out.off0 k2)
        have HB2 := Lib.hid (HB.out.kp k2 (by simp))
        have HCall : Hid (∀ (R : Ending → World → Prop) (w1 : World), Kp [] w2 w1 → (∀ A c w', Hid (PPW w w' B kg tb k pa p) → Hid (Tb w' 5 A (bts bs)) → Hid (Kq B w1 w') → R (.returned (.tuple #[.agg #[.int .i64 0, .slice A bs.length c], .int .i64 0])) w') → Calls Tryz.prog 9 #[.pointer (some ⟨kg, 0, none⟩), .agg #[.int .i64 4, .int .i64 1, .int .i64 x.f, .int .i64 x.o, .int .i64 x.n, .slice none 0 0, .slice none 0 0, .slice none 0 0]] w1 R) := Lib.hid (fun R w1 k1 h => by
          obtain ⟨ka, rfl, rfl, q, z⟩ := P2.out.off0 k1
          refine kc4_any z HI.out.c hm x.f x.o x.n HTR.out (fun A c w' hz ht hq => ?_)
          obtain ⟨ka', e1, e2, z'⟩ := hz.out
          exact h A c w' (Lib.hid ⟨ka', e1, e2, q.trans hq.out.pq, z'⟩) ht hq)
        have hwB : B ≤ w2.heap.size := by obtain ⟨ka, _, _, _, z⟩ := P2.out; exact z.kn.hB
        obtain ⟨r4, r5⟩ := HCE.out _ P2.out
        have hn01 : 0 ≤ x.n := by omega
        have hn02 : x.n ≤ 256 := by omega
        clear o0 n0 o2 n2 hxs hy htr hbl q0 HPin hbs
        go_upto_region 12 with (fail)
        go_cut [67] (fun v W' => ∃ t : Bool, v = .bool t ∧ Hid (t = false ↔ (x.o = 0 ∧ x.n = xs.n)) ∧ Hid (Kp [] w2 W'))
        case first =>
          rcases (by omega : x.o ≠ 0 ∨ (x.o = 0 ∧ x.n ≠ xs.n) ∨ (x.o = 0 ∧ x.n = xs.n)) with e1 | ⟨e1, e2⟩ | ⟨e1, e2⟩
          · have g1 : (x.o != 0) = true := by simpa using e1
            have E1 := Lib.hid (show ¬ (x.o = 0 ∧ x.n = xs.n) by omega)
            clear e1
            refine wp_region_kp (by kernel_rfl) (by kernel_rfl) ?_
            repeat (go_big_quiet_step (fail))
            refine wpQuiet_nil ?_
            intro w3 k3
            go_wp2
            go_meet
            exact ⟨true, rfl, Lib.hid ⟨(fun h => by cases h), fun h => absurd h E1.out⟩, Lib.hid k3⟩
          · have g1 : (x.o != 0) = false := by simp [e1]
            have g2 : (x.n != xs.n) = true := by simpa using e2
            have E1 := Lib.hid (show ¬ (x.o = 0 ∧ x.n = xs.n) by omega)
            clear e1 e2
            refine wp_region_kp (by kernel_rfl) (by kernel_rfl) ?_
            repeat (go_big_quiet_step (fail))
            refine wpQuiet_nil ?_
            intro w3 k3
            go_wp2
            go_meet
            exact ⟨true, rfl, Lib.hid ⟨(fun h => by cases h), fun h => absurd h E1.out⟩, Lib.hid k3⟩
          · have g1 : (x.o != 0) = false := by simp [e1]
            have g2 : (x.n != xs.n) = false := by simp [e2]
            have E12 := Lib.hid (And.intro e1 e2)
            clear e1 e2
            refine wp_region_kp (by kernel_rfl) (by kernel_rfl) ?_
            repeat (go_big_quiet_step (fail))
            refine wpQuiet_nil ?_
            intro w3 k3
            go_wp2
            go_meet
            exact ⟨false, rfl, Lib.hid ⟨fun _ => E12.out, fun _ => rfl⟩, Lib.hid k3⟩
        case rest =>
        obtain ⟨t, rfl, ht, hk3⟩ := hcut
        obtain ⟨w3, hw3⟩ : ∃ w3, wc = w3 := ⟨_, rfl⟩
        rw [hw3] at hk3 ⊢
        clear hw3 r4 r5 b0 b1 b2
        have k3 := hk3.out
        go_upto_if 67 with (fail)
        go_cut [11] (fun v W' => v = .complex .f64 (fl (if x.o = 0 ∧ x.n = xs.n then (y1, y2) else pr bs).1) (fl (if x.o = 0 ∧ x.n = xs.n then (y1, y2) else pr bs).2) ∧ Hid (PPW w W' B kg tb k pa p ∧ Bk W' ba 187 [.int .i64 x.f, .int .i64 x.o, .int .i64 x.n]))
        case first =>
          cases t with
          | false =>
            have HP12 := Lib.hid (ht.out.1 rfl)
            clear ht
            go_wp2
            go_meet
            exact ⟨by rw [if_pos HP12.out, HPP.out.1, HPP.out.2], Lib.hid ⟨P2.out.off0 k3, HB2.out.kp k3 (by simp)⟩⟩
          | true =>
            have HP12 := Lib.hid (show ¬ (x.o = 0 ∧ x.n = xs.n) from fun h => by have := ht.out.2 h; cases this)
            clear ht
            have HS : Hid (∀ w', Kq B w3 w' → w'.cell? ⟨pa.g, 0, none⟩ = some (.pointer (some ⟨kg, 0, none⟩)) ∧ w'.cell? ⟨ba, 0, none⟩ = some (.int .i64 x.f) ∧ w'.cell? ⟨ba, 1, none⟩ = some (.int .i64 x.o) ∧ w'.cell? ⟨ba, 2, none⟩ = some (.int .i64 x.n)) := Lib.hid (fun w' k' => by
              obtain ⟨ka, rfl, _, _, z⟩ := P2.out.off0 k3
              have g := k'.bk z.pl.g (by decide)
              have b := k'.bk (HB2.out.kp k3 (by simp)) (by decide)
              exact ⟨g.cell 0, b.cell 0, b.cell 1, b.cell 2⟩)
            have P3 := Lib.hid (P2.out.off0 k3)
            have hB0 : B ≤ w.heap.size := by obtain ⟨ka, _, _, _, z⟩ := P0.out; exact z.kn.hB
            have hw03 : w.heap.size ≤ w3.heap.size := by obtain ⟨ka, _, _, q, z⟩ := P3.out; exact q.size
            have hwB3 : B ≤ w3.heap.size := Nat.le_trans hwB k3.size
            have HB3 := Lib.hid (HB2.out.kp k3 (by simp))
            have HC3 : Hid (∀ (R : Ending → World → Prop) (w1 : World), Kp [] w3 w1 → (∀ A c w', Hid (PPW w w' B kg tb k pa p) → Hid (Tb w' 5 A (bts bs)) → Hid (Kq B w1 w') → R (.returned (.tuple #[.agg #[.int .i64 0, .slice A bs.length c], .int .i64 0])) w') → Calls Tryz.prog 9 #[.pointer (some ⟨kg, 0, none⟩), .agg #[.int .i64 4, .int .i64 1, .int .i64 x.f, .int .i64 x.o, .int .i64 x.n, .slice none 0 0, .slice none 0 0, .slice none 0 0]] w1 R) := Lib.hid (fun R w1 k1 h => HCall.out R w1 (k3.trans k1) h)
            clear HCall
            go_wp2
            go_cut [12, 13] from 68 to 82 (fun bv ev W' => ∃ (ab : Nat) (A : Option Addr) (c : Nat), bv = .pointer (some ⟨ab, 0, none⟩) ∧ ev = .int .i64 0 ∧ Hid (PPW w W' B kg tb k pa p ∧ Bk W' ab 39 [.int .i64 0, .slice A bs.length c] ∧ Bk W' ba 187 [.int .i64 x.f, .int .i64 x.o, .int .i64 x.n] ∧ Tb W' 5 A (bts bs)))
            case first =>
              go_region_held_law (fun w' => w'.cell? ⟨pa.g, 0, none⟩ = some (.pointer (some ⟨kg, 0, none⟩)) ∧ w'.cell? ⟨ba, 0, none⟩ = some (.int .i64 x.f) ∧ w'.cell? ⟨ba, 1, none⟩ = some (.int .i64 x.o) ∧ w'.cell? ⟨ba, 2, none⟩ = some (.int .i64 x.n)) ((refine HS.out _ ?_; repeat (first | with_reducible exact kq5 | with_reducible exact Kq.refl _ _ | with_reducible refine Kq.drew' ?_ | with_reducible refine Kq.alloc' ?_ _ | with_reducible refine Kq.set' ?_ (Nat.le_refl _) _))) (first | (go_simp; go_at_call 9; ((refine HC3.out _ _ (Kp.refl [] w3).drew ?_); intro A c w5 h5 l5 q5; have kq5 : Kq B w3 w5 := (Kq.refl B w3).drew'.trans q5.out)) | (go_simp; go_at_call 9; ((refine HC3.out _ _ ((Kp.refl [] w3).alloc _).drew ?_); intro A c w5 h5 l5 q5; have kq5 : Kq B w3 w5 := ((Kq.refl B w3).alloc' _).drew'.trans q5.out; have r5 := q5.out.bk (((Bk.new' w3 39 #[.int .i64 0, .slice none 0 0]).cast rfl).drew) (by decide); obtain ⟨s0, s1, t0, t1⟩ := bk2t r5; have R5 := Lib.hid r5; clear r5)))
              all_goals
                go_wp2_with fail
                go_meet
                first
                | exact ⟨w5.heap.size, A, c, rfl, rfl, Lib.hid (by
                    have kv := (Kp.refl [] w5).alloc (.cells #[.int .i64 0, .slice A bs.length c] 39)
                    exact ⟨h5.out.off0 kv, (Bk.new' _ _ _).cast rfl, (q5.out.bk HB3.out.drew (by decide)).kp kv (by simp), l5.out.kp kv (Off.nil _ _)⟩)⟩
                | exact ⟨w3.heap.size, A, c, rfl, rfl, Lib.hid (by
                    obtain ⟨bb, kb⟩ := bk2set R5.out (.int .i64 0) (.slice A bs.length c)
                    have oA : ∀ e, 39 ≠ e → Off w5 [w3.heap.size] e := fun e he => Off.one R5.out.ty he
                    refine ⟨?_, bb, (q5.out.bk (HB3.out.alloc _).drew (by decide)).off kb (oA _ (by decide)), l5.out.kp kb (oA _ (by decide))⟩
                    obtain ⟨ka, e1, e2, q, z⟩ := h5.out
                    exact ⟨ka, e1, e2, q.thn kb hB0 (by intro s hs; simp at hs; omega), ⟨z.kn.offA kb oA, z.pl.off kb (oA _ (by decide)) (oA _ (by decide)), z.gB, z.lB⟩⟩)⟩
            case rest =>
              obtain ⟨ab, A, c, rfl, rfl, h4⟩ := hcut
              obtain ⟨_, s1, _, _⟩ := bk2t h4.out.2.1
              have HSP : Hid (∀ (R : Ending → World → Prop), (∀ w', Kp [] wc w' → R (.returned (.tuple #[.complex .f64 (fl (pr bs).1) (fl (pr bs).2), .int .i64 0])) w') → Calls Tryz.prog 81 #[.slice A bs.length c] wc R) := Lib.hid (fun R h => spart_any h4.out.2.2.2.rd0 rfl (by have := HBL.out; omega) (fun w' _ _ k' => by rw [part_pr rfl (by have := HBL.out; omega)]; exact h w' k'))
              go_wp2_with (go_at_call 81; ((refine HSP.out _ ?_); intro w6 k6))
              go_meet
              exact ⟨by rw [if_neg HP12.out], Lib.hid ⟨h4.out.1.off0 k6, h4.out.2.2.1.kp k6 (by simp)⟩⟩
        case rest =>
          obtain ⟨rfl, h7⟩ := hcut
          have d2 : wc.cell? ⟨ba, 2, none⟩ = some (.int .i64 x.n) := h7.out.2.cell 2
          have hbn := HBL.out
          obtain ⟨yy, hyy⟩ : ∃ yy, (if x.o = 0 ∧ x.n = xs.n then (y1, y2) else pr bs) = yy := ⟨_, rfl⟩
          have hyb2 : yy.1 ≤ 1073741824 ∧ yy.2 ≤ 1073741824 := by
            rw [← hyy]
            split
            · exact hyb
            · have := pr_bd bs; omega
          have hps := HPS.out
          rw [hyy] at hps ⊢
          have HPS2 := Lib.hid hps
          clear hps hyy HPS
          obtain ⟨b1, b2, b3⟩ := hLn
          have hi200 : i ≤ 199 := by omega
          have b4 : z1 ≤ 1073741824 * 199 := by omega
          have b5 : z2 ≤ 1073741824 * 199 := by omega
          obtain ⟨zz, hzz⟩ : ∃ zz, joinP (z1, z2) L yy = zz := ⟨_, rfl⟩
          have hzb : zz.1 ≤ 1073741824 * (i + 1) ∧ zz.2 ≤ 1073741824 * (i + 1) := by
            rw [← hzz]; unfold joinP
            split <;> simp <;> omega
          have HJ : Hid (∀ (R : Ending → World → Prop), R (.returned (.tuple #[.complex .f64 (fl zz.1) (fl zz.2), .int .i64 0])) wc → Calls Tryz.prog 86 #[.complex .f64 (fl z1) (fl z2), .int .i64 L, .complex .f64 (fl yy.1) (fl yy.2)] wc R) := Lib.hid (fun R r2 => by
            refine sjoin2_any (by omega) (by omega) (by omega) (by omega) (fun h => ?_) (fun h => ?_)
            · rw [← hzz] at r2; unfold joinP at r2; rw [if_pos h] at r2; exact r2
            · rw [← hzz] at r2; unfold joinP at r2; rw [if_neg (by omega)] at r2; exact r2)
          rw [hzz] at HPS2
          have hlen : ((L + x.n.toNat : Nat) : Int) = (L : Int) + x.n := by omega
          have hwl : IntKind.i64.wrap ((L : Int) + x.n) = (L : Int) + x.n := by simp [IntKind.wrap, IntKind.signed, IntKind.bits]; omega
          have h7a := Lib.hid h7.out.1
          have HQ2 : Hid (partD k D (l.drop (i + 1)) (zz.1, zz.2) (L + x.n.toNat) = partD k D l (0, 0) 0) := Lib.hid (by rw [← hQ.out, HDR.out, HPS2.out])
          have hfin : L + x.n.toNat ≤ 256 * (i + 1) ∧ zz.1 ≤ 1073741824 * (i + 1) ∧ zz.2 ≤ 1073741824 * (i + 1) := ⟨by omega, hzb.1, hzb.2⟩
          have HFIN := Lib.hid hfin
          clear h7 hzz hyb2 hyb b1 b2 b3 b4 b5 hzb hfin HPS2
          go_wp2_with (go_at_call 86; refine HJ.out _ ?_)
          exact ⟨⟨i + 1, zz.1, zz.2, L + x.n.toNat, by omega, rfl, by rw [hlen], by go_num, HFIN.out, h7a, HQ2⟩, by simp [intOf]; omega⟩
    · obtain rfl : i = n := by omega
      have HE : Hid (R (.returned (.tuple #[.complex .f64 (fl z1) (fl z2), .int .i64 0])) wr) := Lib.hid (by
        have q1 := hQ.out
        rw [List.drop_of_length_le (by have := HL.out; omega)] at q1
        exact H2.out (z1, z2) (by rw [← q1]; rfl) wr hP)
      go_wp2
      exact HE.out
end
end
end Go.Proofs.YtedblbpmlbjnhaaGreat
