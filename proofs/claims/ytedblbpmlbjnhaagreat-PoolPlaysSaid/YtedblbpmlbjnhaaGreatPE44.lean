/- KernPlays walked. PoolPlays in plain words: what a pool's steps keep. PoolParts walked. -/
import Derived.Test.YtedblbpmlbjnhaaGreatPE36
import Derived.Test.YtedblbpmlbjnhaaGreatPE35
import Derived.Test.YtedblbpmlbjnhaaGreatPE8
import Derived.BigQuiet
import Derived.Deep.DeepCutAuto
import Derived.Deep.CutBlock
import Derived.Test.YtedblbpmlbjnhaaGreatPE43
import Derived.Test.YtedblbpmlbjnhaaGreatPE39
import Derived.Deep.RegionHeldLaw
namespace Go.Proofs.YtedblbpmlbjnhaaGreat
/-! ### KernPlays walked. -/
section
open Go.RowKit Go.Shelf
set_option linter.unusedVariables false
set_option linter.unusedSimpArgs false
set_option maxRecDepth 100000
theorem convQ (s : ByteArray) : ∃ (bw : World → World) (cw : World → Nat), (∀ W, (convert 9 37 (.string s)).run Tryz.prog W = .ok (.slice (some ⟨W.heap.size, 0, none⟩) s.size (cw W)) (bw W)) ∧ (∀ W, s.size ≤ cw W) ∧
    (∀ (S : List Nat) (a w : World), Kp S a w → Kp S a (bw w)) ∧ (∀ (w : World) (b : Nat), b = w.heap.size → Tb (bw w) 5 (some ⟨b, 0, none⟩) (bts s.data.toList)) :=
  ⟨fun W => Lib.bytesWorld W 5 s, fun W => grownCap W s.size 0 5, fun W => conv_sb W s, fun W => grownCap_ge _ _ _ _, fun S a w k => k.bytesWorld _ _, fun w b hb => Tb.fresh w hb⟩
section
variable {R : Ending → World → Prop} {w w0 : World} {B B2 m : Nat} {a : KA} {q : QA} {k : KS}
/-- Both kernels. -/
structure K2 (w0 w : World) (B : Nat) (a : KA) (B2 : Nat) (q : QA) (k : KS) (m : Nat) : Prop where
  kn : Kn w B a k
  qn : Qn w0 B2 w q k
  hB : w0.heap.size ≤ B
  ag : a.g < B2
  c : k.cnt m
  h : HInv k
  f : FInv k
  o : GOx k
theorem K2.kp {w' : World} (h : K2 w0 w B a B2 q k m) (hk : Kp [] w w') : K2 w0 w' B a B2 q k m := ⟨h.kn.off0 hk, h.qn.kp hk, h.hB, h.ag, h.c, h.h, h.f, h.o⟩
end
end
/-! ### PoolPlays in plain words: what a pool's steps keep. -/
section
open Go.RowKit Go.Shelf
set_option linter.unusedVariables false
set_option linter.unusedSimpArgs false
set_option maxRecDepth 100000
theorem kcnt_up {k : KS} {a b : Nat} (h : k.cnt a) (hab : a ≤ b) : k.cnt b := ⟨by have := h.ln; omega, by have := h.nx; omega, by have := h.c1; omega, by have := h.c2; omega, by have := h.co; omega, by have := h.dn; omega, h.fl, fun y hy => by have := h.ho y hy; omega⟩
/-- A slot's pair is that of its number. -/
def Pt (d : DSl) : Prop := 0 ≤ d.ev ∧ d.ev ≤ 1073741824 ∧ 0 ≤ d.od ∧ d.od ≤ 1073741824 ∧ d.x.re = fl d.ev.toNat ∧ d.x.im = fl d.od.toNat
theorem pt_e (f : Int) : Pt (DSl.e f) := ⟨by simp [DSl.e], by simp [DSl.e], by simp [DSl.e], by simp [DSl.e], by simp [DSl.e, PSl.e, fl_zero], by simp [DSl.e, PSl.e, fl_zero]⟩
theorem tRead_len (fs : List Fr) (e f o n : Int) : (tRead fs e f o n).2.length ≤ n.toNat := by
  unfold tRead
  split
  · split
    · simp
    · cases fat fs f with
      | none => simp
      | some y => unfold cutB; simp only [List.length_take]; omega
  · simp
theorem partD_bd {m : Nat} {k : KS} {D : DP} (g : DI m k D) : ∀ {l : List Pc} {z r : Nat × Nat} {L : Nat}, partD k D l z L = some r → r.1 ≤ z.1 + 1073741824 * l.length ∧ r.2 ≤ z.2 + 1073741824 * l.length
  | [], z, r, L, h => by
    simp only [partD, Option.some.injEq] at h
    subst h
    exact ⟨Nat.le_add_right _ _, Nat.le_add_right _ _⟩
  | x :: l, z, r, L, h => by
    cases hi : D.ps.sl.findIdx? (pinB x.f) with
    | none => rw [partD_none hi] at h; cases h
    | some i =>
      by_cases hw : 0 ≤ x.o ∧ 0 ≤ x.n ∧ x.n ≤ 256 - x.o
      · obtain ⟨y, hy, _⟩ := idx_at hi
        have hy2 : (D.sl.map DSl.x)[i]? = some y := hy
        rw [List.getElem?_map] at hy2
        obtain ⟨d, hd⟩ : ∃ d, D.sl[i]? = some d := by
          cases hd : D.sl[i]? with
          | none => rw [hd] at hy2; cases hy2
          | some d => exact ⟨d, rfl⟩
        rw [partD_step hi hd hw] at h
        have ih := partD_bd g h
        have hpt := g.pt d (List.mem_of_getElem? hd)
        have hb := pr_bd (tRead k.fs 1 x.f x.o x.n).2
        have hl := tRead_len k.fs 1 x.f x.o x.n
        have hlen : (x :: l).length = l.length + 1 := rfl
        have hy : (if x.o = 0 ∧ x.n = d.x.n then (d.ev.toNat, d.od.toNat) else pr (tRead k.fs 1 x.f x.o x.n).2).1 ≤ 1073741824 ∧ (if x.o = 0 ∧ x.n = d.x.n then (d.ev.toNat, d.od.toNat) else pr (tRead k.fs 1 x.f x.o x.n).2).2 ≤ 1073741824 := by
          split
          · simp only; omega
          · omega
        generalize (if x.o = 0 ∧ x.n = d.x.n then (d.ev.toNat, d.od.toNat) else pr (tRead k.fs 1 x.f x.o x.n).2) = yy at *
        unfold joinP at ih
        rw [hlen]
        split at ih <;> simp only at ih <;> omega
      · rw [partD_out hw] at h; cases h
theorem pin_pos' {f : Int} {x : PSl} (h : pinB f x = true) : x.f = f ∧ 0 < x.pi := by unfold pinB at h; simp at h; exact h
/-- What a pool leans on. -/
structure PG (m : Nat) (k : KS) (D : DP) : Prop where
  di : DI m k D
  uni : D.uni
  bd : D.ps.bd m
/-- What a step may do to a slot. -/
structure SlR (a b : Nat) (x x' : DSl) : Prop where
  f : x'.x.f = x.x.f
  pt : Pt x → Pt x'
  has : ∀ c, hasB c x'.x = true → hasB c x.x = true
  pi : 0 ≤ x.x.pi → x.x.pi ≤ a → 0 ≤ x'.x.pi ∧ x'.x.pi ≤ b
theorem SlR.refl {a b : Nat} (h : a ≤ b) (x : DSl) : SlR a b x x := ⟨rfl, id, fun _ h => h, fun h0 h1 => ⟨h0, by omega⟩⟩
theorem SlR.trans {a b c : Nat} {x y z : DSl} (h : SlR a b x y) (k : SlR b c y z) : SlR a c x z := ⟨k.f.trans h.f, fun p => k.pt (h.pt p), fun d hd => h.has d (k.has d hd), fun h0 h1 => by have := h.pi h0 h1; exact k.pi this.1 this.2⟩
theorem slr_e {a b : Nat} (x : DSl) : SlR a b x (DSl.e x.x.f) := ⟨rfl, fun _ => pt_e _, fun c h => by simp [DSl.e, PSl.e, hasB] at h, fun _ _ => by simp [DSl.e, PSl.e]⟩
structure DRel (a b : Nat) (D D' : DP) : Prop where
  len : D'.sl.length = D.sl.length
  at_ : ∀ (j : Nat) (x' : DSl), D'.sl[j]? = some x' → ∃ x : DSl, D.sl[j]? = some x ∧ SlR a b x x'
  fi : 0 ≤ D.fills → D.fills ≤ a → 0 ≤ D'.fills ∧ D'.fills ≤ b
theorem DRel.refl {a b : Nat} (h : a ≤ b) (D : DP) : DRel a b D D := ⟨rfl, fun j x' hx => ⟨x', hx, SlR.refl h _⟩, fun h0 h1 => ⟨h0, by omega⟩⟩
theorem DRel.trans {a b c : Nat} {D E F : DP} (h : DRel a b D E) (k : DRel b c E F) : DRel a c D F := ⟨k.len.trans h.len, fun j z hz => by
  obtain ⟨y, hy, r2⟩ := k.at_ j z hz
  obtain ⟨x, hx, r1⟩ := h.at_ j y hy
  exact ⟨x, hx, r1.trans r2⟩, fun h0 h1 => by have := h.fi h0 h1; exact k.fi this.1 this.2⟩
theorem drel_set {a b : Nat} (h : a ≤ b) {D : DP} {i : Nat} {x y : DSl} {hand : Nat} (hx : D.sl[i]? = some x) (hr : SlR a b x y) : DRel a b D { D with sl := D.sl.set i y, hand := hand } := ⟨by simp, fun j x' hx' => by
  have hx' : (D.sl.set i y)[j]? = some x' := hx'
  by_cases hij : i = j
  · subst hij
    rw [List.getElem?_set_self (List.getElem?_eq_some_iff.1 hx).1] at hx'
    injection hx' with e; subst e
    exact ⟨x, hx, hr⟩
  · rw [List.getElem?_set_ne hij] at hx'
    exact ⟨x', hx', SlR.refl h _⟩, fun h0 h1 => ⟨h0, by show D.fills ≤ _; omega⟩⟩
theorem dRnd_rel {m : Nat} (k : KS) : ∀ (n : Nat) (D : DP), DRel m m D (dRnd k n D).2
  | 0, D => DRel.refl (Nat.le_refl _) D
  | n + 1, D => by
    unfold dRnd
    cases hx : D.sl[D.hand]? with
    | none => exact DRel.refl (Nat.le_refl _) D
    | some x =>
      simp only
      split
      · exact drel_set (Nat.le_refl _) hx (slr_e x)
      · exact (drel_set (Nat.le_refl _) hx (y := ⟨{ x.x with ma := false }, x.ev, x.od⟩) ⟨rfl, id, fun _ h => h, fun h0 h1 => ⟨h0, h1⟩⟩).trans (dRnd_rel k n _)
theorem dTake_rel {m : Nat} (k : KS) (D : DP) : DRel m m D (dTake k D).2 := by
  unfold dTake
  cases hf : D.sl.findIdx? (fun d => tkB k d.x) with
  | none => exact dRnd_rel k _ D
  | some i => exact DRel.refl (Nat.le_refl _) D
theorem DRel.pg {a b : Nat} {k : KS} {D D' : DP} (h : DRel a b D D') (hab : a ≤ b) (g : PG a k D) : PG b k D' := by
  have mem : ∀ d' ∈ D'.sl, ∃ d ∈ D.sl, SlR a b d d' := fun d' hd => by
    obtain ⟨j, hj⟩ := List.mem_iff_getElem?.1 hd
    obtain ⟨x, hx, hr⟩ := h.at_ j d' hj
    exact ⟨x, List.mem_of_getElem? hx, hr⟩
  refine ⟨⟨kcnt_up g.di.c hab, fun d' hd => ?_, fun d' hd => ?_⟩, fun c i j x y hx hy h1 h2 => ?_, ⟨fun x hx => ?_, (h.fi g.bd.f0 g.bd.f1).1, (h.fi g.bd.f0 g.bd.f1).2⟩⟩
  · obtain ⟨d, hm, hr⟩ := mem d' hd
    rw [hr.f]; exact g.di.fr d hm
  · obtain ⟨d, hm, hr⟩ := mem d' hd
    exact hr.pt (g.di.pt d hm)
  · obtain ⟨x0, e1, r1⟩ := h.at_ i x hx
    obtain ⟨y0, e2, r2⟩ := h.at_ j y hy
    exact g.uni c i j x0 y0 e1 e2 (r1.has c h1) (r2.has c h2)
  · obtain ⟨d', hd', rfl⟩ := List.mem_map.1 hx
    obtain ⟨d, hm, hr⟩ := mem d' hd'
    have := g.bd.pi d.x (List.mem_map.2 ⟨d, hm, rfl⟩)
    exact hr.pi this.1 this.2
theorem PG.mono {a b : Nat} {k : KS} {D : DP} (g : PG a k D) (h : a ≤ b) : PG b k D := (DRel.refl h D).pg h g
/-! ### frames stay whose they are -/
def OwS (fs gs : List Fr) : Prop := ∀ (f : Nat) (y : Fr), fs[f]? = some y → ∃ y', gs[f]? = some y' ∧ y'.ow = y.ow
theorem OwS.refl (fs : List Fr) : OwS fs fs := fun f y h => ⟨y, h, rfl⟩
theorem ows_set {fs : List Fr} {i : Nat} {x z : Fr} (hx : fs[i]? = some x) (hz : z.ow = x.ow) : OwS fs (fs.set i z) := fun f y h => by
  by_cases hif : i = f
  · subst hif
    rw [hx] at h; injection h with h; subst h
    exact ⟨z, List.getElem?_set_self (List.getElem?_eq_some_iff.1 hx).1, hz⟩
  · exact ⟨y, by rw [List.getElem?_set_ne hif]; exact h, rfl⟩
theorem ows_map {fs gs : List Fr} {a : Nat → Int} (h : ∀ f, gs[f]? = (fs[f]?).map (frUp (a f))) : OwS fs gs := fun f y hy => ⟨frUp (a f) y, by rw [h f, hy]; rfl, rfl⟩
theorem tWrite_ow (fs : List Fr) (e g t : Int) (s : List UInt8) : OwS fs (tWrite fs e g t s).2 := by
  unfold tWrite
  split
  · split
    · exact OwS.refl _
    · cases hf : fat fs g with
      | none => exact OwS.refl _
      | some x =>
        simp only
        split
        · exact OwS.refl _
        · exact ows_set (fat_some hf).2 rfl
  · exact OwS.refl _
theorem send_ow {k k' : KS} {x : Kc} {n e : Int} (h : kSend k x n e k') : OwS k.fs k'.fs := by
  rcases h with ⟨_, _, _, rfl⟩ | ⟨_, _, _, _, rfl⟩ | ⟨_, hc, _, _, y, _, _, rfl⟩
  · exact OwS.refl _
  · exact OwS.refl _
  · obtain ⟨he, hp⟩ := checkE_ok hc
    exact ows_map (holdAll_at he x.l k.fs (fun p hm => ⟨(hp p hm).2.2.1, (hp p hm).2.2.2.1, (hp p hm).2.2.2.2⟩))
theorem dep_ow {k k' : KS} {env e : Int} {l : List UInt8} (hi : HInv k) (h : kDep k l env e k') : OwS k.fs k'.fs := by
  rcases h with ⟨_, _, _, _, rfl⟩ | ⟨y, q, hq, _, _, _, rfl⟩
  · exact OwS.refl _
  · exact ows_map (hi.first hq).2
theorem PG.turn {m m' : Nat} {k k' : KS} {D : DP} (g : PG m k D) (hm : m ≤ m') (hc : k'.cnt m') (ho : OwS k.fs k'.fs) (hpg : ∀ y ∈ k'.fs, y.bs.length = 256) : PG m' k' D := by
  refine ⟨⟨hc, fun d hd => ?_, g.di.pt⟩, g.uni, ⟨fun x hx => by have := g.bd.pi x hx; omega, g.bd.f0, by have := g.bd.f1; omega⟩⟩
  obtain ⟨fi, y, hf, hy, hw, _⟩ := g.di.fr d hd
  obtain ⟨y', hy', hw'⟩ := ho fi y hy
  exact ⟨fi, y', hf, hy', by rw [hw', hw], hpg y' (List.mem_of_getElem? hy')⟩
/-! ### Unpin, Forget -/
def DSl.less (d : DSl) : DSl := if d.x.pi - 1 = 0 ∧ d.x.kd ≠ 1 then DSl.e d.x.f else ⟨{ d.x with pi := d.x.pi - 1 }, d.ev, d.od⟩
theorem slr_more {m : Nat} (d : DSl) (b : Bool) : SlR m (m + 1) d ⟨{ d.x with pi := d.x.pi + 1, ma := b }, d.ev, d.od⟩ := ⟨rfl, id, fun _ h => h, fun h0 h1 => ⟨by show 0 ≤ d.x.pi + 1; omega, by show d.x.pi + 1 ≤ _; push_cast; omega⟩⟩
def dfgt (bl : List Int) (d : DSl) : DSl := if d.x.kd = 1 ∧ bl.contains d.x.bl = true then (if 0 < d.x.pi then ⟨{ d.x with kd := 3 }, d.ev, d.od⟩ else DSl.e d.x.f) else d
def dForget (D : DP) (bl : List Int) : DP := { D with sl := D.sl.map (dfgt bl) }
theorem dfgt_x (bl : List Int) (d : DSl) : (dfgt bl d).x = fgt bl d.x := by
  unfold dfgt fgt
  split
  · split <;> rfl
  · rfl
theorem dForget_ps (D : DP) (bl : List Int) : (dForget D bl).ps = pForget D.ps bl := by
  unfold dForget pForget DP.ps
  simp only [List.map_map]
  congr 1
  apply List.map_congr_left
  intro d _
  exact dfgt_x bl d
theorem dForget_rel {m : Nat} (D : DP) (bl : List Int) : DRel m m D (dForget D bl) := ⟨by simp [dForget], fun j x' hx' => by
  unfold dForget at hx'
  simp only [List.getElem?_map] at hx'
  cases hx : D.sl[j]? with
  | none => rw [hx] at hx'; cases hx'
  | some x =>
    rw [hx] at hx'
    simp only [Option.map_some, Option.some.injEq] at hx'
    subst hx'
    refine ⟨x, rfl, ?_⟩
    unfold dfgt
    split
    · split
      · exact ⟨rfl, id, fun c h => by simp [hasB] at h, fun h0 h1 => ⟨h0, h1⟩⟩
      · exact slr_e x
    · exact SlR.refl (Nat.le_refl _) x, fun h0 h1 => ⟨h0, h1⟩⟩
/-! ### Get, Head -/
theorem ps_at {D : DP} {i : Nat} {x : PSl} (h : D.ps.sl[i]? = some x) : ∃ d, D.sl[i]? = some d ∧ d.x = x := by
  have h : (D.sl.map DSl.x)[i]? = some x := h
  rw [List.getElem?_map] at h
  cases hd : D.sl[i]? with
  | none => rw [hd] at h; cases h
  | some d => rw [hd] at h; exact ⟨d, rfl, by simpa using h⟩
theorem ps_idx (D : DP) (p : PSl → Bool) : D.ps.sl.findIdx? p = D.sl.findIdx? (fun d => p d.x) := by simp only [DP.ps, List.findIdx?_map]; rfl
theorem ps_set (D : DP) (i : Nat) (d : DSl) : ({ D with sl := D.sl.set i d } : DP).ps = { D.ps with sl := D.ps.sl.set i d.x } := by simp [DP.ps, List.map_set]
/-- A slot that was taken gets a block. -/
theorem pg_read {m : Nat} {k : KS} {D : DP} (g : PG m k D) {b n : Int} {ev od : Int} {i : Nat} {d : DSl} (hn : D.sl.findIdx? (fun d => hasB b d.x) = none) (hd : D.sl[i]? = some d) (hpt : Pt ⟨⟨d.x.f, 1, b, d.x.pi + 1, n, fl ev.toNat, fl od.toNat, true⟩, ev, od⟩) :
    PG (m + 1) k { D with sl := D.sl.set i ⟨⟨d.x.f, 1, b, d.x.pi + 1, n, fl ev.toNat, fl od.toNat, true⟩, ev, od⟩, fills := D.fills + 1 } := by
  have hi := (List.getElem?_eq_some_iff.1 hd).1
  have no : ∀ (j : Nat) (y : DSl), D.sl[j]? = some y → hasB b y.x = false := fun j y hy => by
    rw [List.findIdx?_eq_none_iff] at hn
    exact hn y (List.mem_of_getElem? hy)
  have at_ : ∀ (j : Nat) (x' : DSl), (D.sl.set i ⟨⟨d.x.f, 1, b, d.x.pi + 1, n, fl ev.toNat, fl od.toNat, true⟩, ev, od⟩)[j]? = some x' → (j = i ∧ x' = ⟨⟨d.x.f, 1, b, d.x.pi + 1, n, fl ev.toNat, fl od.toNat, true⟩, ev, od⟩) ∨ (j ≠ i ∧ D.sl[j]? = some x') := fun j x' h => by
    by_cases hij : i = j
    · subst hij
      rw [List.getElem?_set_self hi] at h
      injection h with h
      exact .inl ⟨rfl, h.symm⟩
    · rw [List.getElem?_set_ne hij] at h
      exact .inr ⟨fun e => hij e.symm, h⟩
  have hbb : ∀ c, hasB c (⟨d.x.f, 1, b, d.x.pi + 1, n, fl ev.toNat, fl od.toNat, true⟩ : PSl) = true → c = b := fun c h => by simp [hasB] at h; exact h.symm
  refine ⟨⟨kcnt_up g.di.c (Nat.le_succ _), fun x hx => ?_, fun x hx => ?_⟩, fun c p q x y hx hy h1 h2 => ?_, ⟨fun x hx => ?_, by have := g.bd.f0; show 0 ≤ D.fills + 1; have : 0 ≤ D.fills := this; omega, by have := g.bd.f1; show D.fills + 1 ≤ _; have : D.fills ≤ m := this; push_cast; omega⟩⟩
  · obtain ⟨j, hj⟩ := List.mem_iff_getElem?.1 hx
    rcases at_ j x hj with ⟨_, rfl⟩ | ⟨_, hj⟩
    · exact g.di.fr d (List.mem_of_getElem? hd)
    · exact g.di.fr x (List.mem_of_getElem? hj)
  · obtain ⟨j, hj⟩ := List.mem_iff_getElem?.1 hx
    rcases at_ j x hj with ⟨_, rfl⟩ | ⟨_, hj⟩
    · exact hpt
    · exact g.di.pt x (List.mem_of_getElem? hj)
  · rcases at_ p x hx with ⟨rfl, rfl⟩ | ⟨hp, hx2⟩
    · rcases at_ q y hy with ⟨rfl, rfl⟩ | ⟨hq, hy2⟩
      · rfl
      · have := hbb c h1; subst this
        rw [no q y hy2] at h2; cases h2
    · rcases at_ q y hy with ⟨rfl, rfl⟩ | ⟨hq, hy2⟩
      · have := hbb c h2; subst this
        rw [no p x hx2] at h1; cases h1
      · exact g.uni c p q x y hx2 hy2 h1 h2
  · obtain ⟨z, hz, rfl⟩ := List.mem_map.1 hx
    obtain ⟨j, hj⟩ := List.mem_iff_getElem?.1 hz
    rcases at_ j z hj with ⟨_, rfl⟩ | ⟨_, hj⟩
    · have := g.bd.pi d.x (List.mem_map.2 ⟨d, List.mem_of_getElem? hd, rfl⟩)
      show 0 ≤ d.x.pi + 1 ∧ d.x.pi + 1 ≤ _
      push_cast; omega
    · have := g.bd.pi z.x (List.mem_map.2 ⟨z, List.mem_of_getElem? hj, rfl⟩)
      push_cast; omega
theorem slr_head {m : Nat} (d : DSl) (n : Int) {l : List UInt8} (hl : l.length ≤ 256) : SlR m (m + 1) d ⟨⟨d.x.f, 2, d.x.bl, 1, n, fl (pr l).1, fl (pr l).2, d.x.ma⟩, (pr l).1, (pr l).2⟩ := by
  have := pr_bd l
  refine ⟨rfl, fun _ => ⟨by simp, by show ((pr l).1 : Int) ≤ _; omega, by simp, by show ((pr l).2 : Int) ≤ _; omega, by simp, by simp⟩, fun c h => by simp [hasB] at h, fun h0 h1 => ⟨by simp, by show (1 : Int) ≤ _; push_cast; omega⟩⟩
theorem take_none_has {m : Nat} {k : KS} {D : DP} (b : Int) (h : D.sl.findIdx? (fun d => hasB b d.x) = none) : (dTake k D).2.sl.findIdx? (fun d => hasB b d.x) = none := by
  rw [List.findIdx?_eq_none_iff] at h ⊢
  intro x hx
  obtain ⟨j, hj⟩ := List.mem_iff_getElem?.1 hx
  obtain ⟨y, hy, hr⟩ := (dTake_rel (m := m) k D).at_ j x hj
  cases hc : hasB b x.x with
  | false => rfl
  | true => have := hr.has b hc; rw [h y (List.mem_of_getElem? hy)] at this; cases this
end
/-! ### PoolParts walked. -/
section
open Go.RowKit Go.Shelf
set_option linter.unusedVariables false
set_option linter.unusedSimpArgs false
set_option maxRecDepth 100000
/-- What taking may do to a slot: its mark turns, or it is emptied. -/
def SlQ (x x' : PSl) : Prop := (∃ b, x' = { x with ma := b }) ∨ (x.pi = 0 ∧ ∃ b, x' = { PSl.e x.f with ma := b })
theorem SlQ.refl (x : PSl) : SlQ x x := .inl ⟨x.ma, rfl⟩
theorem SlQ.trans {x y z : PSl} (h : SlQ x y) (k : SlQ y z) : SlQ x z := by
  rcases h with ⟨b, rfl⟩ | ⟨h0, b, rfl⟩
  · rcases k with ⟨c, rfl⟩ | ⟨k0, c, rfl⟩
    · exact .inl ⟨c, rfl⟩
    · exact .inr ⟨k0, c, rfl⟩
  · rcases k with ⟨c, rfl⟩ | ⟨k0, c, rfl⟩
    · exact .inr ⟨h0, c, rfl⟩
    · exact .inr ⟨h0, c, rfl⟩
structure TkQ (p p' : PS) (o : Option Nat) : Prop where
  len : p'.sl.length = p.sl.length
  at_ : ∀ (j : Nat) (x' : PSl), p'.sl[j]? = some x' → ∃ x : PSl, p.sl[j]? = some x ∧ SlQ x x'
theorem TkQ.refl (p : PS) (o : Option Nat) : TkQ p p o := ⟨rfl, fun j x' h => ⟨x', h, SlQ.refl _⟩⟩
theorem setq_rel {p : PS} {j : Nat} {x y : PSl} (hx : p.sl[j]? = some x) (hr : SlQ x y) (i : Nat) (x' : PSl) (h : (p.sl.set j y)[i]? = some x') : ∃ z, p.sl[i]? = some z ∧ SlQ z x' := by
  by_cases hij : j = i
  · subst hij
    rw [List.getElem?_set_self (List.getElem?_eq_some_iff.1 hx).1] at h
    injection h with h; subst h
    exact ⟨x, hx, hr⟩
  · rw [List.getElem?_set_ne hij] at h
    exact ⟨x', h, SlQ.refl _⟩
theorem maB_pi' {k : KS} {x : PSl} (h : maB k x = true) : x.pi = 0 := by unfold maB at h; simp at h; exact h.1
theorem pRnd_q (k : KS) : ∀ (n : Nat) (p : PS), TkQ p (pRnd k n p).2 (pRnd k n p).1
  | 0, p => TkQ.refl p _
  | n + 1, p => by
    unfold pRnd
    cases hx : p.sl[p.hand]? with
    | none => exact TkQ.refl p _
    | some x =>
      simp only
      split
      · rename_i hc
        have hm : maB k x = true := by
          cases h : maB k x with
          | true => rfl
          | false => rw [h] at hc; simp at hc
        have hpi := maB_pi' hm
        exact ⟨by simp, fun j x' h => setq_rel (y := PSl.e x.f) hx (.inr ⟨hpi, false, rfl⟩) j x' h⟩
      · have ih := pRnd_q k n { p with sl := p.sl.set p.hand { x with ma := false }, hand := (p.hand + 1) % p.sl.length }
        refine ⟨by rw [ih.len]; simp, fun j x' h => ?_⟩
        obtain ⟨y, hy, hr⟩ := ih.at_ j x' h
        obtain ⟨z, hz, hr2⟩ := setq_rel hx (y := { x with ma := false }) (.inl ⟨false, rfl⟩) j y hy
        exact ⟨z, hz, hr2.trans hr⟩
theorem pTake_q (k : KS) (p : PS) : TkQ p (pTake k p).2 (pTake k p).1 := by
  unfold pTake
  cases hf : p.sl.findIdx? (tkB k) with
  | none => exact pRnd_q k _ p
  | some i => exact TkQ.refl p _
theorem kcnt_mono' {k : KS} {a b : Nat} (h : k.cnt a) (hab : a ≤ b) : k.cnt b := ⟨by have := h.ln; omega, by have := h.nx; omega, by have := h.c1; omega, by have := h.c2; omega, by have := h.co; omega, by have := h.dn; omega, h.fl, fun y hy => by have := h.ho y hy; omega⟩
theorem tWrite_ok' {fs : List Fr} {i : Nat} {y : Fr} (hy : fs[i]? = some y) (ho : y.ow = 1) (hz : hoIn fs 0) {l : List UInt8} (hl : l.length ≤ 256) : (tWrite fs 1 i 0 l).2 = fs.set i { y with bs := putB y.bs 0 l } := by
  have hf : fat fs (i : Int) = some y := by unfold fat; rw [if_pos (by omega)]; simpa using hy
  have h1 : ownE fs 1 i = 0 := by unfold ownE; rw [if_pos (by rfl), hf]; simp [ho]
  have h2 : spanB 0 l.length = true := by simp [spanB]; omega
  have h3 := hoIn_at hz hf
  unfold tWrite
  rw [if_pos h1, if_neg (by simp [h2]), hf]
  simp only
  rw [if_neg (by omega)]
  simp
section
variable {m : Nat} {k k' : KS} {p p' : PS}
theorem PPI.mono (h : PPI m k p) {m' : Nat} (hm : m ≤ m') : PPI m' k p := ⟨kcnt_mono' h.c hm, h.ho, h.fr, h.sf, h.pt⟩
theorem PPI.take (h : PPI m k p) : PPI m k (pTake k p).2 := by
  have q := pTake_q k p
  refine ⟨h.c, h.ho, fun j hj => h.fr j (by rw [← q.len]; exact hj), fun j x' hx' => ?_, fun j x' hx' hp => ?_⟩
  · obtain ⟨x, hx, hr⟩ := q.at_ j x' hx'
    have := h.sf j x hx
    rcases hr with ⟨b, rfl⟩ | ⟨_, b, rfl⟩
    · exact this
    · exact this
  · obtain ⟨x, hx, hr⟩ := q.at_ j x' hx'
    rcases hr with ⟨b, rfl⟩ | ⟨_, b, rfl⟩
    · exact h.pt j x hx hp
    · exact absurd hp (by show ¬ (0 : Int) < 0; omega)
theorem PPI.head (h : PPI m k p) {l : List UInt8} {f e : Int} (hr : HeadR k p l f e p' k') : PPI m k' p' := by
  rcases hr with ⟨_, _, _, e2, e3⟩ | ⟨_, _, _, _, e2, e3⟩ | ⟨hl, i, x, g1, g2, g3, g4, g5, g6⟩
  · subst e2; subst e3; exact h
  · subst e2; subst e3; exact h.take
  · have T := h.take
    obtain ⟨q, hq⟩ : ∃ q, (pTake k p).2 = q := ⟨_, rfl⟩
    rw [hq] at T g2 g5
    have hi := (List.getElem?_eq_some_iff.1 g2).1
    have hf := T.sf i x g2
    obtain ⟨y, hy, ho, hbs⟩ := T.fr i hi
    have hw : (tWrite k.fs 1 x.f 0 l).2 = k.fs.set i { y with bs := putB y.bs 0 l } := by rw [hf]; exact tWrite_ok' hy ho T.ho hl
    have hy1 : (k.fs.set i { y with bs := putB y.bs 0 l })[i]? = some { y with bs := putB y.bs 0 l } := List.getElem?_set_self (List.getElem?_eq_some_iff.1 hy).1
    have hpb : putB y.bs 0 l = l ++ y.bs.drop l.length := by simp [putB]
    subst g5; subst g6
    refine ⟨kw_cnt T.c _ _ _ _, tWrite_ho T.ho, fun j hj => ?_, fun j z hz => ?_, fun j z hz hp => ?_⟩
    · show ∃ v, (tWrite k.fs 1 x.f 0 l).2[j]? = some v ∧ _
      rw [hw]
      by_cases hij : i = j
      · subst hij; exact ⟨_, hy1, ho, by show (putB y.bs 0 l).length = 256; rw [hpb]; simp; omega⟩
      · rw [List.getElem?_set_ne hij]; exact T.fr j (by simpa using hj)
    · by_cases hij : i = j
      · subst hij
        have : (q.sl.set i _)[i]? = some z := hz
        rw [List.getElem?_set_self hi] at this; injection this with this; subst this; exact hf
      · have : (q.sl.set i _)[j]? = some z := hz
        rw [List.getElem?_set_ne hij] at this; exact T.sf j z this
    · show 0 ≤ z.n ∧ z.n ≤ 256 ∧ ∀ v, (tWrite k.fs 1 x.f 0 l).2[j]? = some v → _
      rw [hw]
      by_cases hij : i = j
      · subst hij
        have : (q.sl.set i _)[i]? = some z := hz
        rw [List.getElem?_set_self hi] at this; injection this with this; subst this
        refine ⟨by show (0 : Int) ≤ l.length; omega, by show (l.length : Int) ≤ 256; omega, fun v hv => ?_⟩
        rw [hy1] at hv; injection hv with hv; subst hv
        have e1 : (putB y.bs 0 l).take ((l.length : Int)).toNat = l := by rw [hpb]; simp
        show (partN l l.length).1 = fl (pr ((putB y.bs 0 l).take ((l.length : Int)).toNat)).1 ∧ (partN l l.length).2 = fl (pr ((putB y.bs 0 l).take ((l.length : Int)).toNat)).2
        rw [e1, part_pr rfl (by omega)]
        exact ⟨rfl, rfl⟩
      · have : (q.sl.set i _)[j]? = some z := hz
        rw [List.getElem?_set_ne hij] at this ⊢
        exact T.pt j z this hp
end
section
variable {R : Ending → World → Prop} {w w' : World}
set_option maxHeartbeats 1000000 in
theorem num01f_any (e o : Nat) (h : ∀ w', Kp [] w w' → R (.returned (.complex .f64 (fl e) (fl o))) w') : Calls Tryz.prog 25 #[.agg #[.int .i64 e, .int .i64 o]] w R := by
  have H := Lib.hid h
  have hcv : ∀ (W : World) (m : Nat), (convert 2 180 (.int .i64 (m : Int))).run Tryz.prog W = .ok (.float .f64 (fl m)) W := fun W m => run_convert_int_float (P := Tryz.prog) W 2 180 .i64 .f64 m (by rw [Tryz.underlying2]; rfl) Tryz.underlying180
  clear h
  go_enter Tryz.func25, Tryz.ntmps25
  go_wp2
  exact H.out _ ((Kp.refl _ _).alloc _)
set_option maxHeartbeats 4000000 in
/-- The document's part of bytes. -/
theorem rof_any {A : Option Addr} {n c : Nat} {l : List UInt8} (hr : Rd w [] A (bts l)) (hl : l.length = n) (hn : n ≤ 1000000)
    (h : ∀ w', Kp [] w w' → R (.returned (.agg #[.int .i64 (pr l).1, .int .i64 (pr l).2])) w') : Calls Tryz.prog 82 #[.slice A n c] w R := by
  have H := Lib.hid h
  have HR := Lib.hid hr
  have HL := Lib.hid hl
  clear h hr hl
  go_enter Tryz.func82, Tryz.ntmps82
  go_upto_region 2 with (fail)
  refine gen_worldK (fun W => ∃ g, w.heap.size = g ∧ Hid (Kp [] w W ∧ Bk W g 85 [.int .i64 0, .int .i64 0] ∧ Bk W (g + 1) 85 [.int .i64 0, .int .i64 0])) ⟨_, rfl, Lib.hid ⟨((Kp.refl _ _).alloc _).alloc _, ((Bk.new' _ _ _).alloc _).cast rfl, (Bk.newAt (by simp) _ _).cast rfl⟩⟩ ?_
  rintro W ⟨g, hg, hW⟩
  rw [hg]
  have hgw : w.heap.size ≤ g := by omega
  clear hg
  go_wp2
  go_loopw [4] (fun iv wr => ∃ k : Nat, k ≤ n ∧ iv = .int .i64 k ∧ Hid (Kp [] w wr ∧ Bk wr g 85 [.int .i64 0, .int .i64 0] ∧ Bk wr (g + 1) 85 [.int .i64 (pr (l.take k)).1, .int .i64 (pr (l.take k)).2])) (fun iv _ => n - (intOf iv).toNat)
  case atStart => exact ⟨0, Nat.zero_le _, rfl, Lib.hid ⟨hW.out.1, hW.out.2.1, by simpa [pr] using hW.out.2.2⟩⟩
  case round =>
    obtain ⟨k, hk, rfl, hS⟩ := hrel
    by_cases hlt : k < n
    · obtain ⟨b, off, rfl, hc⟩ := rd_byte (HR.out.kp hS.out.1 (by simp)) (k := k) (by have := HL.out; omega)
      obtain ⟨m, hm⟩ : ∃ m : Nat, (l[k]'(by have := HL.out; omega)).toNat = m := ⟨_, rfl⟩
      have hm2 : m ≤ 255 := by have := (l[k]'(by have := HL.out; omega)).toNat_lt; omega
      rw [hm] at hc
      have hbd := pr_bd (l.take k)
      have hlen : (l.take k).length = k := by have := HL.out; simp; omega
      rw [hlen] at hbd
      have hpr : pr (l.take (k + 1)) = if k % 2 = 0 then ((pr (l.take k)).1 + m, (pr (l.take k)).2) else ((pr (l.take k)).1, (pr (l.take k)).2 + m) := by
        rw [List.take_succ_eq_append_getElem (by have := HL.out; omega), pr_app, hlen]
        simp only [pr, hm, Nat.add_zero]
      obtain ⟨E, hE⟩ : ∃ E, (pr (l.take k)).1 = E := ⟨_, rfl⟩
      obtain ⟨O, hO⟩ : ∃ O, (pr (l.take k)).2 = O := ⟨_, rfl⟩
      rw [hE, hO] at hpr hbd hS
      have HPR := Lib.hid hpr
      have c0 : wr.cell? ⟨g + 1, 0, none⟩ = some (.int .i64 E) := hS.out.2.2.cell 0
      have c1 : wr.cell? ⟨g + 1, 1, none⟩ = some (.int .i64 O) := hS.out.2.2.cell 1
      have f0 := hS.out.2.2.frozen 0
      have f1 := hS.out.2.2.frozen 1
      have hw1 : IntKind.i64.wrap ((E : Int) + m) = (E : Int) + m := by simp [IntKind.wrap, IntKind.signed, IntKind.bits]; omega
      have hw2 : IntKind.i64.wrap ((O : Int) + m) = (O : Int) + m := by simp [IntKind.wrap, IntKind.signed, IntKind.bits]; omega
      have hwm : IntKind.i64.wrap (m : Int) = m := by simp [IntKind.wrap, IntKind.signed, IntKind.bits]; omega
      clear hpr hE hO hm
      by_cases hp : k % 2 = 0
      · have hq : (k : Int).tmod 2 = 0 := by rw [Int.tmod_eq_emod_of_nonneg (by omega)]; omega
        have HP2 := Lib.hid (HPR.out.trans (if_pos hp))
        clear hp HPR
        go_upto_region 6 with (fail)
        go_region
        go_wp2
        exact ⟨⟨k + 1, by omega, by go_num, Lib.hid ⟨(hS.out.1.setCell (p := ⟨g + 1, 0, none⟩) (.inr (by show w.heap.size ≤ g + 1; omega)) _).drew, (hS.out.2.1.far (p := ⟨g + 1, 0, none⟩) (by show g ≠ g + 1; omega) _).drew, by rw [HP2.out]; exact ((hS.out.2.2.set_ 0 _).cast (by simp)).drew⟩⟩, by simp [intOf]; omega⟩
      · have hq : (k : Int).tmod 2 = 1 := by rw [Int.tmod_eq_emod_of_nonneg (by omega)]; omega
        have HP2 := Lib.hid (HPR.out.trans (if_neg hp))
        clear hp HPR
        go_upto_region 7 with (fail)
        go_region
        go_wp2
        exact ⟨⟨k + 1, by omega, by go_num, Lib.hid ⟨(hS.out.1.setCell (p := ⟨g + 1, 1, none⟩) (.inr (by show w.heap.size ≤ g + 1; omega)) _).drew, (hS.out.2.1.far (p := ⟨g + 1, 1, none⟩) (by show g ≠ g + 1; omega) _).drew, by rw [HP2.out]; exact ((hS.out.2.2.set_ 1 _).cast (by simp)).drew⟩⟩, by simp [intOf]; omega⟩
    · obtain rfl : k = n := by omega
      have hT : l.take k = l := List.take_of_length_le (by have := HL.out; omega)
      rw [hT] at hS
      have c0 := hS.out.2.2.cell 0
      have c1 := hS.out.2.2.cell 1
      have d0 := hS.out.2.1.cell 0
      have d1 := hS.out.2.1.cell 1
      have e0 := hS.out.2.1.frozen 0
      have e1 := hS.out.2.1.frozen 1
      clear hT
      go_wp2
      have bz := (hS.out.2.1.set_ 0 (.int .i64 (pr l).1)).set_ 1 (.int .i64 (pr l).2)
      have z0 := bz.cell 0
      have z1 := bz.cell 1
      simp only [List.set_cons_zero, List.set_cons_succ, List.getElem?_cons_zero, List.getElem?_cons_succ] at z0 z1
      refine bodyPost_ret (v := .agg #[.int .i64 (pr l).1, .int .i64 (pr l).2]) (by simp [results, Tryz.results82, go_sem, z0, z1]) rfl (H.out _ ((hS.out.1.setCell (p := ⟨g, 0, none⟩) (.inr hgw) _).setCell (p := ⟨g, 1, none⟩) (.inr hgw) _))
/-- PoolParts' memory. -/
def PPS (w wr : World) (B kg pg tb : Nat) : Prop := ∃ ka pa k p, ka.g = kg ∧ pa.g = pg ∧ ka.bT = tb ∧ Kp [] w wr ∧ KPl wr B ka k pa p ∧ PPI 0 k p
end
end
end Go.Proofs.YtedblbpmlbjnhaaGreat
