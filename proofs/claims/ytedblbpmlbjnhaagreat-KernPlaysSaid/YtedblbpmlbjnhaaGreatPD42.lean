/- Kernel.Depart. The holds of a kernel's frames are those of its transfers, in plain words. -/
import Derived.Test.YtedblbpmlbjnhaaGreatPD28
import Derived.Deep.RegionHeldLaw
import Derived.BigQuiet
import Derived.Test.YtedblbpmlbjnhaaGreatPD41
import Derived.Test.YtedblbpmlbjnhaaGreatPD23
namespace Go.Proofs.YtedblbpmlbjnhaaGreat
/-! ### Kernel.Depart. -/
section
open Go.RowKit Go.Shelf
set_option linter.unusedVariables false
set_option linter.unusedSimpArgs false
set_option maxRecDepth 100000
section
variable {R : Ending → World → Prop} {w : World} {B m : Nat} {a : KA} {k : KS}
/-- What a departure does. -/
def kDep (k : KS) (l : List UInt8) (env e : Int) (k' : KS) : Prop :=
  (k.qo = [] ∧ l = [] ∧ env = 0 ∧ e = 11 ∧ k' = k) ∨ (∃ y q, k.qo = y :: q ∧ l = (fetF k.fs y.l).2 ∧ env = y.env ∧ e = 0 ∧ k' = { k with fs := dropAll k.fs y.l, fo := k.fo + 1, qo := q, dn := k.dn + 1 })
set_option maxHeartbeats 4000000 in
theorem kdep_any (hK : Kn w B a k) (hm : k.cnt m) (hm2 : m ≤ 10000) (hd : ∀ y q, k.qo = y :: q → dropOk k.fs y.l)
    (h : ∀ A len cc l env e k' a' w', Hid (kDep k l env e k') → Kq B w w' → (Kn w' B a' k' ∧ a'.g = a.g ∧ a'.bT = a.bT) → l.length = len → Tb w' 5 A (bts l) → R (.returned (.tuple #[.slice A len cc, .int .i64 env, .int .i64 e])) w') :
    Calls Tryz.prog 14 #[.pointer (some ⟨a.g, 0, none⟩)] w R := by
  have H := Lib.hid h
  have HK := Lib.hid hK
  have HM := Lib.hid hm
  have HD := Lib.hid hd
  have hco := hm.co
  have hdn := hm.dn
  have hBB := hK.hB
  have c7 : w.cell? ⟨a.g, 7, none⟩ = some (.pointer (some ⟨a.so, 0, none⟩)) := hK.cell 7
  clear h hK hm hd
  cases hq : k.qo with
  | nil =>
    have HQ := Lib.hid hq
    clear hq
    go_enter Tryz.func14, Tryz.ntmps14
    go_wp2_with (go_at_call 62; (refine ttake_any HK.out.o HK.out.new.n7 (by omega) (fun _ w1 k1 => ?_) (fun x q hxq w1 k1 r1 t1 => absurd hxq.out (by rw [HQ.out]; simp))))
    go_ret3
    exact H.out none 0 0 [] 0 11 k a _ (Lib.hid (.inl ⟨HQ.out, rfl, rfl, rfl, rfl⟩)) (Kq.of0 (k1.alloc _)) ⟨HK.out.off0 (k1.alloc _), rfl, rfl⟩ rfl Tb.nil
  | cons y q =>
    have HQ := Lib.hid hq
    have hyl := (HK.out.o.data y (by rw [hq]; simp))
    clear hq
    go_enter Tryz.func14, Tryz.ntmps14
    go_upto_region 6 with (go_at_call 62; (refine ttake_any HK.out.o HK.out.new.n7 (by omega) (fun hh w1 k1 => absurd hh (by rw [HQ.out]; simp)) (fun x q' hxq w1 k1 r1 t1 => ?_)); obtain ⟨rfl, rfl⟩ : y = x ∧ q = q' := by have := HQ.out.symm.trans hxq.out; injection this with a b; exact ⟨a, b⟩)
    obtain ⟨n1, q1⟩ := HK.out.setO k1 r1
    have ka : Kp [] w1 (w1.alloc (.cells #[.int .i64 y.env, .slice y.A y.n y.c] 120)) := (Kp.refl _ _).alloc _
    have hbx : Bk (w1.alloc (.cells #[.int .i64 y.env, .slice y.A y.n y.c] 120)) w1.heap.size 120 [.int .i64 y.env, .slice y.A y.n y.c] := (Bk.newAt rfl _ _).cast rfl
    obtain ⟨W, hW⟩ : ∃ W, w1.alloc (.cells #[.int .i64 y.env, .slice y.A y.n y.c] 120) = W := ⟨_, rfl⟩
    obtain ⟨xb, hxb⟩ : ∃ xb, w1.heap.size = xb := ⟨_, rfl⟩
    rw [hW] at ka hbx ⊢
    rw [hxb] at hbx ⊢
    have N1 := Lib.hid (n1.off0 ka)
    have Q1 := Lib.hid (q1.trans (Kq.of0 (B := B) ka))
    have BX := Lib.hid hbx
    have T1 := Lib.hid (t1.kp ka (Off.nil _ _))
    have hyn := hyl.2.1
    have hyL := hyl.1
    clear n1 q1 ka hbx hW hxb k1 r1 t1 hyl c7
    have HS : Hid (∀ w', Kp [a.bL] W w' → w'.cell? ⟨a.g, 0, none⟩ = some (.pointer (some ⟨a.bT, 0, none⟩)) ∧ w'.cell? ⟨xb, 1, none⟩ = some (.slice y.A y.n y.c)) := Lib.hid (fun w' k' => ⟨(N1.out.g.off k' (Off.one N1.out.t.l.ty (by decide))).cell 0, (BX.out.off k' (Off.one N1.out.t.l.ty (by decide))).cell 1⟩)
    obtain ⟨q0, q1⟩ := HS.out W (Kp.refl _ _)
    go_region_held_law (fun w' => w'.cell? ⟨a.g, 0, none⟩ = some (.pointer (some ⟨a.bT, 0, none⟩)) ∧ w'.cell? ⟨xb, 1, none⟩ = some (.slice y.A y.n y.c)) ((refine HS.out _ ?_; repeat (first | with_reducible exact kk2.mono (by simp) | with_reducible exact Kp.refl _ _ | with_reducible refine Kp.drew ?_))) ((go_simp; go_at_call 63; (refine gfetch_any (N1.out.t.kp (S := []) (by repeat (first | with_reducible exact Kp.refl _ _ | with_reducible refine Kp.drew ?_)) (by simp) (by simp)) (l := y.l) ((T1.out.kp (by repeat (first | with_reducible exact Kp.refl _ _ | with_reducible refine Kp.drew ?_)) (Off.nil _ _)).rd0) hyL (by omega) ?_); intro e2 o2 A2 c2 w2 hf k2 ow2 b2; have kk2 : Kp [] W w2 := Kp.trans (by repeat (first | with_reducible exact Kp.refl _ _ | with_reducible refine Kp.drew ?_)) k2))
    have HFt := Lib.hid hf
    have N2 := Lib.hid (N1.out.off0 kk2)
    have Q2 := Lib.hid (Q1.out.trans (Kq.of0 (B := B) kk2))
    have BX2 := Lib.hid (BX.out.kp kk2 (by simp))
    have T2 := Lib.hid (T1.out.kp kk2 (Off.nil _ _))
    have O2 := Lib.hid ow2.tb
    clear q0 q1 HS N1 Q1 BX T1 kk2 k2 ow2 b2 hf
    have HS : Hid (∀ w', Kp [a.bL] w2 w' → w'.cell? ⟨a.g, 0, none⟩ = some (.pointer (some ⟨a.bT, 0, none⟩)) ∧ w'.cell? ⟨xb, 1, none⟩ = some (.slice y.A y.n y.c)) := Lib.hid (fun w' k' => ⟨(N2.out.g.off k' (Off.one N2.out.t.l.ty (by decide))).cell 0, (BX2.out.off k' (Off.one N2.out.t.l.ty (by decide))).cell 1⟩)
    obtain ⟨q0, q1⟩ := HS.out w2 (Kp.refl _ _)
    go_upto_region 7 with (fail)
    go_region_held_law (fun w' => w'.cell? ⟨a.g, 0, none⟩ = some (.pointer (some ⟨a.bT, 0, none⟩)) ∧ w'.cell? ⟨xb, 1, none⟩ = some (.slice y.A y.n y.c)) ((refine HS.out _ ?_; repeat (first | with_reducible exact kk3 | with_reducible exact Kp.refl _ _ | with_reducible refine Kp.drew ?_))) ((go_simp; go_at_call 64; (refine gdrop_any (N := [a.bL]) (N2.out.t.kp (S := []) (by repeat (first | with_reducible exact Kp.refl _ _ | with_reducible refine Kp.drew ?_)) (by simp) (by simp)) (l := y.l) ((T2.out.kp (by repeat (first | with_reducible exact Kp.refl _ _ | with_reducible refine Kp.drew ?_)) (Off.nil _ _)).rd (Off.one (N2.out.t.kp (S := []) (by repeat (first | with_reducible exact Kp.refl _ _ | with_reducible refine Kp.drew ?_)) (by simp) (by simp)).l.ty (by decide))) (fun s hs => .inl hs) hyL (by omega) (fun z hz => by have := HM.out.ho z hz; omega) (HD.out y q HQ.out) ?_); intro w3 k3 t3; have kk3 : Kp [a.bL] w2 w3 := Kp.trans (by repeat (first | with_reducible exact Kp.refl _ _ | with_reducible refine Kp.drew ?_)) k3))
    obtain ⟨n3, q3⟩ := N2.out.setT kk3 t3
    have N3 := Lib.hid n3
    have Q3 := Lib.hid (Q2.out.trans q3)
    have BX3 := Lib.hid (BX2.out.off kk3 (Off.one N2.out.t.l.ty (by decide)))
    have O3 := Lib.hid (O2.out.kp kk3 (Off.one N2.out.t.l.ty (by decide)))
    clear q0 q1 HS kk3 k3 t3 n3 q3
    have c8 : w3.cell? ⟨a.g, 8, none⟩ = some (.int .i64 k.dn) := N3.out.cell 8
    have f8 := N3.out.g.frozen 8
    have b0 : w3.cell? ⟨xb, 0, none⟩ = some (.int .i64 y.env) := BX3.out.cell 0
    have hne : xb ≠ a.g := BX3.out.ne_ N3.out.g (by decide)
    go_upto_region 9 with (fail)
    have ks : Kp [a.g] w3 (w3.setCell ⟨a.g, 8, none⟩ (.int .i64 ((k.dn : Int) + 1))) := (Kp.refl _ _).setCell (p := ⟨a.g, 8, none⟩) (.inl (by simp)) _
    have oK : ∀ e, 114 ≠ e → Off w3 [a.g] e := fun e he => Off.one N3.out.g.ty he
    obtain ⟨n9, q9⟩ := N3.out.setF (fA' := a.fA) (fc' := a.fc) (nx' := k.nx) (dn' := k.dn + 1) (fl' := k.fl) (ks.mono (by simp)) ((N3.out.g.set_ 8 _).cast (by simp [KA.cells])) (N3.out.fl.off ks (oK _ (by decide))) N3.out.new.fA (fun z hz => ⟨(N3.out.fd z hz).1, (N3.out.fd z hz).2.1, (N3.out.fd z hz).2.2.kp ks (oK _ (by decide))⟩)
    have o9 := O3.out.kp ks (oK _ (by decide))
    have N9 := Lib.hid n9
    have Q9 := Lib.hid (Q3.out.trans q9)
    have O9 := Lib.hid o9
    have HR9 : Hid (kDep k o2 y.env 0 { k with fs := dropAll k.fs y.l, fo := k.fo + 1, qo := q, dn := k.dn + 1 }) := Lib.hid (.inr ⟨y, q, HQ.out, by rw [HFt.out], rfl, rfl, rfl⟩)
    have b9 : (w3.setCell ⟨a.g, 8, none⟩ (.int .i64 ((k.dn : Int) + 1))).cell? ⟨xb, 0, none⟩ = some (.int .i64 y.env) := (BX3.out.off ks (oK _ (by decide))).cell 0
    obtain ⟨W9, hW9⟩ : ∃ W9, w3.setCell ⟨a.g, 8, none⟩ (.int .i64 ((k.dn : Int) + 1)) = W9 := ⟨_, rfl⟩
    rw [hW9] at N9 Q9 O9 b9 ⊢
    clear n9 q9 o9 ks hW9 c8 f8 b0
    go_quiet (fail)
    go_wp2
    go_ret3
    have kd : ∀ n, Kp [] W9 (W9.drewN n) := fun n => (Kp.refl [] W9).drewN n
    exact H.out A2 o2.length c2 o2 y.env 0 _ a _ HR9 (Q9.out.trans (Kq.of0 (kd _))) ⟨N9.out.off0 (kd _), rfl, rfl⟩ rfl (O9.out.kp (kd _) (Off.nil _ _))
end
end
/-! ### The holds of a kernel's frames are those of its transfers, in plain words. -/
section
open Go.RowKit Go.Shelf
set_option linter.unusedVariables false
set_option linter.unusedSimpArgs false
set_option maxRecDepth 100000

/-- How many pieces name the frame f. -/
def cntP (l : List Pc) (f : Nat) : Nat := (l.filter (fun p => p.f.toNat == f)).length
theorem cntP_cons (p : Pc) (l : List Pc) (f : Nat) : cntP (p :: l) f = (if p.f.toNat = f then 1 else 0) + cntP l f := by
  unfold cntP
  by_cases h : p.f.toNat = f
  · rw [List.filter_cons_of_pos (by simp [h]), if_pos h, List.length_cons]; omega
  · rw [List.filter_cons_of_neg (by simp [h]), if_neg h]; omega
theorem cntP_app (a b : List Pc) (f : Nat) : cntP (a ++ b) f = cntP a f + cntP b f := by simp [cntP]
def frUp (d : Int) (x : Fr) : Fr := { x with ho := x.ho + d }
theorem set_map {fs : List Fr} {i : Nat} {x : Fr} (hx : fs[i]? = some x) (d : Int) (f : Nat) : (fs.set i (frUp d x))[f]? = (fs[f]?).map (frUp (if i = f then d else 0)) := by
  by_cases h : i = f
  · subst h
    rw [List.getElem?_set_self (List.getElem?_eq_some_iff.1 hx).1, hx, if_pos rfl]; rfl
  · rw [List.getElem?_set_ne h, if_neg h]
    cases fs[f]? with
    | none => rfl
    | some y => simp [frUp]
theorem tHold_at {fs : List Fr} {env g : Int} (he : envB env = true) (h0 : 0 ≤ g) (h1 : g < fs.length) (ho : tOwner fs g = env) (f : Nat) :
    (tHold fs env g).2[f]? = (fs[f]?).map (frUp (if g.toNat = f then 1 else 0)) := by
  have hl : g.toNat < fs.length := by omega
  have hx : fs[g.toNat]? = some fs[g.toNat] := List.getElem?_eq_getElem hl
  have hf : fat fs g = some fs[g.toNat] := by unfold fat; rw [if_pos h0, hx]
  have hw : fs[g.toNat].ow = env := by unfold tOwner at ho; rw [hf] at ho; exact ho
  have e0 : ownE fs env g = 0 := by unfold ownE; rw [if_pos he, hf]; simp [hw]
  unfold tHold
  rw [if_pos e0, hf]
  exact set_map hx 1 f
theorem up_up {fs gs : List Fr} {a b : Nat → Int} (h1 : ∀ f, gs[f]? = (fs[f]?).map (frUp (a f))) {hs : List Fr} (h2 : ∀ f, hs[f]? = (gs[f]?).map (frUp (b f))) (f : Nat) : hs[f]? = (fs[f]?).map (frUp (a f + b f)) := by
  rw [h2, h1]
  cases fs[f]? with
  | none => rfl
  | some x => simp [frUp, Int.add_assoc]
theorem up_len {fs gs : List Fr} {a : Nat → Int} (h1 : ∀ f, gs[f]? = (fs[f]?).map (frUp (a f))) : gs.length = fs.length := by
  rcases Nat.lt_trichotomy gs.length fs.length with h | h | h
  · have := h1 gs.length
    rw [List.getElem?_eq_none (Nat.le_refl _), List.getElem?_eq_getElem h] at this
    cases this
  · exact h
  · have := h1 fs.length
    rw [List.getElem?_eq_none (l := fs) (Nat.le_refl _), List.getElem?_eq_getElem h] at this
    cases this
theorem up_own {fs gs : List Fr} {a : Nat → Int} (h1 : ∀ f, gs[f]? = (fs[f]?).map (frUp (a f))) (g : Int) : tOwner gs g = tOwner fs g := by
  unfold tOwner fat
  by_cases h : 0 ≤ g
  · rw [if_pos h, if_pos h, h1]
    cases fs[g.toNat]? with
    | none => rfl
    | some x => rfl
  · rw [if_neg h, if_neg h]
theorem holdAll_at {env : Int} (he : envB env = true) : ∀ (l : List Pc) (fs : List Fr), (∀ p ∈ l, 0 ≤ p.f ∧ p.f < fs.length ∧ tOwner fs p.f = env) → ∀ f, (holdAll fs env l)[f]? = (fs[f]?).map (frUp (cntP l f))
  | [], fs, _, f => by
    show fs[f]? = _
    cases fs[f]? with
    | none => rfl
    | some x => simp [frUp, cntP]
  | p :: l, fs, h, f => by
    obtain ⟨a, b, c⟩ := h p (by simp)
    have h1 := tHold_at he a b c
    have ih := holdAll_at he l (tHold fs env p.f).2 (fun q hq => by
      obtain ⟨x, y, z⟩ := h q (by simp [hq])
      exact ⟨x, by rw [up_len h1]; exact y, by rw [up_own h1]; exact z⟩)
    have := up_up h1 ih f
    show (holdAll (tHold fs env p.f).2 env l)[f]? = _
    rw [this, cntP_cons]
    congr 2
    split <;> simp
theorem tDrop_at {fs : List Fr} {g : Int} (h0 : 0 ≤ g) (h1 : g < fs.length) (hh : ∀ x, fs[g.toNat]? = some x → x.ho ≠ 0) :
    (tDrop fs g).1 = 0 ∧ ∀ f : Nat, (tDrop fs g).2[f]? = (fs[f]?).map (frUp (-(if g.toNat = f then 1 else 0))) := by
  have hl : g.toNat < fs.length := by omega
  have hx : fs[g.toNat]? = some fs[g.toNat] := List.getElem?_eq_getElem hl
  have hf : fat fs g = some fs[g.toNat] := by unfold fat; rw [if_pos h0, hx]
  have hw := hh _ hx
  have e0 : heldE fs g = 0 := by unfold heldE; rw [hf]; simp [hw]
  unfold tDrop
  rw [if_pos e0, hf]
  refine ⟨rfl, fun f => ?_⟩
  have := set_map hx (-1) f
  show (fs.set g.toNat (frUp (-1) fs[g.toNat]))[f]? = _
  rw [this]
  congr 2
  split <;> rfl
theorem kdropAll_at : ∀ (l : List Pc) (fs : List Fr), (∀ p ∈ l, 0 ≤ p.f ∧ p.f < fs.length) → (∀ f x, fs[f]? = some x → (cntP l f : Int) ≤ x.ho) → dropOk fs l ∧ ∀ f, (dropAll fs l)[f]? = (fs[f]?).map (frUp (-(cntP l f)))
  | [], fs, _, _ => ⟨trivial, fun f => by
    show fs[f]? = _
    cases fs[f]? with
    | none => rfl
    | some x => simp [frUp, cntP]⟩
  | p :: l, fs, h, hc => by
    obtain ⟨a, b⟩ := h p (by simp)
    obtain ⟨h0, h1⟩ := tDrop_at a b (fun x hx => by
      have := hc _ x hx
      rw [cntP_cons, if_pos rfl] at this
      omega)
    obtain ⟨i1, i2⟩ := kdropAll_at l (tDrop fs p.f).2 (fun q hq => by
      obtain ⟨x, y⟩ := h q (by simp [hq])
      exact ⟨x, by rw [up_len h1]; exact y⟩) (fun f x hx => by
      rw [h1] at hx
      cases hq : fs[f]? with
      | none => rw [hq] at hx; cases hx
      | some y =>
        rw [hq] at hx
        injection hx with hx
        subst hx
        have := hc f y hq
        rw [cntP_cons] at this
        simp only [frUp]
        split at this <;> simp_all <;> omega)
    refine ⟨⟨h0, i1⟩, fun f => ?_⟩
    have := up_up h1 i2 f
    show (dropAll (tDrop fs p.f).2 l)[f]? = _
    rw [this, cntP_cons]
    congr 2
    split <;> simp <;> omega

/-! ### the law -/
/-- Each frame's holds are the pieces that name it. -/
structure HInv (k : KS) : Prop where
  rng : ∀ y ∈ k.qo, ∀ p ∈ y.l, 0 ≤ p.f ∧ p.f < k.fs.length
  cnt : ∀ (f : Nat) (x : Fr), k.fs[f]? = some x → x.ho = (cntP (k.qo.flatMap (·.l)) f : Nat)
def sameHo (fs gs : List Fr) : Prop := gs.length = fs.length ∧ ∀ (f : Nat) (y : Fr), gs[f]? = some y → ∃ x, fs[f]? = some x ∧ y.ho = x.ho
theorem sameHo.refl (fs : List Fr) : sameHo fs fs := ⟨rfl, fun f y h => ⟨y, h, rfl⟩⟩
theorem sameHo_set {fs : List Fr} {i : Nat} {x z : Fr} (hx : fs[i]? = some x) (hz : z.ho = x.ho) : sameHo fs (fs.set i z) := ⟨by simp, fun f y h => by
  by_cases e : i = f
  · subst e
    rw [List.getElem?_set_self (List.getElem?_eq_some_iff.1 hx).1] at h
    injection h with h; subst h
    exact ⟨x, hx, hz⟩
  · rw [List.getElem?_set_ne e] at h
    exact ⟨y, h, rfl⟩⟩
theorem HInv.same {k k' : KS} (h : HInv k) (hq : k'.qo = k.qo) (hs : sameHo k.fs k'.fs) : HInv k' :=
  ⟨by rw [hq, hs.1]; exact h.rng, fun f y hy => by
    obtain ⟨x, hx, e⟩ := hs.2 f y hy
    rw [e, hq]; exact h.cnt f x hx⟩
theorem tAlloc_same (fs : List Fr) (e : Int) : sameHo fs (tAlloc fs e).2.2 := by
  unfold tAlloc
  split
  · cases hf : fs.findIdx? (fun x => x.ow == 0) with
    | none => exact sameHo.refl _
    | some i =>
      simp only
      cases hi : fs[i]? with
      | none => exact sameHo.refl _
      | some z => exact sameHo_set hi rfl
  · exact sameHo.refl _
theorem tFree_same (fs : List Fr) (e g : Int) (h : ∀ x ∈ fs, 0 ≤ x.ho) : sameHo fs (tFree fs e g).2 := by
  unfold tFree
  split
  · rename_i hq
    unfold quietE at hq
    split at hq
    · omega
    · split at hq
      · omega
      · rename_i x hx
        split at hq
        · omega
        · refine sameHo_set (fat_some hx).2 ?_
          have := h x (List.mem_of_getElem? (fat_some hx).2)
          show (0 : Int) = _
          omega
  · exact sameHo.refl _
theorem tGive_same (fs : List Fr) (e g t : Int) : sameHo fs (tGive fs e g t).2 := by
  unfold tGive
  split
  · split
    · exact sameHo.refl _
    · split
      · exact sameHo.refl _
      · rename_i x hx
        split
        · exact sameHo.refl _
        · exact sameHo_set (fat_some hx).2 rfl
  · exact sameHo.refl _
theorem tWrite_same (fs : List Fr) (e g t : Int) (s : List UInt8) : sameHo fs (tWrite fs e g t s).2 := by
  unfold tWrite
  split
  · split
    · exact sameHo.refl _
    · split
      · exact sameHo.refl _
      · rename_i x hx
        split
        · exact sameHo.refl _
        · exact sameHo_set (fat_some hx).2 rfl
  · exact sameHo.refl _
theorem HInv.pos {k : KS} (h : HInv k) : ∀ x ∈ k.fs, 0 ≤ x.ho := fun x hx => by
  obtain ⟨f, hf⟩ := List.getElem?_of_mem hx
  rw [h.cnt f x hf]; omega
theorem kFB_same {k : KS} {x : Kc} (h : HInv k) : sameHo k.fs (kFB k x).k.fs ∧ (kFB k x).k.qo = k.qo := by
  unfold kFB
  split
  · exact ⟨tAlloc_same _ _, rfl⟩
  · split
    · exact ⟨tFree_same _ _ _ h.pos, rfl⟩
    · split
      · exact ⟨tGive_same _ _ _ _, rfl⟩
      · split
        · exact ⟨sameHo.refl _, rfl⟩
        · split
          · exact ⟨tWrite_same _ _ _ _ _, rfl⟩
          · split
            · exact ⟨sameHo.refl _, rfl⟩
            · split
              · exact ⟨sameHo.refl _, rfl⟩
              · exact ⟨sameHo.refl _, rfl⟩
theorem checkE_ok {fs : List Fr} {env : Int} {l : List Pc} (h : checkE fs env l = 0) : envB env = true ∧ ∀ p ∈ l, 1 ≤ p.n ∧ wB p = true ∧ 0 ≤ p.f ∧ p.f < fs.length ∧ tOwner fs p.f = env := by
  unfold checkE at h
  split at h
  · omega
  · rename_i h1
    split at h
    · omega
    · rename_i h2
      split at h
      · omega
      · split at h
        · omega
        · rename_i h4
          refine ⟨by simp at h1; exact h1.1, fun p hp => ?_⟩
          have hk : kbad fs.length p = false := by
            rw [Bool.eq_false_iff]; intro hb
            exact h2 (List.any_eq_true.2 ⟨p, hp, hb⟩)
          have ⟨a, b, c, d⟩ := tOwner_range hk
          have ho : (tOwner fs p.f != env) = false := by
            rw [Bool.eq_false_iff]; intro hb
            exact h4 (List.any_eq_true.2 ⟨p, hp, hb⟩)
          exact ⟨a, b, c, d, by simpa using ho⟩
theorem HInv.step {k k' : KS} {x : Kc} {n e : Int} {l : List UInt8} (h : HInv k) (hs : kStep k x n l e k') : HInv k' := by
  unfold kStep at hs
  split at hs
  · obtain ⟨_, _, _, rfl⟩ := hs
    exact h
  · split at hs
    · have := kFB_same (x := x) h
      rw [hs] at this
      exact h.same this.2 this.1
    · split at hs
      · rcases hs.1 with ⟨_, _, _, rfl⟩ | ⟨_, _, _, _, rfl⟩ | ⟨_, _, _, _, y, _, _, _, rfl⟩
        · exact h
        · exact h
        · exact h.same rfl (sameHo.refl _)
      · split at hs
        · rcases hs.1 with ⟨_, _, rfl⟩ | ⟨i, _, _, rfl⟩
          · exact h
          · exact h.same rfl (sameHo.refl _)
        · split at hs
          · rcases hs.1 with ⟨_, _, _, rfl⟩ | ⟨_, _, _, _, rfl⟩ | ⟨_, hc, _, _, y, _, hyl, rfl⟩
            · exact h
            · exact h
            · obtain ⟨he, hp⟩ := checkE_ok hc
              have ha := holdAll_at he x.l k.fs (fun p hpp => ⟨(hp p hpp).2.2.1, (hp p hpp).2.2.2.1, (hp p hpp).2.2.2.2⟩)
              refine ⟨fun z hz p hpz => ?_, fun f z hz => ?_⟩
              · show 0 ≤ p.f ∧ p.f < (holdAll k.fs x.env x.l).length
                rw [up_len ha]
                rcases List.mem_append.1 hz with hz | hz
                · exact h.rng z hz p hpz
                · simp at hz; subst hz
                  rw [hyl] at hpz
                  exact ⟨(hp p hpz).2.2.1, (hp p hpz).2.2.2.1⟩
              · have hz' : (holdAll k.fs x.env x.l)[f]? = some z := hz
                rw [ha] at hz'
                cases hq : k.fs[f]? with
                | none => rw [hq] at hz'; cases hz'
                | some w =>
                  rw [hq] at hz'
                  injection hz' with hz'
                  subst hz'
                  have := h.cnt f w hq
                  show w.ho + _ = _
                  rw [this]
                  simp only [List.flatMap_append, List.flatMap_cons, List.flatMap_nil, List.append_nil, cntP_app, hyl]
                  omega
          · split at hs
            · split at hs
              · rcases hs with ⟨_, _, _, _, rfl⟩ | ⟨y, q, _, _, _, _, rfl⟩
                · exact h
                · exact h.same rfl (sameHo.refl _)
              · rcases hs with ⟨_, _, _, _, rfl⟩ | ⟨y, q, _, _, _, _, rfl⟩
                · exact h
                · exact h.same rfl (sameHo.refl _)
            · obtain ⟨_, _, _, rfl⟩ := hs
              exact h
theorem HInv.first {k : KS} (h : HInv k) {y : Tq} {q : List Tq} (hq : k.qo = y :: q) : dropOk k.fs y.l ∧ ∀ f, (dropAll k.fs y.l)[f]? = (k.fs[f]?).map (frUp (-(cntP y.l f))) :=
  kdropAll_at y.l k.fs (fun p hp => h.rng y (by rw [hq]; simp) p hp) (fun f x hx => by
    rw [h.cnt f x hx, hq, List.flatMap_cons, cntP_app]; omega)
theorem HInv.dep {k k' : KS} {env e : Int} {l : List UInt8} (h : HInv k) (hd : kDep k l env e k') : HInv k' := by
  rcases hd with ⟨_, _, _, _, rfl⟩ | ⟨y, q, hq, _, _, _, rfl⟩
  · exact h
  · obtain ⟨_, ha⟩ := h.first hq
    refine ⟨fun z hz p hp => ?_, fun f z hz => ?_⟩
    · show 0 ≤ p.f ∧ p.f < (dropAll k.fs y.l).length
      rw [up_len ha]
      exact h.rng z (by rw [hq]; exact List.mem_cons_of_mem _ hz) p hp
    · have hz' : (dropAll k.fs y.l)[f]? = some z := hz
      rw [ha] at hz'
      cases hk : k.fs[f]? with
      | none => rw [hk] at hz'; cases hz'
      | some w =>
        rw [hk] at hz'
        injection hz' with hz'
        subst hz'
        have := h.cnt f w hk
        rw [hq, List.flatMap_cons, cntP_app] at this
        show w.ho + _ = (cntP (q.flatMap _) f : Int)
        rw [this]; omega
theorem hoIn_up {fs gs : List Fr} {a : Nat → Int} {hi : Int} (h1 : ∀ f, gs[f]? = (fs[f]?).map (frUp (-a f))) (ha : ∀ f, 0 ≤ a f) (h : hoIn fs hi) (hp : ∀ y ∈ gs, 0 ≤ y.ho) : hoIn gs hi := fun y hy => by
  refine ⟨hp y hy, ?_⟩
  obtain ⟨f, hf⟩ := List.getElem?_of_mem hy
  rw [h1] at hf
  cases hk : fs[f]? with
  | none => rw [hk] at hf; cases hf
  | some w =>
    rw [hk] at hf
    injection hf with hf
    subst hf
    have := h w (List.mem_of_getElem? hk)
    have := ha f
    show w.ho + -a f ≤ hi
    omega
theorem kDep_cnt {k k' : KS} {env e : Int} {l : List UInt8} {m : Nat} (hd : kDep k l env e k') (hi : HInv k) (h : k.cnt m) : k'.cnt (m + 1) := by
  have hh : hoIn k.fs (16 * m) := h.ho
  have hi' := hi.dep hd
  rcases hd with ⟨_, _, _, _, rfl⟩ | ⟨y, q, hq, _, _, _, rfl⟩
  · exact ⟨by have := h.ln; omega, by have := h.nx; omega, by have := h.c1; omega, by have := h.c2; omega, by have := h.co; omega, by have := h.dn; omega, h.fl, fun y hy => by have := hh y hy; omega⟩
  · obtain ⟨_, ha⟩ := hi.first hq
    have := hoIn_up (a := fun f => (cntP y.l f : Int)) ha (fun f => by omega) hh hi'.pos
    exact ⟨by have := h.ln; show k.d.ln.length ≤ _; omega, by have := h.nx; show k.nx ≤ _; omega, by have := h.c1; show k.f1 + k.q1.length ≤ _; omega, by have := h.c2; show k.f2 + k.q2.length ≤ _; omega, by have := h.co; rw [hq] at this; simp at this; show k.fo + 1 + q.length ≤ _; omega, by have := h.dn; show k.dn + 1 ≤ _; omega, h.fl, fun z hz => by have := this z hz; omega⟩
structure FInv (k : KS) : Prop where
  env : ∀ b ∈ k.fl, b.env = 1 ∨ b.env = 2
  chk : ∀ b ∈ k.fl, fchk b.p = true
  ok : ∀ b ∈ k.fl, ∀ o ∈ b.p, o.ok
theorem FInv.same {k k' : KS} (h : FInv k) (e : k'.fl = k.fl) : FInv k' := ⟨by rw [e]; exact h.env, by rw [e]; exact h.chk, by rw [e]; exact h.ok⟩
theorem kFB_fl (k : KS) (x : Kc) : (kFB k x).k.fl = k.fl := by
  unfold kFB
  repeat (first | rfl | (split; · rfl))
theorem FInv.step {k k' : KS} {x : Kc} {n e : Int} {l : List UInt8} (h : FInv k) (hx : ∀ o ∈ x.p, o.ok) (hs : kStep k x n l e k') : FInv k' := by
  unfold kStep at hs
  split at hs
  · obtain ⟨_, _, _, rfl⟩ := hs
    exact h
  · rename_i hen
    split at hs
    · have := kFB_fl k x
      rw [hs] at this
      exact h.same this
    · split at hs
      · rcases hs.1 with ⟨_, _, _, rfl⟩ | ⟨_, _, _, _, rfl⟩ | ⟨_, hc, _, _, y, _, hy1, hy2, rfl⟩
        · exact h
        · exact h
        · have hm : ∀ b ∈ k.fl ++ [y], b ∈ k.fl ∨ b = y := fun b hb => by simpa using hb
          refine ⟨fun b hb => ?_, fun b hb => ?_, fun b hb => ?_⟩
          · rcases hm b hb with hb | rfl
            · exact h.env b hb
            · rw [hy1]; omega
          · rcases hm b hb with hb | rfl
            · exact h.chk b hb
            · rw [hy2]; exact hc
          · rcases hm b hb with hb | rfl
            · exact h.ok b hb
            · rw [hy2]; exact hx
      · split at hs
        · rcases hs.1 with ⟨_, _, rfl⟩ | ⟨i, _, _, rfl⟩
          · exact h
          · have hm : ∀ b ∈ k.fl.eraseIdx i, b ∈ k.fl := fun b hb => List.mem_of_mem_eraseIdx hb
            exact ⟨fun b hb => h.env b (hm b hb), fun b hb => h.chk b (hm b hb), fun b hb => h.ok b (hm b hb)⟩
        · split at hs
          · rcases hs.1 with ⟨_, _, _, rfl⟩ | ⟨_, _, _, _, rfl⟩ | ⟨_, hc, _, _, y, _, hyl, rfl⟩
            · exact h
            · exact h
            · exact h.same rfl
          · split at hs
            · split at hs
              · rcases hs with ⟨_, _, _, _, rfl⟩ | ⟨y, q, _, _, _, _, rfl⟩
                · exact h
                · exact h.same rfl
              · rcases hs with ⟨_, _, _, _, rfl⟩ | ⟨y, q, _, _, _, _, rfl⟩
                · exact h
                · exact h.same rfl
            · obtain ⟨_, _, _, rfl⟩ := hs
              exact h
end
end Go.Proofs.YtedblbpmlbjnhaaGreat
