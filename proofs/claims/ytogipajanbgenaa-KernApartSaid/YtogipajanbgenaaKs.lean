/- Kernel.Depart. -/
import Derived.Test.YtogipajanbgenaaKq
import Derived.Deep.RegionHeldLaw
import Derived.BigQuiet
namespace Go.Proofs.Ytogipajanbgenaa
open Go.RowKit Go.Shelf
set_option linter.unusedVariables false
set_option linter.unusedSimpArgs false
set_option maxRecDepth 100000
section
variable {R : Ending → World → Prop} {w : World} {B m : Nat} {a : KA} {k : KS}
/-- What a departure does. -/
def kDep (k : KS) (l : List UInt8) (env e : Int) (k' : KS) : Prop :=
  (k.qo = [] ∧ l = [] ∧ env = 0 ∧ e = 11 ∧ k' = k) ∨ (∃ y q, k.qo = y :: q ∧ l = (fetF k.fs y.l).2 ∧ env = y.env ∧ e = 0 ∧ k' = { k with fs := dropAll k.fs y.l, fo := k.fo + 1, qo := q, dn := k.dn + 1 })
set_option maxHeartbeats 4000000 in
theorem kdep_any (hK : Kn w B a k) (hm : k.cnt m) (hm2 : m ≤ 10000) (hd : ∀ y q, k.qo = y :: q → dropOk k.fs y.l)
    (h : ∀ A len cc l env e k' a' w', Hid (kDep k l env e k') → Kq B w w' → (Kn w' B a' k' ∧ a'.g = a.g ∧ a'.bT = a.bT) → l.length = len → Tb w' 5 A (bts l) → R (.returned (.tuple #[.slice A len cc, .int .i64 env, .int .i64 e])) w') :
    Calls Try.prog 39 #[.pointer (some ⟨a.g, 0, none⟩)] w R := by
  have H := Lib.hid h
  have HK := Lib.hid hK
  have HM := Lib.hid hm
  have HD := Lib.hid hd
  have hco := hm.co
  have hdn := hm.dn
  have hBB := hK.hB
  have c7 : w.cell? ⟨a.g, 7, none⟩ = some (.pointer (some ⟨a.so, 0, none⟩)) := hK.cell 7
  clear h hK hm hd
  cases hq : k.qo with
  | nil =>
    have HQ := Lib.hid hq
    clear hq
    go_enter Try.func39, Try.ntmps39
    go_wp2_with (go_at_call 89; (refine ttake_any HK.out.o HK.out.new.n7 (by omega) (fun _ w1 k1 => ?_) (fun x q hxq w1 k1 r1 t1 => absurd hxq.out (by rw [HQ.out]; simp))))
    go_ret3
    exact H.out none 0 0 [] 0 11 k a _ (Lib.hid (.inl ⟨HQ.out, rfl, rfl, rfl, rfl⟩)) (Kq.of0 (k1.alloc _)) ⟨HK.out.off0 (k1.alloc _), rfl, rfl⟩ rfl Tb.nil
  | cons y q =>
    have HQ := Lib.hid hq
    have hyl := (HK.out.o.data y (by rw [hq]; simp))
    clear hq
    go_enter Try.func39, Try.ntmps39
    go_upto_region 6 with (go_at_call 89; (refine ttake_any HK.out.o HK.out.new.n7 (by omega) (fun hh w1 k1 => absurd hh (by rw [HQ.out]; simp)) (fun x q' hxq w1 k1 r1 t1 => ?_)); obtain ⟨rfl, rfl⟩ : y = x ∧ q = q' := by have := HQ.out.symm.trans hxq.out; injection this with a b; exact ⟨a, b⟩)
    obtain ⟨n1, q1⟩ := HK.out.setO k1 r1
    have ka : Kp [] w1 (w1.alloc (.cells #[.int .i64 y.env, .slice y.A y.n y.c] 145)) := (Kp.refl _ _).alloc _
    have hbx : Bk (w1.alloc (.cells #[.int .i64 y.env, .slice y.A y.n y.c] 145)) w1.heap.size 145 [.int .i64 y.env, .slice y.A y.n y.c] := (Bk.newAt rfl _ _).cast rfl
    obtain ⟨W, hW⟩ : ∃ W, w1.alloc (.cells #[.int .i64 y.env, .slice y.A y.n y.c] 145) = W := ⟨_, rfl⟩
    obtain ⟨xb, hxb⟩ : ∃ xb, w1.heap.size = xb := ⟨_, rfl⟩
    rw [hW] at ka hbx ⊢
    rw [hxb] at hbx ⊢
    have N1 := Lib.hid (n1.off0 ka)
    have Q1 := Lib.hid (q1.trans (Kq.of0 (B := B) ka))
    have BX := Lib.hid hbx
    have T1 := Lib.hid (t1.kp ka (Off.nil _ _))
    have hyn := hyl.2.1
    have hyL := hyl.1
    clear n1 q1 ka hbx hW hxb k1 r1 t1 hyl c7
    have HS : Hid (∀ w', Kp [a.bL] W w' → w'.cell? ⟨a.g, 0, none⟩ = some (.pointer (some ⟨a.bT, 0, none⟩)) ∧ w'.cell? ⟨xb, 1, none⟩ = some (.slice y.A y.n y.c)) := Lib.hid (fun w' k' => ⟨(N1.out.g.off k' (Off.one N1.out.t.l.ty (by decide))).cell 0, (BX.out.off k' (Off.one N1.out.t.l.ty (by decide))).cell 1⟩)
    obtain ⟨q0, q1⟩ := HS.out W (Kp.refl _ _)
    go_region_held_law (fun w' => w'.cell? ⟨a.g, 0, none⟩ = some (.pointer (some ⟨a.bT, 0, none⟩)) ∧ w'.cell? ⟨xb, 1, none⟩ = some (.slice y.A y.n y.c)) ((refine HS.out _ ?_; repeat (first | with_reducible exact kk2.mono (by simp) | with_reducible exact Kp.refl _ _ | with_reducible refine Kp.drew ?_))) ((go_simp; go_at_call 25; (refine gfetch_any (N1.out.t.kp (S := []) (by repeat (first | with_reducible exact Kp.refl _ _ | with_reducible refine Kp.drew ?_)) (by simp) (by simp)) (l := y.l) ((T1.out.kp (by repeat (first | with_reducible exact Kp.refl _ _ | with_reducible refine Kp.drew ?_)) (Off.nil _ _)).rd0) hyL (by omega) ?_); intro e2 o2 A2 c2 w2 hf k2 ow2 b2; have kk2 : Kp [] W w2 := Kp.trans (by repeat (first | with_reducible exact Kp.refl _ _ | with_reducible refine Kp.drew ?_)) k2))
    have HFt := Lib.hid hf
    have N2 := Lib.hid (N1.out.off0 kk2)
    have Q2 := Lib.hid (Q1.out.trans (Kq.of0 (B := B) kk2))
    have BX2 := Lib.hid (BX.out.kp kk2 (by simp))
    have T2 := Lib.hid (T1.out.kp kk2 (Off.nil _ _))
    have O2 := Lib.hid ow2.tb
    clear q0 q1 HS N1 Q1 BX T1 kk2 k2 ow2 b2 hf
    have HS : Hid (∀ w', Kp [a.bL] w2 w' → w'.cell? ⟨a.g, 0, none⟩ = some (.pointer (some ⟨a.bT, 0, none⟩)) ∧ w'.cell? ⟨xb, 1, none⟩ = some (.slice y.A y.n y.c)) := Lib.hid (fun w' k' => ⟨(N2.out.g.off k' (Off.one N2.out.t.l.ty (by decide))).cell 0, (BX2.out.off k' (Off.one N2.out.t.l.ty (by decide))).cell 1⟩)
    obtain ⟨q0, q1⟩ := HS.out w2 (Kp.refl _ _)
    go_upto_region 7 with (fail)
    go_region_held_law (fun w' => w'.cell? ⟨a.g, 0, none⟩ = some (.pointer (some ⟨a.bT, 0, none⟩)) ∧ w'.cell? ⟨xb, 1, none⟩ = some (.slice y.A y.n y.c)) ((refine HS.out _ ?_; repeat (first | with_reducible exact kk3 | with_reducible exact Kp.refl _ _ | with_reducible refine Kp.drew ?_))) ((go_simp; go_at_call 28; (refine gdrop_any (N := [a.bL]) (N2.out.t.kp (S := []) (by repeat (first | with_reducible exact Kp.refl _ _ | with_reducible refine Kp.drew ?_)) (by simp) (by simp)) (l := y.l) ((T2.out.kp (by repeat (first | with_reducible exact Kp.refl _ _ | with_reducible refine Kp.drew ?_)) (Off.nil _ _)).rd (Off.one (N2.out.t.kp (S := []) (by repeat (first | with_reducible exact Kp.refl _ _ | with_reducible refine Kp.drew ?_)) (by simp) (by simp)).l.ty (by decide))) (fun s hs => .inl hs) hyL (by omega) (fun z hz => by have := HM.out.ho z hz; omega) (HD.out y q HQ.out) ?_); intro w3 k3 t3; have kk3 : Kp [a.bL] w2 w3 := Kp.trans (by repeat (first | with_reducible exact Kp.refl _ _ | with_reducible refine Kp.drew ?_)) k3))
    obtain ⟨n3, q3⟩ := N2.out.setT kk3 t3
    have N3 := Lib.hid n3
    have Q3 := Lib.hid (Q2.out.trans q3)
    have BX3 := Lib.hid (BX2.out.off kk3 (Off.one N2.out.t.l.ty (by decide)))
    have O3 := Lib.hid (O2.out.kp kk3 (Off.one N2.out.t.l.ty (by decide)))
    clear q0 q1 HS kk3 k3 t3 n3 q3
    have c8 : w3.cell? ⟨a.g, 8, none⟩ = some (.int .i64 k.dn) := N3.out.cell 8
    have f8 := N3.out.g.frozen 8
    have b0 : w3.cell? ⟨xb, 0, none⟩ = some (.int .i64 y.env) := BX3.out.cell 0
    have hne : xb ≠ a.g := BX3.out.ne_ N3.out.g (by decide)
    go_upto_region 9 with (fail)
    have ks : Kp [a.g] w3 (w3.setCell ⟨a.g, 8, none⟩ (.int .i64 ((k.dn : Int) + 1))) := (Kp.refl _ _).setCell (p := ⟨a.g, 8, none⟩) (.inl (by simp)) _
    have oK : ∀ e, 139 ≠ e → Off w3 [a.g] e := fun e he => Off.one N3.out.g.ty he
    obtain ⟨n9, q9⟩ := N3.out.setF (fA' := a.fA) (fc' := a.fc) (nx' := k.nx) (dn' := k.dn + 1) (fl' := k.fl) (ks.mono (by simp)) ((N3.out.g.set_ 8 _).cast (by simp [KA.cells])) (N3.out.fl.off ks (oK _ (by decide))) N3.out.new.fA (fun z hz => ⟨(N3.out.fd z hz).1, (N3.out.fd z hz).2.1, (N3.out.fd z hz).2.2.kp ks (oK _ (by decide))⟩)
    have o9 := O3.out.kp ks (oK _ (by decide))
    have N9 := Lib.hid n9
    have Q9 := Lib.hid (Q3.out.trans q9)
    have O9 := Lib.hid o9
    have HR9 : Hid (kDep k o2 y.env 0 { k with fs := dropAll k.fs y.l, fo := k.fo + 1, qo := q, dn := k.dn + 1 }) := Lib.hid (.inr ⟨y, q, HQ.out, by rw [HFt.out], rfl, rfl, rfl⟩)
    have b9 : (w3.setCell ⟨a.g, 8, none⟩ (.int .i64 ((k.dn : Int) + 1))).cell? ⟨xb, 0, none⟩ = some (.int .i64 y.env) := (BX3.out.off ks (oK _ (by decide))).cell 0
    obtain ⟨W9, hW9⟩ : ∃ W9, w3.setCell ⟨a.g, 8, none⟩ (.int .i64 ((k.dn : Int) + 1)) = W9 := ⟨_, rfl⟩
    rw [hW9] at N9 Q9 O9 b9 ⊢
    clear n9 q9 o9 ks hW9 c8 f8 b0
    go_quiet (fail)
    go_wp2
    go_ret3
    have kd : ∀ n, Kp [] W9 (W9.drewN n) := fun n => (Kp.refl [] W9).drewN n
    exact H.out A2 o2.length c2 o2 y.env 0 _ a _ HR9 (Q9.out.trans (Kq.of0 (kd _))) ⟨N9.out.off0 (kd _), rfl, rfl⟩ rfl (O9.out.kp (kd _) (Off.nil _ _))
end
end Go.Proofs.Ytogipajanbgenaa
