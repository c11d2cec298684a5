/- A kernel's filters: unbind; transfers: send. -/
import Derived.Test.YthlmfjfkkndboaaKl
namespace Go.Proofs.Ythlmfjfkkndboaa
open Go.RowKit Go.Shelf
set_option linter.unusedVariables false
set_option linter.unusedSimpArgs false
set_option maxRecDepth 100000
section
variable {R : Ending → World → Prop} {w : World} {B m : Nat} {a : KA} {k : KS}
/-- What unbind does. -/
def kUnb (k : KS) (x : Kc) (e : Int) (k' : KS) : Prop :=
  (k.fl.findIdx? (bhit x.a x.env) = none ∧ e = 11 ∧ k' = k) ∨ (∃ i, k.fl.findIdx? (bhit x.a x.env) = some i ∧ e = 0 ∧ k' = { k with fl := k.fl.eraseIdx i })
set_option maxHeartbeats 4000000 in
theorem kunb_any (hK : Kn w B a k) (hm : k.cnt m) (hm2 : m ≤ 10000) (x : Kc) (hx : x.ok w)
    (h : ∀ e k' a' w', Hid (kUnb k x e k') → Kq B w w' → (Kn w' B a' k' ∧ a'.g = a.g ∧ a'.bT = a.bT) → R (.returned (.tuple #[.agg #[.int .i64 0, .slice none 0 0], .int .i64 e])) w') :
    Calls Try.prog 79 #[.pointer (some ⟨a.g, 0, none⟩), .agg #[.int .i64 10, .int .i64 x.env, .int .i64 x.a, .int .i64 x.b, .int .i64 x.c, .slice x.A5 x.n5 x.c5, .slice x.A6 x.n6 x.c6, .slice x.A7 x.n7 x.c7]] w R := by
  have H := Lib.hid h
  have HK := Lib.hid hK
  have HX := Lib.hid hx
  have hfl8 := hm.fl
  clear h hK hx hm
  go_enter Try.func79, Try.ntmps79
  go_upto_region 1 with (fail)
  refine gen_worldK (fun W => ∃ cb, w.heap.size = cb ∧ Kp [] w W ∧ Bk W cb 78 (x.cs 10) ∧ Bk W (cb + 1) 73 [.int .i64 0, .slice none 0 0]) ⟨_, rfl, ((Kp.refl _ _).alloc _).alloc _, ((Bk.new' _ _ _).alloc _).cast rfl, (Bk.newAt (by simp) _ _).cast rfl⟩ ?_
  rintro W ⟨cb, hcb, kW, bC, bR⟩
  rw [hcb]
  have hb0 : w.heap.size ≤ cb := by omega
  have kn := HK.out.off0 kW
  have c2 : W.cell? ⟨a.g, 2, none⟩ = some (.slice a.fA k.fl.length a.fc) := kn.cell 2
  have KN := Lib.hid kn
  have KW := Lib.hid kW
  have HC : Hid (W.cell? ⟨cb, 1, none⟩ = some (.int .i64 x.env) ∧ W.cell? ⟨cb, 2, none⟩ = some (.int .i64 x.a)) := Lib.hid ⟨bC.cell 1, bC.cell 2⟩
  have BR := Lib.hid bR
  have hrl := bR.lt
  have hBB := HK.out.hB
  clear kn kW bC bR hcb
  cases hfi : k.fl.findIdx? (bhit x.a x.env) with
  | none =>
    have hbi : bidx k.fl x.a x.env = -1 := by unfold bidx; rw [hfi]
    have HFI := Lib.hid hfi
    clear hfi
    go_wp2_with (go_at_call 102; (refine bidx_any (KN.out.fl.rd (by simp)) rfl (by omega) x.a x.env HC.out.1 HC.out.2 ?_); rw [hbi]; intro w2 k2; obtain ⟨s0, s1, f0, f1⟩ := bk2t (BR.out.kp k2 (by simp)))
    obtain ⟨bb, kb⟩ := bk2set (BR.out.kp k2 (by simp)) (.int .i64 0) (.slice none 0 0)
    obtain ⟨W9, hW9⟩ : ∃ W9, ((w2.setCell ⟨cb + 1, 0, none⟩ (.int .i64 0)).setCell ⟨cb + 1, 1, none⟩ (.slice none 0 0)) = W9 := ⟨_, rfl⟩
    rw [hW9] at bb kb ⊢
    obtain ⟨g0, g1, _⟩ := bk2t bb
    have kF : Kp [] w W9 := (KW.out.trans k2).thn kb (fun s hs => .inr (by simp at hs; omega))
    exact bodyPost_ret (v := .tuple #[.agg #[.int .i64 0, .slice none 0 0], .int .i64 11]) (by simp [results, Try.results79, go_sem, g0, g1]; try rfl) rfl (H.out 11 k a W9 (Lib.hid (.inl ⟨HFI.out, rfl, rfl⟩)) (Kq.of0 kF) ⟨HK.out.off0 kF, rfl, rfl⟩)
  | some i =>
    have hbi : bidx k.fl x.a x.env = i := by unfold bidx; rw [hfi]
    have HFI := Lib.hid hfi
    have hil : i < k.fl.length := by
      obtain ⟨h1, _⟩ := List.findIdx?_eq_some_iff_getElem.1 hfi
      exact h1
    obtain ⟨mm, hmm⟩ : ∃ mm, k.fl.length = mm + 1 := ⟨k.fl.length - 1, by omega⟩
    obtain ⟨gf, hgf, _⟩ := KN.out.fl.form (by omega)
    have hflo := KN.out.fl
    rw [hgf, hmm] at hflo
    rw [hgf, hmm] at c2
    have HFl := Lib.hid hflo
    have HMM := Lib.hid hmm
    have HGF := Lib.hid hgf
    have hm8 : mm + 1 ≤ 8 := by omega
    have him : i ≤ mm := by omega
    clear hfi hflo hmm hgf
    have hi2 : ¬ (i : Int) < 0 := by omega
    go_wp2_with (first | (go_at_call 102; (refine bidx_any (HFl.out.rd (by simp)) HMM.out (by omega) x.a x.env HC.out.1 HC.out.2 ?_); rw [hbi]; intro w2 k2; have d2 : w2.cell? ⟨a.g, 2, none⟩ = some (.slice (some ⟨gf, 0, none⟩) (mm + 1) a.fc) := (by have := (KN.out.off0 k2).cell 2; rw [this]; simp [KA.cells, HGF.out, HMM.out])) | (go_at_call 104; (refine delete_any (HFl.out.kp k2 (by simp)) HMM.out (by omega) (by omega) ?_); intro w3 k3 o3; have og : Off w2 [gf] 121 := Off.one ((HFl.out.kp k2 (by simp)).ty gf (by simp [bks])) (by decide); have oa : Off w2 [gf] 73 := Off.one ((HFl.out.kp k2 (by simp)).ty gf (by simp [bks])) (by decide); have bg3 := (KN.out.g.kp k2 (by simp)).off k3 og; have e2 : w3.cell? ⟨a.g, 2, none⟩ = some (.slice (some ⟨gf, 0, none⟩) (mm + 1) a.fc) := (by rw [bg3.cell 2]; simp [KA.cells, HGF.out, HMM.out]); have e3 := bg3.frozen 2; have br3 := (BR.out.kp k2 (by simp)).off k3 oa; have hne9 : cb + 1 ≠ a.g := br3.ne_ bg3 (by decide); obtain ⟨s0, s1, f0, f1⟩ := bk2t br3; have BG3 := Lib.hid bg3; have BR3 := Lib.hid br3; clear bg3 br3 og oa))
    have ks : Kp [a.g] w3 (w3.setCell ⟨a.g, 2, none⟩ (.slice (some ⟨gf, 0, none⟩) mm a.fc)) := (Kp.refl _ _).setCell (p := ⟨a.g, 2, none⟩) (.inl (by simp)) _
    have o3K : ∀ e, 121 ≠ e → Off w3 [a.g] e := fun e he => Off.one BG3.out.ty he
    obtain ⟨V9, hV9⟩ : ∃ V9, w3.setCell ⟨a.g, 2, none⟩ (.slice (some ⟨gf, 0, none⟩) mm a.fc) = V9 := ⟨_, rfl⟩
    have hg9 := BG3.out.set_ 2 (.slice (some ⟨gf, 0, none⟩) mm a.fc)
    rw [hV9] at ks hg9 ⊢
    have hel : (k.fl.eraseIdx i).length = mm := by rw [List.length_eraseIdx_of_lt hil, HMM.out]; rfl
    have kF : Kp (a.g :: bks a.fA) w V9 := (((KW.out.trans k2).mono (by simp)).thn k3 (fun s hs => .inl (by rw [HGF.out]; simp at hs; simp [bks, hs]))).thn ks (fun s hs => .inl (by simp at hs; simp [hs]))
    have ofl : ∀ e, 174 ≠ e → Off w2 [gf] e := fun e he => Off.one ((HFl.out.kp k2 (by simp)).ty gf (by simp [bks])) he
    obtain ⟨n9, q9⟩ := HK.out.setF (fA' := some ⟨gf, 0, none⟩) (fc' := a.fc) (nx' := k.nx) (dn' := k.dn) (fl' := k.fl.eraseIdx i) kF (hg9.cast (by simp [KA.cells, hel])) ((o3.off ks (o3K _ (by decide))).cast hel.symm rfl) (by rw [← HGF.out]; exact HK.out.new.fA) (fun y hy => by
      obtain ⟨e1, e2, e3⟩ := KN.out.fd y (List.mem_of_mem_eraseIdx hy)
      exact ⟨e1, e2, ((e3.kp k2 (Off.nil _ _)).kp k3 (ofl _ (by decide))).kp ks (o3K _ (by decide))⟩)
    have br9 := BR3.out.off ks (o3K _ (by decide))
    obtain ⟨bb, kb⟩ := bk2set br9 (.int .i64 0) (.slice none 0 0)
    obtain ⟨W9, hW9⟩ : ∃ W9, ((V9.setCell ⟨cb + 1, 0, none⟩ (.int .i64 0)).setCell ⟨cb + 1, 1, none⟩ (.slice none 0 0)) = W9 := ⟨_, rfl⟩
    rw [hW9] at bb kb ⊢
    obtain ⟨g0, g1, _⟩ := bk2t bb
    exact bodyPost_ret (v := .tuple #[.agg #[.int .i64 0, .slice none 0 0], .int .i64 0]) (by simp [results, Try.results79, go_sem, g0, g1]; try rfl) rfl (H.out 0 _ _ W9 (Lib.hid (.inr ⟨i, HFI.out, rfl, rfl⟩)) (q9.thn kb hBB (by intro s hs; simp at hs; omega)) ⟨n9.offA kb (fun e he => Off.one br9.ty he), rfl, rfl⟩)
end
end Go.Proofs.Ythlmfjfkkndboaa
