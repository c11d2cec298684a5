/- A pool takes a slot; it writes to a slot's frame. -/
import Derived.Test.YthlmfjfkkndboaaPo3
namespace Go.Proofs.Ythlmfjfkkndboaa
open Go.RowKit Go.Shelf
set_option linter.unusedVariables false
set_option linter.unusedSimpArgs false
set_option maxRecDepth 100000
def maB (k : KS) (x : PSl) : Bool := x.pi == 0 && tHolds k.fs x.f == 0
def tkB (k : KS) (x : PSl) : Bool := x.kd == 0 && maB k x
/-- So many steps of the hand. -/
def pRnd (k : KS) : Nat → PS → Option Nat × PS
  | 0, p => (none, p)
  | n + 1, p => match p.sl[p.hand]? with
    | none => (none, p)
    | some x => if maB k x && !x.ma then (some p.hand, { p with sl := p.sl.set p.hand (PSl.e x.f), hand := (p.hand + 1) % p.sl.length })
      else pRnd k n { p with sl := p.sl.set p.hand { x with ma := false }, hand := (p.hand + 1) % p.sl.length }
def pTake (k : KS) (p : PS) : Option Nat × PS := match p.sl.findIdx? (tkB k) with | some i => (some i, p) | none => pRnd k (2 * p.sl.length) p
def slotA (l : Nat) (o : Option Nat) : Option Addr := o.map (fun i => ⟨l, i * 7, none⟩)
section
variable {R : Ending → World → Prop} {w w' : World} {B m : Nat} {ka : KA} {k : KS} {pa : PA} {p : PS}
set_option maxHeartbeats 2000000 in
theorem ptake_any (h0 : KPl w B ka k pa p) (h : ∀ w', Pq B w w' → KPl w' B ka k pa (pTake k p).2 → R (.returned (.pointer (slotA pa.l (pTake k p).1))) w') : Calls Try.prog 69 #[.pointer (some ⟨pa.g, 0, none⟩)] w R := by
  have HK := Lib.hid h0
  have he : ∀ (args : Array Value) (w : World), (callFunc 94 args).run Try.prog w = .ok (.enter 94 args) w := enters_of Try.func94 (by kernel_rfl) rfl
  have HF : Hid (∀ (R : Ending → World → Prop) (w1 : World) (cb : Nat), Kp [] w w1 → w1.cell? ⟨cb, 0, none⟩ = some (.pointer (some ⟨pa.g, 0, none⟩)) → (∀ w', Kp [] w1 w' → R (.returned (.pointer (pfind p pa.l (tkB k)))) w') → Calls Try.prog 72 #[.pointer (some ⟨pa.g, 0, none⟩), .func (.func 94) #[] #[.pointer (some ⟨cb, 0, none⟩)]] w1 R) := Lib.hid (fun R w1 cb k1 hc h => by
    refine pfind_any (h0.off0 k1) 94 cb (tkB k) he (fun R i x w2 k2 hx h => ?_) h
    refine ptk1_any (h0.off0 (k1.trans k2)) ?_ hx h
    rw [k2.cell (World.block_lt_of_cell? w1 _ hc) (by simp)]; exact hc)
  have hn0 := h0.pl.hn
  have hh0 := h0.pl.hh
  clear h0 he
  cases hf : p.sl.findIdx? (tkB k) with
  | some i =>
    have e0 : pTake k p = (some i, p) := by unfold pTake; rw [hf]
    rw [e0] at h
    have H := Lib.hid h
    have e : pfind p pa.l (tkB k) = some ⟨pa.l, i * 7, none⟩ := by unfold pfind; rw [hf]
    rw [e] at HF
    clear h hf
    go_enter Try.func69, Try.ntmps69
    go_wp2_with (go_at_call 72; (refine HF.out _ _ _ ((Kp.refl _ _).alloc _) ((Bk.new' _ _ _).cell 0) ?_; intro w2 k2))
    exact H.out _ (Pq.of0 (((Kp.refl _ _).alloc _).trans k2)) (HK.out.off0 (((Kp.refl _ _).alloc _).trans k2))
  | none =>
    have e0 : pTake k p = pRnd k (2 * p.sl.length) p := by unfold pTake; rw [hf]
    obtain ⟨Z, hZ⟩ : ∃ Z, pRnd k (2 * p.sl.length) p = Z := ⟨_, rfl⟩
    rw [e0, hZ] at h
    have H := Lib.hid h
    have e : pfind p pa.l (tkB k) = none := by unfold pfind; rw [hf]
    rw [e] at HF
    obtain ⟨n, hN⟩ : ∃ n, p.sl.length = n := ⟨_, rfl⟩
    rw [hN] at hZ hn0 hh0
    have HZ := Lib.hid hZ
    clear hZ
    have HN := Lib.hid hN
    clear h hf e0
    go_enter Try.func69, Try.ntmps69
    go_upto_region 4 with (go_at_call 72; (refine HF.out _ _ _ ((Kp.refl _ _).alloc _) ((Bk.new' _ _ _).cell 0) ?_; intro w2 k2))
    refine gen_worldK (fun W => ∃ cb, w.heap.size = cb ∧ Kp [] w W ∧ Bk W cb 58 [.pointer (some ⟨pa.g, 0, none⟩)]) ⟨_, rfl, ((Kp.refl _ _).alloc _).trans k2, ((Bk.new' _ _ _).cast rfl).kp k2 (by simp)⟩ ?_
    rintro W ⟨cb, hcb, kW, bC⟩
    rw [hcb]
    have q0 := bC.cell 0
    have hK0 := Lib.hid (HK.out.off0 kW)
    have g1 : W.cell? ⟨pa.g, 1, none⟩ = some (.slice (some ⟨pa.l, 0, none⟩) p.sl.length pa.lc) := hK0.out.pl.g.cell 1
    rw [HN.out] at g1
    simp only [List.getElem?_cons_zero] at q0
    have hK1 := Lib.hid (And.intro hK0.out (And.intro bC (Pq.of0 (B := B) kW)))
    clear hcb kW bC k2 HF HK hK0
    go_wp2
    go_loopw [4, 17] (fun _ iv wr => ∃ (j : Nat) (p1 : PS), j ≤ 2 * n ∧ iv = .int .i64 j ∧ Hid (KPl wr B ka k pa p1 ∧ Bk wr cb 58 [.pointer (some ⟨pa.g, 0, none⟩)] ∧ Pq B w wr) ∧ Hid (p1.sl.length = n ∧ Z = pRnd k (2 * n - j) p1)) (fun _ iv _ => 2 * n - (intOf iv).toNat)
    case atStart => exact ⟨0, p, Nat.zero_le _, rfl, hK1, Lib.hid ⟨HN.out, HZ.out.symm⟩⟩
    case round =>
      obtain ⟨j, p1, hj, rfl, hw, hp⟩ := hrel
      by_cases hlt : j < 2 * n
      · obtain ⟨x, hx⟩ : ∃ x, p1.sl[p1.hand]? = some x := ⟨_, List.getElem?_eq_getElem hw.out.1.pl.hh⟩
        have HX := Lib.hid hx
        have q0' := hw.out.2.1.cell 0
        simp only [List.getElem?_cons_zero] at q0'
        have g1' : wr.cell? ⟨pa.g, 1, none⟩ = some (.slice (some ⟨pa.l, 0, none⟩) p1.sl.length pa.lc) := hw.out.1.pl.g.cell 1
        rw [hp.out.1] at g1'
        have g2' : wr.cell? ⟨pa.g, 2, none⟩ = some (.int .i64 p1.hand) := hw.out.1.pl.g.cell 2
        have hhl : p1.hand < n := by rw [← hp.out.1]; exact hw.out.1.pl.hh
        clear hx q0 g1
        have hn00 : ((n : Int) == 0) = false := by simp; omega
        go_upto_region 6 with (fail)
        refine wp_region_kp (by kernel_rfl) (by kernel_rfl) ?_
        repeat (go_big_quiet_step (fail))
        intro w3 k3
        have hw3 := Lib.hid (And.intro (hw.out.1.off0 k3) (And.intro (hw.out.2.1.kp k3 (by simp)) (hw.out.2.2.trans (Pq.of0 k3))))
        have q3 := hw3.out.2.1.cell 0
        simp only [List.getElem?_cons_zero] at q3
        have g31 : w3.cell? ⟨pa.g, 1, none⟩ = some (.slice (some ⟨pa.l, 0, none⟩) p1.sl.length pa.lc) := hw3.out.1.pl.g.cell 1
        rw [hp.out.1] at g31
        have g32 : w3.cell? ⟨pa.g, 2, none⟩ = some (.int .i64 p1.hand) := hw3.out.1.pl.g.cell 2
        have f32 := hw3.out.1.pl.g.frozen 2
        clear k3 hw g1' g2' q0'
        go_upto_region 7 with (fail)
        go_region
        go_upto_region 8 with (fail)
        refine gen_worldK (fun W => Hid (KPl W B ka k pa { p1 with hand := (p1.hand + 1) % n } ∧ Bk W cb 58 [.pointer (some ⟨pa.g, 0, none⟩)] ∧ Pq B w W)) (by
          have hv : (p1.hand : Int) + 1 = ((p1.hand + 1 : Nat) : Int) := by omega
          have hlen := hp.out.1
          rw [hv, ← Int.natCast_emod]
          obtain ⟨z1, z2⟩ := hw3.out.1.putG 2 (.int .i64 (((p1.hand + 1) % n : Nat) : Int)) (p' := { p1 with hand := (p1.hand + 1) % n }) rfl (by rw [hlen]; exact Nat.mod_lt _ (by omega)) rfl
          have hne : cb ≠ pa.g := hw3.out.2.1.ne_ hw3.out.1.pl.g (by decide)
          exact Lib.hid ⟨z1.off0 (Kp.refl [] _).drew, (hw3.out.2.1.far (p := ⟨pa.g, 2, none⟩) hne _).drew, (hw3.out.2.2.trans z2).trans (Pq.of0 (Kp.refl [] _).drew)⟩) ?_
        intro W4 hw4
        clear q3 g31 g32 f32 hw3
        have q4 := hw4.out.2.1.cell 0
        simp only [List.getElem?_cons_zero] at q4
        have HX4 : Hid (({ p1 with hand := (p1.hand + 1) % n } : PS).sl[p1.hand]? = some x) := HX
        obtain ⟨c0, c1, c2, c3, c4, c5, c6⟩ := hw4.out.1.pl.cells HX4.out
        have f4 := hw4.out.1.pl.free
        have hsuc : 2 * n - j = (2 * n - (j + 1)) + 1 := by omega
        have hR : ∀ (W : World), KPl W B ka k pa { p1 with hand := (p1.hand + 1) % n } → KPl W B ka k pa { p1 with hand := (p1.hand + 1) % n } := fun _ h => h
        have HMay : Hid (∀ (R : Ending → World → Prop), (∀ w', Kp [] W4 w' → R (.returned (.bool (maB k x))) w') → Calls Try.prog 95 #[.pointer (some ⟨pa.g, 0, none⟩), .pointer (some ⟨pa.l, p1.hand * 7, none⟩)] W4 R) := Lib.hid (fun R h => pmay_any hw4.out.1 HX4.out h)
        have hstep := hp.out.2
        rw [hsuc] at hstep
        unfold pRnd at hstep
        rw [HX.out] at hstep
        simp only [hp.out.1] at hstep
        have HST := Lib.hid hstep
        clear hstep hR
        by_cases hma : maB k x = true
        · rw [hma] at HMay
          cases hmk : x.ma with
          | false =>
            have hst := HST.out
            rw [hma, hmk] at hst
            simp only [Bool.not_false, Bool.and_self, if_true] at hst
            rw [hst] at H
            rw [hmk] at c6
            clear hst HST
            go_upto_region 9 with (go_at_call 95; (refine HMay.out _ ?_; intro w5 k5; have hw5 := Lib.hid (And.intro (hw4.out.1.off0 k5) (hw4.out.2.2.trans (Pq.of0 k5))); obtain ⟨d0, d1, d2, d3, d4, d5, d6⟩ := hw5.out.1.pl.cells HX4.out; rw [hmk] at d6; have f5 := hw5.out.1.pl.free))
            obtain ⟨y1, y2⟩ := hw5.out.1.clr7 HX4.out
            have Y := Lib.hid (And.intro y1 y2)
            clear y1 y2
            go_wp2
            exact H.out _ (hw5.out.2.trans Y.out.2) Y.out.1
          | true =>
            have hst := HST.out
            rw [hma, hmk] at hst
            simp only [Bool.not_true, Bool.and_false, Bool.false_eq_true, if_false] at hst
            rw [hmk] at c6
            have HST2 := Lib.hid hst
            clear hst HST
            go_wp2_with (go_at_call 95; (refine HMay.out _ ?_; intro w5 k5; have hw5 := Lib.hid (And.intro (hw4.out.1.off0 k5) (And.intro (hw4.out.2.1.kp k5 (by simp)) (hw4.out.2.2.trans (Pq.of0 k5)))); obtain ⟨d0, d1, d2, d3, d4, d5, d6⟩ := hw5.out.1.pl.cells HX4.out; rw [hmk] at d6; have f5 := hw5.out.1.pl.free))
            obtain ⟨z1, z2⟩ := hw5.out.1.put HX4.out (x' := { x with ma := false }) (j := 6) (v := .bool false) (by omega) rfl
            have hne : cb ≠ pa.l := by obtain ⟨tl, hl⟩ := hw5.out.1.pl.l; exact hw5.out.2.1.ne_ hl (by decide)
            exact ⟨⟨j + 1, _, by omega, by go_num, Lib.hid ⟨z1, hw5.out.2.1.far (p := ⟨pa.l, p1.hand * 7 + 6, none⟩) hne _, hw5.out.2.2.trans z2⟩, Lib.hid ⟨by simp [hp.out.1], HST2.out⟩⟩, by simp [intOf]; omega⟩
        · have hma2 : maB k x = false := by simpa using hma
          rw [hma2] at HMay
          have hst := HST.out
          rw [hma2] at hst
          simp only [Bool.false_and, Bool.false_eq_true, if_false] at hst
          have HST2 := Lib.hid hst
          clear hst HST
          go_wp2_with (go_at_call 95; (refine HMay.out _ ?_; intro w5 k5; have hw5 := Lib.hid (And.intro (hw4.out.1.off0 k5) (And.intro (hw4.out.2.1.kp k5 (by simp)) (hw4.out.2.2.trans (Pq.of0 k5)))); obtain ⟨d0, d1, d2, d3, d4, d5, d6⟩ := hw5.out.1.pl.cells HX4.out; have f5 := hw5.out.1.pl.free))
          obtain ⟨z1, z2⟩ := hw5.out.1.put HX4.out (x' := { x with ma := false }) (j := 6) (v := .bool false) (by omega) rfl
          have hne : cb ≠ pa.l := by obtain ⟨tl, hl⟩ := hw5.out.1.pl.l; exact hw5.out.2.1.ne_ hl (by decide)
          exact ⟨⟨j + 1, _, by omega, by go_num, Lib.hid ⟨z1, hw5.out.2.1.far (p := ⟨pa.l, p1.hand * 7 + 6, none⟩) hne _, hw5.out.2.2.trans z2⟩, Lib.hid ⟨by simp [hp.out.1], HST2.out⟩⟩, by simp [intOf]; omega⟩
      · obtain rfl : j = 2 * n := by omega
        have hq := hp.out.2
        rw [Nat.sub_self] at hq
        have hq' : Z = (none, p1) := hq
        rw [hq'] at H
        clear hq hq'
        go_wp2
        exact H.out _ hw.out.2.2 hw.out.1
end
end Go.Proofs.Ythlmfjfkkndboaa
