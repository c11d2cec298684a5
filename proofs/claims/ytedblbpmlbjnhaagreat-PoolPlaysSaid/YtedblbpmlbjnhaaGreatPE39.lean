/- The document's pool: take. The document's pool: its kernel's calls; write. The document's pool: Get where nothing is read. -/
import Derived.Test.YtedblbpmlbjnhaaGreatPE38
import Derived.Test.YtedblbpmlbjnhaaGreatPE37
namespace Go.Proofs.YtedblbpmlbjnhaaGreat
/-! ### The document's pool: take. -/
section
open Go.RowKit Go.Shelf
set_option linter.unusedVariables false
set_option linter.unusedSimpArgs false
set_option maxRecDepth 100000
def DSl.e (f : Int) : DSl := ⟨PSl.e f, 0, 0⟩
def dRnd (k : KS) : Nat → DP → Option Nat × DP
  | 0, D => (none, D)
  | n + 1, D => match D.sl[D.hand]? with
    | none => (none, D)
    | some d => if maB k d.x && !d.x.ma then (some D.hand, { D with sl := D.sl.set D.hand (DSl.e d.x.f), hand := (D.hand + 1) % D.sl.length })
      else dRnd k n { D with sl := D.sl.set D.hand ⟨{ d.x with ma := false }, d.ev, d.od⟩, hand := (D.hand + 1) % D.sl.length }
def dTake (k : KS) (D : DP) : Option Nat × DP := match D.sl.findIdx? (fun d => tkB k d.x) with | some i => (some i, D) | none => dRnd k (2 * D.sl.length) D
theorem dRnd_ps (k : KS) : ∀ (n : Nat) (D : DP), pRnd k n D.ps = ((dRnd k n D).1, (dRnd k n D).2.ps)
  | 0, D => rfl
  | n + 1, D => by
    unfold dRnd pRnd
    have hm : D.ps.sl[D.ps.hand]? = (D.sl[D.hand]?).map DSl.x := by simp [DP.ps]
    rw [hm]
    cases hd : D.sl[D.hand]? with
    | none => rfl
    | some d =>
      simp only [Option.map_some]
      split
      · simp [DP.ps, List.map_set, DSl.e]
      · have h := dRnd_ps k n { D with sl := D.sl.set D.hand ⟨{ d.x with ma := false }, d.ev, d.od⟩, hand := (D.hand + 1) % D.sl.length }
        rw [← h]
        simp [DP.ps, List.map_set]
theorem dTake_ps (k : KS) (D : DP) : pTake k D.ps = ((dTake k D).1, (dTake k D).2.ps) := by
  unfold pTake dTake
  have h1 : D.ps.sl.findIdx? (tkB k) = D.sl.findIdx? (fun d => tkB k d.x) := by simp only [DP.ps, List.findIdx?_map]; rfl
  rw [h1]
  cases D.sl.findIdx? (fun d => tkB k d.x) with
  | some i => rfl
  | none =>
    have := dRnd_ps k (2 * D.sl.length) D
    simpa [DP.ps] using this
section
variable {w0 w w' : World} {B : Nat} {q : QA} {k : KS} {N S' : List Nat}
theorem Nb.off {A : Option Addr} {e : Nat} {xs : List Value} (h : Nb w N e A xs) (hk : Kp S' w w') (ho : Off w S' e) : Nb w' N e A xs := fun hx => by
  obtain ⟨b, off, cs, rfl, hn, hz, hc⟩ := h hx
  exact ⟨b, off, cs, rfl, hn, hz.kp hk (ho.nin ⟨_, hz⟩), hc⟩
/-- The document's kernel, where only its pool turned. -/
theorem Qn.offL (h : Qn w0 B w q k) (hk : Kp S' w w') (o : ∀ e, 172 ≠ e → 174 ≠ e → Off w S' e) (hs : ∀ s ∈ S', w0.heap.size ≤ s) : Qn w0 B w' q k := by
  obtain ⟨ys, hf⟩ := h.f
  obtain ⟨zs, ho⟩ := h.o
  obtain ⟨c0, c1, c2, ht⟩ := h.t.t
  obtain ⟨d0, d1, hd⟩ := h.d.dd
  have ty : ∀ {g t : Nat} {xs : List Value}, Tw w g t xs → Ty w g t := fun ⟨ys, hh⟩ => hh.ty
  have oo := fun e (he : 172 ≠ e ∧ 174 ≠ e) => o e he.1 he.2
  refine ⟨h.old.thn hk (fun s hm => .inr (hs s hm)), h.hB, h.g.off hk (oo _ (by decide)), h.t.kp hk ((oo _ (by decide)).nin ht.ty) ((oo _ (by decide)).nin (ty h.t.o)) ((oo _ (by decide)).nin (ty h.t.h)) ((oo _ (by decide)).nin (ty h.t.b)),
    h.d.kpS hk ((oo _ (by decide)).nin hd.ty) ((oo _ (by decide)).nin (ty h.d.b)) ((oo _ (by decide)).nin (ty h.d.o)) (h.d.ln.off hk (oo _ (by decide))),
    ⟨ys, hf.key, hf.rd.off hk (oo _ (by decide)), hf.p⟩, h.in1.off hk (oo _ (by decide)), h.in2.off hk (oo _ (by decide)), ⟨zs, ho.key, ho.rd.off hk (oo _ (by decide)), ho.p⟩, h.new, h.nM, h.nO, h.cp⟩
end
section
variable {R : Ending → World → Prop} {w0 w w' : World} {B m : Nat} {q : QA} {k : KS} {qa : QPA} {D : DP}
def QPA.both (qa : QPA) (q : QA) : List Nat := qa.g :: qa.l :: q.own
theorem Ql.lt (h : Ql w B q.g qa D) : qa.g < w.heap.size ∧ qa.l < w.heap.size := by obtain ⟨tl, hl⟩ := h.l; exact ⟨h.g.lt, hl.lt⟩
theorem QKP.put (h : QKP w0 B w q k qa D) {i : Nat} {x x' : DSl} (hx : D.sl[i]? = some x) {j : Nat} {v : Value} (hj : j < 8) (hv : x'.vals = x.vals.set j v) (hf : x'.x.f = x.x.f) :
    QKP w0 B (w.setCell ⟨qa.l, i * 8 + j, none⟩ v) q k qa { D with sl := D.sl.set i x' } ∧ Kp (qa.both q) w (w.setCell ⟨qa.l, i * 8 + j, none⟩ v) := by
  have hk : Kp [qa.l] w (w.setCell ⟨qa.l, i * 8 + j, none⟩ v) := (Kp.refl _ _).setCell (p := ⟨qa.l, i * 8 + j, none⟩) (.inl (by simp)) _
  obtain ⟨tl, hl⟩ := h.ql.l
  have hlB := h.ql.lB
  have hB := h.qn.hB
  exact ⟨⟨h.qn.offL hk (fun e h1 h2 => Off.one hl.ty h2) (by intro s hs; simp at hs; omega), h.ql.put hx hj hv, fun d hd => by
    rcases List.mem_or_eq_of_mem_set hd with hd | rfl
    · exact h.f d hd
    · rw [hf]; exact h.f x (List.mem_of_getElem? hx)⟩, hk.mono (by intro s hs; simp at hs; subst hs; simp [QPA.both])⟩
theorem QKP.putG (h : QKP w0 B w q k qa D) (j : Nat) (v : Value) {D' : DP} (hp : D'.sl = D.sl) (hh : D'.hand < D.sl.length) (hv : ([.pointer (some ⟨q.g, 0, none⟩), .slice (some ⟨qa.l, 0, none⟩) D.sl.length qa.lc, .int .i64 D.hand, .int .i64 D.fills] : List Value).set j v = [.pointer (some ⟨q.g, 0, none⟩), .slice (some ⟨qa.l, 0, none⟩) D'.sl.length qa.lc, .int .i64 D'.hand, .int .i64 D'.fills]) :
    QKP w0 B (w.setCell ⟨qa.g, j, none⟩ v) q k qa D' ∧ Kp (qa.both q) w (w.setCell ⟨qa.g, j, none⟩ v) := by
  have hk : Kp [qa.g] w (w.setCell ⟨qa.g, j, none⟩ v) := (Kp.refl _ _).setCell (p := ⟨qa.g, j, none⟩) (.inl (by simp)) _
  have hgB := h.ql.gB
  have hB := h.qn.hB
  exact ⟨⟨h.qn.offL hk (fun e h1 h2 => Off.one h.ql.g.ty h1) (by intro s hs; simp at hs; omega), h.ql.putG j v hp hh hv, by rw [hp]; exact h.f⟩, hk.mono (by intro s hs; simp at hs; subst hs; simp [QPA.both])⟩
theorem QKP.clr8 (h : QKP w0 B w q k qa D) {i : Nat} {x : DSl} (hx : D.sl[i]? = some x) :
    QKP w0 B ((((((((w.setCell ⟨qa.l, i * 8, none⟩ (.int .i64 x.x.f)).setCell ⟨qa.l, i * 8 + 1, none⟩ (.int .i64 0)).setCell ⟨qa.l, i * 8 + 2, none⟩ (.int .i64 0)).setCell ⟨qa.l, i * 8 + 3, none⟩ (.int .i64 0)).setCell ⟨qa.l, i * 8 + 4, none⟩ (.int .i64 0)).setCell ⟨qa.l, i * 8 + 5, none⟩ (.int .i64 0)).setCell ⟨qa.l, i * 8 + 6, none⟩ (.int .i64 0)).setCell ⟨qa.l, i * 8 + 7, none⟩ (.bool false)) q k qa { D with sl := D.sl.set i (DSl.e x.x.f) } ∧
    Kp (qa.both q) w ((((((((w.setCell ⟨qa.l, i * 8, none⟩ (.int .i64 x.x.f)).setCell ⟨qa.l, i * 8 + 1, none⟩ (.int .i64 0)).setCell ⟨qa.l, i * 8 + 2, none⟩ (.int .i64 0)).setCell ⟨qa.l, i * 8 + 3, none⟩ (.int .i64 0)).setCell ⟨qa.l, i * 8 + 4, none⟩ (.int .i64 0)).setCell ⟨qa.l, i * 8 + 5, none⟩ (.int .i64 0)).setCell ⟨qa.l, i * 8 + 6, none⟩ (.int .i64 0)).setCell ⟨qa.l, i * 8 + 7, none⟩ (.bool false)) := by
  have hi := (List.getElem?_eq_some_iff.1 hx).1
  have at_ : ∀ y : DSl, (D.sl.set i y)[i]? = some y := fun y => by simp [hi]
  obtain ⟨⟨f, kd, bl, pi, n, re, im, ma⟩, ev, od⟩ := x
  obtain ⟨h1, q1⟩ := h.put hx (x' := ⟨⟨f, kd, bl, pi, n, re, im, ma⟩, ev, od⟩) (j := 0) (v := .int .i64 f) (by omega) rfl rfl
  obtain ⟨h2, q2⟩ := h1.put (at_ _) (x' := ⟨⟨f, 0, bl, pi, n, re, im, ma⟩, ev, od⟩) (j := 1) (v := .int .i64 0) (by omega) rfl rfl
  obtain ⟨h3, q3⟩ := h2.put (i := i) (by simp [hi]) (x := ⟨⟨f, 0, bl, pi, n, re, im, ma⟩, ev, od⟩) (x' := ⟨⟨f, 0, 0, pi, n, re, im, ma⟩, ev, od⟩) (j := 2) (v := .int .i64 0) (by omega) rfl rfl
  obtain ⟨h4, q4⟩ := h3.put (i := i) (by simp [hi]) (x := ⟨⟨f, 0, 0, pi, n, re, im, ma⟩, ev, od⟩) (x' := ⟨⟨f, 0, 0, 0, n, re, im, ma⟩, ev, od⟩) (j := 3) (v := .int .i64 0) (by omega) rfl rfl
  obtain ⟨h5, q5⟩ := h4.put (i := i) (by simp [hi]) (x := ⟨⟨f, 0, 0, 0, n, re, im, ma⟩, ev, od⟩) (x' := ⟨⟨f, 0, 0, 0, 0, re, im, ma⟩, ev, od⟩) (j := 4) (v := .int .i64 0) (by omega) rfl rfl
  obtain ⟨h6, q6⟩ := h5.put (i := i) (by simp [hi]) (x := ⟨⟨f, 0, 0, 0, 0, re, im, ma⟩, ev, od⟩) (x' := ⟨⟨f, 0, 0, 0, 0, re, im, ma⟩, 0, od⟩) (j := 5) (v := .int .i64 0) (by omega) rfl rfl
  obtain ⟨h7, q7⟩ := h6.put (i := i) (by simp [hi]) (x := ⟨⟨f, 0, 0, 0, 0, re, im, ma⟩, 0, od⟩) (x' := ⟨⟨f, 0, 0, 0, 0, re, im, ma⟩, 0, 0⟩) (j := 6) (v := .int .i64 0) (by omega) rfl rfl
  obtain ⟨h8, q8⟩ := h7.put (i := i) (by simp [hi]) (x := ⟨⟨f, 0, 0, 0, 0, re, im, ma⟩, 0, 0⟩) (x' := ⟨⟨f, 0, 0, 0, 0, 0, 0, false⟩, 0, 0⟩) (j := 7) (v := .bool false) (by omega) rfl rfl
  simp only [List.set_set] at h8
  have hs : ∀ a : World, ∀ s ∈ qa.both q, s ∈ qa.both q ∨ a.heap.size ≤ s := fun a s h => .inl h
  exact ⟨h8, ((((((q1.thn q2 (hs _)).thn q3 (hs _)).thn q4 (hs _)).thn q5 (hs _)).thn q6 (hs _)).thn q7 (hs _)).thn q8 (hs _)⟩
set_option maxHeartbeats 4000000 in
theorem qtake_any (h0 : QKP w0 B w q k qa D) (h : ∀ w', Kp (qa.both q) w w' → QKP w0 B w' q k qa (dTake k D).2 → R (.returned (.int .i64 (idxV (dTake k D).1))) w') : Calls Tryz.prog 79 #[.pointer (some ⟨qa.g, 0, none⟩)] w R := by
  have HK := Lib.hid h0
  obtain ⟨n, hN⟩ : ∃ n, D.sl.length = n := ⟨_, rfl⟩
  have hn0 := h0.ql.hn
  have hh0 := h0.ql.hh
  rw [hN] at hn0 hh0
  have HN := Lib.hid hN
  have H := Lib.hid h
  have HMay : Hid (∀ (R : Ending → World → Prop) (w1 : World) (i : Nat) (d : DSl), Kp [] w w1 → D.sl[i]? = some d → (∀ w', Kp [] w1 w' → R (.returned (.bool (maB k d.x))) w') → Calls Tryz.prog 132 #[.pointer (some ⟨qa.g, 0, none⟩), .int .i64 i] w1 R) := Lib.hid (fun R w1 i d k1 hx h => qmay_any (h0.kp k1) hx h)
  clear h h0 hN
  go_enter Tryz.func79, Tryz.ntmps79
  go_wp2
  go_loopw [3] (fun iv wr => ∃ i : Nat, i ≤ n ∧ iv = .int .i64 i ∧ Hid (Kp [] w wr) ∧ Hid (∀ (j : Nat) (y : DSl), j < i → D.sl[j]? = some y → tkB k y.x = false)) (fun iv _ => n - (intOf iv).toNat)
  case atStart => exact ⟨0, Nat.zero_le _, rfl, Lib.hid (Kp.refl _ _), Lib.hid (by omega)⟩
  case round =>
    obtain ⟨i, hi, rfl, kr, hno⟩ := hrel
    have g1 : wr.cell? ⟨qa.g, 1, none⟩ = some (.slice (some ⟨qa.l, 0, none⟩) n qa.lc) := by have := (HK.out.kp kr.out).ql.g.cell 1; rw [HN.out] at this; exact this
    by_cases hlt : i < n
    · obtain ⟨d, hx, hm⟩ := get_lt (l := D.sl) (k := i) (by have := HN.out; omega)
      obtain ⟨c0, c1, c2, c3, c4, c5, c6, c7⟩ := (HK.out.kp kr.out).ql.cells hx
      have HX := Lib.hid hx
      clear c0 c2 c3 c4 c5 c6 c7 hx hm
      have HM : Hid (∀ (R : Ending → World → Prop), (∀ w', Kp [] wr w' → R (.returned (.bool (maB k d.x))) w') → Calls Tryz.prog 132 #[.pointer (some ⟨qa.g, 0, none⟩), .int .i64 i] wr R) := Lib.hid (fun R h => HMay.out R wr i d kr.out HX.out h)
      have HS : Hid (tkB k d.x = false → ∀ (j : Nat) (y : DSl), j < i + 1 → D.sl[j]? = some y → tkB k y.x = false) := Lib.hid (fun ht j y hj hy => by
          by_cases hji : j < i
          · exact hno.out j y hji hy
          · obtain rfl : j = i := by omega
            rw [HX.out] at hy; injection hy with hy; subst hy
            exact ht)
      by_cases hf : (d.x.kd == 0) = true
      · by_cases hp : maB k d.x = true
        · rw [hp] at HM
          have e : dTake k D = (some i, D) := by
            have e1 : D.sl.findIdx? (fun d => tkB k d.x) = some i := fidx_some HX.out (by unfold tkB; rw [hf, hp]; rfl) hno.out
            unfold dTake; rw [e1]
          rw [e] at H
          have HH : Hid (∀ w', Kp [] wr w' → R (.returned (.int .i64 (idxV (some i)))) w') := Lib.hid (fun w' k' => H.out w' ((kr.out.trans k').mono (by simp)) (HK.out.kp (kr.out.trans k')))
          clear H e hp
          go_wp2_with (go_at_call 132; ((refine HM.out _ ?_); intro w5 k5))
          exact HH.out _ k5
        · have hp' : maB k d.x = false := by simpa using hp
          rw [hp'] at HM
          have HS2 := Lib.hid (HS.out (by unfold tkB; rw [hp']; simp))
          clear H hp HS
          go_wp2_with (go_at_call 132; ((refine HM.out _ ?_); intro w5 k5))
          exact ⟨⟨i + 1, by omega, by go_num, Lib.hid (kr.out.trans k5), HS2⟩, by simp [intOf]; omega⟩
      · have hf' : (d.x.kd == 0) = false := by simpa using hf
        have HS2 := Lib.hid (HS.out (by unfold tkB; rw [hf']; rfl))
        clear H hf HS
        go_wp2_with (go_at_call 132; ((refine HM.out _ ?_); intro w5 k5))
        exact ⟨⟨i + 1, by omega, by go_num, kr, HS2⟩, by simp [intOf]; omega⟩
    · obtain rfl : i = n := by omega
      have e : dTake k D = dRnd k (2 * i) D := by
        have e1 : D.sl.findIdx? (fun d => tkB k d.x) = none := fidx_none (fun j y hy => hno.out j y (by have := (List.getElem?_eq_some_iff.1 hy).1; have := HN.out; omega) hy)
        unfold dTake; rw [e1]; simp only; rw [HN.out]
      obtain ⟨Z, hZ⟩ : ∃ Z, dRnd k (2 * i) D = Z := ⟨_, rfl⟩
      rw [e, hZ] at H
      have HZ := Lib.hid hZ
      have K1 := Lib.hid (And.intro (HK.out.kp kr.out) (kr.out.mono (S' := qa.both q) (by simp)))
      clear HMay HK e hZ hno kr hi
      go_wp2
      go_loopw [4, 5] (fun iv _ wr => ∃ (j : Nat) (p1 : DP), j ≤ 2 * i ∧ iv = .int .i64 j ∧ Hid (QKP w0 B wr q k qa p1 ∧ Kp (qa.both q) w wr) ∧ Hid (p1.sl.length = i ∧ Z = dRnd k (2 * i - j) p1)) (fun iv _ _ => 2 * i - (intOf iv).toNat)
      case atStart => exact ⟨0, D, Nat.zero_le _, rfl, K1, Lib.hid ⟨HN.out, HZ.out.symm⟩⟩
      case round =>
        obtain ⟨j, p1, hj, rfl, hw, hp⟩ := hrel
        clear K1 g1 hlt
        have g1 : wr.cell? ⟨qa.g, 1, none⟩ = some (.slice (some ⟨qa.l, 0, none⟩) i qa.lc) := by have := hw.out.1.ql.g.cell 1; rw [hp.out.1] at this; exact this
        have g2 : wr.cell? ⟨qa.g, 2, none⟩ = some (.int .i64 p1.hand) := hw.out.1.ql.g.cell 2
        have f2 := hw.out.1.ql.g.frozen 2
        have hhl : p1.hand < i := by rw [← hp.out.1]; exact hw.out.1.ql.hh
        by_cases hlt : j < 2 * i
        · obtain ⟨x, hx⟩ : ∃ x, p1.sl[p1.hand]? = some x := ⟨_, List.getElem?_eq_getElem hw.out.1.ql.hh⟩
          have HX := Lib.hid hx
          clear hx
          have hn00 : ((i : Int) == 0) = false := by simp; omega
          have hsuc : 2 * i - j = (2 * i - (j + 1)) + 1 := by omega
          have hstep := hp.out.2
          rw [hsuc] at hstep
          unfold dRnd at hstep
          rw [HX.out] at hstep
          simp only [hp.out.1] at hstep
          have HST := Lib.hid hstep
          clear hstep hsuc
          go_upto_region 10 with (fail)
          go_region
          go_upto_region 11 with (fail)
          refine genV (fun W => Hid (QKP w0 B W q k qa { p1 with hand := (p1.hand + 1) % i } ∧ Kp (qa.both q) w W)) (by
            have hv : (p1.hand : Int) + 1 = ((p1.hand + 1 : Nat) : Int) := by omega
            have hlen := hp.out.1
            first | rw [hv, ← Int.natCast_emod] | skip
            obtain ⟨z1, z2⟩ := hw.out.1.putG 2 (.int .i64 (((p1.hand + 1) % i : Nat) : Int)) (D' := { p1 with hand := (p1.hand + 1) % i }) rfl (by rw [hlen]; exact Nat.mod_lt _ (by omega)) rfl
            exact Lib.hid ⟨z1.kp (Kp.refl [] _).drew, (hw.out.2.thn z2 (fun s h => .inl h)).thn (Kp.refl [] _).drew (by simp)⟩) ?_
          intro W4 hw4
          clear g1 g2 f2 hw
          have HX4 : Hid (({ p1 with hand := (p1.hand + 1) % i } : DP).sl[p1.hand]? = some x) := HX
          have HMay : Hid (∀ (R : Ending → World → Prop), (∀ w', Kp [] W4 w' → R (.returned (.bool (maB k x.x))) w') → Calls Tryz.prog 132 #[.pointer (some ⟨qa.g, 0, none⟩), .int .i64 p1.hand] W4 R) := Lib.hid (fun R h => qmay_any hw4.out.1 HX4.out h)
          have HC : Hid (∀ w', Kp [] W4 w' → w'.cell? ⟨qa.g, 1, none⟩ = some (.slice (some ⟨qa.l, 0, none⟩) i qa.lc) ∧ w'.cell? ⟨qa.l, p1.hand * 8, none⟩ = some (.int .i64 x.x.f) ∧ w'.cell? ⟨qa.l, p1.hand * 8 + 7, none⟩ = some (.bool x.x.ma) ∧ (∀ o, w'.frozen? ⟨qa.l, o, none⟩ = false) ∧ w'.cell? ⟨qa.l, p1.hand * 8 + 1, none⟩ = some (.int .i64 x.x.kd) ∧ w'.cell? ⟨qa.l, p1.hand * 8 + 2, none⟩ = some (.int .i64 x.x.bl) ∧ w'.cell? ⟨qa.l, p1.hand * 8 + 3, none⟩ = some (.int .i64 x.x.pi) ∧ w'.cell? ⟨qa.l, p1.hand * 8 + 4, none⟩ = some (.int .i64 x.x.n) ∧ w'.cell? ⟨qa.l, p1.hand * 8 + 5, none⟩ = some (.int .i64 x.ev) ∧ w'.cell? ⟨qa.l, p1.hand * 8 + 6, none⟩ = some (.int .i64 x.od)) := Lib.hid (fun w' k' => by
            have z := (hw4.out.1.kp k').ql
            obtain ⟨c0, c1, c2, c3, c4, c5, c6, c7⟩ := z.cells HX4.out
            exact ⟨by have := z.g.cell 1; simp only [hp.out.1] at this; exact this, c0, c7, z.free, c1, c2, c3, c4, c5, c6⟩)
          by_cases hma : maB k x.x = true
          · rw [hma] at HMay
            cases hmk : x.x.ma with
            | false =>
              have hst := HST.out
              rw [hma, hmk] at hst
              simp only [Bool.not_false, Bool.and_self, if_true] at hst
              rw [hst] at H
              rw [hmk] at HC
              clear hst HST
              go_upto_region 12 with (go_at_call 132; (refine HMay.out _ ?_; intro w5 k5; obtain ⟨e1, d0, d7, f5, d1, d2, d3, d4, d5, d6⟩ := HC.out w5 k5))
              have HW5 := Lib.hid (And.intro (hw4.out.1.kp k5) (hw4.out.2.thn k5 (by simp)))
              obtain ⟨y1, y2⟩ := HW5.out.1.clr8 HX4.out
              have Y := Lib.hid (And.intro y1 (HW5.out.2.thn y2 (fun s h => .inl h)))
              clear y1 y2 HC HMay hw4 k5
              go_region
              have Z8 := Lib.hid (And.intro (Y.out.1.kp (Kp.refl [] _).drew) (Y.out.2.thn (Kp.refl [] _).drew (by simp)))
              go_wp2
              exact H.out _ Z8.out.2 Z8.out.1
            | true =>
              have hst := HST.out
              rw [hma, hmk] at hst
              simp only [Bool.not_true, Bool.and_false, Bool.false_eq_true, if_false] at hst
              rw [hmk] at HC
              have HST2 := Lib.hid hst
              clear hst HST
              go_wp2_with (go_at_call 132; (refine HMay.out _ ?_; intro w5 k5; obtain ⟨e1, d0, d7, f5, d1, d2, d3, d4, d5, d6⟩ := HC.out w5 k5))
              obtain ⟨z1, z2⟩ := (hw4.out.1.kp k5).put HX4.out (x' := ⟨{ x.x with ma := false }, x.ev, x.od⟩) (j := 7) (v := .bool false) (by omega) rfl rfl
              exact ⟨⟨j + 1, _, by omega, by go_num, Lib.hid ⟨z1, (hw4.out.2.thn k5 (by simp)).thn z2 (fun s h => .inl h)⟩, Lib.hid ⟨by simp [hp.out.1], HST2.out⟩⟩, by simp [intOf]; omega⟩
          · have hma2 : maB k x.x = false := by simpa using hma
            rw [hma2] at HMay
            have hst := HST.out
            rw [hma2] at hst
            simp only [Bool.false_and, Bool.false_eq_true, if_false] at hst
            have HST2 := Lib.hid hst
            clear hst HST
            go_wp2_with (go_at_call 132; (refine HMay.out _ ?_; intro w5 k5; obtain ⟨e1, d0, d7, f5, d1, d2, d3, d4, d5, d6⟩ := HC.out w5 k5))
            obtain ⟨z1, z2⟩ := (hw4.out.1.kp k5).put HX4.out (x' := ⟨{ x.x with ma := false }, x.ev, x.od⟩) (j := 7) (v := .bool false) (by omega) rfl rfl
            exact ⟨⟨j + 1, _, by omega, by go_num, Lib.hid ⟨z1, (hw4.out.2.thn k5 (by simp)).thn z2 (fun s h => .inl h)⟩, Lib.hid ⟨by simp [hp.out.1], HST2.out⟩⟩, by simp [intOf]; omega⟩
        · obtain rfl : j = 2 * i := by omega
          have hq := hp.out.2
          rw [Nat.sub_self] at hq
          have hq' : Z = (none, p1) := hq
          rw [hq'] at H
          clear hq hq'
          go_wp2
          exact H.out _ hw.out.2 hw.out.1
end
end
/-! ### The document's pool: its kernel's calls; write. -/
section
open Go.RowKit Go.Shelf
set_option linter.unusedVariables false
set_option linter.unusedSimpArgs false
set_option maxRecDepth 100000
theorem tWrite_length (fs : List Fr) (e g t : Int) (s : List UInt8) : (tWrite fs e g t s).2.length = fs.length := by
  unfold tWrite
  repeat' split
  all_goals simp
section
variable {R : Ending → World → Prop} {w0 w w' : World} {B m : Nat} {q q' : QA} {k k' : KS} {qa : QPA} {D : DP}
/-- The kernel's call keeps the pool. -/
theorem QKP.call (h : QKP w0 B w q k qa D) (hk : Kp q.own w w') (hq : Qn w0 B w' q' k') (ho : q'.own = q.own) (hl : k'.fs.length = k.fs.length) : QKP w0 B w' q' k' qa D ∧ Kp (qa.both q) w w' := by
  have hg : q'.g = q.g := by have := congrArg (·.head?) ho; simpa [QA.own] using this
  refine ⟨⟨hq, ?_, by rw [hl]; exact h.f⟩, hk.mono (fun s hs => .inl (by simp [QPA.both, hs]))⟩
  rw [hg]
  exact h.ql.off hk (h.qn.offO _ (by decide) (by decide) (by decide) (by decide)) (h.qn.offO _ (by decide) (by decide) (by decide) (by decide))
/-- A call of plain numbers and a string. -/
def clS (op a : Int) (s : ByteArray) : Cl := ⟨op, 1, a, 0, 0, s, ⟨none, 0, 0, []⟩, ⟨none, 0, 0, []⟩⟩
theorem clS_qc (op a : Int) (s : ByteArray) : QC w0 (clS op a s) := ⟨by simp [clS, Rd], rfl, by simp [clS], by simp [clS], by simp [clS, Rd], rfl, by simp [clS], by simp [clS]⟩
def kcS (op a : Int) (l : List UInt8) : Kc := ⟨op, 1, a, 0, 0, none, 0, 0, l, none, 0, 0, [], none, 0, 0, []⟩
theorem kcS_cl (op a : Int) (l : List UInt8) : KCl (kcS op a l) (clS op a (S l)) := ⟨rfl, rfl, rfl, rfl, rfl, by simp [kcS, clS, S], rfl, rfl⟩
set_option maxHeartbeats 2000000 in
theorem qwrite_any (h0 : QKP w0 B w q k qa D) (hm : k.cnt m) (hm2 : m ≤ 10000) (hpg : ∀ y ∈ k.fs, y.bs.length = 256) (hr : k.qo.length ≤ 16) {i : Nat} {d : DSl} (hx : D.sl[i]? = some d) (l : List UInt8)
    (h : ∀ q' w', Kp (qa.both q) w w' → QKP w0 B w' q' { k with fs := (tWrite k.fs 1 d.x.f 0 l).2 } qa D → q'.own = q.own → q'.bM = q.bM ∧ q'.bD = q.bD → R (.returned (.tuple #[])) w') :
    Calls Tryz.prog 80 #[.pointer (some ⟨qa.g, 0, none⟩), .int .i64 i, .string (S l)] w R := by
  have H := Lib.hid h
  obtain ⟨c0, c1, c2, c3, c4, c5, c6, c7⟩ := h0.ql.cells hx
  have g0 : w.cell? ⟨qa.g, 0, none⟩ = some (.pointer (some ⟨q.g, 0, none⟩)) := h0.ql.g.cell 0
  have g1 : w.cell? ⟨qa.g, 1, none⟩ = some (.slice (some ⟨qa.l, 0, none⟩) D.sl.length qa.lc) := h0.ql.g.cell 1
  have hi := (List.getElem?_eq_some_iff.1 hx).1
  have HC : Hid (∀ (R : Ending → World → Prop) (w1 : World), Kp [] w w1 → (∀ v w', Hid (∃ q', Kp (qa.both q) w w' ∧ QKP w0 B w' q' { k with fs := (tWrite k.fs 1 d.x.f 0 l).2 } qa D ∧ q'.own = q.own ∧ q'.bM = q.bM ∧ q'.bD = q.bD) → R (.returned v) w') → Calls Tryz.prog 11 #[.pointer (some ⟨q.g, 0, none⟩), .agg #[.int .i64 5, .int .i64 1, .int .i64 d.x.f, .int .i64 0, .int .i64 0, .string (S l), .slice none 0 0, .slice none 0 0]] w1 R) := Lib.hid (fun R w1 k1 h => by
    have hs : kStep k (kcS 5 d.x.f l) (kFB k (kcS 5 d.x.f l)).n (kFB k (kcS 5 d.x.f l)).l (kFB k (kcS 5 d.x.f l)).e { k with fs := (tWrite k.fs 1 d.x.f 0 l).2 } := by
      unfold kStep
      rw [if_neg (by simp [kcS]), if_pos (by simp [kcS])]
      unfold kFB
      rw [if_neg (by simp [kcS]), if_neg (by simp [kcS]), if_neg (by simp [kcS]), if_neg (by simp [kcS]), if_pos (by rfl)]
      rfl
    refine rcallp_any (h0.kp k1).qn hm hm2 hpg hr (kcS 5 d.x.f l) (clS 5 d.x.f (S l)) (kcS_cl _ _ _) (clS_qc _ _ _) (by unfold i64B; simp [clS]) (by simp [clS]) hs (fun q' w2 kk hq2 ho hb => ?_)
    obtain ⟨z1, z2⟩ := (h0.kp k1).call kk hq2 ho (by simp [tWrite_length])
    exact h _ w2 (Lib.hid ⟨q', (k1.mono (by simp)).thn z2 (fun s h => .inl h), z1, ho, hb.1, hb.2⟩))
  clear h h0 hx hm hpg hr c1 c2 c3 c4 c5 c6 c7
  go_enter Tryz.func80, Tryz.ntmps80
  go_region_law (first | (go_simp; go_at_call 11; ((refine HC.out _ _ (Kp.refl [] w).drew ?_); intro v w5 h5)))
  all_goals
    go_wp2
    obtain ⟨q', z1, z2, z3, z4, z5⟩ := h5.out
    exact bodyPost_end (v := .tuple #[]) (by simp [results, Tryz.results80, go_sem]) rfl (H.out q' _ z1 z2 z3 ⟨z4, z5⟩)
end
end
/-! ### The document's pool: Get where nothing is read. -/
section
open Go.RowKit Go.Shelf
set_option linter.unusedVariables false
set_option linter.unusedSimpArgs false
set_option maxRecDepth 100000
/-- A block lies in one slot at most. -/
def DP.uni (D : DP) : Prop := ∀ (b : Int) (i j : Nat) (x y : DSl), D.sl[i]? = some x → D.sl[j]? = some y → hasB b x.x = true → hasB b y.x = true → i = j
def dLast (b : Int) (l : List DSl) (i : Nat) (o : Option Nat) : Prop := match o with
  | none => ∀ (j : Nat) (y : DSl), j < i → l[j]? = some y → hasB b y.x = false
  | some j => j < i ∧ ∃ y, l[j]? = some y ∧ hasB b y.x = true
theorem dLast_fin {b : Int} {D : DP} {i : Nat} {o : Option Nat} (hu : D.uni) (hi : i = D.sl.length) (h : dLast b D.sl i o) : o = D.sl.findIdx? (fun d => hasB b d.x) := by
  cases o with
  | none => exact (fidx_none (fun j y hy => h j y (by have := (List.getElem?_eq_some_iff.1 hy).1; omega) hy)).symm
  | some j =>
    obtain ⟨hj, y, hy, hb⟩ := h
    refine (fidx_some hy hb (fun j2 y2 hj2 hy2 => ?_)).symm
    cases hc : hasB b y2.x with
    | false => rfl
    | true => have := hu b j2 j y2 y hy2 hy hc hb; omega
section
variable {R : Ending → World → Prop} {w0 w w' : World} {B m : Nat} {q q' : QA} {k k' : KS} {qa : QPA} {D : DP}
theorem qget_bad (b n ev od : Int) (hn : ¬ (0 ≤ n ∧ n ≤ 256)) (h : ∀ w', Kp [] w w' → R (.returned (.tuple #[.int .i64 0, .int .i64 1])) w') :
    Calls Tryz.prog 26 #[.pointer (some ⟨qa.g, 0, none⟩), .int .i64 b, .int .i64 n, .agg #[.int .i64 ev, .int .i64 od]] w R := by
  have H := Lib.hid h
  clear h
  by_cases h1 : n < 0
  · clear hn
    go_enter Tryz.func26, Tryz.ntmps26
    go_wp2
    exact H.out _ ((Kp.refl _ _).alloc _)
  · have h2 : 256 < n := by omega
    clear hn
    go_enter Tryz.func26, Tryz.ntmps26
    go_wp2
    exact H.out _ ((Kp.refl _ _).alloc _)
set_option maxHeartbeats 4000000 in
/-- It is there. -/
theorem qget_hit (h0 : QKP w0 B w q k qa D) (hu : D.uni) (b n ev od : Int) (hn0 : 0 ≤ n) (hn1 : n ≤ 256) {i0 : Nat} {d : DSl} (hf : D.sl.findIdx? (fun d => hasB b d.x) = some i0) (hx0 : D.sl[i0]? = some d) (hb0 : 0 ≤ d.x.pi) (hb1 : d.x.pi ≤ 1000000)
    (h : ∀ w', Kp (qa.both q) w w' → QKP w0 B w' q k qa { D with sl := D.sl.set i0 ⟨{ d.x with pi := d.x.pi + 1, ma := true }, d.ev, d.od⟩ } → R (.returned (.tuple #[.int .i64 d.x.f, .int .i64 0])) w') :
    Calls Tryz.prog 26 #[.pointer (some ⟨qa.g, 0, none⟩), .int .i64 b, .int .i64 n, .agg #[.int .i64 ev, .int .i64 od]] w R := by
  have H := Lib.hid h
  have HK := Lib.hid h0
  obtain ⟨N, hN⟩ : ∃ n, D.sl.length = n := ⟨_, rfl⟩
  have hnn := h0.ql.hn
  rw [hN] at hnn
  have HN := Lib.hid hN
  have HU := Lib.hid hu
  have HF := Lib.hid hf
  have HX0 := Lib.hid hx0
  have hi0 : i0 < N := by rw [← hN]; exact (List.getElem?_eq_some_iff.1 hx0).1
  have n0 : decide (n < 0) = false := by simpa using hn0
  have n1 : decide (256 < n) = false := by simpa using hn1
  have gw : w.cell? ⟨qa.g, 1, none⟩ = some (.slice (some ⟨qa.l, 0, none⟩) N qa.lc) := by have := h0.ql.g.cell 1; rw [hN] at this; exact this
  have gwa : ∀ o, (w.alloc o).cell? ⟨qa.g, 1, none⟩ = some (.slice (some ⟨qa.l, 0, none⟩) N qa.lc) := fun o => by have := (h0.ql.g.alloc o).cell 1; rw [hN] at this; exact this
  clear h h0 hN hu hf hx0 hn0 hn1
  go_enter Tryz.func26, Tryz.ntmps26
  go_wp2
  go_loopw [10, 11] (fun av iv wr => ∃ (i : Nat) (o : Option Nat), i ≤ N ∧ iv = .int .i64 i ∧ av = .int .i64 (idxV o) ∧ Hid (Kp [] w wr) ∧ Hid (dLast b D.sl i o)) (fun _ iv _ => N - (intOf iv).toNat)
  case atStart => exact ⟨0, none, Nat.zero_le _, rfl, rfl, Lib.hid ((Kp.refl _ _).alloc _), Lib.hid (by intro j y hj; omega)⟩
  case round =>
    obtain ⟨i, o, hi, rfl, rfl, kr, hno⟩ := hrel
    clear gw gwa
    have g1 : wr.cell? ⟨qa.g, 1, none⟩ = some (.slice (some ⟨qa.l, 0, none⟩) N qa.lc) := by have := (HK.out.kp kr.out).ql.g.cell 1; rw [HN.out] at this; exact this
    by_cases hlt : i < N
    · obtain ⟨d2, hx, hm⟩ := get_lt (l := D.sl) (k := i) (by have := HN.out; omega)
      obtain ⟨c0, c1, c2, c3, c4, c5, c6, c7⟩ := (HK.out.kp kr.out).ql.cells hx
      have HX := Lib.hid hx
      clear c0 c3 c4 c5 c6 c7 hx hm
      have HS : Hid (hasB b d2.x = false → dLast b D.sl (i + 1) o) := Lib.hid (fun hf => by
        have h1 := hno.out
        cases o with
        | none =>
          intro j y hj hy
          by_cases hji : j < i
          · exact h1 j y hji hy
          · obtain rfl : j = i := by omega
            rw [HX.out] at hy; injection hy with hy; subst hy; exact hf
        | some j => exact ⟨by have := h1.1; omega, h1.2⟩)
      by_cases hf : (d2.x.kd == 1) = true
      · by_cases hp : (d2.x.bl == b) = true
        · have HS2 : Hid (dLast b D.sl (i + 1) (some i)) := Lib.hid ⟨by omega, d2, HX.out, by unfold hasB; rw [hf, hp]; rfl⟩
          clear HS
          go_wp2
          exact ⟨⟨i + 1, some i, by omega, by go_num, rfl, kr, HS2⟩, by simp [intOf]; omega⟩
        · have hp' : (d2.x.bl == b) = false := by simpa using hp
          have HS2 := Lib.hid (HS.out (by unfold hasB; rw [hp']; simp))
          clear HS hp
          go_wp2
          exact ⟨⟨i + 1, o, by omega, by go_num, rfl, kr, HS2⟩, by simp [intOf]; omega⟩
      · have hf' : (d2.x.kd == 1) = false := by simpa using hf
        have HS2 := Lib.hid (HS.out (by unfold hasB; rw [hf']; rfl))
        clear HS hf
        go_wp2
        exact ⟨⟨i + 1, o, by omega, by go_num, rfl, kr, HS2⟩, by simp [intOf]; omega⟩
    · obtain rfl : i = N := by omega
      have e := dLast_fin HU.out HN.out.symm hno.out
      rw [HF.out] at e
      subst e
      have K1 := Lib.hid (HK.out.kp kr.out)
      have hv : idxV (some i0) = (i0 : Int) := rfl
      rw [hv]
      have hneg : ¬ ((i0 : Int) < 0) := by omega
      obtain ⟨c0, c1, c2, c3, c4, c5, c6, c7⟩ := K1.out.ql.cells HX0.out
      have f1 := K1.out.ql.free
      clear HK HU HF hno
      obtain ⟨z1, v1⟩ := K1.out.put HX0.out (x' := ⟨{ d.x with pi := d.x.pi + 1 }, d.ev, d.od⟩) (j := 3) (v := .int .i64 (d.x.pi + 1)) (by omega) rfl rfl
      have hil : i0 < D.sl.length := (List.getElem?_eq_some_iff.1 HX0.out).1
      obtain ⟨z2, v2⟩ := z1.put (i := i0) (by simp [hil]) (x := ⟨{ d.x with pi := d.x.pi + 1 }, d.ev, d.od⟩) (x' := ⟨{ d.x with pi := d.x.pi + 1, ma := true }, d.ev, d.od⟩) (j := 7) (v := .bool true) (by omega) rfl rfl
      simp only [List.set_set] at z2
      have Z := Lib.hid (And.intro z2 (((kr.out.mono (S' := qa.both q) (by simp)).thn v1 (fun s h => .inl h)).thn v2 (fun s h => .inl h)))
      clear z1 z2 v1 v2 hil
      go_wp2
      exact H.out _ Z.out.2 Z.out.1
end
end
end Go.Proofs.YtedblbpmlbjnhaaGreat
