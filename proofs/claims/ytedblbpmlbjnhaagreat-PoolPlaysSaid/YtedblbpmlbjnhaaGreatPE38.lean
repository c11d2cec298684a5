/- A pool's small methods: Pins, Has, Fills, Unpin, Pin. The document's pool in memory. The document's pool: who has pins. -/
import Derived.Test.YtedblbpmlbjnhaaGreatPE37
import Derived.BigRegion
import Derived.Test.YtedblbpmlbjnhaaGreatPE36
import Derived.Test.YtedblbpmlbjnhaaGreatPE8
import Derived.BigQuiet
namespace Go.Proofs.YtedblbpmlbjnhaaGreat
/-! ### A pool's small methods: Pins, Has, Fills, Unpin, Pin. -/
section
open Go.RowKit Go.Shelf
set_option linter.unusedVariables false
set_option linter.unusedSimpArgs false
set_option maxRecDepth 100000
def pinB (f : Int) (x : PSl) : Bool := x.f == f && decide (x.pi > 0)
def hasB (b : Int) (x : PSl) : Bool := x.kd == 1 && x.bl == b
def pPins (p : PS) (f : Int) : Int := match p.sl.findIdx? (pinB f) with | none => 0 | some i => match p.sl[i]? with | none => 0 | some x => x.pi
def PSl.less (x : PSl) : PSl := if x.pi - 1 = 0 ∧ x.kd ≠ 1 then PSl.e x.f else { x with pi := x.pi - 1 }
def pUnpin (p : PS) (f : Int) : Int × PS := match p.sl.findIdx? (pinB f) with | none => (1, p) | some i => match p.sl[i]? with | none => (1, p) | some x => (0, { p with sl := p.sl.set i x.less })
theorem idx_at {p : PS} {pr : PSl → Bool} {i : Nat} (h : p.sl.findIdx? pr = some i) : ∃ x, p.sl[i]? = some x ∧ pr x = true := by
  obtain ⟨hi, hp, _⟩ := List.findIdx?_eq_some_iff_getElem.1 h
  exact ⟨_, List.getElem?_eq_getElem hi, hp⟩
/-- All numbers are bounded. -/
structure PS.bd (p : PS) (m : Nat) : Prop where
  pi : ∀ x ∈ p.sl, 0 ≤ x.pi ∧ x.pi ≤ m
  f0 : 0 ≤ p.fills
  f1 : p.fills ≤ m
section
variable {R : Ending → World → Prop} {w w' : World} {B m : Nat} {ka : KA} {k : KS} {pa : PA} {p : PS}
set_option maxHeartbeats 1000000 in
theorem ppin_any (h0 : KPl w B ka k pa p) (f : Int) (h : ∀ w', Kp [] w w' → R (.returned (.pointer (pfind p pa.l (pinB f)))) w') : Calls Tryz.prog 83 #[.pointer (some ⟨pa.g, 0, none⟩), .int .i64 f] w R := by
  have H := Lib.hid h
  have HK := Lib.hid h0
  have he : ∀ (args : Array Value) (w : World), (callFunc 134 args).run Tryz.prog w = .ok (.enter 134 args) w := enters_of Tryz.func134 (by kernel_rfl) rfl
  clear h h0
  go_enter Tryz.func83, Tryz.ntmps83
  go_wp2_with (go_at_call 75; (refine pfind_any (HK.out.off0 ((Kp.refl _ _).alloc _)) 134 _ (pinB f) he (fun R i x w1 k1 hx h => ?_) ?_; rotate_left; intro w2 k2))
  · exact H.out _ (((Kp.refl _ _).alloc _).trans k2)
  · refine ppn1_any (HK.out.off0 (((Kp.refl _ _).alloc _).trans k1)) f ?_ hx h
    rw [k1.cell (by simp) (by simp)]
    exact (Bk.new' _ _ _).cell 0
set_option maxHeartbeats 1000000 in
theorem ppins_any (h0 : KPl w B ka k pa p) (f : Int) (h : ∀ w', Kp [] w w' → R (.returned (.int .i64 (pPins p f))) w') : Calls Tryz.prog 73 #[.pointer (some ⟨pa.g, 0, none⟩), .int .i64 f] w R := by
  have HK := Lib.hid h0
  have HPn : Hid (∀ (R : Ending → World → Prop), (∀ w', Kp [] w w' → R (.returned (.pointer (pfind p pa.l (pinB f)))) w') → Calls Tryz.prog 83 #[.pointer (some ⟨pa.g, 0, none⟩), .int .i64 f] w R) := Lib.hid (fun R h => ppin_any h0 f h)
  clear h0
  cases hf : p.sl.findIdx? (pinB f) with
  | none =>
    have H := Lib.hid (fun w' k' => rcast (h w' k') (congrArg (Value.int .i64) (show pPins p f = 0 by unfold pPins; rw [hf])))
    have e : pfind p pa.l (pinB f) = none := by unfold pfind; rw [hf]
    rw [e] at HPn
    clear h hf
    go_enter Tryz.func73, Tryz.ntmps73
    go_wp2_with (go_at_call 83; (refine HPn.out _ ?_; intro w2 k2))
    exact H.out _ k2
  | some i =>
    obtain ⟨x, hx, _⟩ := idx_at hf
    have H := Lib.hid (fun w' k' => rcast (h w' k') (congrArg (Value.int .i64) (show pPins p f = x.pi by unfold pPins; rw [hf]; simp only; rw [hx])))
    have e : pfind p pa.l (pinB f) = some ⟨pa.l, i * 7, none⟩ := by unfold pfind; rw [hf]
    rw [e] at HPn
    have HX := Lib.hid hx
    clear h hf hx
    go_enter Tryz.func73, Tryz.ntmps73
    go_wp2_with (go_at_call 83; (refine HPn.out _ ?_; intro w2 k2; obtain ⟨_, _, _, c3, _, _, _⟩ := (HK.out.off0 k2).pl.cells HX.out))
    exact H.out _ k2
set_option maxHeartbeats 1000000 in
theorem phas_any (h0 : KPl w B ka k pa p) (f : Int) (h : ∀ w', Kp [] w w' → R (.returned (.bool (p.sl.findIdx? (hasB f)).isSome)) w') : Calls Tryz.prog 89 #[.pointer (some ⟨pa.g, 0, none⟩), .int .i64 f] w R := by
  have HK := Lib.hid h0
  have he : ∀ (args : Array Value) (w : World), (callFunc 137 args).run Tryz.prog w = .ok (.enter 137 args) w := enters_of Tryz.func137 (by kernel_rfl) rfl
  have HF : Hid (∀ (R : Ending → World → Prop) (w1 : World) (cb : Nat), Kp [] w w1 → w1.cell? ⟨cb, 0, none⟩ = some (.int .i64 f) → (∀ w', Kp [] w1 w' → R (.returned (.pointer (pfind p pa.l (hasB f)))) w') → Calls Tryz.prog 75 #[.pointer (some ⟨pa.g, 0, none⟩), .func (.func 137) #[] #[.pointer (some ⟨cb, 0, none⟩)]] w1 R) := Lib.hid (fun R w1 cb k1 hc h => by
    refine pfind_any (h0.off0 k1) 137 cb (hasB f) he (fun R i x w2 k2 hx h => ?_) h
    refine phs1_any (h0.off0 (k1.trans k2)) f ?_ hx h
    rw [k2.cell (World.block_lt_of_cell? w1 _ hc) (by simp)]; exact hc)
  clear h0 he
  cases hf : p.sl.findIdx? (hasB f) with
  | none =>
    have H := Lib.hid (fun w' k' => rcast (h w' k') (congrArg Value.bool (show (p.sl.findIdx? (hasB f)).isSome = false by rw [hf]; rfl)))
    have e : pfind p pa.l (hasB f) = none := by unfold pfind; rw [hf]
    rw [e] at HF
    clear h hf
    go_enter Tryz.func89, Tryz.ntmps89
    go_wp2_with (go_at_call 75; (refine HF.out _ _ _ ((Kp.refl _ _).alloc _) ((Bk.new' _ _ _).cell 0) ?_; intro w2 k2))
    exact H.out _ (((Kp.refl _ _).alloc _).trans k2)
  | some i =>
    have H := Lib.hid (fun w' k' => rcast (h w' k') (congrArg Value.bool (show (p.sl.findIdx? (hasB f)).isSome = true by rw [hf]; rfl)))
    have e : pfind p pa.l (hasB f) = some ⟨pa.l, i * 7, none⟩ := by unfold pfind; rw [hf]
    rw [e] at HF
    clear h hf
    go_enter Tryz.func89, Tryz.ntmps89
    go_wp2_with (go_at_call 75; (refine HF.out _ _ _ ((Kp.refl _ _).alloc _) ((Bk.new' _ _ _).cell 0) ?_; intro w2 k2))
    exact H.out _ (((Kp.refl _ _).alloc _).trans k2)
set_option maxHeartbeats 1000000 in
theorem pfills_any (h0 : KPl w B ka k pa p) (h : R (.returned (.int .i64 p.fills)) w) : Calls Tryz.prog 90 #[.pointer (some ⟨pa.g, 0, none⟩)] w R := by
  have c3 : w.cell? ⟨pa.g, 3, none⟩ = some (.int .i64 p.fills) := h0.pl.g.cell 3
  have H := Lib.hid h
  clear h0 h
  go_enter Tryz.func90, Tryz.ntmps90
  go_wp2
  exact H.out
/-- A slot is made empty, cell by cell. -/
theorem KPl.clr7 (h : KPl w B ka k pa p) {i : Nat} {x : PSl} (hx : p.sl[i]? = some x) :
    KPl (((((((w.setCell ⟨pa.l, i * 7, none⟩ (.int .i64 x.f)).setCell ⟨pa.l, i * 7 + 1, none⟩ (.int .i64 0)).setCell ⟨pa.l, i * 7 + 2, none⟩ (.int .i64 0)).setCell ⟨pa.l, i * 7 + 3, none⟩ (.int .i64 0)).setCell ⟨pa.l, i * 7 + 4, none⟩ (.int .i64 0)).setCell ⟨pa.l, i * 7 + 5, none⟩ (.complex .f64 0 0)).setCell ⟨pa.l, i * 7 + 6, none⟩ (.bool false)) B ka k pa { p with sl := p.sl.set i (PSl.e x.f) } ∧
    Pq B w (((((((w.setCell ⟨pa.l, i * 7, none⟩ (.int .i64 x.f)).setCell ⟨pa.l, i * 7 + 1, none⟩ (.int .i64 0)).setCell ⟨pa.l, i * 7 + 2, none⟩ (.int .i64 0)).setCell ⟨pa.l, i * 7 + 3, none⟩ (.int .i64 0)).setCell ⟨pa.l, i * 7 + 4, none⟩ (.int .i64 0)).setCell ⟨pa.l, i * 7 + 5, none⟩ (.complex .f64 0 0)).setCell ⟨pa.l, i * 7 + 6, none⟩ (.bool false)) := by
  have hi := (List.getElem?_eq_some_iff.1 hx).1
  have at_ : ∀ y : PSl, (p.sl.set i y)[i]? = some y := fun y => by simp [hi]
  obtain ⟨f, kd, bl, pi, n, re, im, ma⟩ := x
  obtain ⟨h1, q1⟩ := h.put hx (x' := ⟨f, kd, bl, pi, n, re, im, ma⟩) (j := 0) (v := .int .i64 f) (by omega) rfl
  obtain ⟨h2, q2⟩ := h1.put (at_ _) (x' := ⟨f, 0, bl, pi, n, re, im, ma⟩) (j := 1) (v := .int .i64 0) (by omega) rfl
  simp only [List.set_set, Nat.add_zero] at h2 q1 q2
  obtain ⟨h3, q3⟩ := h2.put (at_ _) (x' := ⟨f, 0, 0, pi, n, re, im, ma⟩) (j := 2) (v := .int .i64 0) (by omega) rfl
  simp only [List.set_set] at h3
  obtain ⟨h4, q4⟩ := h3.put (at_ _) (x' := ⟨f, 0, 0, 0, n, re, im, ma⟩) (j := 3) (v := .int .i64 0) (by omega) rfl
  simp only [List.set_set] at h4
  obtain ⟨h5, q5⟩ := h4.put (at_ _) (x' := ⟨f, 0, 0, 0, 0, re, im, ma⟩) (j := 4) (v := .int .i64 0) (by omega) rfl
  simp only [List.set_set] at h5
  obtain ⟨h6, q6⟩ := h5.put (at_ _) (x' := ⟨f, 0, 0, 0, 0, 0, 0, ma⟩) (j := 5) (v := .complex .f64 0 0) (by omega) rfl
  simp only [List.set_set] at h6
  obtain ⟨h7, q7⟩ := h6.put (at_ _) (x' := ⟨f, 0, 0, 0, 0, 0, 0, false⟩) (j := 6) (v := .bool false) (by omega) rfl
  simp only [List.set_set] at h7
  exact ⟨h7, (((((q1.trans q2).trans q3).trans q4).trans q5).trans q6).trans q7⟩
set_option maxHeartbeats 2000000 in
theorem punpin_any (h0 : KPl w B ka k pa p) (hbd : p.bd m) (hm : m ≤ 1000000) (f : Int) (h : ∀ w', Pq B w w' → KPl w' B ka k pa (pUnpin p f).2 → R (.returned (.int .i64 (pUnpin p f).1)) w') : Calls Tryz.prog 31 #[.pointer (some ⟨pa.g, 0, none⟩), .int .i64 f] w R := by
  have HK := Lib.hid h0
  have HPn : Hid (∀ (R : Ending → World → Prop), (∀ w', Kp [] w w' → R (.returned (.pointer (pfind p pa.l (pinB f)))) w') → Calls Tryz.prog 83 #[.pointer (some ⟨pa.g, 0, none⟩), .int .i64 f] w R) := Lib.hid (fun R h => ppin_any h0 f h)
  clear h0
  cases hf : p.sl.findIdx? (pinB f) with
  | none =>
    have e0 : pUnpin p f = (1, p) := by unfold pUnpin; rw [hf]
    rw [e0] at h
    have H := Lib.hid h
    have e : pfind p pa.l (pinB f) = none := by unfold pfind; rw [hf]
    rw [e] at HPn
    clear h hf
    go_enter Tryz.func31, Tryz.ntmps31
    go_wp2_with (go_at_call 83; (refine HPn.out _ ?_; intro w2 k2))
    exact H.out _ (Pq.of0 k2) (HK.out.off0 k2)
  | some i =>
    obtain ⟨x, hx, hxp⟩ := idx_at hf
    have e0 : pUnpin p f = (0, { p with sl := p.sl.set i x.less }) := by unfold pUnpin; rw [hf]; simp only; rw [hx]
    rw [e0] at h
    have H := Lib.hid h
    have e : pfind p pa.l (pinB f) = some ⟨pa.l, i * 7, none⟩ := by unfold pfind; rw [hf]
    rw [e] at HPn
    have HX := Lib.hid hx
    have hi := (List.getElem?_eq_some_iff.1 hx).1
    obtain ⟨hp0, hp1⟩ := hbd.pi x (List.mem_of_getElem? hx)
    clear h hf hx hbd hxp
    have hset : ({ p with sl := p.sl.set i { x with pi := x.pi - 1 } } : PS).sl[i]? = some { x with pi := x.pi - 1 } := by simp [hi]
    by_cases h1 : x.pi - 1 = 0
    · by_cases h2 : x.kd = 1
      · have hl : x.less = { x with pi := x.pi - 1 } := by unfold PSl.less; rw [if_neg (by simp [h2])]
        have b1 : (x.pi - 1 == 0) = true := by simp [h1]
        have b2 : (x.kd != 1) = false := by simp [h2]
        rw [hl] at H
        have HS := Lib.hid hset
        clear h1 h2 hset
        go_enter Tryz.func31, Tryz.ntmps31
        go_wp2_with (go_at_call 83; (refine HPn.out _ ?_; intro w2 k2; obtain ⟨_, c1, _, c3, _, _, _⟩ := (HK.out.off0 k2).pl.cells HX.out; have f3 := (HK.out.off0 k2).pl.free))
        obtain ⟨z1, z2⟩ := (HK.out.off0 k2).put HX.out (x' := { x with pi := x.pi - 1 }) (j := 3) (v := .int .i64 (x.pi - 1)) (by omega) rfl
        exact H.out _ ((Pq.of0 k2).trans z2) z1
      · have hl : x.less = PSl.e x.f := by unfold PSl.less; rw [if_pos ⟨h1, h2⟩]
        have b1 : (x.pi - 1 == 0) = true := by simp [h1]
        have b2 : (x.kd != 1) = true := by simp [h2]
        rw [hl] at H
        have HS := Lib.hid hset
        clear h1 h2 hset
        go_enter Tryz.func31, Tryz.ntmps31
        go_upto_region 7 with (go_at_call 83; (refine HPn.out _ ?_; intro w2 k2; obtain ⟨c0, c1, _, c3, _, _, _⟩ := (HK.out.off0 k2).pl.cells HX.out; have f3 := (HK.out.off0 k2).pl.free))
        refine gen_worldK (fun W => Hid (Pq B w W ∧ KPl W B ka k pa { p with sl := p.sl.set i { x with pi := x.pi - 1 } })) (by
          obtain ⟨z1, z2⟩ := (HK.out.off0 k2).put HX.out (x' := { x with pi := x.pi - 1 }) (j := 3) (v := .int .i64 (x.pi - 1)) (by omega) rfl
          exact Lib.hid ⟨(Pq.of0 k2).trans z2, z1⟩) ?_
        intro W hW
        clear k2 c0 c1 c3 f3 HPn HK
        obtain ⟨y, hy⟩ : ∃ y : PSl, { x with pi := x.pi - 1 } = y := ⟨_, rfl⟩
        have b1' : (y.pi == 0) = true := by rw [← hy]; exact b1
        have b2' : (y.kd != 1) = true := by rw [← hy]; exact b2
        have b3 : y.f = x.f := by rw [← hy]
        rw [hy] at HS hW
        clear hy b1 b2
        obtain ⟨c0, c1, _, c3, _, _, _⟩ := hW.out.2.pl.cells HS.out
        have f3 := hW.out.2.pl.free
        obtain ⟨y1, y2⟩ := hW.out.2.clr7 HS.out
        simp only [List.set_set] at y1
        rw [b3] at y1 y2
        have Y := Lib.hid (And.intro y1 y2)
        clear y1 y2
        rw [b3] at c0
        go_wp2
        exact H.out _ (hW.out.1.trans Y.out.2) Y.out.1
    · have hl : x.less = { x with pi := x.pi - 1 } := by unfold PSl.less; rw [if_neg (by omega)]
      have b1 : (x.pi - 1 == 0) = false := by simp [h1]
      rw [hl] at H
      have HS := Lib.hid hset
      clear h1 hset
      go_enter Tryz.func31, Tryz.ntmps31
      go_wp2_with (go_at_call 83; (refine HPn.out _ ?_; intro w2 k2; obtain ⟨_, c1, _, c3, _, _, _⟩ := (HK.out.off0 k2).pl.cells HX.out; have f3 := (HK.out.off0 k2).pl.free))
      obtain ⟨z1, z2⟩ := (HK.out.off0 k2).put HX.out (x' := { x with pi := x.pi - 1 }) (j := 3) (v := .int .i64 (x.pi - 1)) (by omega) rfl
      exact H.out _ ((Pq.of0 k2).trans z2) z1
end
/-! ### A pool takes a slot; it writes to a slot's frame. -/
section
open Go.RowKit Go.Shelf
set_option linter.unusedVariables false
set_option linter.unusedSimpArgs false
set_option maxRecDepth 100000
def maB (k : KS) (x : PSl) : Bool := x.pi == 0 && tHolds k.fs x.f == 0
def tkB (k : KS) (x : PSl) : Bool := x.kd == 0 && maB k x
/-- So many steps of the hand. -/
def pRnd (k : KS) : Nat → PS → Option Nat × PS
  | 0, p => (none, p)
  | n + 1, p => match p.sl[p.hand]? with
    | none => (none, p)
    | some x => if maB k x && !x.ma then (some p.hand, { p with sl := p.sl.set p.hand (PSl.e x.f), hand := (p.hand + 1) % p.sl.length })
      else pRnd k n { p with sl := p.sl.set p.hand { x with ma := false }, hand := (p.hand + 1) % p.sl.length }
def pTake (k : KS) (p : PS) : Option Nat × PS := match p.sl.findIdx? (tkB k) with | some i => (some i, p) | none => pRnd k (2 * p.sl.length) p
def slotA (l : Nat) (o : Option Nat) : Option Addr := o.map (fun i => ⟨l, i * 7, none⟩)
section
variable {R : Ending → World → Prop} {w w' : World} {B m : Nat} {ka : KA} {k : KS} {pa : PA} {p : PS}
set_option maxHeartbeats 2000000 in
theorem ptake_any (h0 : KPl w B ka k pa p) (h : ∀ w', Pq B w w' → KPl w' B ka k pa (pTake k p).2 → R (.returned (.pointer (slotA pa.l (pTake k p).1))) w') : Calls Tryz.prog 77 #[.pointer (some ⟨pa.g, 0, none⟩)] w R := by
  have HK := Lib.hid h0
  have he : ∀ (args : Array Value) (w : World), (callFunc 130 args).run Tryz.prog w = .ok (.enter 130 args) w := enters_of Tryz.func130 (by kernel_rfl) rfl
  have HF : Hid (∀ (R : Ending → World → Prop) (w1 : World) (cb : Nat), Kp [] w w1 → w1.cell? ⟨cb, 0, none⟩ = some (.pointer (some ⟨pa.g, 0, none⟩)) → (∀ w', Kp [] w1 w' → R (.returned (.pointer (pfind p pa.l (tkB k)))) w') → Calls Tryz.prog 75 #[.pointer (some ⟨pa.g, 0, none⟩), .func (.func 130) #[] #[.pointer (some ⟨cb, 0, none⟩)]] w1 R) := Lib.hid (fun R w1 cb k1 hc h => by
    refine pfind_any (h0.off0 k1) 130 cb (tkB k) he (fun R i x w2 k2 hx h => ?_) h
    refine ptk1_any (h0.off0 (k1.trans k2)) ?_ hx h
    rw [k2.cell (World.block_lt_of_cell? w1 _ hc) (by simp)]; exact hc)
  have hn0 := h0.pl.hn
  have hh0 := h0.pl.hh
  clear h0 he
  cases hf : p.sl.findIdx? (tkB k) with
  | some i =>
    have e0 : pTake k p = (some i, p) := by unfold pTake; rw [hf]
    rw [e0] at h
    have H := Lib.hid h
    have e : pfind p pa.l (tkB k) = some ⟨pa.l, i * 7, none⟩ := by unfold pfind; rw [hf]
    rw [e] at HF
    clear h hf
    go_enter Tryz.func77, Tryz.ntmps77
    go_wp2_with (go_at_call 75; (refine HF.out _ _ _ ((Kp.refl _ _).alloc _) ((Bk.new' _ _ _).cell 0) ?_; intro w2 k2))
    exact H.out _ (Pq.of0 (((Kp.refl _ _).alloc _).trans k2)) (HK.out.off0 (((Kp.refl _ _).alloc _).trans k2))
  | none =>
    have e0 : pTake k p = pRnd k (2 * p.sl.length) p := by unfold pTake; rw [hf]
    obtain ⟨Z, hZ⟩ : ∃ Z, pRnd k (2 * p.sl.length) p = Z := ⟨_, rfl⟩
    rw [e0, hZ] at h
    have H := Lib.hid h
    have e : pfind p pa.l (tkB k) = none := by unfold pfind; rw [hf]
    rw [e] at HF
    obtain ⟨n, hN⟩ : ∃ n, p.sl.length = n := ⟨_, rfl⟩
    rw [hN] at hZ hn0 hh0
    have HZ := Lib.hid hZ
    clear hZ
    have HN := Lib.hid hN
    clear h hf e0
    go_enter Tryz.func77, Tryz.ntmps77
    go_upto_region 4 with (go_at_call 75; (refine HF.out _ _ _ ((Kp.refl _ _).alloc _) ((Bk.new' _ _ _).cell 0) ?_; intro w2 k2))
    refine gen_worldK (fun W => ∃ cb, w.heap.size = cb ∧ Kp [] w W ∧ Bk W cb 78 [.pointer (some ⟨pa.g, 0, none⟩)]) ⟨_, rfl, ((Kp.refl _ _).alloc _).trans k2, ((Bk.new' _ _ _).cast rfl).kp k2 (by simp)⟩ ?_
    rintro W ⟨cb, hcb, kW, bC⟩
    rw [hcb]
    have q0 := bC.cell 0
    have hK0 := Lib.hid (HK.out.off0 kW)
    have g1 : W.cell? ⟨pa.g, 1, none⟩ = some (.slice (some ⟨pa.l, 0, none⟩) p.sl.length pa.lc) := hK0.out.pl.g.cell 1
    rw [HN.out] at g1
    simp only [List.getElem?_cons_zero] at q0
    have hK1 := Lib.hid (And.intro hK0.out (And.intro bC (Pq.of0 (B := B) kW)))
    clear hcb kW bC k2 HF HK hK0
    go_wp2
    go_loopw [4, 17] (fun _ iv wr => ∃ (j : Nat) (p1 : PS), j ≤ 2 * n ∧ iv = .int .i64 j ∧ Hid (KPl wr B ka k pa p1 ∧ Bk wr cb 78 [.pointer (some ⟨pa.g, 0, none⟩)] ∧ Pq B w wr) ∧ Hid (p1.sl.length = n ∧ Z = pRnd k (2 * n - j) p1)) (fun _ iv _ => 2 * n - (intOf iv).toNat)
    case atStart => exact ⟨0, p, Nat.zero_le _, rfl, hK1, Lib.hid ⟨HN.out, HZ.out.symm⟩⟩
    case round =>
      obtain ⟨j, p1, hj, rfl, hw, hp⟩ := hrel
      by_cases hlt : j < 2 * n
      · obtain ⟨x, hx⟩ : ∃ x, p1.sl[p1.hand]? = some x := ⟨_, List.getElem?_eq_getElem hw.out.1.pl.hh⟩
        have HX := Lib.hid hx
        have q0' := hw.out.2.1.cell 0
        simp only [List.getElem?_cons_zero] at q0'
        have g1' : wr.cell? ⟨pa.g, 1, none⟩ = some (.slice (some ⟨pa.l, 0, none⟩) p1.sl.length pa.lc) := hw.out.1.pl.g.cell 1
        rw [hp.out.1] at g1'
        have g2' : wr.cell? ⟨pa.g, 2, none⟩ = some (.int .i64 p1.hand) := hw.out.1.pl.g.cell 2
        have hhl : p1.hand < n := by rw [← hp.out.1]; exact hw.out.1.pl.hh
        clear hx q0 g1
        have hn00 : ((n : Int) == 0) = false := by simp; omega
        go_upto_region 6 with (fail)
        refine wp_region_kp (by kernel_rfl) (by kernel_rfl) ?_
        repeat (go_big_quiet_step (fail))
        intro w3 k3
        have hw3 := Lib.hid (And.intro (hw.out.1.off0 k3) (And.intro (hw.out.2.1.kp k3 (by simp)) (hw.out.2.2.trans (Pq.of0 k3))))
        have q3 := hw3.out.2.1.cell 0
        simp only [List.getElem?_cons_zero] at q3
        have g31 : w3.cell? ⟨pa.g, 1, none⟩ = some (.slice (some ⟨pa.l, 0, none⟩) p1.sl.length pa.lc) := hw3.out.1.pl.g.cell 1
        rw [hp.out.1] at g31
        have g32 : w3.cell? ⟨pa.g, 2, none⟩ = some (.int .i64 p1.hand) := hw3.out.1.pl.g.cell 2
        have f32 := hw3.out.1.pl.g.frozen 2
        clear k3 hw g1' g2' q0'
        go_upto_region 7 with (fail)
        go_region
        go_upto_region 8 with (fail)
        refine gen_worldK (fun W => Hid (KPl W B ka k pa { p1 with hand := (p1.hand + 1) % n } ∧ Bk W cb 78 [.pointer (some ⟨pa.g, 0, none⟩)] ∧ Pq B w W)) (by
          have hv : (p1.hand : Int) + 1 = ((p1.hand + 1 : Nat) : Int) := by omega
          have hlen := hp.out.1
          rw [hv, ← Int.natCast_emod]
          obtain ⟨z1, z2⟩ := hw3.out.1.putG 2 (.int .i64 (((p1.hand + 1) % n : Nat) : Int)) (p' := { p1 with hand := (p1.hand + 1) % n }) rfl (by rw [hlen]; exact Nat.mod_lt _ (by omega)) rfl
          have hne : cb ≠ pa.g := hw3.out.2.1.ne_ hw3.out.1.pl.g (by decide)
          exact Lib.hid ⟨z1.off0 (Kp.refl [] _).drew, (hw3.out.2.1.far (p := ⟨pa.g, 2, none⟩) hne _).drew, (hw3.out.2.2.trans z2).trans (Pq.of0 (Kp.refl [] _).drew)⟩) ?_
        intro W4 hw4
        clear q3 g31 g32 f32 hw3
        have q4 := hw4.out.2.1.cell 0
        simp only [List.getElem?_cons_zero] at q4
        have HX4 : Hid (({ p1 with hand := (p1.hand + 1) % n } : PS).sl[p1.hand]? = some x) := HX
        obtain ⟨c0, c1, c2, c3, c4, c5, c6⟩ := hw4.out.1.pl.cells HX4.out
        have f4 := hw4.out.1.pl.free
        have hsuc : 2 * n - j = (2 * n - (j + 1)) + 1 := by omega
        have hR : ∀ (W : World), KPl W B ka k pa { p1 with hand := (p1.hand + 1) % n } → KPl W B ka k pa { p1 with hand := (p1.hand + 1) % n } := fun _ h => h
        have HMay : Hid (∀ (R : Ending → World → Prop), (∀ w', Kp [] W4 w' → R (.returned (.bool (maB k x))) w') → Calls Tryz.prog 131 #[.pointer (some ⟨pa.g, 0, none⟩), .pointer (some ⟨pa.l, p1.hand * 7, none⟩)] W4 R) := Lib.hid (fun R h => pmay_any hw4.out.1 HX4.out h)
        have hstep := hp.out.2
        rw [hsuc] at hstep
        unfold pRnd at hstep
        rw [HX.out] at hstep
        simp only [hp.out.1] at hstep
        have HST := Lib.hid hstep
        clear hstep hR
        by_cases hma : maB k x = true
        · rw [hma] at HMay
          cases hmk : x.ma with
          | false =>
            have hst := HST.out
            rw [hma, hmk] at hst
            simp only [Bool.not_false, Bool.and_self, if_true] at hst
            rw [hst] at H
            rw [hmk] at c6
            clear hst HST
            go_upto_region 9 with (go_at_call 131; (refine HMay.out _ ?_; intro w5 k5; have hw5 := Lib.hid (And.intro (hw4.out.1.off0 k5) (hw4.out.2.2.trans (Pq.of0 k5))); obtain ⟨d0, d1, d2, d3, d4, d5, d6⟩ := hw5.out.1.pl.cells HX4.out; rw [hmk] at d6; have f5 := hw5.out.1.pl.free))
            obtain ⟨y1, y2⟩ := hw5.out.1.clr7 HX4.out
            have Y := Lib.hid (And.intro y1 y2)
            clear y1 y2
            go_wp2
            exact H.out _ (hw5.out.2.trans Y.out.2) Y.out.1
          | true =>
            have hst := HST.out
            rw [hma, hmk] at hst
            simp only [Bool.not_true, Bool.and_false, Bool.false_eq_true, if_false] at hst
            rw [hmk] at c6
            have HST2 := Lib.hid hst
            clear hst HST
            go_wp2_with (go_at_call 131; (refine HMay.out _ ?_; intro w5 k5; have hw5 := Lib.hid (And.intro (hw4.out.1.off0 k5) (And.intro (hw4.out.2.1.kp k5 (by simp)) (hw4.out.2.2.trans (Pq.of0 k5)))); obtain ⟨d0, d1, d2, d3, d4, d5, d6⟩ := hw5.out.1.pl.cells HX4.out; rw [hmk] at d6; have f5 := hw5.out.1.pl.free))
            obtain ⟨z1, z2⟩ := hw5.out.1.put HX4.out (x' := { x with ma := false }) (j := 6) (v := .bool false) (by omega) rfl
            have hne : cb ≠ pa.l := by obtain ⟨tl, hl⟩ := hw5.out.1.pl.l; exact hw5.out.2.1.ne_ hl (by decide)
            exact ⟨⟨j + 1, _, by omega, by go_num, Lib.hid ⟨z1, hw5.out.2.1.far (p := ⟨pa.l, p1.hand * 7 + 6, none⟩) hne _, hw5.out.2.2.trans z2⟩, Lib.hid ⟨by simp [hp.out.1], HST2.out⟩⟩, by simp [intOf]; omega⟩
        · have hma2 : maB k x = false := by simpa using hma
          rw [hma2] at HMay
          have hst := HST.out
          rw [hma2] at hst
          simp only [Bool.false_and, Bool.false_eq_true, if_false] at hst
          have HST2 := Lib.hid hst
          clear hst HST
          go_wp2_with (go_at_call 131; (refine HMay.out _ ?_; intro w5 k5; have hw5 := Lib.hid (And.intro (hw4.out.1.off0 k5) (And.intro (hw4.out.2.1.kp k5 (by simp)) (hw4.out.2.2.trans (Pq.of0 k5)))); obtain ⟨d0, d1, d2, d3, d4, d5, d6⟩ := hw5.out.1.pl.cells HX4.out; have f5 := hw5.out.1.pl.free))
          obtain ⟨z1, z2⟩ := hw5.out.1.put HX4.out (x' := { x with ma := false }) (j := 6) (v := .bool false) (by omega) rfl
          have hne : cb ≠ pa.l := by obtain ⟨tl, hl⟩ := hw5.out.1.pl.l; exact hw5.out.2.1.ne_ hl (by decide)
          exact ⟨⟨j + 1, _, by omega, by go_num, Lib.hid ⟨z1, hw5.out.2.1.far (p := ⟨pa.l, p1.hand * 7 + 6, none⟩) hne _, hw5.out.2.2.trans z2⟩, Lib.hid ⟨by simp [hp.out.1], HST2.out⟩⟩, by simp [intOf]; omega⟩
      · obtain rfl : j = 2 * n := by omega
        have hq := hp.out.2
        rw [Nat.sub_self] at hq
        have hq' : Z = (none, p1) := hq
        rw [hq'] at H
        clear hq hq'
        go_wp2
        exact H.out _ hw.out.2.2 hw.out.1
end
end
end
/-! ### The document's pool in memory. -/
section
open Go.RowKit Go.Shelf
set_option linter.unusedVariables false
set_option linter.unusedSimpArgs false
set_option maxRecDepth 100000
/-- A slot and the pair it was told. -/
structure DSl where
  x : PSl
  ev : Int
  od : Int
def DSl.vals (d : DSl) : List Value := [.int .i64 d.x.f, .int .i64 d.x.kd, .int .i64 d.x.bl, .int .i64 d.x.pi, .int .i64 d.x.n, .int .i64 d.ev, .int .i64 d.od, .bool d.x.ma]
theorem dsl_len (d : DSl) : d.vals.length = 8 := rfl
structure DP where
  sl : List DSl
  hand : Nat
  fills : Int
def DP.ps (D : DP) : PS := ⟨D.sl.map DSl.x, D.hand, D.fills⟩
structure QPA where
  g : Nat
  l : Nat
  lc : Nat
/-- The document's pool in memory, of the kernel at kg. -/
structure Ql (w : World) (B kg : Nat) (qa : QPA) (D : DP) : Prop where
  g : Bk w qa.g 172 [.pointer (some ⟨kg, 0, none⟩), .slice (some ⟨qa.l, 0, none⟩) D.sl.length qa.lc, .int .i64 D.hand, .int .i64 D.fills]
  l : ∃ tl, Bk w qa.l 174 (D.sl.flatMap DSl.vals ++ tl)
  hh : D.hand < D.sl.length
  hn : D.sl.length ≤ 256
  gB : B ≤ qa.g
  lB : B ≤ qa.l
section
variable {w w' : World} {B kg : Nat} {qa : QPA} {D : DP} {S : List Nat}
theorem Ql.off (h : Ql w B kg qa D) (hk : Kp S w w') (h1 : Off w S 172) (h2 : Off w S 174) : Ql w' B kg qa D := by
  obtain ⟨tl, hl⟩ := h.l
  exact ⟨h.g.off hk h1, ⟨tl, hl.off hk h2⟩, h.hh, h.hn, h.gB, h.lB⟩
theorem Ql.kp (h : Ql w B kg qa D) (hk : Kp [] w w') : Ql w' B kg qa D := h.off hk (Off.nil _ _) (Off.nil _ _)
theorem Ql.at_ (h : Ql w B kg qa D) {i : Nat} {x : DSl} (hx : D.sl[i]? = some x) {j : Nat} {v : Value} (hj : x.vals[j]? = some v) : w.cell? ⟨qa.l, i * 8 + j, none⟩ = some v := by
  obtain ⟨tl, hl⟩ := h.l
  have hj7 : j < 8 := by rw [← dsl_len x]; exact (List.getElem?_eq_some_iff.1 hj).1
  rw [hl.cell]
  exact app_get (by rw [flat_get dsl_len hx hj7]; exact hj)
theorem Ql.cells (h : Ql w B kg qa D) {i : Nat} {d : DSl} (hx : D.sl[i]? = some d) :
    w.cell? ⟨qa.l, i * 8, none⟩ = some (.int .i64 d.x.f) ∧ w.cell? ⟨qa.l, i * 8 + 1, none⟩ = some (.int .i64 d.x.kd) ∧ w.cell? ⟨qa.l, i * 8 + 2, none⟩ = some (.int .i64 d.x.bl) ∧ w.cell? ⟨qa.l, i * 8 + 3, none⟩ = some (.int .i64 d.x.pi) ∧
      w.cell? ⟨qa.l, i * 8 + 4, none⟩ = some (.int .i64 d.x.n) ∧ w.cell? ⟨qa.l, i * 8 + 5, none⟩ = some (.int .i64 d.ev) ∧ w.cell? ⟨qa.l, i * 8 + 6, none⟩ = some (.int .i64 d.od) ∧ w.cell? ⟨qa.l, i * 8 + 7, none⟩ = some (.bool d.x.ma) :=
  ⟨h.at_ hx (j := 0) rfl, h.at_ hx (j := 1) rfl, h.at_ hx (j := 2) rfl, h.at_ hx (j := 3) rfl, h.at_ hx (j := 4) rfl, h.at_ hx (j := 5) rfl, h.at_ hx (j := 6) rfl, h.at_ hx (j := 7) rfl⟩
theorem Ql.free (h : Ql w B kg qa D) (i : Nat) : w.frozen? ⟨qa.l, i, none⟩ = false := by obtain ⟨tl, hl⟩ := h.l; exact hl.frozen i
theorem Ql.put (h : Ql w B kg qa D) {i : Nat} {x x' : DSl} (hx : D.sl[i]? = some x) {j : Nat} {v : Value} (hj : j < 8) (hv : x'.vals = x.vals.set j v) :
    Ql (w.setCell ⟨qa.l, i * 8 + j, none⟩ v) B kg qa { D with sl := D.sl.set i x' } := by
  obtain ⟨tl, hl⟩ := h.l
  have hne : qa.g ≠ qa.l := h.g.ne_ hl (by decide)
  have hi := (List.getElem?_eq_some_iff.1 hx).1
  refine ⟨?_, ⟨tl, ?_⟩, by simpa using h.hh, by simpa using h.hn, h.gB, h.lB⟩
  · show Bk _ qa.g _ [_, .slice _ (D.sl.set i x').length _, _, _]
    rw [List.length_set]; exact h.g.far (p := ⟨qa.l, i * 8 + j, none⟩) hne v
  · refine (hl.set_ _ v).cast ?_
    rw [set_app (by rw [flat_len dsl_len]; have := Nat.mul_le_mul_right 8 (Nat.succ_le_of_lt hi); omega), flat_set dsl_len hx hj hv]
theorem Ql.putG (h : Ql w B kg qa D) (j : Nat) (v : Value) {D' : DP} (hp : D'.sl = D.sl) (hh : D'.hand < D.sl.length) (hv : ([.pointer (some ⟨kg, 0, none⟩), .slice (some ⟨qa.l, 0, none⟩) D.sl.length qa.lc, .int .i64 D.hand, .int .i64 D.fills] : List Value).set j v = [.pointer (some ⟨kg, 0, none⟩), .slice (some ⟨qa.l, 0, none⟩) D'.sl.length qa.lc, .int .i64 D'.hand, .int .i64 D'.fills]) :
    Ql (w.setCell ⟨qa.g, j, none⟩ v) B kg qa D' := by
  obtain ⟨tl, hl⟩ := h.l
  have hne : qa.g ≠ qa.l := h.g.ne_ hl (by decide)
  exact ⟨(h.g.set_ j v).cast hv, ⟨tl, by rw [hp]; exact hl.far (p := ⟨qa.g, j, none⟩) hne.symm v⟩, by rw [hp]; exact hh, by rw [hp]; exact h.hn, h.gB, h.lB⟩
end
/-- The document's kernel and its pool. -/
structure QKP (w0 : World) (B : Nat) (w : World) (q : QA) (k : KS) (qa : QPA) (D : DP) : Prop where
  qn : Qn w0 B w q k
  ql : Ql w B q.g qa D
  f : ∀ d ∈ D.sl, 0 ≤ d.x.f ∧ d.x.f < k.fs.length
section
variable {R : Ending → World → Prop} {w0 w w' : World} {B m : Nat} {q : QA} {k : KS} {qa : QPA} {D : DP}
theorem QKP.kp (h : QKP w0 B w q k qa D) (hk : Kp [] w w') : QKP w0 B w' q k qa D := ⟨h.qn.kp hk, h.ql.kp hk, h.f⟩
/-- All cells that a look at a slot reads. -/
theorem QKP.look (h : QKP w0 B w q k qa D) {i : Nat} {d : DSl} (hx : D.sl[i]? = some d) : ∃ (fi : Nat) (cc : Nat) (y : Fr), d.x.f = (fi : Int) ∧ fi < k.fs.length ∧ k.fs[fi]? = some y ∧ w.cell? ⟨q.g, 0, none⟩ = some (.pointer (some ⟨q.bM, 0, none⟩)) ∧ w.cell? ⟨q.bM, 1, none⟩ = some (.slice (some ⟨q.bH, 0, none⟩) k.fs.length cc) ∧ w.cell? ⟨q.bH, fi, none⟩ = some (.int .i64 y.ho) ∧ tHolds k.fs d.x.f = y.ho := by
  obtain ⟨h0, h1⟩ := h.f d (List.mem_of_getElem? hx)
  obtain ⟨fi, hfi⟩ : ∃ n : Nat, d.x.f = (n : Int) := ⟨d.x.f.toNat, by omega⟩
  have hlt : fi < k.fs.length := by omega
  obtain ⟨c0, c1, c2, ht⟩ := h.qn.t.t
  refine ⟨fi, c1, k.fs[fi], hfi, hlt, List.getElem?_eq_getElem hlt, h.qn.g.cell 0, ht.cell 1, h.qn.t.h.cell (by simp [hoV]; exact ⟨k.fs[fi], List.getElem?_eq_getElem hlt, rfl⟩), ?_⟩
  rw [hfi]
  unfold tHolds fat
  simp [List.getElem?_eq_getElem hlt]
set_option maxHeartbeats 1000000 in
theorem qmay_any (h0 : QKP w0 B w q k qa D) {i : Nat} {d : DSl} (hx : D.sl[i]? = some d) (h : ∀ w', Kp [] w w' → R (.returned (.bool (d.x.pi == 0 && tHolds k.fs d.x.f == 0))) w') :
    Calls Tryz.prog 132 #[.pointer (some ⟨qa.g, 0, none⟩), .int .i64 i] w R := by
  have H := Lib.hid h
  obtain ⟨c0, c1, c2, c3, c4, c5, c6, c7⟩ := h0.ql.cells hx
  have g1 : w.cell? ⟨qa.g, 1, none⟩ = some (.slice (some ⟨qa.l, 0, none⟩) D.sl.length qa.lc) := h0.ql.g.cell 1
  have g0 : w.cell? ⟨qa.g, 0, none⟩ = some (.pointer (some ⟨q.g, 0, none⟩)) := h0.ql.g.cell 0
  obtain ⟨fi, cc, y, hf, hlt, hy, k0, k1, k2, ht⟩ := h0.look hx
  have hi := (List.getElem?_eq_some_iff.1 hx).1
  rw [ht] at H
  rw [hf] at c0
  clear h h0 c1 c2 c4 c5 c6 c7 hx hf hy ht
  cases hp : (d.x.pi == 0) with
  | false =>
    go_enter Tryz.func132, Tryz.ntmps132
    go_wp2
    refine wp_region_kp (by kernel_rfl) (by kernel_rfl) ?_
    repeat (go_big_quiet_step (fail))
    refine wpQuiet_nil ?_
    intro w' k'
    go_wp2
    exact rcast (H.out _ k') (by rw [hp]; rfl)
  | true =>
    go_enter Tryz.func132, Tryz.ntmps132
    go_wp2
    refine wp_region_kp (by kernel_rfl) (by kernel_rfl) ?_
    repeat (go_big_quiet_step (fail))
    refine wpQuiet_nil ?_
    intro w' k'
    go_wp2
    exact rcast (H.out _ k') (by rw [hp]; rfl)
end
end
/-! ### The document's pool: who has pins. -/
section
open Go.RowKit Go.Shelf
set_option linter.unusedVariables false
set_option linter.unusedSimpArgs false
set_option maxRecDepth 100000
theorem fidx_some {α : Type} {l : List α} {pr : α → Bool} {i : Nat} {x : α} (hx : l[i]? = some x) (hp : pr x = true) (hlt : ∀ j y, j < i → l[j]? = some y → pr y = false) : l.findIdx? pr = some i := by
  obtain ⟨hi, he⟩ := List.getElem?_eq_some_iff.1 hx
  refine List.findIdx?_eq_some_iff_getElem.2 ⟨hi, by rw [he]; exact hp, fun j hj => ?_⟩
  have := hlt j l[j] hj (List.getElem?_eq_getElem (by omega))
  simp [this]
theorem fidx_none {α : Type} {l : List α} {pr : α → Bool} (h : ∀ (j : Nat) (y : α), l[j]? = some y → pr y = false) : l.findIdx? pr = none := by
  rw [List.findIdx?_eq_none_iff]
  intro x hx
  obtain ⟨j, hj⟩ := List.mem_iff_getElem?.1 hx
  exact h j x hj
def idxV : Option Nat → Int
  | none => -1
  | some i => i
section
variable {R : Ending → World → Prop} {w0 w w' : World} {B m : Nat} {q : QA} {k : KS} {qa : QPA} {D : DP}
set_option maxHeartbeats 2000000 in
theorem qpin_any (h0 : Ql w B q.g qa D) (f : Int) (h : ∀ w', Kp [] w w' → R (.returned (.int .i64 (idxV (D.sl.findIdx? (fun d => pinB f d.x))))) w') :
    Calls Tryz.prog 84 #[.pointer (some ⟨qa.g, 0, none⟩), .int .i64 f] w R := by
  have H := Lib.hid h
  have HK := Lib.hid h0
  obtain ⟨n, hN⟩ : ∃ n, D.sl.length = n := ⟨_, rfl⟩
  have hn0 := h0.hn
  rw [hN] at hn0
  have HN := Lib.hid hN
  have g1 : w.cell? ⟨qa.g, 1, none⟩ = some (.slice (some ⟨qa.l, 0, none⟩) n qa.lc) := by have := h0.g.cell 1; simpa [hN] using this
  have G1 := Lib.hid g1
  clear h h0 hN
  go_enter Tryz.func84, Tryz.ntmps84
  go_wp2
  go_loopw [5] (fun iv wr => ∃ i : Nat, i ≤ n ∧ iv = .int .i64 i ∧ Hid (Kp [] w wr) ∧ Hid (∀ j y, j < i → D.sl[j]? = some y → pinB f y.x = false)) (fun iv _ => n - (intOf iv).toNat)
  case atStart => exact ⟨0, Nat.zero_le _, rfl, Lib.hid (Kp.refl _ _), Lib.hid (by omega)⟩
  case round =>
    obtain ⟨i, hi, rfl, kr, hno⟩ := hrel
    clear g1
    have g1 : wr.cell? ⟨qa.g, 1, none⟩ = some (.slice (some ⟨qa.l, 0, none⟩) n qa.lc) := by have := (HK.out.kp kr.out).g.cell 1; rw [HN.out] at this; exact this
    by_cases hlt : i < n
    · obtain ⟨d, hx, hm⟩ := get_lt (l := D.sl) (k := i) (by have := HN.out; omega)
      obtain ⟨c0, c1, c2, c3, c4, c5, c6, c7⟩ := (HK.out.kp kr.out).cells hx
      have HX := Lib.hid hx
      clear c1 c2 c4 c5 c6 c7 hx hm
      by_cases hf : (d.x.f == f) = true
      · by_cases hp : 0 < d.x.pi
        · have hp' : decide (0 < d.x.pi) = true := by simpa using hp
          have e : D.sl.findIdx? (fun d => pinB f d.x) = some i := fidx_some HX.out (by unfold pinB; rw [hf]; simp [hp]) hno.out
          rw [e] at H
          have HH := H.out _ kr.out
          clear H e hp
          go_wp2
          exact HH
        · have hp' : decide (0 < d.x.pi) = false := by simpa using hp
          have HS : Hid (∀ j y, j < i + 1 → D.sl[j]? = some y → pinB f y.x = false) := Lib.hid (fun j y hj hy => by
            by_cases hji : j < i
            · exact hno.out j y hji hy
            · obtain rfl : j = i := by omega
              rw [HX.out] at hy; injection hy with hy; subst hy
              unfold pinB; simp; intro _; omega)
          clear H hp
          go_wp2
          exact ⟨⟨i + 1, by omega, by go_num, kr, HS⟩, by simp [intOf]; omega⟩
      · have hf' : (d.x.f == f) = false := by simpa using hf
        have HS : Hid (∀ j y, j < i + 1 → D.sl[j]? = some y → pinB f y.x = false) := Lib.hid (fun j y hj hy => by
          by_cases hji : j < i
          · exact hno.out j y hji hy
          · obtain rfl : j = i := by omega
            rw [HX.out] at hy; injection hy with hy; subst hy
            unfold pinB; rw [hf']; rfl)
        clear H hf
        go_wp2
        exact ⟨⟨i + 1, by omega, by go_num, kr, HS⟩, by simp [intOf]; omega⟩
    · obtain rfl : i = n := by omega
      have e : D.sl.findIdx? (fun d => pinB f d.x) = none := fidx_none (fun j y hy => hno.out j y (by have := (List.getElem?_eq_some_iff.1 hy).1; have := HN.out; omega) hy)
      rw [e] at H
      have HH := H.out _ kr.out
      clear H e
      go_wp2
      exact HH
end
end
end Go.Proofs.YtedblbpmlbjnhaaGreat
