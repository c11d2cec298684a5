/- PoolParts walked. -/
import Derived.Test.YthlmfjfkkndboaaPq1
import Derived.Deep.RegionHeldLaw
namespace Go.Proofs.Ythlmfjfkkndboaa
open Go.RowKit Go.Shelf
set_option linter.unusedVariables false
set_option linter.unusedSimpArgs false
set_option maxRecDepth 100000
/-- What taking may do to a slot: its mark turns, or it is emptied. -/
def SlQ (x x' : PSl) : Prop := (∃ b, x' = { x with ma := b }) ∨ (x.pi = 0 ∧ ∃ b, x' = { PSl.e x.f with ma := b })
theorem SlQ.refl (x : PSl) : SlQ x x := .inl ⟨x.ma, rfl⟩
theorem SlQ.trans {x y z : PSl} (h : SlQ x y) (k : SlQ y z) : SlQ x z := by
  rcases h with ⟨b, rfl⟩ | ⟨h0, b, rfl⟩
  · rcases k with ⟨c, rfl⟩ | ⟨k0, c, rfl⟩
    · exact .inl ⟨c, rfl⟩
    · exact .inr ⟨k0, c, rfl⟩
  · rcases k with ⟨c, rfl⟩ | ⟨k0, c, rfl⟩
    · exact .inr ⟨h0, c, rfl⟩
    · exact .inr ⟨h0, c, rfl⟩
structure TkQ (p p' : PS) (o : Option Nat) : Prop where
  len : p'.sl.length = p.sl.length
  at_ : ∀ (j : Nat) (x' : PSl), p'.sl[j]? = some x' → ∃ x : PSl, p.sl[j]? = some x ∧ SlQ x x'
theorem TkQ.refl (p : PS) (o : Option Nat) : TkQ p p o := ⟨rfl, fun j x' h => ⟨x', h, SlQ.refl _⟩⟩
theorem setq_rel {p : PS} {j : Nat} {x y : PSl} (hx : p.sl[j]? = some x) (hr : SlQ x y) (i : Nat) (x' : PSl) (h : (p.sl.set j y)[i]? = some x') : ∃ z, p.sl[i]? = some z ∧ SlQ z x' := by
  by_cases hij : j = i
  · subst hij
    rw [List.getElem?_set_self (List.getElem?_eq_some_iff.1 hx).1] at h
    injection h with h; subst h
    exact ⟨x, hx, hr⟩
  · rw [List.getElem?_set_ne hij] at h
    exact ⟨x', h, SlQ.refl _⟩
theorem maB_pi' {k : KS} {x : PSl} (h : maB k x = true) : x.pi = 0 := by unfold maB at h; simp at h; exact h.1
theorem pRnd_q (k : KS) : ∀ (n : Nat) (p : PS), TkQ p (pRnd k n p).2 (pRnd k n p).1
  | 0, p => TkQ.refl p _
  | n + 1, p => by
    unfold pRnd
    cases hx : p.sl[p.hand]? with
    | none => exact TkQ.refl p _
    | some x =>
      simp only
      split
      · rename_i hc
        have hm : maB k x = true := by
          cases h : maB k x with
          | true => rfl
          | false => rw [h] at hc; simp at hc
        have hpi := maB_pi' hm
        exact ⟨by simp, fun j x' h => setq_rel (y := PSl.e x.f) hx (.inr ⟨hpi, false, rfl⟩) j x' h⟩
      · have ih := pRnd_q k n { p with sl := p.sl.set p.hand { x with ma := false }, hand := (p.hand + 1) % p.sl.length }
        refine ⟨by rw [ih.len]; simp, fun j x' h => ?_⟩
        obtain ⟨y, hy, hr⟩ := ih.at_ j x' h
        obtain ⟨z, hz, hr2⟩ := setq_rel hx (y := { x with ma := false }) (.inl ⟨false, rfl⟩) j y hy
        exact ⟨z, hz, hr2.trans hr⟩
theorem pTake_q (k : KS) (p : PS) : TkQ p (pTake k p).2 (pTake k p).1 := by
  unfold pTake
  cases hf : p.sl.findIdx? (tkB k) with
  | none => exact pRnd_q k _ p
  | some i => exact TkQ.refl p _
theorem kcnt_mono' {k : KS} {a b : Nat} (h : k.cnt a) (hab : a ≤ b) : k.cnt b := ⟨by have := h.ln; omega, by have := h.nx; omega, by have := h.c1; omega, by have := h.c2; omega, by have := h.co; omega, by have := h.dn; omega, h.fl, fun y hy => by have := h.ho y hy; omega⟩
theorem tWrite_ok' {fs : List Fr} {i : Nat} {y : Fr} (hy : fs[i]? = some y) (ho : y.ow = 1) (hz : hoIn fs 0) {l : List UInt8} (hl : l.length ≤ 256) : (tWrite fs 1 i 0 l).2 = fs.set i { y with bs := putB y.bs 0 l } := by
  have hf : fat fs (i : Int) = some y := by unfold fat; rw [if_pos (by omega)]; simpa using hy
  have h1 : ownE fs 1 i = 0 := by unfold ownE; rw [if_pos (by rfl), hf]; simp [ho]
  have h2 : spanB 0 l.length = true := by simp [spanB]; omega
  have h3 := hoIn_at hz hf
  unfold tWrite
  rw [if_pos h1, if_neg (by simp [h2]), hf]
  simp only
  rw [if_neg (by omega)]
  simp
section
variable {m : Nat} {k k' : KS} {p p' : PS}
theorem PPI.mono (h : PPI m k p) {m' : Nat} (hm : m ≤ m') : PPI m' k p := ⟨kcnt_mono' h.c hm, h.ho, h.fr, h.sf, h.pt⟩
theorem PPI.take (h : PPI m k p) : PPI m k (pTake k p).2 := by
  have q := pTake_q k p
  refine ⟨h.c, h.ho, fun j hj => h.fr j (by rw [← q.len]; exact hj), fun j x' hx' => ?_, fun j x' hx' hp => ?_⟩
  · obtain ⟨x, hx, hr⟩ := q.at_ j x' hx'
    have := h.sf j x hx
    rcases hr with ⟨b, rfl⟩ | ⟨_, b, rfl⟩
    · exact this
    · exact this
  · obtain ⟨x, hx, hr⟩ := q.at_ j x' hx'
    rcases hr with ⟨b, rfl⟩ | ⟨_, b, rfl⟩
    · exact h.pt j x hx hp
    · exact absurd hp (by show ¬ (0 : Int) < 0; omega)
theorem PPI.head (h : PPI m k p) {l : List UInt8} {f e : Int} (hr : HeadR k p l f e p' k') : PPI m k' p' := by
  rcases hr with ⟨_, _, _, e2, e3⟩ | ⟨_, _, _, _, e2, e3⟩ | ⟨hl, i, x, g1, g2, g3, g4, g5, g6⟩
  · subst e2; subst e3; exact h
  · subst e2; subst e3; exact h.take
  · have T := h.take
    obtain ⟨q, hq⟩ : ∃ q, (pTake k p).2 = q := ⟨_, rfl⟩
    rw [hq] at T g2 g5
    have hi := (List.getElem?_eq_some_iff.1 g2).1
    have hf := T.sf i x g2
    obtain ⟨y, hy, ho, hbs⟩ := T.fr i hi
    have hw : (tWrite k.fs 1 x.f 0 l).2 = k.fs.set i { y with bs := putB y.bs 0 l } := by rw [hf]; exact tWrite_ok' hy ho T.ho hl
    have hy1 : (k.fs.set i { y with bs := putB y.bs 0 l })[i]? = some { y with bs := putB y.bs 0 l } := List.getElem?_set_self (List.getElem?_eq_some_iff.1 hy).1
    have hpb : putB y.bs 0 l = l ++ y.bs.drop l.length := by simp [putB]
    subst g5; subst g6
    refine ⟨kw_cnt T.c _ _ _ _, tWrite_ho T.ho, fun j hj => ?_, fun j z hz => ?_, fun j z hz hp => ?_⟩
    · show ∃ v, (tWrite k.fs 1 x.f 0 l).2[j]? = some v ∧ _
      rw [hw]
      by_cases hij : i = j
      · subst hij; exact ⟨_, hy1, ho, by show (putB y.bs 0 l).length = 256; rw [hpb]; simp; omega⟩
      · rw [List.getElem?_set_ne hij]; exact T.fr j (by simpa using hj)
    · by_cases hij : i = j
      · subst hij
        have : (q.sl.set i _)[i]? = some z := hz
        rw [List.getElem?_set_self hi] at this; injection this with this; subst this; exact hf
      · have : (q.sl.set i _)[j]? = some z := hz
        rw [List.getElem?_set_ne hij] at this; exact T.sf j z this
    · show 0 ≤ z.n ∧ z.n ≤ 256 ∧ ∀ v, (tWrite k.fs 1 x.f 0 l).2[j]? = some v → _
      rw [hw]
      by_cases hij : i = j
      · subst hij
        have : (q.sl.set i _)[i]? = some z := hz
        rw [List.getElem?_set_self hi] at this; injection this with this; subst this
        refine ⟨by show (0 : Int) ≤ l.length; omega, by show (l.length : Int) ≤ 256; omega, fun v hv => ?_⟩
        rw [hy1] at hv; injection hv with hv; subst hv
        have e1 : (putB y.bs 0 l).take ((l.length : Int)).toNat = l := by rw [hpb]; simp
        show (partN l l.length).1 = fl (pr ((putB y.bs 0 l).take ((l.length : Int)).toNat)).1 ∧ (partN l l.length).2 = fl (pr ((putB y.bs 0 l).take ((l.length : Int)).toNat)).2
        rw [e1, part_pr rfl (by omega)]
        exact ⟨rfl, rfl⟩
      · have : (q.sl.set i _)[j]? = some z := hz
        rw [List.getElem?_set_ne hij] at this ⊢
        exact T.pt j z this hp
theorem PPI.init : PPI 0 (kzi 6 12 6) ⟨psN 6, 0, 0⟩ := by
  have hg : ∀ (j : Nat) (x : PSl), (psN 6)[j]? = some x → x = PSl.e (j : Int) := fun j x hx => by
    unfold psN at hx
    rw [List.getElem?_map] at hx
    have hj : j < 6 := by
      rcases Nat.lt_or_ge j 6 with h | h
      · exact h
      · rw [List.getElem?_eq_none (by simpa using h)] at hx; cases hx
    rw [List.getElem?_range hj] at hx
    injection hx with hx; exact hx.symm
  refine ⟨kzi_cnt 6 12 6, fsN_hoz 6 6, fun j hj => ⟨f1, ?_, rfl, by kernel_rfl⟩, fun j x hx => by rw [hg j x hx]; rfl, fun j x hx hp => ?_⟩
  · have hj' : j < 6 := by simpa [psN_len] using hj
    show (List.replicate 6 f1 ++ List.replicate (6 - 6) fz)[j]? = some f1
    rw [List.getElem?_append_left (by simpa using hj'), List.getElem?_replicate, if_pos hj']
  · rw [hg j x hx] at hp
    exact absurd hp (by show ¬ (0 : Int) < 0; omega)
end
section
variable {R : Ending → World → Prop} {w w' : World}
theorem opn_strs {H : Type} {enc : TypeId × Value → H} {W : World} : Opn enc Try.prog W 89 (Sin.vals (α := ByteArray)) (Sin.ok W (fun s => [.string s]) (fun s => s.size ≤ maxLen)) :=
  opn_slice (K := 1) Try.underlying89 (by kernel_rfl) (fun _ => rfl) (opn_string Try.underlying9)
set_option maxHeartbeats 1000000 in
theorem num01f_any (e o : Nat) (h : ∀ w', Kp [] w w' → R (.returned (.complex .f64 (fl e) (fl o))) w') : Calls Try.prog 33 #[.agg #[.int .i64 e, .int .i64 o]] w R := by
  have H := Lib.hid h
  have hcv : ∀ (W : World) (m : Nat), (convert 2 139 (.int .i64 (m : Int))).run Try.prog W = .ok (.float .f64 (fl m)) W := fun W m => run_convert_int_float (P := Try.prog) W 2 139 .i64 .f64 m (by rw [Try.underlying2]; rfl) Try.underlying139
  clear h
  go_enter Try.func33, Try.ntmps33
  go_wp2
  exact H.out _ ((Kp.refl _ _).alloc _)
set_option maxHeartbeats 4000000 in
/-- The document's part of bytes. -/
theorem rof_any {A : Option Addr} {n c : Nat} {l : List UInt8} (hr : Rd w [] A (bts l)) (hl : l.length = n) (hn : n ≤ 1000000)
    (h : ∀ w', Kp [] w w' → R (.returned (.agg #[.int .i64 (pr l).1, .int .i64 (pr l).2])) w') : Calls Try.prog 44 #[.slice A n c] w R := by
  have H := Lib.hid h
  have HR := Lib.hid hr
  have HL := Lib.hid hl
  clear h hr hl
  go_enter Try.func44, Try.ntmps44
  go_upto_region 2 with (fail)
  refine gen_worldK (fun W => ∃ g, w.heap.size = g ∧ Hid (Kp [] w W ∧ Bk W g 65 [.int .i64 0, .int .i64 0] ∧ Bk W (g + 1) 65 [.int .i64 0, .int .i64 0])) ⟨_, rfl, Lib.hid ⟨((Kp.refl _ _).alloc _).alloc _, ((Bk.new' _ _ _).alloc _).cast rfl, (Bk.newAt (by simp) _ _).cast rfl⟩⟩ ?_
  rintro W ⟨g, hg, hW⟩
  rw [hg]
  have hgw : w.heap.size ≤ g := by omega
  clear hg
  go_wp2
  go_loopw [4] (fun iv wr => ∃ k : Nat, k ≤ n ∧ iv = .int .i64 k ∧ Hid (Kp [] w wr ∧ Bk wr g 65 [.int .i64 0, .int .i64 0] ∧ Bk wr (g + 1) 65 [.int .i64 (pr (l.take k)).1, .int .i64 (pr (l.take k)).2])) (fun iv _ => n - (intOf iv).toNat)
  case atStart => exact ⟨0, Nat.zero_le _, rfl, Lib.hid ⟨hW.out.1, hW.out.2.1, by simpa [pr] using hW.out.2.2⟩⟩
  case round =>
    obtain ⟨k, hk, rfl, hS⟩ := hrel
    by_cases hlt : k < n
    · obtain ⟨b, off, rfl, hc⟩ := rd_byte (HR.out.kp hS.out.1 (by simp)) (k := k) (by have := HL.out; omega)
      obtain ⟨m, hm⟩ : ∃ m : Nat, (l[k]'(by have := HL.out; omega)).toNat = m := ⟨_, rfl⟩
      have hm2 : m ≤ 255 := by have := (l[k]'(by have := HL.out; omega)).toNat_lt; omega
      rw [hm] at hc
      have hbd := pr_bd (l.take k)
      have hlen : (l.take k).length = k := by have := HL.out; simp; omega
      rw [hlen] at hbd
      have hpr : pr (l.take (k + 1)) = if k % 2 = 0 then ((pr (l.take k)).1 + m, (pr (l.take k)).2) else ((pr (l.take k)).1, (pr (l.take k)).2 + m) := by
        rw [List.take_succ_eq_append_getElem (by have := HL.out; omega), pr_app, hlen]
        simp only [pr, hm, Nat.add_zero]
      obtain ⟨E, hE⟩ : ∃ E, (pr (l.take k)).1 = E := ⟨_, rfl⟩
      obtain ⟨O, hO⟩ : ∃ O, (pr (l.take k)).2 = O := ⟨_, rfl⟩
      rw [hE, hO] at hpr hbd hS
      have HPR := Lib.hid hpr
      have c0 : wr.cell? ⟨g + 1, 0, none⟩ = some (.int .i64 E) := hS.out.2.2.cell 0
      have c1 : wr.cell? ⟨g + 1, 1, none⟩ = some (.int .i64 O) := hS.out.2.2.cell 1
      have f0 := hS.out.2.2.frozen 0
      have f1 := hS.out.2.2.frozen 1
      have hw1 : IntKind.i64.wrap ((E : Int) + m) = (E : Int) + m := by simp [IntKind.wrap, IntKind.signed, IntKind.bits]; omega
      have hw2 : IntKind.i64.wrap ((O : Int) + m) = (O : Int) + m := by simp [IntKind.wrap, IntKind.signed, IntKind.bits]; omega
      have hwm : IntKind.i64.wrap (m : Int) = m := by simp [IntKind.wrap, IntKind.signed, IntKind.bits]; omega
      clear hpr hE hO hm
      by_cases hp : k % 2 = 0
      · have hq : (k : Int).tmod 2 = 0 := by rw [Int.tmod_eq_emod_of_nonneg (by omega)]; omega
        have HP2 := Lib.hid (HPR.out.trans (if_pos hp))
        clear hp HPR
        go_upto_region 6 with (fail)
        go_region
        go_wp2
        exact ⟨⟨k + 1, by omega, by go_num, Lib.hid ⟨(hS.out.1.setCell (p := ⟨g + 1, 0, none⟩) (.inr (by show w.heap.size ≤ g + 1; omega)) _).drew, (hS.out.2.1.far (p := ⟨g + 1, 0, none⟩) (by show g ≠ g + 1; omega) _).drew, by rw [HP2.out]; exact ((hS.out.2.2.set_ 0 _).cast (by simp)).drew⟩⟩, by simp [intOf]; omega⟩
      · have hq : (k : Int).tmod 2 = 1 := by rw [Int.tmod_eq_emod_of_nonneg (by omega)]; omega
        have HP2 := Lib.hid (HPR.out.trans (if_neg hp))
        clear hp HPR
        go_upto_region 7 with (fail)
        go_region
        go_wp2
        exact ⟨⟨k + 1, by omega, by go_num, Lib.hid ⟨(hS.out.1.setCell (p := ⟨g + 1, 1, none⟩) (.inr (by show w.heap.size ≤ g + 1; omega)) _).drew, (hS.out.2.1.far (p := ⟨g + 1, 1, none⟩) (by show g ≠ g + 1; omega) _).drew, by rw [HP2.out]; exact ((hS.out.2.2.set_ 1 _).cast (by simp)).drew⟩⟩, by simp [intOf]; omega⟩
    · obtain rfl : k = n := by omega
      have hT : l.take k = l := List.take_of_length_le (by have := HL.out; omega)
      rw [hT] at hS
      have c0 := hS.out.2.2.cell 0
      have c1 := hS.out.2.2.cell 1
      have d0 := hS.out.2.1.cell 0
      have d1 := hS.out.2.1.cell 1
      have e0 := hS.out.2.1.frozen 0
      have e1 := hS.out.2.1.frozen 1
      clear hT
      go_wp2
      have bz := (hS.out.2.1.set_ 0 (.int .i64 (pr l).1)).set_ 1 (.int .i64 (pr l).2)
      have z0 := bz.cell 0
      have z1 := bz.cell 1
      simp only [List.set_cons_zero, List.set_cons_succ, List.getElem?_cons_zero, List.getElem?_cons_succ] at z0 z1
      refine bodyPost_ret (v := .agg #[.int .i64 (pr l).1, .int .i64 (pr l).2]) (by simp [results, Try.results44, go_sem, z0, z1]) rfl (H.out _ ((hS.out.1.setCell (p := ⟨g, 0, none⟩) (.inr hgw) _).setCell (p := ⟨g, 1, none⟩) (.inr hgw) _))
/-- PoolParts' memory. -/
def PPS (w wr : World) (B kg pg tb : Nat) : Prop := ∃ ka pa k p, ka.g = kg ∧ pa.g = pg ∧ ka.bT = tb ∧ Kp [] w wr ∧ KPl wr B ka k pa p ∧ PPI 0 k p
theorem pps_head {w1 : World} {B kg pg tb : Nat} (hB : w.heap.size ≤ B) (hw : PPS w w1 B kg pg tb) {w2 : World} (k2 : Kp [] w1 w2) {g n c : Nat} {l : List UInt8} (hr : Tb w2 5 (some ⟨g, 0, none⟩) (bts l)) (hl : l.length = n) (hn : n ≤ 1000000)
    (h : ∀ v w', Hid (PPS w w' B kg pg tb) → R (.returned v) w') : Calls Try.prog 30 #[.pointer (some ⟨pg, 0, none⟩), .slice (some ⟨g, 0, none⟩) n c] w2 R := by
  obtain ⟨ka, pa, k, p, rfl, rfl, rfl, k1, z, hi⟩ := hw
  refine phead_any (z.off0 k2) hi.c (by omega) hr hl hn (fun e => by cases e) (fun f e p' k' ka' w' hr q z' e1 e2 => ?_)
  exact h _ w' (Lib.hid ⟨ka', pa, k', p', e1, rfl, e2, q.old (k1.trans k2) hB, z', hi.head hr.out⟩)
theorem flat_len_le {k : KS} : ∀ (l : List Pc), (∀ x ∈ l, (pcB k x).length ≤ 256) → (l.flatMap (pcB k)).length ≤ 256 * l.length
  | [], _ => by simp
  | x :: l, h => by
    have h1 := h x (by simp)
    have h2 := flat_len_le l (fun y hy => h y (by simp [hy]))
    simp only [List.flatMap_cons, List.length_append, List.length_cons]; omega
theorem pcB_len {m : Nat} {k : KS} {p : PS} (h : PPI m k p) (hl : ∀ y ∈ k.fs, y.bs.length = 256) (x : Pc) : (pcB k x).length ≤ 256 := by
  unfold pcB tRead
  split
  · split
    · simp
    · cases hf : fat k.fs x.f with
      | none => simp
      | some y =>
        obtain ⟨_, hi⟩ := fat_some hf
        have := hl y (List.mem_of_getElem? hi)
        simp only [cutB]; simp; omega
  · simp
set_option maxHeartbeats 8000000 in
theorem pparts_walk (hs : Sin ByteArray) (hhs : hs.ok w (fun s => [.string s]) (fun s => s.size ≤ maxLen)) (a : Sin Pc) (ha : a.ok w Pc.vals Pc.ok) (h : ∀ w', Kp [] w w' → R (.returned (.bool true)) w') :
    Calls Try.prog 6 #[.slice hs.A hs.n hs.c, .slice a.A a.n a.c] w R := by
  have H := Lib.hid h
  obtain ⟨A0, n0, c0, l0⟩ := hs
  obtain ⟨hl0, hcap0, hmax0, hall0, hrd0, _⟩ := hhs
  obtain ⟨A, n, c, l⟩ := a
  obtain ⟨hl, hcap, hmax, hall, hrd, _⟩ := ha
  simp only at hl hcap hmax hall hrd hl0 hcap0 hmax0 hall0 hrd0
  have hmx : c ≤ 9223372036854775807 := hmax
  have hmx0 : c0 ≤ 9223372036854775807 := hmax0
  have HAl : Hid (∀ (R : Ending → World → Prop), (∀ w', Kp [] w w' → R (.returned (.bool true)) w') → Calls Try.prog 26 #[] w R) := Lib.hid (fun R h => alive13_any h)
  have HR := Lib.hid hrd
  have HL := Lib.hid hl
  have HR0 := Lib.hid hrd0
  have HL0 := Lib.hid hl0
  clear h hl hall hrd hmax hl0 hall0 hrd0 hmax0
  by_cases h6 : 6 < n0
  · go_enter Try.func6, Try.ntmps6
    go_wp2_with (go_at_call 26; ((refine HAl.out _ ?_); intro w1 k1))
    exact H.out _ k1
  by_cases h50 : 50 < n
  · go_enter Try.func6, Try.ntmps6
    go_wp2_with (go_at_call 26; ((refine HAl.out _ ?_); intro w1 k1))
    exact H.out _ k1
  have HN : Hid (∀ (R : Ending → World → Prop) (w1 : World), Kp [] w w1 → (∀ kg tb w', Hid (∃ a, a.g = kg ∧ a.bT = tb ∧ Kp [] w w' ∧ Kn w' w1.heap.size a (kz0 6 12)) → R (.returned (.tuple #[.pointer (some ⟨kg, 0, none⟩), .int .i64 0])) w') → Calls Try.prog 28 #[.int .i64 6, .int .i64 12] w1 R) := Lib.hid (fun R w1 k1 h => knew2_any 6 12 (by omega) (by omega) (by omega) (by omega) w1 (fun a w' k n => h a.g a.bT w' (Lib.hid ⟨a, rfl, rfl, k1.trans k, n⟩)))
  have HP : Hid (∀ (R : Ending → World → Prop) (w1 : World) (kg tb B1 : Nat), w.heap.size ≤ B1 → Hid (∃ a, a.g = kg ∧ a.bT = tb ∧ Kp [] w w1 ∧ Kn w1 B1 a (kz0 6 12)) → (∀ pg w', Hid (PPS w w' B1 kg pg tb) → R (.returned (.tuple #[.pointer (some ⟨pg, 0, none⟩), .int .i64 0])) w') → Calls Try.prog 29 #[.pointer (some ⟨kg, 0, none⟩), .int .i64 6] w1 R) := Lib.hid (fun R w1 kg tb B1 hB1 hw h => by
    obtain ⟨a, rfl, rfl, k1, n1⟩ := hw.out
    exact pnew_any n1 6 (by omega) (by omega) (by omega) (fun ka' pa w' q z e1 e2 g1 g2 => h pa.g w' (Lib.hid ⟨ka', pa, _, _, e1, rfl, e2, q.old k1 hB1, z, PPI.init⟩)))
  go_enter Try.func6, Try.ntmps6
  go_upto_region 5 with (go_at_call 26; ((refine HAl.out _ ?_); intro w1 k1))
  obtain ⟨B, hB⟩ : ∃ B, w1.heap.size = B := ⟨_, rfl⟩
  have hwB : w.heap.size ≤ B := by have := k1.size; omega
  go_upto_region 7 with (first | (go_at_call 28; ((refine HN.out _ _ k1 ?_); intro kg tb w3 h3)) | (go_at_call 29; ((refine HP.out _ _ _ _ _ k1.size h3 ?_); intro pg w4 h4)))
  rw [hB] at h4
  clear h3 hB k1 HN HP HAl
  go_wp2
  go_loopw [9] (fun iv wr => ∃ i : Nat, i ≤ n0 ∧ iv = .int .i64 i ∧ Hid (PPS w wr B kg pg tb)) (fun iv _ => n0 - (intOf iv).toNat)
  case atStart => exact ⟨0, Nat.zero_le _, rfl, h4⟩
  case round =>
    obtain ⟨i, hi, rfl, hS⟩ := hrel
    by_cases hlt : i < n0
    · obtain ⟨s, hx, hm⟩ := get_lt (l := l0) (k := i) (by have := HL0.out; omega)
      obtain ⟨b, o, rfl, _, hbl, hc⟩ := rd_at (F := fun s : ByteArray => [.string s]) (K := 1) (HR0.out.kp (by obtain ⟨_, _, _, _, _, _, _, k, _⟩ := hS.out; exact k) (by simp)) (fun _ => rfl) (by omega) hx
      have c0' := hc 0 _ rfl
      rw [Nat.add_zero, Nat.mul_one] at c0'
      clear hc hx hm
      by_cases h256 : 256 < s.size
      · go_wp2
        exact H.out _ (by obtain ⟨_, _, _, _, _, _, _, k, _⟩ := hS.out; exact k)
      · obtain ⟨bw, cw, hcs, hszb, hbk, hbr⟩ := conv_letter s
        have HH : Hid (∀ (R : Ending → World → Prop), (∀ v w', Hid (PPS w w' B kg pg tb) → R (.returned v) w') → Calls Try.prog 30 #[.pointer (some ⟨pg, 0, none⟩), .slice (some ⟨wr.heap.size, 0, none⟩) s.size (cw wr)] (bw wr) R) := Lib.hid (fun R h => pps_head hwB hS.out (hbk [] wr wr (Kp.refl _ _)) (hbr wr _ rfl) (show s.data.toList.length = s.size from Array.length_toList) (by omega) h)
        clear hszb hbk hbr
        go_wp2_with (go_at_call 30; ((refine HH.out _ ?_); intro v5 w5 h5))
        exact ⟨⟨i + 1, by omega, by go_num, h5⟩, by simp [intOf]; omega⟩
    · obtain rfl : i = n0 := by omega
      obtain ⟨ka, pa, k, p, e1, e2, e3, k4, z4, i4⟩ := hS.out
      have K4 := Lib.hid k4
      have HOf : Hid (∀ (R : Ending → World → Prop), (∀ A' c' w', Kp [] wr w' → Hid (Ow w' 98 3 A' n c' (l.flatMap Pc.vals)) → R (.returned (.slice A' n c')) w') → Calls Try.prog 15 #[.slice A n c] wr R) := Lib.hid (fun R h => of_any (HR.out.kp k4 (by simp)) HL.out (by omega) (fun A' c' w' k o f => h A' c' w' k (Lib.hid o)))
      have HPart : Hid (∀ (R : Ending → World → Prop) (w1 : World) (A' : Option Addr) (c' : Nat), Kp [] wr w1 → Hid (Ow w1 98 3 A' n c' (l.flatMap Pc.vals)) → (∀ e w', e ≠ 0 → Hid (Kp [] w w') → R (.returned (.tuple #[.complex .f64 0 0, .int .i64 e])) w') → ((∀ x ∈ l, (tRead k.fs 1 x.f x.o x.n).1 = 0) → ∀ w', Hid (Kp [] w w' ∧ ∃ ka, ka.g = kg ∧ ka.bT = tb ∧ KPl w' B ka k pa p) → R (.returned (.tuple #[.complex .f64 (fl (pr (l.flatMap (pcB k))).1) (fl (pr (l.flatMap (pcB k))).2), .int .i64 0])) w') → Calls Try.prog 43 #[.pointer (some ⟨pg, 0, none⟩), .slice A' n c'] w1 R) := Lib.hid (fun R w1 A' c' k1 o h1 h2 => by
        rw [← e2]
        refine ppart_any (z4.off0 k1) i4 (by omega) o.out.tb HL.out (by omega) (fun e w' he hw => h1 e w' he ?_) (fun hok w' hw => h2 hok w' ?_)
        · obtain ⟨ka', _, _, q, _⟩ := hw.out
          exact Lib.hid (q.old (k4.trans k1) hwB)
        · obtain ⟨ka', a1, a2, q, z⟩ := hw.out
          exact Lib.hid ⟨q.old (k4.trans k1) hwB, ka', a1.trans e1, a2.trans e3, z⟩)
      have hTb := pr_bd (l.flatMap (pcB k))
      have hTl : (l.flatMap (pcB k)).length ≤ 256 * l.length := flat_len_le l (fun x _ => pcB_len i4 (fun y hy => z4.kn.t.pg y hy) x)
      rw [HL.out] at hTl
      have h00 : FloatKind.f64.format.order 0 0 = some .eq := by kernel_rfl
      obtain ⟨T, hT⟩ : ∃ T, l.flatMap (pcB k) = T := ⟨_, rfl⟩
      rw [hT] at hTb hTl HPart
      have HT := Lib.hid hT
      clear hS k4 z4 e1 e2 e3 hT
      go_upto_if 62 with (first | (go_at_call 15; ((refine HOf.out _ ?_); intro A5 c5 w5 k5 o5)) | (go_at_call 43; ((refine HPart.out _ _ _ _ k5 o5 (fun e w6 he h6 => ?_) (fun hok w6 h6 => ?_)); (have he0 : (e != 0) = true := by simpa using he); rotate_left)))
      rotate_left
      · go_wp2
        exact H.out _ h6.out
      obtain ⟨k6, ka6, e1, e2, z6⟩ := h6.out
      have HOK := Lib.hid hok
      have K6 := Lib.hid k6
      have HTab : Hid (∀ (R : Ending → World → Prop) (w1 : World), Kp [] w6 w1 → R (.returned (.pointer (some ⟨tb, 0, none⟩))) w1 → Calls Try.prog 31 #[.pointer (some ⟨kg, 0, none⟩)] w1 R) := Lib.hid (fun R w1 k1 h => by rw [← e1]; exact ktab_any (z6.off0 k1).kn (by rw [e2]; exact h))
      have HRead : Hid (∀ (R : Ending → World → Prop) (w1 : World) (x : Pc), Kp [] w6 w1 → (tRead k.fs 1 x.f x.o x.n).1 = 0 → (∀ A c w', Kp [] w1 w' → Hid (Tb w' 5 A (bts (pcB k x))) → R (.returned (.tuple #[.slice A (pcB k x).length c, .int .i64 0])) w') → Calls Try.prog 34 #[.pointer (some ⟨tb, 0, none⟩), .int .i64 1, .int .i64 x.f, .int .i64 x.o, .int .i64 x.n] w1 R) := Lib.hid (fun R w1 x k1 hx h => by
        rw [← e2]
        exact read_is (e := 0) (l := pcB k x) (z6.off0 k1).kn.t 1 x.f x.o x.n (Prod.ext hx rfl) (fun A c w' kk o _ => h A c w' kk (Lib.hid o.tb)))
      have HLN : Hid (∀ x : Pc, (pcB k x).length ≤ 256) := Lib.hid (fun x => pcB_len i4 (fun y hy => z6.kn.t.pg y hy) x)
      clear z6 e1 e2 h6 hok k5 o5 HOf HPart
      go_wp2
      go_loopw [12, 13] (fun av iv wr => ∃ (i : Nat) (A9 : Option Addr) (m9 c9 : Nat), i ≤ n ∧ iv = .int .i64 i ∧ av = .slice A9 m9 c9 ∧ m9 ≤ 256 * i ∧ Hid (Kp [] w6 wr ∧ Ow wr 5 1 A9 m9 c9 (bts ((l.take i).flatMap (pcB k))) ∧ (∀ b ∈ bks A9, w6.heap.size ≤ b) ∧ ((l.take i).flatMap (pcB k)).length = m9)) (fun _ iv _ => n - (intOf iv).toNat)
      case atStart => exact ⟨0, none, 0, 0, Nat.zero_le _, rfl, rfl, by omega, Lib.hid ⟨Kp.refl _ _, Ow.nil, by simp [bks], by simp⟩⟩
      case round =>
        obtain ⟨j, A9, m9, c9, hj, rfl, rfl, hm9, hQ⟩ := hrel
        by_cases hlt2 : j < n
        · obtain ⟨x, hx, hm⟩ := get_lt (l := l) (k := j) (by have := HL.out; omega)
          obtain ⟨b, o, rfl, _, hbl, hc⟩ := rd_at (HR.out.kp (K6.out.trans hQ.out.1) (by simp)) pvals_len (by omega) hx
          have d0 := hc 0 _ rfl
          have d1 := hc 1 _ rfl
          have d2 := hc 2 _ rfl
          rw [Nat.add_zero] at d0
          have HS : Hid (∀ w', Kp [] wr w' → w'.cell? ⟨b, o + j * 3, none⟩ = some (.int .i64 x.f) ∧ w'.cell? ⟨b, o + j * 3 + 1, none⟩ = some (.int .i64 x.o) ∧ w'.cell? ⟨b, o + j * 3 + 2, none⟩ = some (.int .i64 x.n)) := Lib.hid (fun w' k' => ⟨(k'.cell (p := ⟨b, o + j * 3, none⟩) hbl (by simp)).trans d0, (k'.cell (p := ⟨b, o + j * 3 + 1, none⟩) hbl (by simp)).trans d1, (k'.cell (p := ⟨b, o + j * 3 + 2, none⟩) hbl (by simp)).trans d2⟩)
          have HXOK := Lib.hid (HOK.out x hm)
          obtain ⟨bs, hbs⟩ : ∃ bs, pcB k x = bs := ⟨_, rfl⟩
          have hbl2 : bs.length ≤ 256 := by rw [← hbs]; exact HLN.out x
          have HRd2 : Hid (∀ (R : Ending → World → Prop) (w1 : World), Kp [] wr w1 → (∀ A c w', Kp [] w1 w' → Hid (Tb w' 5 A (bts bs)) → R (.returned (.tuple #[.slice A bs.length c, .int .i64 0])) w') → Calls Try.prog 34 #[.pointer (some ⟨tb, 0, none⟩), .int .i64 1, .int .i64 x.f, .int .i64 x.o, .int .i64 x.n] w1 R) := Lib.hid (fun R w1 k1 h => HRead.out R w1 x (hQ.out.1.trans k1) HXOK.out (by rw [hbs]; exact h))
          have HTab2 : Hid (∀ (R : Ending → World → Prop) (w1 : World), Kp [] wr w1 → R (.returned (.pointer (some ⟨tb, 0, none⟩))) w1 → Calls Try.prog 31 #[.pointer (some ⟨kg, 0, none⟩)] w1 R) := Lib.hid (fun R w1 k1 h => HTab.out R w1 (hQ.out.1.trans k1) h)
          have HNX : Hid ((l.take (j + 1)).flatMap (pcB k) = (l.take j).flatMap (pcB k) ++ bs) := Lib.hid (by rw [take_snoc hx, List.flatMap_append]; simp [hbs])
          clear hc hx hm hbs HTab HRead d0 d1 d2
          go_upto_region 20 with (fail)
          go_region_held_law (fun w' => w'.cell? ⟨b, o + j * 3, none⟩ = some (.int .i64 x.f) ∧ w'.cell? ⟨b, o + j * 3 + 1, none⟩ = some (.int .i64 x.o) ∧ w'.cell? ⟨b, o + j * 3 + 2, none⟩ = some (.int .i64 x.n)) ((refine HS.out _ ?_; repeat (first | with_reducible exact kk7 | with_reducible exact Kp.refl _ _ | with_reducible refine Kp.drew ?_))) (first | (go_simp; go_at_call 31; (refine HTab2.out _ _ (by repeat (first | with_reducible exact Kp.refl _ _ | with_reducible refine Kp.drew ?_)) ?_)) | (go_simp; go_at_call 34; (refine HRd2.out _ _ (by repeat (first | with_reducible exact Kp.refl _ _ | with_reducible refine Kp.drew ?_)) ?_); intro A2 c2 w7 k7 t7; have kk7 : Kp [] wr w7 := Kp.trans (by repeat (first | with_reducible exact Kp.refl _ _ | with_reducible refine Kp.drew ?_)) k7))
          have hb9 : (bts bs).length = bs.length * 1 := by rw [bts_len, Nat.mul_one]
          go_wp2_with (at_builtin; refine wpList_app _ rfl (.tmp 94) (.tmp 95) _ rfl elt_u8 A9 m9 c9 _ rfl (hQ.out.2.1.kp kk7 (by simp)) [] A2 bs.length c2 (bts bs) rfl t7.out.rd0 hb9 (bts_one bs) (by omega) ?_; intro A' c' w8 ho8 k8 hA8)
          exact ⟨⟨j + 1, A', m9 + bs.length, c', by omega, by go_num, rfl, by omega, Lib.hid ⟨(hQ.out.1.trans kk7).thn k8 (fun s hs => .inr (hQ.out.2.2.1 s hs)), by rw [HNX.out, bts_append]; exact ho8, bks_app hA8 hQ.out.2.2.1 (by have := (hQ.out.1.trans kk7).size; omega), by rw [HNX.out, List.length_append, hQ.out.2.2.2]⟩⟩, by simp [intOf]; omega⟩
        · obtain rfl : j = n := by omega
          have hE : (l.take j).flatMap (pcB k) = T := by rw [List.take_of_length_le (by have := HL.out; omega)]; exact HT.out
          rw [hE] at hQ
          have HOf2 : Hid (∀ (R : Ending → World → Prop), (∀ w', Kp [] wr w' → R (.returned (.agg #[.int .i64 (pr T).1, .int .i64 (pr T).2])) w') → Calls Try.prog 44 #[.slice A9 m9 c9] wr R) := Lib.hid (fun R h => rof_any hQ.out.2.1.tb.rd0 hQ.out.2.2.2 (by omega) h)
          have o1 := ord_self (n := (pr T).1) (by omega)
          have o2 := ord_self (n := (pr T).2) (by omega)
          have HNm : Hid (∀ (R : Ending → World → Prop) (w1 : World), (∀ w', Kp [] w1 w' → R (.returned (.complex .f64 (fl (pr T).1) (fl (pr T).2))) w') → Calls Try.prog 33 #[.agg #[.int .i64 (pr T).1, .int .i64 (pr T).2]] w1 R) := Lib.hid (fun R w1 h => num01f_any _ _ h)
          clear hE
          go_wp2_with (first | (go_at_call 44; ((refine HOf2.out _ ?_); intro w7 k7)) | (go_at_call 33; ((refine HNm.out _ _ ?_); intro w8 k8)))
          exact H.out _ (((K6.out.trans hQ.out.1).trans k7).trans k8)
end
end Go.Proofs.Ythlmfjfkkndboaa
