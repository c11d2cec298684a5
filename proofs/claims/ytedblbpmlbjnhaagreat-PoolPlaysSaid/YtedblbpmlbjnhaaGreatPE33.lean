/- pantlerref09: New; and all calls together. Kernel.Depart. The holds of a kernel's frames are those of its transfers, in plain words. -/
import Derived.Test.YtedblbpmlbjnhaaGreatPE31
import Derived.Test.YtedblbpmlbjnhaaGreatPE32
import Derived.Test.YtedblbpmlbjnhaaGreatPE15
import Derived.Test.YtedblbpmlbjnhaaGreatPE19
import Derived.Deep.RegionHeldLaw
import Derived.BigQuiet
namespace Go.Proofs.YtedblbpmlbjnhaaGreat
/-! ### pantlerref09: New; and all calls together. -/
section
open Go.RowKit Go.Shelf
set_option linter.unusedVariables false
set_option linter.unusedSimpArgs false
set_option maxRecDepth 100000
/-- Owners, half-way. -/
def ownH (N i : Nat) : List Int := (own2 N).take i ++ List.replicate (N - i) 0
theorem own2_len (N : Nat) : (own2 N).length = N := by unfold own2; simp; omega
theorem own2_at {N i : Nat} (h : i < N) : (own2 N)[i]? = some (if i < N - N / 4 then 1 else 2) := by
  unfold own2
  by_cases h1 : i < N - N / 4
  · rw [if_pos h1, List.getElem?_append_left (by simpa using h1), List.getElem?_replicate, if_pos h1]
  · rw [if_neg h1, List.getElem?_append_right (by simp; omega), List.getElem?_replicate, if_pos (by simp; omega)]
theorem ownH_len {N i : Nat} (h : i ≤ N) : (ownH N i).length = N := by unfold ownH; rw [List.length_append, List.length_take, own2_len, List.length_replicate]; omega
theorem ownH_step {N i : Nat} (h : i < N) : (ownH N i).set i (if i < N - N / 4 then 1 else 2) = ownH N (i + 1) := by
  apply List.ext_getElem?
  intro j
  have h1 := own2_at h
  unfold ownH
  have l1 : ((own2 N).take i).length = i := by rw [List.length_take, own2_len]; omega
  have l2 : ((own2 N).take (i + 1)).length = i + 1 := by rw [List.length_take, own2_len]; omega
  rcases Nat.lt_trichotomy j i with hj | hj | hj
  · rw [List.getElem?_set_ne (by omega), List.getElem?_append_left (by omega), List.getElem?_append_left (by omega), List.getElem?_take, List.getElem?_take, if_pos hj, if_pos (by omega)]
  · subst hj
    rw [List.getElem?_set_self (by rw [List.length_append, l1, List.length_replicate]; omega), List.getElem?_append_left (by rw [l2]; omega), List.getElem?_take, if_pos (show j < j + 1 by omega), h1]
  · rw [List.getElem?_set_ne (by omega), List.getElem?_append_right (by omega), List.getElem?_append_right (by omega), l1, l2, List.getElem?_replicate, List.getElem?_replicate]
    by_cases h2 : j < N
    · rw [if_pos (by omega), if_pos (by omega)]
    · rw [if_neg (by omega), if_neg (by omega)]
theorem ownH_0 (N : Nat) : ownH N 0 = List.replicate N 0 := by simp [ownH]
theorem ownH_N (N : Nat) : ownH N N = own2 N := by unfold ownH; rw [List.take_of_length_le (by rw [own2_len]; omega)]; simp
section
variable {R : Ending → World → Prop} {w0 w : World} {B m : Nat} {q : QA} {k : KS}
/-- Half-way through New. -/
structure Nq (w W : World) (g bM bO bH bB bD pB pO N i F : Nat) : Prop where
  kp : Kp [] w W
  gg : Bk W g 67 [.pointer (some ⟨bM, 0, none⟩), .pointer (some ⟨bD, 0, none⟩), .slice none 0 0, .int .i64 0, .slice none 0 0, .slice none 0 0, .slice none 0 0, .slice none 0 0, .int .i64 0, .int .i64 0]
  t : RT W bM bO bH bB (List.replicate F fz)
  dd : ∃ cb co, Bk W bD 74 [.slice (some ⟨pB, 0, none⟩) N cb, .slice (some ⟨pO, 0, none⟩) N co, .slice none 0 0, .bool false, .int .i64 (-1)]
  b : Tw W pB 9 ((List.replicate N z256).map sV)
  o : Tw W pO 3 (ints (ownH N i))
  n1 : pO ≠ bO ∧ pO ≠ bH ∧ pB ≠ bB
  hB : w.heap.size ≤ g ∧ w.heap.size ≤ bM ∧ w.heap.size ≤ bO ∧ w.heap.size ≤ bH ∧ w.heap.size ≤ bB ∧ w.heap.size ≤ bD ∧ w.heap.size ≤ pB ∧ w.heap.size ≤ pO
set_option maxHeartbeats 4000000 in
theorem rknew_any (F N : Nat) (hF1 : 1 ≤ F) (hF2 : F ≤ 256) (hN1 : 4 ≤ N) (hN2 : N ≤ 512) (hw0 : Kp [] w0 w) (h : ∀ q w', Kp [] w w' → Qn w0 w.heap.size w' q (kz0 F N) → R (.returned (.pointer (some ⟨q.g, 0, none⟩))) w') :
    Calls Tryz.prog 8 #[.int .i64 F, .int .i64 N] w R := by
  have H := Lib.hid h
  have HT : Hid (∀ (R : Ending → World → Prop) (w : World), (∀ bM bO bH bB w', w.heap.size ≤ bM → w.heap.size ≤ bO → w.heap.size ≤ bH → w.heap.size ≤ bB → Kp [] w w' → RT w' bM bO bH bB (List.replicate F fz) → R (.returned (.pointer (some ⟨bM, 0, none⟩))) w') → Calls Tryz.prog 45 #[.int .i64 F] w R) := Lib.hid (fun R w h => rnew_any F hF1 hF2 h)
  have HD : Hid (∀ (R : Ending → World → Prop) (w : World), (∀ bD bB bO w', w.heap.size ≤ bD → w.heap.size ≤ bB → w.heap.size ≤ bO → bB ≠ bO → Kp [] w w' → Dm w' bD bB bO none 0 (dz N) → R (.returned (.pointer (some ⟨bD, 0, none⟩))) w') → Calls Tryz.prog 46 #[.int .i64 N] w R) := Lib.hid (fun R w h => mnew_any N hN2 (fun bD bB bO w' h1 h2 h3 h4 h5 h6 => h bD bB bO w' h1 h2 h3 h4 h5 (h6.resolve_left (by omega))))
  obtain ⟨p, hp⟩ : ∃ p, N - N / 4 = p := ⟨_, rfl⟩
  have hqd : (N : Int).tdiv 4 = ((N / 4 : Nat) : Int) := by rw [Int.tdiv_eq_ediv_of_nonneg (by omega)]; omega
  obtain ⟨r, hr⟩ : ∃ r, N / 4 = r := ⟨_, rfl⟩
  rw [hr] at hqd hp
  have hpd : (N : Int) - (r : Int) = (p : Int) := by omega
  have hwp : IntKind.i64.wrap (p : Int) = (p : Int) := wrapV (by omega) (by omega)
  have HW0 := Lib.hid hw0
  have HP : Hid (N - N / 4 = p) := Lib.hid (by rw [hr]; exact hp)
  clear h hw0 hr
  go_enter Tryz.func8, Tryz.ntmps8
  go_upto_region 2 with (first | (go_at_call 45; ((refine HT.out _ _ ?_); intro bM bO bH bB w1 t1 t2 t3 t4 k1 ht)) | (go_at_call 46; ((refine HD.out _ _ ?_); intro bD pB pO w2 e1 e2 e3 e4 k2 hd)))
  have hkk := (k1.trans k2).alloc (.cells #[.pointer (some ⟨bM, 0, none⟩), .pointer (some ⟨bD, 0, none⟩), .slice none 0 0, .int .i64 0, .slice none 0 0, .slice none 0 0, .slice none 0 0, .slice none 0 0, .int .i64 0, .int .i64 0] 67)
  have kB := (Kp.refl [] w2).alloc (.cells #[.pointer (some ⟨bM, 0, none⟩), .pointer (some ⟨bD, 0, none⟩), .slice none 0 0, .int .i64 0, .slice none 0 0, .slice none 0 0, .slice none 0 0, .slice none 0 0, .int .i64 0, .int .i64 0] 67)
  have z1 := k1.size
  have z2 := k2.size
  have l1 := ht.o.lt
  have l2 := ht.h.lt
  have l3 := ht.b.lt
  have hww : w.heap.size ≤ w2.heap.size := Nat.le_trans z1 z2
  refine genV (fun W => ∃ g, w2.heap.size = g ∧ Hid (Nq w W g bM bO bH bB bD pB pO N 0 F)) ⟨_, rfl, Lib.hid ⟨hkk, Bk.newAt rfl _ _, (ht.kp k2 (by simp) (by simp) (by simp) (by simp)).kp kB (by simp) (by simp) (by simp) (by simp), ?_, (hd.b.kp kB (by simp)).cast (by simp [dz]), (hd.o.kp kB (by simp)).cast (by rw [ownH_0]; rfl), ⟨fun e => by omega, fun e => by omega, fun e => by omega⟩, ⟨hww, t1, t2, t3, t4, Nat.le_trans z1 e1, Nat.le_trans z1 e2, Nat.le_trans z1 e3⟩⟩⟩ ?_
  · obtain ⟨cb, co, hb⟩ := hd.dd
    exact ⟨cb, co, (hb.kp kB (by simp)).cast (by simp [dz, leftM])⟩
  rintro W ⟨g, hg, hN⟩
  rw [hg]
  clear hkk kB z1 z2 l1 l2 l3 ht hd k1 k2 hg HT HD t1 t2 t3 t4 e1 e2 e3 e4
  go_wp2
  go_loopw [6] (fun iv wr => ∃ i : Nat, i ≤ N ∧ iv = .int .i64 i ∧ Hid (Nq w wr g bM bO bH bB bD pB pO N i F)) (fun iv _ => N - (intOf iv).toNat)
  case atStart => exact ⟨0, Nat.zero_le _, rfl, hN⟩
  case round =>
    obtain ⟨i, hi, rfl, hI⟩ := hrel
    clear hN
    by_cases hlt : i < N
    · obtain ⟨cb, co, hdd⟩ := hI.out.dd
      have c1 : wr.cell? ⟨g, 1, none⟩ = some (.pointer (some ⟨bD, 0, none⟩)) := hI.out.gg.cell 1
      have c2 : wr.cell? ⟨bD, 1, none⟩ = some (.slice (some ⟨pO, 0, none⟩) N co) := hdd.cell 1
      have hil : i < (ownH N i).length := by rw [ownH_len hi]; exact hlt
      have c3 : wr.cell? ⟨pO, i, none⟩ = some (.int .i64 ((ownH N i)[i]'hil)) := hI.out.o.cell (ints_at (List.getElem?_eq_getElem hil))
      obtain ⟨v, hv⟩ : ∃ v, (ownH N i)[i]'hil = v := ⟨_, rfl⟩
      rw [hv] at c3
      have z3 := hI.out.o.frozen i
      have l3 := hI.out.o.lt
      have n1 : g ≠ pO := (hI.out.o.ne_bk hI.out.gg (by decide)).symm
      have n2 : bD ≠ pO := (hI.out.o.ne_bk hdd (by decide)).symm
      have n3 : bM ≠ pO := by obtain ⟨x0, x1, x2, hx⟩ := hI.out.t.t; exact (hI.out.o.ne_bk hx (by decide)).symm
      have n4 : bB ≠ pO := (hI.out.o.ne_ hI.out.t.b (by decide)).symm
      have n5 : pB ≠ pO := (hI.out.o.ne_ hI.out.b (by decide)).symm
      have HST : Hid (∀ W' : World, ∀ v : Int, Kp [pO] wr W' → Tw W' pO 3 ((ints (ownH N i)).set i (.int .i64 v)) → v = (if i < N - N / 4 then 1 else 2) → Nq w W' g bM bO bH bB bD pB pO N (i + 1) F) := Lib.hid (fun W' v kc ho hv => by
        have hn := hI.out.n1
        refine ⟨hI.out.kp.thn kc (fun s hs => .inr (by simp at hs; subst hs; exact hI.out.hB.2.2.2.2.2.2.2)), hI.out.gg.kp kc (by simpa using n1), hI.out.t.kp kc (by simpa using n3) (by simpa using hn.1.symm) (by simpa using hn.2.1.symm) (by simpa using n4), ⟨cb, co, hdd.kp kc (by simpa using n2)⟩, hI.out.b.kp kc (by simpa using n5), ho.cast ?_, hn, hI.out.hB⟩
        rw [← ownH_step hlt, hv]
        simp [ints])
      have HO := Lib.hid hI.out.o
      have hln : i < (ints (ownH N i)).length := by simpa [ints] using hil
      clear hI hv hdd
      by_cases hlp : p ≤ i
      · have g1 : decide ((p : Int) ≤ (i : Int)) = true := by simp; omega
        have g2 : decide (p ≤ i) = true := by simpa using hlp
        have HV : Hid ((2 : Int) = (if i < N - N / 4 then 1 else 2)) := Lib.hid (by rw [HP.out, if_neg (by omega)])
        go_wp2
        exact ⟨⟨i + 1, by omega, by go_num, Lib.hid (HST.out _ 2 (((Kp.refl [pO] wr).setCell (p := ⟨pO, i, none⟩) (.inl (by simp)) _).setCell (p := ⟨pO, i, none⟩) (.inl (by simp)) _) (by
          have h1 := (HO.out.set_ hln (.int .i64 1)).set_ (i := i) (by rw [List.length_set]; exact hln) (.int .i64 2)
          rwa [List.set_set] at h1) HV.out)⟩, by simp [intOf]; omega⟩
      · have g1 : decide ((p : Int) ≤ (i : Int)) = false := by simp; omega
        have g2 : decide (p ≤ i) = false := by simpa using hlp
        have HV : Hid ((1 : Int) = (if i < N - N / 4 then 1 else 2)) := Lib.hid (by rw [HP.out, if_pos (by omega)])
        go_wp2
        exact ⟨⟨i + 1, by omega, by go_num, Lib.hid (HST.out _ 1 ((Kp.refl [pO] wr).setCell (p := ⟨pO, i, none⟩) (.inl (by simp)) _) (HO.out.set_ hln (.int .i64 1)) HV.out)⟩, by simp [intOf]; omega⟩
    · obtain rfl : i = N := by omega
      have HI := Lib.hid hI.out
      clear hI
      go_wp2
      obtain ⟨cb, co, hdd⟩ := HI.out.dd
      obtain ⟨b1, b2, b3, b4, b5, b6, b7, b8⟩ := HI.out.hB
      have hok : ({ dz i with ow := own2 i } : DkS).ok := by
        have := dz_ok hN2
        exact ⟨this.n1, by rw [own2_len]; simp [dz], this.pg, this.ln, this.lf, this.ar⟩
      refine H.out ⟨g, bM, bO, bH, bB, bD, pB, pO, none, 0, none, 0, none, 0, none, 0, none, 0⟩ _ HI.out.kp ⟨HW0.out.trans HI.out.kp, HW0.out.size, HI.out.gg, HI.out.t, ⟨⟨cb, co, hdd.cast (by simp [dz, kz0, leftM])⟩, HI.out.b, HI.out.o.cast (by rw [ownH_N]; rfl), Nb.nil, (by obtain ⟨y1, y2⟩ := HI.out.b; exact hdd.ne_ y2 (by decide)), hok⟩, ⟨[], rfl, Nb.nil, by simp⟩, Nb.nil, Nb.nil, ⟨[], rfl, Nb.nil, by simp⟩, ?_, b2, ⟨b8, HI.out.n1⟩, ⟨Nat.le_refl _, Nat.le_refl _, Nat.le_refl _, Nat.le_refl _⟩⟩
      intro s hs
      simp only [QA.own, List.mem_cons, List.not_mem_nil, or_false] at hs
      rcases hs with rfl | rfl | rfl | rfl | rfl | rfl <;> assumption
end
end
/-! ### Kernel.Depart. -/
section
open Go.RowKit Go.Shelf
set_option linter.unusedVariables false
set_option linter.unusedSimpArgs false
set_option maxRecDepth 100000
section
variable {R : Ending → World → Prop} {w : World} {B m : Nat} {a : KA} {k : KS}
/-- What a departure does. -/
def kDep (k : KS) (l : List UInt8) (env e : Int) (k' : KS) : Prop :=
  (k.qo = [] ∧ l = [] ∧ env = 0 ∧ e = 11 ∧ k' = k) ∨ (∃ y q, k.qo = y :: q ∧ l = (fetF k.fs y.l).2 ∧ env = y.env ∧ e = 0 ∧ k' = { k with fs := dropAll k.fs y.l, fo := k.fo + 1, qo := q, dn := k.dn + 1 })
set_option maxHeartbeats 4000000 in
theorem kdep_any (hK : Kn w B a k) (hm : k.cnt m) (hm2 : m ≤ 10000) (hd : ∀ y q, k.qo = y :: q → dropOk k.fs y.l)
    (h : ∀ A len cc l env e k' a' w', Hid (kDep k l env e k') → Kq B w w' → (Kn w' B a' k' ∧ a'.g = a.g ∧ a'.bT = a.bT) → l.length = len → Tb w' 5 A (bts l) → R (.returned (.tuple #[.slice A len cc, .int .i64 env, .int .i64 e])) w') :
    Calls Tryz.prog 14 #[.pointer (some ⟨a.g, 0, none⟩)] w R := by
  have H := Lib.hid h
  have HK := Lib.hid hK
  have HM := Lib.hid hm
  have HD := Lib.hid hd
  have hco := hm.co
  have hdn := hm.dn
  have hBB := hK.hB
  have c7 : w.cell? ⟨a.g, 7, none⟩ = some (.pointer (some ⟨a.so, 0, none⟩)) := hK.cell 7
  clear h hK hm hd
  cases hq : k.qo with
  | nil =>
    have HQ := Lib.hid hq
    clear hq
    go_enter Tryz.func14, Tryz.ntmps14
    go_wp2_with (go_at_call 62; (refine ttake_any HK.out.o HK.out.new.n7 (by omega) (fun _ w1 k1 => ?_) (fun x q hxq w1 k1 r1 t1 => absurd hxq.out (by rw [HQ.out]; simp))))
    go_ret3
    exact H.out none 0 0 [] 0 11 k a _ (Lib.hid (.inl ⟨HQ.out, rfl, rfl, rfl, rfl⟩)) (Kq.of0 (k1.alloc _)) ⟨HK.out.off0 (k1.alloc _), rfl, rfl⟩ rfl Tb.nil
  | cons y q =>
    have HQ := Lib.hid hq
    have hyl := (HK.out.o.data y (by rw [hq]; simp))
    clear hq
    go_enter Tryz.func14, Tryz.ntmps14
    go_upto_region 6 with (go_at_call 62; (refine ttake_any HK.out.o HK.out.new.n7 (by omega) (fun hh w1 k1 => absurd hh (by rw [HQ.out]; simp)) (fun x q' hxq w1 k1 r1 t1 => ?_)); obtain ⟨rfl, rfl⟩ : y = x ∧ q = q' := by have := HQ.out.symm.trans hxq.out; injection this with a b; exact ⟨a, b⟩)
    obtain ⟨n1, q1⟩ := HK.out.setO k1 r1
    have ka : Kp [] w1 (w1.alloc (.cells #[.int .i64 y.env, .slice y.A y.n y.c] 120)) := (Kp.refl _ _).alloc _
    have hbx : Bk (w1.alloc (.cells #[.int .i64 y.env, .slice y.A y.n y.c] 120)) w1.heap.size 120 [.int .i64 y.env, .slice y.A y.n y.c] := (Bk.newAt rfl _ _).cast rfl
    obtain ⟨W, hW⟩ : ∃ W, w1.alloc (.cells #[.int .i64 y.env, .slice y.A y.n y.c] 120) = W := ⟨_, rfl⟩
    obtain ⟨xb, hxb⟩ : ∃ xb, w1.heap.size = xb := ⟨_, rfl⟩
    rw [hW] at ka hbx ⊢
    rw [hxb] at hbx ⊢
    have N1 := Lib.hid (n1.off0 ka)
    have Q1 := Lib.hid (q1.trans (Kq.of0 (B := B) ka))
    have BX := Lib.hid hbx
    have T1 := Lib.hid (t1.kp ka (Off.nil _ _))
    have hyn := hyl.2.1
    have hyL := hyl.1
    clear n1 q1 ka hbx hW hxb k1 r1 t1 hyl c7
    have HS : Hid (∀ w', Kp [a.bL] W w' → w'.cell? ⟨a.g, 0, none⟩ = some (.pointer (some ⟨a.bT, 0, none⟩)) ∧ w'.cell? ⟨xb, 1, none⟩ = some (.slice y.A y.n y.c)) := Lib.hid (fun w' k' => ⟨(N1.out.g.off k' (Off.one N1.out.t.l.ty (by decide))).cell 0, (BX.out.off k' (Off.one N1.out.t.l.ty (by decide))).cell 1⟩)
    obtain ⟨q0, q1⟩ := HS.out W (Kp.refl _ _)
    go_region_held_law (fun w' => w'.cell? ⟨a.g, 0, none⟩ = some (.pointer (some ⟨a.bT, 0, none⟩)) ∧ w'.cell? ⟨xb, 1, none⟩ = some (.slice y.A y.n y.c)) ((refine HS.out _ ?_; repeat (first | with_reducible exact kk2.mono (by simp) | with_reducible exact Kp.refl _ _ | with_reducible refine Kp.drew ?_))) ((go_simp; go_at_call 63; (refine gfetch_any (N1.out.t.kp (S := []) (by repeat (first | with_reducible exact Kp.refl _ _ | with_reducible refine Kp.drew ?_)) (by simp) (by simp)) (l := y.l) ((T1.out.kp (by repeat (first | with_reducible exact Kp.refl _ _ | with_reducible refine Kp.drew ?_)) (Off.nil _ _)).rd0) hyL (by omega) ?_); intro e2 o2 A2 c2 w2 hf k2 ow2 b2; have kk2 : Kp [] W w2 := Kp.trans (by repeat (first | with_reducible exact Kp.refl _ _ | with_reducible refine Kp.drew ?_)) k2))
    have HFt := Lib.hid hf
    have N2 := Lib.hid (N1.out.off0 kk2)
    have Q2 := Lib.hid (Q1.out.trans (Kq.of0 (B := B) kk2))
    have BX2 := Lib.hid (BX.out.kp kk2 (by simp))
    have T2 := Lib.hid (T1.out.kp kk2 (Off.nil _ _))
    have O2 := Lib.hid ow2.tb
    clear q0 q1 HS N1 Q1 BX T1 kk2 k2 ow2 b2 hf
    have HS : Hid (∀ w', Kp [a.bL] w2 w' → w'.cell? ⟨a.g, 0, none⟩ = some (.pointer (some ⟨a.bT, 0, none⟩)) ∧ w'.cell? ⟨xb, 1, none⟩ = some (.slice y.A y.n y.c)) := Lib.hid (fun w' k' => ⟨(N2.out.g.off k' (Off.one N2.out.t.l.ty (by decide))).cell 0, (BX2.out.off k' (Off.one N2.out.t.l.ty (by decide))).cell 1⟩)
    obtain ⟨q0, q1⟩ := HS.out w2 (Kp.refl _ _)
    go_upto_region 7 with (fail)
    go_region_held_law (fun w' => w'.cell? ⟨a.g, 0, none⟩ = some (.pointer (some ⟨a.bT, 0, none⟩)) ∧ w'.cell? ⟨xb, 1, none⟩ = some (.slice y.A y.n y.c)) ((refine HS.out _ ?_; repeat (first | with_reducible exact kk3 | with_reducible exact Kp.refl _ _ | with_reducible refine Kp.drew ?_))) ((go_simp; go_at_call 64; (refine gdrop_any (N := [a.bL]) (N2.out.t.kp (S := []) (by repeat (first | with_reducible exact Kp.refl _ _ | with_reducible refine Kp.drew ?_)) (by simp) (by simp)) (l := y.l) ((T2.out.kp (by repeat (first | with_reducible exact Kp.refl _ _ | with_reducible refine Kp.drew ?_)) (Off.nil _ _)).rd (Off.one (N2.out.t.kp (S := []) (by repeat (first | with_reducible exact Kp.refl _ _ | with_reducible refine Kp.drew ?_)) (by simp) (by simp)).l.ty (by decide))) (fun s hs => .inl hs) hyL (by omega) (fun z hz => by have := HM.out.ho z hz; omega) (HD.out y q HQ.out) ?_); intro w3 k3 t3; have kk3 : Kp [a.bL] w2 w3 := Kp.trans (by repeat (first | with_reducible exact Kp.refl _ _ | with_reducible refine Kp.drew ?_)) k3))
    obtain ⟨n3, q3⟩ := N2.out.setT kk3 t3
    have N3 := Lib.hid n3
    have Q3 := Lib.hid (Q2.out.trans q3)
    have BX3 := Lib.hid (BX2.out.off kk3 (Off.one N2.out.t.l.ty (by decide)))
    have O3 := Lib.hid (O2.out.kp kk3 (Off.one N2.out.t.l.ty (by decide)))
    clear q0 q1 HS kk3 k3 t3 n3 q3
    have c8 : w3.cell? ⟨a.g, 8, none⟩ = some (.int .i64 k.dn) := N3.out.cell 8
    have f8 := N3.out.g.frozen 8
    have b0 : w3.cell? ⟨xb, 0, none⟩ = some (.int .i64 y.env) := BX3.out.cell 0
    have hne : xb ≠ a.g := BX3.out.ne_ N3.out.g (by decide)
    go_upto_region 9 with (fail)
    have ks : Kp [a.g] w3 (w3.setCell ⟨a.g, 8, none⟩ (.int .i64 ((k.dn : Int) + 1))) := (Kp.refl _ _).setCell (p := ⟨a.g, 8, none⟩) (.inl (by simp)) _
    have oK : ∀ e, 114 ≠ e → Off w3 [a.g] e := fun e he => Off.one N3.out.g.ty he
    obtain ⟨n9, q9⟩ := N3.out.setF (fA' := a.fA) (fc' := a.fc) (nx' := k.nx) (dn' := k.dn + 1) (fl' := k.fl) (ks.mono (by simp)) ((N3.out.g.set_ 8 _).cast (by simp [KA.cells])) (N3.out.fl.off ks (oK _ (by decide))) N3.out.new.fA (fun z hz => ⟨(N3.out.fd z hz).1, (N3.out.fd z hz).2.1, (N3.out.fd z hz).2.2.kp ks (oK _ (by decide))⟩)
    have o9 := O3.out.kp ks (oK _ (by decide))
    have N9 := Lib.hid n9
    have Q9 := Lib.hid (Q3.out.trans q9)
    have O9 := Lib.hid o9
    have HR9 : Hid (kDep k o2 y.env 0 { k with fs := dropAll k.fs y.l, fo := k.fo + 1, qo := q, dn := k.dn + 1 }) := Lib.hid (.inr ⟨y, q, HQ.out, by rw [HFt.out], rfl, rfl, rfl⟩)
    have b9 : (w3.setCell ⟨a.g, 8, none⟩ (.int .i64 ((k.dn : Int) + 1))).cell? ⟨xb, 0, none⟩ = some (.int .i64 y.env) := (BX3.out.off ks (oK _ (by decide))).cell 0
    obtain ⟨W9, hW9⟩ : ∃ W9, w3.setCell ⟨a.g, 8, none⟩ (.int .i64 ((k.dn : Int) + 1)) = W9 := ⟨_, rfl⟩
    rw [hW9] at N9 Q9 O9 b9 ⊢
    clear n9 q9 o9 ks hW9 c8 f8 b0
    go_quiet (fail)
    go_wp2
    go_ret3
    have kd : ∀ n, Kp [] W9 (W9.drewN n) := fun n => (Kp.refl [] W9).drewN n
    exact H.out A2 o2.length c2 o2 y.env 0 _ a _ HR9 (Q9.out.trans (Kq.of0 (kd _))) ⟨N9.out.off0 (kd _), rfl, rfl⟩ rfl (O9.out.kp (kd _) (Off.nil _ _))
end
end
/-! ### The holds of a kernel's frames are those of its transfers, in plain words. -/
section
open Go.RowKit Go.Shelf
set_option linter.unusedVariables false
set_option linter.unusedSimpArgs false
set_option maxRecDepth 100000

/-- How many pieces name the frame f. -/
def cntP (l : List Pc) (f : Nat) : Nat := (l.filter (fun p => p.f.toNat == f)).length
theorem cntP_cons (p : Pc) (l : List Pc) (f : Nat) : cntP (p :: l) f = (if p.f.toNat = f then 1 else 0) + cntP l f := by
  unfold cntP
  by_cases h : p.f.toNat = f
  · rw [List.filter_cons_of_pos (by simp [h]), if_pos h, List.length_cons]; omega
  · rw [List.filter_cons_of_neg (by simp [h]), if_neg h]; omega
theorem cntP_app (a b : List Pc) (f : Nat) : cntP (a ++ b) f = cntP a f + cntP b f := by simp [cntP]
def frUp (d : Int) (x : Fr) : Fr := { x with ho := x.ho + d }
theorem set_map {fs : List Fr} {i : Nat} {x : Fr} (hx : fs[i]? = some x) (d : Int) (f : Nat) : (fs.set i (frUp d x))[f]? = (fs[f]?).map (frUp (if i = f then d else 0)) := by
  by_cases h : i = f
  · subst h
    rw [List.getElem?_set_self (List.getElem?_eq_some_iff.1 hx).1, hx, if_pos rfl]; rfl
  · rw [List.getElem?_set_ne h, if_neg h]
    cases fs[f]? with
    | none => rfl
    | some y => simp [frUp]
theorem tHold_at {fs : List Fr} {env g : Int} (he : envB env = true) (h0 : 0 ≤ g) (h1 : g < fs.length) (ho : tOwner fs g = env) (f : Nat) :
    (tHold fs env g).2[f]? = (fs[f]?).map (frUp (if g.toNat = f then 1 else 0)) := by
  have hl : g.toNat < fs.length := by omega
  have hx : fs[g.toNat]? = some fs[g.toNat] := List.getElem?_eq_getElem hl
  have hf : fat fs g = some fs[g.toNat] := by unfold fat; rw [if_pos h0, hx]
  have hw : fs[g.toNat].ow = env := by unfold tOwner at ho; rw [hf] at ho; exact ho
  have e0 : ownE fs env g = 0 := by unfold ownE; rw [if_pos he, hf]; simp [hw]
  unfold tHold
  rw [if_pos e0, hf]
  exact set_map hx 1 f
theorem up_up {fs gs : List Fr} {a b : Nat → Int} (h1 : ∀ f, gs[f]? = (fs[f]?).map (frUp (a f))) {hs : List Fr} (h2 : ∀ f, hs[f]? = (gs[f]?).map (frUp (b f))) (f : Nat) : hs[f]? = (fs[f]?).map (frUp (a f + b f)) := by
  rw [h2, h1]
  cases fs[f]? with
  | none => rfl
  | some x => simp [frUp, Int.add_assoc]
theorem up_len {fs gs : List Fr} {a : Nat → Int} (h1 : ∀ f, gs[f]? = (fs[f]?).map (frUp (a f))) : gs.length = fs.length := by
  rcases Nat.lt_trichotomy gs.length fs.length with h | h | h
  · have := h1 gs.length
    rw [List.getElem?_eq_none (Nat.le_refl _), List.getElem?_eq_getElem h] at this
    cases this
  · exact h
  · have := h1 fs.length
    rw [List.getElem?_eq_none (l := fs) (Nat.le_refl _), List.getElem?_eq_getElem h] at this
    cases this
theorem up_own {fs gs : List Fr} {a : Nat → Int} (h1 : ∀ f, gs[f]? = (fs[f]?).map (frUp (a f))) (g : Int) : tOwner gs g = tOwner fs g := by
  unfold tOwner fat
  by_cases h : 0 ≤ g
  · rw [if_pos h, if_pos h, h1]
    cases fs[g.toNat]? with
    | none => rfl
    | some x => rfl
  · rw [if_neg h, if_neg h]
theorem holdAll_at {env : Int} (he : envB env = true) : ∀ (l : List Pc) (fs : List Fr), (∀ p ∈ l, 0 ≤ p.f ∧ p.f < fs.length ∧ tOwner fs p.f = env) → ∀ f, (holdAll fs env l)[f]? = (fs[f]?).map (frUp (cntP l f))
  | [], fs, _, f => by
    show fs[f]? = _
    cases fs[f]? with
    | none => rfl
    | some x => simp [frUp, cntP]
  | p :: l, fs, h, f => by
    obtain ⟨a, b, c⟩ := h p (by simp)
    have h1 := tHold_at he a b c
    have ih := holdAll_at he l (tHold fs env p.f).2 (fun q hq => by
      obtain ⟨x, y, z⟩ := h q (by simp [hq])
      exact ⟨x, by rw [up_len h1]; exact y, by rw [up_own h1]; exact z⟩)
    have := up_up h1 ih f
    show (holdAll (tHold fs env p.f).2 env l)[f]? = _
    rw [this, cntP_cons]
    congr 2
    split <;> simp
theorem tDrop_at {fs : List Fr} {g : Int} (h0 : 0 ≤ g) (h1 : g < fs.length) (hh : ∀ x, fs[g.toNat]? = some x → x.ho ≠ 0) :
    (tDrop fs g).1 = 0 ∧ ∀ f : Nat, (tDrop fs g).2[f]? = (fs[f]?).map (frUp (-(if g.toNat = f then 1 else 0))) := by
  have hl : g.toNat < fs.length := by omega
  have hx : fs[g.toNat]? = some fs[g.toNat] := List.getElem?_eq_getElem hl
  have hf : fat fs g = some fs[g.toNat] := by unfold fat; rw [if_pos h0, hx]
  have hw := hh _ hx
  have e0 : heldE fs g = 0 := by unfold heldE; rw [hf]; simp [hw]
  unfold tDrop
  rw [if_pos e0, hf]
  refine ⟨rfl, fun f => ?_⟩
  have := set_map hx (-1) f
  show (fs.set g.toNat (frUp (-1) fs[g.toNat]))[f]? = _
  rw [this]
  congr 2
  split <;> rfl
theorem kdropAll_at : ∀ (l : List Pc) (fs : List Fr), (∀ p ∈ l, 0 ≤ p.f ∧ p.f < fs.length) → (∀ f x, fs[f]? = some x → (cntP l f : Int) ≤ x.ho) → dropOk fs l ∧ ∀ f, (dropAll fs l)[f]? = (fs[f]?).map (frUp (-(cntP l f)))
  | [], fs, _, _ => ⟨trivial, fun f => by
    show fs[f]? = _
    cases fs[f]? with
    | none => rfl
    | some x => simp [frUp, cntP]⟩
  | p :: l, fs, h, hc => by
    obtain ⟨a, b⟩ := h p (by simp)
    obtain ⟨h0, h1⟩ := tDrop_at a b (fun x hx => by
      have := hc _ x hx
      rw [cntP_cons, if_pos rfl] at this
      omega)
    obtain ⟨i1, i2⟩ := kdropAll_at l (tDrop fs p.f).2 (fun q hq => by
      obtain ⟨x, y⟩ := h q (by simp [hq])
      exact ⟨x, by rw [up_len h1]; exact y⟩) (fun f x hx => by
      rw [h1] at hx
      cases hq : fs[f]? with
      | none => rw [hq] at hx; cases hx
      | some y =>
        rw [hq] at hx
        injection hx with hx
        subst hx
        have := hc f y hq
        rw [cntP_cons] at this
        simp only [frUp]
        split at this <;> simp_all <;> omega)
    refine ⟨⟨h0, i1⟩, fun f => ?_⟩
    have := up_up h1 i2 f
    show (dropAll (tDrop fs p.f).2 l)[f]? = _
    rw [this, cntP_cons]
    congr 2
    split <;> simp <;> omega

/-! ### the law -/
/-- Each frame's holds are the pieces that name it. -/
structure HInv (k : KS) : Prop where
  rng : ∀ y ∈ k.qo, ∀ p ∈ y.l, 0 ≤ p.f ∧ p.f < k.fs.length
  cnt : ∀ (f : Nat) (x : Fr), k.fs[f]? = some x → x.ho = (cntP (k.qo.flatMap (·.l)) f : Nat)
def sameHo (fs gs : List Fr) : Prop := gs.length = fs.length ∧ ∀ (f : Nat) (y : Fr), gs[f]? = some y → ∃ x, fs[f]? = some x ∧ y.ho = x.ho
theorem sameHo.refl (fs : List Fr) : sameHo fs fs := ⟨rfl, fun f y h => ⟨y, h, rfl⟩⟩
theorem sameHo_set {fs : List Fr} {i : Nat} {x z : Fr} (hx : fs[i]? = some x) (hz : z.ho = x.ho) : sameHo fs (fs.set i z) := ⟨by simp, fun f y h => by
  by_cases e : i = f
  · subst e
    rw [List.getElem?_set_self (List.getElem?_eq_some_iff.1 hx).1] at h
    injection h with h; subst h
    exact ⟨x, hx, hz⟩
  · rw [List.getElem?_set_ne e] at h
    exact ⟨y, h, rfl⟩⟩
theorem HInv.same {k k' : KS} (h : HInv k) (hq : k'.qo = k.qo) (hs : sameHo k.fs k'.fs) : HInv k' :=
  ⟨by rw [hq, hs.1]; exact h.rng, fun f y hy => by
    obtain ⟨x, hx, e⟩ := hs.2 f y hy
    rw [e, hq]; exact h.cnt f x hx⟩
theorem tAlloc_same (fs : List Fr) (e : Int) : sameHo fs (tAlloc fs e).2.2 := by
  unfold tAlloc
  split
  · cases hf : fs.findIdx? (fun x => x.ow == 0) with
    | none => exact sameHo.refl _
    | some i =>
      simp only
      cases hi : fs[i]? with
      | none => exact sameHo.refl _
      | some z => exact sameHo_set hi rfl
  · exact sameHo.refl _
theorem tFree_same (fs : List Fr) (e g : Int) (h : ∀ x ∈ fs, 0 ≤ x.ho) : sameHo fs (tFree fs e g).2 := by
  unfold tFree
  split
  · rename_i hq
    unfold quietE at hq
    split at hq
    · omega
    · split at hq
      · omega
      · rename_i x hx
        split at hq
        · omega
        · refine sameHo_set (fat_some hx).2 ?_
          have := h x (List.mem_of_getElem? (fat_some hx).2)
          show (0 : Int) = _
          omega
  · exact sameHo.refl _
theorem tGive_same (fs : List Fr) (e g t : Int) : sameHo fs (tGive fs e g t).2 := by
  unfold tGive
  split
  · split
    · exact sameHo.refl _
    · split
      · exact sameHo.refl _
      · rename_i x hx
        split
        · exact sameHo.refl _
        · exact sameHo_set (fat_some hx).2 rfl
  · exact sameHo.refl _
theorem tWrite_same (fs : List Fr) (e g t : Int) (s : List UInt8) : sameHo fs (tWrite fs e g t s).2 := by
  unfold tWrite
  split
  · split
    · exact sameHo.refl _
    · split
      · exact sameHo.refl _
      · rename_i x hx
        split
        · exact sameHo.refl _
        · exact sameHo_set (fat_some hx).2 rfl
  · exact sameHo.refl _
theorem HInv.pos {k : KS} (h : HInv k) : ∀ x ∈ k.fs, 0 ≤ x.ho := fun x hx => by
  obtain ⟨f, hf⟩ := List.getElem?_of_mem hx
  rw [h.cnt f x hf]; omega
theorem kFB_same {k : KS} {x : Kc} (h : HInv k) : sameHo k.fs (kFB k x).k.fs ∧ (kFB k x).k.qo = k.qo := by
  unfold kFB
  split
  · exact ⟨tAlloc_same _ _, rfl⟩
  · split
    · exact ⟨tFree_same _ _ _ h.pos, rfl⟩
    · split
      · exact ⟨tGive_same _ _ _ _, rfl⟩
      · split
        · exact ⟨sameHo.refl _, rfl⟩
        · split
          · exact ⟨tWrite_same _ _ _ _ _, rfl⟩
          · split
            · exact ⟨sameHo.refl _, rfl⟩
            · split
              · exact ⟨sameHo.refl _, rfl⟩
              · exact ⟨sameHo.refl _, rfl⟩
theorem checkE_ok {fs : List Fr} {env : Int} {l : List Pc} (h : checkE fs env l = 0) : envB env = true ∧ ∀ p ∈ l, 1 ≤ p.n ∧ wB p = true ∧ 0 ≤ p.f ∧ p.f < fs.length ∧ tOwner fs p.f = env := by
  unfold checkE at h
  split at h
  · omega
  · rename_i h1
    split at h
    · omega
    · rename_i h2
      split at h
      · omega
      · split at h
        · omega
        · rename_i h4
          refine ⟨by simp at h1; exact h1.1, fun p hp => ?_⟩
          have hk : kbad fs.length p = false := by
            rw [Bool.eq_false_iff]; intro hb
            exact h2 (List.any_eq_true.2 ⟨p, hp, hb⟩)
          have ⟨a, b, c, d⟩ := tOwner_range hk
          have ho : (tOwner fs p.f != env) = false := by
            rw [Bool.eq_false_iff]; intro hb
            exact h4 (List.any_eq_true.2 ⟨p, hp, hb⟩)
          exact ⟨a, b, c, d, by simpa using ho⟩
theorem HInv.step {k k' : KS} {x : Kc} {n e : Int} {l : List UInt8} (h : HInv k) (hs : kStep k x n l e k') : HInv k' := by
  unfold kStep at hs
  split at hs
  · obtain ⟨_, _, _, rfl⟩ := hs
    exact h
  · split at hs
    · have := kFB_same (x := x) h
      rw [hs] at this
      exact h.same this.2 this.1
    · split at hs
      · rcases hs.1 with ⟨_, _, _, rfl⟩ | ⟨_, _, _, _, rfl⟩ | ⟨_, _, _, _, y, _, _, _, rfl⟩
        · exact h
        · exact h
        · exact h.same rfl (sameHo.refl _)
      · split at hs
        · rcases hs.1 with ⟨_, _, rfl⟩ | ⟨i, _, _, rfl⟩
          · exact h
          · exact h.same rfl (sameHo.refl _)
        · split at hs
          · rcases hs.1 with ⟨_, _, _, rfl⟩ | ⟨_, _, _, _, rfl⟩ | ⟨_, hc, _, _, y, _, hyl, rfl⟩
            · exact h
            · exact h
            · obtain ⟨he, hp⟩ := checkE_ok hc
              have ha := holdAll_at he x.l k.fs (fun p hpp => ⟨(hp p hpp).2.2.1, (hp p hpp).2.2.2.1, (hp p hpp).2.2.2.2⟩)
              refine ⟨fun z hz p hpz => ?_, fun f z hz => ?_⟩
              · show 0 ≤ p.f ∧ p.f < (holdAll k.fs x.env x.l).length
                rw [up_len ha]
                rcases List.mem_append.1 hz with hz | hz
                · exact h.rng z hz p hpz
                · simp at hz; subst hz
                  rw [hyl] at hpz
                  exact ⟨(hp p hpz).2.2.1, (hp p hpz).2.2.2.1⟩
              · have hz' : (holdAll k.fs x.env x.l)[f]? = some z := hz
                rw [ha] at hz'
                cases hq : k.fs[f]? with
                | none => rw [hq] at hz'; cases hz'
                | some w =>
                  rw [hq] at hz'
                  injection hz' with hz'
                  subst hz'
                  have := h.cnt f w hq
                  show w.ho + _ = _
                  rw [this]
                  simp only [List.flatMap_append, List.flatMap_cons, List.flatMap_nil, List.append_nil, cntP_app, hyl]
                  omega
          · split at hs
            · split at hs
              · rcases hs with ⟨_, _, _, _, rfl⟩ | ⟨y, q, _, _, _, _, rfl⟩
                · exact h
                · exact h.same rfl (sameHo.refl _)
              · rcases hs with ⟨_, _, _, _, rfl⟩ | ⟨y, q, _, _, _, _, rfl⟩
                · exact h
                · exact h.same rfl (sameHo.refl _)
            · obtain ⟨_, _, _, rfl⟩ := hs
              exact h
theorem HInv.first {k : KS} (h : HInv k) {y : Tq} {q : List Tq} (hq : k.qo = y :: q) : dropOk k.fs y.l ∧ ∀ f, (dropAll k.fs y.l)[f]? = (k.fs[f]?).map (frUp (-(cntP y.l f))) :=
  kdropAll_at y.l k.fs (fun p hp => h.rng y (by rw [hq]; simp) p hp) (fun f x hx => by
    rw [h.cnt f x hx, hq, List.flatMap_cons, cntP_app]; omega)
theorem HInv.dep {k k' : KS} {env e : Int} {l : List UInt8} (h : HInv k) (hd : kDep k l env e k') : HInv k' := by
  rcases hd with ⟨_, _, _, _, rfl⟩ | ⟨y, q, hq, _, _, _, rfl⟩
  · exact h
  · obtain ⟨_, ha⟩ := h.first hq
    refine ⟨fun z hz p hp => ?_, fun f z hz => ?_⟩
    · show 0 ≤ p.f ∧ p.f < (dropAll k.fs y.l).length
      rw [up_len ha]
      exact h.rng z (by rw [hq]; exact List.mem_cons_of_mem _ hz) p hp
    · have hz' : (dropAll k.fs y.l)[f]? = some z := hz
      rw [ha] at hz'
      cases hk : k.fs[f]? with
      | none => rw [hk] at hz'; cases hz'
      | some w =>
        rw [hk] at hz'
        injection hz' with hz'
        subst hz'
        have := h.cnt f w hk
        rw [hq, List.flatMap_cons, cntP_app] at this
        show w.ho + _ = (cntP (q.flatMap _) f : Int)
        rw [this]; omega
theorem hoIn_up {fs gs : List Fr} {a : Nat → Int} {hi : Int} (h1 : ∀ f, gs[f]? = (fs[f]?).map (frUp (-a f))) (ha : ∀ f, 0 ≤ a f) (h : hoIn fs hi) (hp : ∀ y ∈ gs, 0 ≤ y.ho) : hoIn gs hi := fun y hy => by
  refine ⟨hp y hy, ?_⟩
  obtain ⟨f, hf⟩ := List.getElem?_of_mem hy
  rw [h1] at hf
  cases hk : fs[f]? with
  | none => rw [hk] at hf; cases hf
  | some w =>
    rw [hk] at hf
    injection hf with hf
    subst hf
    have := h w (List.mem_of_getElem? hk)
    have := ha f
    show w.ho + -a f ≤ hi
    omega
theorem kDep_cnt {k k' : KS} {env e : Int} {l : List UInt8} {m : Nat} (hd : kDep k l env e k') (hi : HInv k) (h : k.cnt m) : k'.cnt (m + 1) := by
  have hh : hoIn k.fs (16 * m) := h.ho
  have hi' := hi.dep hd
  rcases hd with ⟨_, _, _, _, rfl⟩ | ⟨y, q, hq, _, _, _, rfl⟩
  · exact ⟨by have := h.ln; omega, by have := h.nx; omega, by have := h.c1; omega, by have := h.c2; omega, by have := h.co; omega, by have := h.dn; omega, h.fl, fun y hy => by have := hh y hy; omega⟩
  · obtain ⟨_, ha⟩ := hi.first hq
    have := hoIn_up (a := fun f => (cntP y.l f : Int)) ha (fun f => by omega) hh hi'.pos
    exact ⟨by have := h.ln; show k.d.ln.length ≤ _; omega, by have := h.nx; show k.nx ≤ _; omega, by have := h.c1; show k.f1 + k.q1.length ≤ _; omega, by have := h.c2; show k.f2 + k.q2.length ≤ _; omega, by have := h.co; rw [hq] at this; simp at this; show k.fo + 1 + q.length ≤ _; omega, by have := h.dn; show k.dn + 1 ≤ _; omega, h.fl, fun z hz => by have := this z hz; omega⟩
theorem HInv_kz0 (F N : Nat) : HInv (kz0 F N) := ⟨by simp [kz0], fun f x hx => by
  simp only [kz0] at hx
  have := List.mem_of_getElem? hx
  rw [List.eq_of_mem_replicate this]
  simp [kz0, fz, cntP]⟩
/-! ### the filters -/
structure FInv (k : KS) : Prop where
  env : ∀ b ∈ k.fl, b.env = 1 ∨ b.env = 2
  chk : ∀ b ∈ k.fl, fchk b.p = true
  ok : ∀ b ∈ k.fl, ∀ o ∈ b.p, o.ok
theorem FInv.same {k k' : KS} (h : FInv k) (e : k'.fl = k.fl) : FInv k' := ⟨by rw [e]; exact h.env, by rw [e]; exact h.chk, by rw [e]; exact h.ok⟩
theorem kFB_fl (k : KS) (x : Kc) : (kFB k x).k.fl = k.fl := by
  unfold kFB
  repeat (first | rfl | (split; · rfl))
theorem FInv.step {k k' : KS} {x : Kc} {n e : Int} {l : List UInt8} (h : FInv k) (hx : ∀ o ∈ x.p, o.ok) (hs : kStep k x n l e k') : FInv k' := by
  unfold kStep at hs
  split at hs
  · obtain ⟨_, _, _, rfl⟩ := hs
    exact h
  · rename_i hen
    split at hs
    · have := kFB_fl k x
      rw [hs] at this
      exact h.same this
    · split at hs
      · rcases hs.1 with ⟨_, _, _, rfl⟩ | ⟨_, _, _, _, rfl⟩ | ⟨_, hc, _, _, y, _, hy1, hy2, rfl⟩
        · exact h
        · exact h
        · have hm : ∀ b ∈ k.fl ++ [y], b ∈ k.fl ∨ b = y := fun b hb => by simpa using hb
          refine ⟨fun b hb => ?_, fun b hb => ?_, fun b hb => ?_⟩
          · rcases hm b hb with hb | rfl
            · exact h.env b hb
            · rw [hy1]; omega
          · rcases hm b hb with hb | rfl
            · exact h.chk b hb
            · rw [hy2]; exact hc
          · rcases hm b hb with hb | rfl
            · exact h.ok b hb
            · rw [hy2]; exact hx
      · split at hs
        · rcases hs.1 with ⟨_, _, rfl⟩ | ⟨i, _, _, rfl⟩
          · exact h
          · have hm : ∀ b ∈ k.fl.eraseIdx i, b ∈ k.fl := fun b hb => List.mem_of_mem_eraseIdx hb
            exact ⟨fun b hb => h.env b (hm b hb), fun b hb => h.chk b (hm b hb), fun b hb => h.ok b (hm b hb)⟩
        · split at hs
          · rcases hs.1 with ⟨_, _, _, rfl⟩ | ⟨_, _, _, _, rfl⟩ | ⟨_, hc, _, _, y, _, hyl, rfl⟩
            · exact h
            · exact h
            · exact h.same rfl
          · split at hs
            · split at hs
              · rcases hs with ⟨_, _, _, _, rfl⟩ | ⟨y, q, _, _, _, _, rfl⟩
                · exact h
                · exact h.same rfl
              · rcases hs with ⟨_, _, _, _, rfl⟩ | ⟨y, q, _, _, _, _, rfl⟩
                · exact h
                · exact h.same rfl
            · obtain ⟨_, _, _, rfl⟩ := hs
              exact h
end
end Go.Proofs.YtedblbpmlbjnhaaGreat
