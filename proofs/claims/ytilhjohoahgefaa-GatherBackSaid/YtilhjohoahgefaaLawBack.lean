/- pantlerlaw08.GatherBack: the law's walk. -/
import Derived.Test.YtilhjohoahgefaaBackLaw
import Derived.Test.YtilhjohoahgefaaLawGNil
namespace Go.Proofs.Ytilhjohoahgefaa
open Go.RowKit
set_option linter.unusedVariables false
set_option linter.unusedSimpArgs false
set_option maxRecDepth 100000
section
variable {R : Ending → World → Prop} {w : World}
/-- The table while it is laid. -/
def laidT (k : Nat) (A B C : List UInt8) : List Fr :=
  [if 0 < k then ⟨1, 0, A⟩ else fz, if 1 < k then ⟨1, 0, B⟩ else fz, if 2 < k then ⟨1, 0, C⟩ else fz]
theorem laid_step {k : Nat} (hk : k < 3) (A B C l : List UInt8) (hA : A.length = 256) (hB : B.length = 256) (hC : C.length = 256) (hl : spanB k l.length = true) :
    ∃ fs A' B' C', tAlloc (laidT k A B C) 1 = ((k : Int), 0, fs) ∧ tWrite fs 1 k k l = (0, laidT (k + 1) A' B' C') ∧ A'.length = 256 ∧ B'.length = 256 ∧ C'.length = 256 := by
  have hp := putB_len fz_len hl
  rcases (by omega : k = 0 ∨ k = 1 ∨ k = 2) with rfl | rfl | rfl
  · refine ⟨[fw 1, fz, fz], putB fz.bs 0 l, B, C, rfl, ?_, hp, hB, hC⟩
    simp at hl; simp [tWrite, ownE, envB, fat, fw, hl, laidT, fz]
  · refine ⟨[⟨1, 0, A⟩, fw 1, fz], A, putB fz.bs 1 l, C, rfl, ?_, hA, hp, hC⟩
    simp at hl; simp [tWrite, ownE, envB, fat, fw, hl, laidT, fz]
  · refine ⟨[⟨1, 0, A⟩, ⟨1, 0, B⟩, fw 1], A, B, putB fz.bs 2 l, rfl, ?_, hA, hB, hp⟩
    simp at hl; simp [tWrite, ownE, envB, fat, fw, hl, laidT, fz]

theorem Ow.cap {w : World} {e sz : Nat} {A : Option Addr} {n c : Nat} {xs : List Value} (h : Ow w e sz A n c xs) (hn : 0 < n) : n ≤ c := by
  rcases h.2 with ⟨_, h0⟩ | ⟨g, cap, cur, hv, _, _, hc, _⟩
  · omega
  · simp only [Value.slice.injEq] at hv
    omega
theorem cnt_le (l : List Pc) (f : Int) : cnt l f ≤ l.length := by unfold cnt; have := List.length_filter_le (fun p : Pc => p.f == f) l; omega
theorem check_good {A B C : List UInt8} {l : List Pc} (he : checkE (tbl A B C 0 0 0) 1 l = 0) (hl : l.length ≤ 100) : (∀ p ∈ l, in3 p ∧ wB p = true ∧ 1 ≤ p.n) ∧ psz l ≤ 1024 ∧ l.any cbad = false ∧ psz l = psum l := by
  unfold checkE at he
  split at he
  · simp at he
  split at he
  · simp at he
  rename_i _ hk
  split at he
  · simp at he
  rename_i hz
  have hp : ∀ p ∈ l, in3 p ∧ wB p = true ∧ 1 ≤ p.n := by
    intro p hp
    have := List.any_eq_false.1 (by simpa using hk) p hp
    obtain ⟨h1, h2, h3, h4⟩ := tOwner_range (fs := tbl A B C 0 0 0) (p := p) (by simpa using this)
    simp [tbl] at h4
    exact ⟨by unfold in3; omega, h2, h1⟩
  refine ⟨hp, by omega, ?_, ?_⟩
  · rw [List.any_eq_false]
    intro p hq
    obtain ⟨h1, h2, _⟩ := hp p hq
    have h3 : ¬ (p.f < 0 ∨ 256 < p.f) := by unfold in3 at h1; omega
    simp [cbad, h2]
    omega
  · have := psz_sum (l := l) (fun p hq => (wB_bd (hp p hq).2.1).2.1) (n := 0) (by omega) (by have := psum_le (l := l) (K := 256) (fun p hq => by have := wB_bd (hp p hq).2.1; omega); omega)
    unfold psz
    rw [this]; omega

set_option maxHeartbeats 2000000 in
theorem back_walk (a : Sin Pc) (s : ByteArray) (x1 x2 : Int) (ha : a.ok w Pc.vals Pc.ok) (hs : s.size ≤ 9223372036854775807) (h10 : 0 ≤ x1) (h11 : x1 ≤ 65535) (h20 : 0 ≤ x2) (h21 : x2 ≤ 65535) (h : ∀ w', Kp [] w w' → R (.returned (.bool true)) w') :
    Calls Try.prog 9 #[.slice a.A a.n a.c, .string s, .int .u16 x1, .int .u16 x2] w R := by
  have H := Lib.hid h
  obtain ⟨A, n, c, l⟩ := a
  obtain ⟨hl, hcap, hmax, hall, hrd, _⟩ := ha
  simp only at hl hcap hmax hall hrd
  unfold maxLen at hmax
  have HL := Lib.hid hl
  have RD := Lib.hid hrd
  clear h hl hrd
  have hcase : decide ((256 : Int) < s.size) = true ∨ (decide ((256 : Int) < s.size) = false ∧ decide ((100 : Int) < n) = true) ∨ (decide ((256 : Int) < s.size) = false ∧ decide ((100 : Int) < n) = false) := by
    cases decide ((256 : Int) < s.size) <;> cases decide ((100 : Int) < n) <;> simp
  rcases hcase with d1 | ⟨d1, d2⟩ | ⟨d1, d2⟩
  · go_enter Try.func9, Try.ntmps9
    go_wp2_with (go_at_call 11; refine alive08 (fun w1 k1 => ?_))
    exact H.out _ k1
  · go_enter Try.func9, Try.ntmps9
    go_wp2_with (go_at_call 11; refine alive08 (fun w1 k1 => ?_))
    exact H.out _ k1
  · have hs256 : s.size ≤ 256 := by simp at d1; omega
    have hn100 : n ≤ 100 := by simp at d2; omega
    go_enter Try.func9, Try.ntmps9
    go_wp2_with (first | (go_at_call 11; refine alive08 (fun w1 k1 => ?_)) | (go_at_call 16; refine new_any 3 (by omega) (by omega) (fun bT bL w2 a1 a2 k2 t2 => ?_)))
    clear d1 d2
    have kk : Kp [] w w2 := k1.trans k2
    have hbt : w.heap.size ≤ bT := by have := k1.size; omega
    have hbl : w.heap.size ≤ bL := by have := k1.size; omega
    clear k1 k2 a1 a2
    have t2' : Tab w2 bT bL (laidT 0 fz.bs fz.bs fz.bs) := t2
    clear t2
    go_loopw [11] (fun i wr => ∃ (k : Nat) (A1 B1 C1 : List UInt8), k ≤ 3 ∧ i = .int .i64 k ∧ Kp [] w wr ∧ Tab wr bT bL (laidT k A1 B1 C1) ∧ Hid (A1.length = 256 ∧ B1.length = 256 ∧ C1.length = 256)) (fun i _ => 3 - (intOf i).toNat)
    case atStart => exact ⟨0, _, _, _, by omega, rfl, kk, t2', fz_len, fz_len, fz_len⟩
    case round =>
      obtain ⟨k, A1, B1, C1, hk, rfl, kr, tr, hq⟩ := hrel
      by_cases hlt : k < 3
      · have hsp : spanB k (s.data.toList.take (min s.size (256 - k))).length = true := by simp [spanB]; omega
        obtain ⟨hA, hB, hC⟩ := hq.out
        obtain ⟨fs3, A2, B2, C2, g1, g2, g3, g4, g5⟩ := laid_step hlt A1 B1 C1 _ hA hB hC hsp
        have G1 := Lib.hid g1
        have G2 := Lib.hid g2
        have HS := Lib.hid hsp
        clear g1 g2 hsp
        have hsz3 := kr.size
        have hrs := fun (w3 : World) (hlt3 : bL < w3.heap.size) => by
          have := (rd_bytesWorld (N := [bL]) w3 5 s rfl (by simp; omega)).take (min s.size (256 - k))
          rw [← bts_take] at this
          exact this
        have RS := Lib.hid hrs
        have hb3 : ∀ s ∈ [bL], s ∈ ([] : List Nat) ∨ w.heap.size ≤ s := by simp; omega
        clear hrs
        by_cases hle : (s.size : Int) ≤ 256 - (k : Int)
        · have hm : min s.size (256 - k) = s.size := by omega
          rw [hm] at G2 RS
          go_wp2_with fail
          refine alloc_is tr _ G1.out (fun w3 k3 t3 => ?_)
          have hcv := conv_sb w3 s
          have hgc := grownCap_ge w3 s.size 0 5
          go_wp2_with fail
          have hr3 := RS.out w3 t3.l.lt
          refine write_is (t3.kp ((Kp.refl [] w3).bytesWorld _ _) (by simp) (by simp)) _ _ _ hr3 (by simp) (by omega) (by simp) G2.out (fun w4 k4 t4 => ?_)
          clear hcv
          go_wp2_with fail
          exact ⟨⟨k + 1, A2, B2, C2, by omega, by go_num, ((kr.thn k3 hb3).bytesWorld _ _).thn k4 hb3, t4, g3, g4, g5⟩, by simp [intOf]; omega⟩
        · have hm : min s.size (256 - k) = 256 - k := by omega
          rw [hm] at G2 RS
          go_wp2_with fail
          refine alloc_is tr _ G1.out (fun w3 k3 t3 => ?_)
          have hcv := conv_sb w3 s
          have hgc := grownCap_ge w3 s.size 0 5
          go_wp2_with fail
          have hr3 := RS.out w3 t3.l.lt
          refine write_is (t3.kp ((Kp.refl [] w3).bytesWorld _ _) (by simp) (by simp)) _ _ _ hr3 (by simp; omega) (by omega) (by simp) G2.out (fun w4 k4 t4 => ?_)
          clear hcv
          go_wp2_with fail
          exact ⟨⟨k + 1, A2, B2, C2, by omega, by go_num, ((kr.thn k3 hb3).bytesWorld _ _).thn k4 hb3, t4, g3, g4, g5⟩, by simp [intOf]; omega⟩
      · obtain rfl : k = 3 := by omega
        obtain ⟨hA, hB, hC⟩ := hq.out
        have tr0 : Tab wr bT bL (tbl A1 B1 C1 0 0 0) := tr
        have hbl2 := tr0.l.lt
        clear tr hq
        have hw3 := kr.size
        have hrd2 := fun (w4 : World) (hk4 : Kp [] w w4) => (Rd.to (N' := [bL]) RD.out hk4 (by simp) (by simp; omega))
        have RD2 := Lib.hid hrd2
        clear hrd2
        have hcase : checkE (tbl A1 B1 C1 0 0 0) 1 l ≠ 0 ∨ checkE (tbl A1 B1 C1 0 0 0) 1 l = 0 := by omega
        rcases hcase with he | he
        · go_wp2_with fail
          refine of_any (RD2.out wr kr) HL.out (by omega) (fun A4 c4 w4 k4 o4 b4 => ?_)
          have HE := Lib.hid he
          clear he
          go_wp2_with fail
          refine ghold_any (tr0.kp k4 (by simp) (by simp)) 1 (o4.rd (N := [bL]) (fun s hs => by have := b4 s hs; simp; omega)) (by simp) HL.out (by omega) hall (by intro y hy; simp [tbl] at hy; rcases hy with rfl | rfl | rfl <;> simp) (fun fs5 w5 q5 k5 t5 => ?_)
          generalize hce : checkE (tbl A1 B1 C1 0 0 0) 1 l = ce at *
          have hq5 : fs5 = tbl A1 B1 C1 0 0 0 := by have := q5.out; rw [if_neg HE.out] at this; simpa using this
          subst hq5
          have hne : (ce != 0) = true := by simpa using HE.out
          go_wp2_with (first | (go_at_call 35; refine holds_any t5 _ (fun n6 q6 => ?_); (obtain rfl : n6 = 0 := q6.out.symm)))
          exact H.out _ (((kr.trans k4).thn k5 (by simp; omega)))
        · obtain ⟨hg1, hg2, hg3, hg4⟩ := check_good he (by rw [HL.out]; exact hn100)
          have hin : ∀ p ∈ l, in3 p := fun p hp => (hg1 p hp).1
          have hho := hold_tbl (A := A1) (B := B1) (C := C1) (a := 0) (b := 0) (c := 0) hin
          have hfe := fet_tbl (A := A1) (B := B1) (C := C1) (l := l) (a := 0 + cnt l 0) (b := 0 + cnt l 1) (c := 0 + cnt l 2) (fun p hp => ⟨hin p hp, (hg1 p hp).2.1, fun e => by have := cnt_pos hp; rw [e] at this; omega, fun e => by have := cnt_pos hp; rw [e] at this; omega, fun e => by have := cnt_pos hp; rw [e] at this; omega⟩)
          have hdr := drop_tbl (A := A1) (B := B1) (C := C1) (l := l) (a := 0) (b := 0) (c := 0) hin (by omega) (by omega) (by omega)
          have hfl := flt_len hA hB hC (l := l) (fun p hp => (hg1 p hp).2.1)
          have HE := Lib.hid he
          have G1 := Lib.hid hg1
          have HIN := Lib.hid hin
          have HHO := Lib.hid hho
          have HFE := Lib.hid hfe
          have HDR := Lib.hid hdr
          have HFL := Lib.hid hfl
          have HCB := Lib.hid hg3
          have HSU := Lib.hid hg4
          have HLS := Lib.hid (And.intro hA (And.intro hB hC))
          have hz0 := psz_bd l
          clear he hg1 hin hho hfe hdr hfl hg3 hg4 hA hB hC
          have n0 := cnt_nn l 0
          have n1 := cnt_nn l 1
          have n2 := cnt_nn l 2
          have hbw : ∀ s ∈ [bL], s ∈ ([] : List Nat) ∨ w.heap.size ≤ s := by simp; omega
          have hnb : ∀ {W : World} {A : Option Addr}, wr.heap.size ≤ W.heap.size → (∀ b ∈ bks A, W.heap.size ≤ b) → ∀ b ∈ bks A, b ∉ [bL] := fun h1 h2 b hb => by have := h2 b hb; simp; omega
          go_wp2_with fail
          refine of_any (RD2.out wr kr) HL.out (by omega) (fun A4 c4 w4 k4 o4 b4 => ?_)
          have kq4 := kr.trans k4
          go_wp2_with fail
          refine ghold_any (tr0.kp k4 (by simp) (by simp)) 1 (o4.rd (N := [bL]) (hnb (Nat.le_refl _) b4)) (by simp) HL.out (by omega) hall (by intro y hy; simp [tbl] at hy; rcases hy with rfl | rfl | rfl <;> simp) (fun fs5 w5 q5 k5 t5 => ?_)
          have hq5 : fs5 = tbl A1 B1 C1 (0 + cnt l 0) (0 + cnt l 1) (0 + cnt l 2) := by have := q5.out; rw [if_pos HE.out, HHO.out] at this; simpa using this
          subst hq5
          rw [HE.out]
          have kq5 := kq4.thn k5 hbw
          have sz5 := k5.size
          have sz4 := k4.size
          clear o4 b4 k4 k5 q5 tr0 kq4
          go_wp2_with fail
          refine of_any (RD2.out w5 kq5) HL.out (by omega) (fun A6 c6 w6 k6 o6 b6 => ?_)
          go_wp2_with fail
          refine gfetch_any (t5.kp k6 (by simp) (by simp)) (o6.rd (N := [bL]) (hnb (by omega) b6)) HL.out (by omega) (fun e7 all A7 c7 w7 q7 k7 o7 b7 => ?_)
          obtain ⟨rfl, rfl⟩ : e7 = 0 ∧ all = flt A1 B1 C1 l := by have := q7.out.symm.trans HFE.out; simpa using this
          have kq7 := (kq5.trans k6).trans k7
          have t7 := (t5.kp k6 (by simp) (by simp)).kp k7 (by simp) (by simp)
          have sz7 := k7.size
          have sz6 := k6.size
          have b7' : ∀ b ∈ bks A7, w6.heap.size ≤ b := b7
          clear o6 b6 k6 k7 q7 kq5 t5 b7
          go_wp2_with fail
          refine of_any (RD2.out w7 kq7) HL.out (by omega) (fun A8 c8 w8 k8 o8 b8 => ?_)
          go_wp2_with fail
          refine gsize_any (o8.rd (N := []) (by simp)) HL.out (by omega) hall (fun w9 k9 => ?_)
          have kq9 := (kq7.trans k8).trans k9
          have t9 := (t7.kp k8 (by simp) (by simp)).kp k9 (by simp) (by simp)
          have o9 := (o7.kp k8 (by simp)).kp k9 (by simp)
          have sz8 := k8.size
          have sz9 := k9.size
          clear o8 b8 k8 k9 kq7 t7 o7
          have hfl := HFL.out
          rw [← HSU.out] at hfl
          have HFL2 := Lib.hid hfl
          generalize hS : psz l = S at *
          have HS := Lib.hid hS
          clear hS hfl
          have hne : (((flt A1 B1 C1 l).length : Int) != S) = false := by simpa using HFL2.out
          have hk0 : 0 ≤ x1 % (S + 1) := Int.emod_nonneg _ (by omega)
          have hk1 : x1 % (S + 1) ≤ S := by have := Int.emod_lt_of_pos x1 (show 0 < S + 1 by omega); omega
          have hm0 : 0 ≤ x2 % (S - x1 % (S + 1) + 1) := Int.emod_nonneg _ (by omega)
          have hm1 : x2 % (S - x1 % (S + 1) + 1) ≤ S - x1 % (S + 1) := by have := Int.emod_lt_of_pos x2 (show 0 < S - x1 % (S + 1) + 1 by omega); omega
          obtain ⟨kk, hkk⟩ : ∃ kk, x1 % (S + 1) = kk := ⟨_, rfl⟩
          rw [hkk] at hk0 hk1 hm0 hm1
          obtain ⟨mm, hmm⟩ : ∃ mm, x2 % (S - kk + 1) = mm := ⟨_, rfl⟩
          rw [hmm] at hm0 hm1
          have hnz : ¬ S - kk + 1 = 0 := by omega
          have hnz1 : ¬ S + 1 = 0 := by omega
          go_wp2_with fail
          rw [hkk, hmm]
          clear hkk hmm hnz hnz1 hne h10 h11 h20 h21
          obtain ⟨o, hcut, hco, _⟩ := cuts_good (l := l) (by rw [HL.out]; exact hn100) HCB.out (f := kk) (m := mm) hk0 hm0 (by rw [HS.out]; omega)
          have hok := cut_ok hcut
          have hoe : o = (cfold kk mm l).2.2 := by
            unfold cutF at hcut
            split at hcut
            · simp at hcut
            · simpa using hcut.symm
          have hw1 : ∀ p ∈ l, wB p = true := fun p hp => (G1.out p hp).2.1
          have hofl : flt A1 B1 C1 o = ((flt A1 B1 C1 l).drop kk.toNat).take mm.toNat := by
            obtain ⟨hA, hB, hC⟩ := HLS.out
            have := cfold_flt (A := A1) (B := B1) (C := C1) hA hB hC (l := l) (f := kk) (m := mm) (out := []) hw1 hk0 hm0
            rw [hoe]; unfold cfold; rw [this]; simp [flt]
          have hofe : fetF (tbl A1 B1 C1 (0 + cnt l 0) (0 + cnt l 1) (0 + cnt l 2)) o = (0, flt A1 B1 C1 o) := by
            refine fet_tbl fun q hq => ?_
            have hq2 : q ∈ (l.foldl cstep (kk, mm, [])).2.2 := by rw [hoe] at hq; exact hq
            rcases cfold_from (l := l) hw1 hk0 hm0 q hq2 with hh | ⟨hh, p, hp, hpf⟩
            · simp at hh
            · refine ⟨by have := HIN.out p hp; unfold in3 at *; rw [hpf]; exact this, hh, ?_⟩
              rw [hpf]
              exact ⟨fun e => by have := cnt_pos hp; rw [e] at this; omega, fun e => by have := cnt_pos hp; rw [e] at this; omega, fun e => by have := cnt_pos hp; rw [e] at this; omega⟩
          have hol : o.length ≤ 100 := by have := hok.2; rw [HL.out] at this; omega
          have HCU := Lib.hid hcut
          have HOF := Lib.hid hofl
          have HOE := Lib.hid hofe
          clear hcut hco hok hoe hw1 hofl hofe
          refine of_any (RD2.out w9 kq9) HL.out (by omega) (fun A10 c10 w10 k10 o10 b10 => ?_)
          go_wp2_with fail
          refine cut_is (o10.rd (N := []) (by simp)) HL.out (by omega) hall _ _ (by omega) (by omega) HCU.out (fun A11 c11 w11 k11 o11 b11 => ?_)
          have kq11 := (kq9.trans k10).trans k11
          have t11 := (t9.kp k10 (by simp) (by simp)).kp k11 (by simp) (by simp)
          have o7' := (o9.kp k10 (by simp)).kp k11 (by simp)
          have sz10 := k10.size
          have sz11 := k11.size
          clear o10 b10 k10 k11 kq9 t9 o9
          go_wp2_with fail
          refine gfetch_any t11 (o11.rd (N := []) (by simp)) rfl (by omega) (fun e12 part A12 c12 w12 q12 k12 o12 b12 => ?_)
          obtain ⟨rfl, rfl⟩ : e12 = 0 ∧ part = flt A1 B1 C1 o := by have := q12.out.symm.trans HOE.out; simpa using this
          have kq12 := kq11.trans k12
          have t12 := t11.kp k12 (by simp) (by simp)
          have o7'' := o7'.kp k12 (by simp)
          have sz12 := k12.size
          clear o11 b11 k12 kq11 t11 o7' q12
          go_wp2_with fail
          have hS1 : 0 < (flt A1 B1 C1 l).length := by
            have := HFL2.out
            have hne : l ≠ [] := by
              intro e
              have := HE.out
              simp [checkE, e] at this
            obtain ⟨p, l', rfl⟩ := List.exists_cons_of_ne_nil hne
            have h1 := (G1.out p (by simp)).2.2
            have h2 := psum_nn (l := l') fun q hq => (wB_bd (G1.out q (by simp [hq])).2.1).2.1
            have h3 := HSU.out
            rw [psum_cons] at h3
            omega
          have rall := o7''.rd (N := []) (by simp)
          have hcap : (flt A1 B1 C1 l).length ≤ c7 := o7''.cap hS1
          obtain ⟨g7, rfl, hg7⟩ := o7''.form hS1
          generalize hP : ((flt A1 B1 C1 l).drop kk.toNat).take mm.toNat = P at *
          have hPl : P.length = mm.toNat := by
            have := HFL2.out
            rw [← hP, List.length_take, List.length_drop]; omega
          rw [HOF.out] at o12 ⊢
          have hcv1 := conv_bsN (c := c12) (o12.rd (N := []) (by simp)) rfl
          rw [hPl] at hcv1
          have hc2 : ∀ k, (convert 38 9 (.slice (some ⟨g7, kk.toNat, none⟩) mm.toNat (c7 - kk.toNat))).run Try.prog (w12.drewN k) = .ok (.string ⟨P.toArray⟩) (w12.drewN k) := by
            refine conv_bsN ?_ hPl
            by_cases hlt : kk.toNat < (bts (flt A1 B1 C1 l)).length
            · have := (rall.drop kk.toNat hlt).take mm.toNat
              rw [← bts_drop, ← bts_take, hP] at this
              have e1 : (⟨g7, 0, none⟩ : Addr).add kk.toNat = ⟨g7, kk.toNat, none⟩ := by unfold Addr.add; split <;> simp_all
              rw [Option.map_some, e1] at this
              exact this
            · have : P = [] := by rw [← hP, List.drop_of_length_le (by rw [bts_len] at hlt; omega)]; simp
              rw [this]; exact Rd.nil
          have hc3 : mm.toNat = 0 → ∀ cc k, (convert 38 9 (.slice (some ⟨g7, 0, none⟩) mm.toNat cc)).run Try.prog (w12.drewN k) = .ok (.string ⟨P.toArray⟩) (w12.drewN k) := fun h0 cc => by
            refine conv_bsN ?_ hPl
            have : P = [] := List.eq_nil_of_length_eq_zero (by omega)
            rw [this]; exact Rd.nil
          have hbd := HFL2.out
          have hwk : IntKind.i64.wrap (kk + mm) = kk + mm := by first | exact IntKind.wrap_i64_of (by omega) (by omega) | (simp [IntKind.wrap, IntKind.bits, IntKind.signed]; omega) | (simp [IntKind.wrap, wrap64]; omega) | (unfold IntKind.wrap; simp; omega)
          have hb1 : 0 ≤ kk + mm := by omega
          have hb2 : kk + mm ≤ (c7 : Int) := by omega
          have hb3 : kk ≤ max (kk + mm) 0 := by omega
          have hb4 : (kk + mm).toNat - kk.toNat = mm.toNat := by omega
          have hdr := HDR.out
          have hbad : mm.toNat = 0 ∨ ¬ c7 = kk.toNat := by omega
          by_cases hz : c7 = kk.toNat
          · have hc4 := hc3 (by omega)
            have hb5 : kk + mm ≤ max kk 0 := by omega
            clear hc2 hc3 hbad
            refine wp_region_quiet_lit (by kernel_rfl) (by kernel_rfl) ?_
            iterate 18 (quiet_step (fail))
            refine wpQuiet_nil ?_
            intro _ hw'
            obtain ⟨nq, rfl⟩ := hw'
            have t13 := t12.kp ((Kp.refl [] w12).drewN nq) (by simp) (by simp)
            have kq13 := kq12.drewN nq
            go_wp2_with fail
            refine of_any (RD2.out _ kq13) HL.out (by omega) (fun A14 c14 w14 k14 o14 b14 => ?_)
            have t14 := t13.kp k14 (by simp) (by simp)
            go_wp2_with fail
            refine gdrop_any t14 (o14.rd (N := [bL]) (fun b hb => by have := b14 b hb; have e : (w12.drewN nq).heap.size = w12.heap.size := rfl; simp; omega)) (by simp) HL.out (by omega) (by intro y hy; simp [tbl] at hy; have u0 := cnt_le l 0; have u1 := cnt_le l 1; have u2 := cnt_le l 2; have := HL.out; rcases hy with rfl | rfl | rfl <;> simp <;> omega) hdr.1 (fun w15 k15 t15 => ?_)
            rw [hdr.2] at t15
            have kq15 := (kq13.trans k14).thn k15 hbw
            clear k14 k15 o14 b14 t14 t13 t12 kq12 kq13
            go_wp2_with (first | (go_at_call 35; refine holds_any t15 _ (fun n6 q6 => ?_); (obtain rfl : n6 = 0 := q6.out.symm)))
            exact H.out _ kq15
          · clear hc3 hbad
            refine wp_region_quiet_lit (by kernel_rfl) (by kernel_rfl) ?_
            iterate 18 (quiet_step (fail))
            refine wpQuiet_nil ?_
            intro _ hw'
            obtain ⟨nq, rfl⟩ := hw'
            have t13 := t12.kp ((Kp.refl [] w12).drewN nq) (by simp) (by simp)
            have kq13 := kq12.drewN nq
            go_wp2_with fail
            refine of_any (RD2.out _ kq13) HL.out (by omega) (fun A14 c14 w14 k14 o14 b14 => ?_)
            have t14 := t13.kp k14 (by simp) (by simp)
            go_wp2_with fail
            refine gdrop_any t14 (o14.rd (N := [bL]) (fun b hb => by have := b14 b hb; have e : (w12.drewN nq).heap.size = w12.heap.size := rfl; simp; omega)) (by simp) HL.out (by omega) (by intro y hy; simp [tbl] at hy; have u0 := cnt_le l 0; have u1 := cnt_le l 1; have u2 := cnt_le l 2; have := HL.out; rcases hy with rfl | rfl | rfl <;> simp <;> omega) hdr.1 (fun w15 k15 t15 => ?_)
            rw [hdr.2] at t15
            have kq15 := (kq13.trans k14).thn k15 hbw
            clear k14 k15 o14 b14 t14 t13 t12 kq12 kq13
            go_wp2_with (first | (go_at_call 35; refine holds_any t15 _ (fun n6 q6 => ?_); (obtain rfl : n6 = 0 := q6.out.symm)))
            exact H.out _ kq15
end
end Go.Proofs.Ytilhjohoahgefaa
