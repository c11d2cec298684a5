/- KernPlays walked: the law. KernPlays of any sizes and steps: true. -/
import Derived.Test.YtedblbpmlbjnhaaGreatPD47
import Derived.Test.YtedblbpmlbjnhaaGreatPD43
import Derived.Test.YtedblbpmlbjnhaaGreatPD6
namespace Go.Proofs.YtedblbpmlbjnhaaGreat
/-! ### KernPlays walked: the law. -/
section
open Go.RowKit Go.Shelf
set_option linter.unusedVariables false
set_option linter.unusedSimpArgs false
set_option maxRecDepth 100000
theorem kz0_h (F N : Nat) : HInv (kz0 F N) := ⟨by simp [kz0], fun f x hx => by
  have := List.mem_of_getElem? hx
  simp only [kz0] at this
  rw [List.eq_of_mem_replicate this]; rfl⟩
theorem kz0_f (F N : Nat) : FInv (kz0 F N) := ⟨by simp [kz0], by simp [kz0], by simp [kz0]⟩
theorem kz0_o (F N : Nat) : GOx (kz0 F N) := ⟨0, Int.le_refl _, ⟨fun x hx => by rw [List.eq_of_mem_replicate (show x ∈ List.replicate F fz from hx)]; exact ⟨Int.le_refl _, Int.le_refl _⟩, fun x hx => by rw [List.eq_of_mem_replicate (show x ∈ List.replicate F fz from hx)]; exact .inl rfl, fun x hx h => by rw [List.eq_of_mem_replicate (show x ∈ List.replicate F fz from hx)] at h; exact absurd rfl h⟩⟩
theorem kz0_c (F N : Nat) : (kz0 F N).cnt 0 := ⟨Nat.le_refl _, Nat.le_refl _, Nat.le_refl _, Nat.le_refl _, Nat.le_refl _, Nat.le_refl _, Nat.zero_le _, fun y hy => by rw [List.eq_of_mem_replicate (show y ∈ List.replicate F fz from hy)]; exact ⟨Int.le_refl _, Int.le_refl _⟩⟩
section
variable {R : Ending → World → Prop} {w : World}
set_option maxHeartbeats 16000000 in
theorem kplays_good (F N : Nat) (hF1 : 1 ≤ F) (hF2 : F ≤ 20) (hN1 : 4 ≤ N) (hN2 : N ≤ 20) (l : Sin KAct) (hl : l.ok w KAct.vals (KAct.ok w)) (hfar : kfar l.l = false) (h : ∀ w', Kp [] w w' → R (.returned (.bool true)) w') :
    Calls Tryz.prog 3 #[.int .i64 F, .int .i64 N, .slice l.A l.n l.c] w R := by
  have H := Lib.hid h
  obtain ⟨A, n, c, l⟩ := l
  have HL := Lib.hid hl.len
  have HR := Lib.hid hl.rd
  have HA := Lib.hid hl.all
  simp only at HL HR HA hfar ⊢
  have HFC : Hid (∀ x ∈ l, farC x.c = false ∧ x.s.size ≤ 2000) := Lib.hid (fun x hx => by
    unfold kfar at hfar
    rw [Bool.or_eq_false_iff, List.any_eq_false] at hfar
    have h1 := hfar.2 x hx
    simp at h1
    exact ⟨by simpa using h1.1, h1.2⟩)
  have hn100 : n ≤ 100 := by
    unfold kfar at hfar
    rw [Bool.or_eq_false_iff] at hfar
    have := hfar.1
    simp at this
    have := HL.out
    omega
  have hmx := hl.max
  have hcap := hl.cap
  simp only at hmx hcap
  unfold maxLen at hmx
  have HFar : Hid (∀ (R : Ending → World → Prop) (w1 : World), Kp [] w w1 → (∀ w', Kp [] w1 w' → R (.returned (.bool false)) w') → Calls Tryz.prog 6 #[.slice A n c] w1 R) := Lib.hid (fun R w1 k1 h => kfar_any (HR.out.kp k1 (by simp)) HL.out (by omega) (fun w' k' => by rw [hfar]; exact h w' k'))
  have HN : Hid (∀ (R : Ending → World → Prop) (w1 : World), (∀ a w', Kp [] w1 w' → Kn w' w1.heap.size a (kz0 F N) → R (.returned (.tuple #[.pointer (some ⟨a.g, 0, none⟩), .int .i64 0])) w') → Calls Tryz.prog 7 #[.int .i64 F, .int .i64 N] w1 R) := Lib.hid (fun R w1 h => knew2_any F N hF1 (by omega) hN1 (by omega) w1 h)
  have HM : Hid (∀ (R : Ending → World → Prop) (w1 : World), Kp [] w w1 → (∀ q w', Kp [] w1 w' → Qn w w1.heap.size w' q (kz0 F N) → R (.returned (.pointer (some ⟨q.g, 0, none⟩))) w') → Calls Tryz.prog 8 #[.int .i64 F, .int .i64 N] w1 R) := Lib.hid (fun R w1 k1 h => rknew_any F N hF1 (by omega) hN1 (by omega) k1 h)
  have f1 : ¬ (20 : Int) < F := by omega
  have f2 : decide ((20 : Int) < (F : Int)) = false := by simpa using f1
  have f3 : ¬ (20 : Int) < N := by omega
  have f4 : decide ((20 : Int) < (N : Int)) = false := by simpa using f3
  have f5 : decide ((F : Int) < 1) = false := by simp; omega
  have f6 : decide ((256 : Int) < (F : Int)) = false := by simp; omega
  have f7 : decide ((N : Int) < 4) = false := by simp; omega
  have f8 : decide ((512 : Int) < (N : Int)) = false := by simp; omega
  have f2n : decide (20 < F) = false := by simp; omega
  have f4n : decide (20 < N) = false := by simp; omega
  have f5n : decide (F < 1) = false := by simp; omega
  have f6n : decide (256 < F) = false := by simp; omega
  have f7n : decide (N < 4) = false := by simp; omega
  have f8n : decide (512 < N) = false := by simp; omega
  clear h hl hfar f1 f3
  go_enter Tryz.func3, Tryz.ntmps3
  go_upto_region 11 with (first | (go_at_call 5; ((refine alive09_any _ ?_); intro w1 k1)) | (go_at_call 6; ((refine HFar.out _ _ k1 ?_); intro w2 k2)) | (go_at_call 7; ((refine HN.out _ _ ?_); intro a w3 k3 hkn)) | (go_at_call 8; ((refine HM.out _ _ ((k1.trans k2).trans k3) ?_); intro q w4 k4 hqn)))
  have K0 : Hid (K2 w w4 w2.heap.size a w3.heap.size q (kz0 F N) 0) := Lib.hid ⟨hkn.off0 k4, hqn, (k1.trans k2).size, hkn.g.lt, kz0_c F N, kz0_h F N, kz0_f F N, kz0_o F N⟩
  obtain ⟨B, hB⟩ : ∃ B, w2.heap.size = B := ⟨_, rfl⟩
  obtain ⟨B2, hB2⟩ : ∃ B, w3.heap.size = B := ⟨_, rfl⟩
  rw [hB, hB2] at K0
  have HwB : w.heap.size ≤ B := by have := (k1.trans k2).size; omega
  clear hkn hqn k1 k2 k3 k4 hB hB2 HFar HN HM f2 f4 f5 f6 f7 f8 f2n f4n f5n f6n f7n f8n
  go_wp2
  go_loopw [10] (fun iv wr => ∃ (i : Nat) (a7 : KA) (q7 : QA) (k7 : KS), i ≤ n ∧ iv = .int .i64 i ∧ a7.g = a.g ∧ a7.bT = a.bT ∧ q7.g = q.g ∧ q7.bM = q.bM ∧ q7.bD = q.bD ∧ Hid (K2 w wr B a7 B2 q7 k7 i)) (fun iv _ => n - (intOf iv).toNat)
  case atStart => exact ⟨0, a, q, _, Nat.zero_le _, rfl, rfl, rfl, rfl, rfl, rfl, K0⟩
  case round =>
    obtain ⟨i, a7, q7, k7, hi, rfl, hg7, ht7, hqg, hqm, hqd, h2⟩ := hrel
    clear K0
    by_cases hlt : i < n
    · obtain ⟨x, hx, hm⟩ := get_lt (l := l) (k := i) (by have := HL.out; omega)
      obtain ⟨b, o, rfl, _, hbl, hc⟩ := rd_at (HR.out.kp h2.out.qn.old (by simp)) kavals_len (by have := HL.out; omega) hx
      obtain ⟨c0, c1, c2, c3, c4, c5, c6, c7, c8, c9⟩ := kact_cells hc
      obtain ⟨xk, xc, xs⟩ := x
      obtain ⟨hfx, hsx⟩ := HFC.out _ hm
      have HAX := Lib.hid (HA.out _ hm)
      simp only at c0 c1 c2 c3 c4 c5 c6 c7 c8 c9 hsx
      clear hc hm
      have HCELL : Hid (∀ w', Kp [] w w' → w'.cell? ⟨b, o + i * 10 + 1, none⟩ = some (.int .i64 xc.op) ∧ w'.cell? ⟨b, o + i * 10 + 2, none⟩ = some (.int .i64 xc.env) ∧ w'.cell? ⟨b, o + i * 10 + 3, none⟩ = some (.int .i64 xc.a) ∧ w'.cell? ⟨b, o + i * 10 + 4, none⟩ = some (.int .i64 xc.b) ∧ w'.cell? ⟨b, o + i * 10 + 5, none⟩ = some (.int .i64 xc.c) ∧ w'.cell? ⟨b, o + i * 10 + 6, none⟩ = some (.string xc.s) ∧ w'.cell? ⟨b, o + i * 10 + 7, none⟩ = some (.slice xc.p.A xc.p.n xc.p.c) ∧ w'.cell? ⟨b, o + i * 10 + 8, none⟩ = some (.slice xc.l.A xc.l.n xc.l.c) ∧ w'.cell? ⟨b, o + i * 10 + 9, none⟩ = some (.string xs)) := Lib.hid (fun w' k' => by
        obtain ⟨b2, o2, e2, _, _, hc2⟩ := rd_at (HR.out.kp k' (by simp)) kavals_len (by have := HL.out; omega) hx
        injection e2 with e2
        injection e2 with e3 e4
        subst e3; subst e4
        exact (kact_cells hc2).2)
      clear hx
      go_upto_block 2 with (fail)
      go_cut [] (fun W' => ∃ (a8 : KA) (q8 : QA) (k8 : KS), a8.g = a.g ∧ a8.bT = a.bT ∧ q8.g = q.g ∧ q8.bM = q.bM ∧ q8.bD = q.bD ∧ Hid (K2 w W' B a8 B2 q8 k8 (i + 1)))
      case first =>
        by_cases hk0 : xk = 0
        · have e0 : (xk == 0) = true := by simp [hk0]
          subst hk0
          have HOf : Hid (∀ (R : Ending → World → Prop), (∀ A5 c5 A6 c6 A7 c7 w', Kp [] wr w' → Hid (Kc.ok w' ⟨xc.op, xc.env, xc.a, xc.b, xc.c, A5, xc.s.size, c5, xc.s.data.toList, A6, xc.p.n, c6, xc.p.l, A7, xc.l.n, c7, xc.l.l⟩) → R (.returned (.agg #[.int .i64 xc.op, .int .i64 xc.env, .int .i64 xc.a, .int .i64 xc.b, .int .i64 xc.c, .slice A5 xc.s.size c5, .slice A6 xc.p.n c6, .slice A7 xc.l.n c7])) w') → Calls Tryz.prog 10 #[.agg #[.int .i64 xc.op, .int .i64 xc.env, .int .i64 xc.a, .int .i64 xc.b, .int .i64 xc.c, .string xc.s, .slice xc.p.A xc.p.n xc.p.c, .slice xc.l.A xc.l.n xc.l.c]] wr R) := Lib.hid (fun R h => by
            have hfx2 : farC xc = false := hfx
            obtain ⟨g1, g2, g3⟩ := farC_no hfx2
            have hk : xc.ok w := HAX.out.c
            have kk := h2.out.qn.old
            refine of09_any xc wr (hk.p.rd.kp kk (by simp)) hk.p.len g2 (hk.l.rd.kp kk (by simp)) hk.l.len g3 (fun A5 c5 A6 c6 A7 c7 w' k t5 f5 o6 f6 o7 f7 h5 => h A5 c5 A6 c6 A7 c7 w' k (Lib.hid ⟨t5, Array.length_toList, (by show xc.s.size ≤ _; omega), fun e => (h5 e).elim, o6.tb, hk.p.len, (by show xc.p.n ≤ _; omega), fun e => o6.nilA e, hk.p.all, o7.tb, hk.l.len, (by show xc.l.n ≤ _; omega), fun e => o7.nilA e, hk.l.all⟩)))
          have HQC : Hid (QC w xc) := Lib.hid (by
            have hfx2 : farC xc = false := hfx
            obtain ⟨g1, g2, g3⟩ := farC_no hfx2
            have hk : xc.ok w := HAX.out.c
            exact ⟨hk.p.rd, hk.p.len, by omega, hk.p.all, hk.l.rd, hk.l.len, by omega, hk.l.all⟩)
          have HIB := Lib.hid HAX.out.c.b
          have HCx : Hid (∀ (R : Ending → World → Prop) (w' : World) (A5 A6 A7 : Option Addr) (c5 c6 c7 : Nat), Kp [] wr w' → Hid (Kc.ok w' ⟨xc.op, xc.env, xc.a, xc.b, xc.c, A5, xc.s.size, c5, xc.s.data.toList, A6, xc.p.n, c6, xc.p.l, A7, xc.l.n, c7, xc.l.l⟩) →
              (∀ nn A len cc ll e w' a' k', Tb w' 5 A (bts ll) → ll.length = len → Hid (∀ (R : Ending → World → Prop) w1, Kp [] w' w1 → (∀ w2 q2, K2 w w2 B a' B2 q2 k' (i + 1) → q2.g = q.g → q2.bM = q.bM → q2.bD = q.bD → (∀ A xs, Tb w1 5 A xs → Tb w2 5 A xs) → (∀ g cs, Bk w1 g 39 cs → Bk w2 g 39 cs) → R (.returned (.tuple #[.int .i64 nn, .string (S ll), .int .i64 e])) w2) → Calls Tryz.prog 11 #[.pointer (some ⟨q.g, 0, none⟩), .agg #[.int .i64 xc.op, .int .i64 xc.env, .int .i64 xc.a, .int .i64 xc.b, .int .i64 xc.c, .string xc.s, .slice xc.p.A xc.p.n xc.p.c, .slice xc.l.A xc.l.n xc.l.c]] w1 R) → a'.g = a.g → a'.bT = a.bT → Kp [] w w' → R (.returned (.tuple #[.agg #[.int .i64 nn, .slice A len cc], .int .i64 e])) w') → Calls Tryz.prog 9 #[.pointer (some ⟨a.g, 0, none⟩), .agg #[.int .i64 xc.op, .int .i64 xc.env, .int .i64 xc.a, .int .i64 xc.b, .int .i64 xc.c, .slice A5 xc.s.size c5, .slice A6 xc.p.n c6, .slice A7 xc.l.n c7]] w' R) := Lib.hid (fun R w' A5 A6 A7 c5 c6 c7 kw hok h => by
            rw [← hg7]
            refine k2_call (h2.out.kp kw) (by omega) xc HQC.out HIB.out hok.out (fun nn A len cc ll e w5 a5 k5 tb5 hl5 hd5 hg5 hb5 hno5 hq5 => ?_)
            rw [hqg, hqm, hqd] at hd5
            exact h nn A len cc ll e w5 a5 k5 tb5 hl5 (Lib.hid hd5) (hg5.trans hg7) (hb5.trans ht7) (hq5.old (h2.out.qn.old.trans kw) HwB))
          go_upto_region 17 with (first | (go_at_call 10; ((with_reducible refine HOf.out _ ?_); intro A5 d5 A6 d6 A7 d7 w13 k13 ok13)) | (go_at_call 9; ((with_reducible refine HCx.out _ _ _ _ _ _ _ _ k13 ok13 ?_); intro nn AA len cc ll e w5 a5 k5 tb5 hl5 hd5 hg5 hb5 kw5)))
          refine genV (fun W => ∃ gA, w5.heap.size = gA ∧ Kp [] w5 W ∧ Bk W gA 39 [.int .i64 nn, .slice AA len cc]) ⟨_, rfl, (Kp.refl _ _).alloc _, (Bk.newAt rfl _ _).cast rfl⟩ ?_
          rintro W5 ⟨gA, hgA, kW5, bA⟩
          rw [hgA]
          obtain ⟨x1, x2, x3, x4, x5, x6, x7, x8, x9⟩ := HCELL.out W5 (kw5.trans kW5)
          have TB5 := Lib.hid (tb5.kp kW5 (Off.nil _ _))
          have BA := Lib.hid bA
          have KW5 := Lib.hid kW5
          clear c0 c1 c2 c3 c4 c5 c6 c7 c8 c9 tb5 bA hgA kW5 kw5 HOf HCx HAX
          go_upto_region 18 with (go_at_call 11; ((with_reducible refine hd5.out _ _ KW5.out ?_); intro w6 q6 h6 hg6 hm6 hd6 ft6 fb6))
          have b6 := fb6 _ _ BA.out
          have y0 := b6.cell 0
          have y1 := b6.cell 1
          simp only [List.getElem?_cons_zero, List.getElem?_cons_succ] at y0 y1
          have hcv := conv_bs (n := len) (c := cc) (ft6 _ _ TB5.out).rd0 hl5
          have H6 := Lib.hid h6
          clear x1 x2 x3 x4 x5 x6 x7 x8 x9 h6 ft6 fb6 b6 hd5
          go_wp2
          go_meet
          exact ⟨a5, q6, k5, hg5, hb5, hg6, hm6, hd6, H6⟩
        · have e0 : (xk == 0) = false := by simp [hk0]
          by_cases hk1 : xk = 1
          · have e1 : (xk == 1) = true := by simp [hk1]
            subst hk1
            have HArr : Hid (∀ (R : Ending → World → Prop) (w' : World) (ad : Addr) (cd : Nat), Kp [] wr w' → Tb w' 5 (some ad) (bts xs.data.toList) → xs.size ≤ cd →
                (∀ nn e w' a' k', Hid (∀ (R : Ending → World → Prop) w1, Kp [] w' w1 → (∀ w2 q2, K2 w w2 B a' B2 q2 k' (i + 1) → q2.g = q.g → q2.bM = q.bM → q2.bD = q.bD → (∀ A xs, Tb w1 5 A xs → Tb w2 5 A xs) → (∀ g cs, Bk w1 g 39 cs → Bk w2 g 39 cs) → R (.returned (.tuple #[.int .i64 nn, .int .i64 e])) w2) → Calls Tryz.prog 13 #[.pointer (some ⟨q.g, 0, none⟩), .string xs] w1 R) → a'.g = a.g → a'.bT = a.bT → Kp [] w w' → R (.returned (.tuple #[.int .i64 nn, .int .i64 e])) w') → Calls Tryz.prog 12 #[.pointer (some ⟨a.g, 0, none⟩), .slice (some ad) xs.size cd] w' R) := Lib.hid (fun R w' ad cd kw ht hcd h => by
              rw [← hg7]
              refine k2_arr (h2.out.kp kw) (by omega) (s := xs) ht rfl (by omega) hcd (fun nn e w5 a5 k5 hd5 hg5 hb5 hq5 => ?_)
              rw [hqg, hqm, hqd] at hd5
              exact h nn e w5 a5 k5 (Lib.hid hd5) (hg5.trans hg7) (hb5.trans ht7) (hq5.old (h2.out.qn.old.trans kw) HwB))
            obtain ⟨bw, cw, hcs, hcw, hbk, hbr⟩ := convQ xs
            have HAr2 : Hid (∀ (R : Ending → World → Prop), (∀ nn e w' a' k', Hid (∀ (R : Ending → World → Prop) w1, Kp [] w' w1 → (∀ w2 q2, K2 w w2 B a' B2 q2 k' (i + 1) → q2.g = q.g → q2.bM = q.bM → q2.bD = q.bD → (∀ A xs, Tb w1 5 A xs → Tb w2 5 A xs) → (∀ g cs, Bk w1 g 39 cs → Bk w2 g 39 cs) → R (.returned (.tuple #[.int .i64 nn, .int .i64 e])) w2) → Calls Tryz.prog 13 #[.pointer (some ⟨q.g, 0, none⟩), .string xs] w1 R) → a'.g = a.g → a'.bT = a.bT → Kp [] w w' → R (.returned (.tuple #[.int .i64 nn, .int .i64 e])) w') → Calls Tryz.prog 12 #[.pointer (some ⟨a.g, 0, none⟩), .slice (some ⟨wr.heap.size, 0, none⟩) xs.size (cw wr)] (bw wr) R) := Lib.hid (fun R h => HArr.out R _ _ _ (hbk [] wr wr (Kp.refl _ _)) (hbr wr _ rfl) (hcw wr) h)
            clear hbk hbr hcw HArr
            go_upto_region 22 with (go_at_call 12; ((with_reducible refine HAr2.out _ ?_); intro nn e w5 a5 k5 hd5 hg5 hb5 kw5))
            obtain ⟨x1, x2, x3, x4, x5, x6, x7, x8, x9⟩ := HCELL.out w5 kw5
            clear c0 c1 c2 c3 c4 c5 c6 c7 c8 c9 kw5 HAr2 HAX hcs
            go_upto_region 23 with (go_at_call 13; ((with_reducible refine hd5.out _ _ (Kp.refl _ _) ?_); intro w6 q6 h6 hg6 hm6 hd6 ft6 fb6))
            have H6 := Lib.hid h6
            clear x1 x2 x3 x4 x5 x6 x7 x8 x9 h6 ft6 fb6 hd5
            go_wp2
            go_meet
            exact ⟨a5, q6, k5, hg5, hb5, hg6, hm6, hd6, H6⟩
          · have e1 : (xk == 1) = false := by simp [hk1]
            by_cases hk2 : xk = 2
            · have e2 : (xk == 2) = true := by simp [hk2]
              subst hk2
              have HDp : Hid (∀ (R : Ending → World → Prop),
                  (∀ A len cc ll env e w' a' k', Tb w' 5 A (bts ll) → ll.length = len → Hid (∀ (R : Ending → World → Prop) w1, Kp [] w' w1 → (∀ w2 q2, K2 w w2 B a' B2 q2 k' (i + 1) → q2.g = q.g → q2.bM = q.bM → q2.bD = q.bD → (∀ A xs, Tb w1 5 A xs → Tb w2 5 A xs) → (∀ g cs, Bk w1 g 39 cs → Bk w2 g 39 cs) → R (.returned (.tuple #[.string (S ll), .int .i64 env, .int .i64 e])) w2) → Calls Tryz.prog 15 #[.pointer (some ⟨q.g, 0, none⟩)] w1 R) → a'.g = a.g → a'.bT = a.bT → Kp [] w w' → R (.returned (.tuple #[.slice A len cc, .int .i64 env, .int .i64 e])) w') → Calls Tryz.prog 14 #[.pointer (some ⟨a.g, 0, none⟩)] wr R) := Lib.hid (fun R h => by
                rw [← hg7]
                refine k2_dep h2.out (by omega) (fun A len cc ll env e w5 a5 k5 tb5 hl5 hd5 hg5 hb5 hq5 => ?_)
                rw [hqg, hqm, hqd] at hd5
                exact h A len cc ll env e w5 a5 k5 tb5 hl5 (Lib.hid hd5) (hg5.trans hg7) (hb5.trans ht7) (hq5.old h2.out.qn.old HwB))
              go_upto_region 27 with (go_at_call 14; ((with_reducible refine HDp.out _ ?_); intro AA len cc ll env e w5 a5 k5 tb5 hl5 hd5 hg5 hb5 kw5))
              clear c0 c1 c2 c3 c4 c5 c6 c7 c8 c9 kw5 HDp HAX
              have TB5 := Lib.hid tb5
              clear tb5
              go_upto_region 28 with (go_at_call 15; ((with_reducible refine hd5.out _ _ (Kp.refl _ _) ?_); intro w6 q6 h6 hg6 hm6 hd6 ft6 fb6))
              have hcv := conv_bs (n := len) (c := cc) (ft6 _ _ TB5.out).rd0 hl5
              have H6 := Lib.hid h6
              clear h6 ft6 fb6 hd5
              go_wp2
              go_meet
              exact ⟨a5, q6, k5, hg5, hb5, hg6, hm6, hd6, H6⟩
            · have e2 : (xk == 2) = false := by simp [hk2]
              clear hk0 hk1 hk2
              go_wp2
              go_meet
              exact ⟨a7, q7, k7, hg7, ht7, hqg, hqm, hqd, Lib.hid ⟨h2.out.kn, h2.out.qn, h2.out.hB, h2.out.ag, ⟨by have := h2.out.c.ln; omega, by have := h2.out.c.nx; omega, by have := h2.out.c.c1; omega, by have := h2.out.c.c2; omega, by have := h2.out.c.co; omega, by have := h2.out.c.dn; omega, h2.out.c.fl, fun y hy => by have := h2.out.c.ho y hy; omega⟩, h2.out.h, h2.out.f, h2.out.o⟩⟩
      case rest =>
        obtain ⟨a8, q8, k8, hg8, ht8, hqg8, hqm8, hqd8, h8⟩ := hcut
        clear c0 c1 c2 c3 c4 c5 c6 c7 c8 c9 HCELL HAX hfx hsx h2 hbl
        have m0 : ∀ W', Kp [] wc W' → W'.cell? ⟨q.g, 0, none⟩ = some (.pointer (some ⟨q.bM, 0, none⟩)) ∧ W'.cell? ⟨q.g, 1, none⟩ = some (.pointer (some ⟨q.bD, 0, none⟩)) ∧ ∃ cc, W'.cell? ⟨q.bD, 2, none⟩ = some (.slice q8.dA k8.d.ln.length cc) := fun W' k' => by
          have hq := h8.out.qn.kp k'
          obtain ⟨cb, co, hd⟩ := hq.d.dd
          refine ⟨by rw [← hqg8, ← hqm8]; exact hq.g.cell 0, by rw [← hqg8, ← hqd8]; exact hq.g.cell 1, q8.dc, by rw [← hqd8]; exact hd.cell 2⟩
        have HT : Hid (∀ (R : Ending → World → Prop) (w1 : World), Kp [] wc w1 → R (.returned (.pointer (some ⟨a.bT, 0, none⟩))) w1 → Calls Tryz.prog 17 #[.pointer (some ⟨a.g, 0, none⟩)] w1 R) := Lib.hid (fun R w1 k1 h => by rw [← hg8]; exact ktab_any (h8.out.kn.off0 k1) (by rw [ht8]; exact h))
        have HK : Hid (∀ (R : Ending → World → Prop) (w1 : World), Kp [] wc w1 → R (.returned (.pointer (some ⟨a8.bD, 0, none⟩))) w1 → Calls Tryz.prog 18 #[.pointer (some ⟨a.g, 0, none⟩)] w1 R) := Lib.hid (fun R w1 k1 h => by rw [← hg8]; exact kdisk_any (h8.out.kn.off0 k1) h)
        have HWt : Hid (∀ (R : Ending → World → Prop) (w1 : World), Kp [] wc w1 → R (.returned (.int .i64 k8.d.ln.length)) w1 → Calls Tryz.prog 19 #[.pointer (some ⟨a8.bD, 0, none⟩)] w1 R) := Lib.hid (fun R w1 k1 h => kwaits_any (h8.out.kn.off0 k1) h)
        have HSh : Hid (∀ (R : Ending → World → Prop) (w1 : World), Kp [] wc w1 → (∀ w', Kp [] w1 w' → R (.returned (.bool true)) w') → Calls Tryz.prog 16 #[.pointer (some ⟨a.bT, 0, none⟩), .pointer (some ⟨q.bM, 0, none⟩)] w1 R) := Lib.hid (fun R w1 k1 h => by
          rw [← ht8, ← hqm8]
          obtain ⟨M, hM, hg⟩ := h8.out.o
          exact shows_any (h8.out.kn.off0 k1).t (h8.out.qn.kp k1).t hg.o h)
        obtain ⟨m1, m2, cc9, m3⟩ := m0 wc (Kp.refl _ _)
        go_upto_region 30 with (fail)
        refine wp_region_kp (by kernel_rfl) (by kernel_rfl) ?_
        repeat (go_big_quiet_step (first | (go_at_call 17; (refine HT.out _ _ (kpw_kp _ _) ?_; exact kpx_mk (Kp.refl _ _))) | (go_at_call 18; (refine HK.out _ _ (kpw_kp _ _) ?_; exact kpx_mk (Kp.refl _ _))) | (go_at_call 19; (refine HWt.out _ _ (kpw_kp _ _) ?_; exact kpx_mk (Kp.refl _ _))) | (go_at_call 16; (refine HSh.out _ _ (kpw_kp _ _) (fun w3 k3 => ?_); exact kpx_mk k3))))
        refine wpQuiet_nil ?_
        intro w9 k9
        go_wp2
        exact ⟨⟨i + 1, a8, q8, k8, by omega, by go_num, hg8, ht8, hqg8, hqm8, hqd8, Lib.hid (h8.out.kp k9)⟩, by simp [intOf]; omega⟩
    · obtain rfl : i = n := by omega
      have HH := H.out wr h2.out.qn.old
      clear H h2
      go_wp2
      exact HH
end
end
/-! ### KernPlays of any sizes and steps: true. -/
section
open Go.RowKit Go.Shelf
set_option linter.unusedVariables false
set_option linter.unusedSimpArgs false
set_option maxRecDepth 100000
section
variable {R : Ending → World → Prop} {w : World}
abbrev FarIs (w : World) (A : Option Addr) (n c : Nat) (b : Bool) : Prop := ∀ (R : Ending → World → Prop) (w1 : World), Kp [] w w1 → (∀ w', Kp [] w1 w' → R (.returned (.bool b)) w') → Calls Tryz.prog 6 #[.slice A n c] w1 R
theorem kplays_far (F N : Int) {A : Option Addr} {n c : Nat} (HFar : Hid (FarIs w A n c true)) (h : ∀ w', Kp [] w w' → R (.returned (.bool true)) w') :
    Calls Tryz.prog 3 #[.int .i64 F, .int .i64 N, .slice A n c] w R := by
  have H := Lib.hid h
  clear h
  go_enter Tryz.func3, Tryz.ntmps3
  go_wp2_with (first | (go_at_call 5; ((refine alive09_any _ ?_); intro w1 k1)) | (go_at_call 6; ((refine HFar.out _ _ k1 ?_); intro w2 k2)))
  exact H.out _ (k1.trans k2)
theorem kp_ll (F N : Int) (f0 : decide ((20 : Int) < F) = false) (f1 : decide (F ≤ 256) = true) (f2 : decide (F < 1) = true) (f3 : decide ((256 : Int) < F) = false) (f4 : decide ((20 : Int) < N) = false) (f5 : decide (N ≤ 512) = true) (f6 : decide (N < 4) = true) (f7 : decide ((512 : Int) < N) = false) {A : Option Addr} {n c : Nat} (HFar : Hid (FarIs w A n c false)) (hb : F < 1 ∨ 256 < F ∨ N < 4 ∨ 512 < N) (h : ∀ w', Kp [] w w' → R (.returned (.bool true)) w') :
    Calls Tryz.prog 3 #[.int .i64 F, .int .i64 N, .slice A n c] w R := by
  have H := Lib.hid h
  clear h
  have HN : Hid (∀ (R : Ending → World → Prop) (w : World), (∀ w', Kp [] w w' → R (.returned (.tuple #[.pointer none, .int .i64 1])) w') → Calls Tryz.prog 7 #[.int .i64 F, .int .i64 N] w R) := Lib.hid (fun R w h => knew_bad F N hb h)
  clear hb
  go_enter Tryz.func3, Tryz.ntmps3
  go_wp2_with (first | (go_at_call 5; ((refine alive09_any _ ?_); intro w1 k1)) | (go_at_call 6; ((refine HFar.out _ _ k1 ?_); intro w2 k2)) | (go_at_call 7; ((refine HN.out _ _ ?_); intro w3 k3)))
  exact H.out _ ((k1.trans k2).trans k3)
theorem kp_lg (F N : Int) (f0 : decide ((20 : Int) < F) = false) (f1 : decide (F ≤ 256) = true) (f2 : decide (F < 1) = true) (f3 : decide ((256 : Int) < F) = false) (f4 : decide ((20 : Int) < N) = false) (f5 : decide (N ≤ 512) = true) (f6 : decide (N < 4) = false) (f7 : decide ((512 : Int) < N) = false) {A : Option Addr} {n c : Nat} (HFar : Hid (FarIs w A n c false)) (hb : F < 1 ∨ 256 < F ∨ N < 4 ∨ 512 < N) (h : ∀ w', Kp [] w w' → R (.returned (.bool true)) w') :
    Calls Tryz.prog 3 #[.int .i64 F, .int .i64 N, .slice A n c] w R := by
  have H := Lib.hid h
  clear h
  have HN : Hid (∀ (R : Ending → World → Prop) (w : World), (∀ w', Kp [] w w' → R (.returned (.tuple #[.pointer none, .int .i64 1])) w') → Calls Tryz.prog 7 #[.int .i64 F, .int .i64 N] w R) := Lib.hid (fun R w h => knew_bad F N hb h)
  clear hb
  go_enter Tryz.func3, Tryz.ntmps3
  go_wp2_with (first | (go_at_call 5; ((refine alive09_any _ ?_); intro w1 k1)) | (go_at_call 6; ((refine HFar.out _ _ k1 ?_); intro w2 k2)) | (go_at_call 7; ((refine HN.out _ _ ?_); intro w3 k3)))
  exact H.out _ ((k1.trans k2).trans k3)
theorem kp_lm (F N : Int) (f0 : decide ((20 : Int) < F) = false) (f1 : decide (F ≤ 256) = true) (f2 : decide (F < 1) = true) (f3 : decide ((256 : Int) < F) = false) (f4 : decide ((20 : Int) < N) = true) (f5 : decide (N ≤ 512) = true) (f6 : decide (N < 4) = false) (f7 : decide ((512 : Int) < N) = false) {A : Option Addr} {n c : Nat} (HFar : Hid (FarIs w A n c false)) (h : ∀ w', Kp [] w w' → R (.returned (.bool true)) w') :
    Calls Tryz.prog 3 #[.int .i64 F, .int .i64 N, .slice A n c] w R := by
  have H := Lib.hid h
  clear h
  go_enter Tryz.func3, Tryz.ntmps3
  go_wp2_with (first | (go_at_call 5; ((refine alive09_any _ ?_); intro w1 k1)) | (go_at_call 6; ((refine HFar.out _ _ k1 ?_); intro w2 k2)))
  exact H.out _ (k1.trans k2)
theorem kp_lh (F N : Int) (f0 : decide ((20 : Int) < F) = false) (f1 : decide (F ≤ 256) = true) (f2 : decide (F < 1) = true) (f3 : decide ((256 : Int) < F) = false) (f4 : decide ((20 : Int) < N) = true) (f5 : decide (N ≤ 512) = false) (f6 : decide (N < 4) = false) (f7 : decide ((512 : Int) < N) = true) {A : Option Addr} {n c : Nat} (HFar : Hid (FarIs w A n c false)) (hb : F < 1 ∨ 256 < F ∨ N < 4 ∨ 512 < N) (h : ∀ w', Kp [] w w' → R (.returned (.bool true)) w') :
    Calls Tryz.prog 3 #[.int .i64 F, .int .i64 N, .slice A n c] w R := by
  have H := Lib.hid h
  clear h
  have HN : Hid (∀ (R : Ending → World → Prop) (w : World), (∀ w', Kp [] w w' → R (.returned (.tuple #[.pointer none, .int .i64 1])) w') → Calls Tryz.prog 7 #[.int .i64 F, .int .i64 N] w R) := Lib.hid (fun R w h => knew_bad F N hb h)
  clear hb
  go_enter Tryz.func3, Tryz.ntmps3
  go_wp2_with (first | (go_at_call 5; ((refine alive09_any _ ?_); intro w1 k1)) | (go_at_call 6; ((refine HFar.out _ _ k1 ?_); intro w2 k2)) | (go_at_call 7; ((refine HN.out _ _ ?_); intro w3 k3)))
  exact H.out _ ((k1.trans k2).trans k3)
theorem kp_gl (F N : Int) (f0 : decide ((20 : Int) < F) = false) (f1 : decide (F ≤ 256) = true) (f2 : decide (F < 1) = false) (f3 : decide ((256 : Int) < F) = false) (f4 : decide ((20 : Int) < N) = false) (f5 : decide (N ≤ 512) = true) (f6 : decide (N < 4) = true) (f7 : decide ((512 : Int) < N) = false) {A : Option Addr} {n c : Nat} (HFar : Hid (FarIs w A n c false)) (hb : F < 1 ∨ 256 < F ∨ N < 4 ∨ 512 < N) (h : ∀ w', Kp [] w w' → R (.returned (.bool true)) w') :
    Calls Tryz.prog 3 #[.int .i64 F, .int .i64 N, .slice A n c] w R := by
  have H := Lib.hid h
  clear h
  have HN : Hid (∀ (R : Ending → World → Prop) (w : World), (∀ w', Kp [] w w' → R (.returned (.tuple #[.pointer none, .int .i64 1])) w') → Calls Tryz.prog 7 #[.int .i64 F, .int .i64 N] w R) := Lib.hid (fun R w h => knew_bad F N hb h)
  clear hb
  go_enter Tryz.func3, Tryz.ntmps3
  go_wp2_with (first | (go_at_call 5; ((refine alive09_any _ ?_); intro w1 k1)) | (go_at_call 6; ((refine HFar.out _ _ k1 ?_); intro w2 k2)) | (go_at_call 7; ((refine HN.out _ _ ?_); intro w3 k3)))
  exact H.out _ ((k1.trans k2).trans k3)
theorem kp_gm (F N : Int) (f0 : decide ((20 : Int) < F) = false) (f1 : decide (F ≤ 256) = true) (f2 : decide (F < 1) = false) (f3 : decide ((256 : Int) < F) = false) (f4 : decide ((20 : Int) < N) = true) (f5 : decide (N ≤ 512) = true) (f6 : decide (N < 4) = false) (f7 : decide ((512 : Int) < N) = false) {A : Option Addr} {n c : Nat} (HFar : Hid (FarIs w A n c false)) (h : ∀ w', Kp [] w w' → R (.returned (.bool true)) w') :
    Calls Tryz.prog 3 #[.int .i64 F, .int .i64 N, .slice A n c] w R := by
  have H := Lib.hid h
  clear h
  go_enter Tryz.func3, Tryz.ntmps3
  go_wp2_with (first | (go_at_call 5; ((refine alive09_any _ ?_); intro w1 k1)) | (go_at_call 6; ((refine HFar.out _ _ k1 ?_); intro w2 k2)))
  exact H.out _ (k1.trans k2)
theorem kp_gh (F N : Int) (f0 : decide ((20 : Int) < F) = false) (f1 : decide (F ≤ 256) = true) (f2 : decide (F < 1) = false) (f3 : decide ((256 : Int) < F) = false) (f4 : decide ((20 : Int) < N) = true) (f5 : decide (N ≤ 512) = false) (f6 : decide (N < 4) = false) (f7 : decide ((512 : Int) < N) = true) {A : Option Addr} {n c : Nat} (HFar : Hid (FarIs w A n c false)) (hb : F < 1 ∨ 256 < F ∨ N < 4 ∨ 512 < N) (h : ∀ w', Kp [] w w' → R (.returned (.bool true)) w') :
    Calls Tryz.prog 3 #[.int .i64 F, .int .i64 N, .slice A n c] w R := by
  have H := Lib.hid h
  clear h
  have HN : Hid (∀ (R : Ending → World → Prop) (w : World), (∀ w', Kp [] w w' → R (.returned (.tuple #[.pointer none, .int .i64 1])) w') → Calls Tryz.prog 7 #[.int .i64 F, .int .i64 N] w R) := Lib.hid (fun R w h => knew_bad F N hb h)
  clear hb
  go_enter Tryz.func3, Tryz.ntmps3
  go_wp2_with (first | (go_at_call 5; ((refine alive09_any _ ?_); intro w1 k1)) | (go_at_call 6; ((refine HFar.out _ _ k1 ?_); intro w2 k2)) | (go_at_call 7; ((refine HN.out _ _ ?_); intro w3 k3)))
  exact H.out _ ((k1.trans k2).trans k3)
theorem kp_ml (F N : Int) (f0 : decide ((20 : Int) < F) = true) (f1 : decide (F ≤ 256) = true) (f2 : decide (F < 1) = false) (f3 : decide ((256 : Int) < F) = false) (f4 : decide ((20 : Int) < N) = false) (f5 : decide (N ≤ 512) = true) (f6 : decide (N < 4) = true) (f7 : decide ((512 : Int) < N) = false) {A : Option Addr} {n c : Nat} (HFar : Hid (FarIs w A n c false)) (h : ∀ w', Kp [] w w' → R (.returned (.bool true)) w') :
    Calls Tryz.prog 3 #[.int .i64 F, .int .i64 N, .slice A n c] w R := by
  have H := Lib.hid h
  clear h
  go_enter Tryz.func3, Tryz.ntmps3
  go_wp2_with (first | (go_at_call 5; ((refine alive09_any _ ?_); intro w1 k1)) | (go_at_call 6; ((refine HFar.out _ _ k1 ?_); intro w2 k2)))
  exact H.out _ (k1.trans k2)
theorem kp_mg (F N : Int) (f0 : decide ((20 : Int) < F) = true) (f1 : decide (F ≤ 256) = true) (f2 : decide (F < 1) = false) (f3 : decide ((256 : Int) < F) = false) (f4 : decide ((20 : Int) < N) = false) (f5 : decide (N ≤ 512) = true) (f6 : decide (N < 4) = false) (f7 : decide ((512 : Int) < N) = false) {A : Option Addr} {n c : Nat} (HFar : Hid (FarIs w A n c false)) (h : ∀ w', Kp [] w w' → R (.returned (.bool true)) w') :
    Calls Tryz.prog 3 #[.int .i64 F, .int .i64 N, .slice A n c] w R := by
  have H := Lib.hid h
  clear h
  go_enter Tryz.func3, Tryz.ntmps3
  go_wp2_with (first | (go_at_call 5; ((refine alive09_any _ ?_); intro w1 k1)) | (go_at_call 6; ((refine HFar.out _ _ k1 ?_); intro w2 k2)))
  exact H.out _ (k1.trans k2)
theorem kp_mm (F N : Int) (f0 : decide ((20 : Int) < F) = true) (f1 : decide (F ≤ 256) = true) (f2 : decide (F < 1) = false) (f3 : decide ((256 : Int) < F) = false) (f4 : decide ((20 : Int) < N) = true) (f5 : decide (N ≤ 512) = true) (f6 : decide (N < 4) = false) (f7 : decide ((512 : Int) < N) = false) {A : Option Addr} {n c : Nat} (HFar : Hid (FarIs w A n c false)) (h : ∀ w', Kp [] w w' → R (.returned (.bool true)) w') :
    Calls Tryz.prog 3 #[.int .i64 F, .int .i64 N, .slice A n c] w R := by
  have H := Lib.hid h
  clear h
  go_enter Tryz.func3, Tryz.ntmps3
  go_wp2_with (first | (go_at_call 5; ((refine alive09_any _ ?_); intro w1 k1)) | (go_at_call 6; ((refine HFar.out _ _ k1 ?_); intro w2 k2)))
  exact H.out _ (k1.trans k2)
theorem kp_mh (F N : Int) (f0 : decide ((20 : Int) < F) = true) (f1 : decide (F ≤ 256) = true) (f2 : decide (F < 1) = false) (f3 : decide ((256 : Int) < F) = false) (f4 : decide ((20 : Int) < N) = true) (f5 : decide (N ≤ 512) = false) (f6 : decide (N < 4) = false) (f7 : decide ((512 : Int) < N) = true) {A : Option Addr} {n c : Nat} (HFar : Hid (FarIs w A n c false)) (h : ∀ w', Kp [] w w' → R (.returned (.bool true)) w') :
    Calls Tryz.prog 3 #[.int .i64 F, .int .i64 N, .slice A n c] w R := by
  have H := Lib.hid h
  clear h
  go_enter Tryz.func3, Tryz.ntmps3
  go_wp2_with (first | (go_at_call 5; ((refine alive09_any _ ?_); intro w1 k1)) | (go_at_call 6; ((refine HFar.out _ _ k1 ?_); intro w2 k2)))
  exact H.out _ (k1.trans k2)
theorem kp_hl (F N : Int) (f0 : decide ((20 : Int) < F) = true) (f1 : decide (F ≤ 256) = false) (f2 : decide (F < 1) = false) (f3 : decide ((256 : Int) < F) = true) (f4 : decide ((20 : Int) < N) = false) (f5 : decide (N ≤ 512) = true) (f6 : decide (N < 4) = true) (f7 : decide ((512 : Int) < N) = false) {A : Option Addr} {n c : Nat} (HFar : Hid (FarIs w A n c false)) (hb : F < 1 ∨ 256 < F ∨ N < 4 ∨ 512 < N) (h : ∀ w', Kp [] w w' → R (.returned (.bool true)) w') :
    Calls Tryz.prog 3 #[.int .i64 F, .int .i64 N, .slice A n c] w R := by
  have H := Lib.hid h
  clear h
  have HN : Hid (∀ (R : Ending → World → Prop) (w : World), (∀ w', Kp [] w w' → R (.returned (.tuple #[.pointer none, .int .i64 1])) w') → Calls Tryz.prog 7 #[.int .i64 F, .int .i64 N] w R) := Lib.hid (fun R w h => knew_bad F N hb h)
  clear hb
  go_enter Tryz.func3, Tryz.ntmps3
  go_wp2_with (first | (go_at_call 5; ((refine alive09_any _ ?_); intro w1 k1)) | (go_at_call 6; ((refine HFar.out _ _ k1 ?_); intro w2 k2)) | (go_at_call 7; ((refine HN.out _ _ ?_); intro w3 k3)))
  exact H.out _ ((k1.trans k2).trans k3)
theorem kp_hg (F N : Int) (f0 : decide ((20 : Int) < F) = true) (f1 : decide (F ≤ 256) = false) (f2 : decide (F < 1) = false) (f3 : decide ((256 : Int) < F) = true) (f4 : decide ((20 : Int) < N) = false) (f5 : decide (N ≤ 512) = true) (f6 : decide (N < 4) = false) (f7 : decide ((512 : Int) < N) = false) {A : Option Addr} {n c : Nat} (HFar : Hid (FarIs w A n c false)) (hb : F < 1 ∨ 256 < F ∨ N < 4 ∨ 512 < N) (h : ∀ w', Kp [] w w' → R (.returned (.bool true)) w') :
    Calls Tryz.prog 3 #[.int .i64 F, .int .i64 N, .slice A n c] w R := by
  have H := Lib.hid h
  clear h
  have HN : Hid (∀ (R : Ending → World → Prop) (w : World), (∀ w', Kp [] w w' → R (.returned (.tuple #[.pointer none, .int .i64 1])) w') → Calls Tryz.prog 7 #[.int .i64 F, .int .i64 N] w R) := Lib.hid (fun R w h => knew_bad F N hb h)
  clear hb
  go_enter Tryz.func3, Tryz.ntmps3
  go_wp2_with (first | (go_at_call 5; ((refine alive09_any _ ?_); intro w1 k1)) | (go_at_call 6; ((refine HFar.out _ _ k1 ?_); intro w2 k2)) | (go_at_call 7; ((refine HN.out _ _ ?_); intro w3 k3)))
  exact H.out _ ((k1.trans k2).trans k3)
theorem kp_hm (F N : Int) (f0 : decide ((20 : Int) < F) = true) (f1 : decide (F ≤ 256) = false) (f2 : decide (F < 1) = false) (f3 : decide ((256 : Int) < F) = true) (f4 : decide ((20 : Int) < N) = true) (f5 : decide (N ≤ 512) = true) (f6 : decide (N < 4) = false) (f7 : decide ((512 : Int) < N) = false) {A : Option Addr} {n c : Nat} (HFar : Hid (FarIs w A n c false)) (h : ∀ w', Kp [] w w' → R (.returned (.bool true)) w') :
    Calls Tryz.prog 3 #[.int .i64 F, .int .i64 N, .slice A n c] w R := by
  have H := Lib.hid h
  clear h
  go_enter Tryz.func3, Tryz.ntmps3
  go_wp2_with (first | (go_at_call 5; ((refine alive09_any _ ?_); intro w1 k1)) | (go_at_call 6; ((refine HFar.out _ _ k1 ?_); intro w2 k2)))
  exact H.out _ (k1.trans k2)
theorem kp_hh (F N : Int) (f0 : decide ((20 : Int) < F) = true) (f1 : decide (F ≤ 256) = false) (f2 : decide (F < 1) = false) (f3 : decide ((256 : Int) < F) = true) (f4 : decide ((20 : Int) < N) = true) (f5 : decide (N ≤ 512) = false) (f6 : decide (N < 4) = false) (f7 : decide ((512 : Int) < N) = true) {A : Option Addr} {n c : Nat} (HFar : Hid (FarIs w A n c false)) (hb : F < 1 ∨ 256 < F ∨ N < 4 ∨ 512 < N) (h : ∀ w', Kp [] w w' → R (.returned (.bool true)) w') :
    Calls Tryz.prog 3 #[.int .i64 F, .int .i64 N, .slice A n c] w R := by
  have H := Lib.hid h
  clear h
  have HN : Hid (∀ (R : Ending → World → Prop) (w : World), (∀ w', Kp [] w w' → R (.returned (.tuple #[.pointer none, .int .i64 1])) w') → Calls Tryz.prog 7 #[.int .i64 F, .int .i64 N] w R) := Lib.hid (fun R w h => knew_bad F N hb h)
  clear hb
  go_enter Tryz.func3, Tryz.ntmps3
  go_wp2_with (first | (go_at_call 5; ((refine alive09_any _ ?_); intro w1 k1)) | (go_at_call 6; ((refine HFar.out _ _ k1 ?_); intro w2 k2)) | (go_at_call 7; ((refine HN.out _ _ ?_); intro w3 k3)))
  exact H.out _ ((k1.trans k2).trans k3)
theorem kplays_walk (F N : Int) (l : Sin KAct) (hl : l.ok w KAct.vals (KAct.ok w)) (h : ∀ w', Kp [] w w' → R (.returned (.bool true)) w') :
    Calls Tryz.prog 3 #[.int .i64 F, .int .i64 N, .slice l.A l.n l.c] w R := by
  have hmx := hl.max
  have hcap := hl.cap
  unfold maxLen at hmx
  have HF : FarIs w l.A l.n l.c (kfar l.l) := fun R w1 k1 h => kfar_any (hl.rd.kp k1 (by simp)) hl.len (by omega) h
  by_cases hfar : kfar l.l = true
  · rw [hfar] at HF
    exact kplays_far F N (Lib.hid HF) h
  · rw [Bool.not_eq_true] at hfar
    rw [hfar] at HF
    have HF := Lib.hid HF
    by_cases a1 : F < 1
    · have b1 : ¬ 20 < F := by omega
      have c1 : F ≤ 256 := by omega
      have d1 : ¬ 256 < F := by omega
      by_cases a2 : N < 4
      · exact kp_ll F N (decide_eq_false b1) (decide_eq_true c1) (decide_eq_true a1) (decide_eq_false d1) (decide_eq_false (by omega)) (decide_eq_true (by omega)) (decide_eq_true (by omega)) (decide_eq_false (by omega)) HF (by omega) h
      by_cases b2 : 20 < N
      · by_cases c2 : N ≤ 512
        · exact kp_lm F N (decide_eq_false b1) (decide_eq_true c1) (decide_eq_true a1) (decide_eq_false d1) (decide_eq_true (by omega)) (decide_eq_true (by omega)) (decide_eq_false (by omega)) (decide_eq_false (by omega)) HF h
        · exact kp_lh F N (decide_eq_false b1) (decide_eq_true c1) (decide_eq_true a1) (decide_eq_false d1) (decide_eq_true (by omega)) (decide_eq_false (by omega)) (decide_eq_false (by omega)) (decide_eq_true (by omega)) HF (by omega) h
      exact kp_lg F N (decide_eq_false b1) (decide_eq_true c1) (decide_eq_true a1) (decide_eq_false d1) (decide_eq_false (by omega)) (decide_eq_true (by omega)) (decide_eq_false (by omega)) (decide_eq_false (by omega)) HF (by omega) h
    by_cases b1 : 20 < F
    · by_cases c1 : F ≤ 256
      · have d1 : ¬ 256 < F := by omega
        by_cases a2 : N < 4
        · exact kp_ml F N (decide_eq_true b1) (decide_eq_true c1) (decide_eq_false a1) (decide_eq_false d1) (decide_eq_false (by omega)) (decide_eq_true (by omega)) (decide_eq_true (by omega)) (decide_eq_false (by omega)) HF h
        by_cases b2 : 20 < N
        · by_cases c2 : N ≤ 512
          · exact kp_mm F N (decide_eq_true b1) (decide_eq_true c1) (decide_eq_false a1) (decide_eq_false d1) (decide_eq_true (by omega)) (decide_eq_true (by omega)) (decide_eq_false (by omega)) (decide_eq_false (by omega)) HF h
          · exact kp_mh F N (decide_eq_true b1) (decide_eq_true c1) (decide_eq_false a1) (decide_eq_false d1) (decide_eq_true (by omega)) (decide_eq_false (by omega)) (decide_eq_false (by omega)) (decide_eq_true (by omega)) HF h
        exact kp_mg F N (decide_eq_true b1) (decide_eq_true c1) (decide_eq_false a1) (decide_eq_false d1) (decide_eq_false (by omega)) (decide_eq_true (by omega)) (decide_eq_false (by omega)) (decide_eq_false (by omega)) HF h
      · have d1 : 256 < F := by omega
        by_cases a2 : N < 4
        · exact kp_hl F N (decide_eq_true b1) (decide_eq_false c1) (decide_eq_false a1) (decide_eq_true d1) (decide_eq_false (by omega)) (decide_eq_true (by omega)) (decide_eq_true (by omega)) (decide_eq_false (by omega)) HF (by omega) h
        by_cases b2 : 20 < N
        · by_cases c2 : N ≤ 512
          · exact kp_hm F N (decide_eq_true b1) (decide_eq_false c1) (decide_eq_false a1) (decide_eq_true d1) (decide_eq_true (by omega)) (decide_eq_true (by omega)) (decide_eq_false (by omega)) (decide_eq_false (by omega)) HF h
          · exact kp_hh F N (decide_eq_true b1) (decide_eq_false c1) (decide_eq_false a1) (decide_eq_true d1) (decide_eq_true (by omega)) (decide_eq_false (by omega)) (decide_eq_false (by omega)) (decide_eq_true (by omega)) HF (by omega) h
        exact kp_hg F N (decide_eq_true b1) (decide_eq_false c1) (decide_eq_false a1) (decide_eq_true d1) (decide_eq_false (by omega)) (decide_eq_true (by omega)) (decide_eq_false (by omega)) (decide_eq_false (by omega)) HF (by omega) h
    have c1 : F ≤ 256 := by omega
    have d1 : ¬ 256 < F := by omega
    by_cases a2 : N < 4
    · exact kp_gl F N (decide_eq_false b1) (decide_eq_true c1) (decide_eq_false a1) (decide_eq_false d1) (decide_eq_false (by omega)) (decide_eq_true (by omega)) (decide_eq_true (by omega)) (decide_eq_false (by omega)) HF (by omega) h
    by_cases b2 : 20 < N
    · by_cases c2 : N ≤ 512
      · exact kp_gm F N (decide_eq_false b1) (decide_eq_true c1) (decide_eq_false a1) (decide_eq_false d1) (decide_eq_true (by omega)) (decide_eq_true (by omega)) (decide_eq_false (by omega)) (decide_eq_false (by omega)) HF h
      · exact kp_gh F N (decide_eq_false b1) (decide_eq_true c1) (decide_eq_false a1) (decide_eq_false d1) (decide_eq_true (by omega)) (decide_eq_false (by omega)) (decide_eq_false (by omega)) (decide_eq_true (by omega)) HF (by omega) h
    exact (by
        obtain ⟨F', rfl⟩ : ∃ f : Nat, F = f := ⟨F.toNat, by omega⟩
        obtain ⟨N', rfl⟩ : ∃ f : Nat, N = f := ⟨N.toNat, by omega⟩
        exact kplays_good F' N' (by omega) (by omega) (by omega) (by omega) l hl hfar h)
end
end
end Go.Proofs.YtedblbpmlbjnhaaGreat
