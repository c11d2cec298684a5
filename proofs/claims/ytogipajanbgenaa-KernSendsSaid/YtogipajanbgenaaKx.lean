/- KernSends walked, the law. -/
import Derived.Test.YtogipajanbgenaaKw
namespace Go.Proofs.Ytogipajanbgenaa
open Go.RowKit Go.Shelf
set_option linter.unusedVariables false
set_option linter.unusedSimpArgs false
set_option maxRecDepth 100000
section
variable {R : Ending → World → Prop} {w : World}
theorem wrap_okx {v : Int} (h0 : -9223372036854775808 ≤ v) (h1 : v ≤ 9223372036854775807) : IntKind.i64.wrap v = v := by
  first | (simp only [IntKind.wrap, wrap64]; omega) | (simp [IntKind.wrap, IntKind.signed, IntKind.bits]; omega) | (unfold IntKind.wrap; simp; omega)
set_option maxHeartbeats 4000000 in
theorem ksends_walk (s : ByteArray) (off : Nat) (ho : off ≤ 255) (hsz : s.size ≤ maxLen) (a : Sin KAct) (ha : a.ok w KAct.vals (KAct.ok w)) (h : ∀ w', Kp [] w w' → R (.returned (.bool true)) w') :
    Calls Try.prog 4 #[.string s, .int .u8 off, .slice a.A a.n a.c] w R := by
  have H := Lib.hid h
  obtain ⟨A, n, c, l⟩ := a
  obtain ⟨hl, hcap, hmax, hall, hrd, _⟩ := ha
  simp only at hl hcap hmax hall hrd
  have hmx : c ≤ 9223372036854775807 := hmax
  have hsx : s.size ≤ 9223372036854775807 := hsz
  have HFar : Hid (∀ (R : Ending → World → Prop) (w1 : World), Kp [] w w1 → (∀ w', Kp [] w1 w' → R (.returned (.bool (kfar l))) w') → Calls Try.prog 31 #[.slice A n c] w1 R) := Lib.hid (fun R w1 k1 h => kfar_any (hrd.kp k1 (by simp)) hl (by omega) h)
  have HA := Lib.hid hall
  have HR := Lib.hid hrd
  have HL := Lib.hid hl
  clear h hl hall hrd hmax hsz
  cases hf : kfar l with
  | true =>
    rw [hf] at HFar
    go_enter Try.func4, Try.ntmps4
    go_wp2_with (first | (go_at_call 30; ((refine alive09_any _ ?_); intro w1 k1)) | (go_at_call 31; ((refine HFar.out _ _ k1 ?_); intro w2 k2)))
    exact H.out _ (k1.trans k2)
  | false =>
    rw [hf] at HFar
    by_cases h1 : s.size < 1
    · go_enter Try.func4, Try.ntmps4
      go_wp2_with (first | (go_at_call 30; ((refine alive09_any _ ?_); intro w1 k1)) | (go_at_call 31; ((refine HFar.out _ _ k1 ?_); intro w2 k2)))
      exact H.out _ (k1.trans k2)
    · by_cases h2 : (256 : Int) - off < s.size
      · go_enter Try.func4, Try.ntmps4
        go_wp2_with (first | (go_at_call 30; ((refine alive09_any _ ?_); intro w1 k1)) | (go_at_call 31; ((refine HFar.out _ _ k1 ?_); intro w2 k2)))
        exact H.out _ (k1.trans k2)
      · have hn1 : 1 ≤ s.size := by omega
        have hos : off + s.size ≤ 256 := by omega
        have hfn : n ≤ 100 ∧ ∀ x ∈ l, farC x.c = false := by
          have hl := HL.out
          simp only [kfar, Bool.or_eq_false_iff, decide_eq_false_iff_not] at hf
          refine ⟨by omega, fun x hx => ?_⟩
          have := List.any_eq_false.1 hf.2 x hx
          simp at this
          simp [this.1]
        obtain ⟨hn100, hfc⟩ := hfn
        have HFC := Lib.hid hfc
        obtain ⟨bw, cw, hcs, hszb, hbk, hbr⟩ := conv_letter s
        have HBK := Lib.hid hbk
        have HBR := Lib.hid hbr
        clear hbk hbr hf hfc
        have HNew : Hid (∀ (R : Ending → World → Prop) (w : World), (∀ a w', Kp [] w w' → Kn w' w.heap.size a (kz0 4 8) → R (.returned (.tuple #[.pointer (some ⟨a.g, 0, none⟩), .int .i64 0])) w') → Calls Try.prog 32 #[.int .i64 4, .int .i64 8] w R) := Lib.hid (fun R w h => knew2_any 4 8 (by omega) (by omega) (by omega) (by omega) w h)
        have HC1 : Hid (∀ (R : Ending → World → Prop) (w : World) (B : Nat) (a : KA), Kn w B a (kz0 4 8) → (∀ A cc a' w', Kq B w w' → (Kn w' B a' ks1 ∧ a'.g = a.g ∧ a'.bT = a.bT) → R (.returned (.tuple #[.agg #[.int .i64 0, .slice A 0 cc], .int .i64 0])) w') → Calls Try.prog 33 #[.pointer (some ⟨a.g, 0, none⟩), .agg #[.int .i64 1, .int .i64 1, .int .i64 0, .int .i64 0, .int .i64 0, .slice none 0 0, .slice none 0 0, .slice none 0 0]] w R) := Lib.hid (fun R w B a hK h => ks_call1 hK h)
        go_enter Try.func4, Try.ntmps4
        go_upto_region 7 with (first | (go_at_call 30; ((refine alive09_any _ ?_); intro w1 k1)) | (go_at_call 31; ((refine HFar.out _ _ k1 ?_); intro w2 k2)) | (go_at_call 32; ((refine HNew.out _ _ ?_); intro ka w3 k3 n3)) | (go_at_call 33; ((with_reducible refine HC1.out _ _ _ _ n3 ?_); intro A4 cc4 ka4 w4 q4 n4)))
        have b9 : Bk (w4.alloc (.cells #[.int .i64 0, .slice A4 0 cc4] 59)) w4.heap.size 59 [.int .i64 0, .slice A4 0 cc4] := (Bk.new' _ _ _).cast rfl
        refine gen_worldK (fun W => ∃ c9, w4.heap.size = c9 ∧ Hid (Kp [] w W ∧ Kn W w2.heap.size ka4 ks1 ∧ Bk W c9 59 [.int .i64 0, .slice A4 0 cc4] ∧ w.heap.size ≤ c9 ∧ w.heap.size ≤ w2.heap.size)) ⟨_, rfl, Lib.hid ⟨((q4.old ((k1.trans k2).trans k3) (k1.trans k2).size)).alloc _, n4.1.off0 ((Kp.refl [] _).alloc _), b9, (q4.old ((k1.trans k2).trans k3) (k1.trans k2).size).size, (k1.trans k2).size⟩⟩ ?_
        rintro W5 ⟨c9, hc9, hW5⟩
        rw [hc9]
        have hg4 : ka4.g = ka.g := n4.2.1
        rw [← hg4]
        clear hc9 b9 hg4 n4 q4 n3 k3
        obtain ⟨B, hB⟩ : ∃ B, w2.heap.size = B := ⟨_, rfl⟩
        rw [hB] at hW5
        have HC5 : Hid (∀ (R : Ending → World → Prop) (w : World) (b : Nat), Kn w B ka4 ks1 → Tb w 5 (some ⟨b, 0, none⟩) (bts s.data.toList) → (∀ v a' w', Kq B w w' → (Kn w' B a' (ks2 (putB z256 off s.data.toList)) ∧ a'.g = ka4.g ∧ a'.bT = ka4.bT) → R (.returned v) w') → ∀ c5, Calls Try.prog 33 #[.pointer (some ⟨ka4.g, 0, none⟩), .agg #[.int .i64 5, .int .i64 1, .int .i64 0, .int .i64 off, .int .i64 0, .slice (some ⟨b, 0, none⟩) s.size c5, .slice none 0 0, .slice none 0 0]] w R) := Lib.hid (fun R w b hK hT h c5 => ks_call5 hK (show s.data.toList.length = s.size from Array.length_toList) hos hT (fun h => by cases h) h)
        obtain ⟨kW, nW, bW, l1, l2⟩ := hW5.out
        have e9 : W5.cell? ⟨c9, 0, none⟩ = some (.int .i64 0) := bW.cell 0
        clear kW nW bW l1 l2
        have HOf9 : Hid (∀ (R : Ending → World → Prop) (w1 : World), (∀ A5 c5 A6 c6 A7 c7 w', Kp [] w1 w' → Hid (Tb w' 5 A5 (bts []) ∧ Ow w' 82 4 A6 0 c6 [] ∧ Ow w' 70 3 A7 0 c7 [] ∧ (A5 = none → False) ∧ Fresh w1.heap.size A7) → R (.returned (.agg #[.int .i64 11, .int .i64 1, .int .i64 0, .int .i64 0, .int .i64 0, .slice A5 0 c5, .slice A6 0 c6, .slice A7 0 c7])) w') → Calls Try.prog 34 #[.agg #[.int .i64 11, .int .i64 1, .int .i64 0, .int .i64 0, .int .i64 0, .string ⟨#[]⟩, .slice none 0 0, .slice none 0 0]] w1 R) := Lib.hid (fun R w1 h => of09_any ⟨11, 1, 0, 0, 0, ⟨#[]⟩, ⟨none, 0, 0, []⟩, ⟨none, 0, 0, []⟩⟩ w1 Rd.nil rfl (by decide) Rd.nil rfl (by decide) (fun A5 c5 A6 c6 A7 c7 w' k t5 f5 o6 f6 o7 f7 h5 => h A5 c5 A6 c6 A7 c7 w' k (Lib.hid ⟨t5, o6, o7, h5, f7⟩)))
        go_upto_region 10 with (first | (go_at_call 34; ((refine HOf9.out _ _ ?_); intro A5 c5 A6 c6 A7 c7 w7 k7 f7)) | go_at_call 33; ((refine HC5.out _ _ _ (hW5.out.2.1.off0 (HBK.out _ _ _ (Kp.refl [] _))) (HBR.out _ _ rfl) ?_ _); intro v5 ka5 w6 q6 n6))
        have hW8 : Kp [] w w6 ∧ Kn w6 B ka5 (ks2 (putB z256 off s.data.toList)) ∧ Kp [] w6 (w7.alloc (.cells #[.int .i64 11, .int .i64 1, .int .i64 0, .int .i64 0, .int .i64 0, .slice A5 0 c5, .slice A6 0 c6, .slice A7 0 c7] 64)) ∧ Bk (w7.alloc (.cells #[.int .i64 11, .int .i64 1, .int .i64 0, .int .i64 0, .int .i64 0, .slice A5 0 c5, .slice A6 0 c6, .slice A7 0 c7] 64)) c9 59 [.int .i64 0, .slice A4 0 cc4] ∧ Bk (w7.alloc (.cells #[.int .i64 11, .int .i64 1, .int .i64 0, .int .i64 0, .int .i64 0, .slice A5 0 c5, .slice A6 0 c6, .slice A7 0 c7] 64)) w7.heap.size 64 [.int .i64 11, .int .i64 1, .int .i64 0, .int .i64 0, .int .i64 0, .slice A5 0 c5, .slice A6 0 c6, .slice A7 0 c7] ∧ Tb (w7.alloc (.cells #[.int .i64 11, .int .i64 1, .int .i64 0, .int .i64 0, .int .i64 0, .slice A5 0 c5, .slice A6 0 c6, .slice A7 0 c7] 64)) 5 A5 (bts []) ∧ Ow (w7.alloc (.cells #[.int .i64 11, .int .i64 1, .int .i64 0, .int .i64 0, .int .i64 0, .slice A5 0 c5, .slice A6 0 c6, .slice A7 0 c7] 64)) 82 4 A6 0 c6 [] ∧ Ow (w7.alloc (.cells #[.int .i64 11, .int .i64 1, .int .i64 0, .int .i64 0, .int .i64 0, .slice A5 0 c5, .slice A6 0 c6, .slice A7 0 c7] 64)) 70 3 A7 0 c7 [] ∧ (A5 = none → False) ∧ w6.heap.size ≤ w7.heap.size ∧ w.heap.size ≤ B ∧ Fresh w6.heap.size A7 := by
          obtain ⟨x1, x2, x3, x4, x5⟩ := hW5.out
          obtain ⟨y1, y2, y3, y4, y5⟩ := f7.out
          have kb := HBK.out [] w W5 x1
          have k6 := q6.old kb x5
          have k8 := ((Kp.refl [] w6).alloc _).trans k7
          exact ⟨k6, n6.1, k8.alloc _, (((q6.bk (x3.kp (HBK.out _ _ _ (Kp.refl [] W5)) (by simp)) (by decide)).alloc _).kp k7 (by simp)).alloc _, (Bk.new' _ _ _).cast rfl, y1.kp ((Kp.refl [] _).alloc _) (Off.nil _ _), y2.alloc _, y3.alloc _, y4, k8.size, x5, fun b hb => Nat.le_trans (by simp) (y5 b hb)⟩
        refine gen_worldK (fun W => ∃ c12, w7.heap.size = c12 ∧ Hid (Kp [] w w6 ∧ Kn w6 B ka5 (ks2 (putB z256 off s.data.toList)) ∧ Kp [] w6 W ∧ Bk W c9 59 [.int .i64 0, .slice A4 0 cc4] ∧ Bk W c12 64 [.int .i64 11, .int .i64 1, .int .i64 0, .int .i64 0, .int .i64 0, .slice A5 0 c5, .slice A6 0 c6, .slice A7 0 c7] ∧ Tb W 5 A5 (bts []) ∧ Ow W 82 4 A6 0 c6 [] ∧ Ow W 70 3 A7 0 c7 [] ∧ (A5 = none → False) ∧ w6.heap.size ≤ c12 ∧ w.heap.size ≤ B ∧ Fresh w6.heap.size A7)) ⟨_, rfl, Lib.hid hW8⟩ ?_
        clear hW8
        rintro W8 ⟨c12, hc12, hW8⟩
        rw [hc12, ← n6.2.1]
        clear hc12 n6 q6 k7 f7 hW5 e9 HC5 HOf9
        go_cut [6] from 13 (fun s6 W' => s6 = .bool false ∧ ∃ A8 c8, Hid (Kp [] w W' ∧ Kn W' B ka5 (ks2 (putB z256 off s.data.toList)) ∧ Bk W' c9 59 [.int .i64 0, .slice A4 0 cc4] ∧ Bk W' c12 64 [.int .i64 11, .int .i64 1, .int .i64 0, .int .i64 0, .int .i64 0, .slice A5 0 c5, .slice A6 0 c6, .slice A8 1 c8] ∧ Tb W' 5 A5 (bts []) ∧ Ow W' 82 4 A6 0 c6 [] ∧ Ow W' 70 3 A8 1 c8 (pcS off s.size).vals ∧ (A5 = none → False) ∧ w.heap.size ≤ B))
        case first =>
          have HS : Hid (∀ w', Kp [] W8 w' → w'.cell? ⟨c9, 0, none⟩ = some (.int .i64 0) ∧ w'.cell? ⟨c12, 7, none⟩ = some (.slice A7 0 c7)) := Lib.hid (fun w' k' => ⟨(hW8.out.2.2.2.1.kp k' (by simp)).cell 0, (hW8.out.2.2.2.2.1.kp k' (by simp)).cell 7⟩)
          obtain ⟨q0, q7⟩ := HS.out W8 (Kp.refl _ _)
          have hwr : IntKind.i64.wrap (off : Int) = off := wrap_okx (by omega) (by omega)
          go_region_law (first | (go_simp; go_at_call 35; (refine piece_any _ _ _ ?_); intro w9 k9; have kk9 := Kp.trans (show Kp [] W8 _ by repeat (first | with_reducible exact Kp.refl _ W8 | with_reducible refine Kp.drew ?_ | with_reducible refine Kp.alloc ?_ _)) k9; obtain ⟨q0, q7⟩ := HS.out w9 kk9; have q7a : ∀ o, (w9.alloc o).cell? ⟨c12, 7, none⟩ = some (.slice A7 0 c7) := fun o => (HS.out _ (kk9.alloc o)).2) | (refine step_app rfl (.tmp 59) (.tmp 67) _ rfl elt_pc A7 0 c7 [] (by simp [Act.eval, Act.put]) ((hW8.out.2.2.2.2.2.2.2.1.kp kk9 (by simp)).alloc _) [] (some ⟨w9.heap.size, 0, none⟩) 1 1 (pcS off s.size).vals (by simp [Act.eval, Act.put]) (Rd.of_bk ((Bk.newAt rfl _ _).cast rfl) (by simp)) rfl (pvals_one _) (by omega) ?_; intro A8 c8 w10 o10 k10 hA10; have q12 := ((hW8.out.2.2.2.2.1.kp kk9 (by simp)).alloc _).off k10 (Off.bks ((hW8.out.2.2.2.2.2.2.2.1.kp kk9 (by simp)).alloc _).ty (by decide)); have q12c : w10.cell? ⟨c12, 7, none⟩ = some (.slice A7 0 c7) := q12.cell 7; have q12f : w10.frozen? ⟨c12, 7, none⟩ = false := q12.frozen 7; have Q12 := Lib.hid (And.intro q12 (And.intro k10 o10)); clear q12 hA10 k10 o10))
          all_goals
            go_wp2_with fail
            go_meet
            obtain ⟨x1, x2, x3, x4, x5, x6, x7, x8, x9, x10, x11, x12⟩ := hW8.out
            obtain ⟨q12, k10, o10⟩ := Q12.out
            have kc := kk9.alloc (.cells #[.int .i64 0, .int .i64 off, .int .i64 s.size] 70)
            have ks : Kp [c12] w10 (w10.setCell ⟨c12, 7, none⟩ (.slice A8 1 c8)) := (Kp.refl _ _).setCell (p := ⟨c12, 7, none⟩) (.inl (by simp)) _
            have oP : ∀ e, 70 ≠ e → Off _ (bks A7) e := fun e he => Off.bks ((x8.kp kk9 (by simp)).alloc (.cells #[.int .i64 0, .int .i64 off, .int .i64 s.size] 70)).ty he
            have oC : ∀ e, 64 ≠ e → Off w10 [c12] e := fun e he => Off.one q12.ty he
            have K := ((x3.trans kc).thn k10 (fun s hs => .inr (x12 s hs))).thn ks (fun s hs => .inr (by simp at hs; omega))
            exact ⟨rfl, A8, c8, Lib.hid ⟨x1.trans K, x2.off0 K, ((x4.kp kc (by simp)).off k10 (oP _ (by decide))).off ks (oC _ (by decide)), (q12.set_ 7 _).cast rfl, ((x6.kp kc (Off.nil _ _)).kp k10 (oP _ (by decide))).kp ks (oC _ (by decide)), ((x7.kp kc (by simp)).off k10 (oP _ (by decide))).off ks (oC _ (by decide)), (o10.off ks (oC _ (by decide))).cast rfl rfl, x9, x11⟩⟩
        case rest =>
          obtain ⟨rfl, A8, c8, hW9⟩ := hcut
          obtain ⟨z0, z1, z2, z3, z4, z5, z6, z7⟩ := bk8 hW9.out.2.2.2.1
          have HC11 : Hid (∀ (R : Ending → World → Prop), (∀ A len cc e1 a' k' w', Kq B wc w' → (Kn w' B a' k' ∧ a'.g = ka5.g ∧ a'.bT = ka5.bT) → Hid (SInv 3 (putB z256 off s.data.toList) off s.size k') → R (.returned (.tuple #[.agg #[.int .i64 e1, .slice A len cc], .int .i64 0])) w') → Calls Try.prog 33 #[.pointer (some ⟨ka5.g, 0, none⟩), .agg #[.int .i64 11, .int .i64 1, .int .i64 0, .int .i64 0, .int .i64 0, .slice A5 0 c5, .slice A6 0 c6, .slice A8 1 c8]] wc R) := Lib.hid (fun R h => by
            obtain ⟨x1, x2, x3, x4, x5, x6, x7, x8, x9⟩ := hW9.out
            exact ks_call11 (s5 := []) x2 hn1 hos x5 x8 x6 x7 h)
          go_upto_region 12 with (go_at_call 33; ((refine HC11.out _ ?_); intro A11 len11 cc11 e11 ka6 k6 w11 q11 n11 i11))
          have hW12 : Kp [] w (w11.alloc (.cells #[.int .i64 e11, .slice A11 len11 cc11] 59)) ∧ Kn (w11.alloc (.cells #[.int .i64 e11, .slice A11 len11 cc11] 59)) B ka6 k6 ∧ Bk (w11.alloc (.cells #[.int .i64 e11, .slice A11 len11 cc11] 59)) c9 59 [.int .i64 0, .slice A4 0 cc4] ∧ SInv 3 (putB z256 off s.data.toList) off s.size k6 := by
            obtain ⟨x1, x2, x3, x4, x5, x6, x7, x8, x9⟩ := hW9.out
            exact ⟨(q11.old x1 x9).alloc _, n11.1.off0 ((Kp.refl [] _).alloc _), (q11.bk x3 (by decide)).alloc _, i11.out⟩
          refine gen_worldK (fun W => Hid (Kp [] w W ∧ Kn W B ka6 k6 ∧ Bk W c9 59 [.int .i64 0, .slice A4 0 cc4] ∧ SInv 3 (putB z256 off s.data.toList) off s.size k6)) (Lib.hid hW12) ?_
          clear hW12
          intro W12 hW12
          have hwB : w.heap.size ≤ B := hW9.out.2.2.2.2.2.2.2.2
          rw [← n11.2.1]
          clear n11 q11 i11 hW9 z0 z1 z2 z3 z4 z5 z6 z7 HC11
          go_wp2
          go_loopw [15] (fun iv wr => ∃ (k : Nat) (ka7 : KA) (k7 : KS), k ≤ n ∧ iv = .int .i64 k ∧ ka7.g = ka6.g ∧ Hid (Kp [] w wr ∧ Kn wr B ka7 k7 ∧ Bk wr c9 59 [.int .i64 0, .slice A4 0 cc4] ∧ SInv (3 + k) (putB z256 off s.data.toList) off s.size k7)) (fun iv _ => n - (intOf iv).toNat)
          case atStart => exact ⟨0, ka6, k6, Nat.zero_le _, rfl, rfl, Lib.hid hW12.out⟩
          case round =>
            obtain ⟨k, ka7, k7, hk, rfl, hg7, hS⟩ := hrel
            by_cases hlt : k < n
            · obtain ⟨x, hx, hm⟩ := get_lt (l := l) (k := k) (by have := HL.out; omega)
              obtain ⟨b, o, rfl, _, hbl, hc⟩ := rd_at (HR.out.kp hS.out.1 (by simp)) kavals_len (by have := HL.out; omega) hx
              obtain ⟨c0, c1, c2, c3, c4, c5, c6, c7, c8, c99⟩ := kact_cells hc
              have HOfC : Hid (∀ (R : Ending → World → Prop), (∀ A5 c5 A6 c6 A7 c7 w', Kp [] wr w' → Hid (Kc.ok w' ⟨x.c.op, x.c.env, x.c.a, x.c.b, x.c.c, A5, x.c.s.size, c5, x.c.s.data.toList, A6, x.c.p.n, c6, x.c.p.l, A7, x.c.l.n, c7, x.c.l.l⟩) → R (.returned (.agg #[.int .i64 x.c.op, .int .i64 x.c.env, .int .i64 x.c.a, .int .i64 x.c.b, .int .i64 x.c.c, .slice A5 x.c.s.size c5, .slice A6 x.c.p.n c6, .slice A7 x.c.l.n c7])) w') → Calls Try.prog 34 #[.agg #[.int .i64 x.c.op, .int .i64 x.c.env, .int .i64 x.c.a, .int .i64 x.c.b, .int .i64 x.c.c, .string x.c.s, .slice x.c.p.A x.c.p.n x.c.p.c, .slice x.c.l.A x.c.l.n x.c.l.c]] wr R) := Lib.hid (fun R h => by
                obtain ⟨g1, g2, g3⟩ := farC_no (HFC.out x hm)
                have hk := (HA.out x hm).c
                have kk := hS.out.1
                refine of09_any x.c wr (hk.p.rd.kp kk (by simp)) hk.p.len g2 (hk.l.rd.kp kk (by simp)) hk.l.len g3 (fun A5 c5 A6 c6 A7 c7 w' k t5 f5 o6 f6 o7 f7 h5 => h A5 c5 A6 c6 A7 c7 w' k (Lib.hid ⟨t5, Array.length_toList, (by show x.c.s.size ≤ _; omega), fun e => (h5 e).elim, o6.tb, hk.p.len, (by show x.c.p.n ≤ _; omega), fun e => o6.nilA e, hk.p.all, o7.tb, hk.l.len, (by show x.c.l.n ≤ _; omega), fun e => o7.nilA e, hk.l.all⟩)))
              have HCx : Hid (∀ (R : Ending → World → Prop) (w' : World) (A5 A6 A7 : Option Addr) (c5 c6 c7 : Nat), Kp [] wr w' → Hid (Kc.ok w' ⟨x.c.op, x.c.env, x.c.a, x.c.b, x.c.c, A5, x.c.s.size, c5, x.c.s.data.toList, A6, x.c.p.n, c6, x.c.p.l, A7, x.c.l.n, c7, x.c.l.l⟩) → (∀ v a' k' w2, Kq B w' w2 → a'.g = ka6.g → Hid (Kp [] w w2 ∧ Kn w2 B a' k' ∧ Bk w2 c9 59 [.int .i64 0, .slice A4 0 cc4] ∧ SInv (3 + (k + 1)) (putB z256 off s.data.toList) off s.size k') → R (.returned v) w2) → Calls Try.prog 33 #[.pointer (some ⟨ka6.g, 0, none⟩), .agg #[.int .i64 x.c.op, .int .i64 x.c.env, .int .i64 x.c.a, .int .i64 x.c.b, .int .i64 x.c.c, .slice A5 x.c.s.size c5, .slice A6 x.c.p.n c6, .slice A7 x.c.l.n c7]] w' R) := Lib.hid (fun R w' A5 A6 A7 c5 c6 c7 kw hok h => by
                obtain ⟨x1, x2, x3, x4⟩ := hS.out
                rw [← hg7]
                refine kcall_any (x := ⟨x.c.op, x.c.env, x.c.a, x.c.b, x.c.c, A5, x.c.s.size, c5, x.c.s.data.toList, A6, x.c.p.n, c6, x.c.p.l, A7, x.c.l.n, c7, x.c.l.l⟩) (x2.off0 kw) x4.c (by omega) hok.out (fun nn AA len cc l e k' a' w2 hst q n9 hl ht => ?_)
                exact h _ a' k' w2 q (n9.2.1.trans hg7) (Lib.hid ⟨q.old (x1.trans kw) hwB, n9.1, q.bk (x3.kp kw (by simp)) (by decide), x4.step hst.out x2.o.room⟩))
              clear hc
              go_upto_region 16 with (first | (go_at_call 34; ((refine HOfC.out _ ?_); intro B5 d5 B6 d6 B7 d7 w13 k13 ok13)) | (go_at_call 33; ((refine HCx.out _ _ _ _ _ _ _ _ k13 ok13 ?_); intro v14 ka8 k8 w14 q14 g14 hS14)))
              have HTab : Hid (∀ (R : Ending → World → Prop) (w : World), Kn w B ka8 k8 → R (.returned (.pointer (some ⟨ka8.bT, 0, none⟩))) w → Calls Try.prog 36 #[.pointer (some ⟨ka6.g, 0, none⟩)] w R) := Lib.hid (fun R w hK h => by rw [← g14]; exact ktab_any hK h)
              have HHol : Hid (∀ (R : Ending → World → Prop) (w : World), Kn w B ka8 k8 → (∀ n : Int, 1 ≤ n → R (.returned (.int .i64 n)) w) → Calls Try.prog 37 #[.pointer (some ⟨ka8.bT, 0, none⟩), .int .i64 0] w R) := Lib.hid (fun R w hK h => holds_any hK.t 0 (fun n hn => h n (by have := hS14.out.2.2.2.tells.1; rw [hn.out] at this; exact this)))
              have HOwn : Hid (∀ (R : Ending → World → Prop) (w : World), Kn w B ka8 k8 → R (.returned (.bool true)) w → Calls Try.prog 38 #[.pointer (some ⟨ka6.g, 0, none⟩), .int .i64 1, .int .i64 0] w R) := Lib.hid (fun R w hK h => by rw [← g14]; exact kown_any hK 1 0 (by decide) (rcast h (by rw [hS14.out.2.2.2.tells.2]; rfl)))
              have e9 : w14.cell? ⟨c9, 0, none⟩ = some (.int .i64 0) := hS14.out.2.2.1.cell 0
              have KN := Lib.hid (hS14.out.2.1.off0 ((Kp.refl [] w14).drew))
              have hx9 := Lib.hid hx
              clear hx c0 c1 c2 c3 c4 c5 c6 c7 c8 c99
              go_region_law (first | (go_simp; go_at_call 36; (refine HTab.out _ _ KN.out ?_)) | (go_simp; go_at_call 37; (refine HHol.out _ _ KN.out ?_); intro nn hn; have hd : decide (nn < 1) = false := by simp; omega) | (go_simp; go_at_call 38; (refine HOwn.out _ _ KN.out ?_)))
              all_goals
                go_wp2
                exact ⟨⟨k + 1, ka8, k8, by omega, by go_num, g14, Lib.hid ⟨hS14.out.1.drew, KN.out, hS14.out.2.2.1.drew, hS14.out.2.2.2⟩⟩, by simp [intOf]; omega⟩
            · obtain rfl : k = n := by omega
              have HDep : Hid (∀ (R : Ending → World → Prop), (∀ A cc w', Kq B wr w' → (convert 44 9 (.slice A s.size cc)).run Try.prog w' = .ok (.string s) w' → R (.returned (.tuple #[.slice A s.size cc, .int .i64 1, .int .i64 0])) w') → Calls Try.prog 39 #[.pointer (some ⟨ka6.g, 0, none⟩)] wr R) := Lib.hid (fun R h => by
                obtain ⟨x1, x2, x3, x4⟩ := hS.out
                rw [← hg7]
                obtain ⟨y, r, hq, e1, e2⟩ := x4.q
                refine kdep_any x2 x4.c (by omega) (fun y' q' h' => ?_) (fun A len cc l env e k' a' w' hd q n9 hl ht => ?_)
                · rw [hq] at h'
                  injection h' with h1 h2
                  subst h1
                  rw [e2]
                  exact held_drop x4.h
                · rcases hd.out with ⟨g1, _⟩ | ⟨y', q', g1, g2, g3, g4, g5⟩
                  · rw [hq] at g1; cases g1
                  · rw [hq] at g1
                    injection g1 with h1 h2
                    subst h1
                    rw [e2, held_fetch x4.h (show s.data.toList.length = s.size from Array.length_toList) hos] at g2
                    rw [e1] at g3
                    subst g3; subst g4
                    simp only at g2
                    subst g2
                    have hl2 : len = s.size := by rw [← hl]; exact Array.length_toList
                    subst hl2
                    have hcv := conv_bs (w := w') (c := cc) ht.rd0 (show s.data.toList.length = s.size from Array.length_toList)
                    rw [show (⟨s.data.toList.toArray⟩ : ByteArray) = s from by simp] at hcv
                    exact h A cc w' q hcv)
              go_wp2_with (go_at_call 39; ((refine HDep.out _ ?_); intro AD cD wD qD hcv))
              exact H.out _ (qD.old hS.out.1 hwB)

end
end Go.Proofs.Ytogipajanbgenaa
