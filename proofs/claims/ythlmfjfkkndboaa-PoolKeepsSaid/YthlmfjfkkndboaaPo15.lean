/- PoolKeeps walked. -/
import Derived.Test.YthlmfjfkkndboaaPo12
import Derived.BigQuiet
import Derived.Deep.CutBlock
import Derived.Deep.DeepCutAuto
namespace Go.Proofs.Ythlmfjfkkndboaa
open Go.RowKit Go.Shelf
set_option linter.unusedVariables false
set_option linter.unusedSimpArgs false
set_option maxRecDepth 100000
theorem pact_bk {W : World} {b : Nat} {x : PAct} (h : Bk W b 67 x.vals) : W.cell? ⟨b, 0, none⟩ = some (.int .i64 x.k) ∧ W.cell? ⟨b, 1, none⟩ = some (.int .i64 x.a) ∧ W.cell? ⟨b, 2, none⟩ = some (.int .i64 x.b) ∧ W.cell? ⟨b, 3, none⟩ = some (.int .i64 x.ev) ∧ W.cell? ⟨b, 4, none⟩ = some (.int .i64 x.od) ∧ W.cell? ⟨b, 5, none⟩ = some (.string x.s) :=
  ⟨h.cell 0, h.cell 1, h.cell 2, h.cell 3, h.cell 4, h.cell 5⟩
theorem act_take {w : World} {A : Option Addr} {n c : Nat} {l : List PAct} (hr : Rd w [] A (l.flatMap PAct.vals)) (hl : l.length = n) (hcap : n ≤ c) {k : Nat} (hk : k ≤ n) :
    (∀ W, (Instr.slice 53 (.slice A n c) none (some (.int .i64 k)) none).run Try.prog W = .ok (.slice A k c) W) ∧ Rd w [] A ((l.take k).flatMap PAct.vals) := by
  have e : Try.prog.elem 53 = 67 := by kernel_rfl
  have eu : Try.prog.underlying 53 = some (.slice (Try.prog.elem 53)) := by rw [e]; exact Try.underlying53
  have es : ∀ W, (sizeOf (Try.prog.elem 53)).run Try.prog W = .ok 7 W := fun W => by rw [e]; kernel_rfl
  refine ⟨fun W => ?_, ?_⟩
  · rw [run_slice_h W _ _ _ _ eu .i64 k (by omega) (by omega), es]
    have e0 : (if c = 0 then A else A.map (·.add 0)) = A := by
      split
      · rfl
      · cases A with
        | none => rfl
        | some a => simp [Addr.add]
    simp [Result.andThen, sliced, e0]
  · have := hr.take (k * 7)
    refine Rd.sub' this ?_
    clear this hr hl hk
    induction k generalizing l with
    | zero => simp
    | succ k ih =>
      cases l with
      | nil => simp
      | cons x l =>
        simp only [List.flatMap_cons, List.take_succ_cons]
        rw [List.take_append, pavals_len, List.take_of_length_le (by rw [pavals_len]; omega), show (k + 1) * 7 - 7 = k * 7 by omega, ih]
section
variable {R : Ending → World → Prop} {w : World}
set_option maxHeartbeats 8000000 in
theorem pkeeps_walk (s : ByteArray) (hsz : s.size ≤ maxLen) (a : Sin PAct) (ha : a.ok w PAct.vals (PAct.ok w)) (h : ∀ w', Kp [] w w' → R (.returned (.bool true)) w') :
    Calls Try.prog 4 #[.string s, .slice a.A a.n a.c] w R := by
  have H := Lib.hid h
  obtain ⟨A, n, c, l⟩ := a
  obtain ⟨hl, hcap, hmax, hall, hrd, _⟩ := ha
  simp only at hl hcap hmax hall hrd
  have hmx : c ≤ 9223372036854775807 := hmax
  have hsx : s.size ≤ 9223372036854775807 := hsz
  have HAl : Hid (∀ (R : Ending → World → Prop), (∀ w', Kp [] w w' → R (.returned (.bool true)) w') → Calls Try.prog 26 #[] w R) := Lib.hid (fun R h => alive13_any h)
  have HFar : Hid (∀ (R : Ending → World → Prop) (w1 : World), Kp [] w w1 → (∀ t w', Kp [] w1 w' → Hid (t = false → n ≤ 80 ∧ ∀ x ∈ l, x.s.size ≤ 1000) → R (.returned (.bool t)) w') → Calls Try.prog 27 #[.slice A n c] w1 R) := Lib.hid (fun R w1 k1 h1 => far13_any (hrd.kp k1 (by simp)) hl (by omega) (fun w' k' => h1 true w' k' (Lib.hid (fun h => by cases h))) (fun a b w' k' => h1 false w' k' (Lib.hid (fun _ => ⟨a, b⟩))))
  have HA := Lib.hid hall
  have HR := Lib.hid hrd
  have HL := Lib.hid hl
  clear h hl hall hrd hmax hsz
  by_cases h256 : 256 < s.size
  · go_enter Try.func4, Try.ntmps4
    go_upto_if 30 with (first | (go_at_call 26; ((refine HAl.out _ ?_); intro w1 k1)) | (go_at_call 27; ((refine HFar.out _ _ k1 ?_); intro t w2 k2 hf; cases t)))
    all_goals
      go_wp2
      exact H.out _ (k1.trans k2)
  · have hs256 : s.data.toList.length ≤ 256 := by rw [Array.length_toList]; show s.size ≤ 256; omega
    have HN : Hid (∀ (R : Ending → World → Prop) (w1 : World), Kp [] w w1 → (∀ kg tb w', Hid (∃ a, a.g = kg ∧ a.bT = tb ∧ Kp [] w w' ∧ Kn w' w1.heap.size a (kz0 4 12)) → R (.returned (.tuple #[.pointer (some ⟨kg, 0, none⟩), .int .i64 0])) w') → Calls Try.prog 28 #[.int .i64 4, .int .i64 12] w1 R) := Lib.hid (fun R w1 k1 h => knew2_any 4 12 (by omega) (by omega) (by omega) (by omega) w1 (fun a w' k n => h a.g a.bT w' (Lib.hid ⟨a, rfl, rfl, k1.trans k, n⟩)))
    have HP : Hid (∀ (R : Ending → World → Prop) (w1 : World) (kg tb B1 : Nat), w.heap.size ≤ B1 → Hid (∃ a, a.g = kg ∧ a.bT = tb ∧ Kp [] w w1 ∧ Kn w1 B1 a (kz0 4 12)) → (∀ pg w', Hid (∃ ka pa, ka.g = kg ∧ pa.g = pg ∧ ka.bT = tb ∧ Kp [] w w' ∧ KPl w' B1 ka (kzi 4 12 3) pa ⟨psN 3, 0, 0⟩) → R (.returned (.tuple #[.pointer (some ⟨pg, 0, none⟩), .int .i64 0])) w') → Calls Try.prog 29 #[.pointer (some ⟨kg, 0, none⟩), .int .i64 3] w1 R) := Lib.hid (fun R w1 kg tb B1 hB1 hw h => by
      obtain ⟨a, rfl, rfl, k1, n1⟩ := hw.out
      exact pnew_any n1 3 (by omega) (by omega) (by omega) (fun ka' pa w' q z e1 e2 g1 g2 => h pa.g w' (Lib.hid ⟨ka', pa, e1, rfl, e2, q.old k1 hB1, z⟩)))
    obtain ⟨bw, cw, hcs, hszb, hbk, hbr⟩ := conv_letter s
    have HH : Hid (∀ (R : Ending → World → Prop) (w1 : World) (kg pg tb B1 : Nat), w.heap.size ≤ B1 → Hid (∃ ka pa, ka.g = kg ∧ pa.g = pg ∧ ka.bT = tb ∧ Kp [] w w1 ∧ KPl w1 B1 ka (kzi 4 12 3) pa ⟨psN 3, 0, 0⟩) → (∀ w', Hid (PK w w' B1 kg pg tb s.data.toList (stB (l.take 0)) 1) → R (.returned (.tuple #[.int .i64 0, .int .i64 0])) w') → Calls Try.prog 30 #[.pointer (some ⟨pg, 0, none⟩), .slice (some ⟨w1.heap.size, 0, none⟩) s.size (cw w1)] (bw w1) R) := Lib.hid (fun R w1 kg pg tb B1 hB1 hw h => by
      obtain ⟨ka, pa, rfl, rfl, rfl, k1, z⟩ := hw.out
      have kb := hbk [] w1 w1 (Kp.refl _ _)
      refine phead_any (z.off0 kb) (kzi_cnt 4 12 3) (by omega) (hbr w1 _ rfl) (show s.data.toList.length = s.size from Array.length_toList) (by omega) (fun e => by cases e) (fun f e p' k' ka' w' hr q z' e1 e2 => ?_)
      obtain ⟨rfl, rfl, hi⟩ := PKI.init (st := stB (l.take 0)) z.kn.d.ok hs256 hr.out
      exact h w' (Lib.hid ⟨ka', pa, k', p', e1, rfl, e2, q.old (k1.trans kb) hB1, z', hi⟩))
    clear hszb hbk hbr
    go_enter Try.func4, Try.ntmps4
    go_upto_if 30 with (first | (go_at_call 26; ((refine HAl.out _ ?_); intro w1 k1)) | (go_at_call 27; ((refine HFar.out _ _ k1 ?_); intro t w2 k2 hf; cases t)))
    rotate_left
    · go_wp2
      exact H.out _ (k1.trans k2)
    obtain ⟨hn80, hx1000⟩ := hf.out (by simp)
    have HX := Lib.hid hx1000
    have k02 := k1.trans k2
    obtain ⟨B, hB⟩ : ∃ B, w2.heap.size = B := ⟨_, rfl⟩
    have hwB : w.heap.size ≤ B := by have := k02.size; omega
    clear k1 k2 HAl HFar hf hx1000
    go_upto_region 12 with (first | (go_at_call 28; ((refine HN.out _ _ k02 ?_); intro kg tb w3 h3)) | (go_at_call 29; ((refine HP.out _ _ _ _ _ k02.size h3 ?_); intro pg w4 h4)) | (go_at_call 30; ((refine HH.out _ _ _ _ _ _ k02.size h4 ?_); intro w5 h5)) | (go_at_call 31; (refine pk_tab h5 ?_)))
    rw [hB] at h5
    refine gen_worldK (fun W => Hid (PK w W B kg pg tb s.data.toList (stB (l.take 0)) 1)) h5 ?_
    intro W hW
    clear h3 h4 h5 HN HP HH hcs
    go_wp2
    go_loopw [12] (fun iv wr => ∃ i : Nat, i ≤ n ∧ iv = .int .i64 i ∧ Hid (PK w wr B kg pg tb s.data.toList (stB (l.take i)) (1 + 4 * i))) (fun iv _ => n - (intOf iv).toNat)
    case atStart => exact ⟨0, Nat.zero_le _, rfl, hW⟩
    case round =>
      obtain ⟨i, hi, rfl, hS⟩ := hrel
      by_cases hlt : i < n
      · obtain ⟨x, hx, hm⟩ := get_lt (l := l) (k := i) (by have := HL.out; omega)
        obtain ⟨b, o, rfl, _, hbl, hc⟩ := rd_at (HR.out.kp hS.out.kp (by simp)) pavals_len (by have := HL.out; omega) hx
        obtain ⟨c0, c1, c2, c3, c4, c5, c6⟩ := pact_cells hc
        have hsx := HX.out _ hm
        have HSt : Hid (∀ b, stB (l.take (i + 1)) b = false → stB (l.take i) b = false ∧ (x.k == 8 && x.a == b) = false) := Lib.hid (fun b => stB_step hx b)
        obtain ⟨hsl, HRt⟩ := act_take (c := c) (k := i) HR.out HL.out hcap (by omega)
        have HRT := Lib.hid HRt
        clear hc hm hx HRt
        go_upto_block 2 with (fail)
        refine gen_worldK (fun W => ∃ ba, wr.heap.size = ba ∧ Hid (Kp [] wr W ∧ Bk W ba 67 x.vals)) ⟨_, rfl, Lib.hid ⟨(Kp.refl _ _).alloc _, (Bk.new' _ _ _).cast rfl⟩⟩ ?_
        rintro W ⟨ba, hba, hW2⟩
        rw [hba]
        obtain ⟨q0, q1, q2, q3, q4, q5⟩ := pact_bk hW2.out.2
        have HCell : Hid (∀ w', Kp [] W w' → Bk w' ba 67 x.vals) := Lib.hid (fun w' k' => hW2.out.2.kp k' (by simp))
        have PW := Lib.hid (hS.out.off0 hW2.out.1)
        clear c0 c1 c2 c3 c4 c5 c6 hba
        go_cut [13] (fun _ W' => Hid (PK w W' B kg pg tb s.data.toList (stB (l.take (i + 1))) (4 + 4 * i)))
        case first =>
          have HMono : Hid (∀ (W' : World) (m : Nat), m ≤ 4 + 4 * i → PK w W' B kg pg tb s.data.toList (stB (l.take i)) m → PK w W' B kg pg tb s.data.toList (stB (l.take (i + 1))) (4 + 4 * i)) := Lib.hid (fun W' m hm h => h.mono hm (fun b hb => (HSt.out b hb).1))
          by_cases e0 : x.k = 0
          · have f0 : (x.k == 0) = true := by simp [e0]
            obtain ⟨re, hre⟩ : ∃ re : Nat, floatOfInt .f64 x.ev = re := ⟨_, rfl⟩
            obtain ⟨im, him⟩ : ∃ im : Nat, floatOfInt .f64 x.od = im := ⟨_, rfl⟩
            have HNum : Hid (∀ (R : Ending → World → Prop) (w1 : World), (∀ w', Kp [] w1 w' → R (.returned (.complex .f64 re im)) w') → Calls Try.prog 33 #[.agg #[.int .i64 x.ev, .int .i64 x.od]] w1 R) := Lib.hid (fun R w1 h => num01_any x.ev x.od (by rw [hre, him]; exact h))
            clear hre him e0
            go_upto_region 18 with (fail)
            go_cut [14, 15] from 65 (fun fv ev W' => ∃ f e : Int, fv = .int .i64 f ∧ ev = .int .i64 e ∧ Hid (PKg w W' B kg pg tb s.data.toList (stB (l.take i)) (1 + 4 * i + 1) x.a f e ∧ Bk W' ba 67 x.vals))
            case first =>
              go_region_law (first | (go_simp; go_at_call 33; (refine HNum.out _ _ ?_); intro w2 k2; have kk2 := Kp.trans (show Kp [] W _ by repeat (first | with_reducible exact Kp.refl _ W | with_reducible refine Kp.drew ?_)) k2; obtain ⟨r0, r1, r2, r3, r4, r5⟩ := pact_bk (HCell.out w2 kk2)) | (go_simp; go_at_call 32; (refine pk_get hwB (Lib.hid (PW.out.off0 kk2)) (by omega) _ _ _ _ ?_); intro f e w3 h3 p3))
              all_goals
                go_wp2_with fail
                go_meet
                exact ⟨f, e, rfl, rfl, Lib.hid ⟨h3.out, p3.out.bk (HCell.out w2 kk2) (by decide)⟩⟩
            case rest =>
              obtain ⟨f, e, rfl, rfl, hG⟩ := hcut
              clear q0 q1 q2 q3 q4 q5 HNum
              by_cases ee : e = 0
              · subst ee
                obtain ⟨q0, q1, q2, q3, q4, q5⟩ := pact_bk hG.out.2
                go_upto_region 21 with (go_at_call 34; ((refine pk_readG (Lib.hid hG.out.1) ?_); intro L e2 A2 n2 c2 w4 h4 k4))
                obtain ⟨r0, r1, r2, r3, r4, r5⟩ := pact_bk (hG.out.2.kp k4.out (by simp))
                have h4a : Hid (PKr w w4 B kg pg tb s.data.toList (stB (l.take i)) (1 + 4 * i + 1) x.a L ∧ Tb w4 5 A2 (bts L)) := Lib.hid ⟨h4.out.1, h4.out.2.2⟩
                go_upto_region 22 with (go_at_call 35; ((refine pk_call6 hwB h4a (by omega) ?_); intro L2 A3 n3 c3 e3 w5 h5 q5))
                refine gen_worldK (fun W2 => ∃ cb, w5.heap.size = cb ∧ Hid (PK w W2 B kg pg tb s.data.toList (stB (l.take i)) (1 + 4 * i + 1 + 1) ∧ (stB (l.take i) x.a = false → L = L2) ∧ L.length = n2 ∧ L2.length = n3 ∧ Tb W2 5 A2 (bts L) ∧ Tb W2 5 A3 (bts L2) ∧ Bk W2 ba 67 x.vals ∧ Bk W2 cb 73 [.int .i64 0, .slice A3 n3 c3])) ⟨_, rfl, Lib.hid (by
                  obtain ⟨g1, g2, g3, g4, g5⟩ := h5.out
                  have ka := (Kp.refl [] w5).alloc (.cells #[.int .i64 0, .slice A3 n3 c3] 73)
                  exact ⟨g1.off0 ka, g2, h4.out.2.1, g3, g4.kp ka (Off.nil _ _), g5.kp ka (Off.nil _ _), ((q5.out.bk (hG.out.2.kp k4.out (by simp)) (by decide))).alloc _, (Bk.new' _ _ _).cast rfl⟩)⟩ ?_
                rintro W2 ⟨cb, hcb, hW5⟩
                rw [hcb]
                obtain ⟨z0, z1, z2, z3, z4, z5, z6⟩ : ∃ ka pa k p, ka.g = kg ∧ pa.g = pg ∧ KPl W2 B ka k pa p := by
                  obtain ⟨ka, pa, k, p, a, b, c, d, e, f⟩ := hW5.out.1
                  exact ⟨ka, pa, k, p, a, b, e⟩
                obtain ⟨nn, hnn⟩ : ∃ nn, pPins z3 f = nn := ⟨_, rfl⟩
                have HPin : Hid (∀ (R : Ending → World → Prop) (w1 : World), Kp [] W2 w1 → (∀ w', Kp [] w1 w' → R (.returned (.int .i64 nn)) w') → Calls Try.prog 36 #[.pointer (some ⟨pg, 0, none⟩), .int .i64 f] w1 R) := Lib.hid (fun R w1 k1 h => by rw [← z5]; exact ppins_any (z6.off0 k1) f (by rw [hnn]; exact h))
                have HSta : Hid (∀ (R : Ending → World → Prop) (w1 : World), Kp [] W2 w1 → (∀ w', Kp [] w1 w' → R (.returned (.bool (stB (l.take i) x.a))) w') → Calls Try.prog 37 #[.slice (some ⟨b, o, none⟩) i c, .int .i64 x.a] w1 R) := Lib.hid (fun R w1 k1 h => stale_any (HRT.out.kp (hW5.out.1.kp.trans k1) (by simp)) (by rw [List.length_take, HL.out]; omega) (by omega) x.a h)
                have hf0 := hG.out.1.f0
                obtain ⟨t0, t1, t2, t3, t4, t5⟩ := pact_bk hW5.out.2.2.2.2.2.2.1
                have a1 : W2.cell? ⟨cb, 1, none⟩ = some (.slice A3 n3 c3) := hW5.out.2.2.2.2.2.2.2.cell 1
                obtain ⟨S1, hS1⟩ : ∃ S1 : ByteArray, (⟨L.toArray⟩ : ByteArray) = S1 := ⟨_, rfl⟩
                obtain ⟨S2, hS2⟩ : ∃ S2 : ByteArray, (⟨L2.toArray⟩ : ByteArray) = S2 := ⟨_, rfl⟩
                have hcv1 : ∀ y : KpX W2, (convert 44 9 (.slice A2 n2 c2)).run Try.prog (kpw W2 y) = .ok (.string S1) (kpw W2 y) := fun y => by rw [← hS1]; exact conv_bs (hW5.out.2.2.2.2.1.rd0.kp (kpw_kp _ y) (by simp)) hW5.out.2.2.1
                have hcv2 : ∀ y : KpX W2, (convert 44 9 (.slice A3 n3 c3)).run Try.prog (kpw W2 y) = .ok (.string S2) (kpw W2 y) := fun y => by rw [← hS2]; exact conv_bs (hW5.out.2.2.2.2.2.1.rd0.kp (kpw_kp _ y) (by simp)) hW5.out.2.2.2.1
                have HEq : Hid (stB (l.take i) x.a = false → S1 = S2) := Lib.hid (fun h => by rw [← hS1, ← hS2, hW5.out.2.1 h])
                have HFin : Hid (∀ W', Kp [] W2 W' → PK w W' B kg pg tb s.data.toList (stB (l.take (i + 1))) (4 + 4 * i)) := Lib.hid (fun W' k' => HMono.out _ _ (by omega) (hW5.out.1.off0 k'))
                clear q0 q1 q2 q3 q4 q5 r0 r1 r2 r3 r4 r5 hnn z6 hS1 hS2 z4 hcb
                by_cases hn1 : nn = 1
                · have n1 : (nn == 1) = true := by simp [hn1]
                  clear hn1
                  by_cases hb : 0 < x.b
                  · have b1 : decide (0 < x.b) = true := by simp [hb]
                    clear hb
                    cases hs : (S1.toList == S2.toList) with
                    | true =>
                      refine wp_region_kp (by kernel_rfl) (by kernel_rfl) ?_
                      repeat (go_big_quiet_step (first | (go_at_call 36; (refine HPin.out _ _ (kpw_kp _ _) ?_; intro w7 k7; exact kpx_mk k7))))
                      refine wpQuiet_nil ?_
                      intro w7 k7
                      go_wp2
                      go_meet
                      exact Lib.hid (HFin.out _ k7)
                    | false =>
                      have hst : stB (l.take i) x.a = true := by
                        cases h : stB (l.take i) x.a with
                        | true => rfl
                        | false =>
                          rw [HEq.out h] at hs
                          simp at hs
                      rw [hst] at HSta
                      refine wp_region_kp (by kernel_rfl) (by kernel_rfl) ?_
                      repeat (go_big_quiet_step (first | (go_at_call 36; (refine HPin.out _ _ (kpw_kp _ _) ?_; intro w7 k7; exact kpx_mk k7)) | (go_at_call 37; (refine HSta.out _ _ (kpw_kp _ _) ?_; intro w7 k7; exact kpx_mk k7))))
                      refine wpQuiet_nil ?_
                      intro w7 k7
                      go_wp2
                      go_meet
                      exact Lib.hid (HFin.out _ k7)
                  · have b1 : decide (0 < x.b) = false := by simpa using hb
                    clear hb
                    refine wp_region_kp (by kernel_rfl) (by kernel_rfl) ?_
                    repeat (go_big_quiet_step (first | (go_at_call 36; (refine HPin.out _ _ (kpw_kp _ _) ?_; intro w7 k7; exact kpx_mk k7))))
                    refine wpQuiet_nil ?_
                    intro w7 k7
                    go_wp2
                    go_meet
                    exact Lib.hid (HFin.out _ k7)
                · have n1 : (nn == 1) = false := by simpa using hn1
                  clear hn1
                  refine wp_region_kp (by kernel_rfl) (by kernel_rfl) ?_
                  repeat (go_big_quiet_step (first | (go_at_call 36; (refine HPin.out _ _ (kpw_kp _ _) ?_; intro w7 k7; exact kpx_mk k7))))
                  refine wpQuiet_nil ?_
                  intro w7 k7
                  go_wp2
                  go_meet
                  exact Lib.hid (HFin.out _ k7)
              · have fe : (e == 0) = false := by simpa using ee
                clear ee
                go_wp2
                go_meet
                exact Lib.hid (HMono.out _ _ (by omega) hG.out.1.pk)
          have f0 : (x.k == 0) = false := by simpa using e0
          by_cases e1 : x.k = 1
          · have f1 : (x.k == 1) = true := by simp [e1]
            clear e0 e1
            obtain ⟨bw, cw, hcs, hszb, hbk, hbr⟩ := conv_letter x.s
            have HH : Hid (∀ (R : Ending → World → Prop), (∀ v w', Hid (PK w w' B kg pg tb s.data.toList (stB (l.take i)) (1 + 4 * i + 1)) → R (.returned v) w') → Calls Try.prog 30 #[.pointer (some ⟨pg, 0, none⟩), .slice (some ⟨W.heap.size, 0, none⟩) x.s.size (cw W)] (bw W) R) := Lib.hid (fun R h => pk_head hwB (Lib.hid (PW.out.off0 (hbk [] W W (Kp.refl _ _)))) (by omega) (hbr W _ rfl) (show x.s.data.toList.length = x.s.size from Array.length_toList) (by omega) (fun e => by cases e) h)
            clear hszb hbk hbr
            go_wp2_with (go_at_call 30; ((refine HH.out _ ?_); intro v3 w3 h3))
            go_meet
            exact Lib.hid (HMono.out _ _ (by omega) h3.out)
          have f1 : (x.k == 1) = false := by simpa using e1
          by_cases e3 : x.k = 3
          · have f3 : (x.k == 3) = true := by simp [e3]
            clear e0 e1 e3
            by_cases ea : x.a = 0
            · have fa : (x.a == 0) = true := by simp [ea]
              clear ea
              go_wp2
              go_meet
              exact Lib.hid (HMono.out _ _ (by omega) PW.out)
            · have fa : (x.a == 0) = false := by simpa using ea
              clear ea
              go_wp2_with (go_at_call 38; ((refine pk_unpin hwB PW (by omega) _ fa ?_); intro v3 w3 h3))
              go_meet
              exact Lib.hid (HMono.out _ _ (by omega) h3.out)
          have f3 : (x.k == 3) = false := by simpa using e3
          by_cases e4 : x.k = 4
          · have f4 : (x.k == 4) = true := by simp [e4]
            clear e0 e1 e3 e4
            go_wp2_with (go_at_call 39; ((refine pk_fgt hwB (Lib.hid (PW.out.off0 ((Kp.refl _ _).alloc _))) (bl := [x.a, x.b]) ((Ow.lit _ _ 1 #[.int .i64 x.a, .int .i64 x.b] 2 (by decide) rfl).cast rfl rfl).tb rfl (by omega) ?_); intro w3 h3))
            go_meet
            exact Lib.hid (HMono.out _ _ (by omega) h3.out)
          have f4 : (x.k == 4) = false := by simpa using e4
          by_cases e8 : x.k = 8
          · have f8 : (x.k == 8) = true := by simp [e8]
            have E8 := Lib.hid e8
            clear e0 e1 e3 e4 e8
            obtain ⟨sd, hsd⟩ : ∃ sd : Int, IntKind.u8.wrap (x.s.size : Int) = sd := ⟨_, rfl⟩
            go_upto_region 32 with (fail)
            have HSz : Hid (0 ≤ sd ∧ sd ≤ 255) := Lib.hid (by rw [← hsd]; simp [IntKind.wrap, IntKind.signed, IntKind.bits]; omega)
            have HFill : Hid (∀ (R : Ending → World → Prop) (w1 : World), (∀ s w', Kp [] w1 w' → s.size = 256 → R (.returned (.string s)) w') → Calls Try.prog 40 #[.int .u8 sd, .int .i64 256] w1 R) := Lib.hid (fun R w1 h => fill_any sd HSz.out.1 HSz.out.2 h)
            have HC7 : Hid (∀ (R : Ending → World → Prop) (w1 w2 : World) (z : ByteArray) (g c5 : Nat), Kp [] W w1 → Kp [] w1 w2 → z.size = 256 → Tb w2 5 (some ⟨g, 0, none⟩) (bts z.data.toList) → (∀ v w', Hid (PK w w' B kg pg tb s.data.toList (stB (l.take (i + 1))) (4 + 4 * i)) → R (.returned v) w') → Calls Try.prog 35 #[.pointer (some ⟨kg, 0, none⟩), .agg #[.int .i64 7, .int .i64 1, .int .i64 x.a, .int .i64 0, .int .i64 0, .slice (some ⟨g, 0, none⟩) 256 c5, .slice none 0 0, .slice none 0 0]] w2 R) := Lib.hid (fun R w1 w2 z g c5 k1 k2 hz hT h => pk_call7 (st' := stB (l.take (i + 1))) hwB (Lib.hid (PW.out.off0 (k1.trans k2))) (by omega) hT (by rw [Array.length_toList]; exact hz) (fun b hb => ⟨(HSt.out b hb).1, fun hba => by have := (HSt.out b hb).2; simp [E8.out, hba] at this⟩) (fun v w' h' => h v w' (Lib.hid (h'.out.mono (by omega) (fun b h => h)))))
            go_region_law (first | (go_simp; go_at_call 40; (refine HFill.out _ _ ?_); intro z w2 k2 hz; have kk2 := Kp.trans (show Kp [] W _ by repeat (first | with_reducible exact Kp.refl _ W | with_reducible refine Kp.drew ?_)) k2; obtain ⟨r0, r1, r2, r3, r4, r5⟩ := pact_bk (HCell.out w2 kk2); obtain ⟨bw, cw, hcs, hszb, hbk, hbr⟩ := conv_letter z; rw [hz] at hcs; obtain ⟨t0, t1, t2, t3, t4, t5⟩ := pact_bk (HCell.out (bw w2) (hbk [] _ _ kk2))) | (go_simp; go_at_call 35; (refine HC7.out _ w2 _ z _ _ kk2 (hbk [] _ _ (Kp.refl _ _)) hz (hbr _ _ rfl) ?_); intro v3 w3 h3))
            all_goals
              go_wp2_with fail
              go_meet
              exact h3
          have f8 : (x.k == 8) = false := by simpa using e8
          clear e0 e1 e3 e4 e8
          go_wp2
          go_meet
          exact Lib.hid (HMono.out _ _ (by omega) PW.out)
        case rest =>
          go_upto_region 34 with (go_at_call 34; ((refine pk_read0 hcut (show s.data.toList.length = s.size from Array.length_toList) (by omega) ?_); intro A9 c9 w9 h9))
          have hcv : (convert 44 9 (.slice A9 s.size c9)).run Try.prog w9 = .ok (.string s) w9 := by
            have := conv_bs (c := c9) h9.out.2.rd0 (show s.data.toList.length = s.size from Array.length_toList)
            rwa [show (⟨s.data.toList.toArray⟩ : ByteArray) = s from by simp] at this
          have h9a := Lib.hid h9.out.1
          clear h9
          go_wp2_with (go_at_call 36; ((refine pk_pins0 h9a ?_); intro w10 h10))
          exact ⟨⟨i + 1, by omega, by go_num, Lib.hid (h10.out.mono (by omega) (fun b h => h))⟩, by simp [intOf]; omega⟩
      · obtain rfl : i = n := by omega
        go_wp2
        exact H.out _ hS.out.kp
end
end Go.Proofs.Ythlmfjfkkndboaa
