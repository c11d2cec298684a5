/- The document's Head of any answer. -/
import Derived.Test.YtnmafahbdfilcaaGreatDoorPC31
namespace Go.Proofs.YtnmafahbdfilcaaGreatDoor
/-! ### The document's Head of any answer. -/
section
open Go.RowKit Go.Shelf
set_option linter.unusedVariables false
set_option linter.unusedSimpArgs false
set_option maxRecDepth 100000
/-- What a head's kind is, as the document tells it. -/
theorem head_doc (a : HdA) (hne : a.st = 206 → a.zs ≠ []) : a.ct = hdrB (!(a.st == 304)) ctN (if (a.st == 200 || a.st == 206) = true then (if (a.st == 206 && decide (1 < a.zs.length)) = true then mpV else a.kd) else txtV) := by
  unfold HdA.ct HdA.one
  by_cases h2 : a.st = 200
  · simp [h2, hdrB]
  · by_cases h6 : a.st = 206
    · have h1 : 1 ≤ a.zs.length := List.length_pos_iff.2 (hne h6)
      by_cases h9 : a.zs.length = 1
      · simp [h6, h9, hdrB]
      · have h10 : 1 < a.zs.length := by omega
        simp [h6, h9, h10, hdrB]
    · have e : (a.st != 304) = !(a.st == 304) := rfl
      simp [h2, h6, e]
section
variable {R : Ending → World → Prop} {w : World}
set_option maxHeartbeats 16000000 in
theorem rhead27_any (st minor : Int) (cl : Bool) (v mt len : Int) (kd : List UInt8) (now : Int) (zs : List (Int × Int)) (l : List Pt) {A B : Option Addr} {n c nb db : Nat}
    (hz : Rd w [] B (zs.flatMap spV)) (hzn : zs.length = nb) (hnb : nb ≤ 10) (hzo : ∀ z ∈ zs, spOkN z) (hp : Rd w [] A (l.flatMap ptV)) (hpn : l.length = n) (hn : n ≤ 100) (hok : ∀ p ∈ l, okPt p) (hne : st = 206 → zs ≠ [])
    (hst : 0 ≤ st ∧ st ≤ 9999) (hv : 0 ≤ v ∧ v ≤ 9223372036854775807) (hmt : 0 ≤ mt ∧ mt ≤ 9223372036854775807) (hlen : 0 ≤ len ∧ len ≤ 35184372088832) (hkd : kd.length ≤ 300)
    (h : ∀ w', Kp [] w w' → R (.returned (.string (S (headS ⟨st, minor, cl, v, mt, len, kd, now, zs, sumG l⟩)))) w') :
    Calls Tryz.prog 57 #[.int .i64 st, .slice B nb db, .slice A n c, .agg #[.int .i64 v, .int .i64 mt, .int .i64 len, .string (S kd)], .int .i64 minor, .bool cl, .int .i64 now] w R := by
  have H := Lib.hid h
  have HP := Lib.hid hp
  have HZ := Lib.hid hz
  have HOk := Lib.hid hok
  have HZO := Lib.hid hzo
  have HZN := Lib.hid hzn
  have HPN := Lib.hid hpn
  obtain ⟨k, rfl⟩ : ∃ k : Nat, st = k := ⟨st.toNat, by omega⟩
  have hct := head_doc ⟨k, minor, cl, v, mt, len, kd, now, zs, sumG l⟩ hne
  have hsb := sum_bd l hok
  obtain ⟨nn, hnn⟩ : ∃ x, sumG l = x := ⟨_, rfl⟩
  have hn0 : 0 ≤ nn ∧ nn ≤ 9000000000000000 := by rw [← hnn]; have h1 := hsb.1; have h2 := hsb.2; rw [hpn] at h2; omega
  obtain ⟨ds, hds⟩ : ∃ ds, decL k = ds := ⟨_, rfl⟩
  obtain ⟨rs, hrs⟩ : ∃ rs, rsnL (k : Int) = rs := ⟨_, rfl⟩
  obtain ⟨tg, htg⟩ : ∃ tg, tagL v mt = tg := ⟨_, rfl⟩
  obtain ⟨mb, hmb⟩ : ∃ mb, mayB now = mb := ⟨_, rfl⟩
  obtain ⟨mm, hmm⟩ : ∃ mm, mayB mt = mm := ⟨_, rfl⟩
  obtain ⟨D, hD⟩ : ∃ D, dateT now = D := ⟨_, rfl⟩
  obtain ⟨DM, hDM⟩ : ∃ D, dateT mt = D := ⟨_, rfl⟩
  obtain ⟨b200, e200⟩ : ∃ b, ((k : Int) == 200) = b := ⟨_, rfl⟩
  obtain ⟨b206, e206⟩ : ∃ b, ((k : Int) == 206) = b := ⟨_, rfl⟩
  obtain ⟨b304, e304⟩ : ∃ b, ((k : Int) == 304) = b := ⟨_, rfl⟩
  obtain ⟨b405, e405⟩ : ∃ b, ((k : Int) == 405) = b := ⟨_, rfl⟩
  obtain ⟨b416, e416⟩ : ∃ b, ((k : Int) == 416) = b := ⟨_, rfl⟩
  obtain ⟨bM, eM⟩ : ∃ b, (minor == 0) = b := ⟨_, rfl⟩
  obtain ⟨m1, em1⟩ : ∃ b, decide (1 < nb) = b := ⟨_, rfl⟩
  obtain ⟨o1, eo1⟩ : ∃ b, (nb == 1) = b := ⟨_, rfl⟩
  obtain ⟨b3n, e3n⟩ : ∃ b, (!b304) = b := ⟨_, rfl⟩
  have ne304 : ((k : Int) != 304) = b3n := by rw [← e3n, ← e304]; rfl
  have em2 : decide ((1 : Int) < nb) = m1 := by rw [← em1]; simp; omega
  have eo2 : ((nb : Int) == 1) = o1 := by rw [← eo1, Bool.eq_iff_iff, beq_iff_eq, beq_iff_eq]; omega
  have HX : Hid (b200 = true → b405 = false) := Lib.hid (fun e => by rw [← e405]; rw [← e200] at e; simp at e ⊢; omega)
  obtain ⟨KK, hKK⟩ : ∃ KK, (if (b200 || b206) = true then (if (b206 && m1) = true then mpV else kd) else txtV) = KK := ⟨_, rfl⟩
  obtain ⟨CR, hCR⟩ : ∃ CR, (if (b206 && o1) = true then hdr crN (contL (zs.headD (0, 0)).1 (zs.headD (0, 0)).2 len) else []) = CR := ⟨_, rfl⟩
  obtain ⟨bE, hbE⟩ : ∃ b, (b200 || b206 || b304) = b := ⟨_, rfl⟩
  obtain ⟨bL, hbL⟩ : ∃ b, ((b200 || b206) && mm) = b := ⟨_, rfl⟩
  obtain ⟨ALL, hALL⟩ : ∃ x, headS ⟨k, minor, cl, v, mt, len, kd, now, zs, sumG l⟩ = x := ⟨_, rfl⟩
  have HA0 : Hid (line1 ds rs ++ (hdrB mb dateN D ++ (hdr servN pantV ++ (hdrB bE etagN tg ++ (hdrB bL lmN DM ++ (hdrB b200 arN bytV ++ (hdrB b405 allowN ghV ++ (hdrB b3n ctN KK ++ (CR ++ (hdrB b416 crN (noneL len) ++ (hdrB b3n clN (itoaL nn) ++ (hdrB cl connN closV ++ (hdrB (!cl && bM) connN keepV ++ ([13, 10]))))))))))))) = ALL) := Lib.hid (by
    rw [← hALL]
    unfold headS
    rw [hct]
    unfold HdA.cr HdA.one HdA.body
    simp only [Int.toNat_natCast, hds, hrs, htg, hmb, hmm, hD, hDM, e200, e206, e304, e405, e416, eM, hnn, ne304, e3n, hzn, em1, eo1, hKK, hbE, hbL]
    rw [← hCR])
  rw [hALL] at H
  have hrl : rs.length ≤ 40 := by rw [← hrs]; exact rsn_len _
  have hdl := dec3 (n := k) (by omega)
  rw [hds] at hdl
  have htl : tg.length ≤ 100 := by
    rw [← htg]
    have q1 := itoaL_len v (by omega) (by omega)
    have q2 := itoaL_len mt (by omega) (by omega)
    unfold tagL
    simp only [List.length_cons, List.length_append, List.length_nil]
    omega
  have hDl : mb = true → D.length ≤ 200 := fun e => by rw [← hD]; exact dateT_len (by rw [hmb, e])
  have hDMl : mm = true → DM.length ≤ 200 := fun e => by rw [← hDM]; exact dateT_len (by rw [hmm, e])
  have hKl : KK.length ≤ 300 := by
    rw [← hKK]
    split
    · split
      · decide
      · exact hkd
    · decide
  have hnl := itoaL_len nn (by omega) (by omega)
  have hll := itoaL_len len (by omega) (by omega)
  have HI : Hid (∀ (R : Ending → World → Prop) (w : World), (∀ w', Kp [] w w' → R (.returned (.string (S ds))) w') → Calls Tryz.prog 14 #[.int .i64 k] w R) := Lib.hid (fun R w b => rdigits_sgn k w (by omega) (by omega) (by rw [itoaL_nat, hds]; exact b))
  have HIl : Hid (∀ (R : Ending → World → Prop) (w : World), (∀ w', Kp [] w w' → R (.returned (.string (S (itoaL len)))) w') → Calls Tryz.prog 14 #[.int .i64 len] w R) := Lib.hid (fun R w b => rdigits_sgn len w (by omega) (by omega) b)
  have HIn : Hid (∀ (R : Ending → World → Prop) (w : World), (∀ w', Kp [] w w' → R (.returned (.string (S (itoaL nn)))) w') → Calls Tryz.prog 14 #[.int .i64 nn] w R) := Lib.hid (fun R w b => rdigits_sgn nn w (by omega) (by omega) b)
  have HRs : Hid (∀ (R : Ending → World → Prop) (w : World), (∀ w', Kp [] w w' → R (.returned (.string (S rs))) w') → Calls Tryz.prog 93 #[.int .i64 k] w R) := Lib.hid (fun R w h => rreason_any k w (by rw [hrs]; exact h))
  have HMy : Hid (∀ (R : Ending → World → Prop) (w : World), R (.returned (.bool mb)) w → Calls Tryz.prog 95 #[.int .i64 now] w R) := Lib.hid (fun R w h => may3_any now w (by rw [← hmb] at h; exact h))
  have HMm : Hid (∀ (R : Ending → World → Prop) (w : World), R (.returned (.bool mm)) w → Calls Tryz.prog 95 #[.int .i64 mt] w R) := Lib.hid (fun R w h => may3_any mt w (by rw [← hmm] at h; exact h))
  have HPr : Hid (mb = true → ∀ (R : Ending → World → Prop) (w : World), (∀ w', Kp [] w w' → R (.returned (.string (S D))) w') → Calls Tryz.prog 96 #[.int .i64 now] w R) := Lib.hid (fun e R w h => by
    have hm2 : 0 ≤ now ∧ now ≤ 253402300799 := by rw [e] at hmb; simpa [mayB] using hmb
    obtain ⟨D', ht⟩ := told_ex w hm2.1 hm2.2
    have e2 : D' = D := by rw [← hD, dateT_is ht]
    subst e2
    exact print3_any now w hm2.1 hm2.2 ht h)
  have HPm : Hid (mm = true → ∀ (R : Ending → World → Prop) (w : World), (∀ w', Kp [] w w' → R (.returned (.string (S DM))) w') → Calls Tryz.prog 96 #[.int .i64 mt] w R) := Lib.hid (fun e R w h => by
    have hm2 : 0 ≤ mt ∧ mt ≤ 253402300799 := by rw [e] at hmm; simpa [mayB] using hmm
    obtain ⟨D', ht⟩ := told_ex w hm2.1 hm2.2
    have e2 : D' = DM := by rw [← hDM, dateT_is ht]
    subst e2
    exact print3_any mt w hm2.1 hm2.2 ht h)
  have HTg : Hid (∀ (R : Ending → World → Prop) (w : World), (∀ w', Kp [] w w' → R (.returned (.string (S tg))) w') → Calls Tryz.prog 97 #[.int .i64 v, .int .i64 mt] w R) := Lib.hid (fun R w h => rtag26_wide v mt hv hmt (by rw [htg]; exact h))
  have HLn : Hid (∀ (R : Ending → World → Prop) (w1 : World), Kp [] w w1 → (∀ w', Kp [] w1 w' → R (.returned (.int .i64 nn)) w') → Calls Tryz.prog 99 #[.slice A n c] w1 R) := Lib.hid (fun R w1 k1 h => rlen27_any l (HP.out.kp k1 (by simp)) HPN.out hn HOk.out (by rw [hnn]; exact h))
  have HbL := Lib.hid hbL
  have HKKd := Lib.hid hKK
  have HCRd := Lib.hid hCR
  clear h hz hzo hp hok hne hct hsb hnn hds hrs htg hmb hmm hD hDM hbL hKK hCR hALL
  go_enter Tryz.func57, Tryz.ntmps57
  go_upto_region 1 with (fail)
  refine gen_worldC (fun W => ∃ g, w.heap.size = g ∧ Hid (Kp [] w W ∧ Bk W g 26 [.int .i64 v, .int .i64 mt, .int .i64 len, .string (S kd)])) ⟨_, rfl, Lib.hid ⟨(Kp.refl _ _).alloc _, (Bk.new' _ _ _).cast rfl⟩⟩ ?_
  rintro W ⟨g, hg, hW⟩
  rw [hg]
  clear hg
  have HC : Hid (∀ W', Kp [] W W' → (W'.cell? ⟨g, 0, none⟩ = some (.int .i64 v) ∧ W'.cell? ⟨g, 1, none⟩ = some (.int .i64 mt) ∧ W'.cell? ⟨g, 2, none⟩ = some (.int .i64 len) ∧ W'.cell? ⟨g, 3, none⟩ = some (.string (S kd)))) := Lib.hid (fun W' k => (bk4r (hW.out.2.kp k (by simp))).1)
  obtain ⟨x0, x1, x2, x3⟩ := HC.out W (Kp.refl _ _)
  go_upto_region 1 with (fail)
  go_cut [15] (fun x W' => x = .string (S (line1 ds rs)) ∧ Hid (Kp [] W W'))
  case first =>
    as_aux_lemma =>
      go_wp2_with (first | (go_at_call 14; ((with_reducible refine HI.out _ _ ?_); intro w5 k5)) | (go_at_call 93; ((refine HRs.out _ _ ?_); intro w6 k6)))
      go_meet
      exact ⟨by simp [line1], Lib.hid (k5.trans k6)⟩
  case rest =>
    obtain ⟨hx, hk⟩ := hcut
    rw [hx]
    obtain ⟨o, ho⟩ : ∃ o, line1 ds rs = o := ⟨_, rfl⟩
    have hol : o.length ≤ 100 := by rw [← ho]; unfold line1; simp only [List.length_append, List.length_cons, List.length_nil]; omega
    rw [ho] at HA0 ⊢
    have HA := HA0
    clear hx ho HA0 x0 x1 x2 x3
    obtain ⟨x0, x1, x2, x3⟩ := HC.out _ hk.out
    go_upto_if 26 with (go_at_call 95; (with_reducible refine HMy.out _ _ ?_))
    go_cut [15] (fun x W' => ∃ o' : List UInt8, x = .string (S o') ∧ o'.length ≤ 400 ∧ Hid (o' = o ++ hdrB mb dateN D) ∧ Hid (Kp [] W W'))
    case first =>
      as_aux_lemma =>
        cases mb with
        | false =>
          go_wp2
          go_meet
          exact ⟨o, rfl, by omega, Lib.hid (by simp [hdrB]), Lib.hid hk.out⟩
        | true =>
          go_wp2_with (go_at_call 96; ((refine HPr.out rfl _ _ ?_); intro w5 k5; have hDl2 := hDl rfl))
          go_meet
          exact ⟨_, rfl, by simp only [List.length_append, List.length_cons, List.length_nil]; omega, Lib.hid (by simp [hdrB, hdr, dateN]), Lib.hid (hk.out.trans k5)⟩
    case rest =>
      obtain ⟨o2, hx, hol2, ho2, hk2⟩ := hcut
      rw [hx]
      have HA2 : Hid (o2 ++ (hdr servN pantV ++ (hdrB bE etagN tg ++ (hdrB bL lmN DM ++ (hdrB b200 arN bytV ++ (hdrB b405 allowN ghV ++ (hdrB b3n ctN KK ++ (CR ++ (hdrB b416 crN (noneL len) ++ (hdrB b3n clN (itoaL nn) ++ (hdrB cl connN closV ++ (hdrB (!cl && bM) connN keepV ++ ([13, 10])))))))))))) = ALL) := Lib.hid (by rw [ho2.out, ← HA.out]; simp)
      clear hx ho2 HA hol hk x0 x1 x2 x3
      clear o
      obtain ⟨o, eo⟩ : ∃ o, o2 = o := ⟨_, rfl⟩
      rw [eo] at HA2 hol2 ⊢
      have HA := HA2
      have hol := hol2
      have hk := hk2
      clear eo HA2 hol2 hk2
      obtain ⟨x0, x1, x2, x3⟩ := HC.out _ hk.out
      go_upto_region 4 with (fail)
      go_cut [15] (fun x W' => ∃ o' : List UInt8, x = .string (S o') ∧ o'.length ≤ 500 ∧ Hid (o' = o ++ hdr servN pantV) ∧ Hid (Kp [] W W'))
      case first =>
        as_aux_lemma =>
          go_wp2
          go_meet
          exact ⟨_, rfl, by simp only [List.length_append, List.length_cons, List.length_nil]; omega, Lib.hid (by simp [hdr, servN, pantV]), Lib.hid hk.out⟩
      case rest =>
        obtain ⟨o2, hx, hol2, ho2, hk2⟩ := hcut
        rw [hx]
        have HA2 : Hid (o2 ++ (hdrB bE etagN tg ++ (hdrB bL lmN DM ++ (hdrB b200 arN bytV ++ (hdrB b405 allowN ghV ++ (hdrB b3n ctN KK ++ (CR ++ (hdrB b416 crN (noneL len) ++ (hdrB b3n clN (itoaL nn) ++ (hdrB cl connN closV ++ (hdrB (!cl && bM) connN keepV ++ ([13, 10]))))))))))) = ALL) := Lib.hid (by rw [ho2.out, ← HA.out]; simp)
        clear hx ho2 HA hol hk x0 x1 x2 x3
        clear o
        obtain ⟨o, eo⟩ : ∃ o, o2 = o := ⟨_, rfl⟩
        rw [eo] at HA2 hol2 ⊢
        have HA := HA2
        have hol := hol2
        have hk := hk2
        clear eo HA2 hol2 hk2
        obtain ⟨x0, x1, x2, x3⟩ := HC.out _ hk.out
        go_upto_region 5 with (fail)
        go_cut [44] (fun x W' => x = .bool (b200 || b206 || b304) ∧ Hid (Kp [] W W'))
        case first =>
          as_aux_lemma =>
            cases b200
            all_goals
              cases b206
              all_goals
                cases b304
                all_goals
                  go_wp2
                  go_meet
                  exact ⟨by simp, hk⟩
        case rest =>
          obtain ⟨hx, hk2⟩ := hcut
          rw [hx]
          clear hx hk x0 x1 x2 x3
          have hk := hk2
          clear hk2
          obtain ⟨x0, x1, x2, x3⟩ := HC.out _ hk.out
          rw [hbE]
          go_upto_if 44 with (fail)
          go_cut [15] (fun x W' => ∃ o' : List UInt8, x = .string (S o') ∧ o'.length ≤ 700 ∧ Hid (o' = o ++ hdrB bE etagN tg) ∧ Hid (Kp [] W W'))
          case first =>
            as_aux_lemma =>
              cases bE with
              | false =>
                go_wp2
                go_meet
                exact ⟨o, rfl, by omega, Lib.hid (by simp [hdrB]), Lib.hid hk.out⟩
              | true =>
                go_wp2_with (go_at_call 97; ((refine HTg.out _ _ ?_); intro w5 k5))
                go_meet
                exact ⟨_, rfl, by simp only [List.length_append, List.length_cons, List.length_nil]; omega, Lib.hid (by simp [hdrB, hdr, etagN]), Lib.hid (hk.out.trans k5)⟩
          case rest =>
            obtain ⟨o2, hx, hol2, ho2, hk2⟩ := hcut
            rw [hx]
            have HA2 : Hid (o2 ++ (hdrB bL lmN DM ++ (hdrB b200 arN bytV ++ (hdrB b405 allowN ghV ++ (hdrB b3n ctN KK ++ (CR ++ (hdrB b416 crN (noneL len) ++ (hdrB b3n clN (itoaL nn) ++ (hdrB cl connN closV ++ (hdrB (!cl && bM) connN keepV ++ ([13, 10])))))))))) = ALL) := Lib.hid (by rw [ho2.out, ← HA.out]; simp)
            clear hx ho2 HA hol hk x0 x1 x2 x3
            clear o
            obtain ⟨o, eo⟩ : ∃ o, o2 = o := ⟨_, rfl⟩
            rw [eo] at HA2 hol2 ⊢
            have HA := HA2
            have hol := hol2
            have hk := hk2
            clear eo HA2 hol2 hk2
            obtain ⟨x0, x1, x2, x3⟩ := HC.out _ hk.out
            go_upto_region 7 with (fail)
            go_cut [64] (fun x W' => x = .bool ((b200 || b206) && mm) ∧ Hid (Kp [] W W'))
            case first =>
              as_aux_lemma =>
                cases b200
                all_goals
                  cases b206
                  all_goals
                    go_wp2_with (go_at_call 95; (with_reducible refine HMm.out _ _ ?_))
                    go_meet
                    exact ⟨by simp, hk⟩
            case rest =>
              obtain ⟨hx, hk2⟩ := hcut
              rw [hx, HbL.out]
              clear hx hk x0 x1 x2 x3
              have hk := hk2
              clear hk2
              obtain ⟨x0, x1, x2, x3⟩ := HC.out _ hk.out
              go_upto_if 64 with (fail)
              go_cut [15] (fun x W' => ∃ o' : List UInt8, x = .string (S o') ∧ o'.length ≤ 1000 ∧ Hid (o' = o ++ hdrB bL lmN DM) ∧ Hid (Kp [] W W'))
              case first =>
                as_aux_lemma =>
                  cases bL with
                  | false =>
                    go_wp2
                    go_meet
                    exact ⟨o, rfl, by omega, Lib.hid (by simp [hdrB]), Lib.hid hk.out⟩
                  | true =>
                    go_wp2_with (go_at_call 96; ((refine HPm.out (by have q := HbL.out; simp at q; exact q.2) _ _ ?_); intro w5 k5; have hDl2 := hDMl (by have q := HbL.out; simp at q; exact q.2)))
                    go_meet
                    exact ⟨_, rfl, by simp only [List.length_append, List.length_cons, List.length_nil]; omega, Lib.hid (by simp [hdrB, hdr, lmN]), Lib.hid (hk.out.trans k5)⟩
              case rest =>
                obtain ⟨o2, hx, hol2, ho2, hk2⟩ := hcut
                rw [hx]
                have HA2 : Hid (o2 ++ (hdrB b200 arN bytV ++ (hdrB b405 allowN ghV ++ (hdrB b3n ctN KK ++ (CR ++ (hdrB b416 crN (noneL len) ++ (hdrB b3n clN (itoaL nn) ++ (hdrB cl connN closV ++ (hdrB (!cl && bM) connN keepV ++ ([13, 10]))))))))) = ALL) := Lib.hid (by rw [ho2.out, ← HA.out]; simp)
                clear hx ho2 HA hol hk x0 x1 x2 x3
                clear o
                obtain ⟨o, eo⟩ : ∃ o, o2 = o := ⟨_, rfl⟩
                rw [eo] at HA2 hol2 ⊢
                have HA := HA2
                have hol := hol2
                have hk := hk2
                clear eo HA2 hol2 hk2
                obtain ⟨x0, x1, x2, x3⟩ := HC.out _ hk.out
                go_upto_region 10 with (fail)
                go_cut [77] (fun x W' => x = .bool (b200 || b206) ∧ Hid (Kp [] W W'))
                case first =>
                  as_aux_lemma =>
                    cases b200
                    all_goals
                      cases b206
                      all_goals
                        go_wp2
                        go_meet
                        exact ⟨by simp, hk⟩
                case rest =>
                  obtain ⟨hx, hk2⟩ := hcut
                  rw [hx]
                  clear hx hk x0 x1 x2 x3
                  have hk := hk2
                  clear hk2
                  obtain ⟨x0, x1, x2, x3⟩ := HC.out _ hk.out
                  go_upto_if 77 with (fail)
                  go_cut [16] (fun x W' => x = .string (S (if (b200 || b206) = true then kd else txtV)) ∧ Hid (Kp [] W W'))
                  case first =>
                    as_aux_lemma =>
                      obtain ⟨bb, ebb⟩ : ∃ bb, (b200 || b206) = bb := ⟨_, rfl⟩
                      rw [ebb]
                      cases bb
                      all_goals
                        go_wp2
                        go_meet
                        exact ⟨by rw [ebb]; rfl, hk⟩
                  case rest =>
                    obtain ⟨hx, hk2⟩ := hcut
                    rw [hx]
                    clear hx hk x0 x1 x2 x3
                    have hk := hk2
                    clear hk2
                    obtain ⟨x0, x1, x2, x3⟩ := HC.out _ hk.out
                    obtain ⟨k1, ek1⟩ : ∃ k1, (if (b200 || b206) = true then kd else txtV) = k1 := ⟨_, rfl⟩
                    rw [ek1]
                    have HK1 : Hid ((b206 && m1) = true → KK = mpV) := Lib.hid (fun q => by rw [← HKKd.out]; simp at q; simp [q])
                    have HK2 : Hid ((b206 && m1) = false → KK = k1) := Lib.hid (fun q => by rw [← HKKd.out, ← ek1, q]; simp)
                    clear ek1
                    go_upto_region 12 with (fail)
                    go_cut [86] (fun x W' => x = .bool (b206 && m1) ∧ Hid (Kp [] W W'))
                    case first =>
                      as_aux_lemma =>
                        cases b206
                        all_goals
                          cases m1
                          all_goals
                            go_wp2
                            go_meet
                            exact ⟨by simp, hk⟩
                    case rest =>
                      obtain ⟨hx, hk2⟩ := hcut
                      rw [hx]
                      clear hx hk x0 x1 x2 x3
                      have hk := hk2
                      clear hk2
                      obtain ⟨x0, x1, x2, x3⟩ := HC.out _ hk.out
                      go_upto_if 86 with (fail)
                      go_cut [16] (fun x W' => x = .string (S KK) ∧ Hid (Kp [] W W'))
                      case first =>
                        as_aux_lemma =>
                          obtain ⟨bb, ebb⟩ : ∃ bb, (b206 && m1) = bb := ⟨_, rfl⟩
                          rw [ebb] at HK1 HK2 ⊢
                          cases bb with
                          | true =>
                            go_wp2
                            go_meet
                            exact ⟨by rw [HK1.out (by trivial)]; rfl, hk⟩
                          | false =>
                            go_wp2
                            go_meet
                            exact ⟨by rw [HK2.out (by trivial)], hk⟩
                      case rest =>
                        obtain ⟨hx, hk2⟩ := hcut
                        rw [hx]
                        clear hx hk x0 x1 x2 x3 HK1 HK2
                        have hk := hk2
                        clear hk2
                        obtain ⟨x0, x1, x2, x3⟩ := HC.out _ hk.out
                        go_upto_block 0 with (fail)
                        go_cut [15] (fun x W' => ∃ o' : List UInt8, x = .string (S o') ∧ o'.length ≤ 1100 ∧ Hid (o' = o ++ (hdrB b200 arN bytV ++ hdrB b405 allowN ghV)) ∧ Hid (Kp [] W W'))
                        case first =>
                          as_aux_lemma =>
                            cases b200 with
                            | true =>
                              have e4 := HX.out rfl
                              subst e4
                              go_wp2
                              go_meet
                              exact ⟨_, rfl, by simp only [List.length_append, List.length_cons, List.length_nil]; omega, Lib.hid (by simp [hdrB, hdr, arN, bytV]), hk⟩
                            | false =>
                              cases b405 with
                              | true =>
                                go_wp2
                                go_meet
                                exact ⟨_, rfl, by simp only [List.length_append, List.length_cons, List.length_nil]; omega, Lib.hid (by simp [hdrB, hdr, allowN, ghV]), hk⟩
                              | false =>
                                go_wp2
                                go_meet
                                exact ⟨o, rfl, by omega, Lib.hid (by simp [hdrB]), hk⟩
                        case rest =>
                          obtain ⟨o2, hx, hol2, ho2, hk2⟩ := hcut
                          rw [hx]
                          have HA2 : Hid (o2 ++ (hdrB b3n ctN KK ++ (CR ++ (hdrB b416 crN (noneL len) ++ (hdrB b3n clN (itoaL nn) ++ (hdrB cl connN closV ++ (hdrB (!cl && bM) connN keepV ++ ([13, 10]))))))) = ALL) := Lib.hid (by rw [ho2.out, ← HA.out]; simp)
                          clear hx ho2 HA hol hk x0 x1 x2 x3
                          clear o
                          obtain ⟨o, eo⟩ : ∃ o, o2 = o := ⟨_, rfl⟩
                          rw [eo] at HA2 hol2 ⊢
                          have HA := HA2
                          have hol := hol2
                          have hk := hk2
                          clear eo HA2 hol2 hk2
                          obtain ⟨x0, x1, x2, x3⟩ := HC.out _ hk.out
                          go_upto_if 97 with (fail)
                          go_cut [15] (fun x W' => ∃ o' : List UInt8, x = .string (S o') ∧ o'.length ≤ 1500 ∧ Hid (o' = o ++ hdrB b3n ctN KK) ∧ Hid (Kp [] W W'))
                          case first =>
                            as_aux_lemma =>
                              cases b3n with
                              | false =>
                                go_wp2
                                go_meet
                                exact ⟨o, rfl, by omega, Lib.hid (by simp [hdrB]), Lib.hid hk.out⟩
                              | true =>
                                go_wp2
                                go_meet
                                exact ⟨_, rfl, by simp only [List.length_append, List.length_cons, List.length_nil]; omega, Lib.hid (by simp [hdrB, hdr, ctN]), Lib.hid hk.out⟩
                          case rest =>
                            obtain ⟨o2, hx, hol2, ho2, hk2⟩ := hcut
                            rw [hx]
                            have HA2 : Hid (o2 ++ (CR ++ (hdrB b416 crN (noneL len) ++ (hdrB b3n clN (itoaL nn) ++ (hdrB cl connN closV ++ (hdrB (!cl && bM) connN keepV ++ ([13, 10])))))) = ALL) := Lib.hid (by rw [ho2.out, ← HA.out]; simp)
                            clear hx ho2 HA hol hk x0 x1 x2 x3
                            clear o
                            obtain ⟨o, eo⟩ : ∃ o, o2 = o := ⟨_, rfl⟩
                            rw [eo] at HA2 hol2 ⊢
                            have HA := HA2
                            have hol := hol2
                            have hk := hk2
                            clear eo HA2 hol2 hk2
                            obtain ⟨x0, x1, x2, x3⟩ := HC.out _ hk.out
                            go_upto_region 21 with (fail)
                            go_cut [109] (fun x W' => x = .bool (b206 && o1) ∧ Hid (Kp [] W W'))
                            case first =>
                              as_aux_lemma =>
                                cases b206
                                all_goals
                                  cases o1
                                  all_goals
                                    go_wp2
                                    go_meet
                                    exact ⟨by simp, hk⟩
                            case rest =>
                              obtain ⟨hx, hk2⟩ := hcut
                              rw [hx]
                              clear hx hk x0 x1 x2 x3
                              have hk := hk2
                              clear hk2
                              obtain ⟨x0, x1, x2, x3⟩ := HC.out _ hk.out
                              have HO1 : Hid ((b206 && o1) = true → nb = 1) := Lib.hid (fun q => by rw [← eo1] at q; simp at q; exact q.2)
                              obtain ⟨one, hone⟩ : ∃ x, (b206 && o1) = x := ⟨_, rfl⟩
                              rw [hone] at HO1 HCRd ⊢
                              go_upto_if 109 with (fail)
                              go_cut [15] (fun x W' => ∃ o' : List UInt8, x = .string (S o') ∧ o'.length ≤ 1700 ∧ Hid (o' = o ++ (CR)) ∧ Hid (Kp [] W W'))
                              case first =>
                                as_aux_lemma =>
                                  cases one with
                                  | false =>
                                    have e9 : CR = [] := by rw [← HCRd.out]; rfl
                                    go_wp2
                                    go_meet
                                    exact ⟨o, rfl, by omega, Lib.hid (by rw [e9]; simp), hk⟩
                                  | true =>
                                    have h1 := HO1.out rfl
                                    clear eo1 em1 eo2 em2
                                    subst h1
                                    obtain ⟨z, hzs⟩ : ∃ z, zs = [z] := by
                                      have h2 := HZN.out
                                      match zs, h2 with
                                      | [z], _ => exact ⟨z, rfl⟩
                                    have hzz := HZO.out z (by rw [hzs]; simp)
                                    obtain ⟨z1, z2⟩ := z
                                    obtain ⟨b, off, hBe, _, hbl, hc⟩ := (HZ.out.kp (hW.out.1.trans hk.out) (by simp)) (by rw [hzs]; simp [spV])
                                    subst hBe
                                    rw [hzs] at hc
                                    have y0 : wc.cell? ⟨b, off, none⟩ = some (.int .i64 z1) := hc 0 _ rfl
                                    have y1 : wc.cell? ⟨b, off + 1, none⟩ = some (.int .i64 z2) := hc 1 _ rfl
                                    have e9 : CR = hdr crN (contL z1 z2 len) := by rw [← HCRd.out, hzs]; rfl
                                    have hcl := contL_len z1 z2 len ⟨hzz.1, hzz.2.1⟩ ⟨hzz.2.2.1, hzz.2.2.2⟩ hlen
                                    have HCo : Hid (∀ (R : Ending → World → Prop) (w : World), (∀ w', Kp [] w w' → R (.returned (.string (S (contL z1 z2 len)))) w') → Calls Tryz.prog 98 #[.agg #[.int .i64 z1, .int .i64 z2], .int .i64 len] w R) := Lib.hid (fun R w h => rcontent_any z1 z2 len w ⟨hzz.1, hzz.2.1⟩ ⟨hzz.2.2.1, hzz.2.2.2⟩ hlen h)
                                    clear hc hzs hzz
                                    obtain ⟨ct, ect⟩ : ∃ ct, contL z1 z2 len = ct := ⟨_, rfl⟩
                                    rw [ect] at HCo e9 hcl
                                    clear ect
                                    have E9 := Lib.hid e9
                                    clear e9
                                    go_upto_region 22 with (fail)
                                    refine wp_region_kp (by kernel_rfl) (by kernel_rfl) ?_
                                    repeat (go_big_quiet_step (first | (go_at_call 98; ((refine HCo.out _ _ ?_); intro w' k'; exact kpx_mk k')) | (rw [if_neg (by simp only [List.length_append, List.length_cons, List.length_nil]; omega)]; exact ⟨rfl, rfl⟩) | (rw [if_neg (by omega)]; exact ⟨rfl, rfl⟩)))
                                    refine wpQuiet_nil ?_
                                    intro w6 k6
                                    go_wp2
                                    go_meet
                                    exact ⟨_, rfl, by simp only [List.length_append, List.length_cons, List.length_nil]; omega, Lib.hid (by rw [E9.out]; simp [hdr, crN]), Lib.hid (hk.out.trans k6)⟩
                              case rest =>
                                obtain ⟨o2, hx, hol2, ho2, hk2⟩ := hcut
                                rw [hx]
                                have HA2 : Hid (o2 ++ (hdrB b416 crN (noneL len) ++ (hdrB b3n clN (itoaL nn) ++ (hdrB cl connN closV ++ (hdrB (!cl && bM) connN keepV ++ ([13, 10]))))) = ALL) := Lib.hid (by rw [ho2.out, ← HA.out]; simp)
                                clear hx ho2 HA hol hk x0 x1 x2 x3
                                clear o
                                obtain ⟨o, eo⟩ : ∃ o, o2 = o := ⟨_, rfl⟩
                                rw [eo] at HA2 hol2 ⊢
                                have HA := HA2
                                have hol := hol2
                                have hk := hk2
                                clear eo HA2 hol2 hk2
                                obtain ⟨x0, x1, x2, x3⟩ := HC.out _ hk.out
                                go_upto_if 121 with (fail)
                                go_cut [15] (fun x W' => ∃ o' : List UInt8, x = .string (S o') ∧ o'.length ≤ 1900 ∧ Hid (o' = o ++ hdrB b416 crN (noneL len)) ∧ Hid (Kp [] W W'))
                                case first =>
                                  as_aux_lemma =>
                                    cases b416 with
                                    | false =>
                                      go_wp2
                                      go_meet
                                      exact ⟨o, rfl, by omega, Lib.hid (by simp [hdrB]), Lib.hid hk.out⟩
                                    | true =>
                                      go_wp2_with (go_at_call 14; ((with_reducible refine HIl.out _ _ ?_); intro w5 k5))
                                      go_meet
                                      exact ⟨_, rfl, by simp only [List.length_append, List.length_cons, List.length_nil]; omega, Lib.hid (by simp [hdrB, hdr, crN, noneL]), Lib.hid (hk.out.trans k5)⟩
                                case rest =>
                                  obtain ⟨o2, hx, hol2, ho2, hk2⟩ := hcut
                                  rw [hx]
                                  have HA2 : Hid (o2 ++ (hdrB b3n clN (itoaL nn) ++ (hdrB cl connN closV ++ (hdrB (!cl && bM) connN keepV ++ ([13, 10])))) = ALL) := Lib.hid (by rw [ho2.out, ← HA.out]; simp)
                                  clear hx ho2 HA hol hk x0 x1 x2 x3
                                  clear o
                                  obtain ⟨o, eo⟩ : ∃ o, o2 = o := ⟨_, rfl⟩
                                  rw [eo] at HA2 hol2 ⊢
                                  have HA := HA2
                                  have hol := hol2
                                  have hk := hk2
                                  clear eo HA2 hol2 hk2
                                  obtain ⟨x0, x1, x2, x3⟩ := HC.out _ hk.out
                                  go_upto_if 130 with (fail)
                                  go_cut [15] (fun x W' => ∃ o' : List UInt8, x = .string (S o') ∧ o'.length ≤ 2100 ∧ Hid (o' = o ++ hdrB b3n clN (itoaL nn)) ∧ Hid (Kp [] W W'))
                                  case first =>
                                    as_aux_lemma =>
                                      cases b3n with
                                      | false =>
                                        go_wp2
                                        go_meet
                                        exact ⟨o, rfl, by omega, Lib.hid (by simp [hdrB]), Lib.hid hk.out⟩
                                      | true =>
                                        go_wp2_with (first | (go_at_call 99; ((refine HLn.out _ _ (hW.out.1.trans hk.out) ?_); intro w5 k5)) | (go_at_call 14; ((with_reducible refine HIn.out _ _ ?_); intro w6 k6)))
                                        go_meet
                                        exact ⟨_, rfl, by simp only [List.length_append, List.length_cons, List.length_nil]; omega, Lib.hid (by simp [hdrB, hdr, clN]), Lib.hid ((hk.out.trans k5).trans k6)⟩
                                  case rest =>
                                    obtain ⟨o2, hx, hol2, ho2, hk2⟩ := hcut
                                    rw [hx]
                                    have HA2 : Hid (o2 ++ (hdrB cl connN closV ++ (hdrB (!cl && bM) connN keepV ++ ([13, 10]))) = ALL) := Lib.hid (by rw [ho2.out, ← HA.out]; simp)
                                    clear hx ho2 HA hol hk x0 x1 x2 x3
                                    clear o
                                    obtain ⟨o, eo⟩ : ∃ o, o2 = o := ⟨_, rfl⟩
                                    rw [eo] at HA2 hol2 ⊢
                                    have HA := HA2
                                    have hol := hol2
                                    have hk := hk2
                                    clear eo HA2 hol2 hk2
                                    obtain ⟨x0, x1, x2, x3⟩ := HC.out _ hk.out
                                    go_upto_if 138 with (fail)
                                    go_cut [15] (fun x W' => ∃ o' : List UInt8, x = .string (S o') ∧ o'.length ≤ 2200 ∧ Hid (o' = o ++ (hdrB cl connN closV ++ hdrB (!cl && bM) connN keepV)) ∧ Hid (Kp [] W W'))
                                    case first =>
                                      as_aux_lemma =>
                                        cases cl with
                                        | true =>
                                          go_wp2
                                          go_meet
                                          exact ⟨_, rfl, by simp only [List.length_append, List.length_cons, List.length_nil]; omega, Lib.hid (by simp [hdrB, hdr, connN, closV]), hk⟩
                                        | false =>
                                          cases bM with
                                          | true =>
                                            go_wp2
                                            go_meet
                                            exact ⟨_, rfl, by simp only [List.length_append, List.length_cons, List.length_nil]; omega, Lib.hid (by simp [hdrB, hdr, connN, keepV]), hk⟩
                                          | false =>
                                            go_wp2
                                            go_meet
                                            exact ⟨o, rfl, by omega, Lib.hid (by simp [hdrB]), hk⟩
                                    case rest =>
                                      obtain ⟨o2, hx, hol2, ho2, hk2⟩ := hcut
                                      rw [hx]
                                      have HA2 : Hid (o2 ++ ([13, 10]) = ALL) := Lib.hid (by rw [ho2.out, ← HA.out]; simp)
                                      clear hx ho2 HA hol hk x0 x1 x2 x3
                                      clear o
                                      obtain ⟨o, eo⟩ : ∃ o, o2 = o := ⟨_, rfl⟩
                                      rw [eo] at HA2 hol2 ⊢
                                      have HA := HA2
                                      have hol := hol2
                                      have hk := hk2
                                      clear eo HA2 hol2 hk2
                                      obtain ⟨x0, x1, x2, x3⟩ := HC.out _ hk.out
                                      have F := H.out _ (hW.out.1.trans hk.out)
                                      rw [← HA.out] at F
                                      have F2 := Lib.hid F
                                      clear F
                                      go_wp2
                                      exact F2.out
end
end
end Go.Proofs.YtnmafahbdfilcaaGreatDoor
