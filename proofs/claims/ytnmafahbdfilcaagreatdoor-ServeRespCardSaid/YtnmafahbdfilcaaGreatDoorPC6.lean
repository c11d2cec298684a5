/- Package cond: tags. -/
import Derived.Test.YtnmafahbdfilcaaGreatDoorPC2
import Derived.Test.YtnmafahbdfilcaaGreatDoorPC5
namespace Go.Proofs.YtnmafahbdfilcaaGreatDoor
/-! ### Package cond: tags. -/
section
open Go.RowKit Go.Shelf
set_option linter.unusedVariables false
set_option linter.unusedSimpArgs false
set_option maxRecDepth 100000

theorem fmt_any {R : Ending → World → Prop} (v : Int) (w : World) (h0 : -9223372036854775808 ≤ v) (h1 : v ≤ 9223372036854775807) (hw : Lw w) (h : ∀ w', Kp [] w w' → R (.returned (.string (S (itoaL v)))) w') : Calls Tryz.prog 109 #[.int .i64 v, .int .i64 10] w R := by
  refine (Tryz.strconv_FormatInt_10 v h0 h1 w hw.pw).mono fun e w' ⟨he, k, os, hw'⟩ => ?_
  subst he; subst hw'
  exact h _ (((Kp.refl _ _).drewN _).grow _)
def tagL (v m : Int) : List UInt8 := 34 :: 118 :: (itoaL v ++ 45 :: (itoaL m ++ [34]))
theorem tag_any {R : Ending → World → Prop} (v m : Int) (w : World) (hv : 0 ≤ v ∧ v ≤ 4294967295) (hm : 0 ≤ m ∧ m ≤ 4294967295) (hw : Lw w) (h : ∀ w', Kp [] w w' → R (.returned (.string (S (tagL v m)))) w') : Calls Tryz.prog 63 #[.int .i64 v, .int .i64 m] w R := by
  have H := Lib.hid h
  obtain ⟨v0, v1⟩ := hv
  obtain ⟨m0, m1⟩ := hm
  have e1 := itoaL_len v (by omega) (by omega)
  have e2 := itoaL_len m (by omega) (by omega)
  clear h
  go_enter Tryz.func63, Tryz.ntmps63
  go_wp2_with (first | (go_at_call 77; ((refine itoa_all _ _ (by omega) (by omega) hw ?_); intro w1 k1)) | (go_at_call 109; ((refine fmt_any _ _ (by omega) (by omega) (hw.kp k1) ?_); intro w2 k2)))
  exact H.out _ (k1.trans k2)
theorem rtag_any {R : Ending → World → Prop} (v m : Int) (w : World) (hv : 0 ≤ v ∧ v ≤ 4294967295) (hm : 0 ≤ m ∧ m ≤ 4294967295) (h : ∀ w', Kp [] w w' → R (.returned (.string (S (tagL v m)))) w') : Calls Tryz.prog 97 #[.int .i64 v, .int .i64 m] w R := by
  have H := Lib.hid h
  obtain ⟨v0, v1⟩ := hv
  obtain ⟨m0, m1⟩ := hm
  have e1 := itoaL_len v (by omega) (by omega)
  have e2 := itoaL_len m (by omega) (by omega)
  have kk := Kp.refl [] w
  clear h
  go_enter Tryz.func97, Tryz.ntmps97
  go_wp2_with (go_at_call 14; ((refine rdigits_sgn _ _ (by omega) (by omega) ?_); intro w1 k1; have kk := kk.trans k1))
  exact H.out _ kk
/-- Without a weak tag's two first bytes. -/
def stripW (l : List UInt8) : List UInt8 := if l.take 2 = [87, 47] then l.drop 2 else l
def okC (c : UInt8) : Prop := 33 ≤ c.toNat ∧ c.toNat ≠ 34 ∧ c.toNat ≠ 127
/-- What each byte of a tag is. -/
def Good (n i : Nat) (x : UInt8) : Prop := if i = 0 ∨ i = n - 1 then x.toNat = 34 else okC x
def TagP (t : List UInt8) : Prop := 2 ≤ t.length ∧ ∀ i x, t[i]? = some x → Good t.length i x
noncomputable def tg (l : List UInt8) : Bool := @decide (TagP (stripW l)) (Classical.propDecidable _)
theorem tg_t {l : List UInt8} (h : TagP (stripW l)) : tg l = true := by unfold tg; simp [h]
theorem tg_f {l : List UInt8} (h : ¬ TagP (stripW l)) : tg l = false := by unfold tg; simp [h]
theorem not_tag {t : List UInt8} {i : Nat} {x : UInt8} (hx : t[i]? = some x) (h : ¬ Good t.length i x) : ¬ TagP t := fun hp => h (hp.2 i x hx)
theorem tpre_any {R : Ending → World → Prop} (l : List UInt8) (w : World) (h : R (.returned (.string (S (stripW l)))) w) : Calls Tryz.prog 141 #[.string (S l), .string ⟨#[87, 47]⟩] w R := by
  refine (Tryz.strings_TrimPrefix (S l) (S [87, 47]) w).mono fun e w' ⟨he, hw⟩ => ?_
  subst hw
  rw [S_data, S_data] at he
  have e2 : Lib.trimPrefix l [87, 47] = stripW l := by
    unfold Lib.trimPrefix stripW Lib.hasPrefix
    match l with
    | [] => rfl
    | [x] => simp
    | x :: y :: r =>
      by_cases h1 : x = 87 <;> by_cases h2 : y = 47 <;> simp [List.isPrefixOf, h1, h2]
      · intro h; exact absurd h.symm h2
      · intro h; exact absurd h.symm h1
      · intro h; exact absurd h.symm h1
  rw [e2] at he
  subst he
  exact h
set_option maxHeartbeats 2000000 in
theorem istag_any {R : Ending → World → Prop} (l : List UInt8) (w : World) (hl : l.length ≤ 2000000) (h : ∀ w', Kp [] w w' → R (.returned (.bool (tg l))) w') : Calls Tryz.prog 114 #[.string (S l)] w R := by
  have H := Lib.hid h
  clear h
  have HT := Lib.hid (show tg l = @decide (TagP (stripW l)) (Classical.propDecidable _) from rfl)
  have HY : Hid (TagP (stripW l) → tg l = true) := Lib.hid tg_t
  have HN : Hid (¬ TagP (stripW l) → tg l = false) := Lib.hid tg_f
  have HP := Lib.hid (fun R w h => tpre_any (R := R) l w h)
  have htl : (stripW l).length ≤ 2000000 := by
    unfold stripW
    split
    · simp; omega
    · exact hl
  generalize stripW l = t at *
  generalize tg l = b at *
  clear HT
  by_cases h2 : t.length < 2
  · have hb := HN.out (fun hp => by have := hp.1; omega)
    subst hb
    go_enter Tryz.func114, Tryz.ntmps114
    go_wp2_with (go_at_call 141; (refine HP.out _ _ ?_))
    exact H.out _ (Kp.refl _ _)
  · have h0 : 0 < t.length := by omega
    have hL : t.length - 1 < t.length := by omega
    obtain ⟨x, hx⟩ : ∃ x, t[0]'h0 = x := ⟨_, rfl⟩
    obtain ⟨y, hy⟩ : ∃ y, t[t.length - 1]'hL = y := ⟨_, rfl⟩
    have hx' : t[0]? = some x := by rw [List.getElem?_eq_getElem h0, hx]
    have hy' : t[t.length - 1]? = some y := by rw [List.getElem?_eq_getElem hL, hy]
    have wr1 : ((t.length : Int) - 1).toNat = t.length - 1 := by omega
    by_cases hx34 : x.toNat = 34
    · have b1 : ((x.toNat : Int) != 34) = false := by simp [hx34]
      by_cases hy34 : y.toNat = 34
      · have b2 : ((y.toNat : Int) != 34) = false := by simp [hy34]
        obtain ⟨md, hmd⟩ : ∃ md, (t.take (t.length - 1)).drop 1 = md := ⟨_, rfl⟩
        have hml : md.length = t.length - 2 := by rw [← hmd]; simp; omega
        have HM : Hid (∀ i, md[i]? = if i < t.length - 2 then t[i + 1]? else none) := Lib.hid fun i => by
          rw [← hmd, List.getElem?_drop, List.getElem?_take]
          by_cases hi : i < t.length - 2
          · rw [if_pos hi, if_pos (by omega), Nat.add_comm 1 i]
          · rw [if_neg hi, if_neg (by omega)]
        have hcv := conv_sb w (S md)
        have hr := rd_bytesWorld (N := []) w 5 (S md) rfl (by simp)
        have kb := (Kp.refl [] w).bytesWorld 5 (S md)
        rw [S_data] at hr
        rw [S_size] at hcv
        have HR := Lib.hid hr
        have HK := Lib.hid kb
        generalize Lib.bytesWorld w 5 (S md) = wb at *
        generalize grownCap w md.length 0 5 = cc at *
        have HXY : Hid (x.toNat = 34 ∧ y.toNat = 34 ∧ t[0]? = some x ∧ t[t.length - 1]? = some y) := Lib.hid ⟨hx34, hy34, hx', hy'⟩
        clear hr kb hx' hy'
        go_enter Tryz.func114, Tryz.ntmps114
        go_wp2_with (go_at_call 141; (refine HP.out _ _ ?_))
        go_loop [30] (fun iv => ∃ k : Nat, k ≤ md.length ∧ iv = .int .i64 k ∧ Hid (∀ i z, i < k → md[i]? = some z → okC z)) (fun iv => md.length - (intOf iv).toNat)
        case atStart => exact ⟨0, Nat.zero_le _, rfl, Lib.hid (fun i z h => absurd h (Nat.not_lt_zero i))⟩
        case round =>
          obtain ⟨k, hk, rfl, hok⟩ := hrel
          by_cases hlt : k < md.length
          · obtain ⟨z, hz⟩ : ∃ z, md[k]? = some z := ⟨_, List.getElem?_eq_getElem hlt⟩
            obtain ⟨g, off, hg, _, _, hc⟩ := HR.out (by intro e; have := congrArg List.length e; rw [bts_len] at this; simp at this; subst this; simp at hlt)
            obtain rfl : g = w.heap.size := by injection hg with h; injection h with h _; exact h.symm
            obtain rfl : off = 0 := by injection hg with h; injection h with _ h; exact h.symm
            have hcz := hc k (.int .u8 z.toNat) (by rw [bts_get, hz]; rfl)
            rw [Nat.zero_add] at hcz
            have HZ := Lib.hid hz
            have hzl := z.toNat_lt
            have htz : t[k + 1]? = some z := by
              have h := HM.out k
              rw [hz, if_pos (by omega)] at h
              exact h.symm
            have HG : Hid (¬ okC z → b = false) := Lib.hid (fun h => HN.out (not_tag htz (by unfold Good; rw [if_neg (by omega)]; exact h)))
            clear hc hg hz htz
            by_cases d1 : z.toNat < 33
            · have hb := HG.out (fun h => by unfold okC at h; omega)
              subst hb
              go_wp2
              exact H.out _ HK.out
            · by_cases d2 : z.toNat = 34
              · have e2 : ((z.toNat : Int) == 34) = true := by simp [d2]
                have hb := HG.out (fun h => by unfold okC at h; omega)
                subst hb
                go_wp2
                exact H.out _ HK.out
              · have e2 : ((z.toNat : Int) == 34) = false := by simp; omega
                by_cases d3 : z.toNat = 127
                · have e3 : ((z.toNat : Int) == 127) = true := by simp [d3]
                  have hb := HG.out (fun h => by unfold okC at h; omega)
                  subst hb
                  go_wp2
                  exact H.out _ HK.out
                · have e3 : ((z.toNat : Int) == 127) = false := by simp; omega
                  have HO : Hid (∀ i y, i < k + 1 → md[i]? = some y → okC y) := Lib.hid (fun i y hi hy => by
                    by_cases h : i < k
                    · exact hok.out i y h hy
                    · have : i = k := by omega
                      subst this
                      rw [HZ.out] at hy; injection hy with hy; subst hy
                      exact ⟨by omega, d2, d3⟩)
                  clear d2 d3
                  go_wp2
                  exact ⟨⟨k + 1, by omega, by go_num, HO⟩, by simp [intOf]; omega⟩
          · obtain ⟨q1, q2, q3, q4⟩ := HXY.out
            have hb := HY.out ⟨by omega, fun i z hz => by
              unfold Good
              by_cases h0 : i = 0
              · subst h0; rw [if_pos (.inl rfl)]; rw [q3] at hz; injection hz with hz; subst hz; exact q1
              · by_cases h1 : i = t.length - 1
                · rw [if_pos (.inr h1)]; rw [h1, q4] at hz; injection hz with hz; subst hz; exact q2
                · rw [if_neg (by omega)]
                  have hi : i < t.length := (List.getElem?_eq_some_iff.1 hz).1
                  refine hok.out (i - 1) z (by omega) ?_
                  rw [HM.out, if_pos (by omega), Nat.sub_add_cancel (by omega)]; exact hz⟩
            subst hb
            go_wp2
            exact H.out _ HK.out
      · have b2 : ((y.toNat : Int) != 34) = true := by simp; omega
        have hb := HN.out (not_tag hy' (by unfold Good; rw [if_pos (.inr rfl)]; exact hy34))
        subst hb
        clear hx' hy'
        go_enter Tryz.func114, Tryz.ntmps114
        go_wp2_with (go_at_call 141; (refine HP.out _ _ ?_))
        exact H.out _ (Kp.refl _ _)
    · have b1 : ((x.toNat : Int) != 34) = true := by simp; omega
      have hb := HN.out (not_tag hx' (by unfold Good; rw [if_pos (.inl rfl)]; exact hx34))
      subst hb
      clear hx' hy'
      go_enter Tryz.func114, Tryz.ntmps114
      go_wp2_with (go_at_call 141; (refine HP.out _ _ ?_))
      exact H.out _ (Kp.refl _ _)
set_option maxHeartbeats 2000000 in
theorem rtagw_any {R : Ending → World → Prop} (l : List UInt8) (w : World) (hl : l.length ≤ 2000000) (h : R (.returned (.bool (tg l))) w) : Calls Tryz.prog 181 #[.string (S l)] w R := by
  have H := Lib.hid h
  clear h
  have HY : Hid (TagP (stripW l) → tg l = true) := Lib.hid tg_t
  have HN : Hid (¬ TagP (stripW l) → tg l = false) := Lib.hid tg_f
  have htl : (stripW l).length ≤ 2000000 := by
    unfold stripW
    split
    · simp; omega
    · exact hl
  have hcase : (2 ≤ l.length ∧ l.take 2 = [87, 47] ∧ stripW l = l.drop 2) ∨ ((l.length < 2 ∨ ¬ l.take 2 = [87, 47]) ∧ stripW l = l) := by
    unfold stripW
    by_cases h : l.take 2 = [87, 47]
    · left
      refine ⟨?_, h, by rw [if_pos h]⟩
      have := congrArg List.length h
      simp at this; omega
    · right
      exact ⟨.inr h, by rw [if_neg h]⟩
  obtain ⟨t, ht⟩ : ∃ t, stripW l = t := ⟨_, rfl⟩
  rw [ht] at HY HN htl hcase
  generalize tg l = b at *
  clear ht
  rcases hcase with ⟨c1, c2, rfl⟩ | ⟨c1, rfl⟩
  · have e1 : (l.take 2 == [87, 47]) = true := by simp [c2]
    obtain ⟨t, ht⟩ : ∃ t, l.drop 2 = t := ⟨_, rfl⟩
    rw [ht] at HY HN htl
    clear c2
    go_enter Tryz.func181, Tryz.ntmps181
    go_wp2
    go_loop [3] (fun iv => ∃ k : Nat, k ≤ t.length ∧ iv = .int .i64 k ∧ Hid (∀ i z, i < k → t[i]? = some z → Good t.length i z)) (fun iv => t.length - (intOf iv).toNat)
    case atStart => exact ⟨0, Nat.zero_le _, rfl, Lib.hid (fun i z h => absurd h (Nat.not_lt_zero i))⟩
    case round =>
      obtain ⟨k, hk, rfl, hok⟩ := hrel
      by_cases hlt : k < t.length
      · obtain ⟨z, hz⟩ : ∃ z, t[k]'hlt = z := ⟨_, rfl⟩
        have hzl := z.toNat_lt
        have htz : t[k]? = some z := by rw [List.getElem?_eq_getElem hlt, hz]
        have HG : Hid (¬ Good t.length k z → b = false) := Lib.hid (fun h => HN.out (not_tag htz h))
        have HO : Hid (Good t.length k z → ∀ i y, i < k + 1 → t[i]? = some y → Good t.length i y) := Lib.hid (fun hg i y hi hy => by
          by_cases h : i < k
          · exact hok.out i y h hy
          · have : i = k := by omega
            subst this
            rw [htz] at hy; injection hy with hy; subst hy
            exact hg)
        clear htz
        by_cases he : k = 0 ∨ k = t.length - 1
        · by_cases d2 : z.toNat = 34
          · have e2 : ((z.toNat : Int) == 34) = true := by simp [d2]
            have e3 : ((z.toNat : Int) == 127) = false := by simp [d2]
            have HO2 := Lib.hid (HO.out (by unfold Good; rw [if_pos he]; exact d2))
            have he2 : k = 0 ∨ (¬ k = 0 ∧ k = t.length - 1) := by omega
            clear he
            rcases he2 with h | ⟨h, h'⟩
            · subst h
              go_wp2
              all_goals exact ⟨⟨1, by omega, rfl, HO2⟩, by simp [intOf]; omega⟩
            · have f1 : ((k : Int) == 0) = false := by simp [h]
              have f2 : (t.length : Int) - 1 = k := by omega
              clear h'
              go_wp2
              all_goals exact ⟨⟨k + 1, by omega, by go_num, HO2⟩, by simp [intOf]; omega⟩
          · have e2 : ((z.toNat : Int) == 34) = false := by simp; omega
            have hb := HG.out (by unfold Good; rw [if_pos he]; exact d2)
            subst hb
            have he2 : k = 0 ∨ (¬ k = 0 ∧ k = t.length - 1) := by omega
            clear he
            rcases he2 with h | ⟨h, h'⟩
            · subst h
              go_wp2
              all_goals exact H.out
            · have f1 : ((k : Int) == 0) = false := by simp [h]
              have f2 : (t.length : Int) - 1 = k := by omega
              clear h'
              go_wp2
              all_goals exact H.out
        · have f1 : ((k : Int) == 0) = false := by simp; omega
          have f2 : ((k : Int) == (t.length : Int) - 1) = false := by simp; omega
          by_cases d2 : z.toNat = 34
          · have e2 : ((z.toNat : Int) == 34) = true := by simp [d2]
            have hb := HG.out (by unfold Good; rw [if_neg he]; unfold okC; omega)
            subst hb
            go_wp2
            all_goals exact H.out
          · have e2 : ((z.toNat : Int) == 34) = false := by simp; omega
            by_cases d1 : z.toNat ≤ 32
            · have hb := HG.out (by unfold Good; rw [if_neg he]; unfold okC; omega)
              subst hb
              go_wp2
              all_goals exact H.out
            · by_cases d3 : z.toNat = 127
              · have e3 : ((z.toNat : Int) == 127) = true := by simp [d3]
                have hb := HG.out (by unfold Good; rw [if_neg he]; unfold okC; omega)
                subst hb
                go_wp2
                all_goals exact H.out
              · have e3 : ((z.toNat : Int) == 127) = false := by simp; omega
                have HO2 := Lib.hid (HO.out (by unfold Good; rw [if_neg he]; exact ⟨by omega, d2, d3⟩))
                go_wp2
                all_goals exact ⟨⟨k + 1, by omega, by go_num, HO2⟩, by simp [intOf]; omega⟩
      · by_cases h2 : 2 ≤ t.length
        · have hb := HY.out ⟨h2, fun i z hz => hok.out i z (by have := (List.getElem?_eq_some_iff.1 hz).1; omega) hz⟩
          subst hb
          go_wp2
          exact rcast H.out (congrArg Value.bool (by simp <;> omega))
        · have hb := HN.out (fun hp => h2 hp.1)
          subst hb
          go_wp2
          exact rcast H.out (congrArg Value.bool (by simp <;> omega))
  · have c2 : t.length < 2 ∨ (¬ t.length < 2 ∧ (t.take 2 == [87, 47]) = false) := by
      by_cases h : t.length < 2
      · exact .inl h
      · exact .inr ⟨h, by simpa using c1.resolve_left h⟩
    clear c1
    rcases c2 with c2 | ⟨c2, c3⟩
    · go_enter Tryz.func181, Tryz.ntmps181
      go_wp2
      go_loop [3] (fun iv => ∃ k : Nat, k ≤ t.length ∧ iv = .int .i64 k ∧ Hid (∀ i z, i < k → t[i]? = some z → Good t.length i z)) (fun iv => t.length - (intOf iv).toNat)
      case atStart => exact ⟨0, Nat.zero_le _, rfl, Lib.hid (fun i z h => absurd h (Nat.not_lt_zero i))⟩
      case round =>
        obtain ⟨k, hk, rfl, hok⟩ := hrel
        by_cases hlt : k < t.length
        · obtain ⟨z, hz⟩ : ∃ z, t[k]'hlt = z := ⟨_, rfl⟩
          have hzl := z.toNat_lt
          have htz : t[k]? = some z := by rw [List.getElem?_eq_getElem hlt, hz]
          have HG : Hid (¬ Good t.length k z → b = false) := Lib.hid (fun h => HN.out (not_tag htz h))
          have HO : Hid (Good t.length k z → ∀ i y, i < k + 1 → t[i]? = some y → Good t.length i y) := Lib.hid (fun hg i y hi hy => by
            by_cases h : i < k
            · exact hok.out i y h hy
            · have : i = k := by omega
              subst this
              rw [htz] at hy; injection hy with hy; subst hy
              exact hg)
          clear htz
          by_cases he : k = 0 ∨ k = t.length - 1
          · by_cases d2 : z.toNat = 34
            · have e2 : ((z.toNat : Int) == 34) = true := by simp [d2]
              have e3 : ((z.toNat : Int) == 127) = false := by simp [d2]
              have HO2 := Lib.hid (HO.out (by unfold Good; rw [if_pos he]; exact d2))
              have he2 : k = 0 ∨ (¬ k = 0 ∧ k = t.length - 1) := by omega
              clear he
              rcases he2 with h | ⟨h, h'⟩
              · subst h
                go_wp2
                all_goals exact ⟨⟨1, by omega, rfl, HO2⟩, by simp [intOf]; omega⟩
              · have f1 : ((k : Int) == 0) = false := by simp [h]
                have f2 : (t.length : Int) - 1 = k := by omega
                clear h'
                go_wp2
                all_goals exact ⟨⟨k + 1, by omega, by go_num, HO2⟩, by simp [intOf]; omega⟩
            · have e2 : ((z.toNat : Int) == 34) = false := by simp; omega
              have hb := HG.out (by unfold Good; rw [if_pos he]; exact d2)
              subst hb
              have he2 : k = 0 ∨ (¬ k = 0 ∧ k = t.length - 1) := by omega
              clear he
              rcases he2 with h | ⟨h, h'⟩
              · subst h
                go_wp2
                all_goals exact H.out
              · have f1 : ((k : Int) == 0) = false := by simp [h]
                have f2 : (t.length : Int) - 1 = k := by omega
                clear h'
                go_wp2
                all_goals exact H.out
          · have f1 : ((k : Int) == 0) = false := by simp; omega
            have f2 : ((k : Int) == (t.length : Int) - 1) = false := by simp; omega
            by_cases d2 : z.toNat = 34
            · have e2 : ((z.toNat : Int) == 34) = true := by simp [d2]
              have hb := HG.out (by unfold Good; rw [if_neg he]; unfold okC; omega)
              subst hb
              go_wp2
              all_goals exact H.out
            · have e2 : ((z.toNat : Int) == 34) = false := by simp; omega
              by_cases d1 : z.toNat ≤ 32
              · have hb := HG.out (by unfold Good; rw [if_neg he]; unfold okC; omega)
                subst hb
                go_wp2
                all_goals exact H.out
              · by_cases d3 : z.toNat = 127
                · have e3 : ((z.toNat : Int) == 127) = true := by simp [d3]
                  have hb := HG.out (by unfold Good; rw [if_neg he]; unfold okC; omega)
                  subst hb
                  go_wp2
                  all_goals exact H.out
                · have e3 : ((z.toNat : Int) == 127) = false := by simp; omega
                  have HO2 := Lib.hid (HO.out (by unfold Good; rw [if_neg he]; exact ⟨by omega, d2, d3⟩))
                  go_wp2
                  all_goals exact ⟨⟨k + 1, by omega, by go_num, HO2⟩, by simp [intOf]; omega⟩
        · by_cases h2 : 2 ≤ t.length
          · have hb := HY.out ⟨h2, fun i z hz => hok.out i z (by have := (List.getElem?_eq_some_iff.1 hz).1; omega) hz⟩
            subst hb
            go_wp2
            exact rcast H.out (congrArg Value.bool (by simp <;> omega))
          · have hb := HN.out (fun hp => h2 hp.1)
            subst hb
            go_wp2
            exact rcast H.out (congrArg Value.bool (by simp <;> omega))
    · go_enter Tryz.func181, Tryz.ntmps181
      go_wp2
      go_loop [3] (fun iv => ∃ k : Nat, k ≤ t.length ∧ iv = .int .i64 k ∧ Hid (∀ i z, i < k → t[i]? = some z → Good t.length i z)) (fun iv => t.length - (intOf iv).toNat)
      case atStart => exact ⟨0, Nat.zero_le _, rfl, Lib.hid (fun i z h => absurd h (Nat.not_lt_zero i))⟩
      case round =>
        obtain ⟨k, hk, rfl, hok⟩ := hrel
        by_cases hlt : k < t.length
        · obtain ⟨z, hz⟩ : ∃ z, t[k]'hlt = z := ⟨_, rfl⟩
          have hzl := z.toNat_lt
          have htz : t[k]? = some z := by rw [List.getElem?_eq_getElem hlt, hz]
          have HG : Hid (¬ Good t.length k z → b = false) := Lib.hid (fun h => HN.out (not_tag htz h))
          have HO : Hid (Good t.length k z → ∀ i y, i < k + 1 → t[i]? = some y → Good t.length i y) := Lib.hid (fun hg i y hi hy => by
            by_cases h : i < k
            · exact hok.out i y h hy
            · have : i = k := by omega
              subst this
              rw [htz] at hy; injection hy with hy; subst hy
              exact hg)
          clear htz
          by_cases he : k = 0 ∨ k = t.length - 1
          · by_cases d2 : z.toNat = 34
            · have e2 : ((z.toNat : Int) == 34) = true := by simp [d2]
              have e3 : ((z.toNat : Int) == 127) = false := by simp [d2]
              have HO2 := Lib.hid (HO.out (by unfold Good; rw [if_pos he]; exact d2))
              have he2 : k = 0 ∨ (¬ k = 0 ∧ k = t.length - 1) := by omega
              clear he
              rcases he2 with h | ⟨h, h'⟩
              · subst h
                go_wp2
                all_goals exact ⟨⟨1, by omega, rfl, HO2⟩, by simp [intOf]; omega⟩
              · have f1 : ((k : Int) == 0) = false := by simp [h]
                have f2 : (t.length : Int) - 1 = k := by omega
                clear h'
                go_wp2
                all_goals exact ⟨⟨k + 1, by omega, by go_num, HO2⟩, by simp [intOf]; omega⟩
            · have e2 : ((z.toNat : Int) == 34) = false := by simp; omega
              have hb := HG.out (by unfold Good; rw [if_pos he]; exact d2)
              subst hb
              have he2 : k = 0 ∨ (¬ k = 0 ∧ k = t.length - 1) := by omega
              clear he
              rcases he2 with h | ⟨h, h'⟩
              · subst h
                go_wp2
                all_goals exact H.out
              · have f1 : ((k : Int) == 0) = false := by simp [h]
                have f2 : (t.length : Int) - 1 = k := by omega
                clear h'
                go_wp2
                all_goals exact H.out
          · have f1 : ((k : Int) == 0) = false := by simp; omega
            have f2 : ((k : Int) == (t.length : Int) - 1) = false := by simp; omega
            by_cases d2 : z.toNat = 34
            · have e2 : ((z.toNat : Int) == 34) = true := by simp [d2]
              have hb := HG.out (by unfold Good; rw [if_neg he]; unfold okC; omega)
              subst hb
              go_wp2
              all_goals exact H.out
            · have e2 : ((z.toNat : Int) == 34) = false := by simp; omega
              by_cases d1 : z.toNat ≤ 32
              · have hb := HG.out (by unfold Good; rw [if_neg he]; unfold okC; omega)
                subst hb
                go_wp2
                all_goals exact H.out
              · by_cases d3 : z.toNat = 127
                · have e3 : ((z.toNat : Int) == 127) = true := by simp [d3]
                  have hb := HG.out (by unfold Good; rw [if_neg he]; unfold okC; omega)
                  subst hb
                  go_wp2
                  all_goals exact H.out
                · have e3 : ((z.toNat : Int) == 127) = false := by simp; omega
                  have HO2 := Lib.hid (HO.out (by unfold Good; rw [if_neg he]; exact ⟨by omega, d2, d3⟩))
                  go_wp2
                  all_goals exact ⟨⟨k + 1, by omega, by go_num, HO2⟩, by simp [intOf]; omega⟩
        · by_cases h2 : 2 ≤ t.length
          · have hb := HY.out ⟨h2, fun i z hz => hok.out i z (by have := (List.getElem?_eq_some_iff.1 hz).1; omega) hz⟩
            subst hb
            go_wp2
            exact rcast H.out (congrArg Value.bool (by simp <;> omega))
          · have hb := HN.out (fun hp => h2 hp.1)
            subst hb
            go_wp2
            exact rcast H.out (congrArg Value.bool (by simp <;> omega))
end
end Go.Proofs.YtnmafahbdfilcaaGreatDoor
