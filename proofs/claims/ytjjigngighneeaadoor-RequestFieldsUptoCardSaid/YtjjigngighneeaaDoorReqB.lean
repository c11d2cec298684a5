/- The walks of package request: the first line, the known methods. -/
import Derived.Test.YtjjigngighneeaaDoorReqP
import Derived.Test.YtjjigngighneeaaDoorDec
import Derived.Test.YtjjigngighneeaaDoorQuiet
import Derived.BigQuiet
import Derived.IntWalk
namespace Go.Proofs.YtjjigngighneeaaDoor
open Go.RowKit Go.Shelf
set_option linter.unusedVariables false
set_option linter.unusedSimpArgs false
set_option maxRecDepth 100000

theorem rdigit_any {R : Ending → World → Prop} (c : UInt8) (w : World) (h : R (.returned (.bool (digB c))) w) : Calls Tryd.prog 96 #[.int .u8 c.toNat] w R := by
  have H := Lib.hid h
  clear h
  go_enter Tryd.func96, Tryd.ntmps96
  go_wp2
  all_goals (refine rcast H.out (congrArg Value.bool ?_); rw [Bool.eq_iff_iff]; simp [digB] <;> omega)
theorem http_pre (v : List UInt8) : Lib.hasPrefix v [72, 84, 84, 80, 47] = (v.take 5 == httpL) := by
  unfold Lib.hasPrefix httpL
  match v with
  | [] => rfl
  | [a] => simp [List.isPrefixOf]
  | [a, b] => simp [List.isPrefixOf]
  | [a, b, c] => simp [List.isPrefixOf]
  | [a, b, c, d] => simp [List.isPrefixOf]
  | a :: b :: c :: d :: f :: r =>
    rw [Bool.eq_iff_iff]
    simp [List.isPrefixOf]
    constructor
    · rintro ⟨rfl, rfl, rfl, rfl, rfl⟩; exact ⟨rfl, rfl, rfl, rfl, rfl⟩
    · rintro ⟨rfl, rfl, rfl, rfl, rfl⟩; exact ⟨rfl, rfl, rfl, rfl, rfl⟩
theorem hpre_any {R : Ending → World → Prop} (v : List UInt8) (w : World) (h : R (.returned (.bool (v.take 5 == httpL))) w) : Calls Tryd.prog 134 #[.string (S v), .string ⟨#[72, 84, 84, 80, 47]⟩] w R := by
  refine (Tryd.stringslite_HasPrefix (S v) (S [72, 84, 84, 80, 47]) w).mono fun e w' ⟨he, hw⟩ => ?_
  rw [S_data, S_data, http_pre] at he
  subst he; subst hw
  exact h
theorem scpre_yes {R : Ending → World → Prop} (v : List UInt8) (w : World) (hv : v.take 5 = httpL) (h : R (.returned (.tuple #[.string (S (v.drop 5)), .bool true])) w) :
    Calls Tryd.prog 123 #[.string (S v), .string ⟨#[72, 84, 84, 80, 47]⟩] w R := by
  have H := Lib.hid h
  have HB := Lib.hid (show (v.take 5 == httpL) = true by simpa using hv)
  have hl : 5 ≤ v.length := by
    have := congrArg List.length hv
    simp [httpL] at this; omega
  have ht : (v.drop 5).take (v.length - 5) = v.drop 5 := List.take_of_length_le (by simp)
  clear h hv
  go_enter Tryd.func123, Tryd.ntmps123
  go_wp2_with (go_at_call 134; (refine hpre_any v _ ?_); rw [HB.out])
  exact H.out
theorem scpre_no {R : Ending → World → Prop} (v : List UInt8) (w : World) (hv : ¬ v.take 5 = httpL) (h : R (.returned (.tuple #[.string (S v), .bool false])) w) :
    Calls Tryd.prog 123 #[.string (S v), .string ⟨#[72, 84, 84, 80, 47]⟩] w R := by
  have H := Lib.hid h
  have HB := Lib.hid (show (v.take 5 == httpL) = false by simpa using hv)
  clear h hv
  go_enter Tryd.func123, Tryd.ntmps123
  go_wp2_with (go_at_call 134; (refine hpre_any v _ ?_); rw [HB.out])
  exact H.out
theorem cpre_yes {R : Ending → World → Prop} (v : List UInt8) (w : World) (hv : v.take 5 = httpL) (h : R (.returned (.tuple #[.string (S (v.drop 5)), .bool true])) w) :
    Calls Tryd.prog 95 #[.string (S v), .string ⟨#[72, 84, 84, 80, 47]⟩] w R := by
  have H := Lib.hid h
  have HV := Lib.hid hv
  clear h hv
  go_enter Tryd.func95, Tryd.ntmps95
  go_wp2_with (refine scpre_yes v _ HV.out ?_)
  exact H.out
theorem cpre_no {R : Ending → World → Prop} (v : List UInt8) (w : World) (hv : ¬ v.take 5 = httpL) (h : R (.returned (.tuple #[.string (S v), .bool false])) w) :
    Calls Tryd.prog 95 #[.string (S v), .string ⟨#[72, 84, 84, 80, 47]⟩] w R := by
  have H := Lib.hid h
  have HV := Lib.hid hv
  clear h hv
  go_enter Tryd.func95, Tryd.ntmps95
  go_wp2_with (refine scpre_no v _ HV.out ?_)
  exact H.out
def firstV : Option (List UInt8 × List UInt8 × UInt8 × UInt8) → Value
  | none => .tuple #[.string (S []), .string (S []), .string (S []), .bool false]
  | some (m, t, a, b) => .tuple #[.string (S m), .string (S t), .string (S [a, b]), .bool true]
theorem first_not {l : List UInt8} (h : (spl 32 l).length ≠ 3) : firstL l = none := by
  unfold firstL
  split
  · rename_i e; rw [e] at h; exact absurd rfl h
  · rfl
theorem first_is {l m t v : List UInt8} (h : spl 32 l = [m, t, v]) : firstL l = firstP m t v := by
  unfold firstL; rw [h]
theorem firstP_tok {m t v : List UInt8} (h : tokB m = false) : firstP m t v = none := by
  unfold firstP; rw [if_neg (by simp [h])]
theorem firstP_nil {m v : List UInt8} : firstP m [] v = none := by
  unfold firstP; rw [if_neg (by simp)]
theorem firstP_seen {m t v : List UInt8} (h : t.all seenB = false) : firstP m t v = none := by
  unfold firstP; rw [if_neg (by simp [h])]
theorem firstP_ver {m t v : List UInt8} (h : tokB m = true) (h1 : t ≠ []) (h2 : t.all seenB = true) : firstP m t v = (verL v).map fun x => (m, t, x.1, x.2) := by
  unfold firstP; rw [if_pos ⟨h, h1, h2⟩]
theorem ver3_len {v : List UInt8} (h : v.length ≠ 3) : ver3 v = none := by
  unfold ver3
  split
  · exact absurd rfl h
  · rfl
theorem rows3 {l : List (List UInt8)} (h : l.length = 3) : ∃ a b c, l = [a, b, c] := by
  match l, h with
  | [a, b, c], _ => exact ⟨a, b, c, rfl⟩
theorem bytes3 {l : List UInt8} (h : l.length = 3) : ∃ a b c, l = [a, b, c] := by
  match l, h with
  | [a, b, c], _ => exact ⟨a, b, c, rfl⟩
set_option maxHeartbeats 4000000 in
theorem first_any {R : Ending → World → Prop} (l : List UInt8) (w : World) (hl : l.length ≤ 100000) (hm : Ml w) (h : ∀ w', Kp [] w w' → R (.returned (firstV (firstL l))) w') : Calls Tryd.prog 73 #[.string (S l)] w R := by
  have H := Lib.hid h
  clear h
  by_cases h3 : (spl 32 l).length = 3
  · obtain ⟨m, t, v, hs⟩ := rows3 h3
    have HM := spl_mem_len 32 l
    rw [hs] at HM
    have hml := HM m (by simp)
    have htl := HM t (by simp)
    have hvl := HM v (by simp)
    have HF := Lib.hid (first_is hs)
    have HSP : Hid (∀ (R : Ending → World → Prop) (w1 : World), Ml w1 → (∀ g w', w1.heap.size ≤ g → Bk w' g 9 (strs [m, t, v]) → Kp [] w1 w' → R (.returned (.slice (some ⟨g, 0, none⟩) 3 3)) w') → Calls Tryd.prog 81 #[.string (S l), .string ⟨#[32]⟩] w1 R) := Lib.hid (fun R w1 h1 h => split_any l 32 h1 (by omega) (by rw [hs]; exact h))
    clear HM hs h3
    cases htok : tokB m
    · have HN := Lib.hid (HF.out.trans (firstP_tok htok))
      have HT := Lib.hid htok
      clear htok HF
      go_enter Tryd.func73, Tryd.ntmps73
      go_wp2_with (first | (go_at_call 81; ((refine HSP.out _ _ hm ?_); intro g w1 hg hb k1; have hc0 := (hb.cell 0).trans (show _ = some (Value.string (S m)) from rfl); skip)) | (go_at_call 94; ((refine token_any m _ (by omega) ?_); rw [HT.out])))
      exact bodyPost_ret (v := firstV none) (by simp [results, Tryd.results73, go_sem]; rfl) rfl (HN.out ▸ H.out _ (k1))
    · have HT := Lib.hid htok
      by_cases htn : t = []
      · subst htn
        have HN := Lib.hid (HF.out.trans firstP_nil)
        clear HF htok
        go_enter Tryd.func73, Tryd.ntmps73
        go_wp2_with (first | (go_at_call 81; ((refine HSP.out _ _ hm ?_); intro g w1 hg hb k1; have hc0 := (hb.cell 0).trans (show _ = some (Value.string (S m)) from rfl); have hc1 := (hb.cell 1).trans (show _ = some (Value.string (S ([] : List UInt8))) from rfl); have hc2 := (hb.cell 2).trans (show _ = some (Value.string (S v)) from rfl))) | (go_at_call 94; ((refine token_any m _ (by omega) ?_); rw [HT.out])))
        exact bodyPost_ret (v := firstV none) (by simp [results, Tryd.results73, go_sem]; rfl) rfl (HN.out ▸ H.out _ (k1))
      · have bt : t.isEmpty = false := by simpa using htn
        have HTN := Lib.hid htn
        clear htok htn
        go_enter Tryd.func73, Tryd.ntmps73
        go_wp2_with (first | (go_at_call 81; ((refine HSP.out _ _ hm ?_); intro g w1 hg hb k1; have hc0 := (hb.cell 0).trans (show _ = some (Value.string (S m)) from rfl); have hc1 := (hb.cell 1).trans (show _ = some (Value.string (S t)) from rfl); have hc2 := (hb.cell 2).trans (show _ = some (Value.string (S v)) from rfl))) | (go_at_call 94; ((refine token_any m _ (by omega) ?_); rw [HT.out])))
        go_loop [7, 32] (fun _ iv => ∃ k : Nat, k ≤ t.length ∧ iv = .int .i64 k ∧ Hid ((t.take k).all seenB = true)) (fun _ iv => t.length - (intOf iv).toNat)
        case atStart => exact ⟨0, Nat.zero_le _, rfl, Lib.hid rfl⟩
        case round =>
          obtain ⟨k, hk, rfl, ha⟩ := hrel
          by_cases hlt : k < t.length
          · obtain ⟨x, hx⟩ : ∃ x, t[k]'hlt = x := ⟨_, rfl⟩
            have hxl := x.toNat_lt
            have HS := Lib.hid (all_snoc' t seenB k hlt)
            by_cases hs1 : x.toNat < 33
            · have HN : Hid (firstL l = none) := Lib.hid (by
                rw [HF.out]
                refine firstP_seen ?_
                rw [List.all_eq_false]; exact ⟨x, hx ▸ List.getElem_mem hlt, by simp [seenB]; omega⟩)
              go_wp2
              exact bodyPost_ret (v := firstV none) (by simp [results, Tryd.results73, go_sem]; rfl) rfl (HN.out ▸ H.out _ (k1))
            · by_cases hs2 : 126 < x.toNat
              · have HN : Hid (firstL l = none) := Lib.hid (by
                  rw [HF.out]
                  refine firstP_seen ?_
                  rw [List.all_eq_false]; exact ⟨x, hx ▸ List.getElem_mem hlt, by simp [seenB]; omega⟩)
                go_wp2
                exact bodyPost_ret (v := firstV none) (by simp [results, Tryd.results73, go_sem]; rfl) rfl (HN.out ▸ H.out _ (k1))
              · have HX : Hid ((t.take (k + 1)).all seenB = true) := Lib.hid (by
                  rw [HS.out, ha.out, hx]; simp [seenB]; omega)
                go_wp2
                go_round
                case rel => exact ⟨k + 1, by omega, by go_num, HX⟩
                case measure => simp [intOf]; omega
          · have HA : Hid (t.all seenB = true) := Lib.hid (by
              have := ha.out
              rwa [List.take_of_length_le (by omega)] at this)
            have HV := Lib.hid (HF.out.trans (firstP_ver HT.out HTN.out HA.out))
            clear HF ha
            by_cases hv : v.take 5 = httpL
            · obtain ⟨u, hu⟩ : ∃ u, v.drop 5 = u := ⟨_, rfl⟩
              have HV2 : Hid (firstL l = (ver3 u).map fun x => (m, t, x.1, x.2)) := Lib.hid (by rw [HV.out, verL, if_pos hv, hu])
              have HC : Hid (∀ (R : Ending → World → Prop) (w : World), R (.returned (.tuple #[.string (S u), .bool true])) w → Calls Tryd.prog 95 #[.string (S v), .string ⟨#[72, 84, 84, 80, 47]⟩] w R) := Lib.hid (fun R w h => cpre_yes v w hv (by rw [hu]; exact h))
              clear hv hu HV
              by_cases h3 : u.length = 3
              · obtain ⟨a, d, b, rfl⟩ := bytes3 h3
                have hdl := d.toNat_lt
                clear h3
                cases ha : digB a
                · have HN : Hid (firstL l = none) := Lib.hid (by rw [HV2.out, ver3, if_neg (by simp [ha])]; rfl)
                  have HDA := Lib.hid ha
                  clear ha
                  go_wp2_with (first | (go_at_call 95; (refine HC.out _ _ ?_)) | (go_at_call 96; ((refine rdigit_any a _ ?_); rw [HDA.out])))
                  exact bodyPost_ret (v := firstV none) (by simp [results, Tryd.results73, go_sem]; rfl) rfl (HN.out ▸ H.out _ (k1))
                · have HDA := Lib.hid ha
                  clear ha
                  by_cases hd : d.toNat = 46
                  · obtain rfl : d = 46 := UInt8.toNat_inj.1 hd
                    cases hb2 : digB b
                    · have HN : Hid (firstL l = none) := Lib.hid (by rw [HV2.out, ver3, if_neg (by simp [hb2])]; rfl)
                      have HDB := Lib.hid hb2
                      clear hb2 hd
                      go_wp2_with (first | (go_at_call 95; (refine HC.out _ _ ?_)) | (go_at_call 96; ((with_reducible refine rdigit_any a _ ?_); rw [HDA.out])) | (go_at_call 96; ((with_reducible refine rdigit_any b _ ?_); rw [HDB.out])))
                      exact bodyPost_ret (v := firstV none) (by simp [results, Tryd.results73, go_sem]; rfl) rfl (HN.out ▸ H.out _ (k1))
                    · have HN : Hid (firstL l = some (m, t, a, b)) := Lib.hid (by rw [HV2.out, ver3, if_pos ⟨HDA.out, rfl, hb2⟩]; rfl)
                      have HDB := Lib.hid hb2
                      clear hb2 hd
                      go_wp2_with (first | (go_at_call 95; (refine HC.out _ _ ?_)) | (go_at_call 96; ((with_reducible refine rdigit_any a _ ?_); rw [HDA.out])) | (go_at_call 96; ((with_reducible refine rdigit_any b _ ?_); rw [HDB.out])))
                      go_quiet (fail)
                      go_wp2
                      exact bodyPost_ret (v := firstV (some (m, t, a, b))) (by simp [results, Tryd.results73, go_sem, firstV]) rfl (HN.out ▸ H.out _ (k1.drewN _))
                  · have e46 : ((d.toNat : Int) != 46) = true := by simp; omega
                    have HN : Hid (firstL l = none) := Lib.hid (by rw [HV2.out, ver3, if_neg (by rintro ⟨_, rfl, _⟩; exact hd rfl)]; rfl)
                    clear hd
                    go_wp2_with (first | (go_at_call 95; (refine HC.out _ _ ?_)) | (go_at_call 96; ((refine rdigit_any a _ ?_); rw [HDA.out])))
                    exact bodyPost_ret (v := firstV none) (by simp [results, Tryd.results73, go_sem]; rfl) rfl (HN.out ▸ H.out _ (k1))
              · have HN : Hid (firstL l = none) := Lib.hid (by rw [HV2.out, ver3_len h3]; rfl)
                have e3 : ((u.length : Int) != 3) = true := by simp; omega
                clear h3
                go_wp2_with (go_at_call 95; (refine HC.out _ _ ?_))
                exact bodyPost_ret (v := firstV none) (by simp [results, Tryd.results73, go_sem]; rfl) rfl (HN.out ▸ H.out _ (k1))
            · have HN : Hid (firstL l = none) := Lib.hid (by rw [HV.out, verL, if_neg hv]; rfl)
              have HC : Hid (∀ (R : Ending → World → Prop) (w : World), R (.returned (.tuple #[.string (S v), .bool false])) w → Calls Tryd.prog 95 #[.string (S v), .string ⟨#[72, 84, 84, 80, 47]⟩] w R) := Lib.hid (fun R w h => cpre_no v w hv h)
              clear hv
              go_wp2_with (go_at_call 95; (refine HC.out _ _ ?_))
              exact bodyPost_ret (v := firstV none) (by simp [results, Tryd.results73, go_sem]; rfl) rfl (HN.out ▸ H.out _ (k1))
  · have HN := Lib.hid (first_not h3)
    have e3 : (((spl 32 l).length : Int) != 3) = true := by simp; omega
    clear h3
    go_enter Tryd.func73, Tryd.ntmps73
    go_wp2_with (go_at_call 81; ((refine split_any l 32 hm (by omega) ?_); intro g w1 hg hb k1))
    exact bodyPost_ret (v := firstV none) (by simp [results, Tryd.results73, go_sem]; rfl) rfl (HN.out ▸ H.out _ k1)
theorem known_any {R : Ending → World → Prop} (m : List UInt8) (w : World) (h : R (.returned (.bool (methods.contains m))) w) : Calls Tryd.prog 76 #[.string (S m)] w R := by
  have H := Lib.hid h
  clear h
  go_enter Tryd.func76, Tryd.ntmps76
  go_wp2
  all_goals (refine rcast H.out (congrArg Value.bool ?_))
  all_goals (simp_all [methods])
end Go.Proofs.YtjjigngighneeaaDoor
