/- cond.Ranged of any request. Package ranges: the spans of a range set. -/
import Derived.Test.YtnmafahbdfilcaaGreatDoorPC19
import Derived.Test.YtnmafahbdfilcaaGreatDoorPC5
import Derived.Test.YtnmafahbdfilcaaGreatDoorPC9
namespace Go.Proofs.YtnmafahbdfilcaaGreatDoor
/-! ### cond.Ranged of any request. -/
section
open Go.RowKit Go.Shelf
set_option linter.unusedVariables false
set_option linter.unusedSimpArgs false
set_option maxRecDepth 100000
/-- Is a text the date of a second? -/
noncomputable def toldM (mt : Int) (a : List UInt8) : Bool := by
  classical exact if mayB mt = true ∧ Told mt a then true else false
noncomputable def rangedM (r : Req) (v mt : Int) : Bool := (getF r.fs rgL).2 && (r.m == [71, 69, 84]) && (!(getF r.fs irL).2 || ((allF r.fs irL == tagL v mt) || toldM mt (allF r.fs irL)))
section
variable {R : Ending → World → Prop} {w : World}
set_option maxHeartbeats 8000000 in
theorem ranged_any (r : Req) (v mt : Int) {A : Option Addr} {c : Nat} (hr : Rd w [] A (r.fs.flatMap fldC)) (hn : r.fs.length ≤ 2000) (hc : r.fs.length ≤ c) (hv : 0 ≤ v ∧ v ≤ 9223372036854775807) (hmt : 0 ≤ mt ∧ mt ≤ 9223372036854775807) (hw : Lw w) (hsz : (allF r.fs irL).length ≤ 10000000)
    (h : ∀ w', Kp [] w w' → R (.returned (.bool (rangedM r v mt))) w') :
    Calls Tryz.prog 44 #[.agg #[.string (S r.m), .string (S r.t), .int .i64 r.minor, .slice A r.fs.length c, .bool r.close], .int .i64 v, .int .i64 mt] w R := by
  have H := Lib.hid h
  have HR := Lib.hid hr
  unfold rangedM at H
  obtain ⟨t, ht⟩ : ∃ t, tagL v mt = t := ⟨_, rfl⟩
  obtain ⟨gr, ir, hgr⟩ : ∃ x y, getF r.fs rgL = (x, y) := ⟨_, _, rfl⟩
  obtain ⟨gi, ii, hgi⟩ : ∃ x y, getF r.fs irL = (x, y) := ⟨_, _, rfl⟩
  obtain ⟨ai, hai⟩ : ∃ x, allF r.fs irL = x := ⟨_, rfl⟩
  obtain ⟨q1, hq1⟩ : ∃ x, (r.m == [71, 69, 84]) = x := ⟨_, rfl⟩
  obtain ⟨q2, hq2⟩ : ∃ x, (ai == t) = x := ⟨_, rfl⟩
  obtain ⟨tm, htm⟩ : ∃ x, toldM mt ai = x := ⟨_, rfl⟩
  rw [ht, hgr, hgi, hai, hq1, hq2, htm] at H
  have HT : Hid (∀ (R : Ending → World → Prop) (W : World), Kp [] w W → (∀ w', Kp [] W w' → R (.returned (.string (S t))) w') → Calls Tryz.prog 63 #[.int .i64 v, .int .i64 mt] W R) := Lib.hid (fun R W k h => tag_wide v mt W hv hmt (hw.kp k) (by rw [ht]; exact h))
  have HGr : Hid (∀ (R : Ending → World → Prop) (w1 : World), Kp [] w w1 → (∀ w', Kp [] w1 w' → R (.returned (.tuple #[.string (S gr), .bool ir])) w') → Calls Tryz.prog 64 #[.agg #[.string (S r.m), .string (S r.t), .int .i64 r.minor, .slice A r.fs.length c, .bool r.close], .string ⟨rgL.toArray⟩] w1 R) := Lib.hid (fun R w1 k1 h => get_any r.fs rgL r.m r.t r.minor r.close w1 (HR.out.kp k1 (by simp)) (by omega) hc (by rw [hgr]; exact h))
  have HGi : Hid (∀ (R : Ending → World → Prop) (w1 : World), Kp [] w w1 → (∀ w', Kp [] w1 w' → R (.returned (.tuple #[.string (S gi), .bool ii])) w') → Calls Tryz.prog 64 #[.agg #[.string (S r.m), .string (S r.t), .int .i64 r.minor, .slice A r.fs.length c, .bool r.close], .string ⟨irL.toArray⟩] w1 R) := Lib.hid (fun R w1 k1 h => get_any r.fs irL r.m r.t r.minor r.close w1 (HR.out.kp k1 (by simp)) (by omega) hc (by rw [hgi]; exact h))
  have HAi : Hid (∀ (R : Ending → World → Prop) (w1 : World), Kp [] w w1 → (∀ w', Kp [] w1 w' → R (.returned (.string (S ai))) w') → Calls Tryz.prog 46 #[.agg #[.string (S r.m), .string (S r.t), .int .i64 r.minor, .slice A r.fs.length c, .bool r.close], .string ⟨irL.toArray⟩] w1 R) := Lib.hid (fun R w1 k1 h => all_any' r.fs irL r.m r.t r.minor r.close w1 (HR.out.kp k1 (by simp)) (by omega) (by omega) (by rw [hai]; exact h))
  have HP : Hid (∀ (R : Ending → World → Prop) (W : World), Kp [] w W → (∀ D e w', Kp [] W w' → Hid (tm = ((e == 0) && (ai == D))) → R (.returned (.tuple #[.string (S D), .int .i64 e])) w') → Calls Tryz.prog 67 #[.int .i64 mt] W R) := Lib.hid (fun R W k h => print_both mt W (hw.kp k) (fun D e w' k' h1 h0 => h D e w' k' (Lib.hid (by
    rw [← htm]
    unfold toldM
    cases hm : mayB mt with
    | false =>
      obtain ⟨rfl, rfl⟩ := h0 hm
      rw [if_neg (by rintro ⟨h, _⟩; cases h)]
      rfl
    | true =>
      obtain ⟨ht, rfl⟩ := h1 hm
      by_cases hD : ai = D
      · rw [if_pos ⟨rfl, hD ▸ ht⟩]; simp [hD]
      · rw [if_neg (fun h => hD (told_uniq h.2 ht))]; simp [hD]))))
  clear h hr hgr hgi hai ht htm
  go_enter Tryz.func44, Tryz.ntmps44
  go_upto_region 1 with (fail)
  refine gen_worldC (fun W => ∃ g, w.heap.size = g ∧ Hid (Kp [] w W ∧ Bk W g 35 (reqC r A c))) ⟨_, rfl, Lib.hid ⟨(Kp.refl _ _).alloc _, (Bk.new' _ _ _).cast rfl⟩⟩ ?_
  rintro W ⟨g, hg, hW⟩
  rw [hg]
  clear hg
  have HC : Hid (∀ W', Kp [] W W' → W'.cell? ⟨g, 0, none⟩ = some (.string (S r.m)) ∧ W'.cell? ⟨g, 1, none⟩ = some (.string (S r.t)) ∧ W'.cell? ⟨g, 2, none⟩ = some (.int .i64 r.minor) ∧ W'.cell? ⟨g, 3, none⟩ = some (.slice A r.fs.length c) ∧ W'.cell? ⟨g, 4, none⟩ = some (.bool r.close)) :=
    Lib.hid (fun W' k => ⟨(hW.out.2.kp k (by simp)).cell 0, (hW.out.2.kp k (by simp)).cell 1, (hW.out.2.kp k (by simp)).cell 2, (hW.out.2.kp k (by simp)).cell 3, (hW.out.2.kp k (by simp)).cell 4⟩)
  have KW : Hid (∀ w', Kp [] W w' → Kp [] w w') := Lib.hid (fun w' k => hW.out.1.trans k)
  clear hW
  have kk := Kp.refl [] W
  obtain ⟨p0, p1, p2, p3, p4⟩ := HC.out _ kk
  go_upto_region 2 with (go_at_call 64; ((refine HGr.out _ _ (KW.out _ kk) ?_); intro w2 k2; have kk := kk.trans k2; clear k2; clear p0 p1 p2 p3 p4; obtain ⟨p0, p1, p2, p3, p4⟩ := HC.out _ kk))
  cases ir with
  | false =>
    go_wp2
    exact rcast (H.out _ (KW.out _ kk)) rfl
  | true =>
    cases q1 with
    | false =>
      go_wp2
      exact rcast (H.out _ (KW.out _ kk)) rfl
    | true =>
      go_upto_region 5 with (go_at_call 64; ((refine HGi.out _ _ (KW.out _ kk) ?_); intro w3 k3; have kk := kk.trans k3; clear k3; clear p0 p1 p2 p3 p4; obtain ⟨p0, p1, p2, p3, p4⟩ := HC.out _ kk))
      cases ii with
      | false =>
        go_wp2
        exact rcast (H.out _ (KW.out _ kk)) rfl
      | true =>
        go_upto_region 8 with (go_at_call 46; ((refine HAi.out _ _ (KW.out _ kk) ?_); intro w4 k4; have kk := kk.trans k4; clear k4; clear p0 p1 p2 p3 p4; obtain ⟨p0, p1, p2, p3, p4⟩ := HC.out _ kk))
        go_upto_region 9 with (go_at_call 67; ((refine HP.out _ _ (KW.out _ kk) ?_); intro D e w5 k5 hD; have kk := kk.trans k5; clear k5; clear p0 p1 p2 p3 p4; obtain ⟨p0, p1, p2, p3, p4⟩ := HC.out _ kk))
        cases q2 with
        | true =>
          go_wp2_with (go_at_call 63; ((refine HT.out _ _ (KW.out _ kk) ?_); intro w6 k6; have kk := kk.trans k6))
          exact rcast (H.out _ (KW.out _ kk)) rfl
        | false =>
          obtain ⟨b1, hb1⟩ : ∃ b, (e == 0) = b := ⟨_, rfl⟩
          obtain ⟨b2, hb2⟩ : ∃ b, (ai == D) = b := ⟨_, rfl⟩
          rw [hb1, hb2] at hD
          cases b1 with
          | false =>
            go_wp2_with (go_at_call 63; ((refine HT.out _ _ (KW.out _ kk) ?_); intro w6 k6; have kk := kk.trans k6))
            exact rcast (H.out _ (KW.out _ kk)) (by rw [hD.out]; rfl)
          | true =>
            cases b2 with
            | false =>
              go_wp2_with (go_at_call 63; ((refine HT.out _ _ (KW.out _ kk) ?_); intro w6 k6; have kk := kk.trans k6))
              exact rcast (H.out _ (KW.out _ kk)) (by rw [hD.out]; rfl)
            | true =>
              go_wp2_with (go_at_call 63; ((refine HT.out _ _ (KW.out _ kk) ?_); intro w6 k6; have kk := kk.trans k6))
              exact rcast (H.out _ (KW.out _ kk)) (by rw [hD.out]; rfl)
end
end
/-! ### Package ranges: the spans of a range set. -/
section
open Go.RowKit Go.Shelf
set_option linter.unusedVariables false
set_option linter.unusedSimpArgs false
set_option maxRecDepth 100000

theorem readM_bd {l : List UInt8} {a b : Int} (h : readM l = some (a, b)) : -1 ≤ a ∧ a ≤ 1099511627776 ∧ -1 ≤ b ∧ b ≤ 1099511627776 ∧ (0 ≤ a ∨ 0 ≤ b) := by
  have h1 := numR_bd (bef 45 l)
  have h2 := numR_bd (aft 45 l)
  unfold mostR at h1 h2
  unfold readM readPQ at h
  unfold mostR at h
  (repeat' split at h) <;> simp at h <;> omega
set_option maxHeartbeats 1000000 in
theorem span_any {R : Ending → World → Prop} (a b n : Int) (w : World) (ha : -1 ≤ a ∧ a ≤ 1099511627776) (hb : -1 ≤ b ∧ b ≤ 1099511627776) (hn : 0 ≤ n ∧ n ≤ 35184372088832)
    (h : ∀ w', Kp [] w w' → R (.returned (specV (spanM (a, b) n).1 (spanM (a, b) n).2)) w') : Calls Tryz.prog 72 #[specV a b, .int .i64 n] w R := by
  have H := Lib.hid h
  clear h
  obtain ⟨a1, a2⟩ := ha
  obtain ⟨b1, b2⟩ := hb
  obtain ⟨n1, n2⟩ := hn
  have e : spanM (a, b) n = if a < 0 then (max (n - b) 0, max (n - max (n - b) 0) 0) else if 0 ≤ b then (a, max (min (b + 1) n - a) 0) else (a, max (n - a) 0) := rfl
  generalize spanM (a, b) n = sp at *
  unfold specV
  by_cases h1 : a < 0
  · rw [if_pos h1] at e
    have E := Lib.hid e
    clear e
    go_enter Tryz.func72, Tryz.ntmps72
    go_wp2
    exact bodyPost_ret (v := specV (max (n - b) 0) (max (n - max (n - b) 0) 0)) (by simp [results, Tryz.results72, go_sem, specV]) rfl (rcast (H.out _ (((Kp.refl _ _).alloc _).alloc _)) (by rw [E.out]))
  · rw [if_neg h1] at e
    by_cases h2 : 0 ≤ b
    · rw [if_pos h2] at e
      have E := Lib.hid e
      clear e
      go_enter Tryz.func72, Tryz.ntmps72
      go_wp2
      exact bodyPost_ret (v := specV a (max (min (b + 1) n - a) 0)) (by simp [results, Tryz.results72, go_sem, specV]) rfl (rcast (H.out _ (((Kp.refl _ _).alloc _).alloc _)) (by rw [E.out]))
    · rw [if_neg h2] at e
      have E := Lib.hid e
      clear e
      go_enter Tryz.func72, Tryz.ntmps72
      go_wp2
      exact bodyPost_ret (v := specV a (max (n - a) 0)) (by simp [results, Tryz.results72, go_sem, specV]) rfl (rcast (H.out _ (((Kp.refl _ _).alloc _).alloc _)) (by rw [E.out]))
def stepS (n : Int) (acc : Option (List (Int × Int))) (x : List UInt8) : Option (List (Int × Int)) :=
  match acc, readM x with
  | some zs, some y => some (if 0 < (spanM y n).2 then zs ++ [spanM y n] else zs)
  | _, _ => none
def goS (n : Int) (l : List (List UInt8)) : Option (List (Int × Int)) := l.foldl (stepS n) (some [])
def bytesL : List UInt8 := [98, 121, 116, 101, 115]
def okP (l : List UInt8) (n : Int) : Bool := decide (0 ≤ n) && l.contains 61 && (lowL (bef 61 l) == bytesL) && decide (1 ≤ (itemsL (aft 61 l)).length) && decide ((itemsL (aft 61 l)).length ≤ 4)
def parseM (l : List UInt8) (n : Int) : Option (List (Int × Int)) := if okP l n then goS n (itemsL (aft 61 l)) else none
theorem elt_span : Elt Tryz.prog 73 140 (.agg #[.int .i64 0, .int .i64 0]) 2 16 := ⟨Tryz.underlying73, by kernel_rfl, rfl, by decide, by decide⟩
theorem span_one {w : World} {u v : Int} : Rd (w.alloc (.cells #[.int .i64 u, .int .i64 v] 140)) [] (some ⟨w.heap.size, 0, none⟩) (spV (u, v)) := Rd.of_bk (Bk.newAt rfl _ _) (by simp)
theorem span_one' {w : World} {g : Nat} {u v : Int} (hg : g = w.heap.size) : Rd (w.alloc (.cells #[.int .i64 u, .int .i64 v] 140)) [] (some ⟨g, 0, none⟩) (spV (u, v)) := by subst hg; exact span_one
theorem goS_none (n : Int) (l : List (List UInt8)) : l.foldl (stepS n) none = none := by
  induction l with
  | nil => rfl
  | cons x l ih => exact ih
theorem goS_take {n : Int} {l : List (List UInt8)} {k : Nat} {x : List UInt8} (hx : l[k]? = some x) : goS n (l.take (k + 1)) = stepS n (goS n (l.take k)) x := by
  have hk : k < l.length := (List.getElem?_eq_some_iff.1 hx).1
  have e : l[k] = x := (List.getElem?_eq_some_iff.1 hx).2
  unfold goS
  rw [List.take_succ_eq_append_getElem hk, e, List.foldl_append]
  rfl
theorem goS_stop {n : Int} {l : List (List UInt8)} {k : Nat} {x : List UInt8} (hx : l[k]? = some x) (h : readM x = none) : goS n l = none := by
  have hk : k < l.length := (List.getElem?_eq_some_iff.1 hx).1
  have e : l[k] = x := (List.getElem?_eq_some_iff.1 hx).2
  unfold goS
  rw [← List.take_append_drop k l, List.foldl_append, List.drop_eq_getElem_cons hk, e, List.foldl_cons]
  have : stepS n (List.foldl (stepS n) (some []) (l.take k)) x = none := by unfold stepS; rw [h]; split <;> simp_all
  rw [this, goS_none]
theorem spans_one (zs : List (Int × Int)) : ∀ u ∈ zs.flatMap spV, u.oneCell' = true := by
  intro u hu
  rw [List.mem_flatMap] at hu
  obtain ⟨z, _, hz⟩ := hu
  simp [spV] at hz
  rcases hz with rfl | rfl <;> rfl
theorem read_no {R : Ending → World → Prop} (l : List UInt8) (w : World) (hl : l.length ≤ 2000000) (hm : Ml w) (hr : readM l = none)
    (h : ∀ a b w', Kp [] w w' → R (.returned (.tuple #[.agg #[.int .i64 a, .int .i64 b], .bool false])) w') : Calls Tryz.prog 71 #[.string (S l)] w R :=
  read_any l w hl hm (fun a b w' _ k => h a b w' k) (fun a b w' e _ => by rw [e.out] at hr; cases hr)
theorem read_yes {R : Ending → World → Prop} (l : List UInt8) (a b : Int) (w : World) (hl : l.length ≤ 2000000) (hm : Ml w) (hr : readM l = some (a, b))
    (h : ∀ w', Kp [] w w' → R (.returned (.tuple #[.agg #[.int .i64 a, .int .i64 b], .bool true])) w') : Calls Tryz.prog 71 #[.string (S l)] w R :=
  read_any l w hl hm (fun a' b' w' e _ => by rw [e.out] at hr; cases hr) (fun a' b' w' e k => by rw [e.out] at hr; cases hr; exact h w' k)
theorem span_at {R : Ending → World → Prop} (a b n c d : Int) (w : World) (ha : -1 ≤ a ∧ a ≤ 1099511627776) (hb : -1 ≤ b ∧ b ≤ 1099511627776) (hn : 0 ≤ n ∧ n ≤ 35184372088832) (hs : spanM (a, b) n = (c, d))
    (h : ∀ w', Kp [] w w' → R (.returned (.agg #[.int .i64 c, .int .i64 d])) w') : Calls Tryz.prog 72 #[.agg #[.int .i64 a, .int .i64 b], .int .i64 n] w R :=
  span_any a b n w ha hb hn (fun w' k => by rw [hs]; exact h w' k)
set_option maxHeartbeats 2000000 in
theorem parse_any {R : Ending → World → Prop} (l : List UInt8) (n : Int) (w : World) (hl : l.length ≤ 2000000) (hn : n ≤ 35184372088832) (hn0 : -9223372036854775808 ≤ n) (hm : Ml w)
    (h0 : ∀ w', Hid (parseM l n = none) → Kp [] w w' → R (.returned (.tuple #[.slice none 0 0, .bool false])) w')
    (h1 : ∀ zs A c w', Hid (parseM l n = some zs) → Ow w' 140 2 A zs.length c (zs.flatMap spV) → (∀ b ∈ bks A, w.heap.size ≤ b) → Kp [] w w' → R (.returned (.tuple #[.slice A zs.length c, .bool true])) w') :
    Calls Tryz.prog 45 #[.string (S l), .int .i64 n] w R := by
  have H0 := Lib.hid h0
  have H1 := Lib.hid h1
  clear h0 h1
  have hb1 := bef_len 61 l
  have hb2 := aft_len 61 l
  have HC := Lib.hid (fun R => cut_any (R := R) l 61 hm (Nat.le_trans hl (by decide)))
  obtain ⟨p, hp⟩ : ∃ p, bef 61 l = p := ⟨_, rfl⟩
  obtain ⟨q, hq⟩ : ∃ q, aft 61 l = q := ⟨_, rfl⟩
  have HM := Lib.hid (show parseM l n = if (decide (0 ≤ n) && l.contains 61 && (lowL p == bytesL) && decide (1 ≤ (itemsL q).length) && decide ((itemsL q).length ≤ 4)) then goS n (itemsL q) else none by rw [← hp, ← hq]; rfl)
  rw [hp, hq] at HC
  rw [hp] at hb1
  rw [hq] at hb2
  clear hp hq
  have hpl : p.length ≤ 2000000 := by omega
  have hql : q.length ≤ 2000000 := by omega
  by_cases hz : 0 ≤ n
  · cases hc : l.contains 61
    · have HN : Hid (parseM l n = none) := Lib.hid (by rw [HM.out, hc]; simp)
      rw [hc] at HC
      clear HM hc
      go_enter Tryz.func45, Tryz.ntmps45
      go_wp2_with (first | (go_at_call 68; ((refine HC.out _ ?_); intro k)) | (go_at_call 69; ((refine items_any q _ hql (hm.drewN k) ?_); intro A c w2 ho hA k2)))
      exact H0.out _ HN (((Kp.refl _ _).drewN k).trans k2)
    · rw [hc] at HC HM
      by_cases hb : lowL p = bytesL
      · obtain ⟨its, hits⟩ : ∃ its, itemsL q = its := ⟨_, rfl⟩
        have hmem : ∀ x ∈ its, x.length ≤ 2000000 := fun x hx => by
          have := items_mem_len (l := q) (p := x) (by rw [hits]; exact hx)
          omega
        have HI : Hid (∀ (R : Ending → World → Prop) (w1 : World), Ml w1 → (∀ A c w', Ow w' 9 1 A its.length c (strs its) → (∀ b ∈ bks A, w1.heap.size ≤ b) → Kp [] w1 w' → R (.returned (.slice A its.length c)) w') → Calls Tryz.prog 69 #[.string (S q)] w1 R) := Lib.hid (by
          intro R w1 hm1 h
          refine items_any q w1 hql hm1 ?_
          rw [hits]; exact h)
        have HMM := Lib.hid hmem
        have HL5 : Hid (lowL p = [98, 121, 116, 101, 115]) := Lib.hid hb
        rw [hits] at HM
        clear hits hmem
        by_cases h14 : 1 ≤ its.length ∧ its.length ≤ 4
        · obtain ⟨h1, h4⟩ := h14
          have HG : Hid (parseM l n = goS n its) := Lib.hid (by rw [HM.out, if_pos (by simp [hz, hb, h1, h4])])
          clear HM hc hb
          go_enter Tryz.func45, Tryz.ntmps45
          go_wp2_with (first | (go_at_call 68; ((refine HC.out _ ?_); intro k)) | (go_at_call 69; ((refine HI.out _ _ (hm.drewN k) ?_); intro A c w2 ho hA k2)) | (go_at_call 70; ((refine lower_any p _ hpl ?_); intro w3 k3; rw [HL5.out])))
          have ho3 := ho.kp k3 (by simp)
          have k13 := (((Kp.refl _ _).drewN k).trans k2).trans k3
          have m3 := hm.kp k13
          obtain ⟨g, rfl, hg⟩ := ho3.form (by omega)
          have hr := ho3.rd (N := []) (by simp)
          clear ho hA k2 k3 ho3
          go_loopw [10, 47] (fun ov iv wr => ∃ (k : Nat) (zs : List (Int × Int)) (A' : Option Addr) (c' : Nat), k ≤ its.length ∧ iv = .int .i64 k ∧ ov = .slice A' zs.length c' ∧ zs.length ≤ k ∧ Hid (goS n (its.take k) = some zs) ∧ Ow wr 140 2 A' zs.length c' (zs.flatMap spV) ∧ (∀ b ∈ bks A', w3.heap.size ≤ b) ∧ Kp [] w3 wr) (fun _ iv _ => its.length - (intOf iv).toNat)
          case atStart => exact ⟨0, [], none, 0, Nat.zero_le _, rfl, rfl, Nat.zero_le _, Lib.hid rfl, Ow.nil, by simp [bks], Kp.refl _ _⟩
          case round =>
            obtain ⟨k, zs, A', c', hk, rfl, rfl, hzk, hgo, hor, hA', kr⟩ := hrel
            by_cases hlt : k < its.length
            · obtain ⟨x, hx⟩ : ∃ x, its[k]? = some x := ⟨_, List.getElem?_eq_getElem hlt⟩
              have hxl := HMM.out x (List.mem_of_getElem? hx)
              obtain ⟨b0, off, hg0, _, hgl, hcc⟩ := hr (by intro e; simp [strs] at e; subst e; simp at hlt)
              obtain rfl : b0 = g := by injection hg0 with h; injection h with h _; exact h.symm
              obtain rfl : off = 0 := by injection hg0 with h; injection h with _ h; exact h.symm
              have hc1 : wr.cell? ⟨b0, k, none⟩ = some (.string (S x)) := by
                have := hcc k (.string (S x)) (by rw [strs_get, hx]; rfl)
                rw [Nat.zero_add] at this
                rw [kr.cell (p := ⟨b0, k, none⟩) hgl (by simp)]; exact this
              clear hcc hg0 hgl hr
              have mr := m3.kp kr
              have krs := kr.size
              cases hrm : readM x with
              | none =>
                have HN : Hid (parseM l n = none) := Lib.hid (by rw [HG.out, goS_stop hx hrm])
                have HR := Lib.hid hrm
                clear hrm hx
                go_wp2_with (go_at_call 71; ((refine read_no x _ hxl mr HR.out ?_); intro ea eb w4 k4))
                exact H0.out _ HN ((k13.trans kr).trans (k4.alloc _))
              | some ab =>
                obtain ⟨a, b⟩ := ab
                obtain ⟨a1, a2, b1, b2, _⟩ := readM_bd hrm
                obtain ⟨⟨u, v⟩, huv⟩ : ∃ z, spanM (a, b) n = z := ⟨_, rfl⟩
                have hst : goS n (its.take (k + 1)) = some (if 0 < v then zs ++ [(u, v)] else zs) := by
                  rw [goS_take hx, hgo.out]
                  unfold stepS
                  rw [hrm]
                  simp only [huv]
                have HR := Lib.hid hrm
                have HUV := Lib.hid huv
                clear hrm hx huv
                by_cases hv : 0 < v
                · rw [if_pos hv] at hst
                  have HST := Lib.hid hst
                  clear hst
                  go_wp2_with (first | (go_at_call 71; ((refine read_yes x a b _ hxl mr HR.out ?_); intro w4 k4; have ho4 := hor.kp k4 (by simp))) | (go_at_call 72; ((refine span_at a b n u v _ ⟨a1, a2⟩ ⟨b1, b2⟩ ⟨hz, hn⟩ HUV.out ?_); intro w5 k5; have ho5 := (ho4.alloc _).kp k5 (by simp); have k45 := (k4.alloc _).trans k5)) | (at_builtin; refine wpList_app _ rfl (.tmp 64) (.tmp 66) _ rfl elt_span A' zs.length c' _ rfl ((ho5.alloc _).alloc _) [] (some ⟨w5.heap.size + 1, 0, none⟩) 1 1 (spV (u, v)) rfl (span_one' (by simp)) rfl (by simp [spV, Value.oneCell']) (by omega) ?_; intro A2 c2 w6 ho6 hk6 hA6))
                  have e1 : zs.length + 1 = (zs ++ [(u, v)]).length := by simp
                  have k46 := k45.size
                  exact ⟨⟨k + 1, zs ++ [(u, v)], A2, c2, by omega, by go_num, by rw [e1], by simp; omega, HST, ho6.cast e1 (by simp), bks_app hA6 hA' (by simp; omega), (((kr.trans k45).alloc _).alloc _).thn hk6 (fun s hs => .inr (hA' s hs))⟩, by simp [intOf]; omega⟩
                · rw [if_neg hv] at hst
                  have HST := Lib.hid hst
                  clear hst
                  go_wp2_with (first | (go_at_call 71; ((refine read_yes x a b _ hxl mr HR.out ?_); intro w4 k4; have ho4 := hor.kp k4 (by simp))) | (go_at_call 72; ((refine span_at a b n u v _ ⟨a1, a2⟩ ⟨b1, b2⟩ ⟨hz, hn⟩ HUV.out ?_); intro w5 k5; have ho5 := (ho4.alloc _).kp k5 (by simp); have k45 := (k4.alloc _).trans k5)))
                  exact ⟨⟨k + 1, zs, A', c', by omega, by go_num, rfl, by omega, HST, ho5.alloc _, hA', (kr.trans k45).alloc _⟩, by simp [intOf]; omega⟩
            · have e : its.take k = its := List.take_of_length_le (by omega)
              rw [e] at hgo
              have HS : Hid (parseM l n = some zs) := Lib.hid (by rw [HG.out, hgo.out])
              have ks := k13.size
              go_wp2
              exact H1.out zs A' c' _ HS hor (fun b hb => Nat.le_trans ks (hA' b hb)) (k13.trans kr)
        · have HN : Hid (parseM l n = none) := Lib.hid (by rw [HM.out, if_neg (by simp; omega)])
          have hlen : its.length < 1 ∨ (¬ its.length < 1 ∧ 4 < its.length) := by omega
          clear HM hc hb h14
          rcases hlen with h | ⟨h, h5⟩
          all_goals
            go_enter Tryz.func45, Tryz.ntmps45
            go_wp2_with (first | (go_at_call 68; ((refine HC.out _ ?_); intro k)) | (go_at_call 69; ((refine HI.out _ _ (hm.drewN k) ?_); intro A c w2 ho hA k2)) | (go_at_call 70; ((refine lower_any p _ hpl ?_); intro w3 k3; rw [HL5.out])))
            exact H0.out _ HN ((((Kp.refl _ _).drewN k).trans k2).trans k3)
      · have HN : Hid (parseM l n = none) := Lib.hid (by rw [HM.out, show (lowL p == bytesL) = false by simpa using hb]; simp)
        have bb : (lowL p == [98, 121, 116, 101, 115]) = false := by simpa [bytesL] using hb
        clear HM hc
        go_enter Tryz.func45, Tryz.ntmps45
        go_wp2_with (first | (go_at_call 68; ((refine HC.out _ ?_); intro k)) | (go_at_call 69; ((refine items_any q _ hql (hm.drewN k) ?_); intro A c w2 ho hA k2)) | (go_at_call 70; ((refine lower_any p _ hpl ?_); intro w3 k3)))
        exact H0.out _ HN ((((Kp.refl _ _).drewN k).trans k2).trans k3)
  · have HN : Hid (parseM l n = none) := Lib.hid (by rw [HM.out]; simp [hz])
    clear HM
    go_enter Tryz.func45, Tryz.ntmps45
    go_wp2_with (first | (go_at_call 68; ((refine HC.out _ ?_); intro k)) | (go_at_call 69; ((refine items_any q _ hql (hm.drewN k) ?_); intro A c w2 ho hA k2)))
    exact H0.out _ HN (((Kp.refl _ _).drewN k).trans k2)
end
end Go.Proofs.YtnmafahbdfilcaaGreatDoor
