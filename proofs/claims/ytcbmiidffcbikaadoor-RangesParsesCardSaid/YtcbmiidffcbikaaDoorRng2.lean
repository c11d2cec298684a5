/- Package ranges: the spans of a range set. -/
import Derived.Test.YtcbmiidffcbikaaDoorRng1
namespace Go.Proofs.YtcbmiidffcbikaaDoor
open Go.RowKit Go.Shelf
set_option linter.unusedVariables false
set_option linter.unusedSimpArgs false
set_option maxRecDepth 100000

theorem readM_bd {l : List UInt8} {a b : Int} (h : readM l = some (a, b)) : -1 ≤ a ∧ a ≤ 1099511627776 ∧ -1 ≤ b ∧ b ≤ 1099511627776 ∧ (0 ≤ a ∨ 0 ≤ b) := by
  have h1 := numR_bd (bef 45 l)
  have h2 := numR_bd (aft 45 l)
  unfold mostR at h1 h2
  unfold readM readPQ at h
  unfold mostR at h
  (repeat' split at h) <;> simp at h <;> omega
set_option maxHeartbeats 1000000 in
theorem span_any {R : Ending → World → Prop} (a b n : Int) (w : World) (ha : -1 ≤ a ∧ a ≤ 1099511627776) (hb : -1 ≤ b ∧ b ≤ 1099511627776) (hn : 0 ≤ n ∧ n ≤ 35184372088832)
    (h : ∀ w', Kp [] w w' → R (.returned (specV (spanM (a, b) n).1 (spanM (a, b) n).2)) w') : Calls Tryd.prog 47 #[specV a b, .int .i64 n] w R := by
  have H := Lib.hid h
  clear h
  obtain ⟨a1, a2⟩ := ha
  obtain ⟨b1, b2⟩ := hb
  obtain ⟨n1, n2⟩ := hn
  have e : spanM (a, b) n = if a < 0 then (max (n - b) 0, max (n - max (n - b) 0) 0) else if 0 ≤ b then (a, max (min (b + 1) n - a) 0) else (a, max (n - a) 0) := rfl
  generalize spanM (a, b) n = sp at *
  unfold specV
  by_cases h1 : a < 0
  · rw [if_pos h1] at e
    have E := Lib.hid e
    clear e
    go_enter Tryd.func47, Tryd.ntmps47
    go_wp2
    exact bodyPost_ret (v := specV (max (n - b) 0) (max (n - max (n - b) 0) 0)) (by simp [results, Tryd.results47, go_sem, specV]) rfl (rcast (H.out _ (((Kp.refl _ _).alloc _).alloc _)) (by rw [E.out]))
  · rw [if_neg h1] at e
    by_cases h2 : 0 ≤ b
    · rw [if_pos h2] at e
      have E := Lib.hid e
      clear e
      go_enter Tryd.func47, Tryd.ntmps47
      go_wp2
      exact bodyPost_ret (v := specV a (max (min (b + 1) n - a) 0)) (by simp [results, Tryd.results47, go_sem, specV]) rfl (rcast (H.out _ (((Kp.refl _ _).alloc _).alloc _)) (by rw [E.out]))
    · rw [if_neg h2] at e
      have E := Lib.hid e
      clear e
      go_enter Tryd.func47, Tryd.ntmps47
      go_wp2
      exact bodyPost_ret (v := specV a (max (n - a) 0)) (by simp [results, Tryd.results47, go_sem, specV]) rfl (rcast (H.out _ (((Kp.refl _ _).alloc _).alloc _)) (by rw [E.out]))
def stepS (n : Int) (acc : Option (List (Int × Int))) (x : List UInt8) : Option (List (Int × Int)) :=
  match acc, readM x with
  | some zs, some y => some (if 0 < (spanM y n).2 then zs ++ [spanM y n] else zs)
  | _, _ => none
def goS (n : Int) (l : List (List UInt8)) : Option (List (Int × Int)) := l.foldl (stepS n) (some [])
def bytesL : List UInt8 := [98, 121, 116, 101, 115]
def okP (l : List UInt8) (n : Int) : Bool := decide (0 ≤ n) && l.contains 61 && (lowL (bef 61 l) == bytesL) && decide (1 ≤ (itemsL (aft 61 l)).length) && decide ((itemsL (aft 61 l)).length ≤ 4)
def parseM (l : List UInt8) (n : Int) : Option (List (Int × Int)) := if okP l n then goS n (itemsL (aft 61 l)) else none
def spV (z : Int × Int) : List Value := [.int .i64 z.1, .int .i64 z.2]
theorem elt_span : Elt Tryd.prog 23 31 (.agg #[.int .i64 0, .int .i64 0]) 2 16 := ⟨Tryd.underlying23, by kernel_rfl, rfl, by decide, by decide⟩
theorem spV_len (z : Int × Int) : (spV z).length = 2 := rfl
theorem span_one {w : World} {u v : Int} : Rd (w.alloc (.cells #[.int .i64 u, .int .i64 v] 31)) [] (some ⟨w.heap.size, 0, none⟩) (spV (u, v)) := Rd.of_bk (Bk.newAt rfl _ _) (by simp)
theorem span_one' {w : World} {g : Nat} {u v : Int} (hg : g = w.heap.size) : Rd (w.alloc (.cells #[.int .i64 u, .int .i64 v] 31)) [] (some ⟨g, 0, none⟩) (spV (u, v)) := by subst hg; exact span_one
theorem goS_none (n : Int) (l : List (List UInt8)) : l.foldl (stepS n) none = none := by
  induction l with
  | nil => rfl
  | cons x l ih => exact ih
theorem goS_take {n : Int} {l : List (List UInt8)} {k : Nat} {x : List UInt8} (hx : l[k]? = some x) : goS n (l.take (k + 1)) = stepS n (goS n (l.take k)) x := by
  have hk : k < l.length := (List.getElem?_eq_some_iff.1 hx).1
  have e : l[k] = x := (List.getElem?_eq_some_iff.1 hx).2
  unfold goS
  rw [List.take_succ_eq_append_getElem hk, e, List.foldl_append]
  rfl
theorem goS_stop {n : Int} {l : List (List UInt8)} {k : Nat} {x : List UInt8} (hx : l[k]? = some x) (h : readM x = none) : goS n l = none := by
  have hk : k < l.length := (List.getElem?_eq_some_iff.1 hx).1
  have e : l[k] = x := (List.getElem?_eq_some_iff.1 hx).2
  unfold goS
  rw [← List.take_append_drop k l, List.foldl_append, List.drop_eq_getElem_cons hk, e, List.foldl_cons]
  have : stepS n (List.foldl (stepS n) (some []) (l.take k)) x = none := by unfold stepS; rw [h]; split <;> simp_all
  rw [this, goS_none]
theorem spans_one (zs : List (Int × Int)) : ∀ u ∈ zs.flatMap spV, u.oneCell' = true := by
  intro u hu
  rw [List.mem_flatMap] at hu
  obtain ⟨z, _, hz⟩ := hu
  simp [spV] at hz
  rcases hz with rfl | rfl <;> rfl
theorem read_no {R : Ending → World → Prop} (l : List UInt8) (w : World) (hl : l.length ≤ 1000000) (hm : Ml w) (hr : readM l = none)
    (h : ∀ a b w', Kp [] w w' → R (.returned (.tuple #[.agg #[.int .i64 a, .int .i64 b], .bool false])) w') : Calls Tryd.prog 46 #[.string (S l)] w R :=
  read_any l w hl hm (fun a b w' _ k => h a b w' k) (fun a b w' e _ => by rw [e.out] at hr; cases hr)
theorem read_yes {R : Ending → World → Prop} (l : List UInt8) (a b : Int) (w : World) (hl : l.length ≤ 1000000) (hm : Ml w) (hr : readM l = some (a, b))
    (h : ∀ w', Kp [] w w' → R (.returned (.tuple #[.agg #[.int .i64 a, .int .i64 b], .bool true])) w') : Calls Tryd.prog 46 #[.string (S l)] w R :=
  read_any l w hl hm (fun a' b' w' e _ => by rw [e.out] at hr; cases hr) (fun a' b' w' e k => by rw [e.out] at hr; cases hr; exact h w' k)
theorem span_at {R : Ending → World → Prop} (a b n c d : Int) (w : World) (ha : -1 ≤ a ∧ a ≤ 1099511627776) (hb : -1 ≤ b ∧ b ≤ 1099511627776) (hn : 0 ≤ n ∧ n ≤ 35184372088832) (hs : spanM (a, b) n = (c, d))
    (h : ∀ w', Kp [] w w' → R (.returned (.agg #[.int .i64 c, .int .i64 d])) w') : Calls Tryd.prog 47 #[.agg #[.int .i64 a, .int .i64 b], .int .i64 n] w R :=
  span_any a b n w ha hb hn (fun w' k => by rw [hs]; exact h w' k)
set_option maxHeartbeats 2000000 in
theorem parse_any {R : Ending → World → Prop} (l : List UInt8) (n : Int) (w : World) (hl : l.length ≤ 100000) (hn : n ≤ 35184372088832) (hn0 : -9223372036854775808 ≤ n) (hm : Ml w)
    (h0 : ∀ w', Hid (parseM l n = none) → Kp [] w w' → R (.returned (.tuple #[.slice none 0 0, .bool false])) w')
    (h1 : ∀ zs A c w', Hid (parseM l n = some zs) → Ow w' 31 2 A zs.length c (zs.flatMap spV) → (∀ b ∈ bks A, w.heap.size ≤ b) → Kp [] w w' → R (.returned (.tuple #[.slice A zs.length c, .bool true])) w') :
    Calls Tryd.prog 12 #[.string (S l), .int .i64 n] w R := by
  have H0 := Lib.hid h0
  have H1 := Lib.hid h1
  clear h0 h1
  have hb1 := bef_len 61 l
  have hb2 := aft_len 61 l
  have HC := Lib.hid (fun R => cut_any (R := R) l 61 hm (Nat.le_trans hl (by decide)))
  obtain ⟨p, hp⟩ : ∃ p, bef 61 l = p := ⟨_, rfl⟩
  obtain ⟨q, hq⟩ : ∃ q, aft 61 l = q := ⟨_, rfl⟩
  have HM := Lib.hid (show parseM l n = if (decide (0 ≤ n) && l.contains 61 && (lowL p == bytesL) && decide (1 ≤ (itemsL q).length) && decide ((itemsL q).length ≤ 4)) then goS n (itemsL q) else none by rw [← hp, ← hq]; rfl)
  rw [hp, hq] at HC
  rw [hp] at hb1
  rw [hq] at hb2
  clear hp hq
  have hpl : p.length ≤ 1000000 := by omega
  have hql : q.length ≤ 1000000 := by omega
  by_cases hz : 0 ≤ n
  · cases hc : l.contains 61
    · have HN : Hid (parseM l n = none) := Lib.hid (by rw [HM.out, hc]; simp)
      rw [hc] at HC
      clear HM hc
      go_enter Tryd.func12, Tryd.ntmps12
      go_wp2_with (first | (go_at_call 43; ((refine HC.out _ ?_); intro k)) | (go_at_call 44; ((refine items_any q _ hql (hm.drewN k) ?_); intro A c w2 ho hA k2)))
      exact H0.out _ HN (((Kp.refl _ _).drewN k).trans k2)
    · rw [hc] at HC HM
      by_cases hb : lowL p = bytesL
      · obtain ⟨its, hits⟩ : ∃ its, itemsL q = its := ⟨_, rfl⟩
        have hmem : ∀ x ∈ its, x.length ≤ 1000000 := fun x hx => by
          have := items_mem_len (l := q) (p := x) (by rw [hits]; exact hx)
          omega
        have HI : Hid (∀ (R : Ending → World → Prop) (w1 : World), Ml w1 → (∀ A c w', Ow w' 9 1 A its.length c (strs its) → (∀ b ∈ bks A, w1.heap.size ≤ b) → Kp [] w1 w' → R (.returned (.slice A its.length c)) w') → Calls Tryd.prog 44 #[.string (S q)] w1 R) := Lib.hid (by
          intro R w1 hm1 h
          refine items_any q w1 hql hm1 ?_
          rw [hits]; exact h)
        have HMM := Lib.hid hmem
        have HL5 : Hid (lowL p = [98, 121, 116, 101, 115]) := Lib.hid hb
        rw [hits] at HM
        clear hits hmem
        by_cases h14 : 1 ≤ its.length ∧ its.length ≤ 4
        · obtain ⟨h1, h4⟩ := h14
          have HG : Hid (parseM l n = goS n its) := Lib.hid (by rw [HM.out, if_pos (by simp [hz, hb, h1, h4])])
          clear HM hc hb
          go_enter Tryd.func12, Tryd.ntmps12
          go_wp2_with (first | (go_at_call 43; ((refine HC.out _ ?_); intro k)) | (go_at_call 44; ((refine HI.out _ _ (hm.drewN k) ?_); intro A c w2 ho hA k2)) | (go_at_call 45; ((refine lower_any p _ hpl ?_); intro w3 k3; rw [HL5.out])))
          have ho3 := ho.kp k3 (by simp)
          have k13 := (((Kp.refl _ _).drewN k).trans k2).trans k3
          have m3 := hm.kp k13
          obtain ⟨g, rfl, hg⟩ := ho3.form (by omega)
          have hr := ho3.rd (N := []) (by simp)
          clear ho hA k2 k3 ho3
          go_loopw [10, 47] (fun ov iv wr => ∃ (k : Nat) (zs : List (Int × Int)) (A' : Option Addr) (c' : Nat), k ≤ its.length ∧ iv = .int .i64 k ∧ ov = .slice A' zs.length c' ∧ zs.length ≤ k ∧ Hid (goS n (its.take k) = some zs) ∧ Ow wr 31 2 A' zs.length c' (zs.flatMap spV) ∧ (∀ b ∈ bks A', w3.heap.size ≤ b) ∧ Kp [] w3 wr) (fun _ iv _ => its.length - (intOf iv).toNat)
          case atStart => exact ⟨0, [], none, 0, Nat.zero_le _, rfl, rfl, Nat.zero_le _, Lib.hid rfl, Ow.nil, by simp [bks], Kp.refl _ _⟩
          case round =>
            obtain ⟨k, zs, A', c', hk, rfl, rfl, hzk, hgo, hor, hA', kr⟩ := hrel
            by_cases hlt : k < its.length
            · obtain ⟨x, hx⟩ : ∃ x, its[k]? = some x := ⟨_, List.getElem?_eq_getElem hlt⟩
              have hxl := HMM.out x (List.mem_of_getElem? hx)
              obtain ⟨b0, off, hg0, _, hgl, hcc⟩ := hr (by intro e; simp [strs] at e; subst e; simp at hlt)
              obtain rfl : b0 = g := by injection hg0 with h; injection h with h _; exact h.symm
              obtain rfl : off = 0 := by injection hg0 with h; injection h with _ h; exact h.symm
              have hc1 : wr.cell? ⟨b0, k, none⟩ = some (.string (S x)) := by
                have := hcc k (.string (S x)) (by rw [strs_get, hx]; rfl)
                rw [Nat.zero_add] at this
                rw [kr.cell (p := ⟨b0, k, none⟩) hgl (by simp)]; exact this
              clear hcc hg0 hgl hr
              have mr := m3.kp kr
              have krs := kr.size
              cases hrm : readM x with
              | none =>
                have HN : Hid (parseM l n = none) := Lib.hid (by rw [HG.out, goS_stop hx hrm])
                have HR := Lib.hid hrm
                clear hrm hx
                go_wp2_with (go_at_call 46; ((refine read_no x _ hxl mr HR.out ?_); intro ea eb w4 k4))
                exact H0.out _ HN ((k13.trans kr).trans (k4.alloc _))
              | some ab =>
                obtain ⟨a, b⟩ := ab
                obtain ⟨a1, a2, b1, b2, _⟩ := readM_bd hrm
                obtain ⟨⟨u, v⟩, huv⟩ : ∃ z, spanM (a, b) n = z := ⟨_, rfl⟩
                have hst : goS n (its.take (k + 1)) = some (if 0 < v then zs ++ [(u, v)] else zs) := by
                  rw [goS_take hx, hgo.out]
                  unfold stepS
                  rw [hrm]
                  simp only [huv]
                have HR := Lib.hid hrm
                have HUV := Lib.hid huv
                clear hrm hx huv
                by_cases hv : 0 < v
                · rw [if_pos hv] at hst
                  have HST := Lib.hid hst
                  clear hst
                  go_wp2_with (first | (go_at_call 46; ((refine read_yes x a b _ hxl mr HR.out ?_); intro w4 k4; have ho4 := hor.kp k4 (by simp))) | (go_at_call 47; ((refine span_at a b n u v _ ⟨a1, a2⟩ ⟨b1, b2⟩ ⟨hz, hn⟩ HUV.out ?_); intro w5 k5; have ho5 := (ho4.alloc _).kp k5 (by simp); have k45 := (k4.alloc _).trans k5)) | (at_builtin; refine wpList_app _ rfl (.tmp 64) (.tmp 66) _ rfl elt_span A' zs.length c' _ rfl ((ho5.alloc _).alloc _) [] (some ⟨w5.heap.size + 1, 0, none⟩) 1 1 (spV (u, v)) rfl (span_one' (by simp)) rfl (by simp [spV, Value.oneCell']) (by omega) ?_; intro A2 c2 w6 ho6 hk6 hA6))
                  have e1 : zs.length + 1 = (zs ++ [(u, v)]).length := by simp
                  have k46 := k45.size
                  exact ⟨⟨k + 1, zs ++ [(u, v)], A2, c2, by omega, by go_num, by rw [e1], by simp; omega, HST, ho6.cast e1 (by simp), bks_app hA6 hA' (by simp; omega), (((kr.trans k45).alloc _).alloc _).thn hk6 (fun s hs => .inr (hA' s hs))⟩, by simp [intOf]; omega⟩
                · rw [if_neg hv] at hst
                  have HST := Lib.hid hst
                  clear hst
                  go_wp2_with (first | (go_at_call 46; ((refine read_yes x a b _ hxl mr HR.out ?_); intro w4 k4; have ho4 := hor.kp k4 (by simp))) | (go_at_call 47; ((refine span_at a b n u v _ ⟨a1, a2⟩ ⟨b1, b2⟩ ⟨hz, hn⟩ HUV.out ?_); intro w5 k5; have ho5 := (ho4.alloc _).kp k5 (by simp); have k45 := (k4.alloc _).trans k5)))
                  exact ⟨⟨k + 1, zs, A', c', by omega, by go_num, rfl, by omega, HST, ho5.alloc _, hA', (kr.trans k45).alloc _⟩, by simp [intOf]; omega⟩
            · have e : its.take k = its := List.take_of_length_le (by omega)
              rw [e] at hgo
              have HS : Hid (parseM l n = some zs) := Lib.hid (by rw [HG.out, hgo.out])
              have ks := k13.size
              go_wp2
              exact H1.out zs A' c' _ HS hor (fun b hb => Nat.le_trans ks (hA' b hb)) (k13.trans kr)
        · have HN : Hid (parseM l n = none) := Lib.hid (by rw [HM.out, if_neg (by simp; omega)])
          have hlen : its.length < 1 ∨ (¬ its.length < 1 ∧ 4 < its.length) := by omega
          clear HM hc hb h14
          rcases hlen with h | ⟨h, h5⟩
          all_goals
            go_enter Tryd.func12, Tryd.ntmps12
            go_wp2_with (first | (go_at_call 43; ((refine HC.out _ ?_); intro k)) | (go_at_call 44; ((refine HI.out _ _ (hm.drewN k) ?_); intro A c w2 ho hA k2)) | (go_at_call 45; ((refine lower_any p _ hpl ?_); intro w3 k3; rw [HL5.out])))
            exact H0.out _ HN ((((Kp.refl _ _).drewN k).trans k2).trans k3)
      · have HN : Hid (parseM l n = none) := Lib.hid (by rw [HM.out, show (lowL p == bytesL) = false by simpa using hb]; simp)
        have bb : (lowL p == [98, 121, 116, 101, 115]) = false := by simpa [bytesL] using hb
        clear HM hc
        go_enter Tryd.func12, Tryd.ntmps12
        go_wp2_with (first | (go_at_call 43; ((refine HC.out _ ?_); intro k)) | (go_at_call 44; ((refine items_any q _ hql (hm.drewN k) ?_); intro A c w2 ho hA k2)) | (go_at_call 45; ((refine lower_any p _ hpl ?_); intro w3 k3)))
        exact H0.out _ HN ((((Kp.refl _ _).drewN k).trans k2).trans k3)
  · have HN : Hid (parseM l n = none) := Lib.hid (by rw [HM.out]; simp [hz])
    clear HM
    go_enter Tryd.func12, Tryd.ntmps12
    go_wp2_with (first | (go_at_call 43; ((refine HC.out _ ?_); intro k)) | (go_at_call 44; ((refine items_any q _ hql (hm.drewN k) ?_); intro A c w2 ho hA k2)))
    exact H0.out _ HN (((Kp.refl _ _).drewN k).trans k2)
end Go.Proofs.YtcbmiidffcbikaaDoor
