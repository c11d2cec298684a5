/- The items of a list: lex.Items, and the document's. -/
import Derived.Test.YtcbmiidffcbikaaDoorDec
import Derived.Test.YtcbmiidffcbikaaDoorLex3
namespace Go.Proofs.YtcbmiidffcbikaaDoor
open Go.RowKit Go.Shelf
set_option linter.unusedVariables false
set_option linter.unusedSimpArgs false
set_option maxRecDepth 100000

/-- One piece's item, where it has one. -/
def oneI (p : List UInt8) : List (List UInt8) := if trimL p = [] then [] else [trimL p]
def itemsL (l : List UInt8) : List (List UInt8) := (spl 44 l).flatMap oneI
theorem itemsL_none {p : List UInt8} (h : p.contains 44 = false) : itemsL p = oneI p := by
  unfold itemsL; rw [spl_eq, h]; simp
theorem itemsL_cut (p r : List UInt8) (h : p.contains 44 = false) : itemsL (p ++ 44 :: r) = oneI p ++ itemsL r := by
  have hb : bef 44 (p ++ 44 :: r) = p ∧ aft 44 (p ++ 44 :: r) = r ∧ (p ++ 44 :: r).contains 44 = true := by
    induction p with
    | nil => simp [bef, aft]
    | cons x p ih =>
      rw [List.contains_cons, Bool.or_eq_false_iff] at h
      have e : ¬ x = 44 := by have := h.1; simp at this; exact Ne.symm this
      obtain ⟨h1, h2, h3⟩ := ih h.2
      rw [List.cons_append, bef, aft, if_neg e, if_neg e, h1, h2, List.contains_cons, h3, Bool.or_true]
      exact ⟨rfl, rfl, rfl⟩
  obtain ⟨h1, h2, h3⟩ := hb
  unfold itemsL
  rw [spl_eq, h3, h1, h2]; simp
theorem flat_snocI {l : List (List UInt8)} {k : Nat} {x : List UInt8} (hx : l[k]? = some x) : (l.take (k + 1)).flatMap oneI = (l.take k).flatMap oneI ++ oneI x := by
  have hk : k < l.length := (List.getElem?_eq_some_iff.1 hx).1
  have e : l[k] = x := (List.getElem?_eq_some_iff.1 hx).2
  rw [List.take_succ_eq_append_getElem hk, e]
  simp
theorem trim_len (p : List UInt8) : (trimL p).length ≤ p.length := by
  rw [trimL_eq]
  unfold rdropB
  rw [List.length_reverse]
  have h1 : ((List.dropWhile blkB p).reverse.dropWhile blkB).length ≤ (List.dropWhile blkB p).reverse.length := (List.dropWhile_sublist _).length_le
  have h2 : (List.dropWhile blkB p).length ≤ p.length := (List.dropWhile_sublist _).length_le
  rw [List.length_reverse] at h1
  omega
theorem oneI_len (p : List UInt8) : (oneI p).length ≤ 1 := by unfold oneI; split <;> simp
theorem flat_one_len (ps : List (List UInt8)) : (ps.flatMap oneI).length ≤ ps.length := by
  induction ps with
  | nil => simp
  | cons p ps ih => rw [List.flatMap_cons, List.length_append, List.length_cons]; have := oneI_len p; omega
theorem itemsL_len (l : List UInt8) : (itemsL l).length ≤ l.length + 1 := by
  refine Nat.le_trans (flat_one_len _) ?_
  rw [spl_len]
  have := List.count_le_length (a := (44 : UInt8)) (l := l)
  omega
theorem items_mem_len {l p : List UInt8} (h : p ∈ itemsL l) : p.length ≤ l.length := by
  unfold itemsL at h
  rw [List.mem_flatMap] at h
  obtain ⟨q, hq, hp⟩ := h
  have h1 := spl_mem_len 44 l q hq
  have h2 := trim_len q
  unfold oneI at hp
  split at hp
  · cases hp
  · simp at hp; subst hp; omega
theorem items_mem_ne {l p : List UInt8} (h : p ∈ itemsL l) : p ≠ [] := by
  unfold itemsL at h
  rw [List.mem_flatMap] at h
  obtain ⟨q, hq, hp⟩ := h
  unfold oneI at hp
  split at hp
  · cases hp
  · simp at hp; subst hp; assumption
theorem app_one {w : World} {x : List UInt8} : Rd (w.alloc (.cells #[.string (S x)] 9)) [] (some ⟨w.heap.size, 0, none⟩) (strs [x]) := Rd.of_bk (Bk.newAt rfl _ _) (by simp)

set_option maxHeartbeats 1000000 in
theorem items_any {R : Ending → World → Prop} (l : List UInt8) (w : World) (hl : l.length ≤ 1000000) (hm : Ml w)
    (h : ∀ A c w', Ow w' 9 1 A (itemsL l).length c (strs (itemsL l)) → (∀ b ∈ bks A, w.heap.size ≤ b) → Kp [] w w' → R (.returned (.slice A (itemsL l).length c)) w') :
    Calls Tryd.prog 44 #[.string (S l)] w R := by
  have H := Lib.hid h
  clear h
  have HI := Lib.hid (show itemsL l = (spl 44 l).flatMap oneI from rfl)
  have HSL := Lib.hid (spl_mem_len 44 l)
  have hcnt : (spl 44 l).length ≤ 1000001 := by
    rw [spl_len]
    have := List.count_le_length (a := (44 : UInt8)) (l := l)
    omega
  go_enter Tryd.func44, Tryd.ntmps44
  go_wp2_with (go_at_call 63; ((refine split_any l 44 hm hl ?_); intro g w1 hg hb k1))
  have hr := Rd.of_bk (N := []) hb (by simp)
  clear hb
  generalize itemsL l = its at *
  generalize spl 44 l = ps at *
  go_loopw [3, 9] (fun sv iv wr => ∃ (k m : Nat) (A : Option Addr) (c : Nat), k ≤ ps.length ∧ iv = .int .i64 k ∧ sv = .slice A m c ∧ m ≤ k ∧ Hid (m = ((ps.take k).flatMap oneI).length) ∧ Ow wr 9 1 A m c (strs ((ps.take k).flatMap oneI)) ∧ (∀ b ∈ bks A, w1.heap.size ≤ b) ∧ Kp [] w1 wr) (fun _ iv _ => ps.length - (intOf iv).toNat)
  case atStart => exact ⟨0, 0, none, 0, Nat.zero_le _, rfl, rfl, Nat.zero_le _, Lib.hid rfl, Ow.nil, by simp [bks], Kp.refl _ _⟩
  case round =>
    obtain ⟨k, m, A, c, hk, rfl, rfl, hmk, hmm, ho, hA, kr⟩ := hrel
    by_cases hlt : k < ps.length
    · obtain ⟨x, hx⟩ : ∃ x, ps[k]? = some x := ⟨_, List.getElem?_eq_getElem hlt⟩
      have hxl : x.length ≤ 1000000 := Nat.le_trans (HSL.out x (List.mem_of_getElem? hx)) hl
      have hsn := flat_snocI hx
      obtain ⟨b0, off, hg0, _, hgl, hc⟩ := hr (by intro e; simp [strs] at e; subst e; simp at hlt)
      obtain rfl : b0 = g := by injection hg0 with h; injection h with h _; exact h.symm
      obtain rfl : off = 0 := by injection hg0 with h; injection h with _ h; exact h.symm
      have hc1 : wr.cell? ⟨b0, k, none⟩ = some (.string (S x)) := by
        have := hc k (.string (S x)) (by rw [strs_get, hx]; rfl)
        rw [Nat.zero_add] at this
        rw [kr.cell (p := ⟨b0, k, none⟩) hgl (by simp)]; exact this
      clear hc hg0 hgl hr
      by_cases ht : trimL x = []
      · have HO := Lib.hid (show oneI x = [] by unfold oneI; rw [if_pos ht])
        have HT := Lib.hid ht
        clear ht
        go_wp2_with (go_at_call 53; ((refine trim_any x _ hxl ?_); intro w2 k2; rw [HT.out]))
        refine ⟨⟨k + 1, m, A, c, by omega, by go_num, rfl, by omega, Lib.hid ?_, ?_, hA, kr.trans k2⟩, by simp [intOf]; omega⟩
        · rw [hsn, HO.out, List.append_nil]; exact hmm.out
        · rw [hsn, HO.out, List.append_nil]; exact ho.kp k2 (by simp)
      · have HO := Lib.hid (show oneI x = [trimL x] by unfold oneI; rw [if_neg ht])
        obtain ⟨t, htx⟩ : ∃ t, trimL x = t := ⟨_, rfl⟩
        rw [htx] at HO ht
        have HT := Lib.hid htx
        have hte : t.isEmpty = false := by simpa using ht
        clear ht htx
        go_wp2_with (first | (go_at_call 53; ((refine trim_any x _ hxl ?_); intro w2 k2; rw [HT.out]; have ho2 := ho.kp k2 (by simp); have k12 := kr.trans k2)) | (at_builtin; refine wpList_app _ rfl (.tmp 17) (.tmp 19) _ rfl elt_str A m c _ rfl (ho2.alloc _) [] (some ⟨w2.heap.size, 0, none⟩) 1 1 (strs [t]) rfl app_one rfl (strs_one _) (by omega) ?_; intro A2 c2 w3 ho3 hk3 hA3))
        refine ⟨⟨k + 1, m + 1, A2, c2, by omega, by go_num, rfl, by omega, Lib.hid ?_, ho3.cast rfl ?_, bks_app hA3 hA (by have := k12.size; simp; omega), (k12.alloc _).thn hk3 (fun s hs => .inr (hA s hs))⟩, by simp [intOf]; omega⟩
        · rw [hsn, HO.out, List.length_append, ← hmm.out]; rfl
        · rw [hsn, HO.out, strs_append]
    · have e : ps.take k = ps := List.take_of_length_le (by omega)
      rw [e, ← HI.out] at hmm ho
      have HM := hmm.out
      clear e
      subst HM
      go_wp2
      exact H.out A c _ ho (fun b hb => Nat.le_trans k1.size (hA b hb)) (k1.trans kr)

set_option maxHeartbeats 1000000 in
theorem ritems_any {R : Ending → World → Prop} (l : List UInt8) (w : World) (hl : l.length ≤ 1000000)
    (h : ∀ A c w', Ow w' 9 1 A (itemsL l).length c (strs (itemsL l)) → (∀ b ∈ bks A, w.heap.size ≤ b) → Kp [] w w' → R (.returned (.slice A (itemsL l).length c)) w') :
    Calls Tryd.prog 48 #[.string (S l)] w R := by
  have H := Lib.hid h
  clear h
  obtain ⟨its, hits⟩ : ∃ its, itemsL l = its := ⟨_, rfl⟩
  rw [hits] at H
  have hil : its.length ≤ l.length + 1 := by rw [← hits]; exact itemsL_len l
  have HI := Lib.hid hits
  clear hits
  go_enter Tryd.func48, Tryd.ntmps48
  go_wp2
  go_loopw [3, 4, 5] (fun sv fv iv wr => ∃ (k f : Nat) (A : Option Addr) (c : Nat) (o r : List (List UInt8)), k ≤ l.length + 1 ∧ f ≤ k ∧ f ≤ l.length + 1 ∧ iv = .int .i64 k ∧ fv = .int .i64 f ∧ sv = .slice A o.length c ∧ Hid (its = o ++ r) ∧ Hid (k ≤ l.length → f ≤ l.length ∧ r = itemsL (l.drop f) ∧ ((l.take k).drop f).contains 44 = false) ∧ Hid (l.length < k → r = []) ∧ Ow wr 9 1 A o.length c (strs o) ∧ (∀ b ∈ bks A, w.heap.size ≤ b) ∧ Kp [] w wr) (fun _ _ iv _ => l.length + 1 - (intOf iv).toNat)
  case atStart => exact ⟨0, 0, none, 0, [], its, by omega, by omega, by omega, rfl, rfl, rfl, Lib.hid rfl, Lib.hid (fun _ => ⟨by omega, by rw [← HI.out]; rfl, by simp⟩), Lib.hid (fun h => by omega), Ow.nil, by simp [bks], Kp.refl _ _⟩
  case round =>
    obtain ⟨k, f, A, c, o, r, hk, hfk, hfl, rfl, rfl, rfl, hio, hq, hq2, ho, hA, kr⟩ := hrel
    have hol : o.length ≤ its.length := by rw [hio.out, List.length_append]; omega
    by_cases hlt : k ≤ l.length
    · obtain ⟨q1, q2, q3⟩ := hq.out hlt
      clear hq hq2
      obtain ⟨p, hp⟩ : ∃ p, (l.take k).drop f = p := ⟨_, rfl⟩
      have hpl : p.length ≤ 1000000 := by rw [← hp]; simp; omega
      have q3' := q3
      rw [hp] at q3'
      by_cases hkl : k = l.length
      · subst hkl
        have hr1 : r = oneI p := by
          rw [q2, ← hp, List.take_length, itemsL_none (by rw [List.take_length] at q3; exact q3)]
        have HP := Lib.hid (show l.drop f = p by rw [← hp, List.take_length])
        clear hp q2 q3 q3'
        by_cases ht : trimL p = []
        · have hr0 : r = [] := by rw [hr1]; unfold oneI; rw [if_pos ht]
          have HT := Lib.hid ht
          have HR := Lib.hid hr0
          clear ht hr1 hr0
          go_wp2_with (go_at_call 42; ((refine rtrim_any _ _ (by rw [HP.out]; exact hpl) ?_); rw [HP.out, HT.out]))
          exact ⟨⟨l.length + 1, l.length + 1, A, c, o, r, by omega, by omega, by omega, by go_num, by go_num, rfl, hio, Lib.hid (fun h => by omega), Lib.hid (fun _ => HR.out), ho, hA, kr⟩, by simp [intOf]⟩
        · obtain ⟨t, htx⟩ : ∃ t, trimL p = t := ⟨_, rfl⟩
          have hr0 : r = [t] := by rw [hr1]; unfold oneI; rw [if_neg ht, htx]
          rw [htx] at ht
          have HT := Lib.hid htx
          have HR := Lib.hid hr0
          have hte : (t.length == 0) = false := by simpa using ht
          have hte2 : t.isEmpty = false := by simpa using ht
          clear ht hr1 hr0 htx
          go_wp2_with (first | (go_at_call 42; ((refine rtrim_any _ _ (by rw [HP.out]; exact hpl) ?_); rw [HP.out, HT.out])) | (at_builtin; refine wpList_app _ rfl (.tmp 30) (.tmp 32) _ rfl elt_str A o.length c _ rfl (ho.alloc _) [] (some ⟨wr.heap.size, 0, none⟩) 1 1 (strs [t]) rfl app_one rfl (strs_one _) (by omega) ?_; intro A2 c2 w3 ho3 hk3 hA3))
          have e1 : o.length + 1 = (o ++ [t]).length := by simp
          exact ⟨⟨l.length + 1, l.length + 1, A2, c2, o ++ [t], [], by omega, by omega, by omega, by go_num, by go_num, by rw [e1], Lib.hid (by rw [hio.out, HR.out]; simp), Lib.hid (fun h => by omega), Lib.hid (fun _ => rfl), ho3.cast e1 (strs_append _ _).symm, bks_app hA3 hA (by have := kr.size; simp; omega), (kr.alloc _).thn hk3 (fun s hs => .inr (hA s hs))⟩, by simp [intOf]⟩
      · have hk2 : k < l.length := by omega
        clear hkl
        obtain ⟨x, hx⟩ : ∃ x, l[k]'hk2 = x := ⟨_, rfl⟩
        by_cases hc : x = 44
        · have hcut : l.drop f = p ++ 44 :: l.drop (k + 1) := by
            have h1 : l = l.take k ++ 44 :: l.drop (k + 1) := by
              rw [← hc, ← hx, ← List.drop_eq_getElem_cons hk2, List.take_append_drop]
            conv => lhs; rw [h1]
            rw [List.drop_append_of_le_length (by simp; omega), hp]
          have hr1 : r = oneI p ++ itemsL (l.drop (k + 1)) := by rw [q2, hcut, itemsL_cut _ _ q3']
          have b1 : ((x.toNat : Int) == 44) = true := by rw [hc]; rfl
          have HP := Lib.hid hp
          have HQ : ∀ z, Hid (z = itemsL (l.drop (k + 1))) → Hid (k + 1 ≤ l.length → k + 1 ≤ l.length ∧ z = itemsL (l.drop (k + 1)) ∧ ((l.take (k + 1)).drop (k + 1)).contains 44 = false) := fun z hz => Lib.hid (fun h => ⟨h, hz.out, by rw [List.drop_eq_nil_of_le (by simp; omega)]; rfl⟩)
          clear hp q2 q3 q3' hcut hc
          by_cases ht : trimL p = []
          · have hr0 : r = itemsL (l.drop (k + 1)) := by rw [hr1]; unfold oneI; rw [if_pos ht]; rfl
            have HT := Lib.hid ht
            have HR := Lib.hid hr0
            clear ht hr1 hr0
            go_wp2_with (go_at_call 42; ((refine rtrim_any _ _ (by rw [HP.out]; exact hpl) ?_); rw [HP.out, HT.out]))
            exact ⟨⟨k + 1, k + 1, A, c, o, itemsL (l.drop (k + 1)), by omega, by omega, by omega, by go_num, by go_num, rfl, Lib.hid (by rw [hio.out, HR.out]), HQ _ rfl, Lib.hid (fun _ => by omega), ho, hA, kr⟩, by simp [intOf]; omega⟩
          · obtain ⟨t, htx⟩ : ∃ t, trimL p = t := ⟨_, rfl⟩
            have hr0 : r = [t] ++ itemsL (l.drop (k + 1)) := by rw [hr1]; unfold oneI; rw [if_neg ht, htx]
            rw [htx] at ht
            have HT := Lib.hid htx
            have HR := Lib.hid hr0
            have hte : (t.length == 0) = false := by simpa using ht
            have hte2 : t.isEmpty = false := by simpa using ht
            clear ht hr1 hr0 htx
            go_wp2_with (first | (go_at_call 42; ((refine rtrim_any _ _ (by rw [HP.out]; exact hpl) ?_); rw [HP.out, HT.out])) | (at_builtin; refine wpList_app _ rfl (.tmp 30) (.tmp 32) _ rfl elt_str A o.length c _ rfl (ho.alloc _) [] (some ⟨wr.heap.size, 0, none⟩) 1 1 (strs [t]) rfl app_one rfl (strs_one _) (by omega) ?_; intro A2 c2 w3 ho3 hk3 hA3))
            have e1 : o.length + 1 = (o ++ [t]).length := by simp
            exact ⟨⟨k + 1, k + 1, A2, c2, o ++ [t], itemsL (l.drop (k + 1)), by omega, by omega, by omega, by go_num, by go_num, by rw [e1], Lib.hid (by rw [hio.out, HR.out]; simp), HQ _ rfl, Lib.hid (fun _ => by omega), ho3.cast e1 (strs_append _ _).symm, bks_app hA3 hA (by have := kr.size; simp; omega), (kr.alloc _).thn hk3 (fun s hs => .inr (hA s hs))⟩, by simp [intOf]; omega⟩
        · have b1 : ((x.toNat : Int) == 44) = false := (u8_beq x 44).trans (by simpa using hc)
          have HQ : Hid (k + 1 ≤ l.length → f ≤ l.length ∧ r = itemsL (l.drop f) ∧ ((l.take (k + 1)).drop f).contains 44 = false) := Lib.hid (fun h => ⟨q1, q2, by
            rw [List.take_succ_eq_append_getElem hk2, hx, List.drop_append_of_le_length (by simp; omega)]
            rw [List.contains_eq_any_beq, List.any_append, ← List.contains_eq_any_beq, q3]
            simp; exact fun h => hc h.symm⟩)
          clear hp q2 q3 q3' hc
          go_wp2
          exact ⟨⟨k + 1, f, A, c, o, r, by omega, by omega, by omega, by go_num, rfl, rfl, hio, HQ, Lib.hid (fun _ => by omega), ho, hA, kr⟩, by simp [intOf]; omega⟩
    · have HR := hq2.out (by omega)
      have HE := hio.out
      rw [HR, List.append_nil] at HE
      subst HE
      clear hq hq2 hio
      go_wp2
      exact H.out A c _ ho hA kr
end Go.Proofs.YtcbmiidffcbikaaDoor
