/- The items of a list: lex.Items, and the document's. -/
import Derived.Test.YtjjigngighneeaaDoorDec
import Derived.Test.YtjjigngighneeaaDoorLex3
namespace Go.Proofs.YtjjigngighneeaaDoor
open Go.RowKit Go.Shelf
set_option linter.unusedVariables false
set_option linter.unusedSimpArgs false
set_option maxRecDepth 100000

/-- One piece's item, where it has one. -/
def oneI (p : List UInt8) : List (List UInt8) := if trimL p = [] then [] else [trimL p]
def itemsL (l : List UInt8) : List (List UInt8) := (spl 44 l).flatMap oneI
theorem itemsL_none {p : List UInt8} (h : p.contains 44 = false) : itemsL p = oneI p := by
  unfold itemsL; rw [spl_eq, h]; simp
theorem itemsL_cut (p r : List UInt8) (h : p.contains 44 = false) : itemsL (p ++ 44 :: r) = oneI p ++ itemsL r := by
  have hb : bef 44 (p ++ 44 :: r) = p ∧ aft 44 (p ++ 44 :: r) = r ∧ (p ++ 44 :: r).contains 44 = true := by
    induction p with
    | nil => simp [bef, aft]
    | cons x p ih =>
      rw [List.contains_cons, Bool.or_eq_false_iff] at h
      have e : ¬ x = 44 := by have := h.1; simp at this; exact Ne.symm this
      obtain ⟨h1, h2, h3⟩ := ih h.2
      rw [List.cons_append, bef, aft, if_neg e, if_neg e, h1, h2, List.contains_cons, h3, Bool.or_true]
      exact ⟨rfl, rfl, rfl⟩
  obtain ⟨h1, h2, h3⟩ := hb
  unfold itemsL
  rw [spl_eq, h3, h1, h2]; simp
theorem flat_snocI {l : List (List UInt8)} {k : Nat} {x : List UInt8} (hx : l[k]? = some x) : (l.take (k + 1)).flatMap oneI = (l.take k).flatMap oneI ++ oneI x := by
  have hk : k < l.length := (List.getElem?_eq_some_iff.1 hx).1
  have e : l[k] = x := (List.getElem?_eq_some_iff.1 hx).2
  rw [List.take_succ_eq_append_getElem hk, e]
  simp
theorem trim_len (p : List UInt8) : (trimL p).length ≤ p.length := by
  rw [trimL_eq]
  unfold rdropB
  rw [List.length_reverse]
  have h1 : ((List.dropWhile blkB p).reverse.dropWhile blkB).length ≤ (List.dropWhile blkB p).reverse.length := (List.dropWhile_sublist _).length_le
  have h2 : (List.dropWhile blkB p).length ≤ p.length := (List.dropWhile_sublist _).length_le
  rw [List.length_reverse] at h1
  omega
theorem oneI_len (p : List UInt8) : (oneI p).length ≤ 1 := by unfold oneI; split <;> simp
theorem flat_one_len (ps : List (List UInt8)) : (ps.flatMap oneI).length ≤ ps.length := by
  induction ps with
  | nil => simp
  | cons p ps ih => rw [List.flatMap_cons, List.length_append, List.length_cons]; have := oneI_len p; omega
theorem itemsL_len (l : List UInt8) : (itemsL l).length ≤ l.length + 1 := by
  refine Nat.le_trans (flat_one_len _) ?_
  rw [spl_len]
  have := List.count_le_length (a := (44 : UInt8)) (l := l)
  omega
theorem items_mem_len {l p : List UInt8} (h : p ∈ itemsL l) : p.length ≤ l.length := by
  unfold itemsL at h
  rw [List.mem_flatMap] at h
  obtain ⟨q, hq, hp⟩ := h
  have h1 := spl_mem_len 44 l q hq
  have h2 := trim_len q
  unfold oneI at hp
  split at hp
  · cases hp
  · simp at hp; subst hp; omega
theorem items_mem_ne {l p : List UInt8} (h : p ∈ itemsL l) : p ≠ [] := by
  unfold itemsL at h
  rw [List.mem_flatMap] at h
  obtain ⟨q, hq, hp⟩ := h
  unfold oneI at hp
  split at hp
  · cases hp
  · simp at hp; subst hp; assumption
theorem app_one {w : World} {x : List UInt8} : Rd (w.alloc (.cells #[.string (S x)] 9)) [] (some ⟨w.heap.size, 0, none⟩) (strs [x]) := Rd.of_bk (Bk.newAt rfl _ _) (by simp)

set_option maxHeartbeats 1000000 in
theorem items_any {R : Ending → World → Prop} (l : List UInt8) (w : World) (hl : l.length ≤ 1000000) (hm : Ml w)
    (h : ∀ A c w', Ow w' 9 1 A (itemsL l).length c (strs (itemsL l)) → (∀ b ∈ bks A, w.heap.size ≤ b) → Kp [] w w' → R (.returned (.slice A (itemsL l).length c)) w') :
    Calls Tryd.prog 54 #[.string (S l)] w R := by
  have H := Lib.hid h
  clear h
  have HI := Lib.hid (show itemsL l = (spl 44 l).flatMap oneI from rfl)
  have HSL := Lib.hid (spl_mem_len 44 l)
  have hcnt : (spl 44 l).length ≤ 1000001 := by
    rw [spl_len]
    have := List.count_le_length (a := (44 : UInt8)) (l := l)
    omega
  go_enter Tryd.func54, Tryd.ntmps54
  go_wp2_with (go_at_call 81; ((refine split_any l 44 hm hl ?_); intro g w1 hg hb k1))
  have hr := Rd.of_bk (N := []) hb (by simp)
  clear hb
  generalize itemsL l = its at *
  generalize spl 44 l = ps at *
  go_loopw [3, 9] (fun sv iv wr => ∃ (k m : Nat) (A : Option Addr) (c : Nat), k ≤ ps.length ∧ iv = .int .i64 k ∧ sv = .slice A m c ∧ m ≤ k ∧ Hid (m = ((ps.take k).flatMap oneI).length) ∧ Ow wr 9 1 A m c (strs ((ps.take k).flatMap oneI)) ∧ (∀ b ∈ bks A, w1.heap.size ≤ b) ∧ Kp [] w1 wr) (fun _ iv _ => ps.length - (intOf iv).toNat)
  case atStart => exact ⟨0, 0, none, 0, Nat.zero_le _, rfl, rfl, Nat.zero_le _, Lib.hid rfl, Ow.nil, by simp [bks], Kp.refl _ _⟩
  case round =>
    obtain ⟨k, m, A, c, hk, rfl, rfl, hmk, hmm, ho, hA, kr⟩ := hrel
    by_cases hlt : k < ps.length
    · obtain ⟨x, hx⟩ : ∃ x, ps[k]? = some x := ⟨_, List.getElem?_eq_getElem hlt⟩
      have hxl : x.length ≤ 1000000 := Nat.le_trans (HSL.out x (List.mem_of_getElem? hx)) hl
      have hsn := flat_snocI hx
      obtain ⟨b0, off, hg0, _, hgl, hc⟩ := hr (by intro e; simp [strs] at e; subst e; simp at hlt)
      obtain rfl : b0 = g := by injection hg0 with h; injection h with h _; exact h.symm
      obtain rfl : off = 0 := by injection hg0 with h; injection h with _ h; exact h.symm
      have hc1 : wr.cell? ⟨b0, k, none⟩ = some (.string (S x)) := by
        have := hc k (.string (S x)) (by rw [strs_get, hx]; rfl)
        rw [Nat.zero_add] at this
        rw [kr.cell (p := ⟨b0, k, none⟩) hgl (by simp)]; exact this
      clear hc hg0 hgl hr
      by_cases ht : trimL x = []
      · have HO := Lib.hid (show oneI x = [] by unfold oneI; rw [if_pos ht])
        have HT := Lib.hid ht
        clear ht
        go_wp2_with (go_at_call 53; ((refine trim_any x _ hxl ?_); intro w2 k2; rw [HT.out]))
        refine ⟨⟨k + 1, m, A, c, by omega, by go_num, rfl, by omega, Lib.hid ?_, ?_, hA, kr.trans k2⟩, by simp [intOf]; omega⟩
        · rw [hsn, HO.out, List.append_nil]; exact hmm.out
        · rw [hsn, HO.out, List.append_nil]; exact ho.kp k2 (by simp)
      · have HO := Lib.hid (show oneI x = [trimL x] by unfold oneI; rw [if_neg ht])
        obtain ⟨t, htx⟩ : ∃ t, trimL x = t := ⟨_, rfl⟩
        rw [htx] at HO ht
        have HT := Lib.hid htx
        have hte : t.isEmpty = false := by simpa using ht
        clear ht htx
        go_wp2_with (first | (go_at_call 53; ((refine trim_any x _ hxl ?_); intro w2 k2; rw [HT.out]; have ho2 := ho.kp k2 (by simp); have k12 := kr.trans k2)) | (at_builtin; refine wpList_app _ rfl (.tmp 17) (.tmp 19) _ rfl elt_str A m c _ rfl (ho2.alloc _) [] (some ⟨w2.heap.size, 0, none⟩) 1 1 (strs [t]) rfl app_one rfl (strs_one _) (by omega) ?_; intro A2 c2 w3 ho3 hk3 hA3))
        refine ⟨⟨k + 1, m + 1, A2, c2, by omega, by go_num, rfl, by omega, Lib.hid ?_, ho3.cast rfl ?_, bks_app hA3 hA (by have := k12.size; simp; omega), (k12.alloc _).thn hk3 (fun s hs => .inr (hA s hs))⟩, by simp [intOf]; omega⟩
        · rw [hsn, HO.out, List.length_append, ← hmm.out]; rfl
        · rw [hsn, HO.out, strs_append]
    · have e : ps.take k = ps := List.take_of_length_le (by omega)
      rw [e, ← HI.out] at hmm ho
      have HM := hmm.out
      clear e
      subst HM
      go_wp2
      exact H.out A c _ ho (fun b hb => Nat.le_trans k1.size (hA b hb)) (k1.trans kr)

end Go.Proofs.YtjjigngighneeaaDoor
