/- Range sets that are told: what is parsed of them. -/
import Derived.Test.YtcbmiidffcbikaaDoorRng2
namespace Go.Proofs.YtcbmiidffcbikaaDoor
open Go.RowKit Go.Shelf
set_option linter.unusedVariables false
set_option linter.unusedSimpArgs false
set_option maxRecDepth 100000

theorem decL_ne (n : Nat) : decL n ≠ [] := by
  by_cases h : n < 10
  · rw [decL_small h]; simp
  · rw [decL_big h]; simp
theorem dig_of {k : Nat} (h : k < 10) : digB (UInt8.ofNat (48 + k)) = true ∧ (UInt8.ofNat (48 + k)).toNat = 48 + k := by
  have e : (UInt8.ofNat (48 + k)).toNat = 48 + k := by rw [UInt8.toNat_ofNat']; omega
  exact ⟨by unfold digB; rw [e]; simp; omega, e⟩
theorem decL_spec (n : Nat) : (decL n).all digB = true ∧ numN (decL n) = n := by
  induction n using Nat.strongRecOn with
  | ind n ih =>
    by_cases h : n < 10
    · rw [decL_small h]
      obtain ⟨h1, h2⟩ := dig_of h
      exact ⟨by rw [List.all_cons, h1]; rfl, by simp only [numN, List.foldl_cons, List.foldl_nil, h2]; omega⟩
    · rw [decL_big h]
      obtain ⟨h1, h2⟩ := dig_of (Nat.mod_lt n (by decide : 0 < 10))
      obtain ⟨i1, i2⟩ := ih (n / 10) (by omega)
      exact ⟨by rw [List.all_append, i1, List.all_cons, h1]; rfl, by rw [numN_snoc, i2, h2]; omega⟩
theorem numR_dec {n : Nat} (h : (n : Int) ≤ mostR) : numR (decL n) mostR = ((n : Int), true) := by
  obtain ⟨h1, h2⟩ := decL_spec n
  rw [numR_good (decL_ne n) h1 (by rw [h2]; exact h), h2]
theorem not_of_dig {l : List UInt8} {c : UInt8} (h : l.all digB = true) (hc : digB c = false) : l.contains c = false := by
  rw [List.contains_eq_any_beq, List.any_eq_false]
  intro x hx
  have := List.all_eq_true.1 h x hx
  intro e
  have e : x = c := by simpa using (beq_iff_eq.1 e).symm
  rw [e] at this; rw [this] at hc; cases hc
theorem dec_not (n : Nat) {c : UInt8} (hc : digB c = false) : (decL n).contains c = false := not_of_dig (decL_spec n).1 hc
theorem cut_at {c : UInt8} (p q : List UInt8) (h : p.contains c = false) : bef c (p ++ c :: q) = p ∧ aft c (p ++ c :: q) = q ∧ (p ++ c :: q).contains c = true := by
  induction p with
  | nil => simp [bef, aft]
  | cons x p ih =>
    rw [List.contains_cons, Bool.or_eq_false_iff] at h
    have e : ¬ x = c := by have := h.1; simp at this; exact Ne.symm this
    obtain ⟨h1, h2, h3⟩ := ih h.2
    rw [List.cons_append, bef, aft, if_neg e, if_neg e, h1, h2, List.contains_cons, h3, Bool.or_true]
    exact ⟨rfl, rfl, rfl⟩
theorem readM_mk (p q : List UInt8) (h : p.contains 45 = false) : readM (p ++ 45 :: q) = readPQ p q := by
  obtain ⟨h1, h2, h3⟩ := cut_at p q h
  unfold readM
  rw [h3, h1, h2]; rfl
theorem dropWhile_id {l : List UInt8} (h : l.any blkB = false) : l.dropWhile blkB = l := by
  cases l with
  | nil => rfl
  | cons x r =>
    rw [List.any_cons, Bool.or_eq_false_iff] at h
    rw [List.dropWhile_cons, h.1]; rfl
theorem trim_id {l : List UInt8} (h : l.any blkB = false) : trimL l = l := by
  rw [trimL_eq, dropWhile_id h]
  unfold rdropB
  rw [dropWhile_id (by rw [List.any_reverse]; exact h), List.reverse_reverse]
theorem oneI_id {l : List UInt8} (h : l.any blkB = false) (hn : l ≠ []) : oneI l = [l] := by
  unfold oneI; rw [trim_id h, if_neg hn]
theorem dec_blk (n : Nat) : (decL n).any blkB = false := by
  rw [List.any_eq_false]
  intro x hx
  have h := List.all_eq_true.1 (decL_spec n).1 x hx
  intro e
  unfold digB at h
  unfold blkB at e
  simp at h e
  rcases e with rfl | rfl <;> simp at h
/-- A range set's word, and what stands behind it. -/
theorem parseM_at {u X : List UInt8} {n : Int} {its : List (List UInt8)} (hu : u.contains 61 = false) (hl : lowL u = bytesL) (hn : 0 ≤ n) (hi : itemsL X = its) (h1 : 1 ≤ its.length) (h4 : its.length ≤ 4) : parseM (u ++ 61 :: X) n = goS n its := by
  obtain ⟨a, b, c⟩ := cut_at u X hu
  unfold parseM okP
  rw [a, b, c, hl, hi]
  simp [hn, h1, h4]
theorem goS_one {n : Int} {x : List UInt8} {y : Int × Int} (h : readM x = some y) : goS n [x] = some (if 0 < (spanM y n).2 then [spanM y n] else []) := by
  show stepS n (some []) x = _
  unfold stepS; rw [h]; rfl
theorem goS_two {n : Int} {x x' : List UInt8} {y y' : Int × Int} (h : readM x = some y) (h' : readM x' = some y') (e : ¬ 0 < (spanM y n).2) (e' : ¬ 0 < (spanM y' n).2) : goS n [x, x'] = some [] := by
  show stepS n (stepS n (some []) x) x' = _
  unfold stepS; rw [h, h']; simp [e, e']
def bytesK : List UInt8 := [98, 121, 116, 101, 115]
theorem low_bytes : lowL [98, 121, 116, 101, 115] = bytesL := by decide
theorem low_Bytes : lowL [66, 121, 116, 101, 115] = bytesL := by decide
theorem nc {p q : List UInt8} {c : UInt8} (hp : p.contains c = false) (hq : q.contains c = false) : (p ++ q).contains c = false := by
  rw [List.contains_eq_any_beq, List.any_append, ← List.contains_eq_any_beq, ← List.contains_eq_any_beq, hp, hq]; rfl
theorem ncc {q : List UInt8} {x c : UInt8} (hp : (c == x) = false) (hq : q.contains c = false) : (x :: q).contains c = false := by
  rw [List.contains_cons, hp, hq]; rfl
theorem item_one {p q : List UInt8} (hp : p.contains 44 = false) (hq : q.contains 44 = false) (bp : p.any blkB = false) (bq : q.any blkB = false) : itemsL (p ++ 45 :: q) = [p ++ 45 :: q] := by
  rw [itemsL_none (nc hp (ncc (by decide) hq)), oneI_id _ (by simp)]
  rw [List.any_append, bp, List.any_cons, bq]; rfl
/-- One span, both ends told. -/
theorem parse_ab {u : List UInt8} (F G N : Nat) (hu : u.contains 61 = false) (hl : lowL u = bytesL) (h1 : F ≤ G) (h2 : F < N) (hG : (G : Int) ≤ mostR) : parseM (u ++ 61 :: (decL F ++ 45 :: decL G)) N = some [((F : Int), min ((G : Int) + 1) N - F)] := by
  have hF : (F : Int) ≤ mostR := by omega
  rw [parseM_at (its := [decL F ++ 45 :: decL G]) hu hl (by omega) (item_one (dec_not F (by decide)) (dec_not G (by decide)) (dec_blk F) (dec_blk G)) (by simp) (by simp)]
  have hr : readM (decL F ++ 45 :: decL G) = some ((F : Int), (G : Int)) := by
    rw [readM_mk _ _ (dec_not F (by decide)), pq6 (decL_ne F) (decL_ne G) (numR_dec hF) (numR_dec hG), if_pos (by omega)]
  have hs : spanM ((F : Int), (G : Int)) N = ((F : Int), min ((G : Int) + 1) N - F) := by
    unfold spanM; rw [if_neg (by simp), if_pos (by simp)]
    exact Prod.ext rfl (by simp only; omega)
  rw [goS_one hr, hs, if_pos (by simp only; omega)]
theorem parse_a {u : List UInt8} (F N : Nat) (hu : u.contains 61 = false) (hl : lowL u = bytesL) (h2 : F < N) (hF : (F : Int) ≤ mostR) : parseM (u ++ 61 :: (decL F ++ [45])) N = some [((F : Int), (N : Int) - F)] := by
  rw [parseM_at (its := [decL F ++ 45 :: []]) hu hl (by omega) (item_one (dec_not F (by decide)) rfl (dec_blk F) rfl) (by simp) (by simp)]
  have hr : readM (decL F ++ 45 :: []) = some ((F : Int), -1) := by
    rw [readM_mk _ _ (dec_not F (by decide)), pq4 (decL_ne F) (numR_dec hF)]
  have hs : spanM ((F : Int), -1) N = ((F : Int), (N : Int) - F) := by
    unfold spanM; rw [if_neg (by simp), if_neg (by simp)]
    exact Prod.ext rfl (by simp only; omega)
  rw [goS_one hr, hs, if_pos (by simp only; omega)]
theorem parse_b {u : List UInt8} (G N : Nat) (hu : u.contains 61 = false) (hl : lowL u = bytesL) (h2 : G ≤ N) (h0 : 0 < G) (hG : (G : Int) ≤ mostR) : parseM (u ++ 61 :: ([] ++ 45 :: decL G)) N = some [((N : Int) - G, (G : Int))] := by
  rw [parseM_at (its := [[] ++ 45 :: decL G]) hu hl (by omega) (item_one rfl (dec_not G (by decide)) rfl (dec_blk G)) (by simp) (by simp)]
  have hr : readM ([] ++ 45 :: decL G) = some (-1, (G : Int)) := by
    rw [readM_mk _ _ rfl, pq2 (decL_ne G) (numR_dec hG)]
  have hs : spanM (-1, (G : Int)) N = ((N : Int) - G, (G : Int)) := by
    unfold spanM; rw [if_pos (by simp)]
    exact Prod.ext (by simp only; omega) (by simp only; omega)
  rw [goS_one hr, hs, if_pos (by simp only; omega)]
theorem parse_0 {u : List UInt8} (N : Nat) (hu : u.contains 61 = false) (hl : lowL u = bytesL) (hN : (N : Int) ≤ mostR) : parseM (u ++ 61 :: ((decL N ++ 45 :: []) ++ 44 :: [45, 48])) N = some [] := by
  have hi : itemsL ((decL N ++ 45 :: []) ++ 44 :: [45, 48]) = [decL N ++ 45 :: [], [] ++ 45 :: [48]] := by
    rw [itemsL_cut _ _ (nc (dec_not N (by decide)) (by decide)), oneI_id _ (by simp)]
    · rfl
    · rw [List.any_append, dec_blk]; rfl
  rw [parseM_at hu hl (by omega) hi (by simp) (by simp)]
  have h1 : readM (decL N ++ 45 :: []) = some ((N : Int), -1) := by
    rw [readM_mk _ _ (dec_not N (by decide)), pq4 (decL_ne N) (numR_dec hN)]
  have h2 : readM ([] ++ 45 :: [48]) = some (-1, 0) := by decide
  refine goS_two h1 h2 ?_ ?_
  · unfold spanM; rw [if_neg (by simp), if_neg (by simp)]; simp
  · unfold spanM; rw [if_pos (by simp)]; simp only; omega
end Go.Proofs.YtcbmiidffcbikaaDoor
