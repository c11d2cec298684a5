/- The document's Wrong of any status. Range sets that are told: what is parsed of them. -/
import Derived.Test.YtnmafahbdfilcaaGreatDoorPC32
import Derived.Test.YtnmafahbdfilcaaGreatDoorPC29
import Derived.Test.YtnmafahbdfilcaaGreatDoorPC20
namespace Go.Proofs.YtnmafahbdfilcaaGreatDoor
/-! ### The document's Wrong of any status. -/
section
open Go.RowKit Go.Shelf
set_option linter.unusedVariables false
set_option linter.unusedSimpArgs false
set_option maxRecDepth 100000
/-- The result's struct written, one of its own ahead of it. -/
theorem plan_fin2 {w w2 : World} {pb rb tt : Nat} {A A1 A2 : Option Addr} {ps : List Pt} {z z1 z2 : Int} {s1 s2 L : ByteArray} {n n1 n2 c1 c2 c : Nat} {d d1 d2 : Bool} (k : Kp [] w w2) (h1 : w.heap.size ≤ rb) (h2 : rb < pb) (bp : Bk w2 pb tt [.int .i64 z1, .string s1, .slice A1 n1 c1, .bool d1]) (br : Bk w2 rb tt [.int .i64 z2, .string s2, .slice A2 n2 c2, .bool d2]) (r : Rd w2 [] A (ps.flatMap ptV)) :
    ∃ W', (((((w2.setCell ⟨pb, 1, none⟩ (.string L)).setCell ⟨rb, 0, none⟩ (.int .i64 z)).setCell ⟨rb, 1, none⟩ (.string L)).setCell ⟨rb, 2, none⟩ (.slice A n c)).setCell ⟨rb, 3, none⟩ (.bool d)) = W' ∧ Kp [] w W' ∧ Bk W' rb tt [.int .i64 z, .string L, .slice A n c, .bool d] ∧ Rd W' [] A (ps.flatMap ptV) := by
  have kk : Kp [rb, pb] w2 (((((w2.setCell ⟨pb, 1, none⟩ (.string L)).setCell ⟨rb, 0, none⟩ (.int .i64 z)).setCell ⟨rb, 1, none⟩ (.string L)).setCell ⟨rb, 2, none⟩ (.slice A n c)).setCell ⟨rb, 3, none⟩ (.bool d)) :=
    (((((Kp.refl _ _).setCell (p := ⟨pb, 1, none⟩) (.inl (by simp)) _).setCell (p := ⟨rb, 0, none⟩) (.inl (by simp)) _).setCell (p := ⟨rb, 1, none⟩) (.inl (by simp)) _).setCell (p := ⟨rb, 2, none⟩) (.inl (by simp)) _).setCell (p := ⟨rb, 3, none⟩) (.inl (by simp)) _
  refine ⟨_, rfl, k.thn kk (fun s hs => .inr (by simp at hs; omega)), ?_, ((rd_notP (rd_notP r bp) br).kp kk (fun s hs => .inl hs)).sub (by simp)⟩
  exact ((((((br.far (p := ⟨pb, 1, none⟩) (by simp; omega) (.string L)).set_ 0 _).set_ 1 _).set_ 2 _).set_ 3 _).cast rfl)
section
variable {R : Ending → World → Prop} {w : World}
set_option maxHeartbeats 4000000 in
theorem rwrong27_any (s now : Int)
    (h : ∀ A n c w', Kp [] w w' → Hid (Rd w' [] A ((partsG (wrS s) 0 [] []).flatMap ptV) ∧ (partsG (wrS s) 0 [] []).length = n ∧ n ≤ 21) → R (.returned (.agg #[.int .i64 (wrS s), .string (S (wrH s now)), .slice A n c, .bool true])) w') :
    Calls Tryz.prog 37 #[.int .i64 s, .int .i64 now] w R := by
  have H := Lib.hid h
  have hbd := wrS_bd s
  have hpo := (wr_parts s).1
  have HP : Hid (∀ (R : Ending → World → Prop) (w1 : World), (∀ A n c w', Kp [] w1 w' → Hid (Rd w' [] A ((partsG (wrS s) 0 [] []).flatMap ptV) ∧ (partsG (wrS s) 0 [] []).length = n ∧ n ≤ 21) → R (.returned (.slice A n c)) w') → Calls Tryz.prog 56 #[.int .i64 (wrS s), .slice none 0 0, .agg #[.int .i64 0, .int .i64 0, .int .i64 0, .string ⟨#[]⟩]] w1 R) := Lib.hid (fun R w1 h => rparts27_any (wrS s) 0 0 0 [] [] (by omega) Rd.nil rfl (by omega) (by simp) (by omega) (by omega) (by simp) h)
  have HH : Hid (∀ (R : Ending → World → Prop) (w1 : World) (A : Option Addr) (n c : Nat), Hid (Rd w1 [] A ((partsG (wrS s) 0 [] []).flatMap ptV) ∧ (partsG (wrS s) 0 [] []).length = n ∧ n ≤ 21) → (∀ w', Kp [] w1 w' → R (.returned (.string (S (wrH s now)))) w') → Calls Tryz.prog 57 #[.int .i64 (wrS s), .slice none 0 0, .slice A n c, .agg #[.int .i64 0, .int .i64 0, .int .i64 0, .string ⟨#[]⟩], .int .i64 1, .bool true, .int .i64 now] w1 R) := Lib.hid (fun R w1 A n c r h => rhead27_any (wrS s) 1 true 0 0 0 [] now [] (partsG (wrS s) 0 [] []) Rd.nil rfl (by omega) (by simp) r.out.1 r.out.2.1 (by have := r.out.2.2; omega) (fun p hp => (hpo p hp).2) (by omega) (by omega) (by omega) (by omega) (by omega) (by simp) h)
  have hs : (wrS s = s ∧ (s = 414 ∨ s = 431 ∨ s = 501 ∨ s = 505)) ∨ (wrS s = 400 ∧ (s != 414) = true ∧ (s != 431) = true ∧ (s != 501) = true ∧ (s != 505) = true) := by
    unfold wrS
    split
    · left; omega
    · right; simp; omega
  obtain ⟨hd, hhd⟩ : ∃ hd, wrH s now = hd := ⟨_, rfl⟩
  rw [hhd] at H HH
  clear h hhd hpo
  generalize partsG (wrS s) 0 [] [] = ps at H HP HH
  generalize wrS s = z at H HP HH hs hbd
  clear hbd
  rcases hs with ⟨rfl, rfl | rfl | rfl | rfl⟩ | ⟨rfl, h1, h2, h3, h4⟩
  all_goals
    go_enter Tryz.func37, Tryz.ntmps37
    go_upto_region 4 with (go_at_call 56; ((refine HP.out _ _ ?_); intro A n c w1 k1 r1))
    refine gen_worldC (fun W => ∃ pb, w1.heap.size = pb ∧ Hid (Kp [] w W ∧ Bk W pb 91 [.int .i64 _, .string ⟨#[]⟩, .slice A n c, .bool true] ∧ (Rd W [] A (ps.flatMap ptV) ∧ ps.length = n ∧ n ≤ 21) ∧ Bk W w.heap.size 91 [.int .i64 0, .string ⟨#[]⟩, .slice none 0 0, .bool false]) ∧ w.heap.size < pb) ⟨_, rfl, Lib.hid ⟨(((Kp.refl _ _).alloc _).trans k1).alloc _, (Bk.new' _ _ _).cast rfl, ⟨r1.out.1.kp (S := []) ((Kp.refl _ _).alloc _) (by simp), r1.out.2⟩, (((Bk.new' _ _ _).kp k1 (by simp)).alloc _).cast rfl⟩, by have := k1.size; simp at this; omega⟩ ?_
    rintro W ⟨pb, hpb, hW, hle⟩
    rw [hpb]
    obtain ⟨rb, hrb⟩ : ∃ rb, w.heap.size = rb := ⟨_, rfl⟩
    rw [hrb] at hW hle ⊢
    clear hpb r1 k1
    obtain ⟨⟨x0, x1, x2, x3⟩, ⟨y0, y1, y2, y3⟩⟩ := bk4r hW.out.2.1
    go_wp2_with (go_at_call 57; ((refine HH.out _ _ _ _ _ (Lib.hid hW.out.2.2.1) ?_); intro w2 k2; have HW2 : Hid (Kp [] w w2 ∧ Bk w2 pb 91 [.int .i64 _, .string ⟨#[]⟩, .slice A n c, .bool true] ∧ (Rd w2 [] A (ps.flatMap ptV) ∧ ps.length = n ∧ n ≤ 21) ∧ Bk w2 rb 91 [.int .i64 0, .string ⟨#[]⟩, .slice none 0 0, .bool false]) := Lib.hid ⟨hW.out.1.trans k2, hW.out.2.1.kp k2 (by simp), ⟨hW.out.2.2.1.1.kp k2 (by simp), hW.out.2.2.1.2⟩, hW.out.2.2.2.kp k2 (by simp)⟩; clear k2; obtain ⟨⟨u0, u1, u2, u3⟩, ⟨v0, v1, v2, v3⟩⟩ := bk4r HW2.out.2.1; obtain ⟨⟨s0, s1, s2, s3⟩, ⟨t0, t1, t2, t3⟩⟩ := bk4r HW2.out.2.2.2))
    obtain ⟨W', hW', kF, bF, rF⟩ := plan_fin2 (L := S hd) (A := A) (n := n) (c := c) (d := true) HW2.out.1 (by omega) hle HW2.out.2.1 HW2.out.2.2.2 HW2.out.2.2.1.1
    rw [hW']
    obtain ⟨⟨f0, f1, f2, f3⟩, _⟩ := bk4r bF
    exact bodyPost_ret (v := .agg #[.int .i64 _, .string (S hd), .slice A n c, .bool true]) (by simp [results, Tryz.results37, go_sem, f0, f1, f2, f3]; try rfl) rfl (H.out A n c _ kF (Lib.hid ⟨rF, HW2.out.2.2.1.2⟩))
end
end
/-! ### Range sets that are told: what is parsed of them. -/
section
open Go.RowKit Go.Shelf
set_option linter.unusedVariables false
set_option linter.unusedSimpArgs false
set_option maxRecDepth 100000

theorem decL_ne (n : Nat) : decL n ≠ [] := by
  by_cases h : n < 10
  · rw [decL_small h]; simp
  · rw [decL_big h]; simp
theorem dig_of {k : Nat} (h : k < 10) : digB (UInt8.ofNat (48 + k)) = true ∧ (UInt8.ofNat (48 + k)).toNat = 48 + k := by
  have e : (UInt8.ofNat (48 + k)).toNat = 48 + k := by rw [UInt8.toNat_ofNat']; omega
  exact ⟨by unfold digB; rw [e]; simp; omega, e⟩
theorem decL_spec (n : Nat) : (decL n).all digB = true ∧ numN (decL n) = n := by
  induction n using Nat.strongRecOn with
  | ind n ih =>
    by_cases h : n < 10
    · rw [decL_small h]
      obtain ⟨h1, h2⟩ := dig_of h
      exact ⟨by rw [List.all_cons, h1]; rfl, by simp only [numN, List.foldl_cons, List.foldl_nil, h2]; omega⟩
    · rw [decL_big h]
      obtain ⟨h1, h2⟩ := dig_of (Nat.mod_lt n (by decide : 0 < 10))
      obtain ⟨i1, i2⟩ := ih (n / 10) (by omega)
      exact ⟨by rw [List.all_append, i1, List.all_cons, h1]; rfl, by rw [numN_snoc, i2, h2]; omega⟩
theorem numR_dec {n : Nat} (h : (n : Int) ≤ mostR) : numR (decL n) mostR = ((n : Int), true) := by
  obtain ⟨h1, h2⟩ := decL_spec n
  rw [numR_good (decL_ne n) h1 (by rw [h2]; exact h), h2]
theorem not_of_dig {l : List UInt8} {c : UInt8} (h : l.all digB = true) (hc : digB c = false) : l.contains c = false := by
  rw [List.contains_eq_any_beq, List.any_eq_false]
  intro x hx
  have := List.all_eq_true.1 h x hx
  intro e
  have e : x = c := by simpa using (beq_iff_eq.1 e).symm
  rw [e] at this; rw [this] at hc; cases hc
theorem dec_not (n : Nat) {c : UInt8} (hc : digB c = false) : (decL n).contains c = false := not_of_dig (decL_spec n).1 hc
theorem cut_at {c : UInt8} (p q : List UInt8) (h : p.contains c = false) : bef c (p ++ c :: q) = p ∧ aft c (p ++ c :: q) = q ∧ (p ++ c :: q).contains c = true := by
  induction p with
  | nil => simp [bef, aft]
  | cons x p ih =>
    rw [List.contains_cons, Bool.or_eq_false_iff] at h
    have e : ¬ x = c := by have := h.1; simp at this; exact Ne.symm this
    obtain ⟨h1, h2, h3⟩ := ih h.2
    rw [List.cons_append, bef, aft, if_neg e, if_neg e, h1, h2, List.contains_cons, h3, Bool.or_true]
    exact ⟨rfl, rfl, rfl⟩
theorem readM_mk (p q : List UInt8) (h : p.contains 45 = false) : readM (p ++ 45 :: q) = readPQ p q := by
  obtain ⟨h1, h2, h3⟩ := cut_at p q h
  unfold readM
  rw [h3, h1, h2]; rfl
theorem dropWhile_id {l : List UInt8} (h : l.any blkB = false) : l.dropWhile blkB = l := by
  cases l with
  | nil => rfl
  | cons x r =>
    rw [List.any_cons, Bool.or_eq_false_iff] at h
    rw [List.dropWhile_cons, h.1]; rfl
theorem trim_id {l : List UInt8} (h : l.any blkB = false) : trimL l = l := by
  rw [trimL_eq, dropWhile_id h]
  unfold rdropB
  rw [dropWhile_id (by rw [List.any_reverse]; exact h), List.reverse_reverse]
theorem oneI_id {l : List UInt8} (h : l.any blkB = false) (hn : l ≠ []) : oneI l = [l] := by
  unfold oneI; rw [trim_id h, if_neg hn]
theorem dec_blk (n : Nat) : (decL n).any blkB = false := by
  rw [List.any_eq_false]
  intro x hx
  have h := List.all_eq_true.1 (decL_spec n).1 x hx
  intro e
  unfold digB at h
  unfold blkB at e
  simp at h e
  rcases e with rfl | rfl <;> simp at h
/-- A range set's word, and what stands behind it. -/
theorem parseM_at {u X : List UInt8} {n : Int} {its : List (List UInt8)} (hu : u.contains 61 = false) (hl : lowL u = bytesL) (hn : 0 ≤ n) (hi : itemsL X = its) (h1 : 1 ≤ its.length) (h4 : its.length ≤ 4) : parseM (u ++ 61 :: X) n = goS n its := by
  obtain ⟨a, b, c⟩ := cut_at u X hu
  unfold parseM okP
  rw [a, b, c, hl, hi]
  simp [hn, h1, h4]
theorem goS_one {n : Int} {x : List UInt8} {y : Int × Int} (h : readM x = some y) : goS n [x] = some (if 0 < (spanM y n).2 then [spanM y n] else []) := by
  show stepS n (some []) x = _
  unfold stepS; rw [h]; rfl
theorem goS_two {n : Int} {x x' : List UInt8} {y y' : Int × Int} (h : readM x = some y) (h' : readM x' = some y') (e : ¬ 0 < (spanM y n).2) (e' : ¬ 0 < (spanM y' n).2) : goS n [x, x'] = some [] := by
  show stepS n (stepS n (some []) x) x' = _
  unfold stepS; rw [h, h']; simp [e, e']
def bytesK : List UInt8 := [98, 121, 116, 101, 115]
theorem low_bytes : lowL [98, 121, 116, 101, 115] = bytesL := by decide
theorem low_Bytes : lowL [66, 121, 116, 101, 115] = bytesL := by decide
theorem nc {p q : List UInt8} {c : UInt8} (hp : p.contains c = false) (hq : q.contains c = false) : (p ++ q).contains c = false := by
  rw [List.contains_eq_any_beq, List.any_append, ← List.contains_eq_any_beq, ← List.contains_eq_any_beq, hp, hq]; rfl
theorem ncc {q : List UInt8} {x c : UInt8} (hp : (c == x) = false) (hq : q.contains c = false) : (x :: q).contains c = false := by
  rw [List.contains_cons, hp, hq]; rfl
theorem item_one {p q : List UInt8} (hp : p.contains 44 = false) (hq : q.contains 44 = false) (bp : p.any blkB = false) (bq : q.any blkB = false) : itemsL (p ++ 45 :: q) = [p ++ 45 :: q] := by
  rw [itemsL_none (nc hp (ncc (by decide) hq)), oneI_id _ (by simp)]
  rw [List.any_append, bp, List.any_cons, bq]; rfl
/-- One span, both ends told. -/
theorem parse_ab {u : List UInt8} (F G N : Nat) (hu : u.contains 61 = false) (hl : lowL u = bytesL) (h1 : F ≤ G) (h2 : F < N) (hG : (G : Int) ≤ mostR) : parseM (u ++ 61 :: (decL F ++ 45 :: decL G)) N = some [((F : Int), min ((G : Int) + 1) N - F)] := by
  have hF : (F : Int) ≤ mostR := by omega
  rw [parseM_at (its := [decL F ++ 45 :: decL G]) hu hl (by omega) (item_one (dec_not F (by decide)) (dec_not G (by decide)) (dec_blk F) (dec_blk G)) (by simp) (by simp)]
  have hr : readM (decL F ++ 45 :: decL G) = some ((F : Int), (G : Int)) := by
    rw [readM_mk _ _ (dec_not F (by decide)), pq6 (decL_ne F) (decL_ne G) (numR_dec hF) (numR_dec hG), if_pos (by omega)]
  have hs : spanM ((F : Int), (G : Int)) N = ((F : Int), min ((G : Int) + 1) N - F) := by
    unfold spanM; rw [if_neg (by simp), if_pos (by simp)]
    exact Prod.ext rfl (by simp only; omega)
  rw [goS_one hr, hs, if_pos (by simp only; omega)]
theorem parse_a {u : List UInt8} (F N : Nat) (hu : u.contains 61 = false) (hl : lowL u = bytesL) (h2 : F < N) (hF : (F : Int) ≤ mostR) : parseM (u ++ 61 :: (decL F ++ [45])) N = some [((F : Int), (N : Int) - F)] := by
  rw [parseM_at (its := [decL F ++ 45 :: []]) hu hl (by omega) (item_one (dec_not F (by decide)) rfl (dec_blk F) rfl) (by simp) (by simp)]
  have hr : readM (decL F ++ 45 :: []) = some ((F : Int), -1) := by
    rw [readM_mk _ _ (dec_not F (by decide)), pq4 (decL_ne F) (numR_dec hF)]
  have hs : spanM ((F : Int), -1) N = ((F : Int), (N : Int) - F) := by
    unfold spanM; rw [if_neg (by simp), if_neg (by simp)]
    exact Prod.ext rfl (by simp only; omega)
  rw [goS_one hr, hs, if_pos (by simp only; omega)]
theorem parse_b {u : List UInt8} (G N : Nat) (hu : u.contains 61 = false) (hl : lowL u = bytesL) (h2 : G ≤ N) (h0 : 0 < G) (hG : (G : Int) ≤ mostR) : parseM (u ++ 61 :: ([] ++ 45 :: decL G)) N = some [((N : Int) - G, (G : Int))] := by
  rw [parseM_at (its := [[] ++ 45 :: decL G]) hu hl (by omega) (item_one rfl (dec_not G (by decide)) rfl (dec_blk G)) (by simp) (by simp)]
  have hr : readM ([] ++ 45 :: decL G) = some (-1, (G : Int)) := by
    rw [readM_mk _ _ rfl, pq2 (decL_ne G) (numR_dec hG)]
  have hs : spanM (-1, (G : Int)) N = ((N : Int) - G, (G : Int)) := by
    unfold spanM; rw [if_pos (by simp)]
    exact Prod.ext (by simp only; omega) (by simp only; omega)
  rw [goS_one hr, hs, if_pos (by simp only; omega)]
theorem parse_0 {u : List UInt8} (N : Nat) (hu : u.contains 61 = false) (hl : lowL u = bytesL) (hN : (N : Int) ≤ mostR) : parseM (u ++ 61 :: ((decL N ++ 45 :: []) ++ 44 :: [45, 48])) N = some [] := by
  have hi : itemsL ((decL N ++ 45 :: []) ++ 44 :: [45, 48]) = [decL N ++ 45 :: [], [] ++ 45 :: [48]] := by
    rw [itemsL_cut _ _ (nc (dec_not N (by decide)) (by decide)), oneI_id _ (by simp)]
    · rfl
    · rw [List.any_append, dec_blk]; rfl
  rw [parseM_at hu hl (by omega) hi (by simp) (by simp)]
  have h1 : readM (decL N ++ 45 :: []) = some ((N : Int), -1) := by
    rw [readM_mk _ _ (dec_not N (by decide)), pq4 (decL_ne N) (numR_dec hN)]
  have h2 : readM ([] ++ 45 :: [48]) = some (-1, 0) := by decide
  refine goS_two h1 h2 ?_ ?_
  · unfold spanM; rw [if_neg (by simp), if_neg (by simp)]; simp
  · unfold spanM; rw [if_pos (by simp)]; simp only; omega
end
end Go.Proofs.YtnmafahbdfilcaaGreatDoor
