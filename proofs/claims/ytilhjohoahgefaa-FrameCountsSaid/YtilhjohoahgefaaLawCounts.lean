/- pantlerlaw05.FrameCounts: the law's walk. -/
import Derived.Test.YtilhjohoahgefaaLawKeeps
namespace Go.Proofs.Ytilhjohoahgefaa
open Go.RowKit
set_option linter.unusedVariables false
set_option linter.unusedSimpArgs false
set_option maxRecDepth 100000
section
variable {R : Ending → World → Prop} {w : World}

/-! ### how many are free behind a call -/
theorem tCount_set {fs : List Fr} {i : Nat} {x x' : Fr} (hx : fs[i]? = some x) : (tCount (fs.set i x') : Int) = tCount fs - (if x.ow = 0 then 1 else 0) + (if x'.ow = 0 then 1 else 0) := by
  have hi : i < fs.length := (List.getElem?_eq_some_iff.1 hx).1
  have e : fs[i] = x := (List.getElem?_eq_some_iff.1 hx).2
  have e1 : fs = fs.take i ++ x :: fs.drop (i + 1) := by
    rw [← e, ← List.drop_eq_getElem_cons hi, List.take_append_drop]
  have e2 : fs.set i x' = fs.take i ++ x' :: fs.drop (i + 1) := by rw [List.set_eq_take_append_cons_drop, if_pos hi]
  have c : ∀ y : Fr, (tCount (fs.take i ++ y :: fs.drop (i + 1)) : Int) = tCount (fs.take i) + (if y.ow = 0 then 1 else 0) + tCount (fs.drop (i + 1)) := by
    intro y
    simp only [tCount, List.filter_append, List.filter_cons, List.length_append]
    by_cases h : y.ow = 0 <;> simp [h] <;> omega
  rw [e2, c x']
  conv => rhs; rw [e1, c x]
  omega
theorem fat_set {fs : List Fr} {f : Int} {x x' : Fr} (hx : fat fs f = some x) : fat (fs.set f.toNat x') f = some x' := by
  obtain ⟨h0, hi⟩ := fat_some hx
  unfold fat
  rw [if_pos h0, get_set hi hi, if_pos rfl]
theorem tCount_all (fs : List Fr) : tCount fs ≤ fs.length := tCount_le fs

/-- Behind a call: as many frames; so many free ones; whose the frame is. -/
structure Cnt (fs : List Fr) (a : Ac) (e : Int) (fs' : List Fr) : Prop where
  len : fs'.length = fs.length
  other : e ≠ 0 ∨ (a.k ≠ 0 ∧ a.k ≠ 1) → tCount fs' = tCount fs
  taken : e = 0 → a.k = 0 → (tCount fs' : Int) = tCount fs - 1
  freed : e = 0 → a.k = 1 → (tCount fs' : Int) = tCount fs + 1 ∧ tOwner fs' a.f = 0
  given : e = 0 → a.k = 2 → tOwner fs' a.f = a.n
theorem env_ne {n : Int} (h : envB n = true) : n ≠ 0 := by intro e; subst e; simp [envB] at h
theorem dDo_cnt {fs : List Fr} (a : Ac) : Cnt fs a (dDo fs a).e (dDo fs a).fs := by
  unfold dDo
  split
  · rename_i hk
    simp only [tAlloc]
    split
    · rename_i he
      cases hq : fs.findIdx? (fun x => x.ow == 0) with
      | none => exact ⟨rfl, fun _ => rfl, fun h => by simp at h, fun h => by simp at h, fun h => by simp at h⟩
      | some i =>
        simp only
        obtain ⟨hi, h0, _⟩ := List.findIdx?_eq_some_iff_getElem.1 hq
        have h0' : fs[i].ow = 0 := by simpa using h0
        have hx : fs[i]? = some fs[i] := List.getElem?_eq_getElem hi
        rw [hx]
        refine ⟨by simp, fun h => by omega, fun _ _ => ?_, fun _ h => by omega, fun _ h => by omega⟩
        rw [tCount_set hx, if_pos h0']
        simp [env_ne he]
    · exact ⟨rfl, fun _ => rfl, fun h => by simp at h, fun h => by simp at h, fun h => by simp at h⟩
  split
  · rename_i _ hk
    simp only [tFree]
    split
    · rename_i hq
      obtain ⟨x, hx, ho, he, hh⟩ := quietE_ok hq
      obtain ⟨h0, hi⟩ := fat_some hx
      refine ⟨by simp, fun h => by omega, fun _ h => by omega, fun _ _ => ⟨?_, ?_⟩, fun _ h => by omega⟩
      · rw [tCount_set hi, if_neg (by rw [ho]; exact env_ne he)]; simp [fz]
      · simp [tOwner, fat_set hx, fz]
    · rename_i hq
      exact ⟨rfl, fun _ => rfl, fun h => absurd h hq, fun h => absurd h hq, fun h => absurd h hq⟩
  split
  · rename_i _ _ hk
    simp only [tGive]
    split
    · rename_i hq
      obtain ⟨x, hx, ho, he⟩ := ownE_ok hq
      obtain ⟨h0, hi⟩ := fat_some hx
      split
      · exact ⟨rfl, fun _ => rfl, fun h => by simp at h, fun h => by simp at h, fun h => by simp at h⟩
      · rename_i hn
        rw [hx]
        simp only
        split
        · exact ⟨rfl, fun _ => rfl, fun h => by simp at h, fun h => by simp at h, fun h => by simp at h⟩
        · refine ⟨by simp, fun _ => ?_, fun _ h => by omega, fun _ h => by omega, fun _ _ => by simp [tOwner, fat_set hx]⟩
          have := tCount_set (x' := { x with ow := a.n }) hi
          rw [if_neg (by rw [ho]; exact env_ne he), if_neg (env_ne (by simpa using hn))] at this
          simp only at this ⊢
          omega
    · rename_i hq
      exact ⟨rfl, fun _ => rfl, fun h => absurd h hq, fun h => absurd h hq, fun h => absurd h hq⟩
  split
  · exact ⟨rfl, fun _ => rfl, fun _ h => by omega, fun _ h => by omega, fun _ h => by omega⟩
  split
  · simp only [tWrite]
    refine ⟨?_, fun _ => ?_, fun _ h => by omega, fun _ h => by omega, fun _ h => by omega⟩
    · repeat' split
      all_goals first | rfl | simp
    · repeat' split
      all_goals first | rfl | skip
      rename_i x hx _
      have := tCount_set (x' := { x with bs := putB x.bs a.o a.s.data.toList }) (fat_some hx).2
      simp only at this ⊢
      omega
  split
  · simp only [tHold]
    refine ⟨?_, fun _ => ?_, fun _ h => by omega, fun _ h => by omega, fun _ h => by omega⟩
    · repeat' split
      all_goals first | rfl | simp
    · repeat' split
      all_goals first | rfl | skip
      rename_i x hx
      have := tCount_set (x' := { x with ho := x.ho + 1 }) (fat_some hx).2
      simp only at this ⊢
      omega
  split
  · simp only [tDrop]
    refine ⟨?_, fun _ => ?_, fun _ h => by omega, fun _ h => by omega, fun _ h => by omega⟩
    · repeat' split
      all_goals first | rfl | simp
    · repeat' split
      all_goals first | rfl | skip
      rename_i x hx
      have := tCount_set (x' := { x with ho := x.ho - 1 }) (fat_some hx).2
      simp only at this ⊢
      omega
  · exact ⟨rfl, fun _ => rfl, fun _ h => by omega, fun _ h => by omega, fun _ h => by omega⟩
theorem cnt_any_is {bT bL : Nat} {fs : List Fr} {n : Nat} (hT : Tab w bT bL fs) (hn : tCount fs = n) (h : R (.returned (.int .i64 n)) w) : Calls Try.prog 21 #[.pointer (some ⟨bT, 0, none⟩)] w R := count_any hT (by rw [hn]; exact h)

set_option maxHeartbeats 2000000 in
theorem counts_walk (a : Sin Ac) (ha : a.ok w Ac.vals (fun x => x.s.size ≤ 9223372036854775807)) (h : ∀ w', Kp [] w w' → R (.returned (.bool true)) w') :
    Calls Try.prog 6 #[.slice a.A a.n a.c] w R := by
  have H := Lib.hid h
  obtain ⟨A, n, c, l⟩ := a
  obtain ⟨hl, hcap, hmax, hall, hrd, _⟩ := ha
  simp only at hl hcap hmax hall hrd
  unfold maxLen at hmax
  have HL := Lib.hid hl
  clear h hl
  cases hf : farB l with
  | true =>
    go_enter Try.func6, Try.ntmps6
    go_wp2_with (first | (go_at_call 15; refine alive05 (fun w1 k1 => ?_)) | (go_at_call 23; refine far_any (hrd.to k1 (by simp) (N' := []) (by simp)) HL.out (by omega) hall ?_; rw [hf]))
    exact H.out _ k1
  | false =>
    have hf2 := hf
    simp only [farB, Bool.or_eq_false_iff, decide_eq_false_iff_not] at hf2
    rw [HL.out] at hf2
    have hn150 : n ≤ 150 := by omega
    have hsz : ∀ x ∈ l, x.s.size ≤ 1000 := by
      intro x hx
      have := List.any_eq_false.1 hf2.2 x hx
      simpa using this
    clear hf2
    go_enter Try.func6, Try.ntmps6
    go_wp2_with (first | (go_at_call 15; refine alive05 (fun w1 k1 => ?_)) | (go_at_call 23; refine far_any (hrd.to k1 (by simp) (N' := []) (by simp)) HL.out (by omega) hall ?_; rw [hf]) | (go_at_call 16; refine new_any 6 (by omega) (by omega) (fun bT bL w2 a1 a2 k2 t2 => ?_)))
    have hb0 : ∀ s ∈ [bL], s ∈ ([] : List Nat) ∨ w.heap.size ≤ s := by have := k1.size; simp; omega
    have kk : Kp [] w w2 := k1.trans k2
    have hl2 : (List.replicate 6 fz).length = 6 := rfl
    have hb2 : Hb 1 (List.replicate 6 fz) := by intro x hx; rw [List.eq_of_mem_replicate hx]; simp [fz]
    generalize List.replicate 6 fz = fs2 at t2 hb2 hl2
    have HL2 := Lib.hid hl2
    clear hl2 k1 k2 a1 a2
    go_loopw [5] (fun i wr => ∃ (k : Nat) (fs : List Fr), k ≤ n ∧ i = .int .i64 k ∧ Kp [] w wr ∧ Tab wr bT bL fs ∧ Hid (fs.length = 6) ∧ Hb (k + 1) fs) (fun i _ => n - (intOf i).toNat)
    case atStart => exact ⟨0, fs2, Nat.zero_le _, rfl, kk, t2, HL2, hb2⟩
    case round =>
      obtain ⟨k, fs, hk, rfl, kr, tr, hl6, hb⟩ := hrel
      by_cases hlt2 : k < n
      · have hx : l[k]? = some (l[k]'(by have := HL.out; omega)) := List.getElem?_eq_getElem _
        generalize (l[k]'(by have := HL.out; omega)) = x at hx
        have hsx := hsz x (List.mem_of_getElem? hx)
        have hrr := hrd.to kr (by simp) (N' := []) (by simp)
        obtain ⟨b, o, rfl, _, _, hc⟩ := rd_at hrr avals_len (by omega) hx
        have c0 := hc 0 _ rfl
        have c1 := hc 1 _ rfl
        have c2 := hc 2 _ rfl
        have c3 := hc 3 _ rfl
        have c4 := hc 4 _ rfl
        have c5 := hc 5 _ rfl
        clear hc hx hrr
        rw [Nat.add_zero] at c0
        obtain ⟨m, hm⟩ : ∃ m, tCount fs = m := ⟨_, rfl⟩
        have hm6 : m ≤ 6 := by rw [← hm, ← hl6.out]; exact tCount_le _
        have HM := Lib.hid hm
        clear hm
        have k0 := fun o => (Kp.refl [] wr).alloc o
        have ta := fun o => tr.kp (k0 o) (by simp) (by simp)
        go_wp2_with (first | (go_at_call 21; refine cnt_any_is (ta _) HM.out ?_) | (go_at_call 25; refine do_any (ta _) x hsx (hb.at_ (by omega)) (fun n' s' e' fs' w6 q6 k6 t6 => ?_)))
        have hC : Cnt fs x e' fs' := by have := dDo_cnt (fs := fs) x; rw [q6.out] at this; exact this
        have ht6 : Turn fs x fs' := by have := dDo_turn tr.pg x; rw [q6.out] at this; exact this
        have hb6 := hb.turn (by omega) ht6
        have hL6 := Lib.hid (hC.len.trans hl6.out)
        obtain ⟨m', hm'⟩ : ∃ m', tCount fs' = m' := ⟨_, rfl⟩
        have hm6' : m' ≤ 6 := by rw [← hm', ← hL6.out]; exact tCount_le _
        have hbl : wr.heap.size ≠ bL := by have := tr.l.lt; omega
        have dd : ∀ j v, x.vals[j]? = some v → w6.cell? ⟨wr.heap.size, j, none⟩ = some v := by
          intro j v hv
          rw [k6.cell (p := ⟨wr.heap.size, j, none⟩) (by simp) (by simpa using hbl), World.cell?_alloc_new]
          simpa [Ac.vals] using hv
        have d0 := dd 0 _ rfl
        have d2 := dd 2 _ rfl
        have d4 := dd 4 _ rfl
        have kr6 : Kp [] w w6 := (kr.trans (k0 _)).thn k6 hb0
        have hcase : ((e' == 0) = false ∧ ((m' : Int) != (m : Int)) = false) ∨
            ((e' == 0) = true ∧ (x.k == 0) = true ∧ (x.k == 1) = false ∧ (x.k == 2) = false ∧ ((m' : Int) != (m : Int) - 1) = false) ∨
            ((e' == 0) = true ∧ (x.k == 0) = false ∧ (x.k == 1) = true ∧ (x.k == 2) = false ∧ ((m' : Int) != (m : Int) + 1) = false ∧ Hid (tOwner fs' x.f = 0)) ∨
            ((e' == 0) = true ∧ (x.k == 0) = false ∧ (x.k == 1) = false ∧ (x.k == 2) = true ∧ ((m' : Int) != (m : Int)) = false ∧ Hid (tOwner fs' x.f = x.n)) ∨
            ((e' == 0) = true ∧ (x.k == 0) = false ∧ (x.k == 1) = false ∧ (x.k == 2) = false ∧ ((m' : Int) != (m : Int)) = false) := by
          rw [← hm', ← HM.out]
          by_cases he : e' = 0
          · right
            by_cases h0 : x.k = 0
            · left
              exact ⟨by simp [he], by simp [h0], by simp [h0], by simp [h0], by simp [hC.taken he h0]⟩
            right
            by_cases h1 : x.k = 1
            · left
              exact ⟨by simp [he], by simp [h1], by simp [h1], by simp [h1], by simp [(hC.freed he h1).1], (hC.freed he h1).2⟩
            right
            have hs := hC.other (.inr ⟨h0, h1⟩)
            by_cases h2 : x.k = 2
            · left
              exact ⟨by simp [he], by simp [h2], by simp [h2], by simp [h2], by simp [hs], hC.given he h2⟩
            right
            exact ⟨by simp [he], by simp [h0], by simp [h1], by simp [h2], by simp [hs]⟩
          · left
            exact ⟨by simp [he], by simp [hC.other (.inl he)]⟩
        have HM' := Lib.hid hm'
        have E1 := Lib.hid (⟨hb6, hL6⟩ : Hb (↑k + 1 + 1) fs' ∧ Hid (fs'.length = 6))
        clear hm' hC ht6 hb6 hL6 hbl dd c0 c1 c2 c3 c4 c5 k6 q6 hb
        rcases hcase with ⟨e1, e5⟩ | ⟨e1, e2, e3, e4, e5⟩ | ⟨e1, e2, e3, e4, e5, e6⟩ | ⟨e1, e2, e3, e4, e5, e6⟩ | ⟨e1, e2, e3, e4, e5⟩
        all_goals
          go_loop [11, 12] (fun mi f => ∃ j : Nat, j ≤ 6 ∧ f = .int .i64 j ∧ mi = .int .i64 ((j : Int) - tCount (fs'.take j))) (fun _ f => 6 - (intOf f).toNat)
          case atStart => exact ⟨0, Nat.zero_le _, rfl, rfl⟩
          case round =>
            obtain ⟨j, hj, rfl, rfl⟩ := hrel
            have hq : tCount (fs'.take j) ≤ j := Nat.le_trans (tCount_le _) (List.length_take_le _ _)
            by_cases hj6 : j < 6
            · go_wp2_with (go_at_call 27; refine owner_any t6 _ (fun n g1 => ?_))
              · have hs := tCount_snoc (show j < fs'.length by rw [E1.out.2.out]; exact hj6)
                have e : n ≠ 0 := by simp_all
                rw [g1.out, if_neg e] at hs
                exact ⟨⟨j + 1, by omega, by go_num, icast (by omega)⟩, by simp [intOf]; omega⟩
              · have hs := tCount_snoc (show j < fs'.length by rw [E1.out.2.out]; exact hj6)
                have e : n = 0 := by simp_all
                rw [g1.out, if_pos e] at hs
                exact ⟨⟨j + 1, by omega, by go_num, icast (by omega)⟩, by simp [intOf]; omega⟩
            · obtain rfl : j = 6 := by omega
              have hq2 : (((6 : Nat) : Int) - tCount (fs'.take 6)) = 6 - m' := by
                rw [List.take_of_length_le (by rw [E1.out.2.out]; omega), HM'.out]; rfl
              rw [hq2]
              clear hq2 hq
              obtain ⟨q, hq⟩ : ∃ q : Int, 6 - (m' : Int) = q := ⟨_, rfl⟩
              rw [hq]
              have hs : (q + m' != 6) = false := by simp; omega
              have hq0 : 0 ≤ q := by omega
              have hq6 : q ≤ 6 := by omega
              clear hq
              go_wp2_with (first | (go_at_call 21; refine cnt_any_is t6 HM'.out ?_) | (go_at_call 27; refine owner_is t6 _ e6.out ?_))
              go_quiet (first | (go_at_call 21; exact cnt_any_is (t6.drewN _) HM'.out ⟨rfl, _, rfl⟩) | (go_at_call 27; exact owner_is (t6.drewN _) _ e6.out ⟨rfl, _, rfl⟩))
              go_wp2
              exact ⟨⟨k + 1, fs', by omega, by go_num, kr6.drewN _, t6.drewN _, E1.out.2, E1.out.1⟩, by simp [intOf]; omega⟩
      · go_wp2
        exact H.out _ kr
end
end Go.Proofs.Ytilhjohoahgefaa
