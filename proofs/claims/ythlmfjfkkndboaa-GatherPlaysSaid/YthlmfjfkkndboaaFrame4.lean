/- The walks of package frame: Alloc, FreeCount, New. -/
import Derived.Test.YthlmfjfkkndboaaFrame3
namespace Go.Proofs.Ythlmfjfkkndboaa
open Go.RowKit
set_option linter.unusedVariables false
set_option linter.unusedSimpArgs false
set_option maxRecDepth 100000
section
variable {R : Ending → World → Prop} {bT bL : Nat} {fs : List Fr} {w : World}

theorem tCount_le (fs : List Fr) : tCount fs ≤ fs.length := List.length_filter_le _ _
theorem tCount_snoc {fs : List Fr} {k : Nat} (hk : k < fs.length) : tCount (fs.take (k + 1)) = tCount (fs.take k) + if tOwner fs k = 0 then 1 else 0 := by
  have hx : fat fs (k : Int) = some fs[k] := by simp [fat, List.getElem?_eq_getElem hk]
  rw [List.take_succ_eq_append_getElem hk]
  simp only [tCount, List.filter_append, List.length_append, tOwner, hx]
  by_cases h : fs[k].ow = 0 <;> simp [h]

theorem find_first {α : Type} {l : List α} {p : α → Bool} {k : Nat} {x : α} (h : (l.take k).findIdx? p = none) (hx : l[k]? = some x) (hp : p x = true) : l.findIdx? p = some k := by
  have hk : k < l.length := (List.getElem?_eq_some_iff.1 hx).1
  have e : l = l.take k ++ x :: l.drop (k + 1) := by
    have : l[k] = x := (List.getElem?_eq_some_iff.1 hx).2
    rw [← this, ← List.drop_eq_getElem_cons hk, List.take_append_drop]
  rw [e, List.findIdx?_append, h, List.findIdx?_cons, hp]
  simp; omega
theorem find_next {α : Type} {l : List α} {p : α → Bool} {k : Nat} {x : α} (h : (l.take k).findIdx? p = none) (hx : l[k]? = some x) (hp : p x = false) : (l.take (k + 1)).findIdx? p = none := by
  have hk : k < l.length := (List.getElem?_eq_some_iff.1 hx).1
  have : l[k] = x := (List.getElem?_eq_some_iff.1 hx).2
  rw [List.take_succ_eq_append_getElem hk, this, List.findIdx?_append, h, List.findIdx?_cons, hp]
  simp

set_option maxHeartbeats 400000 in
theorem count_any (hT : Tab w bT bL fs) (h : R (.returned (.int .i64 (tCount fs))) w) :
    Calls Try.prog 60 #[.pointer (some ⟨bT, 0, none⟩)] w R := by
  have hn := hT.n1
  go_enter Try.func60, Try.ntmps60
  go_wp2_with (go_at_call 57; refine size_any hT ?_)
  go_loop [3, 4, 7, 9] (fun c _ i _ => ∃ k : Nat, k ≤ fs.length ∧ i = .int .i64 k ∧ c = .int .i64 (tCount (fs.take k))) (fun _ _ i _ => fs.length - (intOf i).toNat)
  case atStart => exact ⟨0, Nat.zero_le _, rfl, rfl⟩
  case round =>
    obtain ⟨k, hk, rfl, rfl⟩ := hrel
    have hq : tCount (fs.take k) ≤ k := Nat.le_trans (tCount_le _) (List.length_take_le _ _)
    go_wp2_with (go_at_call 58; refine owner_any hT _ (fun n g1 => ?_))
    · have hlt : k < fs.length := by assumption
      have hs := tCount_snoc hlt
      have e : n = 0 := by simp_all
      rw [g1.out, if_pos e] at hs
      exact ⟨⟨k + 1, by omega, by go_num, icast (by omega)⟩, by simp [intOf]; omega⟩
    · have hlt : k < fs.length := by assumption
      have hs := tCount_snoc hlt
      have e : n ≠ 0 := by simp_all
      rw [g1.out, if_neg e] at hs
      exact ⟨⟨k + 1, by omega, by go_num, icast (by omega)⟩, by simp [intOf]; omega⟩
    · have e : k = fs.length := by have : ¬ k < fs.length := by assumption
                                   omega
      subst e
      exact ricast h (by rw [List.take_length])

set_option maxHeartbeats 400000 in
theorem alloc_any (hT : Tab w bT bL fs) (who : Int)
    (h : ∀ f e fs' w', Hid (tAlloc fs who = (f, e, fs')) → Kp [bL] w w' → Tab w' bT bL fs' → R (.returned (.tuple #[.int .i64 f, .int .i64 e])) w') :
    Calls Try.prog 48 #[.pointer (some ⟨bT, 0, none⟩), .int .i64 who] w R := by
  have H := Lib.hid h
  clear h
  have hn := hT.n1
  have hc := hT.hc
  have hfr := hT.free
  cases he : envB who with
  | false =>
    go_enter Try.func48, Try.ntmps48
    go_wp2_with (go_at_call 88; refine env_any _ _ ?_)
    exact H.out 0 1 fs w (by simp [Hid, tAlloc, he]) (Kp.refl _ _) hT
  | true =>
    go_enter Try.func48, Try.ntmps48
    go_wp2_with (go_at_call 88; refine env_any _ _ ?_)
    go_loop [6, 19] (fun _ i => ∃ k : Nat, k ≤ fs.length ∧ i = .int .i64 k ∧ Hid ((fs.take k).findIdx? (fun x => x.ow == 0) = none)) (fun _ i => fs.length - (intOf i).toNat)
    case atStart => exact ⟨0, Nat.zero_le _, rfl, rfl⟩
    case round =>
      obtain ⟨k, hk, rfl, hf⟩ := hrel
      by_cases hlt : k < fs.length
      · have hx : fs[k]? = some fs[k] := List.getElem?_eq_getElem hlt
        have hc2 := hT.ow hx
        generalize fs[k] = x at hx hc2
        have HX := Lib.hid hx
        clear hx
        go_wp2
        · have e : (x.ow == 0) = true := by assumption
          have e1 : tAlloc fs who = ((k : Int), 0, fs.set k { x with ow := who }) := by simp [tAlloc, he, find_first (p := fun x => x.ow == 0) hf.out HX.out e, HX.out]
          exact H.out _ _ _ _ e1 ((Kp.refl _ _).setCell (.inl (by simp)) _) (hT.putOw HX.out who)
        · have e : (x.ow == 0) = false := by assumption
          exact ⟨⟨k + 1, by omega, by go_num, Lib.hid (find_next (p := fun x => x.ow == 0) hf.out HX.out e)⟩, by simp [intOf]; omega⟩
      · go_wp2
        have e : fs.take k = fs := List.take_of_length_le (by omega)
        have e1 : tAlloc fs who = (0, 10, fs) := by have := hf.out; rw [e] at this; simp only [tAlloc, he, this, if_true]
        exact H.out _ _ _ _ e1 (Kp.refl _ _) hT

theorem info_one : (Try.prog.info? 146).map (fun i => (i.zero, i.size, i.bytes)) = some (some (.agg zz), 258, 272) := by kernel_rfl
theorem made_pieces {z : Array Value} {K : Nat} (hz : z.size = K) (h0 : 0 < K) (n : Nat) : (madeCells z (n * K)).toList = (List.replicate n z).flatMap (·.toList) := by
  apply List.ext_getElem?
  intro i
  rcases Nat.lt_or_ge i (n * K) with h | h
  · have hq : i / K < n := Nat.div_lt_of_lt_mul (by rw [Nat.mul_comm]; exact h)
    have hm : i % K < K := Nat.mod_lt _ h0
    have e : i / K * K + i % K = i := Nat.div_add_mod' i K
    have hpad : ∀ x : Array Value, (fit K x.toList).length = K := fun x => fit_len _ _
    have e1 : (List.replicate n z).flatMap (·.toList) = (List.replicate n z).flatMap (fun x => fit K x.toList) := by
      simp only [List.flatMap_replicate]
      rw [fit_eq (by simpa using hz)]
    rw [e1]
    conv => rhs; rw [← e]
    rw [flat_get (F := fun x : Array Value => fit K x.toList) hpad (i := i / K) (x := z) (by simp [hq]) hm, fit_eq (by simpa using hz)]
    have hi : i % K < z.size := by omega
    simp [madeCells, h, hz]
    rw [getElem!_pos z _ hi, Array.getElem?_eq_getElem hi]
  · rw [List.getElem?_eq_none (by simpa [madeCells] using h)]
    symm
    apply List.getElem?_eq_none
    rw [List.length_flatMap]
    simp [hz]
    exact h

set_option maxHeartbeats 400000 in
theorem new_bad (n : Int) (hn : n < 1 ∨ 256 < n) (h : R (.returned (.tuple #[.pointer none, .int .i64 1])) w) : Calls Try.prog 10 #[.int .i64 n] w R := by
  rcases hn with hn | hn
  · go_enter Try.func10, Try.ntmps10
    go_wp2
    exact h
  · have h2 : ¬ n < 1 := by omega
    go_enter Try.func10, Try.ntmps10
    go_wp2
    exact h

set_option maxHeartbeats 400000 in
theorem new_any (n : Nat) (h1 : 1 ≤ n) (h2 : n ≤ 256) (h : ∀ bT bL w', w.heap.size ≤ bT → w.heap.size ≤ bL → Kp [] w w' → Tab w' bT bL (List.replicate n fz) → R (.returned (.tuple #[.pointer (some ⟨bT, 0, none⟩), .int .i64 0])) w') :
    Calls Try.prog 10 #[.int .i64 n] w R := by
  have H := Lib.hid h
  clear h
  obtain ⟨i0, hi, hz0, hz1, hz2⟩ := info_parts info_one
  have hmk := fun W => run_make (P := Try.prog) W 99 146 i0 _ Try.underlying99 hi hz0 .i64 .i64 n n (by omega) (by omega) (by rw [hz2]; omega) (by omega)
  simp only [Value.cells, hz1, Int.toNat_natCast] at hmk
  clear hi hz0 hz1 hz2
  go_enter Try.func10, Try.ntmps10
  go_wp2
  have e : (madeCells zz (n * 258)).toList = (List.replicate n fz).flatMap fcells := by
    rw [made_pieces zz_len (by omega), List.flatMap_replicate, List.flatMap_replicate, fcells_eq fz_len]
    rfl
  refine H.out (w.heap.size + 1) w.heap.size _ (by omega) (Nat.le_refl _) (((Kp.refl _ _).alloc _).alloc _) ⟨?_, ?_, ?_, by simpa using h2⟩
  · rw [List.length_replicate]
    exact Bk.newAt (by simp) _ _
  · exact ((Bk.new' w _ _).alloc _).cast e
  · intro x hx
    rw [List.eq_of_mem_replicate hx]
    exact fz_len
end
end Go.Proofs.Ythlmfjfkkndboaa
