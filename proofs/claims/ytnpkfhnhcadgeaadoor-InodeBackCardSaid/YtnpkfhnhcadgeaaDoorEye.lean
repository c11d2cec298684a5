/- The reader. -/
import Derived.Test.YtnpkfhnhcadgeaaDoorOct1
import Derived.Test.YtnpkfhnhcadgeaaDoorGoto
import Derived.Test.YtnpkfhnhcadgeaaDoorQuiet
import Derived.StillTailTactics
namespace Go.Proofs.YtnpkfhnhcadgeaaDoor
open Go.RowKit Go.Shelf
set_option linter.unusedVariables false
set_option linter.unusedSimpArgs false
set_option maxRecDepth 100000

/-- The reader at block g: what is left, and the error. -/
structure EyeR (w : World) (g : Nat) (N : List Nat) (A : Option Addr) (n c : Nat) (l : List UInt8) (err : Int) : Prop where
  bk : Bk w g 101 [.slice A n c, .int .i64 err]
  rd : Rd w (g :: N) A (bts l)
  len : l.length = n
  cap : n ≤ c
  max : n ≤ 1000000
theorem elem_u8 : Tryd.prog.elem 29 = 5 := by kernel_rfl
theorem und_u8 : Tryd.prog.underlying 29 = some (.slice (Tryd.prog.elem 29)) := by rw [elem_u8]; exact Tryd.underlying29
theorem size_u8 (W : World) : (sizeOf (Tryd.prog.elem 29)).run Tryd.prog W = .ok 1 W := by
  rw [elem_u8]; kernel_rfl
theorem slice_to {w : World} {N : List Nat} {A : Option Addr} {n c : Nat} {l : List UInt8} (hr : Rd w N A (bts l)) (hl : l.length = n) (hc : n ≤ c) (k : Nat) (hk : k ≤ n) :
    ∃ A1, (∀ W, (Instr.slice 29 (.slice A n c) none (some (.int .i64 k)) none).run Tryd.prog W = .ok (.slice A1 k c) W) ∧ Rd w N A1 (bts (l.take k)) := by
  refine ⟨if c = 0 then A else A.map (·.add 0), fun W => ?_, ?_⟩
  · rw [run_slice_h W _ _ _ _ und_u8 .i64 k (by omega) (by omega), size_u8]
    simp [Result.andThen, sliced]
  · rw [bts_take]
    have e : (if c = 0 then A else A.map (·.add 0)) = A := by
      split
      · rfl
      · cases A with
        | none => rfl
        | some a => simp [Addr.add]
    rw [e]
    exact hr.take k
theorem slice_from {w : World} {N : List Nat} {A : Option Addr} {n c : Nat} {l : List UInt8} (hr : Rd w N A (bts l)) (hl : l.length = n) (hc : n ≤ c) (k : Nat) (hk : k ≤ n) :
    ∃ A1, (∀ W, (Instr.slice 29 (.slice A n c) (some (.int .i64 k)) none none).run Tryd.prog W = .ok (.slice A1 (n - k) (c - k)) W) ∧ Rd w N A1 (bts (l.drop k)) := by
  refine ⟨if c = k then A else A.map (·.add (k * 1)), fun W => ?_, ?_⟩
  · rw [run_slice_l W _ _ _ _ und_u8 .i64 k (by omega) (by omega), size_u8]
    simp [Result.andThen, sliced]
  · rw [bts_drop]
    rcases Nat.lt_or_ge k n with h | h
    · rw [if_neg (by omega), Nat.mul_one]
      exact hr.drop k (by rw [bts_len]; omega)
    · rw [List.drop_eq_nil_of_le (by rw [bts_len]; omega)]
      exact Rd.nil
variable {N : List Nat}
theorem Ow.ncap {w : World} {e sz n c : Nat} {A : Option Addr} {xs : List Value} (h : Ow w e sz A n c xs) : n ≤ c := by
  rcases h.2 with ⟨hv, h0⟩ | ⟨g', cap, cur, hv, _, _, hnc, _⟩
  · omega
  · injection hv with _ _ hc'; omega
set_option maxHeartbeats 1000000 in
theorem new_any {R : Ending → World → Prop} {w : World} {A : Option Addr} {n c : Nat} {l : List UInt8} (hr : Rd w [] A (bts l)) (hl : l.length = n) (hn : n ≤ 1000000)
    (h : ∀ g A' c' w', w.heap.size ≤ g → (∀ N, (∀ x ∈ N, g < x) → EyeR w' g N A' n c' l 0) → Kp [] w w' → R (.returned (.pointer (some ⟨g, 0, none⟩))) w') : Calls Tryd.prog 36 #[.slice A n c] w R := by
  have H := Lib.hid h
  clear h
  go_enter Tryd.func36, Tryd.ntmps36
  go_wp2_with (go_at_call 37; ((with_reducible refine clone_any hr hl (by omega) ?_); intro A1 c1 w1 hA1 ho1 hk1))
  refine H.out w1.heap.size A1 c1 _ hk1.size (fun N hN => ⟨Bk.newAt rfl _ _, (ho1.alloc _).rd (fun x hx hm => ?_), hl, ho1.ncap, hn⟩) (hk1.alloc _)
  have := ho1.lt x hx
  rcases List.mem_cons.1 hm with h | h
  · omega
  · have := hN x h; omega
set_option maxHeartbeats 1000000 in
theorem take_err {R : Ending → World → Prop} {w : World} {g : Nat} {A : Option Addr} {n c : Nat} {l : List UInt8} {err : Int} (he : EyeR w g N A n c l err) (k : Int) (may : Bool) (h0 : ¬ err = 0)
    (h : R (.returned (.slice none 0 0)) w) : Calls Tryd.prog 38 #[.pointer (some ⟨g, 0, none⟩), .int .i64 k, .bool may] w R := by
  have H := Lib.hid h
  clear h
  have c0 := he.bk.cell 0
  have c1 := he.bk.cell 1
  have b0 : (err == 0) = false := by simpa using h0
  have b1 : (err != 0) = true := by simpa using h0
  clear h0
  simp only [List.getElem?_cons_zero, List.getElem?_cons_succ] at c0 c1
  go_enter Tryd.func38, Tryd.ntmps38
  go_wp2
  refine wp_scope_fwd 0 (by rfl) ?_
  intro J HJ
  go_wp2
  exact H.out
theorem EyeR.ne {w : World} {g : Nat} {A : Option Addr} {n c : Nat} {l : List UInt8} {err : Int} (he : EyeR w g N A n c l err) : w.cell? ⟨g, 0, none⟩ = some (.slice A n c) ∧ w.cell? ⟨g, 1, none⟩ = some (.int .i64 err) ∧ w.frozen? ⟨g, 0, none⟩ = false ∧ w.frozen? ⟨g, 1, none⟩ = false :=
  ⟨he.bk.cell 0, he.bk.cell 1, he.bk.frozen 0, he.bk.frozen 1⟩
set_option maxHeartbeats 1000000 in
theorem take_wrong {R : Ending → World → Prop} {w : World} {g : Nat} {A : Option Addr} {n c : Nat} {l : List UInt8} (he : EyeR w g N A n c l 0) (k : Int) (may : Bool) (hb : may = false ∨ (n : Int) < k)
    (h : ∀ w', EyeR w' g N none 0 0 [] (if may then 50 else 1) → Kp [g] w w' → R (.returned (.slice none 0 0)) w') : Calls Tryd.prog 38 #[.pointer (some ⟨g, 0, none⟩), .int .i64 k, .bool may] w R := by
  have H := Lib.hid h
  clear h
  obtain ⟨c0, c1, f0, f1⟩ := he.ne
  cases may
  · clear hb
    go_enter Tryd.func38, Tryd.ntmps38
    go_wp2
    refine wp_scope_fwd 0 (by rfl) ?_
    intro J HJ
    go_wp2
    go_step3
    refine ⟨rfl, HJ.out _ _ ?_⟩
    go_wp2
    exact H.out _ ⟨((he.bk.set_ 1 _).set_ 0 _).cast rfl, Rd.nil, rfl, Nat.le_refl _, by omega⟩ (((Kp.refl _ _).setCell (.inl (by simp)) _).setCell (.inl (by simp)) _)
  · have hk : (n : Int) < k := hb.elim (fun h => by cases h) id
    clear hb
    go_enter Tryd.func38, Tryd.ntmps38
    go_wp2
    refine wp_scope_fwd 0 (by rfl) ?_
    intro J HJ
    go_wp2
    go_step3
    refine ⟨rfl, HJ.out _ _ ?_⟩
    go_wp2
    exact H.out _ ⟨((he.bk.set_ 1 _).set_ 0 _).cast rfl, Rd.nil, rfl, Nat.le_refl _, by omega⟩ (((Kp.refl _ _).setCell (.inl (by simp)) _).setCell (.inl (by simp)) _)
set_option maxHeartbeats 1000000 in
theorem take_good {R : Ending → World → Prop} {w : World} {g : Nat} {A : Option Addr} {n c : Nat} {l : List UInt8} (he : EyeR w g N A n c l 0) (k : Nat) (hk : k ≤ n)
    (h : ∀ A' B m cB w', EyeR w' g N A' (n - k) m (l.drop k) 0 → Rd w' (g :: N) B (bts (l.take k)) → Kp [g] w w' → R (.returned (.slice B k cB)) w') : Calls Tryd.prog 38 #[.pointer (some ⟨g, 0, none⟩), .int .i64 k, .bool true] w R := by
  have H := Lib.hid h
  clear h
  obtain ⟨c0, c1, f0, f1⟩ := he.ne
  obtain ⟨A1, e1, r1⟩ := slice_to he.rd he.len he.cap k hk
  obtain ⟨A2, e2, r2⟩ := slice_from he.rd he.len he.cap k hk
  go_enter Tryd.func38, Tryd.ntmps38
  go_wp2
  refine wp_scope_fwd 0 (by rfl) ?_
  intro J HJ
  go_wp2
  have he2 : EyeR w.drew g N A n c l 0 := ⟨he.bk, he.rd, he.len, he.cap, he.max⟩
  have r1' : Rd w.drew (g :: N) A1 (bts (l.take k)) := r1
  have r2' : Rd w.drew (g :: N) A2 (bts (l.drop k)) := r2
  have k0 : Kp [g] w w.drew := (Kp.refl _ _).drew
  obtain ⟨d0, d1, d2, d3⟩ := he2.ne
  go_still_tail 16, (by kernel_rfl)
  change wpList _ _ _ _ _ w.drew
  clear c0 c1 f0 f1
  generalize w.drew = w2 at *
  go_wp2
  have kk : Kp [g] w2 (w2.setCell ⟨g, 0, none⟩ (.slice A2 (n - k) (c - k))) := (Kp.refl _ _).setCell (.inl (by simp)) _
  exact H.out _ _ _ _ _ ⟨(he2.bk.set_ 0 _).cast rfl, r2'.kp kk (fun s hs => .inl (by simp at hs; simp [hs])), by rw [List.length_drop, he2.len], by have := he2.cap; omega, by have := he2.max; omega⟩ (r1'.kp kk (fun s hs => .inl (by simp at hs; simp [hs]))) (k0.trans kk)
end Go.Proofs.YtnpkfhnhcadgeaaDoor
