/- A pool gets a block. -/
import Derived.Test.YthlmfjfkkndboaaPo5
namespace Go.Proofs.Ythlmfjfkkndboaa
open Go.RowKit Go.Shelf
set_option linter.unusedVariables false
set_option linter.unusedSimpArgs false
set_option maxRecDepth 100000
/-- What Get tells and turns. -/
def GetR (k : KS) (p : PS) (b n : Int) (re im : Nat) (f e : Int) (p' : PS) (k' : KS) : Prop :=
  (¬ (0 ≤ n ∧ n ≤ 256) ∧ f = 0 ∧ e = 1 ∧ p' = p ∧ k' = k) ∨
  ((0 ≤ n ∧ n ≤ 256) ∧ ∃ i x, p.sl.findIdx? (hasB b) = some i ∧ p.sl[i]? = some x ∧ f = x.f ∧ e = 0 ∧ p' = { p with sl := p.sl.set i { x with pi := x.pi + 1, ma := true } } ∧ k' = k) ∨
  ((0 ≤ n ∧ n ≤ 256) ∧ p.sl.findIdx? (hasB b) = none ∧ (pTake k p).1 = none ∧ f = 0 ∧ e = 80 ∧ p' = (pTake k p).2 ∧ k' = k) ∨
  ((0 ≤ n ∧ n ≤ 256) ∧ p.sl.findIdx? (hasB b) = none ∧ ∃ i x, (pTake k p).1 = some i ∧ (pTake k p).2.sl[i]? = some x ∧
    (((dRead k.d 1 b).1 ≠ 0 ∧ f = 0 ∧ e = (dRead k.d 1 b).1 ∧ p' = (pTake k p).2 ∧ k' = k) ∨
     ((dRead k.d 1 b).1 = 0 ∧ f = x.f ∧ e = 0 ∧ p' = { (pTake k p).2 with sl := (pTake k p).2.sl.set i ⟨x.f, 1, b, x.pi + 1, n, re, im, true⟩, fills := (pTake k p).2.fills + 1 } ∧
        k' = { k with fs := (tWrite k.fs 1 x.f 0 (dRead k.d 1 b).2).2 })))
section
variable {R : Ending → World → Prop} {w w' : World} {B m : Nat} {ka ka' : KA} {k k' : KS} {pa : PA} {p : PS}
theorem ptake_at (k : KS) (p : PS) (hh : p.hand < p.sl.length) {i : Nat} (h : (pTake k p).1 = some i) : ∃ x, (pTake k p).2.sl[i]? = some x := by
  unfold pTake at h ⊢
  cases hf : p.sl.findIdx? (tkB k) with
  | some j =>
    rw [hf] at h
    simp only [Option.some.injEq] at h ⊢
    subst h
    obtain ⟨x, hx, _⟩ := idx_at hf
    exact ⟨x, hx⟩
  | none =>
    rw [hf] at h
    simp only at h ⊢
    have key : ∀ (n : Nat) (p : PS), p.hand < p.sl.length → (pRnd k n p).1 = some i → ∃ x, (pRnd k n p).2.sl[i]? = some x := by
      intro n
      induction n with
      | zero => intro p _ h; simp [pRnd] at h
      | succ n ih =>
        intro p hh h
        unfold pRnd at h ⊢
        rw [List.getElem?_eq_getElem hh] at h ⊢
        simp only at h ⊢
        split
        · rename_i hc
          rw [if_pos hc] at h
          simp only [Option.some.injEq] at h
          subst h
          exact ⟨_, List.getElem?_set_self hh⟩
        · rename_i hc
          rw [if_neg hc] at h
          exact ih _ (by simp; exact Nat.mod_lt _ (by omega)) h
    exact key _ _ hh h
set_option maxHeartbeats 2000000 in
theorem pget_bad (h0 : KPl w B ka k pa p) (b n : Int) (re im : Nat) (hn : ¬ (0 ≤ n ∧ n ≤ 256)) (h : ∀ w', Kp [] w w' → R (.returned (.tuple #[.int .i64 0, .int .i64 1])) w') :
    Calls Try.prog 32 #[.pointer (some ⟨pa.g, 0, none⟩), .int .i64 b, .int .i64 n, .complex .f64 re im] w R := by
  have H := Lib.hid h
  clear h h0
  by_cases h1 : n < 0
  · go_enter Try.func32, Try.ntmps32
    go_wp2
    exact H.out _ ((Kp.refl _ _).alloc _)
  · have h2 : 256 < n := by omega
    clear hn
    go_enter Try.func32, Try.ntmps32
    go_wp2
    exact H.out _ ((Kp.refl _ _).alloc _)
theorem pgf_any (h0 : KPl w B ka k pa p) (b : Int) : Hid (∀ (R : Ending → World → Prop) (w1 : World) (cb : Nat), Kp [] w w1 → w1.cell? ⟨cb, 0, none⟩ = some (.int .i64 b) → (∀ w', Kp [] w1 w' → R (.returned (.pointer (pfind p pa.l (hasB b)))) w') → Calls Try.prog 72 #[.pointer (some ⟨pa.g, 0, none⟩), .func (.func 73) #[] #[.pointer (some ⟨cb, 0, none⟩)]] w1 R) := Lib.hid (fun R w1 cb k1 hc h => by
  have he : ∀ (args : Array Value) (w : World), (callFunc 73 args).run Try.prog w = .ok (.enter 73 args) w := enters_of Try.func73 (by kernel_rfl) rfl
  refine pfind_any (h0.off0 k1) 73 cb (hasB b) he (fun R i x w2 k2 hx h => ?_) h
  refine pgt1_any (h0.off0 (k1.trans k2)) b ?_ hx h
  rw [k2.cell (World.block_lt_of_cell? w1 _ hc) (by simp)]; exact hc)
/-- One pin more, and a mark. -/
theorem KPl.pinned (h : KPl w B ka k pa p) {i : Nat} {x : PSl} (hx : p.sl[i]? = some x) :
    KPl ((w.setCell ⟨pa.l, i * 7 + 3, none⟩ (.int .i64 (x.pi + 1))).setCell ⟨pa.l, i * 7 + 6, none⟩ (.bool true)) B ka k pa { p with sl := p.sl.set i { x with pi := x.pi + 1, ma := true } } ∧
    Pq B w ((w.setCell ⟨pa.l, i * 7 + 3, none⟩ (.int .i64 (x.pi + 1))).setCell ⟨pa.l, i * 7 + 6, none⟩ (.bool true)) := by
  have hi := (List.getElem?_eq_some_iff.1 hx).1
  have at_ : ∀ y : PSl, (p.sl.set i y)[i]? = some y := fun y => by simp [hi]
  obtain ⟨h1, q1⟩ := h.put hx (x' := { x with pi := x.pi + 1 }) (j := 3) (v := .int .i64 (x.pi + 1)) (by omega) rfl
  obtain ⟨h2, q2⟩ := h1.put (at_ _) (x' := { x with pi := x.pi + 1, ma := true }) (j := 6) (v := .bool true) (by omega) rfl
  simp only [List.set_set] at h2
  exact ⟨h2, q1.trans q2⟩
set_option maxHeartbeats 2000000 in
theorem pget_hit (h0 : KPl w B ka k pa p) (hbd : p.bd m) (hm : m ≤ 1000000) (b n : Int) (re im : Nat) (hn0 : 0 ≤ n) (hn1 : n ≤ 256) {i : Nat} {x : PSl} (hf : p.sl.findIdx? (hasB b) = some i) (hx : p.sl[i]? = some x)
    (h : ∀ w', Pq B w w' → KPl w' B ka k pa { p with sl := p.sl.set i { x with pi := x.pi + 1, ma := true } } → R (.returned (.tuple #[.int .i64 x.f, .int .i64 0])) w') :
    Calls Try.prog 32 #[.pointer (some ⟨pa.g, 0, none⟩), .int .i64 b, .int .i64 n, .complex .f64 re im] w R := by
  have H := Lib.hid h
  have HK := Lib.hid h0
  have HF := pgf_any h0 b
  have e : pfind p pa.l (hasB b) = some ⟨pa.l, i * 7, none⟩ := by unfold pfind; rw [hf]
  rw [e] at HF
  have HX := Lib.hid hx
  obtain ⟨hp0, hp1⟩ := hbd.pi x (List.mem_of_getElem? hx)
  clear h h0 hf hx hbd
  go_enter Try.func32, Try.ntmps32
  go_wp2_with (go_at_call 72; (refine HF.out _ _ _ ((Kp.refl _ _).alloc _) ((Bk.new' _ _ _).cell 0) ?_; intro w2 k2; have hw2 := Lib.hid (HK.out.off0 (((Kp.refl [] w).alloc _).trans k2)); have hq2 := Lib.hid (((Kp.refl [] w).alloc _).trans k2); obtain ⟨c0, _, _, c3, _, _, c6⟩ := hw2.out.pl.cells HX.out; have f2 := hw2.out.pl.free))
  obtain ⟨z1, z2⟩ := hw2.out.pinned HX.out
  exact H.out _ ((Pq.of0 hq2.out).trans z2) z1
set_option maxHeartbeats 2000000 in
theorem pget_none (h0 : KPl w B ka k pa p) (b n : Int) (re im : Nat) (hn0 : 0 ≤ n) (hn1 : n ≤ 256) (hf : p.sl.findIdx? (hasB b) = none) (ht : (pTake k p).1 = none)
    (h : ∀ w', Pq B w w' → KPl w' B ka k pa (pTake k p).2 → R (.returned (.tuple #[.int .i64 0, .int .i64 80])) w') :
    Calls Try.prog 32 #[.pointer (some ⟨pa.g, 0, none⟩), .int .i64 b, .int .i64 n, .complex .f64 re im] w R := by
  have H := Lib.hid h
  have HF := pgf_any h0 b
  have e : pfind p pa.l (hasB b) = none := by unfold pfind; rw [hf]
  rw [e] at HF
  have HT : Hid (∀ (R : Ending → World → Prop) (w1 : World), Kp [] w w1 → (∀ w', Pq B w w' → KPl w' B ka k pa (pTake k p).2 → R (.returned (.pointer none)) w') → Calls Try.prog 69 #[.pointer (some ⟨pa.g, 0, none⟩)] w1 R) := Lib.hid (fun R w1 k1 h => ptake_any (h0.off0 k1) (fun w' q z => by rw [ht]; exact h w' ((Pq.of0 k1).trans q) z))
  clear h h0 hf ht
  go_enter Try.func32, Try.ntmps32
  go_wp2_with (first | (go_at_call 72; (refine HF.out _ _ _ ((Kp.refl _ _).alloc _) ((Bk.new' _ _ _).cell 0) ?_; intro w2 k2)) | (go_at_call 69; (refine HT.out _ _ (((Kp.refl [] w).alloc _).trans k2) ?_; intro w3 q3 z3)))
  exact H.out _ q3 z3
end
end Go.Proofs.Ythlmfjfkkndboaa
