/- Package ranges: a spec is read, a span is made of it. -/
import Derived.Test.YtnmafahbdfilcaaGreatDoorPC4
import Derived.Deep.CutBlock
import Derived.BigQuiet
import Derived.BigRegion
namespace Go.Proofs.YtnmafahbdfilcaaGreatDoor
/-! ### Package ranges: a spec is read, a span is made of it. -/
section
open Go.RowKit Go.Shelf
set_option linter.unusedVariables false
set_option linter.unusedSimpArgs false
set_option maxRecDepth 100000

def mostR : Int := 1099511627776
/-- The places of a spec's two texts, -1 where none is told. -/
def readPQ (p q : List UInt8) : Option (Int × Int) :=
  if p = [] ∧ q = [] then none else
  if p ≠ [] ∧ (numR p mostR).2 = false then none else
  if q ≠ [] ∧ (numR q mostR).2 = false then none else
  if p = [] then some (-1, (numR q mostR).1) else
  if q = [] then some ((numR p mostR).1, -1) else
  if (numR p mostR).1 ≤ (numR q mostR).1 then some ((numR p mostR).1, (numR q mostR).1) else none
def readM (l : List UInt8) : Option (Int × Int) := if l.contains 45 then readPQ (bef 45 l) (aft 45 l) else none
theorem numR_bd (l : List UInt8) : 0 ≤ (numR l mostR).1 ∧ (numR l mostR).1 ≤ mostR := by
  unfold numR
  split
  · rename_i h; simp only [Bool.and_eq_true, decide_eq_true_eq] at h; exact ⟨by omega, h.2⟩
  · unfold mostR; simp
theorem numR_nil : numR [] mostR = (0, false) := rfl
/-- The span of a spec in a file of n bytes. -/
def spanM (x : Int × Int) (n : Int) : Int × Int :=
  if x.1 < 0 then (max (n - x.2) 0, max (n - max (n - x.2) 0) 0)
  else if 0 ≤ x.2 then (x.1, max (min (x.2 + 1) n - x.1) 0) else (x.1, max (n - x.1) 0)
theorem number_m {R : Ending → World → Prop} (l : List UInt8) (v : Int) (b : Bool) (w : World) (hl : l.length ≤ 2000000) (hv : numR l mostR = (v, b)) (h : R (.returned (.tuple #[.int .i64 v, .bool b])) w) : Calls Tryz.prog 106 #[.string (S l), .int .i64 1099511627776] w R := by
  have h2 : R (.returned (numV (numR l mostR))) w := by rw [hv]; exact h
  exact number_any l mostR w hl (by decide) (by decide) h2
def specV (a b : Int) : Value := .agg #[.int .i64 a, .int .i64 b]
theorem gen_world {P : Program} {c : Code} {Q : Exit → Act → World → Prop} {a : Act} {W : World} (Pr : World → Prop) (h : Pr W) (hk : ∀ W', Pr W' → Code.wp P c Q a W') : Code.wp P c Q a W := hk W h
theorem pq0 : readPQ [] [] = none := by unfold readPQ; simp
theorem pq1 {q : List UInt8} {y : Int} (hq : q ≠ []) (h : numR q mostR = (y, false)) : readPQ [] q = none := by unfold readPQ; simp [hq, h]
theorem pq2 {q : List UInt8} {y : Int} (hq : q ≠ []) (h : numR q mostR = (y, true)) : readPQ [] q = some (-1, y) := by unfold readPQ; simp [hq, h]
theorem pq3 {p q : List UInt8} {x : Int} (hp : p ≠ []) (h : numR p mostR = (x, false)) : readPQ p q = none := by unfold readPQ; simp [hp, h]
theorem pq4 {p : List UInt8} {x : Int} (hp : p ≠ []) (h : numR p mostR = (x, true)) : readPQ p [] = some (x, -1) := by unfold readPQ; simp [hp, h]
theorem pq5 {p q : List UInt8} {x y : Int} (hp : p ≠ []) (hq : q ≠ []) (h : numR p mostR = (x, true)) (h2 : numR q mostR = (y, false)) : readPQ p q = none := by unfold readPQ; simp [hp, h, hq, h2]
theorem pq6 {p q : List UInt8} {x y : Int} (hp : p ≠ []) (hq : q ≠ []) (h : numR p mostR = (x, true)) (h2 : numR q mostR = (y, true)) : readPQ p q = if x ≤ y then some (x, y) else none := by unfold readPQ; simp [hp, h, hq, h2]
theorem idx2_0 (x y : ByteArray) (W : World) : (Instr.index 189 (.agg #[.string x, .string y]) (.int .i64 0)).run Tryz.prog W = .ok (.string x) W := by
  simp [Instr.index, run_underlying Tryz.underlying189, asIntOf, go_sem]
theorem idx2_1 (x y : ByteArray) (W : World) : (Instr.index 189 (.agg #[.string x, .string y]) (.int .i64 1)).run Tryz.prog W = .ok (.string y) W := by
  simp [Instr.index, run_underlying Tryz.underlying189, asIntOf, go_sem]
set_option maxHeartbeats 4000000 in
theorem read_00 {R : Ending → World → Prop} (l p q : List UInt8) (w : World) (hp : p = []) (hq : q = []) (hpl : p.length ≤ 2000000) (hql : q.length ≤ 2000000)
    (HC : Hid (∀ (R : Ending → World → Prop) (w1 : World), Kp [] w w1 → (∀ n, R (.returned (.tuple #[.string (S p), .string (S q), .bool true])) (w1.drewN n)) → Calls Tryz.prog 68 #[.string (S l), .string ⟨#[45]⟩] w1 R))
    (h0 : ∀ a b w', Hid (readPQ p q = none) → Kp [] w w' → R (.returned (.tuple #[specV a b, .bool false])) w')
    (h1 : ∀ a b w', Hid (readPQ p q = some (a, b)) → Kp [] w w' → R (.returned (.tuple #[specV a b, .bool true])) w') :
    Calls Tryz.prog 71 #[.string (S l)] w R := by
  have H0 := Lib.hid h0
  have H1 := Lib.hid h1
  clear h0 h1
  have hpb := numR_bd p
  have hqb := numR_bd q
  obtain ⟨⟨x, bx⟩, hx⟩ : ∃ v, numR p mostR = v := ⟨_, rfl⟩
  obtain ⟨⟨y, by_⟩, hy⟩ : ∃ v, numR q mostR = v := ⟨_, rfl⟩
  rw [hx] at hpb
  rw [hy] at hqb
  have HX := Lib.hid hx
  have HY := Lib.hid hy
  unfold mostR at hpb hqb
  simp only at hpb hqb
  obtain ⟨hx0, hx1⟩ := hpb
  obtain ⟨hy0, hy1⟩ := hqb
  clear hx hy
  go_enter Tryz.func71, Tryz.ntmps71
  go_upto_region 3 with (go_at_call 68; ((refine HC.out _ _ ((Kp.refl [] w).alloc _) ?_); intro k))
  refine gen_world (fun W => Kp [] w W ∧ Bk W w.heap.size 136 [.int .i64 0, .int .i64 0] ∧ Bk W (w.heap.size + 1) 136 [.int .i64 (-1), .int .i64 (-1)]) ⟨?_, ?_, ?_⟩ ?_
  · exact (((Kp.refl [] w).alloc _).drewN k).alloc _
  · exact ((Bk.newAt rfl _ _).drewN k).alloc _
  · exact Bk.newAt (by simp) _ _
  rintro W ⟨kW, r0, r1⟩
  have k0 := kW.size
  have l0 := r0.lt
  have l1 := r1.lt
  generalize hg : w.heap.size = g at *
  have u0 := r0.cell 0
  have u1 := r0.cell 1
  have v0 := r1.cell 0
  have v1 := r1.cell 1
  simp only [List.getElem?_cons_zero, List.getElem?_cons_succ] at u0 u1 v0 v1
  have y0 := r0.frozen 0
  have y1 := r0.frozen 1
  have z0 := r1.frozen 0
  have z1 := r1.frozen 1
  have KW : Hid (∀ (S : List Nat), (∀ s ∈ S, g ≤ s) → ∀ w', Kp S W w' → Kp [] w w') := Lib.hid (fun S hS w' h => kW.thn h (fun s hs => .inr (by have := hS s hs; omega)))
  have i0 := idx2_0 (S p) (S q)
  have i1 := idx2_1 (S p) (S q)
  clear r0 r1 kW HC
  subst hp
  subst hq
  go_wp2
  exact bodyPost_ret (v := .tuple #[specV (-1) (-1), .bool false]) (by simp [results, Tryz.results71, go_sem, specV, u0, u1, v0, v1]) rfl (H0.out _ _ _ (Lib.hid (pq0)) (KW.out [g, g + 1] (by simp) _ (by repeat first | exact Kp.refl _ _ | refine Kp.setCell ?_ (.inl (by simp)) _ | refine Kp.drew ?_ | refine Kp.drewN ?_ _ | refine Kp.alloc ?_ _)))
set_option maxHeartbeats 4000000 in
theorem read_01f {R : Ending → World → Prop} (l p q : List UInt8) (w : World) (hp : p = []) (hq : q ≠ []) (hnq : (numR q mostR).2 = false) (hpl : p.length ≤ 2000000) (hql : q.length ≤ 2000000)
    (HC : Hid (∀ (R : Ending → World → Prop) (w1 : World), Kp [] w w1 → (∀ n, R (.returned (.tuple #[.string (S p), .string (S q), .bool true])) (w1.drewN n)) → Calls Tryz.prog 68 #[.string (S l), .string ⟨#[45]⟩] w1 R))
    (h0 : ∀ a b w', Hid (readPQ p q = none) → Kp [] w w' → R (.returned (.tuple #[specV a b, .bool false])) w')
    (h1 : ∀ a b w', Hid (readPQ p q = some (a, b)) → Kp [] w w' → R (.returned (.tuple #[specV a b, .bool true])) w') :
    Calls Tryz.prog 71 #[.string (S l)] w R := by
  have H0 := Lib.hid h0
  have H1 := Lib.hid h1
  clear h0 h1
  have hpb := numR_bd p
  have hqb := numR_bd q
  obtain ⟨⟨x, bx⟩, hx⟩ : ∃ v, numR p mostR = v := ⟨_, rfl⟩
  obtain ⟨⟨y, by_⟩, hy⟩ : ∃ v, numR q mostR = v := ⟨_, rfl⟩
  rw [hx] at hpb
  rw [hy] at hqb
  have HX := Lib.hid hx
  have HY := Lib.hid hy
  unfold mostR at hpb hqb
  simp only at hpb hqb
  obtain ⟨hx0, hx1⟩ := hpb
  obtain ⟨hy0, hy1⟩ := hqb
  clear hx hy
  go_enter Tryz.func71, Tryz.ntmps71
  go_upto_region 3 with (go_at_call 68; ((refine HC.out _ _ ((Kp.refl [] w).alloc _) ?_); intro k))
  refine gen_world (fun W => Kp [] w W ∧ Bk W w.heap.size 136 [.int .i64 0, .int .i64 0] ∧ Bk W (w.heap.size + 1) 136 [.int .i64 (-1), .int .i64 (-1)]) ⟨?_, ?_, ?_⟩ ?_
  · exact (((Kp.refl [] w).alloc _).drewN k).alloc _
  · exact ((Bk.newAt rfl _ _).drewN k).alloc _
  · exact Bk.newAt (by simp) _ _
  rintro W ⟨kW, r0, r1⟩
  have k0 := kW.size
  have l0 := r0.lt
  have l1 := r1.lt
  generalize hg : w.heap.size = g at *
  have u0 := r0.cell 0
  have u1 := r0.cell 1
  have v0 := r1.cell 0
  have v1 := r1.cell 1
  simp only [List.getElem?_cons_zero, List.getElem?_cons_succ] at u0 u1 v0 v1
  have y0 := r0.frozen 0
  have y1 := r0.frozen 1
  have z0 := r1.frozen 0
  have z1 := r1.frozen 1
  have KW : Hid (∀ (S : List Nat), (∀ s ∈ S, g ≤ s) → ∀ w', Kp S W w' → Kp [] w w') := Lib.hid (fun S hS w' h => kW.thn h (fun s hs => .inr (by have := hS s hs; omega)))
  have i0 := idx2_0 (S p) (S q)
  have i1 := idx2_1 (S p) (S q)
  clear r0 r1 kW HC
  have hby : by_ = false := by have := HY.out; rw [this] at hnq; exact hnq
  subst hby
  clear hnq
  subst hp
  have bq : q.isEmpty = false := by simpa using hq
  go_wp2
  refine wp_loop_rounds 2 ?_
  rw [rounds_succ]
  go_wp2
  rw [rounds_succ]
  go_wp2_with (go_at_call 106; ((with_reducible refine number_m q y false _ hql HY.out ?_)))
  exact bodyPost_ret (v := .tuple #[specV (-1) (-1), .bool false]) (by simp [results, Tryz.results71, go_sem, specV, u0, u1, v0, v1]) rfl (H0.out _ _ _ (Lib.hid (pq1 hq HY.out)) (KW.out [g, g + 1] (by simp) _ (by repeat first | exact Kp.refl _ _ | refine Kp.setCell ?_ (.inl (by simp)) _ | refine Kp.drew ?_ | refine Kp.drewN ?_ _ | refine Kp.alloc ?_ _)))
set_option maxHeartbeats 4000000 in
theorem read_01t {R : Ending → World → Prop} (l p q : List UInt8) (w : World) (hp : p = []) (hq : q ≠ []) (hnq : (numR q mostR).2 = true) (hpl : p.length ≤ 2000000) (hql : q.length ≤ 2000000)
    (HC : Hid (∀ (R : Ending → World → Prop) (w1 : World), Kp [] w w1 → (∀ n, R (.returned (.tuple #[.string (S p), .string (S q), .bool true])) (w1.drewN n)) → Calls Tryz.prog 68 #[.string (S l), .string ⟨#[45]⟩] w1 R))
    (h0 : ∀ a b w', Hid (readPQ p q = none) → Kp [] w w' → R (.returned (.tuple #[specV a b, .bool false])) w')
    (h1 : ∀ a b w', Hid (readPQ p q = some (a, b)) → Kp [] w w' → R (.returned (.tuple #[specV a b, .bool true])) w') :
    Calls Tryz.prog 71 #[.string (S l)] w R := by
  have H0 := Lib.hid h0
  have H1 := Lib.hid h1
  clear h0 h1
  have hpb := numR_bd p
  have hqb := numR_bd q
  obtain ⟨⟨x, bx⟩, hx⟩ : ∃ v, numR p mostR = v := ⟨_, rfl⟩
  obtain ⟨⟨y, by_⟩, hy⟩ : ∃ v, numR q mostR = v := ⟨_, rfl⟩
  rw [hx] at hpb
  rw [hy] at hqb
  have HX := Lib.hid hx
  have HY := Lib.hid hy
  unfold mostR at hpb hqb
  simp only at hpb hqb
  obtain ⟨hx0, hx1⟩ := hpb
  obtain ⟨hy0, hy1⟩ := hqb
  clear hx hy
  go_enter Tryz.func71, Tryz.ntmps71
  go_upto_region 3 with (go_at_call 68; ((refine HC.out _ _ ((Kp.refl [] w).alloc _) ?_); intro k))
  refine gen_world (fun W => Kp [] w W ∧ Bk W w.heap.size 136 [.int .i64 0, .int .i64 0] ∧ Bk W (w.heap.size + 1) 136 [.int .i64 (-1), .int .i64 (-1)]) ⟨?_, ?_, ?_⟩ ?_
  · exact (((Kp.refl [] w).alloc _).drewN k).alloc _
  · exact ((Bk.newAt rfl _ _).drewN k).alloc _
  · exact Bk.newAt (by simp) _ _
  rintro W ⟨kW, r0, r1⟩
  have k0 := kW.size
  have l0 := r0.lt
  have l1 := r1.lt
  generalize hg : w.heap.size = g at *
  have u0 := r0.cell 0
  have u1 := r0.cell 1
  have v0 := r1.cell 0
  have v1 := r1.cell 1
  simp only [List.getElem?_cons_zero, List.getElem?_cons_succ] at u0 u1 v0 v1
  have y0 := r0.frozen 0
  have y1 := r0.frozen 1
  have z0 := r1.frozen 0
  have z1 := r1.frozen 1
  have KW : Hid (∀ (S : List Nat), (∀ s ∈ S, g ≤ s) → ∀ w', Kp S W w' → Kp [] w w') := Lib.hid (fun S hS w' h => kW.thn h (fun s hs => .inr (by have := hS s hs; omega)))
  have i0 := idx2_0 (S p) (S q)
  have i1 := idx2_1 (S p) (S q)
  clear r0 r1 kW HC
  have hby : by_ = true := by have := HY.out; rw [this] at hnq; exact hnq
  subst hby
  clear hnq
  subst hp
  have bq : q.isEmpty = false := by simpa using hq
  go_wp2
  refine wp_loop_rounds 3 ?_
  rw [rounds_succ]
  go_wp2
  rw [rounds_succ]
  go_wp2_with (go_at_call 106; ((with_reducible refine number_m q y true _ hql HY.out ?_)))
  rw [rounds_succ]
  go_wp2
  go_region
  all_goals go_wp2
  all_goals exact bodyPost_ret (v := .tuple #[specV (-1) y, .bool true]) (by simp [results, Tryz.results71, go_sem, specV, u0, u1, v0, v1]) rfl (H1.out _ _ _ (Lib.hid (pq2 hq HY.out)) (KW.out [g, g + 1] (by simp) _ (by repeat first | exact Kp.refl _ _ | refine Kp.setCell ?_ (.inl (by simp)) _ | refine Kp.drew ?_ | refine Kp.drewN ?_ _ | refine Kp.alloc ?_ _)))
set_option maxHeartbeats 4000000 in
theorem read_1f {R : Ending → World → Prop} (l p q : List UInt8) (w : World) (hp : p ≠ []) (hnp : (numR p mostR).2 = false) (hpl : p.length ≤ 2000000) (hql : q.length ≤ 2000000)
    (HC : Hid (∀ (R : Ending → World → Prop) (w1 : World), Kp [] w w1 → (∀ n, R (.returned (.tuple #[.string (S p), .string (S q), .bool true])) (w1.drewN n)) → Calls Tryz.prog 68 #[.string (S l), .string ⟨#[45]⟩] w1 R))
    (h0 : ∀ a b w', Hid (readPQ p q = none) → Kp [] w w' → R (.returned (.tuple #[specV a b, .bool false])) w')
    (h1 : ∀ a b w', Hid (readPQ p q = some (a, b)) → Kp [] w w' → R (.returned (.tuple #[specV a b, .bool true])) w') :
    Calls Tryz.prog 71 #[.string (S l)] w R := by
  have H0 := Lib.hid h0
  have H1 := Lib.hid h1
  clear h0 h1
  have hpb := numR_bd p
  have hqb := numR_bd q
  obtain ⟨⟨x, bx⟩, hx⟩ : ∃ v, numR p mostR = v := ⟨_, rfl⟩
  obtain ⟨⟨y, by_⟩, hy⟩ : ∃ v, numR q mostR = v := ⟨_, rfl⟩
  rw [hx] at hpb
  rw [hy] at hqb
  have HX := Lib.hid hx
  have HY := Lib.hid hy
  unfold mostR at hpb hqb
  simp only at hpb hqb
  obtain ⟨hx0, hx1⟩ := hpb
  obtain ⟨hy0, hy1⟩ := hqb
  clear hx hy
  go_enter Tryz.func71, Tryz.ntmps71
  go_upto_region 3 with (go_at_call 68; ((refine HC.out _ _ ((Kp.refl [] w).alloc _) ?_); intro k))
  refine gen_world (fun W => Kp [] w W ∧ Bk W w.heap.size 136 [.int .i64 0, .int .i64 0] ∧ Bk W (w.heap.size + 1) 136 [.int .i64 (-1), .int .i64 (-1)]) ⟨?_, ?_, ?_⟩ ?_
  · exact (((Kp.refl [] w).alloc _).drewN k).alloc _
  · exact ((Bk.newAt rfl _ _).drewN k).alloc _
  · exact Bk.newAt (by simp) _ _
  rintro W ⟨kW, r0, r1⟩
  have k0 := kW.size
  have l0 := r0.lt
  have l1 := r1.lt
  generalize hg : w.heap.size = g at *
  have u0 := r0.cell 0
  have u1 := r0.cell 1
  have v0 := r1.cell 0
  have v1 := r1.cell 1
  simp only [List.getElem?_cons_zero, List.getElem?_cons_succ] at u0 u1 v0 v1
  have y0 := r0.frozen 0
  have y1 := r0.frozen 1
  have z0 := r1.frozen 0
  have z1 := r1.frozen 1
  have KW : Hid (∀ (S : List Nat), (∀ s ∈ S, g ≤ s) → ∀ w', Kp S W w' → Kp [] w w') := Lib.hid (fun S hS w' h => kW.thn h (fun s hs => .inr (by have := hS s hs; omega)))
  have i0 := idx2_0 (S p) (S q)
  have i1 := idx2_1 (S p) (S q)
  clear r0 r1 kW HC
  have hbx : bx = false := by have := HX.out; rw [this] at hnp; exact hnp
  subst hbx
  clear hnp
  have bp : p.isEmpty = false := by simpa using hp
  go_wp2
  refine wp_loop_rounds 1 ?_
  rw [rounds_succ]
  go_wp2_with (go_at_call 106; ((with_reducible refine number_m p x false _ hpl HX.out ?_)))
  exact bodyPost_ret (v := .tuple #[specV (-1) (-1), .bool false]) (by simp [results, Tryz.results71, go_sem, specV, u0, u1, v0, v1]) rfl (H0.out _ _ _ (Lib.hid (pq3 hp HX.out)) (KW.out [g, g + 1] (by simp) _ (by repeat first | exact Kp.refl _ _ | refine Kp.setCell ?_ (.inl (by simp)) _ | refine Kp.drew ?_ | refine Kp.drewN ?_ _ | refine Kp.alloc ?_ _)))
set_option maxHeartbeats 4000000 in
theorem read_10 {R : Ending → World → Prop} (l p q : List UInt8) (w : World) (hp : p ≠ []) (hnp : (numR p mostR).2 = true) (hq : q = []) (hpl : p.length ≤ 2000000) (hql : q.length ≤ 2000000)
    (HC : Hid (∀ (R : Ending → World → Prop) (w1 : World), Kp [] w w1 → (∀ n, R (.returned (.tuple #[.string (S p), .string (S q), .bool true])) (w1.drewN n)) → Calls Tryz.prog 68 #[.string (S l), .string ⟨#[45]⟩] w1 R))
    (h0 : ∀ a b w', Hid (readPQ p q = none) → Kp [] w w' → R (.returned (.tuple #[specV a b, .bool false])) w')
    (h1 : ∀ a b w', Hid (readPQ p q = some (a, b)) → Kp [] w w' → R (.returned (.tuple #[specV a b, .bool true])) w') :
    Calls Tryz.prog 71 #[.string (S l)] w R := by
  have H0 := Lib.hid h0
  have H1 := Lib.hid h1
  clear h0 h1
  have hpb := numR_bd p
  have hqb := numR_bd q
  obtain ⟨⟨x, bx⟩, hx⟩ : ∃ v, numR p mostR = v := ⟨_, rfl⟩
  obtain ⟨⟨y, by_⟩, hy⟩ : ∃ v, numR q mostR = v := ⟨_, rfl⟩
  rw [hx] at hpb
  rw [hy] at hqb
  have HX := Lib.hid hx
  have HY := Lib.hid hy
  unfold mostR at hpb hqb
  simp only at hpb hqb
  obtain ⟨hx0, hx1⟩ := hpb
  obtain ⟨hy0, hy1⟩ := hqb
  clear hx hy
  go_enter Tryz.func71, Tryz.ntmps71
  go_upto_region 3 with (go_at_call 68; ((refine HC.out _ _ ((Kp.refl [] w).alloc _) ?_); intro k))
  refine gen_world (fun W => Kp [] w W ∧ Bk W w.heap.size 136 [.int .i64 0, .int .i64 0] ∧ Bk W (w.heap.size + 1) 136 [.int .i64 (-1), .int .i64 (-1)]) ⟨?_, ?_, ?_⟩ ?_
  · exact (((Kp.refl [] w).alloc _).drewN k).alloc _
  · exact ((Bk.newAt rfl _ _).drewN k).alloc _
  · exact Bk.newAt (by simp) _ _
  rintro W ⟨kW, r0, r1⟩
  have k0 := kW.size
  have l0 := r0.lt
  have l1 := r1.lt
  generalize hg : w.heap.size = g at *
  have u0 := r0.cell 0
  have u1 := r0.cell 1
  have v0 := r1.cell 0
  have v1 := r1.cell 1
  simp only [List.getElem?_cons_zero, List.getElem?_cons_succ] at u0 u1 v0 v1
  have y0 := r0.frozen 0
  have y1 := r0.frozen 1
  have z0 := r1.frozen 0
  have z1 := r1.frozen 1
  have KW : Hid (∀ (S : List Nat), (∀ s ∈ S, g ≤ s) → ∀ w', Kp S W w' → Kp [] w w') := Lib.hid (fun S hS w' h => kW.thn h (fun s hs => .inr (by have := hS s hs; omega)))
  have i0 := idx2_0 (S p) (S q)
  have i1 := idx2_1 (S p) (S q)
  clear r0 r1 kW HC
  have hbx : bx = true := by have := HX.out; rw [this] at hnp; exact hnp
  subst hbx
  clear hnp
  have bp : p.isEmpty = false := by simpa using hp
  subst hq
  have d0 : decide (x < 0) = false := by simp; omega
  go_wp2
  refine wp_loop_rounds 3 ?_
  rw [rounds_succ]
  go_wp2_with (go_at_call 106; ((with_reducible refine number_m p x true _ hpl HX.out ?_)))
  rw [rounds_succ]
  go_wp2
  rw [rounds_succ]
  go_wp2
  go_region
  all_goals go_wp2
  all_goals exact bodyPost_ret (v := .tuple #[specV x (-1), .bool true]) (by simp [results, Tryz.results71, go_sem, specV, u0, u1, v0, v1]) rfl (H1.out _ _ _ (Lib.hid (pq4 hp HX.out)) (KW.out [g, g + 1] (by simp) _ (by repeat first | exact Kp.refl _ _ | refine Kp.setCell ?_ (.inl (by simp)) _ | refine Kp.drew ?_ | refine Kp.drewN ?_ _ | refine Kp.alloc ?_ _)))
set_option maxHeartbeats 4000000 in
theorem read_11f {R : Ending → World → Prop} (l p q : List UInt8) (w : World) (hp : p ≠ []) (hnp : (numR p mostR).2 = true) (hq : q ≠ []) (hnq : (numR q mostR).2 = false) (hpl : p.length ≤ 2000000) (hql : q.length ≤ 2000000)
    (HC : Hid (∀ (R : Ending → World → Prop) (w1 : World), Kp [] w w1 → (∀ n, R (.returned (.tuple #[.string (S p), .string (S q), .bool true])) (w1.drewN n)) → Calls Tryz.prog 68 #[.string (S l), .string ⟨#[45]⟩] w1 R))
    (h0 : ∀ a b w', Hid (readPQ p q = none) → Kp [] w w' → R (.returned (.tuple #[specV a b, .bool false])) w')
    (h1 : ∀ a b w', Hid (readPQ p q = some (a, b)) → Kp [] w w' → R (.returned (.tuple #[specV a b, .bool true])) w') :
    Calls Tryz.prog 71 #[.string (S l)] w R := by
  have H0 := Lib.hid h0
  have H1 := Lib.hid h1
  clear h0 h1
  have hpb := numR_bd p
  have hqb := numR_bd q
  obtain ⟨⟨x, bx⟩, hx⟩ : ∃ v, numR p mostR = v := ⟨_, rfl⟩
  obtain ⟨⟨y, by_⟩, hy⟩ : ∃ v, numR q mostR = v := ⟨_, rfl⟩
  rw [hx] at hpb
  rw [hy] at hqb
  have HX := Lib.hid hx
  have HY := Lib.hid hy
  unfold mostR at hpb hqb
  simp only at hpb hqb
  obtain ⟨hx0, hx1⟩ := hpb
  obtain ⟨hy0, hy1⟩ := hqb
  clear hx hy
  go_enter Tryz.func71, Tryz.ntmps71
  go_upto_region 3 with (go_at_call 68; ((refine HC.out _ _ ((Kp.refl [] w).alloc _) ?_); intro k))
  refine gen_world (fun W => Kp [] w W ∧ Bk W w.heap.size 136 [.int .i64 0, .int .i64 0] ∧ Bk W (w.heap.size + 1) 136 [.int .i64 (-1), .int .i64 (-1)]) ⟨?_, ?_, ?_⟩ ?_
  · exact (((Kp.refl [] w).alloc _).drewN k).alloc _
  · exact ((Bk.newAt rfl _ _).drewN k).alloc _
  · exact Bk.newAt (by simp) _ _
  rintro W ⟨kW, r0, r1⟩
  have k0 := kW.size
  have l0 := r0.lt
  have l1 := r1.lt
  generalize hg : w.heap.size = g at *
  have u0 := r0.cell 0
  have u1 := r0.cell 1
  have v0 := r1.cell 0
  have v1 := r1.cell 1
  simp only [List.getElem?_cons_zero, List.getElem?_cons_succ] at u0 u1 v0 v1
  have y0 := r0.frozen 0
  have y1 := r0.frozen 1
  have z0 := r1.frozen 0
  have z1 := r1.frozen 1
  have KW : Hid (∀ (S : List Nat), (∀ s ∈ S, g ≤ s) → ∀ w', Kp S W w' → Kp [] w w') := Lib.hid (fun S hS w' h => kW.thn h (fun s hs => .inr (by have := hS s hs; omega)))
  have i0 := idx2_0 (S p) (S q)
  have i1 := idx2_1 (S p) (S q)
  clear r0 r1 kW HC
  have hbx : bx = true := by have := HX.out; rw [this] at hnp; exact hnp
  subst hbx
  clear hnp
  have hby : by_ = false := by have := HY.out; rw [this] at hnq; exact hnq
  subst hby
  clear hnq
  have bp : p.isEmpty = false := by simpa using hp
  have bq : q.isEmpty = false := by simpa using hq
  go_wp2
  refine wp_loop_rounds 2 ?_
  rw [rounds_succ]
  go_wp2_with (go_at_call 106; ((with_reducible refine number_m p x true _ hpl HX.out ?_)))
  rw [rounds_succ]
  go_wp2_with (go_at_call 106; ((with_reducible refine number_m q y false _ hql HY.out ?_)))
  exact bodyPost_ret (v := .tuple #[specV x (-1), .bool false]) (by simp [results, Tryz.results71, go_sem, specV, u0, u1, v0, v1]) rfl (H0.out _ _ _ (Lib.hid (pq5 hp hq HX.out HY.out)) (KW.out [g, g + 1] (by simp) _ (by repeat first | exact Kp.refl _ _ | refine Kp.setCell ?_ (.inl (by simp)) _ | refine Kp.drew ?_ | refine Kp.drewN ?_ _ | refine Kp.alloc ?_ _)))
set_option maxHeartbeats 4000000 in
theorem read_11le {R : Ending → World → Prop} (l p q : List UInt8) (w : World) (hp : p ≠ []) (hnp : (numR p mostR).2 = true) (hq : q ≠ []) (hnq : (numR q mostR).2 = true) (hle : (numR p mostR).1 ≤ (numR q mostR).1) (hpl : p.length ≤ 2000000) (hql : q.length ≤ 2000000)
    (HC : Hid (∀ (R : Ending → World → Prop) (w1 : World), Kp [] w w1 → (∀ n, R (.returned (.tuple #[.string (S p), .string (S q), .bool true])) (w1.drewN n)) → Calls Tryz.prog 68 #[.string (S l), .string ⟨#[45]⟩] w1 R))
    (h0 : ∀ a b w', Hid (readPQ p q = none) → Kp [] w w' → R (.returned (.tuple #[specV a b, .bool false])) w')
    (h1 : ∀ a b w', Hid (readPQ p q = some (a, b)) → Kp [] w w' → R (.returned (.tuple #[specV a b, .bool true])) w') :
    Calls Tryz.prog 71 #[.string (S l)] w R := by
  have H0 := Lib.hid h0
  have H1 := Lib.hid h1
  clear h0 h1
  have hpb := numR_bd p
  have hqb := numR_bd q
  obtain ⟨⟨x, bx⟩, hx⟩ : ∃ v, numR p mostR = v := ⟨_, rfl⟩
  obtain ⟨⟨y, by_⟩, hy⟩ : ∃ v, numR q mostR = v := ⟨_, rfl⟩
  rw [hx] at hpb
  rw [hy] at hqb
  have HX := Lib.hid hx
  have HY := Lib.hid hy
  unfold mostR at hpb hqb
  simp only at hpb hqb
  obtain ⟨hx0, hx1⟩ := hpb
  obtain ⟨hy0, hy1⟩ := hqb
  clear hx hy
  go_enter Tryz.func71, Tryz.ntmps71
  go_upto_region 3 with (go_at_call 68; ((refine HC.out _ _ ((Kp.refl [] w).alloc _) ?_); intro k))
  refine gen_world (fun W => Kp [] w W ∧ Bk W w.heap.size 136 [.int .i64 0, .int .i64 0] ∧ Bk W (w.heap.size + 1) 136 [.int .i64 (-1), .int .i64 (-1)]) ⟨?_, ?_, ?_⟩ ?_
  · exact (((Kp.refl [] w).alloc _).drewN k).alloc _
  · exact ((Bk.newAt rfl _ _).drewN k).alloc _
  · exact Bk.newAt (by simp) _ _
  rintro W ⟨kW, r0, r1⟩
  have k0 := kW.size
  have l0 := r0.lt
  have l1 := r1.lt
  generalize hg : w.heap.size = g at *
  have u0 := r0.cell 0
  have u1 := r0.cell 1
  have v0 := r1.cell 0
  have v1 := r1.cell 1
  simp only [List.getElem?_cons_zero, List.getElem?_cons_succ] at u0 u1 v0 v1
  have y0 := r0.frozen 0
  have y1 := r0.frozen 1
  have z0 := r1.frozen 0
  have z1 := r1.frozen 1
  have KW : Hid (∀ (S : List Nat), (∀ s ∈ S, g ≤ s) → ∀ w', Kp S W w' → Kp [] w w') := Lib.hid (fun S hS w' h => kW.thn h (fun s hs => .inr (by have := hS s hs; omega)))
  have i0 := idx2_0 (S p) (S q)
  have i1 := idx2_1 (S p) (S q)
  clear r0 r1 kW HC
  have hbx : bx = true := by have := HX.out; rw [this] at hnp; exact hnp
  subst hbx
  clear hnp
  have hby : by_ = true := by have := HY.out; rw [this] at hnq; exact hnq
  subst hby
  clear hnq
  have bp : p.isEmpty = false := by simpa using hp
  have bq : q.isEmpty = false := by simpa using hq
  have d0 : decide (x < 0) = false := by simp; omega
  have d1 : decide (y < 0) = false := by simp; omega
  rw [HX.out, HY.out] at hle
  simp only at hle
  have e6 := pq6 hp hq HX.out HY.out
  rw [if_pos hle] at e6
  have E6 := Lib.hid e6
  clear e6
  have d2 : decide (x ≤ y) = true := by simp; omega
  go_wp2
  refine wp_loop_rounds 3 ?_
  rw [rounds_succ]
  go_wp2_with (go_at_call 106; ((with_reducible refine number_m p x true _ hpl HX.out ?_)))
  rw [rounds_succ]
  go_wp2_with (go_at_call 106; ((with_reducible refine number_m q y true _ hql HY.out ?_)))
  rw [rounds_succ]
  go_wp2
  go_region
  all_goals go_wp2
  all_goals exact bodyPost_ret (v := .tuple #[specV x y, .bool true]) (by simp [results, Tryz.results71, go_sem, specV, u0, u1, v0, v1]) rfl (H1.out _ _ _ (Lib.hid (E6.out)) (KW.out [g, g + 1] (by simp) _ (by repeat first | exact Kp.refl _ _ | refine Kp.setCell ?_ (.inl (by simp)) _ | refine Kp.drew ?_ | refine Kp.drewN ?_ _ | refine Kp.alloc ?_ _)))
set_option maxHeartbeats 4000000 in
theorem read_11gt {R : Ending → World → Prop} (l p q : List UInt8) (w : World) (hp : p ≠ []) (hnp : (numR p mostR).2 = true) (hq : q ≠ []) (hnq : (numR q mostR).2 = true) (hle : ¬ (numR p mostR).1 ≤ (numR q mostR).1) (hpl : p.length ≤ 2000000) (hql : q.length ≤ 2000000)
    (HC : Hid (∀ (R : Ending → World → Prop) (w1 : World), Kp [] w w1 → (∀ n, R (.returned (.tuple #[.string (S p), .string (S q), .bool true])) (w1.drewN n)) → Calls Tryz.prog 68 #[.string (S l), .string ⟨#[45]⟩] w1 R))
    (h0 : ∀ a b w', Hid (readPQ p q = none) → Kp [] w w' → R (.returned (.tuple #[specV a b, .bool false])) w')
    (h1 : ∀ a b w', Hid (readPQ p q = some (a, b)) → Kp [] w w' → R (.returned (.tuple #[specV a b, .bool true])) w') :
    Calls Tryz.prog 71 #[.string (S l)] w R := by
  have H0 := Lib.hid h0
  have H1 := Lib.hid h1
  clear h0 h1
  have hpb := numR_bd p
  have hqb := numR_bd q
  obtain ⟨⟨x, bx⟩, hx⟩ : ∃ v, numR p mostR = v := ⟨_, rfl⟩
  obtain ⟨⟨y, by_⟩, hy⟩ : ∃ v, numR q mostR = v := ⟨_, rfl⟩
  rw [hx] at hpb
  rw [hy] at hqb
  have HX := Lib.hid hx
  have HY := Lib.hid hy
  unfold mostR at hpb hqb
  simp only at hpb hqb
  obtain ⟨hx0, hx1⟩ := hpb
  obtain ⟨hy0, hy1⟩ := hqb
  clear hx hy
  go_enter Tryz.func71, Tryz.ntmps71
  go_upto_region 3 with (go_at_call 68; ((refine HC.out _ _ ((Kp.refl [] w).alloc _) ?_); intro k))
  refine gen_world (fun W => Kp [] w W ∧ Bk W w.heap.size 136 [.int .i64 0, .int .i64 0] ∧ Bk W (w.heap.size + 1) 136 [.int .i64 (-1), .int .i64 (-1)]) ⟨?_, ?_, ?_⟩ ?_
  · exact (((Kp.refl [] w).alloc _).drewN k).alloc _
  · exact ((Bk.newAt rfl _ _).drewN k).alloc _
  · exact Bk.newAt (by simp) _ _
  rintro W ⟨kW, r0, r1⟩
  have k0 := kW.size
  have l0 := r0.lt
  have l1 := r1.lt
  generalize hg : w.heap.size = g at *
  have u0 := r0.cell 0
  have u1 := r0.cell 1
  have v0 := r1.cell 0
  have v1 := r1.cell 1
  simp only [List.getElem?_cons_zero, List.getElem?_cons_succ] at u0 u1 v0 v1
  have y0 := r0.frozen 0
  have y1 := r0.frozen 1
  have z0 := r1.frozen 0
  have z1 := r1.frozen 1
  have KW : Hid (∀ (S : List Nat), (∀ s ∈ S, g ≤ s) → ∀ w', Kp S W w' → Kp [] w w') := Lib.hid (fun S hS w' h => kW.thn h (fun s hs => .inr (by have := hS s hs; omega)))
  have i0 := idx2_0 (S p) (S q)
  have i1 := idx2_1 (S p) (S q)
  clear r0 r1 kW HC
  have hbx : bx = true := by have := HX.out; rw [this] at hnp; exact hnp
  subst hbx
  clear hnp
  have hby : by_ = true := by have := HY.out; rw [this] at hnq; exact hnq
  subst hby
  clear hnq
  have bp : p.isEmpty = false := by simpa using hp
  have bq : q.isEmpty = false := by simpa using hq
  have d0 : decide (x < 0) = false := by simp; omega
  have d1 : decide (y < 0) = false := by simp; omega
  rw [HX.out, HY.out] at hle
  simp only at hle
  have e6 := pq6 hp hq HX.out HY.out
  rw [if_neg (by omega)] at e6
  have E6 := Lib.hid e6
  clear e6
  have d2 : decide (x ≤ y) = false := by simp; omega
  go_wp2
  refine wp_loop_rounds 3 ?_
  rw [rounds_succ]
  go_wp2_with (go_at_call 106; ((with_reducible refine number_m p x true _ hpl HX.out ?_)))
  rw [rounds_succ]
  go_wp2_with (go_at_call 106; ((with_reducible refine number_m q y true _ hql HY.out ?_)))
  rw [rounds_succ]
  go_wp2
  go_region
  all_goals go_wp2
  all_goals exact bodyPost_ret (v := .tuple #[specV x y, .bool false]) (by simp [results, Tryz.results71, go_sem, specV, u0, u1, v0, v1]) rfl (H0.out _ _ _ (Lib.hid (E6.out)) (KW.out [g, g + 1] (by simp) _ (by repeat first | exact Kp.refl _ _ | refine Kp.setCell ?_ (.inl (by simp)) _ | refine Kp.drew ?_ | refine Kp.drewN ?_ _ | refine Kp.alloc ?_ _)))
theorem read_pq {R : Ending → World → Prop} (l p q : List UInt8) (w : World) (hpl : p.length ≤ 2000000) (hql : q.length ≤ 2000000)
    (HC : Hid (∀ (R : Ending → World → Prop) (w1 : World), Kp [] w w1 → (∀ n, R (.returned (.tuple #[.string (S p), .string (S q), .bool true])) (w1.drewN n)) → Calls Tryz.prog 68 #[.string (S l), .string ⟨#[45]⟩] w1 R))
    (h0 : ∀ a b w', Hid (readPQ p q = none) → Kp [] w w' → R (.returned (.tuple #[specV a b, .bool false])) w')
    (h1 : ∀ a b w', Hid (readPQ p q = some (a, b)) → Kp [] w w' → R (.returned (.tuple #[specV a b, .bool true])) w') :
    Calls Tryz.prog 71 #[.string (S l)] w R := by
  by_cases hp : p = []
  · by_cases hq : q = []
    · exact read_00 l p q w hp hq hpl hql HC h0 h1
    · cases hnq : (numR q mostR).2
      · exact read_01f l p q w hp hq hnq hpl hql HC h0 h1
      · exact read_01t l p q w hp hq hnq hpl hql HC h0 h1
  · cases hnp : (numR p mostR).2
    · exact read_1f l p q w hp hnp hpl hql HC h0 h1
    · by_cases hq : q = []
      · exact read_10 l p q w hp hnp hq hpl hql HC h0 h1
      · cases hnq : (numR q mostR).2
        · exact read_11f l p q w hp hnp hq hnq hpl hql HC h0 h1
        · by_cases hle : (numR p mostR).1 ≤ (numR q mostR).1
          · exact read_11le l p q w hp hnp hq hnq hle hpl hql HC h0 h1
          · exact read_11gt l p q w hp hnp hq hnq hle hpl hql HC h0 h1
set_option maxHeartbeats 1000000 in
theorem read_any {R : Ending → World → Prop} (l : List UInt8) (w : World) (hl : l.length ≤ 2000000) (hm : Ml w)
    (h0 : ∀ a b w', Hid (readM l = none) → Kp [] w w' → R (.returned (.tuple #[specV a b, .bool false])) w')
    (h1 : ∀ a b w', Hid (readM l = some (a, b)) → Kp [] w w' → R (.returned (.tuple #[specV a b, .bool true])) w') :
    Calls Tryz.prog 71 #[.string (S l)] w R := by
  have hb1 := bef_len 45 l
  have hb2 := aft_len 45 l
  have HC : Hid (∀ (R : Ending → World → Prop) (w1 : World), Kp [] w w1 → (∀ n, R (.returned (.tuple #[.string (S (bef 45 l)), .string (S (aft 45 l)), .bool (l.contains 45)])) (w1.drewN n)) → Calls Tryz.prog 68 #[.string (S l), .string ⟨#[45]⟩] w1 R) := Lib.hid (fun R w1 k1 h => cut_any (R := R) l 45 (hm.kp k1) hl h)
  cases hc : l.contains 45
  · have HN : Hid (readM l = none) := Lib.hid (by unfold readM; rw [hc]; rfl)
    have H0 := Lib.hid h0
    clear h0 h1 hb1 hb2
    rw [hc] at HC
    generalize bef 45 l = p at *
    generalize aft 45 l = q at *
    clear hc
    go_enter Tryz.func71, Tryz.ntmps71
    go_wp2_with (go_at_call 68; ((refine HC.out _ _ ((Kp.refl [] w).alloc _) ?_); intro k))
    exact bodyPost_ret (v := .tuple #[specV (-1) (-1), .bool false]) (by simp [results, Tryz.results71, go_sem, specV]) rfl (H0.out _ _ _ HN (((((((Kp.refl [] w).alloc _).drewN k).setCell (.inr (by simp)) _).setCell (.inr (by simp)) _)).alloc _))
  · have e : readM l = readPQ (bef 45 l) (aft 45 l) := by unfold readM; rw [hc]; rfl
    rw [hc] at HC
    rw [e] at h0 h1
    exact read_pq l _ _ w (by omega) (by omega) HC h0 h1
end
end Go.Proofs.YtnmafahbdfilcaaGreatDoor
