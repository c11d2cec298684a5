/- The walks of package request: a request of lines. -/
import Derived.Test.YtnmafahbdfilcaaGreatDoorPC16
import Derived.Test.YtnmafahbdfilcaaGreatDoorPC15
import Derived.Test.YtnmafahbdfilcaaGreatDoorPC5
namespace Go.Proofs.YtnmafahbdfilcaaGreatDoor
/-! ### The walks of package request: a request of lines. -/
section
open Go.RowKit Go.Shelf
set_option linter.unusedVariables false
set_option linter.unusedSimpArgs false
set_option maxRecDepth 100000

def reqC (r : Req) (A : Option Addr) (c : Nat) : List Value := [.string (S r.m), .string (S r.t), .int .i64 r.minor, .slice A r.fs.length c, .bool r.close]
def reqV (r : Req) (A : Option Addr) (c : Nat) : Value := .agg #[.string (S r.m), .string (S r.t), .int .i64 r.minor, .slice A r.fs.length c, .bool r.close]
theorem elt_fd : Elt Tryz.prog 33 79 (.agg #[.string ByteArray.empty, .string ByteArray.empty]) 2 32 := ⟨Tryz.underlying33, by kernel_rfl, rfl, by decide, by decide⟩
theorem elem_str : Tryz.prog.elem 46 = 9 := by kernel_rfl
theorem und_str : Tryz.prog.underlying 46 = some (.slice (Tryz.prog.elem 46)) := by rw [elem_str]; exact Tryz.underlying46
theorem size_str (W : World) : (sizeOf (Tryz.prog.elem 46)).run Tryz.prog W = .ok 1 W := by
  rw [elem_str]; kernel_rfl
theorem sslice_from {w : World} {N : List Nat} {A : Option Addr} {n c : Nat} {l : List (List UInt8)} (hr : Rd w N A (strs l)) (hl : l.length = n) (hc : n ≤ c) (k : Nat) (hk : k ≤ n) :
    ∃ A1, (∀ W, (Instr.slice 46 (.slice A n c) (some (.int .i64 k)) none none).run Tryz.prog W = .ok (.slice A1 (n - k) (c - k)) W) ∧ Rd w N A1 (strs (l.drop k)) := by
  refine ⟨if c = k then A else A.map (·.add (k * 1)), fun W => ?_, ?_⟩
  · rw [run_slice_l W _ _ _ _ und_str .i64 k (by omega) (by omega), size_str]
    simp [Result.andThen, sliced]
  · have e : strs (l.drop k) = (strs l).drop k := by simp [strs]
    rw [e]
    rcases Nat.lt_or_ge k n with h | h
    · rw [if_neg (by omega), Nat.mul_one]
      exact hr.drop k (by rw [strs_len]; omega)
    · rw [List.drop_eq_nil_of_le (by rw [strs_len]; omega)]
      exact Rd.nil
theorem Ow.ncap {w : World} {e sz n c : Nat} {A : Option Addr} {xs : List Value} (h : Ow w e sz A n c xs) : n ≤ c := by
  rcases h.2 with ⟨hv, h0⟩ | ⟨g', cap, cur, hv, _, _, hnc, _⟩
  · omega
  · injection hv with _ _ hc'; omega
/-- What `of` hands back. -/
def OfK (R : Ending → World → Prop) (w : World) (p : Req × Int) : Prop :=
  ∀ A' c' w', Kp [] w w' → Rd w' [] A' (p.1.fs.flatMap fldC) → (∀ b ∈ bks A', w.heap.size ≤ b) → p.1.fs.length ≤ c' → R (.returned (.tuple #[reqV p.1 A' c', .int .i64 p.2])) w'
def zeroC : List Value := [.string ByteArray.empty, .string ByteArray.empty, .int .i64 0, .slice none 0 0, .bool false]
/-- The function's two structs. -/
structure OfS (w W : World) (g2 g4 : Nat) (m t : List UInt8) (minor : Int) (A : Option Addr) (c : Nat) (fs : List Fd) : Prop where
  kp : Kp [] w W
  ml : Ml w
  g : w.heap.size ≤ g2 ∧ g2 < g4
  b2 : Bk W g2 35 zeroC
  b4 : Bk W g4 35 [.string (S m), .string (S t), .int .i64 minor, .slice A fs.length c, .bool false]
  own : Ow W 79 2 A fs.length c (fs.flatMap fldC)
  fresh : ∀ b ∈ bks A, g4 < b
section
variable {w W W' : World} {g2 g4 : Nat} {m t : List UInt8} {minor : Int} {A : Option Addr} {c : Nat} {fs : List Fd}
theorem OfS.keep (h : OfS w W g2 g4 m t minor A c fs) (k : Kp [] W W') : OfS w W' g2 g4 m t minor A c fs :=
  ⟨h.kp.trans k, h.ml, h.g, h.b2.kp k (by simp), h.b4.kp k (by simp), h.own.kp k (by simp), h.fresh⟩
theorem OfS.mlW (h : OfS w W g2 g4 m t minor A c fs) : Ml W := h.ml.kp h.kp
theorem OfS.mt (h : OfS w W g2 g4 m t minor A c fs) (m' t' : List UInt8) : OfS w ((W.setCell ⟨g4, 0, none⟩ (.string (S m'))).setCell ⟨g4, 1, none⟩ (.string (S t'))) g2 g4 m' t' minor A c fs := by
  obtain ⟨g0, g1⟩ := h.g
  have k : Kp [g4] W ((W.setCell ⟨g4, 0, none⟩ (.string (S m'))).setCell ⟨g4, 1, none⟩ (.string (S t'))) := ((Kp.refl _ _).setCell (.inl (by simp)) _).setCell (.inl (by simp)) _
  exact ⟨(h.kp.setCell (.inr (by simp; omega)) _).setCell (.inr (by simp; omega)) _, h.ml, h.g, h.b2.kp k (by simp; omega), ((h.b4.set_ 0 _).set_ 1 _).cast rfl, h.own.kp k (fun b hb => by have := h.fresh b hb; simp; omega), h.fresh⟩
theorem OfS.setMinor (h : OfS w W g2 g4 m t minor A c fs) (n : Int) : OfS w (W.setCell ⟨g4, 2, none⟩ (.int .i64 n)) g2 g4 m t n A c fs := by
  obtain ⟨g0, g1⟩ := h.g
  have k : Kp [g4] W (W.setCell ⟨g4, 2, none⟩ (.int .i64 n)) := ((Kp.refl _ _).setCell (.inl (by simp)) _)
  exact ⟨h.kp.setCell (.inr (by simp; omega)) _, h.ml, h.g, h.b2.kp k (by simp; omega), (h.b4.set_ 2 _).cast rfl, h.own.kp k (fun b hb => by have := h.fresh b hb; simp; omega), h.fresh⟩
theorem OfS.r4 (h : OfS w W g2 g4 m t minor A c fs) : W.cell? ⟨g4, 0, none⟩ = some (.string (S m)) ∧ W.cell? ⟨g4, 1, none⟩ = some (.string (S t)) ∧ W.cell? ⟨g4, 2, none⟩ = some (.int .i64 minor) ∧ W.cell? ⟨g4, 3, none⟩ = some (.slice A fs.length c) ∧ W.cell? ⟨g4, 4, none⟩ = some (.bool false) :=
  ⟨h.b4.cell 0, h.b4.cell 1, h.b4.cell 2, h.b4.cell 3, h.b4.cell 4⟩
theorem OfS.f4 (h : OfS w W g2 g4 m t minor A c fs) : W.frozen? ⟨g4, 0, none⟩ = false ∧ W.frozen? ⟨g4, 1, none⟩ = false ∧ W.frozen? ⟨g4, 2, none⟩ = false ∧ W.frozen? ⟨g4, 3, none⟩ = false ∧ W.frozen? ⟨g4, 4, none⟩ = false :=
  ⟨h.b4.frozen 0, h.b4.frozen 1, h.b4.frozen 2, h.b4.frozen 3, h.b4.frozen 4⟩
theorem OfS.r2 (h : OfS w W g2 g4 m t minor A c fs) : W.cell? ⟨g2, 0, none⟩ = some (.string ByteArray.empty) ∧ W.cell? ⟨g2, 1, none⟩ = some (.string ByteArray.empty) ∧ W.cell? ⟨g2, 2, none⟩ = some (.int .i64 0) ∧ W.cell? ⟨g2, 3, none⟩ = some (.slice none 0 0) ∧ W.cell? ⟨g2, 4, none⟩ = some (.bool false) :=
  ⟨h.b2.cell 0, h.b2.cell 1, h.b2.cell 2, h.b2.cell 3, h.b2.cell 4⟩
theorem OfS.f2 (h : OfS w W g2 g4 m t minor A c fs) : W.frozen? ⟨g2, 0, none⟩ = false ∧ W.frozen? ⟨g2, 1, none⟩ = false ∧ W.frozen? ⟨g2, 2, none⟩ = false ∧ W.frozen? ⟨g2, 3, none⟩ = false ∧ W.frozen? ⟨g2, 4, none⟩ = false :=
  ⟨h.b2.frozen 0, h.b2.frozen 1, h.b2.frozen 2, h.b2.frozen 3, h.b2.frozen 4⟩
end
theorem OfS.bad {w W : World} {g2 g4 : Nat} {m t : List UInt8} {minor : Int} {A : Option Addr} {c : Nat} {fs : List Fd} (h : OfS w W g2 g4 m t minor A c fs) :
    ∃ W', ((((W.setCell ⟨g2, 0, none⟩ (.string ⟨#[]⟩)).setCell ⟨g2, 1, none⟩ (.string ⟨#[]⟩)).setCell ⟨g2, 2, none⟩ (.int .i64 0)).setCell ⟨g2, 3, none⟩ (.slice none 0 0)).setCell ⟨g2, 4, none⟩ (.bool false) = W' ∧ Kp [] w W' ∧ W'.cell? ⟨g2, 0, none⟩ = some (.string ByteArray.empty) ∧ W'.cell? ⟨g2, 1, none⟩ = some (.string ByteArray.empty) ∧ W'.cell? ⟨g2, 2, none⟩ = some (.int .i64 0) ∧ W'.cell? ⟨g2, 3, none⟩ = some (.slice none 0 0) ∧ W'.cell? ⟨g2, 4, none⟩ = some (.bool false) := by
  obtain ⟨g0, g1⟩ := h.g
  have hb := (((((h.b2.set_ 0 (.string ⟨#[]⟩)).set_ 1 (.string ⟨#[]⟩)).set_ 2 (.int .i64 0)).set_ 3 (.slice none 0 0)).set_ 4 (.bool false)).cast (cs' := zeroC) rfl
  exact ⟨_, rfl, ((((h.kp.setCell (.inr (by simp; omega)) _).setCell (.inr (by simp; omega)) _).setCell (.inr (by simp; omega)) _).setCell (.inr (by simp; omega)) _).setCell (.inr (by simp; omega)) _, hb.cell 0, hb.cell 1, hb.cell 2, hb.cell 3, hb.cell 4⟩
theorem OfS.app {w W w3 : World} {g2 g4 : Nat} {m t : List UInt8} {minor : Int} {A A3 : Option Addr} {c c3 : Nat} {fs : List Fd} (h : OfS w W g2 g4 m t minor A c fs) (o : Obj) (x : Fd)
    (ho : Ow w3 79 2 A3 (fs.length + 1) c3 (fs.flatMap fldC ++ fldC x)) (hk : Kp (bks A) (W.alloc o) w3) (hA : A3 = A ∨ A3 = some ⟨(W.alloc o).heap.size, 0, none⟩) :
    (w3.cell? ⟨g4, 3, none⟩ = some (.slice A fs.length c) ∧ w3.frozen? ⟨g4, 3, none⟩ = false) ∧ OfS w (w3.setCell ⟨g4, 3, none⟩ (.slice A3 (fs.length + 1) c3)) g2 g4 m t minor A3 c3 (fs ++ [x]) := by
  obtain ⟨g0, g1⟩ := h.g
  have n4 : g4 ∉ bks A := fun hm => by have := h.fresh _ hm; omega
  have n2 : g2 ∉ bks A := fun hm => by have := h.fresh _ hm; omega
  have b4 := (h.b4.alloc o).kp hk n4
  have b2 := (h.b2.alloc o).kp hk n2
  have h4 := h.b4.lt
  have hf : ∀ b ∈ bks A3, g4 < b := by
    rcases hA with rfl | rfl
    · exact h.fresh
    · intro b hb; simp [bks] at hb; omega
  have k : Kp [g4] w3 (w3.setCell ⟨g4, 3, none⟩ (.slice A3 (fs.length + 1) c3)) := (Kp.refl _ _).setCell (.inl (by simp)) _
  refine ⟨⟨b4.cell 3, b4.frozen 3⟩, ((h.kp.alloc o).thn hk (fun s hs => .inr (by have := h.fresh s hs; omega))).setCell (.inr (by simp; omega)) _, h.ml, h.g, b2.kp k (by simp; omega), ((b4.set_ 3 _).cast ?_), (ho.kp k (fun b hb => by have := hf b hb; simp; omega)).cast (by simp) (by simp), hf⟩
  simp
theorem OfS.close {w W : World} {g2 g4 : Nat} {m t : List UInt8} {minor : Int} {A : Option Addr} {c : Nat} {fs : List Fd} (h : OfS w W g2 g4 m t minor A c fs) (cl : Bool) :
    ∃ W1, W.setCell ⟨g4, 4, none⟩ (.bool cl) = W1 ∧ (W1.cell? ⟨g4, 0, none⟩ = some (.string (S m)) ∧ W1.cell? ⟨g4, 1, none⟩ = some (.string (S t)) ∧ W1.cell? ⟨g4, 2, none⟩ = some (.int .i64 minor) ∧ W1.cell? ⟨g4, 3, none⟩ = some (.slice A fs.length c) ∧ W1.cell? ⟨g4, 4, none⟩ = some (.bool cl)) ∧
      (W1.cell? ⟨g2, 0, none⟩ = some (.string ByteArray.empty) ∧ W1.cell? ⟨g2, 1, none⟩ = some (.string ByteArray.empty) ∧ W1.cell? ⟨g2, 2, none⟩ = some (.int .i64 0) ∧ W1.cell? ⟨g2, 3, none⟩ = some (.slice none 0 0) ∧ W1.cell? ⟨g2, 4, none⟩ = some (.bool false)) ∧
      (W1.frozen? ⟨g2, 0, none⟩ = false ∧ W1.frozen? ⟨g2, 1, none⟩ = false ∧ W1.frozen? ⟨g2, 2, none⟩ = false ∧ W1.frozen? ⟨g2, 3, none⟩ = false ∧ W1.frozen? ⟨g2, 4, none⟩ = false) ∧
      ∃ W', ((((W1.setCell ⟨g2, 0, none⟩ (.string (S m))).setCell ⟨g2, 1, none⟩ (.string (S t))).setCell ⟨g2, 2, none⟩ (.int .i64 minor)).setCell ⟨g2, 3, none⟩ (.slice A fs.length c)).setCell ⟨g2, 4, none⟩ (.bool cl) = W' ∧ Kp [] w W' ∧ Rd W' [] A (fs.flatMap fldC) ∧ (∀ b ∈ bks A, w.heap.size ≤ b) ∧ fs.length ≤ c ∧
        (W'.cell? ⟨g2, 0, none⟩ = some (.string (S m)) ∧ W'.cell? ⟨g2, 1, none⟩ = some (.string (S t)) ∧ W'.cell? ⟨g2, 2, none⟩ = some (.int .i64 minor) ∧ W'.cell? ⟨g2, 3, none⟩ = some (.slice A fs.length c) ∧ W'.cell? ⟨g2, 4, none⟩ = some (.bool cl)) := by
  obtain ⟨g0, g1⟩ := h.g
  have k : Kp [g4] W (W.setCell ⟨g4, 4, none⟩ (.bool cl)) := (Kp.refl _ _).setCell (.inl (by simp)) _
  have b4 := (h.b4.set_ 4 (.bool cl)).cast (cs' := [.string (S m), .string (S t), .int .i64 minor, .slice A fs.length c, .bool cl]) rfl
  have b2 := h.b2.kp k (by simp; omega)
  have hb := (((((b2.set_ 0 (.string (S m))).set_ 1 (.string (S t))).set_ 2 (.int .i64 minor)).set_ 3 (.slice A fs.length c)).set_ 4 (.bool cl)).cast (cs' := [.string (S m), .string (S t), .int .i64 minor, .slice A fs.length c, .bool cl]) rfl
  have kk : Kp [g4, g2] W (((((((W.setCell ⟨g4, 4, none⟩ (.bool cl)).setCell ⟨g2, 0, none⟩ (.string (S m))).setCell ⟨g2, 1, none⟩ (.string (S t))).setCell ⟨g2, 2, none⟩ (.int .i64 minor)).setCell ⟨g2, 3, none⟩ (.slice A fs.length c)).setCell ⟨g2, 4, none⟩ (.bool cl))) :=
    ((((((Kp.refl _ _).setCell (.inl (by simp)) _).setCell (.inl (by simp)) _).setCell (.inl (by simp)) _).setCell (.inl (by simp)) _).setCell (.inl (by simp)) _).setCell (.inl (by simp)) _
  have ho := h.own.kp kk (fun b hb => by have := h.fresh b hb; simp; omega)
  exact ⟨_, rfl, ⟨b4.cell 0, b4.cell 1, b4.cell 2, b4.cell 3, b4.cell 4⟩, ⟨b2.cell 0, b2.cell 1, b2.cell 2, b2.cell 3, b2.cell 4⟩, ⟨b2.frozen 0, b2.frozen 1, b2.frozen 2, b2.frozen 3, b2.frozen 4⟩, _, rfl,
    h.kp.thn kk (fun s hs => .inr (by simp at hs; omega)), ho.rd (by simp), fun b hb => by have := h.fresh b hb; omega, h.own.ncap, hb.cell 0, hb.cell 1, hb.cell 2, hb.cell 3, hb.cell 4⟩
theorem fd_rd {w : World} {g : Nat} (hg : g = w.heap.size) {a b : List UInt8} : Rd (w.alloc (.cells #[.string (S a), .string (S b)] 79)) [] (some ⟨g, 0, none⟩) (fldC (a, b)) := Rd.of_bk (Bk.newAt hg _ _) (by simp)
theorem fd_one (x : Fd) : ∀ u ∈ fldC x, u.oneCell' = true := by
  intro u hu; simp [fldC] at hu; rcases hu with rfl | rfl <;> rfl
theorem all_takeR {l : List (List UInt8)} {p : List UInt8 → Bool} {k : Nat} {x : List UInt8} (hx : l[k]? = some x) : (l.take (k + 1)).all p = ((l.take k).all p && p x) := by
  have hk : k < l.length := (List.getElem?_eq_some_iff.1 hx).1
  have e : l[k] = x := (List.getElem?_eq_some_iff.1 hx).2
  rw [List.take_succ_eq_append_getElem hk, e, List.all_append]; simp
theorem le_sum {x : Nat} : ∀ {l : List Nat}, x ∈ l → x ≤ l.sum
  | [], h => by cases h
  | y :: l, h => by
    rw [List.sum_cons]
    rcases List.mem_cons.1 h with rfl | h
    · omega
    · have := le_sum h; omega
theorem fieldsL_take {ls : List (List UInt8)} {k : Nat} {x : List UInt8} (hx : ls[k]? = some x) {fs : List Fd} (h : fieldsL (ls.take k) = some fs) :
    fieldsL (ls.take (k + 1)) = if (fieldL x).2.2 = 0 then some (fs ++ [((fieldL x).1, (fieldL x).2.1)]) else none := by
  induction ls generalizing k fs with
  | nil => simp at hx
  | cons y ls ih =>
    cases k with
    | zero =>
      simp at hx; subst hx
      simp [fieldsL] at h
      subst h
      simp [fieldsL]
    | succ k =>
      rw [List.take_succ_cons, fieldsL] at h ⊢
      split at h
      · rw [if_pos ‹_›]
        cases hf : fieldsL (ls.take k) with
        | none => rw [hf] at h; cases h
        | some fs0 =>
          rw [hf] at h
          simp at h; subst h
          rw [ih (by simpa using hx) hf]
          split <;> simp
      · cases h
theorem fieldsL_none {ls : List (List UInt8)} {k : Nat} (h : fieldsL (ls.take k) = none) : fieldsL ls = none := by
  induction ls generalizing k with
  | nil => simp at h; simp [fieldsL] at h
  | cons y ls ih =>
    cases k with
    | zero => simp [fieldsL] at h
    | succ k =>
      rw [List.take_succ_cons, fieldsL] at h
      rw [fieldsL]
      split
      · rename_i h0
        rw [if_pos h0] at h
        cases hf : fieldsL (ls.take k) with
        | none => rw [ih hf]; rfl
        | some v => rw [hf] at h; cases h
      · rfl
theorem field_len (l : List UInt8) : (fieldL l).2.1.length ≤ l.length := by
  unfold fieldL
  split
  · have h1 := trim_len (aft 58 l)
    have h2 := aft_len 58 l
    simp only; omega
  · simp
theorem fields_sum : ∀ (ls : List (List UInt8)) (fs : List Fd), fieldsL ls = some fs → (fs.map (fun f => f.2.length)).sum ≤ (ls.map List.length).sum ∧ fs.length = ls.length
  | [], fs, h => by simp [fieldsL] at h; subst h; simp
  | l :: ls, fs, h => by
    rw [fieldsL] at h
    split at h
    · cases hf : fieldsL ls with
      | none => rw [hf] at h; cases h
      | some v =>
        rw [hf] at h
        simp at h; subst h
        obtain ⟨h1, h2⟩ := fields_sum ls v hf
        have := field_len l
        simp [h2]
        omega
    · cases h
theorem vals_sum (fs : List Fd) (name : List UInt8) : ((valsF fs name).map List.length).sum ≤ (fs.map (fun f => f.2.length)).sum := by
  induction fs with
  | nil => simp [valsF]
  | cons f fs ih =>
    have e : valsF (f :: fs) name = (if (f.1 == name) = true then [f.2] else []) ++ valsF fs name := by
      unfold valsF; rw [List.filter_cons]; split <;> simp
    rw [e, List.map_append, List.sum_append, List.map_cons, List.sum_cons]
    split
    · simp only [List.map_cons, List.map_nil, List.sum_cons, List.sum_nil]; omega
    · simp only [List.map_nil, List.sum_nil]; omega
theorem join_sum (ps : List (List UInt8)) (x : List UInt8) : (Lib.join ps x).length ≤ x.length * ps.length + (ps.map List.length).sum := by
  cases ps with
  | nil => simp [Lib.join_nil]
  | cons p r =>
    rw [Lib.join_length]
    have : Lib.lens (p :: r) = ((p :: r).map List.length).sum := rfl
    rw [this, List.length_cons, Nat.mul_succ]
    omega
theorem allF_len (fs : List Fd) (name : List UInt8) : (allF fs name).length ≤ 2 * fs.length + (fs.map (fun f => f.2.length)).sum := by
  have h1 := join_sum (valsF fs name) [44, 32]
  have h2 := vals_sum fs name
  have h3 := valsF_len fs name
  unfold allF
  simp only [List.length_cons, List.length_nil] at h1
  omega
theorem val_len {fs : List Fd} {name v : List UInt8} (hv : v ∈ valsF fs name) : v.length ≤ (fs.map (fun f => f.2.length)).sum := by
  unfold valsF at hv
  rw [List.mem_map] at hv
  obtain ⟨f, hf, rfl⟩ := hv
  have hf2 : f ∈ fs := (List.mem_filter.1 hf).1
  exact le_sum (List.mem_map.2 ⟨f, hf2, rfl⟩)
theorem firstL_len {l m t : List UInt8} {a b : UInt8} (h : firstL l = some (m, t, a, b)) : m.length ≤ l.length ∧ t.length ≤ l.length := by
  unfold firstL at h
  split at h
  · rename_i m' t' v' e
    have hm := spl_mem_len 32 l m' (by rw [e]; simp)
    have ht := spl_mem_len 32 l t' (by rw [e]; simp)
    unfold firstP at h
    split at h
    · cases hv : verL v' with
      | none => rw [hv] at h; cases h
      | some x =>
        rw [hv] at h
        simp at h
        obtain ⟨rfl, rfl, _⟩ := h
        exact ⟨hm, ht⟩
    · cases h
  · cases h
theorem ofs_new (w : World) (hm : Ml w) : OfS w ((w.alloc (.cells zeroC.toArray 35)).alloc (.cells zeroC.toArray 35)) w.heap.size (w.heap.size + 1) [] [] 0 none 0 [] :=
  ⟨((Kp.refl _ _).alloc _).alloc _, hm, ⟨Nat.le_refl _, Nat.lt_succ_self _⟩, (Bk.new _ _ _).alloc _, (Bk.newAt (by simp) _ _).cast rfl, Ow.nil, by simp [bks]⟩
set_option maxHeartbeats 16000000 in
theorem of_any {R : Ending → World → Prop} (l : List UInt8) (ls : List (List UInt8)) {A : Option Addr} {c : Nat} (w : World) (hm : Ml w) (hr : Rd w [] A (strs (l :: ls))) (hc : ls.length + 1 ≤ c) (hn : ls.length ≤ 10000) (hl0 : l.length ≤ 100000) (hsum : (ls.map List.length).sum ≤ 100000)
    (h : OfK R w (ofF (l :: ls))) :
    Calls Tryz.prog 61 #[.slice A (ls.length + 1) c] w R := by
  obtain ⟨p, hp⟩ : ∃ p, ofF (l :: ls) = p := ⟨_, rfl⟩
  rw [hp] at h
  unfold OfK at h
  have H := Lib.hid h
  have HR := Lib.hid hr
  have hs0 := ofs_new w hm
  obtain ⟨A1, hsl, hr1⟩ := sslice_from hr (n := ls.length + 1) rfl hc 1 (by omega)
  have hsl2 : ∀ W, (Instr.slice 46 (.slice A (ls.length + 1) c) (some (.int .i64 1)) none none).run Tryz.prog W = .ok (.slice A1 ls.length (c - 1)) W := hsl
  have HR1 : Hid (Rd w [] A1 (strs ls)) := Lib.hid hr1
  have HLL : Hid (∀ x ∈ ls, x.length ≤ 100000) := Lib.hid (fun x hx => Nat.le_trans (le_sum (List.mem_map.2 ⟨x, hx, rfl⟩)) hsum)
  obtain ⟨g, off, hA0, _, hgl, hcl⟩ := hr (by simp [strs])
  have hcell0 : w.cell? ⟨g, off, none⟩ = some (.string (S l)) := hcl 0 _ rfl
  have HC0 := Lib.hid hcell0
  have HSL := Lib.hid hsl2
  have HSUM := Lib.hid hsum
  clear h hcl hr hcell0 hsl hr1 hsum hsl2
  subst hA0
  cases hf : firstL l with
  | none =>
    have HE : Hid (p = (noReq, 400)) := Lib.hid (by rw [← hp, ofF, hf])
    have HF : Hid (∀ (R : Ending → World → Prop) (w1 : World), Ml w1 → (∀ w', Kp [] w1 w' → R (.returned (.tuple #[.string (S []), .string (S []), .string (S []), .bool false])) w') → Calls Tryz.prog 104 #[.string (S l)] w1 R) := Lib.hid (fun R w1 h1 h => first_any l w1 hl0 h1 (by rw [hf]; exact h))
    clear hf hp
    go_enter Tryz.func61, Tryz.ntmps61
    go_wp2
    refine wp_scope_fwd 0 (by rfl) ?_
    intro J HJ
    go_upto_region 6 with (fail)
    refine gen_world (fun W => OfS w W w.heap.size (w.heap.size + 1) [] [] 0 none 0 []) hs0 ?_
    clear hs0
    intro W hs
    have hcW := (hs.kp.cell (p := ⟨g, off, none⟩) hgl (by simp)).trans HC0.out
    obtain ⟨g2, hg2⟩ : ∃ g2, w.heap.size = g2 := ⟨_, rfl⟩
    obtain ⟨g4, hg4⟩ : ∃ g4, w.heap.size + 1 = g4 := ⟨_, rfl⟩
    rw [hg4, hg2] at hs ⊢
    have hgg := hs.g
    have HS := Lib.hid hs
    clear hg2 hg4 hs
    go_wp2_with (go_at_call 104; ((refine HF.out _ _ HS.out.mlW ?_); intro w1 k1; have hs1 := HS.out.keep k1; obtain ⟨qa0, qa1, qa2, qa3, qa4⟩ := hs1.r4; obtain ⟨ea0, ea1, ea2, ea3, ea4⟩ := hs1.f4))
    refine gen_world (fun W => OfS w W g2 g4 [] [] 0 none 0 []) (hs1.mt _ _) ?_
    clear hs1
    intro W1 hs2
    have HS2 := Lib.hid hs2
    clear hs2
    obtain ⟨qz0, qz1, qz2, qz3, qz4⟩ := HS2.out.r2
    obtain ⟨ez0, ez1, ez2, ez3, ez4⟩ := HS2.out.f2
    go_step3
    refine ⟨rfl, HJ.out _ _ ?_⟩
    go_wp2
    obtain ⟨W5, hW5, k5, z0, z1, z2, z3, z4⟩ := HS2.out.bad
    rw [hW5]
    exact bodyPost_ret (v := .tuple #[reqV noReq none 0, .int .i64 400]) (by simp [results, Tryz.results61, go_sem, z0, z1, z2, z3, z4]; rfl) rfl (by have := H.out none 0 W5 k5 (by rw [HE.out]; exact Rd.nil) (by simp [bks]) (by rw [HE.out]; exact Nat.le_refl _); rw [HE.out] at this; exact this)
  | some x =>
    obtain ⟨m, t, a, b⟩ := x
    have HF : Hid (∀ (R : Ending → World → Prop) (w1 : World), Ml w1 → (∀ w', Kp [] w1 w' → R (.returned (.tuple #[.string (S m), .string (S t), .string (S [a, b]), .bool true])) w') → Calls Tryz.prog 104 #[.string (S l)] w1 R) := Lib.hid (fun R w1 h1 h => first_any l w1 hl0 h1 (by rw [hf]; exact h))
    have HP : Hid (p = if a ≠ 49 then (noReq, 505) else if 128 < t.length then (noReq, 414) else match fieldsL ls with | none => (noReq, 400) | some fs => ofFs m t (if b = 48 then 0 else 1) fs) := Lib.hid (by rw [← hp, ofF, hf]; rfl)
    have hal := a.toNat_lt
    have hbl := b.toNat_lt
    have htl : t.length ≤ 100000 := by
      have := firstL_len hf
      omega
    clear hf hp
    by_cases ha : a.toNat = 49
    · obtain rfl : a = 49 := UInt8.toNat_inj.1 ha
      clear ha hal
      by_cases ht : 128 < t.length
      · have HE : Hid (p = (noReq, 414)) := Lib.hid (by rw [HP.out, if_neg (by simp), if_pos ht])
        clear HP
        go_enter Tryz.func61, Tryz.ntmps61
        go_wp2
        refine wp_scope_fwd 0 (by rfl) ?_
        intro J HJ
        go_upto_region 6 with (fail)
        refine gen_world (fun W => OfS w W w.heap.size (w.heap.size + 1) [] [] 0 none 0 []) hs0 ?_
        clear hs0
        intro W hs
        have hcW := (hs.kp.cell (p := ⟨g, off, none⟩) hgl (by simp)).trans HC0.out
        obtain ⟨g2, hg2⟩ : ∃ g2, w.heap.size = g2 := ⟨_, rfl⟩
        obtain ⟨g4, hg4⟩ : ∃ g4, w.heap.size + 1 = g4 := ⟨_, rfl⟩
        rw [hg4, hg2] at hs ⊢
        have hgg := hs.g
        have HS := Lib.hid hs
        clear hg2 hg4 hs
        go_wp2_with (go_at_call 104; ((refine HF.out _ _ HS.out.mlW ?_); intro w1 k1; have hs1 := HS.out.keep k1; obtain ⟨qa0, qa1, qa2, qa3, qa4⟩ := hs1.r4; obtain ⟨ea0, ea1, ea2, ea3, ea4⟩ := hs1.f4))
        refine gen_world (fun W => OfS w W g2 g4 m t 0 none 0 []) (hs1.mt _ _) ?_
        clear hs1
        intro W1 hs2
        have HS2 := Lib.hid hs2
        clear hs2
        obtain ⟨qz0, qz1, qz2, qz3, qz4⟩ := HS2.out.r2
        obtain ⟨ez0, ez1, ez2, ez3, ez4⟩ := HS2.out.f2
        go_step3
        refine ⟨rfl, HJ.out _ _ ?_⟩
        go_wp2
        obtain ⟨W5, hW5, k5, z0, z1, z2, z3, z4⟩ := HS2.out.bad
        rw [hW5]
        exact bodyPost_ret (v := .tuple #[reqV noReq none 0, .int .i64 414]) (by simp [results, Tryz.results61, go_sem, z0, z1, z2, z3, z4]; rfl) rfl (by have := H.out none 0 W5 k5 (by rw [HE.out]; exact Rd.nil) (by simp [bks]) (by rw [HE.out]; exact Nat.le_refl _); rw [HE.out] at this; exact this)
      · have HP2 : Hid (p = match fieldsL ls with | none => (noReq, 400) | some fs => ofFs m t (if b = 48 then 0 else 1) fs) := Lib.hid (by rw [HP.out, if_neg (by simp), if_neg ht])
        clear HP
        go_enter Tryz.func61, Tryz.ntmps61
        go_wp2
        refine wp_scope_fwd 0 (by rfl) ?_
        intro J HJ
        go_upto_region 6 with (fail)
        refine gen_world (fun W => OfS w W w.heap.size (w.heap.size + 1) [] [] 0 none 0 []) hs0 ?_
        clear hs0
        intro W hs
        have hcW := (hs.kp.cell (p := ⟨g, off, none⟩) hgl (by simp)).trans HC0.out
        obtain ⟨g2, hg2⟩ : ∃ g2, w.heap.size = g2 := ⟨_, rfl⟩
        obtain ⟨g4, hg4⟩ : ∃ g4, w.heap.size + 1 = g4 := ⟨_, rfl⟩
        rw [hg4, hg2] at hs ⊢
        have hgg := hs.g
        have HS := Lib.hid hs
        clear hg2 hg4 hs
        have hsl2 := HSL.out
        go_upto_region 12 with (go_at_call 104; ((refine HF.out _ _ HS.out.mlW ?_); intro w1 k1; have hs1 := HS.out.keep k1; obtain ⟨qa0, qa1, qa2, qa3, qa4⟩ := hs1.r4; obtain ⟨ea0, ea1, ea2, ea3, ea4⟩ := hs1.f4))
        refine gen_world (fun W => OfS w W g2 g4 m t 0 none 0 []) (hs1.mt _ _) ?_
        clear hs1 hcW
        intro W1 hs2
        have HS2 := Lib.hid hs2
        clear hs2
        go_wp2
        clear hsl2
        go_loopw [43] (fun iv wr => ∃ (k : Nat) (A2 : Option Addr) (c2 : Nat) (fs : List Fd), k ≤ ls.length ∧ iv = .int .i64 k ∧ Hid (fs.length = k) ∧ Hid (fieldsL (ls.take k) = some fs) ∧ Hid (OfS w wr g2 g4 m t 0 A2 c2 fs)) (fun iv _ => ls.length - (intOf iv).toNat)
        case atStart => exact ⟨0, none, 0, [], Nat.zero_le _, rfl, Lib.hid rfl, Lib.hid rfl, HS2⟩
        case round =>
          obtain ⟨k, A2, c2, fs, hk, rfl, hfk, hfl, hS⟩ := hrel
          have hfk2 : fs.length ≤ 10000 := by have := hfk.out; omega
          by_cases hlt : k < ls.length
          · obtain ⟨x, hx⟩ : ∃ x, ls[k]? = some x := ⟨_, List.getElem?_eq_getElem hlt⟩
            have hxl := HLL.out x (List.mem_of_getElem? hx)
            obtain ⟨gl, ol, rfl, _, hgl1, hcl1⟩ := HR1.out (by intro e; have := congrArg List.length e; rw [strs_len] at this; simp at this; rw [this] at hlt; simp at hlt)
            have hcx := (hS.out.kp.cell (p := ⟨gl, ol + k, none⟩) hgl1 (by simp)).trans (hcl1 k (.string (S x)) (by rw [strs_get, hx]; rfl))
            obtain ⟨fa, fb, fe, hfe⟩ : ∃ a b e, fieldL x = (a, b, e) := ⟨_, _, _, rfl⟩
            have HTK := Lib.hid (fieldsL_take hx hfl.out)
            have HFi : Hid (∀ (R : Ending → World → Prop) (w1 : World), Ml w1 → (∀ w', Kp [] w1 w' → R (.returned (.tuple #[.string (S fa), .string (S fb), .int .i64 fe])) w') → Calls Tryz.prog 105 #[.string (S x)] w1 R) := Lib.hid (fun R w1 h1 h => field_any x w1 (by omega) h1 (by rw [hfe]; exact h))
            rw [hfe] at HTK
            clear hcl1 hx hfe
            by_cases h0 : fe = 0
            · subst h0
              have HT2 : Hid (fieldsL (ls.take (k + 1)) = some (fs ++ [(fa, fb)])) := Lib.hid (by rw [HTK.out, if_pos rfl])
              clear HTK
              go_wp2_with (first | (go_at_call 105; ((refine HFi.out _ _ hS.out.mlW ?_); intro w4 k4; have hs4 := hS.out.keep k4; obtain ⟨qb0, qb1, qb2, qb3, qb4⟩ := hs4.r4; obtain ⟨eb0, eb1, eb2, eb3, eb4⟩ := hs4.f4)) | (at_builtin; refine wpList_app _ rfl (.tmp 56) (.tmp 60) _ rfl elt_fd A2 fs.length c2 _ rfl (hs4.own.alloc _) [] _ 1 1 (fldC (fa, fb)) rfl (fd_rd rfl) rfl (fd_one _) (by omega) ?_; intro A3 c3 w5 ho5 hk5 hA5; obtain ⟨⟨qn, en⟩, hs5⟩ := hs4.app _ (fa, fb) ho5 hk5 hA5; clear hs4))
              exact ⟨⟨k + 1, A3, c3, fs ++ [(fa, fb)], by omega, by go_num, Lib.hid (by simp [hfk.out]), HT2, Lib.hid hs5⟩, by simp [intOf]; omega⟩
            · have HE : Hid (p = (noReq, 400)) := Lib.hid (by rw [HP2.out, fieldsL_none (k := k + 1) (by rw [HTK.out, if_neg h0])])
              have he0 : (fe != 0) = true := by simpa using h0
              clear HTK h0
              go_wp2_with (go_at_call 105; ((refine HFi.out _ _ hS.out.mlW ?_); intro w4 k4; have hs4 := hS.out.keep k4))
              have HS4 := Lib.hid hs4
              clear hs4
              obtain ⟨qz0, qz1, qz2, qz3, qz4⟩ := HS4.out.r2
              obtain ⟨ez0, ez1, ez2, ez3, ez4⟩ := HS4.out.f2
              go_step3
              refine ⟨rfl, HJ.out _ _ ?_⟩
              go_wp2
              obtain ⟨W5, hW5, k5, z0, z1, z2, z3, z4⟩ := HS4.out.bad
              rw [hW5]
              exact bodyPost_ret (v := .tuple #[reqV noReq none 0, .int .i64 400]) (by simp [results, Tryz.results61, go_sem, z0, z1, z2, z3, z4]; rfl) rfl (by have := H.out none 0 W5 k5 (by rw [HE.out]; exact Rd.nil) (by simp [bks]) (by rw [HE.out]; exact Nat.le_refl _); rw [HE.out] at this; exact this)
          · have e : ls.take k = ls := List.take_of_length_le (by omega)
            rw [e] at hfl
            clear e
            have hfs := fields_sum ls fs hfl.out
            have HP3 : Hid (p = ofFs m t (if b = 48 then 0 else 1) fs) := Lib.hid (by rw [HP2.out, hfl.out])
            have hal2 : ∀ name, (allF fs name).length ≤ 900000 := fun name => by
              have := allF_len fs name
              have h2 := HSUM.out
              omega
            have HAL := Lib.hid hal2
            have HVL : Hid (∀ name v, v ∈ valsF fs name → v.length ≤ 2000000) := Lib.hid (fun name v hv => by
              have := val_len hv
              have h2 := HSUM.out
              omega)
            have HSE := hS
            clear hfs hal2 hfl HP2 hS hfk
            obtain ⟨minor, hmin⟩ : ∃ mm : Int, (if b = 48 then 0 else 1) = mm := ⟨_, rfl⟩
            rw [hmin] at HP3
            have hm01 : 0 ≤ minor ∧ minor ≤ 1 := by rw [← hmin]; split <;> omega
            obtain ⟨hm0, hm1⟩ := hm01
            obtain ⟨gv, gb, hgt⟩ : ∃ v b, getF fs teL = (v, b) := ⟨_, _, rfl⟩
            have HG : Hid (∀ (R : Ending → World → Prop) (w1 : World), Rd w1 [] A2 (fs.flatMap fldC) → fs.length ≤ c2 → (∀ w', Kp [] w1 w' → R (.returned (.tuple #[.string (S gv), .bool gb])) w') → Calls Tryz.prog 64 #[.agg #[.string (S m), .string (S t), .int .i64 minor, .slice A2 fs.length c2, .bool false], .string ⟨#[116, 114, 97, 110, 115, 102, 101, 114, 45, 101, 110, 99, 111, 100, 105, 110, 103]⟩] w1 R) := Lib.hid (fun R w1 h1 h2 h => get_any fs teL m t minor false w1 h1 (by omega) h2 (by rw [hgt]; exact h))
            have HVc : Hid (∀ (R : Ending → World → Prop) (w1 : World), Rd w1 [] A2 (fs.flatMap fldC) → (∀ A' c' w', Ow w' 9 1 A' (valsF fs clL).length c' (strs (valsF fs clL)) → (∀ b ∈ bks A', w1.heap.size ≤ b) → Kp [] w1 w' → R (.returned (.slice A' (valsF fs clL).length c')) w') → Calls Tryz.prog 74 #[.agg #[.string (S m), .string (S t), .int .i64 minor, .slice A2 fs.length c2, .bool false], .string ⟨#[99, 111, 110, 116, 101, 110, 116, 45, 108, 101, 110, 103, 116, 104]⟩] w1 R) := Lib.hid (fun R w1 h1 h => values_any fs clL m t minor false w1 h1 (by omega) h)
            have HVh : Hid (∀ (R : Ending → World → Prop) (w1 : World), Rd w1 [] A2 (fs.flatMap fldC) → (∀ A' c' w', Ow w' 9 1 A' (valsF fs hostL).length c' (strs (valsF fs hostL)) → (∀ b ∈ bks A', w1.heap.size ≤ b) → Kp [] w1 w' → R (.returned (.slice A' (valsF fs hostL).length c')) w') → Calls Tryz.prog 74 #[.agg #[.string (S m), .string (S t), .int .i64 minor, .slice A2 fs.length c2, .bool false], .string ⟨#[104, 111, 115, 116]⟩] w1 R) := Lib.hid (fun R w1 h1 h => values_any fs hostL m t minor false w1 h1 (by omega) h)
            obtain ⟨kb, hkb⟩ : ∃ b, methods.contains m = b := ⟨_, rfl⟩
            have HK : Hid (∀ (R : Ending → World → Prop) (w1 : World), R (.returned (.bool kb)) w1 → Calls Tryz.prog 107 #[.string (S m)] w1 R) := Lib.hid (fun R w1 h => known_any m w1 (by rw [hkb]; exact h))
            obtain ⟨vb, hvb⟩ : ∃ b, (valsF fs clL).all lenOk = b := ⟨_, rfl⟩
            have HP4 : Hid (p = if gb = true then (noReq, 501) else if vb = false then (noReq, 400) else if 1 < (valsF fs hostL).length ∨ ((valsF fs hostL).length : Int) < minor then (noReq, 400) else if kb = false then (noReq, 501) else (⟨m, t, minor, fs, closesF fs minor⟩, 0)) := Lib.hid (by rw [HP3.out, ofFs, hgt, hkb, hvb])
            have HVB := Lib.hid hvb
            have hnv := valsF_len fs clL
            have hnh := valsF_len fs hostL
            obtain ⟨vs, hvs⟩ : ∃ vs, valsF fs clL = vs := ⟨_, rfl⟩
            rw [hvs] at HVc HVB hnv
            have HVL2 : Hid (∀ v ∈ vs, v.length ≤ 2000000) := Lib.hid (fun v hv => HVL.out clL v (by rw [hvs]; exact hv))
            obtain ⟨hs, hhs⟩ : ∃ hs, (valsF fs hostL).length = hs := ⟨_, rfl⟩
            rw [hhs] at HVh HP4 hnh
            clear hgt hkb hvb hvs hhs HVL HP3
            by_cases hb48 : b.toNat = 48
            · obtain rfl : b = 48 := UInt8.toNat_inj.1 hb48
              rw [if_pos rfl] at hmin
              rw [show (0 : Int) = minor from hmin] at HSE
              clear hmin hb48
              go_upto_region 21 with (fail)
              refine gen_world (fun W => Hid (OfS w W g2 g4 m t minor A2 c2 fs)) HSE ?_
              intro W6 HS6
              clear HSE
              have HS6b := HS6.out.r4
              obtain ⟨qc0, qc1, qc2, qc3, qc4⟩ := HS6b
              have hg24 := HS6.out.g
              have hne1 : g2 ≠ g4 := by omega
              have hne2 : g4 ≠ g2 := by omega
              clear hg24
              cases gb
              · go_wp2_with (first | (go_at_call 64; ((with_reducible refine HG.out _ _ (HS6.out.own.rd (by simp)) HS6.out.own.ncap ?_); intro w7 k7; have HS7 := Lib.hid (HS6.out.keep k7); obtain ⟨qd0, qd1, qd2, qd3, qd4⟩ := HS7.out.r4)) | (go_at_call 74; ((with_reducible refine HVc.out _ _ (HS7.out.own.rd (by simp)) ?_); intro A8 c8 w8 ho8 hA8 k8; have HS8 := Lib.hid (HS7.out.keep k8); have HR8 := Lib.hid (ho8.rd (N := []) (by simp)); clear ho8 hA8)))
                clear qc0 qc1 qc2 qc3 qc4 qd0 qd1 qd2 qd3 qd4 k7 k8
                go_loop [76] (fun iv => ∃ k : Nat, k ≤ vs.length ∧ iv = .int .i64 k ∧ Hid ((vs.take k).all lenOk = true)) (fun iv => vs.length - (intOf iv).toNat)
                case atStart => exact ⟨0, Nat.zero_le _, rfl, Lib.hid rfl⟩
                case round =>
                  obtain ⟨k, hk, rfl, hav⟩ := hrel
                  by_cases hlt : k < vs.length
                  · obtain ⟨x, hx⟩ : ∃ x, vs[k]? = some x := ⟨_, List.getElem?_eq_getElem hlt⟩
                    have hxl := HVL2.out x (List.mem_of_getElem? hx)
                    obtain ⟨gl, ol, rfl, _, hgl1, hcl1⟩ := HR8.out (by intro e; have := congrArg List.length e; rw [strs_len] at this; simp at this; rw [this] at hlt; simp at hlt)
                    have hcx := hcl1 k (.string (S x)) (by rw [strs_get, hx]; rfl)
                    obtain ⟨nv, nb, hnm⟩ : ∃ a b, numR x 1099511627776 = (a, b) := ⟨_, _, rfl⟩
                    have HX := Lib.hid hx
                    have HLO : Hid (lenOk x = (nb && decide (nv = 0))) := Lib.hid (by unfold lenOk; rw [hnm])
                    have HNm : Hid (∀ (R : Ending → World → Prop) (w1 : World), R (.returned (.tuple #[.int .i64 nv, .bool nb])) w1 → Calls Tryz.prog 106 #[.string (S x), .int .i64 1099511627776] w1 R) := Lib.hid (fun R w1 h => number_any x 1099511627776 w1 hxl (by omega) (by omega) (by rw [hnm]; exact h))
                    clear hcl1 hx hnm
                    cases nb
                    · have HE : Hid (p = (noReq, 400)) := Lib.hid (by
                        have h1 : vb = false := by rw [← HVB.out, List.all_eq_false]; exact ⟨x, List.mem_of_getElem? HX.out, by simp [HLO.out]⟩
                        rw [HP4.out, if_neg (by simp), if_pos h1])
                      go_wp2_with (go_at_call 106; (refine HNm.out _ _ ?_))
                      obtain ⟨qz0, qz1, qz2, qz3, qz4⟩ := HS8.out.r2
                      obtain ⟨ez0, ez1, ez2, ez3, ez4⟩ := HS8.out.f2
                      go_step3
                      refine ⟨rfl, HJ.out _ _ ?_⟩
                      go_wp2
                      obtain ⟨W5, hW5, k5, z0, z1, z2, z3, z4⟩ := HS8.out.bad
                      rw [hW5]
                      exact bodyPost_ret (v := .tuple #[reqV noReq none 0, .int .i64 400]) (by simp [results, Tryz.results61, go_sem, z0, z1, z2, z3, z4]; rfl) rfl (by have := H.out none 0 W5 k5 (by rw [HE.out]; exact Rd.nil) (by simp [bks]) (by rw [HE.out]; exact Nat.le_refl _); rw [HE.out] at this; exact this)
                    · by_cases hnv : nv = 0
                      · subst hnv
                        have HX2 : Hid ((vs.take (k + 1)).all lenOk = true) := Lib.hid (by
                          have := all_takeR (p := lenOk) HX.out
                          rw [this, hav.out, HLO.out]; rfl)
                        go_wp2_with (go_at_call 106; (refine HNm.out _ _ ?_))
                        go_round
                        case rel => exact ⟨k + 1, by omega, by go_num, HX2⟩
                        case measure => simp [intOf]; omega
                      · have HE : Hid (p = (noReq, 400)) := Lib.hid (by
                          have h1 : vb = false := by rw [← HVB.out, List.all_eq_false]; exact ⟨x, List.mem_of_getElem? HX.out, by simp [HLO.out, hnv]⟩
                          rw [HP4.out, if_neg (by simp), if_pos h1])
                        have hnv2 : (nv != 0) = true := by simpa using hnv
                        clear hnv
                        go_wp2_with (go_at_call 106; (refine HNm.out _ _ ?_))
                        obtain ⟨qz0, qz1, qz2, qz3, qz4⟩ := HS8.out.r2
                        obtain ⟨ez0, ez1, ez2, ez3, ez4⟩ := HS8.out.f2
                        go_step3
                        refine ⟨rfl, HJ.out _ _ ?_⟩
                        go_wp2
                        obtain ⟨W5, hW5, k5, z0, z1, z2, z3, z4⟩ := HS8.out.bad
                        rw [hW5]
                        exact bodyPost_ret (v := .tuple #[reqV noReq none 0, .int .i64 400]) (by simp [results, Tryz.results61, go_sem, z0, z1, z2, z3, z4]; rfl) rfl (by have := H.out none 0 W5 k5 (by rw [HE.out]; exact Rd.nil) (by simp [bks]) (by rw [HE.out]; exact Nat.le_refl _); rw [HE.out] at this; exact this)
                  · have h1 : vb = true := by
                      rw [← HVB.out]
                      have := hav.out
                      rwa [List.take_of_length_le (by omega)] at this
                    have HP5 : Hid (p = if 1 < hs ∨ (hs : Int) < minor then (noReq, 400) else if kb = false then (noReq, 501) else (⟨m, t, minor, fs, closesF fs minor⟩, 0)) := Lib.hid (by
                      rw [HP4.out, if_neg (by simp), if_neg (by simp [h1])])
                    clear h1 HP4 hav
                    obtain ⟨qf0, qf1, qf2, qf3, qf4⟩ := HS8.out.r4
                    by_cases hh1 : 1 < hs
                    · have HE : Hid (p = (noReq, 400)) := Lib.hid (by rw [HP5.out, if_pos (.inl hh1)])
                      go_wp2_with (go_at_call 74; ((with_reducible refine HVh.out _ _ (HS8.out.own.rd (by simp)) ?_); intro A9 c9 w9 ho9 hA9 k9; have HS9 := Lib.hid (HS8.out.keep k9); obtain ⟨qg0, qg1, qg2, qg3, qg4⟩ := HS9.out.r4))
                      obtain ⟨qz0, qz1, qz2, qz3, qz4⟩ := HS9.out.r2
                      obtain ⟨ez0, ez1, ez2, ez3, ez4⟩ := HS9.out.f2
                      go_step3
                      refine ⟨rfl, HJ.out _ _ ?_⟩
                      go_wp2
                      obtain ⟨W5, hW5, k5, z0, z1, z2, z3, z4⟩ := HS9.out.bad
                      rw [hW5]
                      exact bodyPost_ret (v := .tuple #[reqV noReq none 0, .int .i64 400]) (by simp [results, Tryz.results61, go_sem, z0, z1, z2, z3, z4]; rfl) rfl (by have := H.out none 0 W5 k5 (by rw [HE.out]; exact Rd.nil) (by simp [bks]) (by rw [HE.out]; exact Nat.le_refl _); rw [HE.out] at this; exact this)
                    · by_cases hh2 : (hs : Int) < minor
                      · have HE : Hid (p = (noReq, 400)) := Lib.hid (by rw [HP5.out, if_pos (.inr hh2)])
                        go_wp2_with (go_at_call 74; ((with_reducible refine HVh.out _ _ (HS8.out.own.rd (by simp)) ?_); intro A9 c9 w9 ho9 hA9 k9; have HS9 := Lib.hid (HS8.out.keep k9); obtain ⟨qg0, qg1, qg2, qg3, qg4⟩ := HS9.out.r4))
                        obtain ⟨qz0, qz1, qz2, qz3, qz4⟩ := HS9.out.r2
                        obtain ⟨ez0, ez1, ez2, ez3, ez4⟩ := HS9.out.f2
                        go_step3
                        refine ⟨rfl, HJ.out _ _ ?_⟩
                        go_wp2
                        obtain ⟨W5, hW5, k5, z0, z1, z2, z3, z4⟩ := HS9.out.bad
                        rw [hW5]
                        exact bodyPost_ret (v := .tuple #[reqV noReq none 0, .int .i64 400]) (by simp [results, Tryz.results61, go_sem, z0, z1, z2, z3, z4]; rfl) rfl (by have := H.out none 0 W5 k5 (by rw [HE.out]; exact Rd.nil) (by simp [bks]) (by rw [HE.out]; exact Nat.le_refl _); rw [HE.out] at this; exact this)
                      · have HP6 : Hid (p = if kb = false then (noReq, 501) else (⟨m, t, minor, fs, closesF fs minor⟩, 0)) := Lib.hid (by rw [HP5.out, if_neg (by omega)])
                        clear HP5
                        cases kb
                        · have HE : Hid (p = (noReq, 501)) := Lib.hid (by rw [HP6.out, if_pos rfl])
                          go_wp2_with (first | (go_at_call 74; ((with_reducible refine HVh.out _ _ (HS8.out.own.rd (by simp)) ?_); intro A9 c9 w9 ho9 hA9 k9; have HS9 := Lib.hid (HS8.out.keep k9); obtain ⟨qg0, qg1, qg2, qg3, qg4⟩ := HS9.out.r4)) | (go_at_call 107; (refine HK.out _ _ ?_)))
                          obtain ⟨qz0, qz1, qz2, qz3, qz4⟩ := HS9.out.r2
                          obtain ⟨ez0, ez1, ez2, ez3, ez4⟩ := HS9.out.f2
                          go_step3
                          refine ⟨rfl, HJ.out _ _ ?_⟩
                          go_wp2
                          obtain ⟨W5, hW5, k5, z0, z1, z2, z3, z4⟩ := HS9.out.bad
                          rw [hW5]
                          exact bodyPost_ret (v := .tuple #[reqV noReq none 0, .int .i64 501]) (by simp [results, Tryz.results61, go_sem, z0, z1, z2, z3, z4]; rfl) rfl (by have := H.out none 0 W5 k5 (by rw [HE.out]; exact Rd.nil) (by simp [bks]) (by rw [HE.out]; exact Nat.le_refl _); rw [HE.out] at this; exact this)
                        · have HE : Hid (p = (⟨m, t, minor, fs, closesF fs minor⟩, 0)) := Lib.hid (by rw [HP6.out, if_neg (by simp)])
                          have HCl : Hid (∀ (R : Ending → World → Prop) (w1 : World), Ml w1 → Rd w1 [] A2 (fs.flatMap fldC) → (∀ w', Kp [] w1 w' → R (.returned (.bool (closesF fs minor))) w') → Calls Tryz.prog 108 #[.agg #[.string (S m), .string (S t), .int .i64 minor, .slice A2 fs.length c2, .bool false]] w1 R) := Lib.hid (fun R w1 h0 h1 h => rcloses_any fs m t minor false w1 h0 h1 (by omega) (HAL.out _) h)
                          obtain ⟨cb, hcb⟩ : ∃ b, closesF fs minor = b := ⟨_, rfl⟩
                          rw [hcb] at HE HCl
                          clear hcb HP6
                          go_wp2_with (first | (go_at_call 74; ((with_reducible refine HVh.out _ _ (HS8.out.own.rd (by simp)) ?_); intro A9 c9 w9 ho9 hA9 k9; have HS9 := Lib.hid (HS8.out.keep k9); obtain ⟨qg0, qg1, qg2, qg3, qg4⟩ := HS9.out.r4)) | (go_at_call 107; (refine HK.out _ _ ?_)) | (go_at_call 108; ((refine HCl.out _ _ HS9.out.mlW (HS9.out.own.rd (by simp)) ?_); intro w10 k10; have HS10 := Lib.hid (HS9.out.keep k10); obtain ⟨qh0, qh1, qh2, qh3, qh4⟩ := HS10.out.r4; obtain ⟨eh0, eh1, eh2, eh3, eh4⟩ := HS10.out.f4; obtain ⟨qi0, qi1, qi2, qi3, qi4⟩ := HS10.out.r2; obtain ⟨ei0, ei1, ei2, ei3, ei4⟩ := HS10.out.f2)))
                          obtain ⟨W9, hW9, _, _, _, W10, hW10, k11, rd11, fr11, nc11, y0, y1, y2, y3, y4⟩ := HS10.out.close cb
                          rw [hW9, hW10]
                          exact bodyPost_ret (v := .tuple #[reqV ⟨m, t, minor, fs, cb⟩ A2 c2, .int .i64 0]) (by simp [results, Tryz.results61, go_sem, y0, y1, y2, y3, y4, reqV]) rfl (by have := H.out A2 c2 W10 k11 (by rw [HE.out]; exact rd11) fr11 (by rw [HE.out]; exact nc11); rw [HE.out] at this; exact this)
              · have HE : Hid (p = (noReq, 501)) := Lib.hid (by rw [HP4.out, if_pos rfl])
                go_wp2_with (go_at_call 64; ((with_reducible refine HG.out _ _ (HS6.out.own.rd (by simp)) HS6.out.own.ncap ?_); intro w7 k7; have HS7 := Lib.hid (HS6.out.keep k7)))
                obtain ⟨qz0, qz1, qz2, qz3, qz4⟩ := HS7.out.r2
                obtain ⟨ez0, ez1, ez2, ez3, ez4⟩ := HS7.out.f2
                go_step3
                refine ⟨rfl, HJ.out _ _ ?_⟩
                go_wp2
                obtain ⟨W5, hW5, k5, z0, z1, z2, z3, z4⟩ := HS7.out.bad
                rw [hW5]
                exact bodyPost_ret (v := .tuple #[reqV noReq none 0, .int .i64 501]) (by simp [results, Tryz.results61, go_sem, z0, z1, z2, z3, z4]; rfl) rfl (by have := H.out none 0 W5 k5 (by rw [HE.out]; exact Rd.nil) (by simp [bks]) (by rw [HE.out]; exact Nat.le_refl _); rw [HE.out] at this; exact this)
            · have hbb : (b == 48) = false := by simp; intro h; subst h; exact hb48 rfl
              rw [if_neg (fun h => by subst h; exact hb48 rfl)] at hmin
              have hsm := HSE.out.setMinor minor
              obtain ⟨q0, q1, q2, q3, q4⟩ := HSE.out.r4
              obtain ⟨e0, e1, e2, e3, e4⟩ := HSE.out.f4
              have hm3 : minor = 1 := hmin.symm
              have HM3 := Lib.hid hm3
              clear hmin hb48 hm3
              go_upto_region 21 with (fail)
              rw [show (1 : Int) = minor from HM3.out.symm]
              refine gen_world (fun W => Hid (OfS w W g2 g4 m t minor A2 c2 fs)) (Lib.hid hsm) ?_
              intro W6 HS6
              clear hsm q0 q1 q2 q3 q4 e0 e1 e2 e3 e4
              have HS6b := HS6.out.r4
              obtain ⟨qc0, qc1, qc2, qc3, qc4⟩ := HS6b
              have hg24 := HS6.out.g
              have hne1 : g2 ≠ g4 := by omega
              have hne2 : g4 ≠ g2 := by omega
              clear hg24
              cases gb
              · go_wp2_with (first | (go_at_call 64; ((with_reducible refine HG.out _ _ (HS6.out.own.rd (by simp)) HS6.out.own.ncap ?_); intro w7 k7; have HS7 := Lib.hid (HS6.out.keep k7); obtain ⟨qd0, qd1, qd2, qd3, qd4⟩ := HS7.out.r4)) | (go_at_call 74; ((with_reducible refine HVc.out _ _ (HS7.out.own.rd (by simp)) ?_); intro A8 c8 w8 ho8 hA8 k8; have HS8 := Lib.hid (HS7.out.keep k8); have HR8 := Lib.hid (ho8.rd (N := []) (by simp)); clear ho8 hA8)))
                clear qc0 qc1 qc2 qc3 qc4 qd0 qd1 qd2 qd3 qd4 k7 k8
                go_loop [76] (fun iv => ∃ k : Nat, k ≤ vs.length ∧ iv = .int .i64 k ∧ Hid ((vs.take k).all lenOk = true)) (fun iv => vs.length - (intOf iv).toNat)
                case atStart => exact ⟨0, Nat.zero_le _, rfl, Lib.hid rfl⟩
                case round =>
                  obtain ⟨k, hk, rfl, hav⟩ := hrel
                  by_cases hlt : k < vs.length
                  · obtain ⟨x, hx⟩ : ∃ x, vs[k]? = some x := ⟨_, List.getElem?_eq_getElem hlt⟩
                    have hxl := HVL2.out x (List.mem_of_getElem? hx)
                    obtain ⟨gl, ol, rfl, _, hgl1, hcl1⟩ := HR8.out (by intro e; have := congrArg List.length e; rw [strs_len] at this; simp at this; rw [this] at hlt; simp at hlt)
                    have hcx := hcl1 k (.string (S x)) (by rw [strs_get, hx]; rfl)
                    obtain ⟨nv, nb, hnm⟩ : ∃ a b, numR x 1099511627776 = (a, b) := ⟨_, _, rfl⟩
                    have HX := Lib.hid hx
                    have HLO : Hid (lenOk x = (nb && decide (nv = 0))) := Lib.hid (by unfold lenOk; rw [hnm])
                    have HNm : Hid (∀ (R : Ending → World → Prop) (w1 : World), R (.returned (.tuple #[.int .i64 nv, .bool nb])) w1 → Calls Tryz.prog 106 #[.string (S x), .int .i64 1099511627776] w1 R) := Lib.hid (fun R w1 h => number_any x 1099511627776 w1 hxl (by omega) (by omega) (by rw [hnm]; exact h))
                    clear hcl1 hx hnm
                    cases nb
                    · have HE : Hid (p = (noReq, 400)) := Lib.hid (by
                        have h1 : vb = false := by rw [← HVB.out, List.all_eq_false]; exact ⟨x, List.mem_of_getElem? HX.out, by simp [HLO.out]⟩
                        rw [HP4.out, if_neg (by simp), if_pos h1])
                      go_wp2_with (go_at_call 106; (refine HNm.out _ _ ?_))
                      obtain ⟨qz0, qz1, qz2, qz3, qz4⟩ := HS8.out.r2
                      obtain ⟨ez0, ez1, ez2, ez3, ez4⟩ := HS8.out.f2
                      go_step3
                      refine ⟨rfl, HJ.out _ _ ?_⟩
                      go_wp2
                      obtain ⟨W5, hW5, k5, z0, z1, z2, z3, z4⟩ := HS8.out.bad
                      rw [hW5]
                      exact bodyPost_ret (v := .tuple #[reqV noReq none 0, .int .i64 400]) (by simp [results, Tryz.results61, go_sem, z0, z1, z2, z3, z4]; rfl) rfl (by have := H.out none 0 W5 k5 (by rw [HE.out]; exact Rd.nil) (by simp [bks]) (by rw [HE.out]; exact Nat.le_refl _); rw [HE.out] at this; exact this)
                    · by_cases hnv : nv = 0
                      · subst hnv
                        have HX2 : Hid ((vs.take (k + 1)).all lenOk = true) := Lib.hid (by
                          have := all_takeR (p := lenOk) HX.out
                          rw [this, hav.out, HLO.out]; rfl)
                        go_wp2_with (go_at_call 106; (refine HNm.out _ _ ?_))
                        go_round
                        case rel => exact ⟨k + 1, by omega, by go_num, HX2⟩
                        case measure => simp [intOf]; omega
                      · have HE : Hid (p = (noReq, 400)) := Lib.hid (by
                          have h1 : vb = false := by rw [← HVB.out, List.all_eq_false]; exact ⟨x, List.mem_of_getElem? HX.out, by simp [HLO.out, hnv]⟩
                          rw [HP4.out, if_neg (by simp), if_pos h1])
                        have hnv2 : (nv != 0) = true := by simpa using hnv
                        clear hnv
                        go_wp2_with (go_at_call 106; (refine HNm.out _ _ ?_))
                        obtain ⟨qz0, qz1, qz2, qz3, qz4⟩ := HS8.out.r2
                        obtain ⟨ez0, ez1, ez2, ez3, ez4⟩ := HS8.out.f2
                        go_step3
                        refine ⟨rfl, HJ.out _ _ ?_⟩
                        go_wp2
                        obtain ⟨W5, hW5, k5, z0, z1, z2, z3, z4⟩ := HS8.out.bad
                        rw [hW5]
                        exact bodyPost_ret (v := .tuple #[reqV noReq none 0, .int .i64 400]) (by simp [results, Tryz.results61, go_sem, z0, z1, z2, z3, z4]; rfl) rfl (by have := H.out none 0 W5 k5 (by rw [HE.out]; exact Rd.nil) (by simp [bks]) (by rw [HE.out]; exact Nat.le_refl _); rw [HE.out] at this; exact this)
                  · have h1 : vb = true := by
                      rw [← HVB.out]
                      have := hav.out
                      rwa [List.take_of_length_le (by omega)] at this
                    have HP5 : Hid (p = if 1 < hs ∨ (hs : Int) < minor then (noReq, 400) else if kb = false then (noReq, 501) else (⟨m, t, minor, fs, closesF fs minor⟩, 0)) := Lib.hid (by
                      rw [HP4.out, if_neg (by simp), if_neg (by simp [h1])])
                    clear h1 HP4 hav
                    obtain ⟨qf0, qf1, qf2, qf3, qf4⟩ := HS8.out.r4
                    by_cases hh1 : 1 < hs
                    · have HE : Hid (p = (noReq, 400)) := Lib.hid (by rw [HP5.out, if_pos (.inl hh1)])
                      go_wp2_with (go_at_call 74; ((with_reducible refine HVh.out _ _ (HS8.out.own.rd (by simp)) ?_); intro A9 c9 w9 ho9 hA9 k9; have HS9 := Lib.hid (HS8.out.keep k9); obtain ⟨qg0, qg1, qg2, qg3, qg4⟩ := HS9.out.r4))
                      obtain ⟨qz0, qz1, qz2, qz3, qz4⟩ := HS9.out.r2
                      obtain ⟨ez0, ez1, ez2, ez3, ez4⟩ := HS9.out.f2
                      go_step3
                      refine ⟨rfl, HJ.out _ _ ?_⟩
                      go_wp2
                      obtain ⟨W5, hW5, k5, z0, z1, z2, z3, z4⟩ := HS9.out.bad
                      rw [hW5]
                      exact bodyPost_ret (v := .tuple #[reqV noReq none 0, .int .i64 400]) (by simp [results, Tryz.results61, go_sem, z0, z1, z2, z3, z4]; rfl) rfl (by have := H.out none 0 W5 k5 (by rw [HE.out]; exact Rd.nil) (by simp [bks]) (by rw [HE.out]; exact Nat.le_refl _); rw [HE.out] at this; exact this)
                    · by_cases hh2 : (hs : Int) < minor
                      · have HE : Hid (p = (noReq, 400)) := Lib.hid (by rw [HP5.out, if_pos (.inr hh2)])
                        go_wp2_with (go_at_call 74; ((with_reducible refine HVh.out _ _ (HS8.out.own.rd (by simp)) ?_); intro A9 c9 w9 ho9 hA9 k9; have HS9 := Lib.hid (HS8.out.keep k9); obtain ⟨qg0, qg1, qg2, qg3, qg4⟩ := HS9.out.r4))
                        obtain ⟨qz0, qz1, qz2, qz3, qz4⟩ := HS9.out.r2
                        obtain ⟨ez0, ez1, ez2, ez3, ez4⟩ := HS9.out.f2
                        go_step3
                        refine ⟨rfl, HJ.out _ _ ?_⟩
                        go_wp2
                        obtain ⟨W5, hW5, k5, z0, z1, z2, z3, z4⟩ := HS9.out.bad
                        rw [hW5]
                        exact bodyPost_ret (v := .tuple #[reqV noReq none 0, .int .i64 400]) (by simp [results, Tryz.results61, go_sem, z0, z1, z2, z3, z4]; rfl) rfl (by have := H.out none 0 W5 k5 (by rw [HE.out]; exact Rd.nil) (by simp [bks]) (by rw [HE.out]; exact Nat.le_refl _); rw [HE.out] at this; exact this)
                      · have HP6 : Hid (p = if kb = false then (noReq, 501) else (⟨m, t, minor, fs, closesF fs minor⟩, 0)) := Lib.hid (by rw [HP5.out, if_neg (by omega)])
                        clear HP5
                        cases kb
                        · have HE : Hid (p = (noReq, 501)) := Lib.hid (by rw [HP6.out, if_pos rfl])
                          go_wp2_with (first | (go_at_call 74; ((with_reducible refine HVh.out _ _ (HS8.out.own.rd (by simp)) ?_); intro A9 c9 w9 ho9 hA9 k9; have HS9 := Lib.hid (HS8.out.keep k9); obtain ⟨qg0, qg1, qg2, qg3, qg4⟩ := HS9.out.r4)) | (go_at_call 107; (refine HK.out _ _ ?_)))
                          obtain ⟨qz0, qz1, qz2, qz3, qz4⟩ := HS9.out.r2
                          obtain ⟨ez0, ez1, ez2, ez3, ez4⟩ := HS9.out.f2
                          go_step3
                          refine ⟨rfl, HJ.out _ _ ?_⟩
                          go_wp2
                          obtain ⟨W5, hW5, k5, z0, z1, z2, z3, z4⟩ := HS9.out.bad
                          rw [hW5]
                          exact bodyPost_ret (v := .tuple #[reqV noReq none 0, .int .i64 501]) (by simp [results, Tryz.results61, go_sem, z0, z1, z2, z3, z4]; rfl) rfl (by have := H.out none 0 W5 k5 (by rw [HE.out]; exact Rd.nil) (by simp [bks]) (by rw [HE.out]; exact Nat.le_refl _); rw [HE.out] at this; exact this)
                        · have HE : Hid (p = (⟨m, t, minor, fs, closesF fs minor⟩, 0)) := Lib.hid (by rw [HP6.out, if_neg (by simp)])
                          have HCl : Hid (∀ (R : Ending → World → Prop) (w1 : World), Ml w1 → Rd w1 [] A2 (fs.flatMap fldC) → (∀ w', Kp [] w1 w' → R (.returned (.bool (closesF fs minor))) w') → Calls Tryz.prog 108 #[.agg #[.string (S m), .string (S t), .int .i64 minor, .slice A2 fs.length c2, .bool false]] w1 R) := Lib.hid (fun R w1 h0 h1 h => rcloses_any fs m t minor false w1 h0 h1 (by omega) (HAL.out _) h)
                          obtain ⟨cb, hcb⟩ : ∃ b, closesF fs minor = b := ⟨_, rfl⟩
                          rw [hcb] at HE HCl
                          clear hcb HP6
                          go_wp2_with (first | (go_at_call 74; ((with_reducible refine HVh.out _ _ (HS8.out.own.rd (by simp)) ?_); intro A9 c9 w9 ho9 hA9 k9; have HS9 := Lib.hid (HS8.out.keep k9); obtain ⟨qg0, qg1, qg2, qg3, qg4⟩ := HS9.out.r4)) | (go_at_call 107; (refine HK.out _ _ ?_)) | (go_at_call 108; ((refine HCl.out _ _ HS9.out.mlW (HS9.out.own.rd (by simp)) ?_); intro w10 k10; have HS10 := Lib.hid (HS9.out.keep k10); obtain ⟨qh0, qh1, qh2, qh3, qh4⟩ := HS10.out.r4; obtain ⟨eh0, eh1, eh2, eh3, eh4⟩ := HS10.out.f4; obtain ⟨qi0, qi1, qi2, qi3, qi4⟩ := HS10.out.r2; obtain ⟨ei0, ei1, ei2, ei3, ei4⟩ := HS10.out.f2)))
                          obtain ⟨W9, hW9, _, _, _, W10, hW10, k11, rd11, fr11, nc11, y0, y1, y2, y3, y4⟩ := HS10.out.close cb
                          rw [hW9, hW10]
                          exact bodyPost_ret (v := .tuple #[reqV ⟨m, t, minor, fs, cb⟩ A2 c2, .int .i64 0]) (by simp [results, Tryz.results61, go_sem, y0, y1, y2, y3, y4, reqV]) rfl (by have := H.out A2 c2 W10 k11 (by rw [HE.out]; exact rd11) fr11 (by rw [HE.out]; exact nc11); rw [HE.out] at this; exact this)
              · have HE : Hid (p = (noReq, 501)) := Lib.hid (by rw [HP4.out, if_pos rfl])
                go_wp2_with (go_at_call 64; ((with_reducible refine HG.out _ _ (HS6.out.own.rd (by simp)) HS6.out.own.ncap ?_); intro w7 k7; have HS7 := Lib.hid (HS6.out.keep k7)))
                obtain ⟨qz0, qz1, qz2, qz3, qz4⟩ := HS7.out.r2
                obtain ⟨ez0, ez1, ez2, ez3, ez4⟩ := HS7.out.f2
                go_step3
                refine ⟨rfl, HJ.out _ _ ?_⟩
                go_wp2
                obtain ⟨W5, hW5, k5, z0, z1, z2, z3, z4⟩ := HS7.out.bad
                rw [hW5]
                exact bodyPost_ret (v := .tuple #[reqV noReq none 0, .int .i64 501]) (by simp [results, Tryz.results61, go_sem, z0, z1, z2, z3, z4]; rfl) rfl (by have := H.out none 0 W5 k5 (by rw [HE.out]; exact Rd.nil) (by simp [bks]) (by rw [HE.out]; exact Nat.le_refl _); rw [HE.out] at this; exact this)
    · have HE : Hid (p = (noReq, 505)) := Lib.hid (by rw [HP.out, if_pos (fun h => by subst h; exact ha rfl)])
      have e49 : ((a.toNat : Int) != 49) = true := by simp; omega
      clear HP ha
      go_enter Tryz.func61, Tryz.ntmps61
      go_wp2
      refine wp_scope_fwd 0 (by rfl) ?_
      intro J HJ
      go_upto_region 6 with (fail)
      refine gen_world (fun W => OfS w W w.heap.size (w.heap.size + 1) [] [] 0 none 0 []) hs0 ?_
      clear hs0
      intro W hs
      have hcW := (hs.kp.cell (p := ⟨g, off, none⟩) hgl (by simp)).trans HC0.out
      obtain ⟨g2, hg2⟩ : ∃ g2, w.heap.size = g2 := ⟨_, rfl⟩
      obtain ⟨g4, hg4⟩ : ∃ g4, w.heap.size + 1 = g4 := ⟨_, rfl⟩
      rw [hg4, hg2] at hs ⊢
      have hgg := hs.g
      have HS := Lib.hid hs
      clear hg2 hg4 hs
      go_wp2_with (go_at_call 104; ((refine HF.out _ _ HS.out.mlW ?_); intro w1 k1; have hs1 := HS.out.keep k1; obtain ⟨qa0, qa1, qa2, qa3, qa4⟩ := hs1.r4; obtain ⟨ea0, ea1, ea2, ea3, ea4⟩ := hs1.f4))
      refine gen_world (fun W => OfS w W g2 g4 m t 0 none 0 []) (hs1.mt _ _) ?_
      clear hs1
      intro W1 hs2
      have HS2 := Lib.hid hs2
      clear hs2
      obtain ⟨qz0, qz1, qz2, qz3, qz4⟩ := HS2.out.r2
      obtain ⟨ez0, ez1, ez2, ez3, ez4⟩ := HS2.out.f2
      go_step3
      refine ⟨rfl, HJ.out _ _ ?_⟩
      go_wp2
      obtain ⟨W5, hW5, k5, z0, z1, z2, z3, z4⟩ := HS2.out.bad
      rw [hW5]
      exact bodyPost_ret (v := .tuple #[reqV noReq none 0, .int .i64 505]) (by simp [results, Tryz.results61, go_sem, z0, z1, z2, z3, z4]; rfl) rfl (by have := H.out none 0 W5 k5 (by rw [HE.out]; exact Rd.nil) (by simp [bks]) (by rw [HE.out]; exact Nat.le_refl _); rw [HE.out] at this; exact this)
end
end Go.Proofs.YtnmafahbdfilcaaGreatDoor
