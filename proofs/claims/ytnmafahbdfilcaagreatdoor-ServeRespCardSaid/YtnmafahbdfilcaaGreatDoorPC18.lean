/- The walks of package request: a parser. The walks of package request: Next. Names of the conditions' fields; a request without such a date. cond: date, Check, Ranged of any request, as functions of its fields. -/
import Derived.Test.YtnmafahbdfilcaaGreatDoorPC16
import Derived.Test.YtnmafahbdfilcaaGreatDoorPC2
import Derived.BigRegion
import Derived.Test.YtnmafahbdfilcaaGreatDoorPC17
import Derived.Test.YtnmafahbdfilcaaGreatDoorPC15
namespace Go.Proofs.YtnmafahbdfilcaaGreatDoor
/-! ### The walks of package request: a parser. -/
section
open Go.RowKit Go.Shelf
set_option linter.unusedVariables false
set_option linter.unusedSimpArgs false
set_option maxRecDepth 100000

/-- A parser's block. -/
def PsC (b : List UInt8) (ov : Bool) : List Value := [.string (S b), .bool ov]
def Ps (w : World) (g : Nat) (b : List UInt8) (ov : Bool) : Prop := Bk w g 105 (PsC b ov)
theorem Ps.cells {w : World} {g : Nat} {b : List UInt8} {ov : Bool} (h : Ps w g b ov) : w.cell? ⟨g, 0, none⟩ = some (.string (S b)) ∧ w.cell? ⟨g, 1, none⟩ = some (.bool ov) ∧ w.frozen? ⟨g, 0, none⟩ = false ∧ w.frozen? ⟨g, 1, none⟩ = false :=
  ⟨Bk.cell h 0, Bk.cell h 1, Bk.frozen h 0, Bk.frozen h 1⟩
theorem new24_any {R : Ending → World → Prop} (w : World) (h : ∀ g w', w.heap.size ≤ g → Ps w' g [] false → Kp [] w w' → R (.returned (.pointer (some ⟨g, 0, none⟩))) w') : Calls Tryz.prog 32 #[] w R := by
  have H := Lib.hid h
  clear h
  go_enter Tryz.func32, Tryz.ntmps32
  go_wp2
  exact H.out _ _ (Nat.le_refl _) ((Bk.new' w _ _).cast rfl) ((Kp.refl _ _).alloc _)
theorem held24_any {R : Ending → World → Prop} {w : World} {g : Nat} {b : List UInt8} {ov : Bool} (hp : Ps w g b ov) (hl : b.length ≤ 2000000) (h : R (.returned (.int .i64 (b.length : Nat))) w) : Calls Tryz.prog 41 #[.pointer (some ⟨g, 0, none⟩)] w R := by
  have H := Lib.hid h
  obtain ⟨c0, c1, f0, f1⟩ := hp.cells
  clear h
  go_enter Tryz.func41, Tryz.ntmps41
  go_wp2
  exact H.out
set_option maxHeartbeats 2000000 in
theorem feed_any {R : Ending → World → Prop} {w : World} {g : Nat} {b : List UInt8} {ov : Bool} (hp : Ps w g b ov) {A : Option Addr} {n c : Nat} (x : List UInt8) (hx : Rd w [] A (bts x)) (hn : x.length = n) (hl : b.length + n ≤ 2000000)
    (h : ∀ w', Ps w' g (if ov then b else b ++ x) ov → Kp [g] w w' → R (.returned (.tuple #[])) w') : Calls Tryz.prog 33 #[.pointer (some ⟨g, 0, none⟩), .slice A n c] w R := by
  have H := Lib.hid h
  obtain ⟨c0, c1, f0, f1⟩ := hp.cells
  clear h
  cases ov
  · have hcv := conv_bs (c := c) hx hn
    go_enter Tryz.func33, Tryz.ntmps33
    have hcv1 := conv_bs (w := w.drew) (c := c) (show Rd w.drew [] A (bts x) from hx) hn
    have hls : ¬ (9223372036854775807 < b.length + x.length) := by omega
    go_wp2
    go_region
    go_wp2
    first | go_end0 | refine bodyPost_ret (results_none rfl _ _ _) rfl ?_
    exact H.out _ ((Bk.set_ hp 0 _).cast rfl) (((Kp.refl _ _).setCell (.inl (by simp)) _).drew)
  · go_enter Tryz.func33, Tryz.ntmps33
    go_wp2
    first | go_end0 | refine bodyPost_ret (results_none rfl _ _ _) rfl ?_
    exact H.out _ hp (Kp.refl _ _)
end
/-! ### The walks of package request: Next. -/
section
open Go.RowKit Go.Shelf
set_option linter.unusedVariables false
set_option linter.unusedSimpArgs false
set_option maxRecDepth 100000

theorem headF_st : ∀ (f n : Nat) (ls : List (List UInt8)) (s : List UInt8), headF f n ls s = ([], [], -1) ∨ headF f n ls s = ([], [], 400) ∨ headF f n ls s = ([], [], 431) ∨ ∃ x xs r, headF f n ls s = (x :: xs, r, 0) := by
  intro f
  induction f with
  | zero => intro n ls s; exact .inl rfl
  | succ f ih =>
    intro n ls s
    rw [headF]
    cases hl : lineL s with
    | wrong => exact .inr (.inl rfl)
    | more =>
      simp only
      split
      · exact .inr (.inr (.inl rfl))
      · exact .inl rfl
    | got l a =>
      simp only
      split
      · exact .inr (.inr (.inl rfl))
      · split
        · exact ih _ _ _
        · split
          · cases ls with
            | nil => contradiction
            | cons x xs => exact .inr (.inr (.inr ⟨_, _, _, rfl⟩))
          · exact ih _ _ _
theorem headF_sum : ∀ (f n : Nat) (ls : List (List UInt8)) (s : List UInt8), (headF f n ls s).1.length ≤ ls.length + s.length ∧ ((headF f n ls s).1.map List.length).sum ≤ (ls.map List.length).sum + s.length ∧ (headF f n ls s).2.1.length ≤ s.length := by
  intro f
  induction f with
  | zero => intro n ls s; simp [headF]
  | succ f ih =>
    intro n ls s
    rw [headF]
    cases hl : lineL s with
    | wrong => simp
    | more =>
      simp only
      split <;> simp
    | got l a =>
      have h0 := lineL_len hl
      simp only
      split
      · simp
      · split
        · have := ih n (ls ++ [l]) a
          simp only [List.length_append, List.length_cons, List.length_nil, List.map_append, List.map_cons, List.map_nil, List.sum_append, List.sum_cons, List.sum_nil] at this
          omega
        · split
          · simp only; omega
          · have := ih n ls a
            omega
/-- What `Next` hands back. -/
def NextK (R : Ending → World → Prop) (w : World) (g : Nat) (q : Req × Int × List UInt8 × Bool) : Prop :=
  ∀ A c w', Ps w' g q.2.2.1 q.2.2.2 → Kp [g] w w' → Rd w' [g] A (q.1.fs.flatMap fldC) → (∀ x ∈ bks A, w.heap.size ≤ x) → q.1.fs.length ≤ c → R (.returned (.tuple #[reqV q.1 A c, .int .i64 q.2.1])) w'
theorem next_over {R : Ending → World → Prop} {w : World} {g : Nat} {b : List UInt8} (hp : Ps w g b true) (h : NextK R w g (noReq, -1, b, true)) : Calls Tryz.prog 40 #[.pointer (some ⟨g, 0, none⟩)] w R := by
  unfold NextK at h
  have H := Lib.hid h
  obtain ⟨c0, c1, f0, f1⟩ := hp.cells
  have hgl := Bk.lt hp
  have HP := Lib.hid hp
  clear h hp
  go_enter Tryz.func40, Tryz.ntmps40
  go_wp2
  exact bodyPost_ret (v := .tuple #[reqV noReq none 0, .int .i64 (-1)]) (by simp [results, Tryz.results40, go_sem]; rfl) rfl (H.out none 0 _ (Bk.alloc HP.out _) ((Kp.refl _ _).alloc _) Rd.nil (by simp [bks]) (Nat.le_refl _))
/-- The world ahead of the first call: the result's struct, and the parser as it came. -/
structure OfS0 (w : World) (g : Nat) (b : List UInt8) (W : World) (g2 : Nat) : Prop where
  kp : Kp [] w W
  hg : w.heap.size ≤ g2
  b2 : Bk W g2 35 zeroC
  ps : Ps W g b false
  ng : g < g2
theorem OfS0.bad {w W : World} {g g2 : Nat} {b : List UInt8} (h : OfS0 w g b W g2) :
    ∃ W', ((((W.setCell ⟨g2, 0, none⟩ (.string ⟨#[]⟩)).setCell ⟨g2, 1, none⟩ (.string ⟨#[]⟩)).setCell ⟨g2, 2, none⟩ (.int .i64 0)).setCell ⟨g2, 3, none⟩ (.slice none 0 0)).setCell ⟨g2, 4, none⟩ (.bool false) = W' ∧ Kp [] w W' ∧ Ps W' g b false ∧ W'.cell? ⟨g2, 0, none⟩ = some (.string ByteArray.empty) ∧ W'.cell? ⟨g2, 1, none⟩ = some (.string ByteArray.empty) ∧ W'.cell? ⟨g2, 2, none⟩ = some (.int .i64 0) ∧ W'.cell? ⟨g2, 3, none⟩ = some (.slice none 0 0) ∧ W'.cell? ⟨g2, 4, none⟩ = some (.bool false) := by
  have h0 := h.hg; have h1 := h.ng
  have kk : Kp [g2] W (((((W.setCell ⟨g2, 0, none⟩ (.string ⟨#[]⟩)).setCell ⟨g2, 1, none⟩ (.string ⟨#[]⟩)).setCell ⟨g2, 2, none⟩ (.int .i64 0)).setCell ⟨g2, 3, none⟩ (.slice none 0 0)).setCell ⟨g2, 4, none⟩ (.bool false)) :=
    (((((Kp.refl _ _).setCell (.inl (by simp)) _).setCell (.inl (by simp)) _).setCell (.inl (by simp)) _).setCell (.inl (by simp)) _).setCell (.inl (by simp)) _
  have hb := (((((h.b2.set_ 0 (.string ⟨#[]⟩)).set_ 1 (.string ⟨#[]⟩)).set_ 2 (.int .i64 0)).set_ 3 (.slice none 0 0)).set_ 4 (.bool false)).cast (cs' := zeroC) rfl
  exact ⟨_, rfl, h.kp.thn kk (fun s hs => .inr (by simp at hs; omega)), Bk.kp h.ps kk (by simp; omega), hb.cell 0, hb.cell 1, hb.cell 2, hb.cell 3, hb.cell 4⟩
theorem OfS0.keep {w W W' : World} {g g2 : Nat} {b : List UInt8} (h : OfS0 w g b W g2) (k : Kp [] W W') : OfS0 w g b W' g2 := ⟨h.kp.trans k, h.hg, h.b2.kp k (by simp), Bk.kp h.ps k (by simp), h.ng⟩
theorem Rd.off {w : World} {N N' : List Nat} {A : Option Addr} {xs : List Value} {B : Nat} (h : Rd w N A xs) (hA : ∀ b ∈ bks A, B ≤ b) (hn : ∀ x ∈ N', x < B) : Rd w N' A xs := fun hx => by
  obtain ⟨b, off, rfl, _, rest⟩ := h hx
  refine ⟨b, off, rfl, fun hm => ?_, rest⟩
  have h1 := hA b (by simp [bks])
  have h2 := hn b hm
  omega
/-- The world with both structs. -/
structure OfS2 (w : World) (g : Nat) (b : List UInt8) (ov : Bool) (W : World) (g2 g7 : Nat) (r : Req) (A : Option Addr) (c : Nat) : Prop where
  kp : Kp [g] w W
  hg : w.heap.size ≤ g2
  ng : g < g2
  n7 : g2 < g7
  b2 : Bk W g2 35 zeroC
  b7 : Bk W g7 35 (reqC r A c)
  ps : Ps W g b ov
  rd : Rd W [g] A (r.fs.flatMap fldC)
  fresh : ∀ x ∈ bks A, g2 < x
  nc : r.fs.length ≤ c
theorem OfS0.wrong {w W : World} {g g2 : Nat} {b : List UInt8} (h : OfS0 w g b W g2) : OfS2 w g b false (W.alloc (.cells zeroC.toArray 35)) g2 W.heap.size noReq none 0 :=
  ⟨(h.kp.alloc _).mono (by simp), h.hg, h.ng, h.b2.lt, h.b2.alloc _, (Bk.new _ _ _).cast rfl, Bk.alloc h.ps _, Rd.nil, by simp [bks], Nat.le_refl _⟩
theorem OfS2.got {w W w2 : World} {g g2 : Nat} {b : List UInt8} {r : Req} {A : Option Addr} {c : Nat} (h : OfS2 w g b false (W.alloc (.cells zeroC.toArray 35)) g2 W.heap.size noReq none 0)
    (k : Kp [] (W.alloc (.cells zeroC.toArray 35)) w2) (hr : Rd w2 [] A (r.fs.flatMap fldC)) (hf : ∀ x ∈ bks A, (W.alloc (.cells zeroC.toArray 35)).heap.size ≤ x) (hc : r.fs.length ≤ c) :
    OfS2 w g b false (((((w2.setCell ⟨W.heap.size, 0, none⟩ (.string (S r.m))).setCell ⟨W.heap.size, 1, none⟩ (.string (S r.t))).setCell ⟨W.heap.size, 2, none⟩ (.int .i64 r.minor)).setCell ⟨W.heap.size, 3, none⟩ (.slice A r.fs.length c)).setCell ⟨W.heap.size, 4, none⟩ (.bool r.close)) g2 W.heap.size r A c := by
  have h0 := h.hg; have h1 := h.ng; have h2 := h.n7
  have hsz : (W.alloc (.cells zeroC.toArray 35)).heap.size = W.heap.size + 1 := by simp
  have kk : Kp [W.heap.size] w2 (((((w2.setCell ⟨W.heap.size, 0, none⟩ (.string (S r.m))).setCell ⟨W.heap.size, 1, none⟩ (.string (S r.t))).setCell ⟨W.heap.size, 2, none⟩ (.int .i64 r.minor)).setCell ⟨W.heap.size, 3, none⟩ (.slice A r.fs.length c)).setCell ⟨W.heap.size, 4, none⟩ (.bool r.close)) :=
    (((((Kp.refl _ _).setCell (.inl (by simp)) _).setCell (.inl (by simp)) _).setCell (.inl (by simp)) _).setCell (.inl (by simp)) _).setCell (.inl (by simp)) _
  have b7 := ((((((h.b7.kp k (by simp)).set_ 0 (.string (S r.m))).set_ 1 (.string (S r.t))).set_ 2 (.int .i64 r.minor)).set_ 3 (.slice A r.fs.length c)).set_ 4 (.bool r.close)).cast (cs' := reqC r A c) rfl
  have b2 := (h.b2.kp k (by simp)).kp kk (by simp; omega)
  have ps := Bk.kp (Bk.kp h.ps k (by simp)) kk (by simp; omega)
  refine ⟨(h.kp.trans (k.mono (by simp))).thn kk (fun s hs => .inr (by simp at hs; omega)), h0, h1, h2, b2, b7, ps, ?_, fun x hx => by have := hf x hx; omega, hc⟩
  intro hx
  obtain ⟨bb, off, hA, hN, hlt, hcc⟩ := hr hx
  have hfr := hf bb (by rw [hA]; simp [bks])
  refine ⟨bb, off, hA, by simp; omega, Nat.lt_of_lt_of_le hlt kk.size, fun j u hu => ?_⟩
  rw [kk.cell (p := ⟨bb, off + j, none⟩) hlt (by simp; omega)]
  exact hcc j u hu
theorem OfS2.put {w W : World} {g g2 g7 : Nat} {b : List UInt8} {ov : Bool} {r : Req} {A : Option Addr} {c : Nat} (h : OfS2 w g b ov W g2 g7 r A c) (b' : List UInt8) (ov' : Bool) :
    OfS2 w g b' ov' ((W.setCell ⟨g, 0, none⟩ (.string (S b'))).setCell ⟨g, 1, none⟩ (.bool ov')) g2 g7 r A c := by
  have h1 := h.ng; have h2 := h.n7
  have k : Kp [g] W ((W.setCell ⟨g, 0, none⟩ (.string (S b'))).setCell ⟨g, 1, none⟩ (.bool ov')) := ((Kp.refl _ _).setCell (.inl (by simp)) _).setCell (.inl (by simp)) _
  exact ⟨h.kp.trans k, h.hg, h.ng, h.n7, h.b2.kp k (by simp; omega), h.b7.kp k (by simp; omega), ((Bk.set_ h.ps 0 _).set_ 1 _).cast rfl, h.rd.kp k (by simp), h.fresh, h.nc⟩
theorem OfS2.put0 {w W : World} {g g2 g7 : Nat} {b : List UInt8} {ov : Bool} {r : Req} {A : Option Addr} {c : Nat} (h : OfS2 w g b ov W g2 g7 r A c) (b' : List UInt8) :
    OfS2 w g b' ov (W.setCell ⟨g, 0, none⟩ (.string (S b'))) g2 g7 r A c := by
  have h1 := h.ng; have h2 := h.n7
  have k : Kp [g] W (W.setCell ⟨g, 0, none⟩ (.string (S b'))) := (Kp.refl _ _).setCell (.inl (by simp)) _
  exact ⟨h.kp.trans k, h.hg, h.ng, h.n7, h.b2.kp k (by simp; omega), h.b7.kp k (by simp; omega), (Bk.set_ h.ps 0 _).cast rfl, h.rd.kp k (by simp), h.fresh, h.nc⟩
theorem OfS2.fin {w W : World} {g g2 g7 : Nat} {b : List UInt8} {ov : Bool} {r : Req} {A : Option Addr} {c : Nat} (h : OfS2 w g b ov W g2 g7 r A c) :
    ∃ W', ((((W.setCell ⟨g2, 0, none⟩ (.string (S r.m))).setCell ⟨g2, 1, none⟩ (.string (S r.t))).setCell ⟨g2, 2, none⟩ (.int .i64 r.minor)).setCell ⟨g2, 3, none⟩ (.slice A r.fs.length c)).setCell ⟨g2, 4, none⟩ (.bool r.close) = W' ∧ Kp [g] w W' ∧ Ps W' g b ov ∧ Rd W' [g] A (r.fs.flatMap fldC) ∧ (∀ x ∈ bks A, w.heap.size ≤ x) ∧
      (W'.cell? ⟨g2, 0, none⟩ = some (.string (S r.m)) ∧ W'.cell? ⟨g2, 1, none⟩ = some (.string (S r.t)) ∧ W'.cell? ⟨g2, 2, none⟩ = some (.int .i64 r.minor) ∧ W'.cell? ⟨g2, 3, none⟩ = some (.slice A r.fs.length c) ∧ W'.cell? ⟨g2, 4, none⟩ = some (.bool r.close)) := by
  have h0 := h.hg; have h1 := h.ng; have h2 := h.n7
  have kk : Kp [g2] W (((((W.setCell ⟨g2, 0, none⟩ (.string (S r.m))).setCell ⟨g2, 1, none⟩ (.string (S r.t))).setCell ⟨g2, 2, none⟩ (.int .i64 r.minor)).setCell ⟨g2, 3, none⟩ (.slice A r.fs.length c)).setCell ⟨g2, 4, none⟩ (.bool r.close)) :=
    (((((Kp.refl _ _).setCell (.inl (by simp)) _).setCell (.inl (by simp)) _).setCell (.inl (by simp)) _).setCell (.inl (by simp)) _).setCell (.inl (by simp)) _
  have hb := (((((h.b2.set_ 0 (.string (S r.m))).set_ 1 (.string (S r.t))).set_ 2 (.int .i64 r.minor)).set_ 3 (.slice A r.fs.length c)).set_ 4 (.bool r.close)).cast (cs' := reqC r A c) rfl
  refine ⟨_, rfl, h.kp.thn kk (fun s hs => .inr (by simp at hs; omega)), Bk.kp h.ps kk (by simp; omega), ?_, fun x hx => by have := h.fresh x hx; omega, hb.cell 0, hb.cell 1, hb.cell 2, hb.cell 3, hb.cell 4⟩
  intro hx
  obtain ⟨bb, off, hA, hN, hlt, hc⟩ := h.rd hx
  have hfr := h.fresh bb (by rw [hA]; simp [bks])
  refine ⟨bb, off, hA, hN, Nat.lt_of_lt_of_le hlt kk.size, fun j u hu => ?_⟩
  rw [kk.cell (p := ⟨bb, off + j, none⟩) hlt (by simp; omega)]
  exact hc j u hu
theorem bk5 {w : World} {g tt : Nat} {a b c d e : Value} (h : Bk w g tt [a, b, c, d, e]) : (w.cell? ⟨g, 0, none⟩ = some a ∧ w.cell? ⟨g, 1, none⟩ = some b ∧ w.cell? ⟨g, 2, none⟩ = some c ∧ w.cell? ⟨g, 3, none⟩ = some d ∧ w.cell? ⟨g, 4, none⟩ = some e) ∧
    (w.frozen? ⟨g, 0, none⟩ = false ∧ w.frozen? ⟨g, 1, none⟩ = false ∧ w.frozen? ⟨g, 2, none⟩ = false ∧ w.frozen? ⟨g, 3, none⟩ = false ∧ w.frozen? ⟨g, 4, none⟩ = false) :=
  ⟨⟨h.cell 0, h.cell 1, h.cell 2, h.cell 3, h.cell 4⟩, h.frozen 0, h.frozen 1, h.frozen 2, h.frozen 3, h.frozen 4⟩
set_option maxHeartbeats 4000000 in
theorem next_any {R : Ending → World → Prop} {w : World} {g : Nat} {b : List UInt8} (hm : Ml w) (hp : Ps w g b false) (hl : b.length ≤ 10000) (h : NextK R w g (nextF b)) : Calls Tryz.prog 40 #[.pointer (some ⟨g, 0, none⟩)] w R := by
  obtain ⟨q, hq⟩ : ∃ q, nextF b = q := ⟨_, rfl⟩
  rw [hq] at h
  unfold NextK at h
  have H := Lib.hid h
  have hp0 := hp.cells
  have hgl := Bk.lt hp
  have HP := Lib.hid hp
  have HSUM := Lib.hid (headF_sum (b.length + 1) b.length [] b)
  have HH : Hid (∀ (R : Ending → World → Prop) (w1 : World), (∀ A c w', Ow w' 9 1 A (headF (b.length + 1) b.length [] b).1.length c (strs (headF (b.length + 1) b.length [] b).1) → (∀ x ∈ bks A, w1.heap.size ≤ x) → Kp [] w1 w' → R (.returned (headV A c (headF (b.length + 1) b.length [] b))) w') → Calls Tryz.prog 60 #[.string (S b)] w1 R) := Lib.hid (fun R w1 h => head_any b w1 (by omega) h)
  have HQ : Hid (q = nextF b) := Lib.hid hq.symm
  have hst := headF_st (b.length + 1) b.length [] b
  clear h hp hq
  have base : OfS0 w g b ((w.alloc (.cells zeroC.toArray 35))) w.heap.size := ⟨(Kp.refl _ _).alloc _, Nat.le_refl _, Bk.new _ _ _, Bk.alloc HP.out _, by omega⟩
  rcases hst with e | e | e | ⟨x, xs, r, e⟩
  · have HE : Hid (q = (noReq, -1, b, false)) := Lib.hid (by rw [HQ.out, nextF, e]; rfl)
    have HHe : Hid (∀ (R : Ending → World → Prop) (w1 : World), (∀ A c w', Kp [] w1 w' → R (.returned (.tuple #[.slice A 0 c, .string (S []), .int .i64 (-1)])) w') → Calls Tryz.prog 60 #[.string (S b)] w1 R) := Lib.hid (fun R w1 h => HH.out R w1 (fun A c w' _ _ k => by rw [e]; exact h A c w' k))
    clear e hp0 HSUM HH
    obtain ⟨c0, c1, f0, f1⟩ := HP.out.cells
    go_enter Tryz.func40, Tryz.ntmps40
    go_upto_region 3 with (fail)
    refine gen_world (fun W => OfS0 w g b W w.heap.size) base ?_
    clear base c0 c1 f0 f1
    intro W hs
    obtain ⟨g2, hg2⟩ : ∃ g2, w.heap.size = g2 := ⟨_, rfl⟩
    rw [hg2] at hs ⊢
    have HS := Lib.hid hs
    obtain ⟨c0, c1, f0, f1⟩ := hs.ps.cells
    have hgg := hs.hg
    have hgn := hs.ng
    clear hs hg2
    go_wp2_with (go_at_call 60; ((refine HHe.out _ _ ?_); intro A1 cap1 w1 k1; have HS1 := Lib.hid (HS.out.keep k1); obtain ⟨⟨q0, q1, q2, q3, q4⟩, ⟨e0, e1, e2, e3, e4⟩⟩ := bk5 HS1.out.b2))
    obtain ⟨W5, hW5, k5, p5, z0, z1, z2, z3, z4⟩ := HS1.out.bad
    rw [hW5]
    exact bodyPost_ret (v := .tuple #[reqV noReq none 0, .int .i64 (-1)]) (by simp [results, Tryz.results40, go_sem, z0, z1, z2, z3, z4]; rfl) rfl (by have := H.out none 0 W5 (by rw [HE.out]; exact p5) (k5.mono (by simp)) (by rw [HE.out]; exact Rd.nil) (by simp [bks]) (by rw [HE.out]; exact Nat.le_refl _); rw [HE.out] at this; exact this)
  · have HE : Hid (q = (noReq, 400, [], true)) := Lib.hid (by rw [HQ.out, nextF, e]; rfl)
    have HHe : Hid (∀ (R : Ending → World → Prop) (w1 : World), (∀ A c w', Kp [] w1 w' → R (.returned (.tuple #[.slice A 0 c, .string (S []), .int .i64 400])) w') → Calls Tryz.prog 60 #[.string (S b)] w1 R) := Lib.hid (fun R w1 h => HH.out R w1 (fun A c w' _ _ k => by rw [e]; exact h A c w' k))
    clear e hp0 HSUM HH
    obtain ⟨c0, c1, f0, f1⟩ := HP.out.cells
    go_enter Tryz.func40, Tryz.ntmps40
    go_upto_region 3 with (fail)
    refine gen_world (fun W => OfS0 w g b W w.heap.size) base ?_
    clear base c0 c1 f0 f1
    intro W hs
    obtain ⟨g2, hg2⟩ : ∃ g2, w.heap.size = g2 := ⟨_, rfl⟩
    rw [hg2] at hs ⊢
    have HS := Lib.hid hs
    obtain ⟨c0, c1, f0, f1⟩ := hs.ps.cells
    have hgg := hs.hg
    have hgn := hs.ng
    clear hs hg2
    go_upto_region 9 with (go_at_call 60; ((refine HHe.out _ _ ?_); intro A1 cap1 w1 k1; have HS1 := Lib.hid (HS.out.keep k1); obtain ⟨d0, d1, d2, d3⟩ := HS1.out.ps.cells))
    refine gen_world (fun W => OfS2 w g b false W g2 w1.heap.size noReq none 0) HS1.out.wrong ?_
    intro W2 hs2
    clear d0 d1 d2 d3 c0 c1 f0 f1
    obtain ⟨g7, hg7⟩ : ∃ g7, w1.heap.size = g7 := ⟨_, rfl⟩
    rw [hg7] at hs2 ⊢
    have HS2 := Lib.hid hs2
    obtain ⟨y0, y1, y2, y3⟩ := hs2.ps.cells
    obtain ⟨⟨q0, q1, q2, q3, q4⟩, ⟨e0, e1, e2, e3, e4⟩⟩ := bk5 hs2.b2
    have hn1 := hs2.ng
    have hn2 := hs2.n7
    have hn3 : g ≠ g2 := by omega
    have hn4 : g ≠ g7 := by omega
    have hn5 : g2 ≠ g7 := by omega
    clear hs2 hg7
    go_upto_region 12 with (fail)
    refine gen_world (fun W => OfS2 w g [] true W g2 g7 noReq none 0) ((HS2.out.put [] true).put0 []) ?_
    clear y0 y1 y2 y3 q0 q1 q2 q3 q4 e0 e1 e2 e3 e4
    intro W3 hs3
    have HS3 := Lib.hid hs3
    obtain ⟨⟨q0, q1, q2, q3, q4⟩, ⟨e0, e1, e2, e3, e4⟩⟩ := bk5 hs3.b2
    obtain ⟨⟨p0, p1, p2, p3, p4⟩, _⟩ := bk5 hs3.b7
    clear hs3
    go_wp2
    obtain ⟨W4, hW4, k4, p4, rd4, fr4, z0, z1, z2, z3, z4⟩ := HS3.out.fin
    rw [hW4]
    exact bodyPost_ret (v := .tuple #[reqV noReq none 0, .int .i64 400]) (by simp [results, Tryz.results40, go_sem, z0, z1, z2, z3, z4]; try rfl) rfl (by have := H.out _ _ W4 (by rw [HE.out]; exact p4) k4 (by rw [HE.out]; exact rd4) fr4 (by rw [HE.out]; exact HS3.out.nc); rw [HE.out] at this; exact this)
  · have HE : Hid (q = (noReq, 431, [], true)) := Lib.hid (by rw [HQ.out, nextF, e]; rfl)
    have HHe : Hid (∀ (R : Ending → World → Prop) (w1 : World), (∀ A c w', Kp [] w1 w' → R (.returned (.tuple #[.slice A 0 c, .string (S []), .int .i64 431])) w') → Calls Tryz.prog 60 #[.string (S b)] w1 R) := Lib.hid (fun R w1 h => HH.out R w1 (fun A c w' _ _ k => by rw [e]; exact h A c w' k))
    clear e hp0 HSUM HH
    obtain ⟨c0, c1, f0, f1⟩ := HP.out.cells
    go_enter Tryz.func40, Tryz.ntmps40
    go_upto_region 3 with (fail)
    refine gen_world (fun W => OfS0 w g b W w.heap.size) base ?_
    clear base c0 c1 f0 f1
    intro W hs
    obtain ⟨g2, hg2⟩ : ∃ g2, w.heap.size = g2 := ⟨_, rfl⟩
    rw [hg2] at hs ⊢
    have HS := Lib.hid hs
    obtain ⟨c0, c1, f0, f1⟩ := hs.ps.cells
    have hgg := hs.hg
    have hgn := hs.ng
    clear hs hg2
    go_upto_region 9 with (go_at_call 60; ((refine HHe.out _ _ ?_); intro A1 cap1 w1 k1; have HS1 := Lib.hid (HS.out.keep k1); obtain ⟨d0, d1, d2, d3⟩ := HS1.out.ps.cells))
    refine gen_world (fun W => OfS2 w g b false W g2 w1.heap.size noReq none 0) HS1.out.wrong ?_
    intro W2 hs2
    clear d0 d1 d2 d3 c0 c1 f0 f1
    obtain ⟨g7, hg7⟩ : ∃ g7, w1.heap.size = g7 := ⟨_, rfl⟩
    rw [hg7] at hs2 ⊢
    have HS2 := Lib.hid hs2
    obtain ⟨y0, y1, y2, y3⟩ := hs2.ps.cells
    obtain ⟨⟨q0, q1, q2, q3, q4⟩, ⟨e0, e1, e2, e3, e4⟩⟩ := bk5 hs2.b2
    have hn1 := hs2.ng
    have hn2 := hs2.n7
    have hn3 : g ≠ g2 := by omega
    have hn4 : g ≠ g7 := by omega
    have hn5 : g2 ≠ g7 := by omega
    clear hs2 hg7
    go_upto_region 12 with (fail)
    refine gen_world (fun W => OfS2 w g [] true W g2 g7 noReq none 0) ((HS2.out.put [] true).put0 []) ?_
    clear y0 y1 y2 y3 q0 q1 q2 q3 q4 e0 e1 e2 e3 e4
    intro W3 hs3
    have HS3 := Lib.hid hs3
    obtain ⟨⟨q0, q1, q2, q3, q4⟩, ⟨e0, e1, e2, e3, e4⟩⟩ := bk5 hs3.b2
    obtain ⟨⟨p0, p1, p2, p3, p4⟩, _⟩ := bk5 hs3.b7
    clear hs3
    go_wp2
    obtain ⟨W4, hW4, k4, p4, rd4, fr4, z0, z1, z2, z3, z4⟩ := HS3.out.fin
    rw [hW4]
    exact bodyPost_ret (v := .tuple #[reqV noReq none 0, .int .i64 431]) (by simp [results, Tryz.results40, go_sem, z0, z1, z2, z3, z4]; try rfl) rfl (by have := H.out _ _ W4 (by rw [HE.out]; exact p4) k4 (by rw [HE.out]; exact rd4) fr4 (by rw [HE.out]; exact HS3.out.nc); rw [HE.out] at this; exact this)
  · obtain ⟨r1, s1, hof⟩ : ∃ a b, ofF (x :: xs) = (a, b) := ⟨_, _, rfl⟩
    have hsum := HSUM.out
    rw [e] at hsum
    simp only [List.length_nil, List.map_nil, List.sum_nil, List.length_cons, List.map_cons, List.sum_cons, Nat.zero_add] at hsum
    have hofs := ofF_st (x :: xs)
    rw [hof] at hofs
    have HOf : Hid (∀ (R : Ending → World → Prop) (w1 : World) (A : Option Addr) (c : Nat), Ml w1 → Rd w1 [] A (strs (x :: xs)) → xs.length + 1 ≤ c → (∀ A' c' w', Kp [] w1 w' → Rd w' [] A' (r1.fs.flatMap fldC) → (∀ b ∈ bks A', w1.heap.size ≤ b) → r1.fs.length ≤ c' → R (.returned (.tuple #[.agg #[.string (S r1.m), .string (S r1.t), .int .i64 r1.minor, .slice A' r1.fs.length c', .bool r1.close], .int .i64 s1])) w') → Calls Tryz.prog 61 #[.slice A (xs.length + 1) c] w1 R) := Lib.hid (fun R w1 A c h1 h2 h3 h => of_any x xs w1 h1 h2 h3 (by omega) (by omega) (by omega) (by rw [hof]; exact h))
    have HHe : Hid (∀ (R : Ending → World → Prop) (w1 : World), (∀ A c w', Ow w' 9 1 A (xs.length + 1) c (strs (x :: xs)) → (∀ x ∈ bks A, w1.heap.size ≤ x) → Kp [] w1 w' → R (.returned (.tuple #[.slice A (xs.length + 1) c, .string (S r), .int .i64 0])) w') → Calls Tryz.prog 60 #[.string (S b)] w1 R) := Lib.hid (fun R w1 h => HH.out R w1 (fun A c w' h1 h2 k => by rw [e] at h1 ⊢; exact h A c w' h1 h2 k))
    have HQ2 : Hid (q = if s1 = 0 then (r1, 0, r, false) else (noReq, s1, [], true)) := Lib.hid (by rw [HQ.out, nextF, e]; simp only; rw [hof]; rfl)
    obtain ⟨hs1, hs1r⟩ := hofs
    clear e hp0 HSUM HH hof hsum
    obtain ⟨c0, c1, f0, f1⟩ := HP.out.cells
    go_enter Tryz.func40, Tryz.ntmps40
    go_upto_region 3 with (fail)
    refine gen_world (fun W => OfS0 w g b W w.heap.size) base ?_
    clear base c0 c1 f0 f1
    intro W hs
    obtain ⟨g2, hg2⟩ : ∃ g2, w.heap.size = g2 := ⟨_, rfl⟩
    rw [hg2] at hs ⊢
    have HS := Lib.hid hs
    obtain ⟨c0, c1, f0, f1⟩ := hs.ps.cells
    have hgg := hs.hg
    have hgn := hs.ng
    clear hs hg2
    go_upto_region 9 with (first | (go_at_call 60; ((refine HHe.out _ _ ?_); intro A1 cap1 w1 ho hA k1; have HO1 := Lib.hid ho; have HS1 := Lib.hid (HS.out.keep k1); obtain ⟨d0, d1, d2, d3⟩ := HS1.out.ps.cells; clear ho hA)) | (go_at_call 61; ((refine HOf.out _ _ _ _ (hm.kp (HS1.out.kp.alloc _)) ((HO1.out.alloc _).rd (by simp)) HO1.out.ncap ?_); intro A2 cap2 w2 k2 rd2 fr2 nc2; have HO2 := Lib.hid (HS1.out.wrong.got k2 rd2 fr2 nc2); have hb7 := (Bk.new' w1 35 #[.string ByteArray.empty, .string ByteArray.empty, .int .i64 0, .slice none 0 0, .bool false]).kp k2 (by simp); obtain ⟨⟨m0, m1, m2, m3, m4⟩, ⟨n0, n1, n2, n3, n4⟩⟩ := bk5 hb7; clear rd2 fr2 nc2 hb7)))
    refine gen_world (fun W => OfS2 w g b false W g2 w1.heap.size r1 A2 cap2) HO2.out ?_
    intro W2 hs2
    clear d0 d1 d2 d3 c0 c1 f0 f1 m0 m1 m2 m3 m4 n0 n1 n2 n3 n4
    by_cases h0 : s1 = 0
    · subst h0
      have HE : Hid (q = (r1, 0, r, false)) := Lib.hid (by rw [HQ2.out, if_pos rfl])
      obtain ⟨g7, hg7⟩ : ∃ g7, w1.heap.size = g7 := ⟨_, rfl⟩
      rw [hg7] at hs2 ⊢
      have HS2 := Lib.hid hs2
      obtain ⟨y0, y1, y2, y3⟩ := hs2.ps.cells
      obtain ⟨⟨q0, q1, q2, q3, q4⟩, ⟨e0, e1, e2, e3, e4⟩⟩ := bk5 hs2.b2
      have hn1 := hs2.ng
      have hn2 := hs2.n7
      have hn3 : g ≠ g2 := by omega
      have hn4 : g ≠ g7 := by omega
      have hn5 : g2 ≠ g7 := by omega
      clear hs2 hg7
      go_upto_region 12 with (fail)
      refine gen_world (fun W => OfS2 w g r false W g2 g7 r1 A2 cap2) (HS2.out.put r false) ?_
      clear y0 y1 y2 y3 q0 q1 q2 q3 q4 e0 e1 e2 e3 e4
      intro W3 hs3
      have HS3 := Lib.hid hs3
      obtain ⟨⟨q0, q1, q2, q3, q4⟩, ⟨e0, e1, e2, e3, e4⟩⟩ := bk5 hs3.b2
      obtain ⟨⟨p0, p1, p2, p3, p4⟩, _⟩ := bk5 hs3.b7
      clear hs3
      go_wp2
      obtain ⟨W4, hW4, k4, p4, rd4, fr4, z0, z1, z2, z3, z4⟩ := HS3.out.fin
      rw [hW4]
      exact bodyPost_ret (v := .tuple #[reqV r1 A2 cap2, .int .i64 0]) (by simp [results, Tryz.results40, go_sem, z0, z1, z2, z3, z4, reqV]; try rfl) rfl (by have := H.out _ _ W4 (by rw [HE.out]; exact p4) k4 (by rw [HE.out]; exact rd4) fr4 (by rw [HE.out]; exact HS3.out.nc); rw [HE.out] at this; exact this)
    · have HE : Hid (q = (noReq, s1, [], true)) := Lib.hid (by rw [HQ2.out, if_neg h0])
      have hr1 := hs1r h0
      subst hr1
      have hs0 : (s1 != 0) = true := by simpa using h0
      clear hs1r h0
      obtain ⟨g7, hg7⟩ : ∃ g7, w1.heap.size = g7 := ⟨_, rfl⟩
      rw [hg7] at hs2 ⊢
      have HS2 := Lib.hid hs2
      obtain ⟨y0, y1, y2, y3⟩ := hs2.ps.cells
      obtain ⟨⟨q0, q1, q2, q3, q4⟩, ⟨e0, e1, e2, e3, e4⟩⟩ := bk5 hs2.b2
      have hn1 := hs2.ng
      have hn2 := hs2.n7
      have hn3 : g ≠ g2 := by omega
      have hn4 : g ≠ g7 := by omega
      have hn5 : g2 ≠ g7 := by omega
      clear hs2 hg7
      go_upto_region 12 with (fail)
      refine gen_world (fun W => OfS2 w g [] true W g2 g7 noReq A2 cap2) ((HS2.out.put r true).put0 []) ?_
      clear y0 y1 y2 y3 q0 q1 q2 q3 q4 e0 e1 e2 e3 e4
      intro W3 hs3
      have HS3 := Lib.hid hs3
      obtain ⟨⟨q0, q1, q2, q3, q4⟩, ⟨e0, e1, e2, e3, e4⟩⟩ := bk5 hs3.b2
      obtain ⟨⟨p0, p1, p2, p3, p4⟩, _⟩ := bk5 hs3.b7
      clear hs3
      go_wp2
      obtain ⟨W4, hW4, k4, p4, rd4, fr4, z0, z1, z2, z3, z4⟩ := HS3.out.fin
      rw [hW4]
      exact bodyPost_ret (v := .tuple #[reqV noReq A2 cap2, .int .i64 s1]) (by simp [results, Tryz.results40, go_sem, z0, z1, z2, z3, z4, reqV]; try rfl) rfl (by have := H.out _ _ W4 (by rw [HE.out]; exact p4) k4 (by rw [HE.out]; exact rd4) fr4 (by rw [HE.out]; exact HS3.out.nc); rw [HE.out] at this; exact this)
end
/-! ### Names of the conditions' fields; a request without such a date. -/
section
open Go.RowKit Go.Shelf
set_option linter.unusedVariables false
set_option linter.unusedSimpArgs false
set_option maxRecDepth 100000
def irL : List UInt8 := [105, 102, 45, 114, 97, 110, 103, 101]
def rgL : List UInt8 := [114, 97, 110, 103, 101]
def imL : List UInt8 := [105, 102, 45, 109, 97, 116, 99, 104]
def inL : List UInt8 := [105, 102, 45, 110, 111, 110, 101, 45, 109, 97, 116, 99, 104]
def iuL : List UInt8 := [105, 102, 45, 117, 110, 109, 111, 100, 105, 102, 105, 101, 100, 45, 115, 105, 110, 99, 101]
def ifL : List UInt8 := [105, 102, 45, 109, 111, 100, 105, 102, 105, 101, 100, 45, 115, 105, 110, 99, 101]
set_option maxHeartbeats 2000000 in
theorem date_no {R : Ending → World → Prop} (r : Req) (name : List UInt8) {A : Option Addr} {c : Nat} (w : World) (hr : Rd w [] A (r.fs.flatMap fldC)) (hn : r.fs.length ≤ 2000) (hc : r.fs.length ≤ c) (hg : getF r.fs name = ([], false))
    (h : ∀ w', Kp [] w w' → R (.returned (.tuple #[.int .i64 0, .bool false])) w') :
    Calls Tryz.prog 65 #[.agg #[.string (S r.m), .string (S r.t), .int .i64 r.minor, .slice A r.fs.length c, .bool r.close], .string (S name)] w R := by
  have H := Lib.hid h
  have HR := Lib.hid hr
  have HG : Hid (∀ (R : Ending → World → Prop) (w1 : World), Rd w1 [] A (r.fs.flatMap fldC) → (∀ w', Kp [] w1 w' → R (.returned (.tuple #[.string (S []), .bool false])) w') → Calls Tryz.prog 64 #[.agg #[.string (S r.m), .string (S r.t), .int .i64 r.minor, .slice A r.fs.length c, .bool r.close], .string (S name)] w1 R) := Lib.hid (fun R w1 h1 h => get_any r.fs name r.m r.t r.minor r.close w1 h1 (by omega) hc (by rw [hg]; exact h))
  clear h hr hg
  go_enter Tryz.func65, Tryz.ntmps65
  go_wp2_with (go_at_call 64; ((refine HG.out _ _ (HR.out.kp ((Kp.refl [] w).alloc _) (by simp)) ?_); intro w1 k1))
  first | exact H.out _ (((Kp.refl _ _).alloc _).trans k1) | exact bodyPost_ret (v := .tuple #[.int .i64 0, .bool false]) (by simp [results, Tryz.results65, go_sem]) rfl (H.out _ (((Kp.refl _ _).alloc _).trans k1))
end
/-! ### cond: date, Check, Ranged of any request, as functions of its fields. -/
section
open Go.RowKit Go.Shelf
set_option linter.unusedVariables false
set_option linter.unusedSimpArgs false
set_option maxRecDepth 100000
/-- The second that a field tells. -/
noncomputable def dateM (fs : List Fd) (name : List UInt8) : Int × Bool := by
  classical exact if (getF fs name).2 = true ∧ parOk (allF fs name) then (parN (allF fs name), !((getF fs name).1 == [])) else (0, false)
theorem getF_nil {fs : List Fd} {name : List UInt8} (h : (getF fs name).2 = false) : (getF fs name).1 = [] := by
  unfold getF at h ⊢
  split at h
  · rfl
  · cases h
section
variable {R : Ending → World → Prop} {w : World}
set_option maxHeartbeats 4000000 in
theorem date_any (r : Req) (name : List UInt8) {A : Option Addr} {c : Nat} (hr : Rd w [] A (r.fs.flatMap fldC)) (hn : r.fs.length ≤ 2000) (hc : r.fs.length ≤ c) (hw : Lw w) (ha : (allF r.fs name).length ≤ 2000000)
    (h : ∀ w', Kp [] w w' → R (.returned (.tuple #[.int .i64 (dateM r.fs name).1, .bool (dateM r.fs name).2])) w') :
    Calls Tryz.prog 65 #[.agg #[.string (S r.m), .string (S r.t), .int .i64 r.minor, .slice A r.fs.length c, .bool r.close], .string (S name)] w R := by
  cases hg : (getF r.fs name).2 with
  | false =>
    have e : dateM r.fs name = (0, false) := by unfold dateM; rw [if_neg (by rw [hg]; rintro ⟨h, _⟩; cases h)]
    rw [e] at h
    have e2 : getF r.fs name = ([], false) := by
      refine Prod.ext ?_ hg
      exact getF_nil hg
    exact date_no r name w hr hn hc e2 h
  | true =>
    have H := Lib.hid h
    have HR := Lib.hid hr
    obtain ⟨v, hv⟩ : ∃ v, (getF r.fs name).1 = v := ⟨_, rfl⟩
    obtain ⟨a, ha2⟩ : ∃ a, allF r.fs name = a := ⟨_, rfl⟩
    have HG : Hid (∀ (R : Ending → World → Prop) (w1 : World), Rd w1 [] A (r.fs.flatMap fldC) → (∀ w', Kp [] w1 w' → R (.returned (.tuple #[.string (S v), .bool true])) w') → Calls Tryz.prog 64 #[.agg #[.string (S r.m), .string (S r.t), .int .i64 r.minor, .slice A r.fs.length c, .bool r.close], .string (S name)] w1 R) := Lib.hid (fun R w1 h1 h => get_any r.fs name r.m r.t r.minor r.close w1 h1 (by omega) hc (by rw [hg, hv]; exact h))
    have HA : Hid (∀ (R : Ending → World → Prop) (w1 : World), Rd w1 [] A (r.fs.flatMap fldC) → (∀ w', Kp [] w1 w' → R (.returned (.string (S a))) w') → Calls Tryz.prog 46 #[.agg #[.string (S r.m), .string (S r.t), .int .i64 r.minor, .slice A r.fs.length c, .bool r.close], .string (S name)] w1 R) := Lib.hid (fun R w1 h1 h => all_any' r.fs name r.m r.t r.minor r.close w1 h1 (by omega) (by omega) (by rw [ha2]; exact h))
    have HP : Hid (∀ (R : Ending → World → Prop) (w1 : World), Kp [] w w1 → (∀ w', Hid (parOk a) → Kp [] w1 w' → R (.returned (.tuple #[.int .i64 (parN a), .int .i64 0])) w') → (∀ w', Hid (¬ parOk a) → Kp [] w1 w' → R (.returned (.tuple #[.int .i64 0, .int .i64 60])) w') → Calls Tryz.prog 112 #[.string (S a)] w1 R) := Lib.hid (fun R w1 k h1 h0 => parse_civ a (hw.kp k) (by rw [← ha2]; exact ha) (fun hi w' k' => h1 w' hi k') (fun hi w' k' => h0 w' hi k'))
    have HD1 : Hid (parOk a → dateM r.fs name = (parN a, !(v == []))) := Lib.hid (fun hp => by unfold dateM; rw [if_pos ⟨hg, by rw [ha2]; exact hp⟩, ha2, hv])
    have HD0 : Hid (¬ parOk a → dateM r.fs name = (0, false)) := Lib.hid (fun hp => by unfold dateM; rw [if_neg (by rw [ha2]; exact fun h => hp h.2)])
    clear h hr hg hv ha2 ha
    go_enter Tryz.func65, Tryz.ntmps65
    go_upto_region 1 with (fail)
    refine gen_worldC (fun W => ∃ g, w.heap.size = g ∧ Hid (Kp [] w W ∧ Bk W g 35 (reqC r A c))) ⟨_, rfl, Lib.hid ⟨(Kp.refl _ _).alloc _, (Bk.new' _ _ _).cast rfl⟩⟩ ?_
    rintro W ⟨g, hg, hW⟩
    rw [hg]
    clear hg
    have HC : Hid (∀ W', Kp [] W W' → W'.cell? ⟨g, 0, none⟩ = some (.string (S r.m)) ∧ W'.cell? ⟨g, 1, none⟩ = some (.string (S r.t)) ∧ W'.cell? ⟨g, 2, none⟩ = some (.int .i64 r.minor) ∧ W'.cell? ⟨g, 3, none⟩ = some (.slice A r.fs.length c) ∧ W'.cell? ⟨g, 4, none⟩ = some (.bool r.close)) :=
      Lib.hid (fun W' k => ⟨(hW.out.2.kp k (by simp)).cell 0, (hW.out.2.kp k (by simp)).cell 1, (hW.out.2.kp k (by simp)).cell 2, (hW.out.2.kp k (by simp)).cell 3, (hW.out.2.kp k (by simp)).cell 4⟩)
    obtain ⟨p0, p1, p2, p3, p4⟩ := HC.out W (Kp.refl _ _)
    go_upto_region 4 with (go_at_call 64; ((refine HG.out _ _ (HR.out.kp hW.out.1 (by simp)) ?_); intro w1 k1))
    clear p0 p1 p2 p3 p4
    obtain ⟨p0, p1, p2, p3, p4⟩ := HC.out w1 k1
    go_upto_region 5 with (first | (go_at_call 46; ((refine HA.out _ _ (HR.out.kp (hW.out.1.trans k1) (by simp)) ?_); intro w2 k2)) | (go_at_call 112; ((refine HP.out _ _ ((hW.out.1.trans k1).trans k2) ?_ ?_) <;> (intro w3 hp k3))))
    · have HE := Lib.hid (HD1.out hp.out)
      have kk := ((hW.out.1.trans k1).trans k2).trans k3
      clear p0 p1 p2 p3 p4 hp
      cases hq : (v == [])
      · go_wp2
        have := H.out _ kk; rw [HE.out, hq] at this; exact this
      · go_wp2
        have := H.out _ kk; rw [HE.out, hq] at this; exact this
    · have HE := Lib.hid (HD0.out hp.out)
      have kk := ((hW.out.1.trans k1).trans k2).trans k3
      clear p0 p1 p2 p3 p4 hp
      go_wp2
      have := H.out _ kk; rw [HE.out] at this; exact this
end
end
end Go.Proofs.YtnmafahbdfilcaaGreatDoor
