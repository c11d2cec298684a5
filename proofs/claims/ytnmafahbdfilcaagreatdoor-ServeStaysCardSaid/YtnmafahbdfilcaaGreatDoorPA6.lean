/- The walks of package request: a parser. The walks of package request: Next. Package civil: years, months, the date of a second. Package civil: the date of a second. pantlerref25.Digits at numbers that are not below 0. How a span is told: ranges.Content, None; the document's. -/
import Derived.Test.YtnmafahbdfilcaaGreatDoorPA4
import Derived.Test.YtnmafahbdfilcaaGreatDoorPA2
import Derived.BigRegion
import Derived.Test.YtnmafahbdfilcaaGreatDoorPA5
import Derived.Test.YtnmafahbdfilcaaGreatDoorPA1
import Derived.IntWalk
import Derived.BigQuiet
import Derived.Deep.Cut
namespace Go.Proofs.YtnmafahbdfilcaaGreatDoor
/-! ### The walks of package request: a parser. -/
section
open Go.RowKit Go.Shelf
set_option linter.unusedVariables false
set_option linter.unusedSimpArgs false
set_option maxRecDepth 100000

/-- A parser's block. -/
def PsC (b : List UInt8) (ov : Bool) : List Value := [.string (S b), .bool ov]
def Ps (w : World) (g : Nat) (b : List UInt8) (ov : Bool) : Prop := Bk w g 105 (PsC b ov)
theorem Ps.cells {w : World} {g : Nat} {b : List UInt8} {ov : Bool} (h : Ps w g b ov) : w.cell? ⟨g, 0, none⟩ = some (.string (S b)) ∧ w.cell? ⟨g, 1, none⟩ = some (.bool ov) ∧ w.frozen? ⟨g, 0, none⟩ = false ∧ w.frozen? ⟨g, 1, none⟩ = false :=
  ⟨Bk.cell h 0, Bk.cell h 1, Bk.frozen h 0, Bk.frozen h 1⟩
theorem new24_any {R : Ending → World → Prop} (w : World) (h : ∀ g w', w.heap.size ≤ g → Ps w' g [] false → Kp [] w w' → R (.returned (.pointer (some ⟨g, 0, none⟩))) w') : Calls Tryz.prog 32 #[] w R := by
  have H := Lib.hid h
  clear h
  go_enter Tryz.func32, Tryz.ntmps32
  go_wp2
  exact H.out _ _ (Nat.le_refl _) ((Bk.new' w _ _).cast rfl) ((Kp.refl _ _).alloc _)
theorem held24_any {R : Ending → World → Prop} {w : World} {g : Nat} {b : List UInt8} {ov : Bool} (hp : Ps w g b ov) (hl : b.length ≤ 2000000) (h : R (.returned (.int .i64 (b.length : Nat))) w) : Calls Tryz.prog 41 #[.pointer (some ⟨g, 0, none⟩)] w R := by
  have H := Lib.hid h
  obtain ⟨c0, c1, f0, f1⟩ := hp.cells
  clear h
  go_enter Tryz.func41, Tryz.ntmps41
  go_wp2
  exact H.out
set_option maxHeartbeats 2000000 in
theorem feed_any {R : Ending → World → Prop} {w : World} {g : Nat} {b : List UInt8} {ov : Bool} (hp : Ps w g b ov) {A : Option Addr} {n c : Nat} (x : List UInt8) (hx : Rd w [] A (bts x)) (hn : x.length = n) (hl : b.length + n ≤ 2000000)
    (h : ∀ w', Ps w' g (if ov then b else b ++ x) ov → Kp [g] w w' → R (.returned (.tuple #[])) w') : Calls Tryz.prog 33 #[.pointer (some ⟨g, 0, none⟩), .slice A n c] w R := by
  have H := Lib.hid h
  obtain ⟨c0, c1, f0, f1⟩ := hp.cells
  clear h
  cases ov
  · have hcv := conv_bs (c := c) hx hn
    go_enter Tryz.func33, Tryz.ntmps33
    have hcv1 := conv_bs (w := w.drew) (c := c) (show Rd w.drew [] A (bts x) from hx) hn
    have hls : ¬ (9223372036854775807 < b.length + x.length) := by omega
    go_wp2
    go_region
    go_wp2
    first | go_end0 | refine bodyPost_ret (results_none rfl _ _ _) rfl ?_
    exact H.out _ ((Bk.set_ hp 0 _).cast rfl) (((Kp.refl _ _).setCell (.inl (by simp)) _).drew)
  · go_enter Tryz.func33, Tryz.ntmps33
    go_wp2
    first | go_end0 | refine bodyPost_ret (results_none rfl _ _ _) rfl ?_
    exact H.out _ hp (Kp.refl _ _)
end
/-! ### The walks of package request: Next. -/
section
open Go.RowKit Go.Shelf
set_option linter.unusedVariables false
set_option linter.unusedSimpArgs false
set_option maxRecDepth 100000

theorem headF_st : ∀ (f n : Nat) (ls : List (List UInt8)) (s : List UInt8), headF f n ls s = ([], [], -1) ∨ headF f n ls s = ([], [], 400) ∨ headF f n ls s = ([], [], 431) ∨ ∃ x xs r, headF f n ls s = (x :: xs, r, 0) := by
  intro f
  induction f with
  | zero => intro n ls s; exact .inl rfl
  | succ f ih =>
    intro n ls s
    rw [headF]
    cases hl : lineL s with
    | wrong => exact .inr (.inl rfl)
    | more =>
      simp only
      split
      · exact .inr (.inr (.inl rfl))
      · exact .inl rfl
    | got l a =>
      simp only
      split
      · exact .inr (.inr (.inl rfl))
      · split
        · exact ih _ _ _
        · split
          · cases ls with
            | nil => contradiction
            | cons x xs => exact .inr (.inr (.inr ⟨_, _, _, rfl⟩))
          · exact ih _ _ _
theorem headF_sum : ∀ (f n : Nat) (ls : List (List UInt8)) (s : List UInt8), (headF f n ls s).1.length ≤ ls.length + s.length ∧ ((headF f n ls s).1.map List.length).sum ≤ (ls.map List.length).sum + s.length ∧ (headF f n ls s).2.1.length ≤ s.length := by
  intro f
  induction f with
  | zero => intro n ls s; simp [headF]
  | succ f ih =>
    intro n ls s
    rw [headF]
    cases hl : lineL s with
    | wrong => simp
    | more =>
      simp only
      split <;> simp
    | got l a =>
      have h0 := lineL_len hl
      simp only
      split
      · simp
      · split
        · have := ih n (ls ++ [l]) a
          simp only [List.length_append, List.length_cons, List.length_nil, List.map_append, List.map_cons, List.map_nil, List.sum_append, List.sum_cons, List.sum_nil] at this
          omega
        · split
          · simp only; omega
          · have := ih n ls a
            omega
/-- What `Next` hands back. -/
def NextK (R : Ending → World → Prop) (w : World) (g : Nat) (q : Req × Int × List UInt8 × Bool) : Prop :=
  ∀ A c w', Ps w' g q.2.2.1 q.2.2.2 → Kp [g] w w' → Rd w' [g] A (q.1.fs.flatMap fldC) → (∀ x ∈ bks A, w.heap.size ≤ x) → q.1.fs.length ≤ c → R (.returned (.tuple #[reqV q.1 A c, .int .i64 q.2.1])) w'
theorem next_over {R : Ending → World → Prop} {w : World} {g : Nat} {b : List UInt8} (hp : Ps w g b true) (h : NextK R w g (noReq, -1, b, true)) : Calls Tryz.prog 40 #[.pointer (some ⟨g, 0, none⟩)] w R := by
  unfold NextK at h
  have H := Lib.hid h
  obtain ⟨c0, c1, f0, f1⟩ := hp.cells
  have hgl := Bk.lt hp
  have HP := Lib.hid hp
  clear h hp
  go_enter Tryz.func40, Tryz.ntmps40
  go_wp2
  exact bodyPost_ret (v := .tuple #[reqV noReq none 0, .int .i64 (-1)]) (by simp [results, Tryz.results40, go_sem]; rfl) rfl (H.out none 0 _ (Bk.alloc HP.out _) ((Kp.refl _ _).alloc _) Rd.nil (by simp [bks]) (Nat.le_refl _))
/-- The world ahead of the first call: the result's struct, and the parser as it came. -/
structure OfS0 (w : World) (g : Nat) (b : List UInt8) (W : World) (g2 : Nat) : Prop where
  kp : Kp [] w W
  hg : w.heap.size ≤ g2
  b2 : Bk W g2 35 zeroC
  ps : Ps W g b false
  ng : g < g2
theorem OfS0.bad {w W : World} {g g2 : Nat} {b : List UInt8} (h : OfS0 w g b W g2) :
    ∃ W', ((((W.setCell ⟨g2, 0, none⟩ (.string ⟨#[]⟩)).setCell ⟨g2, 1, none⟩ (.string ⟨#[]⟩)).setCell ⟨g2, 2, none⟩ (.int .i64 0)).setCell ⟨g2, 3, none⟩ (.slice none 0 0)).setCell ⟨g2, 4, none⟩ (.bool false) = W' ∧ Kp [] w W' ∧ Ps W' g b false ∧ W'.cell? ⟨g2, 0, none⟩ = some (.string ByteArray.empty) ∧ W'.cell? ⟨g2, 1, none⟩ = some (.string ByteArray.empty) ∧ W'.cell? ⟨g2, 2, none⟩ = some (.int .i64 0) ∧ W'.cell? ⟨g2, 3, none⟩ = some (.slice none 0 0) ∧ W'.cell? ⟨g2, 4, none⟩ = some (.bool false) := by
  have h0 := h.hg; have h1 := h.ng
  have kk : Kp [g2] W (((((W.setCell ⟨g2, 0, none⟩ (.string ⟨#[]⟩)).setCell ⟨g2, 1, none⟩ (.string ⟨#[]⟩)).setCell ⟨g2, 2, none⟩ (.int .i64 0)).setCell ⟨g2, 3, none⟩ (.slice none 0 0)).setCell ⟨g2, 4, none⟩ (.bool false)) :=
    (((((Kp.refl _ _).setCell (.inl (by simp)) _).setCell (.inl (by simp)) _).setCell (.inl (by simp)) _).setCell (.inl (by simp)) _).setCell (.inl (by simp)) _
  have hb := (((((h.b2.set_ 0 (.string ⟨#[]⟩)).set_ 1 (.string ⟨#[]⟩)).set_ 2 (.int .i64 0)).set_ 3 (.slice none 0 0)).set_ 4 (.bool false)).cast (cs' := zeroC) rfl
  exact ⟨_, rfl, h.kp.thn kk (fun s hs => .inr (by simp at hs; omega)), Bk.kp h.ps kk (by simp; omega), hb.cell 0, hb.cell 1, hb.cell 2, hb.cell 3, hb.cell 4⟩
theorem OfS0.keep {w W W' : World} {g g2 : Nat} {b : List UInt8} (h : OfS0 w g b W g2) (k : Kp [] W W') : OfS0 w g b W' g2 := ⟨h.kp.trans k, h.hg, h.b2.kp k (by simp), Bk.kp h.ps k (by simp), h.ng⟩
theorem Rd.off {w : World} {N N' : List Nat} {A : Option Addr} {xs : List Value} {B : Nat} (h : Rd w N A xs) (hA : ∀ b ∈ bks A, B ≤ b) (hn : ∀ x ∈ N', x < B) : Rd w N' A xs := fun hx => by
  obtain ⟨b, off, rfl, _, rest⟩ := h hx
  refine ⟨b, off, rfl, fun hm => ?_, rest⟩
  have h1 := hA b (by simp [bks])
  have h2 := hn b hm
  omega
/-- The world with both structs. -/
structure OfS2 (w : World) (g : Nat) (b : List UInt8) (ov : Bool) (W : World) (g2 g7 : Nat) (r : Req) (A : Option Addr) (c : Nat) : Prop where
  kp : Kp [g] w W
  hg : w.heap.size ≤ g2
  ng : g < g2
  n7 : g2 < g7
  b2 : Bk W g2 35 zeroC
  b7 : Bk W g7 35 (reqC r A c)
  ps : Ps W g b ov
  rd : Rd W [g] A (r.fs.flatMap fldC)
  fresh : ∀ x ∈ bks A, g2 < x
  nc : r.fs.length ≤ c
theorem OfS0.wrong {w W : World} {g g2 : Nat} {b : List UInt8} (h : OfS0 w g b W g2) : OfS2 w g b false (W.alloc (.cells zeroC.toArray 35)) g2 W.heap.size noReq none 0 :=
  ⟨(h.kp.alloc _).mono (by simp), h.hg, h.ng, h.b2.lt, h.b2.alloc _, (Bk.new _ _ _).cast rfl, Bk.alloc h.ps _, Rd.nil, by simp [bks], Nat.le_refl _⟩
theorem OfS2.got {w W w2 : World} {g g2 : Nat} {b : List UInt8} {r : Req} {A : Option Addr} {c : Nat} (h : OfS2 w g b false (W.alloc (.cells zeroC.toArray 35)) g2 W.heap.size noReq none 0)
    (k : Kp [] (W.alloc (.cells zeroC.toArray 35)) w2) (hr : Rd w2 [] A (r.fs.flatMap fldC)) (hf : ∀ x ∈ bks A, (W.alloc (.cells zeroC.toArray 35)).heap.size ≤ x) (hc : r.fs.length ≤ c) :
    OfS2 w g b false (((((w2.setCell ⟨W.heap.size, 0, none⟩ (.string (S r.m))).setCell ⟨W.heap.size, 1, none⟩ (.string (S r.t))).setCell ⟨W.heap.size, 2, none⟩ (.int .i64 r.minor)).setCell ⟨W.heap.size, 3, none⟩ (.slice A r.fs.length c)).setCell ⟨W.heap.size, 4, none⟩ (.bool r.close)) g2 W.heap.size r A c := by
  have h0 := h.hg; have h1 := h.ng; have h2 := h.n7
  have hsz : (W.alloc (.cells zeroC.toArray 35)).heap.size = W.heap.size + 1 := by simp
  have kk : Kp [W.heap.size] w2 (((((w2.setCell ⟨W.heap.size, 0, none⟩ (.string (S r.m))).setCell ⟨W.heap.size, 1, none⟩ (.string (S r.t))).setCell ⟨W.heap.size, 2, none⟩ (.int .i64 r.minor)).setCell ⟨W.heap.size, 3, none⟩ (.slice A r.fs.length c)).setCell ⟨W.heap.size, 4, none⟩ (.bool r.close)) :=
    (((((Kp.refl _ _).setCell (.inl (by simp)) _).setCell (.inl (by simp)) _).setCell (.inl (by simp)) _).setCell (.inl (by simp)) _).setCell (.inl (by simp)) _
  have b7 := ((((((h.b7.kp k (by simp)).set_ 0 (.string (S r.m))).set_ 1 (.string (S r.t))).set_ 2 (.int .i64 r.minor)).set_ 3 (.slice A r.fs.length c)).set_ 4 (.bool r.close)).cast (cs' := reqC r A c) rfl
  have b2 := (h.b2.kp k (by simp)).kp kk (by simp; omega)
  have ps := Bk.kp (Bk.kp h.ps k (by simp)) kk (by simp; omega)
  refine ⟨(h.kp.trans (k.mono (by simp))).thn kk (fun s hs => .inr (by simp at hs; omega)), h0, h1, h2, b2, b7, ps, ?_, fun x hx => by have := hf x hx; omega, hc⟩
  intro hx
  obtain ⟨bb, off, hA, hN, hlt, hcc⟩ := hr hx
  have hfr := hf bb (by rw [hA]; simp [bks])
  refine ⟨bb, off, hA, by simp; omega, Nat.lt_of_lt_of_le hlt kk.size, fun j u hu => ?_⟩
  rw [kk.cell (p := ⟨bb, off + j, none⟩) hlt (by simp; omega)]
  exact hcc j u hu
theorem OfS2.put {w W : World} {g g2 g7 : Nat} {b : List UInt8} {ov : Bool} {r : Req} {A : Option Addr} {c : Nat} (h : OfS2 w g b ov W g2 g7 r A c) (b' : List UInt8) (ov' : Bool) :
    OfS2 w g b' ov' ((W.setCell ⟨g, 0, none⟩ (.string (S b'))).setCell ⟨g, 1, none⟩ (.bool ov')) g2 g7 r A c := by
  have h1 := h.ng; have h2 := h.n7
  have k : Kp [g] W ((W.setCell ⟨g, 0, none⟩ (.string (S b'))).setCell ⟨g, 1, none⟩ (.bool ov')) := ((Kp.refl _ _).setCell (.inl (by simp)) _).setCell (.inl (by simp)) _
  exact ⟨h.kp.trans k, h.hg, h.ng, h.n7, h.b2.kp k (by simp; omega), h.b7.kp k (by simp; omega), ((Bk.set_ h.ps 0 _).set_ 1 _).cast rfl, h.rd.kp k (by simp), h.fresh, h.nc⟩
theorem OfS2.put0 {w W : World} {g g2 g7 : Nat} {b : List UInt8} {ov : Bool} {r : Req} {A : Option Addr} {c : Nat} (h : OfS2 w g b ov W g2 g7 r A c) (b' : List UInt8) :
    OfS2 w g b' ov (W.setCell ⟨g, 0, none⟩ (.string (S b'))) g2 g7 r A c := by
  have h1 := h.ng; have h2 := h.n7
  have k : Kp [g] W (W.setCell ⟨g, 0, none⟩ (.string (S b'))) := (Kp.refl _ _).setCell (.inl (by simp)) _
  exact ⟨h.kp.trans k, h.hg, h.ng, h.n7, h.b2.kp k (by simp; omega), h.b7.kp k (by simp; omega), (Bk.set_ h.ps 0 _).cast rfl, h.rd.kp k (by simp), h.fresh, h.nc⟩
theorem OfS2.fin {w W : World} {g g2 g7 : Nat} {b : List UInt8} {ov : Bool} {r : Req} {A : Option Addr} {c : Nat} (h : OfS2 w g b ov W g2 g7 r A c) :
    ∃ W', ((((W.setCell ⟨g2, 0, none⟩ (.string (S r.m))).setCell ⟨g2, 1, none⟩ (.string (S r.t))).setCell ⟨g2, 2, none⟩ (.int .i64 r.minor)).setCell ⟨g2, 3, none⟩ (.slice A r.fs.length c)).setCell ⟨g2, 4, none⟩ (.bool r.close) = W' ∧ Kp [g] w W' ∧ Ps W' g b ov ∧ Rd W' [g] A (r.fs.flatMap fldC) ∧ (∀ x ∈ bks A, w.heap.size ≤ x) ∧
      (W'.cell? ⟨g2, 0, none⟩ = some (.string (S r.m)) ∧ W'.cell? ⟨g2, 1, none⟩ = some (.string (S r.t)) ∧ W'.cell? ⟨g2, 2, none⟩ = some (.int .i64 r.minor) ∧ W'.cell? ⟨g2, 3, none⟩ = some (.slice A r.fs.length c) ∧ W'.cell? ⟨g2, 4, none⟩ = some (.bool r.close)) := by
  have h0 := h.hg; have h1 := h.ng; have h2 := h.n7
  have kk : Kp [g2] W (((((W.setCell ⟨g2, 0, none⟩ (.string (S r.m))).setCell ⟨g2, 1, none⟩ (.string (S r.t))).setCell ⟨g2, 2, none⟩ (.int .i64 r.minor)).setCell ⟨g2, 3, none⟩ (.slice A r.fs.length c)).setCell ⟨g2, 4, none⟩ (.bool r.close)) :=
    (((((Kp.refl _ _).setCell (.inl (by simp)) _).setCell (.inl (by simp)) _).setCell (.inl (by simp)) _).setCell (.inl (by simp)) _).setCell (.inl (by simp)) _
  have hb := (((((h.b2.set_ 0 (.string (S r.m))).set_ 1 (.string (S r.t))).set_ 2 (.int .i64 r.minor)).set_ 3 (.slice A r.fs.length c)).set_ 4 (.bool r.close)).cast (cs' := reqC r A c) rfl
  refine ⟨_, rfl, h.kp.thn kk (fun s hs => .inr (by simp at hs; omega)), Bk.kp h.ps kk (by simp; omega), ?_, fun x hx => by have := h.fresh x hx; omega, hb.cell 0, hb.cell 1, hb.cell 2, hb.cell 3, hb.cell 4⟩
  intro hx
  obtain ⟨bb, off, hA, hN, hlt, hc⟩ := h.rd hx
  have hfr := h.fresh bb (by rw [hA]; simp [bks])
  refine ⟨bb, off, hA, hN, Nat.lt_of_lt_of_le hlt kk.size, fun j u hu => ?_⟩
  rw [kk.cell (p := ⟨bb, off + j, none⟩) hlt (by simp; omega)]
  exact hc j u hu
theorem bk5 {w : World} {g tt : Nat} {a b c d e : Value} (h : Bk w g tt [a, b, c, d, e]) : (w.cell? ⟨g, 0, none⟩ = some a ∧ w.cell? ⟨g, 1, none⟩ = some b ∧ w.cell? ⟨g, 2, none⟩ = some c ∧ w.cell? ⟨g, 3, none⟩ = some d ∧ w.cell? ⟨g, 4, none⟩ = some e) ∧
    (w.frozen? ⟨g, 0, none⟩ = false ∧ w.frozen? ⟨g, 1, none⟩ = false ∧ w.frozen? ⟨g, 2, none⟩ = false ∧ w.frozen? ⟨g, 3, none⟩ = false ∧ w.frozen? ⟨g, 4, none⟩ = false) :=
  ⟨⟨h.cell 0, h.cell 1, h.cell 2, h.cell 3, h.cell 4⟩, h.frozen 0, h.frozen 1, h.frozen 2, h.frozen 3, h.frozen 4⟩
set_option maxHeartbeats 4000000 in
theorem next_any {R : Ending → World → Prop} {w : World} {g : Nat} {b : List UInt8} (hm : Ml w) (hp : Ps w g b false) (hl : b.length ≤ 10000) (h : NextK R w g (nextF b)) : Calls Tryz.prog 40 #[.pointer (some ⟨g, 0, none⟩)] w R := by
  obtain ⟨q, hq⟩ : ∃ q, nextF b = q := ⟨_, rfl⟩
  rw [hq] at h
  unfold NextK at h
  have H := Lib.hid h
  have hp0 := hp.cells
  have hgl := Bk.lt hp
  have HP := Lib.hid hp
  have HSUM := Lib.hid (headF_sum (b.length + 1) b.length [] b)
  have HH : Hid (∀ (R : Ending → World → Prop) (w1 : World), (∀ A c w', Ow w' 9 1 A (headF (b.length + 1) b.length [] b).1.length c (strs (headF (b.length + 1) b.length [] b).1) → (∀ x ∈ bks A, w1.heap.size ≤ x) → Kp [] w1 w' → R (.returned (headV A c (headF (b.length + 1) b.length [] b))) w') → Calls Tryz.prog 60 #[.string (S b)] w1 R) := Lib.hid (fun R w1 h => head_any b w1 (by omega) h)
  have HQ : Hid (q = nextF b) := Lib.hid hq.symm
  have hst := headF_st (b.length + 1) b.length [] b
  clear h hp hq
  have base : OfS0 w g b ((w.alloc (.cells zeroC.toArray 35))) w.heap.size := ⟨(Kp.refl _ _).alloc _, Nat.le_refl _, Bk.new _ _ _, Bk.alloc HP.out _, by omega⟩
  rcases hst with e | e | e | ⟨x, xs, r, e⟩
  · have HE : Hid (q = (noReq, -1, b, false)) := Lib.hid (by rw [HQ.out, nextF, e]; rfl)
    have HHe : Hid (∀ (R : Ending → World → Prop) (w1 : World), (∀ A c w', Kp [] w1 w' → R (.returned (.tuple #[.slice A 0 c, .string (S []), .int .i64 (-1)])) w') → Calls Tryz.prog 60 #[.string (S b)] w1 R) := Lib.hid (fun R w1 h => HH.out R w1 (fun A c w' _ _ k => by rw [e]; exact h A c w' k))
    clear e hp0 HSUM HH
    obtain ⟨c0, c1, f0, f1⟩ := HP.out.cells
    go_enter Tryz.func40, Tryz.ntmps40
    go_upto_region 3 with (fail)
    refine gen_world (fun W => OfS0 w g b W w.heap.size) base ?_
    clear base c0 c1 f0 f1
    intro W hs
    obtain ⟨g2, hg2⟩ : ∃ g2, w.heap.size = g2 := ⟨_, rfl⟩
    rw [hg2] at hs ⊢
    have HS := Lib.hid hs
    obtain ⟨c0, c1, f0, f1⟩ := hs.ps.cells
    have hgg := hs.hg
    have hgn := hs.ng
    clear hs hg2
    go_wp2_with (go_at_call 60; ((refine HHe.out _ _ ?_); intro A1 cap1 w1 k1; have HS1 := Lib.hid (HS.out.keep k1); obtain ⟨⟨q0, q1, q2, q3, q4⟩, ⟨e0, e1, e2, e3, e4⟩⟩ := bk5 HS1.out.b2))
    obtain ⟨W5, hW5, k5, p5, z0, z1, z2, z3, z4⟩ := HS1.out.bad
    rw [hW5]
    exact bodyPost_ret (v := .tuple #[reqV noReq none 0, .int .i64 (-1)]) (by simp [results, Tryz.results40, go_sem, z0, z1, z2, z3, z4]; rfl) rfl (by have := H.out none 0 W5 (by rw [HE.out]; exact p5) (k5.mono (by simp)) (by rw [HE.out]; exact Rd.nil) (by simp [bks]) (by rw [HE.out]; exact Nat.le_refl _); rw [HE.out] at this; exact this)
  · have HE : Hid (q = (noReq, 400, [], true)) := Lib.hid (by rw [HQ.out, nextF, e]; rfl)
    have HHe : Hid (∀ (R : Ending → World → Prop) (w1 : World), (∀ A c w', Kp [] w1 w' → R (.returned (.tuple #[.slice A 0 c, .string (S []), .int .i64 400])) w') → Calls Tryz.prog 60 #[.string (S b)] w1 R) := Lib.hid (fun R w1 h => HH.out R w1 (fun A c w' _ _ k => by rw [e]; exact h A c w' k))
    clear e hp0 HSUM HH
    obtain ⟨c0, c1, f0, f1⟩ := HP.out.cells
    go_enter Tryz.func40, Tryz.ntmps40
    go_upto_region 3 with (fail)
    refine gen_world (fun W => OfS0 w g b W w.heap.size) base ?_
    clear base c0 c1 f0 f1
    intro W hs
    obtain ⟨g2, hg2⟩ : ∃ g2, w.heap.size = g2 := ⟨_, rfl⟩
    rw [hg2] at hs ⊢
    have HS := Lib.hid hs
    obtain ⟨c0, c1, f0, f1⟩ := hs.ps.cells
    have hgg := hs.hg
    have hgn := hs.ng
    clear hs hg2
    go_upto_region 9 with (go_at_call 60; ((refine HHe.out _ _ ?_); intro A1 cap1 w1 k1; have HS1 := Lib.hid (HS.out.keep k1); obtain ⟨d0, d1, d2, d3⟩ := HS1.out.ps.cells))
    refine gen_world (fun W => OfS2 w g b false W g2 w1.heap.size noReq none 0) HS1.out.wrong ?_
    intro W2 hs2
    clear d0 d1 d2 d3 c0 c1 f0 f1
    obtain ⟨g7, hg7⟩ : ∃ g7, w1.heap.size = g7 := ⟨_, rfl⟩
    rw [hg7] at hs2 ⊢
    have HS2 := Lib.hid hs2
    obtain ⟨y0, y1, y2, y3⟩ := hs2.ps.cells
    obtain ⟨⟨q0, q1, q2, q3, q4⟩, ⟨e0, e1, e2, e3, e4⟩⟩ := bk5 hs2.b2
    have hn1 := hs2.ng
    have hn2 := hs2.n7
    have hn3 : g ≠ g2 := by omega
    have hn4 : g ≠ g7 := by omega
    have hn5 : g2 ≠ g7 := by omega
    clear hs2 hg7
    go_upto_region 12 with (fail)
    refine gen_world (fun W => OfS2 w g [] true W g2 g7 noReq none 0) ((HS2.out.put [] true).put0 []) ?_
    clear y0 y1 y2 y3 q0 q1 q2 q3 q4 e0 e1 e2 e3 e4
    intro W3 hs3
    have HS3 := Lib.hid hs3
    obtain ⟨⟨q0, q1, q2, q3, q4⟩, ⟨e0, e1, e2, e3, e4⟩⟩ := bk5 hs3.b2
    obtain ⟨⟨p0, p1, p2, p3, p4⟩, _⟩ := bk5 hs3.b7
    clear hs3
    go_wp2
    obtain ⟨W4, hW4, k4, p4, rd4, fr4, z0, z1, z2, z3, z4⟩ := HS3.out.fin
    rw [hW4]
    exact bodyPost_ret (v := .tuple #[reqV noReq none 0, .int .i64 400]) (by simp [results, Tryz.results40, go_sem, z0, z1, z2, z3, z4]; try rfl) rfl (by have := H.out _ _ W4 (by rw [HE.out]; exact p4) k4 (by rw [HE.out]; exact rd4) fr4 (by rw [HE.out]; exact HS3.out.nc); rw [HE.out] at this; exact this)
  · have HE : Hid (q = (noReq, 431, [], true)) := Lib.hid (by rw [HQ.out, nextF, e]; rfl)
    have HHe : Hid (∀ (R : Ending → World → Prop) (w1 : World), (∀ A c w', Kp [] w1 w' → R (.returned (.tuple #[.slice A 0 c, .string (S []), .int .i64 431])) w') → Calls Tryz.prog 60 #[.string (S b)] w1 R) := Lib.hid (fun R w1 h => HH.out R w1 (fun A c w' _ _ k => by rw [e]; exact h A c w' k))
    clear e hp0 HSUM HH
    obtain ⟨c0, c1, f0, f1⟩ := HP.out.cells
    go_enter Tryz.func40, Tryz.ntmps40
    go_upto_region 3 with (fail)
    refine gen_world (fun W => OfS0 w g b W w.heap.size) base ?_
    clear base c0 c1 f0 f1
    intro W hs
    obtain ⟨g2, hg2⟩ : ∃ g2, w.heap.size = g2 := ⟨_, rfl⟩
    rw [hg2] at hs ⊢
    have HS := Lib.hid hs
    obtain ⟨c0, c1, f0, f1⟩ := hs.ps.cells
    have hgg := hs.hg
    have hgn := hs.ng
    clear hs hg2
    go_upto_region 9 with (go_at_call 60; ((refine HHe.out _ _ ?_); intro A1 cap1 w1 k1; have HS1 := Lib.hid (HS.out.keep k1); obtain ⟨d0, d1, d2, d3⟩ := HS1.out.ps.cells))
    refine gen_world (fun W => OfS2 w g b false W g2 w1.heap.size noReq none 0) HS1.out.wrong ?_
    intro W2 hs2
    clear d0 d1 d2 d3 c0 c1 f0 f1
    obtain ⟨g7, hg7⟩ : ∃ g7, w1.heap.size = g7 := ⟨_, rfl⟩
    rw [hg7] at hs2 ⊢
    have HS2 := Lib.hid hs2
    obtain ⟨y0, y1, y2, y3⟩ := hs2.ps.cells
    obtain ⟨⟨q0, q1, q2, q3, q4⟩, ⟨e0, e1, e2, e3, e4⟩⟩ := bk5 hs2.b2
    have hn1 := hs2.ng
    have hn2 := hs2.n7
    have hn3 : g ≠ g2 := by omega
    have hn4 : g ≠ g7 := by omega
    have hn5 : g2 ≠ g7 := by omega
    clear hs2 hg7
    go_upto_region 12 with (fail)
    refine gen_world (fun W => OfS2 w g [] true W g2 g7 noReq none 0) ((HS2.out.put [] true).put0 []) ?_
    clear y0 y1 y2 y3 q0 q1 q2 q3 q4 e0 e1 e2 e3 e4
    intro W3 hs3
    have HS3 := Lib.hid hs3
    obtain ⟨⟨q0, q1, q2, q3, q4⟩, ⟨e0, e1, e2, e3, e4⟩⟩ := bk5 hs3.b2
    obtain ⟨⟨p0, p1, p2, p3, p4⟩, _⟩ := bk5 hs3.b7
    clear hs3
    go_wp2
    obtain ⟨W4, hW4, k4, p4, rd4, fr4, z0, z1, z2, z3, z4⟩ := HS3.out.fin
    rw [hW4]
    exact bodyPost_ret (v := .tuple #[reqV noReq none 0, .int .i64 431]) (by simp [results, Tryz.results40, go_sem, z0, z1, z2, z3, z4]; try rfl) rfl (by have := H.out _ _ W4 (by rw [HE.out]; exact p4) k4 (by rw [HE.out]; exact rd4) fr4 (by rw [HE.out]; exact HS3.out.nc); rw [HE.out] at this; exact this)
  · obtain ⟨r1, s1, hof⟩ : ∃ a b, ofF (x :: xs) = (a, b) := ⟨_, _, rfl⟩
    have hsum := HSUM.out
    rw [e] at hsum
    simp only [List.length_nil, List.map_nil, List.sum_nil, List.length_cons, List.map_cons, List.sum_cons, Nat.zero_add] at hsum
    have hofs := ofF_st (x :: xs)
    rw [hof] at hofs
    have HOf : Hid (∀ (R : Ending → World → Prop) (w1 : World) (A : Option Addr) (c : Nat), Ml w1 → Rd w1 [] A (strs (x :: xs)) → xs.length + 1 ≤ c → (∀ A' c' w', Kp [] w1 w' → Rd w' [] A' (r1.fs.flatMap fldC) → (∀ b ∈ bks A', w1.heap.size ≤ b) → r1.fs.length ≤ c' → R (.returned (.tuple #[.agg #[.string (S r1.m), .string (S r1.t), .int .i64 r1.minor, .slice A' r1.fs.length c', .bool r1.close], .int .i64 s1])) w') → Calls Tryz.prog 61 #[.slice A (xs.length + 1) c] w1 R) := Lib.hid (fun R w1 A c h1 h2 h3 h => of_any x xs w1 h1 h2 h3 (by omega) (by omega) (by omega) (by rw [hof]; exact h))
    have HHe : Hid (∀ (R : Ending → World → Prop) (w1 : World), (∀ A c w', Ow w' 9 1 A (xs.length + 1) c (strs (x :: xs)) → (∀ x ∈ bks A, w1.heap.size ≤ x) → Kp [] w1 w' → R (.returned (.tuple #[.slice A (xs.length + 1) c, .string (S r), .int .i64 0])) w') → Calls Tryz.prog 60 #[.string (S b)] w1 R) := Lib.hid (fun R w1 h => HH.out R w1 (fun A c w' h1 h2 k => by rw [e] at h1 ⊢; exact h A c w' h1 h2 k))
    have HQ2 : Hid (q = if s1 = 0 then (r1, 0, r, false) else (noReq, s1, [], true)) := Lib.hid (by rw [HQ.out, nextF, e]; simp only; rw [hof]; rfl)
    obtain ⟨hs1, hs1r⟩ := hofs
    clear e hp0 HSUM HH hof hsum
    obtain ⟨c0, c1, f0, f1⟩ := HP.out.cells
    go_enter Tryz.func40, Tryz.ntmps40
    go_upto_region 3 with (fail)
    refine gen_world (fun W => OfS0 w g b W w.heap.size) base ?_
    clear base c0 c1 f0 f1
    intro W hs
    obtain ⟨g2, hg2⟩ : ∃ g2, w.heap.size = g2 := ⟨_, rfl⟩
    rw [hg2] at hs ⊢
    have HS := Lib.hid hs
    obtain ⟨c0, c1, f0, f1⟩ := hs.ps.cells
    have hgg := hs.hg
    have hgn := hs.ng
    clear hs hg2
    go_upto_region 9 with (first | (go_at_call 60; ((refine HHe.out _ _ ?_); intro A1 cap1 w1 ho hA k1; have HO1 := Lib.hid ho; have HS1 := Lib.hid (HS.out.keep k1); obtain ⟨d0, d1, d2, d3⟩ := HS1.out.ps.cells; clear ho hA)) | (go_at_call 61; ((refine HOf.out _ _ _ _ (hm.kp (HS1.out.kp.alloc _)) ((HO1.out.alloc _).rd (by simp)) HO1.out.ncap ?_); intro A2 cap2 w2 k2 rd2 fr2 nc2; have HO2 := Lib.hid (HS1.out.wrong.got k2 rd2 fr2 nc2); have hb7 := (Bk.new' w1 35 #[.string ByteArray.empty, .string ByteArray.empty, .int .i64 0, .slice none 0 0, .bool false]).kp k2 (by simp); obtain ⟨⟨m0, m1, m2, m3, m4⟩, ⟨n0, n1, n2, n3, n4⟩⟩ := bk5 hb7; clear rd2 fr2 nc2 hb7)))
    refine gen_world (fun W => OfS2 w g b false W g2 w1.heap.size r1 A2 cap2) HO2.out ?_
    intro W2 hs2
    clear d0 d1 d2 d3 c0 c1 f0 f1 m0 m1 m2 m3 m4 n0 n1 n2 n3 n4
    by_cases h0 : s1 = 0
    · subst h0
      have HE : Hid (q = (r1, 0, r, false)) := Lib.hid (by rw [HQ2.out, if_pos rfl])
      obtain ⟨g7, hg7⟩ : ∃ g7, w1.heap.size = g7 := ⟨_, rfl⟩
      rw [hg7] at hs2 ⊢
      have HS2 := Lib.hid hs2
      obtain ⟨y0, y1, y2, y3⟩ := hs2.ps.cells
      obtain ⟨⟨q0, q1, q2, q3, q4⟩, ⟨e0, e1, e2, e3, e4⟩⟩ := bk5 hs2.b2
      have hn1 := hs2.ng
      have hn2 := hs2.n7
      have hn3 : g ≠ g2 := by omega
      have hn4 : g ≠ g7 := by omega
      have hn5 : g2 ≠ g7 := by omega
      clear hs2 hg7
      go_upto_region 12 with (fail)
      refine gen_world (fun W => OfS2 w g r false W g2 g7 r1 A2 cap2) (HS2.out.put r false) ?_
      clear y0 y1 y2 y3 q0 q1 q2 q3 q4 e0 e1 e2 e3 e4
      intro W3 hs3
      have HS3 := Lib.hid hs3
      obtain ⟨⟨q0, q1, q2, q3, q4⟩, ⟨e0, e1, e2, e3, e4⟩⟩ := bk5 hs3.b2
      obtain ⟨⟨p0, p1, p2, p3, p4⟩, _⟩ := bk5 hs3.b7
      clear hs3
      go_wp2
      obtain ⟨W4, hW4, k4, p4, rd4, fr4, z0, z1, z2, z3, z4⟩ := HS3.out.fin
      rw [hW4]
      exact bodyPost_ret (v := .tuple #[reqV r1 A2 cap2, .int .i64 0]) (by simp [results, Tryz.results40, go_sem, z0, z1, z2, z3, z4, reqV]; try rfl) rfl (by have := H.out _ _ W4 (by rw [HE.out]; exact p4) k4 (by rw [HE.out]; exact rd4) fr4 (by rw [HE.out]; exact HS3.out.nc); rw [HE.out] at this; exact this)
    · have HE : Hid (q = (noReq, s1, [], true)) := Lib.hid (by rw [HQ2.out, if_neg h0])
      have hr1 := hs1r h0
      subst hr1
      have hs0 : (s1 != 0) = true := by simpa using h0
      clear hs1r h0
      obtain ⟨g7, hg7⟩ : ∃ g7, w1.heap.size = g7 := ⟨_, rfl⟩
      rw [hg7] at hs2 ⊢
      have HS2 := Lib.hid hs2
      obtain ⟨y0, y1, y2, y3⟩ := hs2.ps.cells
      obtain ⟨⟨q0, q1, q2, q3, q4⟩, ⟨e0, e1, e2, e3, e4⟩⟩ := bk5 hs2.b2
      have hn1 := hs2.ng
      have hn2 := hs2.n7
      have hn3 : g ≠ g2 := by omega
      have hn4 : g ≠ g7 := by omega
      have hn5 : g2 ≠ g7 := by omega
      clear hs2 hg7
      go_upto_region 12 with (fail)
      refine gen_world (fun W => OfS2 w g [] true W g2 g7 noReq A2 cap2) ((HS2.out.put r true).put0 []) ?_
      clear y0 y1 y2 y3 q0 q1 q2 q3 q4 e0 e1 e2 e3 e4
      intro W3 hs3
      have HS3 := Lib.hid hs3
      obtain ⟨⟨q0, q1, q2, q3, q4⟩, ⟨e0, e1, e2, e3, e4⟩⟩ := bk5 hs3.b2
      obtain ⟨⟨p0, p1, p2, p3, p4⟩, _⟩ := bk5 hs3.b7
      clear hs3
      go_wp2
      obtain ⟨W4, hW4, k4, p4, rd4, fr4, z0, z1, z2, z3, z4⟩ := HS3.out.fin
      rw [hW4]
      exact bodyPost_ret (v := .tuple #[reqV noReq A2 cap2, .int .i64 s1]) (by simp [results, Tryz.results40, go_sem, z0, z1, z2, z3, z4, reqV]; try rfl) rfl (by have := H.out _ _ W4 (by rw [HE.out]; exact p4) k4 (by rw [HE.out]; exact rd4) fr4 (by rw [HE.out]; exact HS3.out.nc); rw [HE.out] at this; exact this)
end
/-! ### Package civil: years, months, the date of a second. -/
section
open Go.RowKit
set_option linter.unusedVariables false
set_option linter.unusedSimpArgs false
set_option maxRecDepth 100000

def leapB (y : Int) : Bool := decide (y % 4 = 0) && (!decide (y % 100 = 0) || decide (y % 400 = 0))
def oneI1 (b : Bool) : Int := if b then 1 else 0
def lenM (y m : Int) : Int := if m = 2 then 28 + oneI1 (leapB y) else if m = 4 ∨ m = 6 ∨ m = 9 ∨ m = 11 then 30 else 31
theorem leap_any {R : Ending → World → Prop} (y : Int) (w : World) (h0 : 0 ≤ y) (h1 : y ≤ 2000000) (h : R (.returned (.bool (leapB y))) w) : Calls Tryz.prog 144 #[.int .i64 y] w R := by
  have H := Lib.hid h
  clear h
  go_enter Tryz.func144, Tryz.ntmps144
  go_wp2
  all_goals (refine rcast H.out (congrArg Value.bool ?_); unfold leapB; rw [Bool.eq_iff_iff]; simp <;> omega)
theorem one_any {R : Ending → World → Prop} (b : Bool) (w : World) (h : R (.returned (.int .i64 (oneI1 b))) w) : Calls Tryz.prog 143 #[.bool b] w R := by
  have H := Lib.hid h
  clear h
  cases b
  all_goals
    go_enter Tryz.func143, Tryz.ntmps143
    go_wp2
    exact H.out
set_option maxHeartbeats 1000000 in
theorem length_any {R : Ending → World → Prop} (y m : Int) (w : World) (h0 : 0 ≤ y) (h1 : y ≤ 2000000) (m0 : 0 ≤ m) (m1 : m ≤ 100) (h : R (.returned (.int .i64 (lenM y m))) w) : Calls Tryz.prog 145 #[.int .i64 y, .int .i64 m] w R := by
  have H := Lib.hid h
  clear h
  have hb : oneI1 (leapB y) = 0 ∨ oneI1 (leapB y) = 1 := by unfold oneI1; split <;> simp
  obtain ⟨o, ho⟩ : ∃ o, oneI1 (leapB y) = o := ⟨_, rfl⟩
  have HO : Hid (lenM y m = if m = 2 then 28 + o else if m = 4 ∨ m = 6 ∨ m = 9 ∨ m = 11 then 30 else 31) := Lib.hid (by unfold lenM; rw [ho])
  have H1 : Hid (∀ (R : Ending → World → Prop) (w1 : World), R (.returned (.int .i64 o)) w1 → Calls Tryz.prog 143 #[.bool (leapB y)] w1 R) := Lib.hid (fun R w1 h => one_any _ w1 (by rw [ho]; exact h))
  rw [ho] at hb
  clear ho
  have o0 : 0 ≤ o := by omega
  have o1 : o ≤ 1 := by omega
  clear hb
  go_enter Tryz.func145, Tryz.ntmps145
  go_wp2_with (first | (go_at_call 144; (refine leap_any y _ h0 h1 ?_)) | (go_at_call 143; (refine H1.out _ _ ?_)))
  all_goals
    refine rcast H.out (congrArg (Value.int .i64) ?_)
    rw [HO.out]
    clear HO H H1
    simp_all
end
/-! ### Package civil: the date of a second. -/
section
open Go.RowKit
set_option linter.unusedVariables false
set_option linter.unusedSimpArgs false
set_option maxRecDepth 100000

/-- Days ahead of a year, from the year 0 on. -/
def befY (y : Int) : Int := 365 * y + (y - 1) / 4 - (y - 1) / 100 + (y - 1) / 400
def yLen (y : Int) : Int := 365 + oneI1 (leapB y)
/-- Days of the months ahead. -/
def cumM (y : Int) : Nat → Int
  | 0 => 0
  | k + 1 => cumM y k + lenM y (k + 1)
theorem leap_01 (y : Int) : oneI1 (leapB y) = 0 ∨ oneI1 (leapB y) = 1 := by unfold oneI1; split <;> simp
theorem befY_succ (y : Int) : befY (y + 1) = befY y + yLen y := by
  unfold befY yLen oneI1 leapB
  by_cases h4 : y % 4 = 0 <;> by_cases h1 : y % 100 = 0 <;> by_cases h0 : y % 400 = 0 <;> simp [h4, h1, h0] <;> omega
theorem befY_400 (q : Int) : befY (1970 + q * 400) = befY 1970 + 146097 * q := by unfold befY; omega
theorem cumM_12 (y : Int) : cumM y 12 = yLen y := by
  unfold yLen
  simp only [cumM, lenM]
  simp
  omega
theorem lenM_pos (y m : Int) : 28 ≤ lenM y m ∧ lenM y m ≤ 31 := by
  have := leap_01 y
  unfold lenM
  split
  · omega
  · split <;> omega
theorem gen_worldC {P : Program} {c : Code} {Q : Exit → Act → World → Prop} {a : Act} {W : World} (Pr : World → Prop) (h : Pr W) (hk : ∀ W', Pr W' → Code.wp P c Q a W') : Code.wp P c Q a W := hk W h
theorem may_any {R : Ending → World → Prop} (n : Int) (w : World) (h0 : 0 ≤ n) (h1 : n ≤ 253402300799) (h : R (.returned (.bool true)) w) : Calls Tryz.prog 142 #[.int .i64 n] w R := by
  have H := Lib.hid h
  clear h
  go_enter Tryz.func142, Tryz.ntmps142
  go_wp2
  exact H.out
def dC (y m d h mi s wd : Int) : List Value := [.int .i64 y, .int .i64 m, .int .i64 d, .int .i64 h, .int .i64 mi, .int .i64 s, .int .i64 wd]
/-- The function's two structs. -/
structure CivS (w W : World) (g2 g6 : Nat) (y m d h mi s wd : Int) : Prop where
  kp : Kp [] w W
  hg : w.heap.size ≤ g2
  n6 : g2 < g6
  b2 : Bk W g2 180 (dC 0 0 0 0 0 0 0)
  b6 : Bk W g6 180 (dC y m d h mi s wd)
theorem CivS.setY {w W : World} {g2 g6 : Nat} {y m d h mi s wd : Int} (c : CivS w W g2 g6 y m d h mi s wd) (y' : Int) : CivS w (W.setCell ⟨g6, 0, none⟩ (.int .i64 y')) g2 g6 y' m d h mi s wd := by
  have h0 := c.hg; have h1 := c.n6
  exact ⟨c.kp.setCell (.inr (by simp; omega)) _, h0, h1, c.b2.far (by simp; omega) _, (c.b6.set_ 0 _).cast rfl⟩
theorem CivS.setM {w W : World} {g2 g6 : Nat} {y m d h mi s wd : Int} (c : CivS w W g2 g6 y m d h mi s wd) (m' : Int) : CivS w (W.setCell ⟨g6, 1, none⟩ (.int .i64 m')) g2 g6 y m' d h mi s wd := by
  have h0 := c.hg; have h1 := c.n6
  exact ⟨c.kp.setCell (.inr (by simp; omega)) _, h0, h1, c.b2.far (by simp; omega) _, (c.b6.set_ 1 _).cast rfl⟩
theorem CivS.setD {w W : World} {g2 g6 : Nat} {y m d h mi s wd : Int} (c : CivS w W g2 g6 y m d h mi s wd) (d' : Int) : CivS w (W.setCell ⟨g6, 2, none⟩ (.int .i64 d')) g2 g6 y m d' h mi s wd := by
  have h0 := c.hg; have h1 := c.n6
  exact ⟨c.kp.setCell (.inr (by simp; omega)) _, h0, h1, c.b2.far (by simp; omega) _, (c.b6.set_ 2 _).cast rfl⟩
theorem bk7 {w : World} {g tt : Nat} {a b c d e f k : Value} (h : Bk w g tt [a, b, c, d, e, f, k]) : (w.cell? ⟨g, 0, none⟩ = some a ∧ w.cell? ⟨g, 1, none⟩ = some b ∧ w.cell? ⟨g, 2, none⟩ = some c ∧ w.cell? ⟨g, 3, none⟩ = some d ∧ w.cell? ⟨g, 4, none⟩ = some e ∧ w.cell? ⟨g, 5, none⟩ = some f ∧ w.cell? ⟨g, 6, none⟩ = some k) ∧
    (w.frozen? ⟨g, 0, none⟩ = false ∧ w.frozen? ⟨g, 1, none⟩ = false ∧ w.frozen? ⟨g, 2, none⟩ = false ∧ w.frozen? ⟨g, 3, none⟩ = false ∧ w.frozen? ⟨g, 4, none⟩ = false ∧ w.frozen? ⟨g, 5, none⟩ = false ∧ w.frozen? ⟨g, 6, none⟩ = false) :=
  ⟨⟨h.cell 0, h.cell 1, h.cell 2, h.cell 3, h.cell 4, h.cell 5, h.cell 6⟩, h.frozen 0, h.frozen 1, h.frozen 2, h.frozen 3, h.frozen 4, h.frozen 5, h.frozen 6⟩
theorem CivS.fin {w W : World} {g2 g6 : Nat} {y m d h mi s wd : Int} (c : CivS w W g2 g6 y m d h mi s wd) :
    ∃ W', ((((((W.setCell ⟨g2, 0, none⟩ (.int .i64 y)).setCell ⟨g2, 1, none⟩ (.int .i64 m)).setCell ⟨g2, 2, none⟩ (.int .i64 d)).setCell ⟨g2, 3, none⟩ (.int .i64 h)).setCell ⟨g2, 4, none⟩ (.int .i64 mi)).setCell ⟨g2, 5, none⟩ (.int .i64 s)).setCell ⟨g2, 6, none⟩ (.int .i64 wd) = W' ∧ Kp [] w W' ∧ Bk W' g2 180 (dC y m d h mi s wd) := by
  have h0 := c.hg
  refine ⟨_, rfl, ((((((c.kp.setCell (.inr (by simp; omega)) _).setCell (.inr (by simp; omega)) _).setCell (.inr (by simp; omega)) _).setCell (.inr (by simp; omega)) _).setCell (.inr (by simp; omega)) _).setCell (.inr (by simp; omega)) _).setCell (.inr (by simp; omega)) _, ?_⟩
  exact (((((((c.b2.set_ 0 _).set_ 1 _).set_ 2 _).set_ 3 _).set_ 4 _).set_ 5 _).set_ 6 _).cast rfl
set_option maxHeartbeats 8000000 in
theorem cof_any {R : Ending → World → Prop} (n : Int) (w : World) (h0 : 0 ≤ n) (h1 : n ≤ 253402300799)
    (h : ∀ (Y : Int) (m : Nat) (d : Int), 1970 ≤ Y → Y ≤ 10400 → 1 ≤ m → m ≤ 12 → 0 ≤ d → d < lenM Y m → befY Y + cumM Y (m - 1) + d = befY 1970 + n / 86400 → ∀ w', Kp [] w w' →
      R (.returned (.tuple #[.agg #[.int .i64 Y, .int .i64 m, .int .i64 (d + 1), .int .i64 (n % 86400 / 3600), .int .i64 (n % 86400 / 60 % 60), .int .i64 (n % 60), .int .i64 ((n / 86400 + 4) % 7)], .int .i64 0])) w') :
    Calls Tryz.prog 115 #[.int .i64 n] w R := by
  have H := Lib.hid h
  clear h
  have q0 : 0 ≤ n / 86400 := by omega
  have q1 : n / 86400 ≤ 2932896 := by omega
  have r0 : 0 ≤ n % 86400 := by omega
  have r1 : n % 86400 < 86400 := by omega
  go_enter Tryz.func115, Tryz.ntmps115
  go_upto_region 5 with (go_at_call 142; (refine may_any n _ h0 h1 ?_))
  refine gen_worldC (fun W => CivS w W w.heap.size (w.heap.size + 1) 1970 1 0 (n % 86400 / 3600) (n % 86400 / 60 % 60) (n % 60) ((n / 86400 + 4) % 7)) ⟨((Kp.refl _ _).alloc _).alloc _, Nat.le_refl _, Nat.lt_succ_self _, ((Bk.new' _ _ _).alloc _).cast rfl, (Bk.newAt (by simp) _ _).cast rfl⟩ ?_
  intro W hs
  generalize n % 86400 / 3600 = hh at hs H ⊢
  generalize n % 86400 / 60 % 60 = mi at hs H ⊢
  have e6 : n % 86400 % 60 = n % 60 := by omega
  simp only [e6]
  clear e6
  generalize n % 60 = ss at hs H ⊢
  generalize (n / 86400 + 4) % 7 = wd at hs H ⊢
  generalize n / 86400 = dd at H q0 q1 ⊢
  generalize n % 86400 = sd at r0 r1 ⊢
  obtain ⟨g2, hg2⟩ : ∃ g2, w.heap.size = g2 := ⟨_, rfl⟩
  obtain ⟨g6, hg6⟩ : ∃ g6, w.heap.size + 1 = g6 := ⟨_, rfl⟩
  rw [hg6, hg2] at hs ⊢
  have hc0 := hs.b6.cell 0
  have hf0 := hs.b6.frozen 0
  simp only [dC, List.getElem?_cons_zero] at hc0
  have HS := Lib.hid hs
  clear hs hg2 hg6
  have hq : 0 ≤ dd / 146097 ∧ dd / 146097 ≤ 20 := by omega
  obtain ⟨qa, qb⟩ := hq
  have hr : 0 ≤ dd % 146097 ∧ dd % 146097 < 146097 := by omega
  obtain ⟨ra, rb⟩ := hr
  go_upto_region 6 with (fail)
  refine gen_worldC (fun W => Hid (CivS w W g2 g6 (1970 + dd / 146097 * 400) 1 0 hh mi ss wd)) (Lib.hid (HS.out.setY _)) ?_
  intro W2 HS2
  clear HS hc0 hf0
  have HB0 : Hid (befY (1970 + dd / 146097 * 400) + dd % 146097 = befY 1970 + dd) := Lib.hid (by rw [befY_400]; omega)
  have hy0 : 1970 ≤ 1970 + dd / 146097 * 400 := by omega
  have hy1 : 365 * (1970 + dd / 146097 * 400) + dd % 146097 ≤ 3796000 := by omega
  go_wp2
  go_loopw [4] (fun dv wr => ∃ (d y : Int), dv = .int .i64 d ∧ 0 ≤ d ∧ d ≤ 150000 ∧ 1970 ≤ y ∧ 365 * y + d ≤ 3796000 ∧ Hid (befY y + d = befY 1970 + dd) ∧ Hid (CivS w wr g2 g6 y 1 0 hh mi ss wd)) (fun dv _ => (intOf dv).toNat)
  case atStart => exact ⟨_, _, rfl, ra, by omega, hy0, hy1, HB0, HS2⟩
  case round =>
    obtain ⟨d, y, rfl, d0, d1, y0, y1, hB, hS⟩ := hrel
    clear hy0 hy1 ra rb qa qb
    have hc0 := hS.out.b6.cell 0
    have hf0 := hS.out.b6.frozen 0
    simp only [dC, List.getElem?_cons_zero] at hc0
    have hlo := leap_01 y
    obtain ⟨o, ho⟩ : ∃ o, oneI1 (leapB y) = o := ⟨_, rfl⟩
    have HYL : Hid (yLen y = 365 + o) := Lib.hid (by unfold yLen; rw [ho])
    have HOne : Hid (∀ (R : Ending → World → Prop) (w1 : World), R (.returned (.int .i64 o)) w1 → Calls Tryz.prog 143 #[.bool (leapB y)] w1 R) := Lib.hid (fun R w1 h => one_any _ w1 (by rw [ho]; exact h))
    rw [ho] at hlo
    have o0 : 0 ≤ o := by omega
    have o1 : o ≤ 1 := by omega
    clear hlo ho
    by_cases hge : 365 + o ≤ d
    · have HS3 := Lib.hid (hS.out.setY (y + 1))
      have HB3 : Hid (befY (y + 1) + (d - (365 + o)) = befY 1970 + dd) := Lib.hid (by rw [befY_succ, HYL.out]; have := hB.out; omega)
      go_wp2_with (first | (go_at_call 144; (refine leap_any y _ (by omega) (by omega) ?_)) | (go_at_call 143; (refine HOne.out _ _ ?_)))
      refine ⟨?_, by simp [intOf]; omega⟩
      exact ⟨d - (365 + o), y + 1, rfl, by omega, by omega, by omega, by omega, HB3, HS3⟩
    · have HD : Hid (d < yLen y) := Lib.hid (by rw [HYL.out]; omega)
      go_wp2_with (first | (go_at_call 144; (refine leap_any y _ (by omega) (by omega) ?_)) | (go_at_call 143; (refine HOne.out _ _ ?_)))
      clear hc0 hf0 hge
      go_loopw [4] (fun dv wr => ∃ (e : Int) (m : Nat), dv = .int .i64 e ∧ 0 ≤ e ∧ e ≤ 400 ∧ 1 ≤ m ∧ m ≤ 12 ∧ Hid (cumM y (m - 1) + e = d) ∧ Hid (CivS w wr g2 g6 y m 0 hh mi ss wd)) (fun dv _ => (intOf dv).toNat)
      case atStart => exact ⟨d, 1, rfl, d0, by have := HD.out; rw [HYL.out] at this; omega, by omega, by omega, Lib.hid (by simp [cumM]), hS⟩
      case round =>
        obtain ⟨e, m, rfl, e0, e1, m0, m1, hM, hS4⟩ := hrel
        have hc0 := hS4.out.b6.cell 0
        have hc1 := hS4.out.b6.cell 1
        have hf1 := hS4.out.b6.frozen 1
        have hf2 := hS4.out.b6.frozen 2
        have hc2 := hS4.out.b6.cell 2
        simp only [dC, List.getElem?_cons_zero, List.getElem?_cons_succ] at hc0 hc1 hc2
        have hlp := lenM_pos y m
        obtain ⟨L, hL⟩ : ∃ L, lenM y m = L := ⟨_, rfl⟩
        have HLc : Hid (∀ (R : Ending → World → Prop) (w1 : World), R (.returned (.int .i64 L)) w1 → Calls Tryz.prog 145 #[.int .i64 y, .int .i64 m] w1 R) := Lib.hid (fun R w1 h => length_any y m w1 (by omega) (by omega) (by omega) (by omega) (by rw [hL]; exact h))
        have HLL := Lib.hid hL
        rw [hL] at hlp
        obtain ⟨l0, l1⟩ := hlp
        have HCS : Hid (cumM y m = cumM y (m - 1) + L) := Lib.hid (by
          obtain ⟨j, rfl⟩ : ∃ j, m = j + 1 := ⟨m - 1, by omega⟩
          rw [← hL]; simp [cumM])
        clear hL
        by_cases hge : L ≤ e
        · have hm12 : m < 12 := by
            rcases Nat.lt_or_ge m 12 with h | h
            · exact h
            · exfalso
              have : m = 12 := by omega
              subst this
              have h1 := HCS.out
              rw [cumM_12] at h1
              have h2 := hM.out
              have h3 := HD.out
              omega
          have HS5 := Lib.hid (hS4.out.setM ((m : Int) + 1))
          have HM5 : Hid (cumM y (m + 1 - 1) + (e - L) = d) := Lib.hid (by
            rw [Nat.add_sub_cancel, HCS.out]; have := hM.out; omega)
          go_wp2_with (go_at_call 145; (refine HLc.out _ _ ?_))
          refine ⟨?_, by simp [intOf]; omega⟩
          exact ⟨e - L, m + 1, rfl, by omega, by omega, by omega, by omega, HM5, HS5⟩
        · have HF := Lib.hid (hS4.out.setD (e + 1))
          go_upto_region 14 with (go_at_call 145; (refine HLc.out _ _ ?_))
          refine gen_worldC (fun W => Hid (CivS w W g2 g6 y m (e + 1) hh mi ss wd)) HF ?_
          intro W5 HS5
          obtain ⟨⟨p0, p1, p2, p3, p4, p5, p6⟩, _⟩ := bk7 HS5.out.b6
          obtain ⟨⟨z0, z1, z2, z3, z4, z5, z6⟩, ⟨f0, f1, f2, f3, f4, f5, f6⟩⟩ := bk7 HS5.out.b2
          have hne : g2 ≠ g6 := by have := HS5.out.n6; omega
          clear hc0 hc1 hc2 hf1 hf2
          go_wp2
          obtain ⟨W6, hW6, k6, b6⟩ := HS5.out.fin
          obtain ⟨⟨x0, x1, x2, x3, x4, x5, x6⟩, _⟩ := bk7 b6
          rw [hW6]
          have hBB := hB.out
          have hMM := hM.out
          exact bodyPost_ret (v := .tuple #[.agg #[.int .i64 y, .int .i64 m, .int .i64 (e + 1), .int .i64 hh, .int .i64 mi, .int .i64 ss, .int .i64 wd], .int .i64 0]) (by simp [results, Tryz.results115, go_sem, x0, x1, x2, x3, x4, x5, x6]) rfl (H.out y m e y0 (by omega) m0 m1 e0 (by rw [HLL.out]; omega) (by omega) W6 k6)
end
/-! ### pantlerref25.Digits at numbers that are not below 0. -/
section
open Go.RowKit Go.Shelf
set_option linter.unusedVariables false
set_option linter.unusedSimpArgs false
set_option maxRecDepth 100000
set_option maxHeartbeats 1000000 in
theorem rdigits_any {R : Ending → World → Prop} (N : Nat) (w : World) (hN : N ≤ 9223372036854775807) (h : ∀ w', Kp [] w w' → R (.returned (.string (S (decL N)))) w') : Calls Tryz.prog 14 #[.int .i64 N] w R := by
  have H := Lib.hid h
  clear h
  go_enter Tryz.func14, Tryz.ntmps14
  go_wp2
  go_loopw [0, 3] (fun nv s wr => ∃ (k : Nat) (q : List UInt8), nv = .int .i64 k ∧ s = .string (S q) ∧ k ≤ N ∧ Hid (decL N = decL k ++ q) ∧ Kp [] w wr) (fun nv _ _ => (intOf nv).toNat)
  case atStart => exact ⟨N, [], rfl, rfl, Nat.le_refl _, Lib.hid (by simp), Kp.refl _ _⟩
  case round =>
    obtain ⟨k, q, rfl, rfl, hk, hq, kr⟩ := hrel
    obtain ⟨c, hc⟩ : ∃ c : UInt8, c = UInt8.ofNat (48 + k % 10) := ⟨_, rfl⟩
    have hcn : c.toNat = 48 + k % 10 := by rw [hc, UInt8.toNat_ofNat']; omega
    have hE : 48 + (k : Int) % 10 = (c.toNat : Int) := by omega
    have hcl := c.toNat_lt
    have hcv : (convert 52 9 (.slice (some ⟨wr.heap.size, 0, none⟩) 1 1)).run Tryz.prog (wr.alloc (.cells #[.int .u8 c.toNat] 5)) = .ok (.string (S [c])) (wr.alloc (.cells #[.int .u8 c.toNat] 5)) :=
      conv_bs (N := []) (l := [c]) (Rd.of_bk (Bk.newAt rfl _ _) (by simp)) rfl
    have hql : q.length ≤ 20 := by
      have h1 := decL_len20 hN
      have h2 := congrArg List.length hq.out
      rw [List.length_append] at h2
      omega
    by_cases h10 : 10 ≤ k
    · have HQ : Hid (decL N = decL (k / 10) ++ (c :: q)) := Lib.hid (by rw [hq.out, decL_big (by omega), hc, List.append_assoc]; rfl)
      clear hc hcn hq
      go_wp2
      exact ⟨⟨k / 10, c :: q, congrArg (Value.int .i64) (by omega), rfl, by omega, HQ, kr.alloc _⟩, by simp [intOf]; omega⟩
    · have HQ : Hid (decL N = c :: q) := Lib.hid (by rw [hq.out, decL_small (by omega), hc, show k % 10 = k by omega]; rfl)
      clear hc hcn hq
      have k2 := kr.alloc (.cells #[.int .u8 (c.toNat : Int)] 5)
      go_wp2
      exact rcast (H.out _ k2) (congrArg (fun l => Value.string (S l)) HQ.out)
end
/-! ### How a span is told: ranges.Content, None; the document's. -/
section
open Go.RowKit Go.Shelf
set_option linter.unusedVariables false
set_option linter.unusedSimpArgs false
set_option maxRecDepth 100000

def itoaL (v : Int) : List UInt8 := Lib.itoa v
theorem itoaL_nat (n : Nat) : itoaL n = decL n := by unfold itoaL Lib.itoa decL; rw [if_neg (by omega), Int.toNat_natCast]
theorem itoaL_neg (n : Nat) (h : 0 < n) : itoaL (-(n : Int)) = 45 :: decL n := by unfold itoaL Lib.itoa decL; rw [if_pos (by omega)]; simp
theorem itoaL_len (v : Int) (h0 : -9223372036854775807 ≤ v) (h1 : v ≤ 9223372036854775807) : (itoaL v).length ≤ 21 := by
  by_cases h : 0 ≤ v
  · obtain ⟨n, rfl⟩ : ∃ n : Nat, v = n := ⟨v.toNat, by omega⟩
    rw [itoaL_nat]; have := decL_len20 (n := n) (by omega); omega
  · obtain ⟨n, rfl⟩ : ∃ n : Nat, v = -(n : Int) := ⟨(-v).toNat, by omega⟩
    rw [itoaL_neg n (by omega)]; have := decL_len20 (n := n) (by omega); simp; omega
theorem itoa_all {R : Ending → World → Prop} (v : Int) (w : World) (h0 : -9223372036854775808 ≤ v) (h1 : v ≤ 9223372036854775807) (hw : Lw w) (h : ∀ w', Kp [] w w' → R (.returned (.string (S (itoaL v)))) w') : Calls Tryz.prog 77 #[.int .i64 v] w R := by
  refine (Tryz.strconv_Itoa v h0 h1 w hw.pw).mono fun e w' ⟨he, k, os, hw'⟩ => ?_
  subst he; subst hw'
  exact h _ (((Kp.refl _ _).drewN _).grow _)
theorem rdigits_sgn {R : Ending → World → Prop} (v : Int) (w : World) (h0 : -9223372036854775807 ≤ v) (h1 : v ≤ 9223372036854775807) (h : ∀ w', Kp [] w w' → R (.returned (.string (S (itoaL v)))) w') : Calls Tryz.prog 14 #[.int .i64 v] w R := by
  by_cases hv : 0 ≤ v
  · obtain ⟨n, rfl⟩ : ∃ n : Nat, v = n := ⟨v.toNat, by omega⟩
    rw [itoaL_nat] at h
    exact rdigits_any n w (by omega) h
  · obtain ⟨n, rfl⟩ : ∃ n : Nat, v = -(n : Int) := ⟨(-v).toNat, by omega⟩
    rw [itoaL_neg n (by omega)] at h
    have hn : 0 < n := by omega
    have hn2 : n ≤ 9223372036854775807 := by omega
    have hl := decL_len20 hn2
    have H := Lib.hid h
    clear h
    go_enter Tryz.func14, Tryz.ntmps14
    go_wp2_with (go_at_call 14; ((refine rdigits_any n _ hn2 ?_); intro w1 k1))
    exact H.out _ k1
theorem wrap_ok {v : Int} (h0 : -9223372036854775808 ≤ v) (h1 : v ≤ 9223372036854775807) : IntKind.i64.wrap v = v := by
  first | (simp only [IntKind.wrap, wrap64]; omega) | (simp [IntKind.wrap, IntKind.signed, IntKind.bits]; omega) | (unfold IntKind.wrap; simp; omega)
def contL (f l n : Int) : List UInt8 := 98 :: 121 :: 116 :: 101 :: 115 :: 32 :: (itoaL f ++ 45 :: (itoaL (f + l - 1) ++ 47 :: itoaL n))
theorem content_any {R : Ending → World → Prop} (f l n : Int) (w : World) (hf : 0 ≤ f ∧ f ≤ 35184372088832) (hl : 0 ≤ l ∧ l ≤ 35184372088832) (hn : 0 ≤ n ∧ n ≤ 35184372088832) (hw : Lw w)
    (h : ∀ w', Kp [] w w' → R (.returned (.string (S (contL f l n)))) w') : Calls Tryz.prog 81 #[.agg #[.int .i64 f, .int .i64 l], .int .i64 n] w R := by
  have H := Lib.hid h
  obtain ⟨f1, f2⟩ := hf
  obtain ⟨l1, l2⟩ := hl
  obtain ⟨n1, n2⟩ := hn
  have e1 := itoaL_len f (by omega) (by omega)
  have e2 := itoaL_len (f + l - 1) (by omega) (by omega)
  have e3 := itoaL_len n (by omega) (by omega)
  clear h
  have w1 : IntKind.i64.wrap (f + l) = f + l := wrap_ok (by omega) (by omega)
  have w2 : IntKind.i64.wrap (f + l - 1) = f + l - 1 := wrap_ok (by omega) (by omega)
  have HW := Lib.hid (fun o => hw.kp ((Kp.refl [] w).alloc o))
  go_enter Tryz.func81, Tryz.ntmps81
  go_wp2_with fail
  refine wp_region_kp (by kernel_rfl) (by kernel_rfl) ?_
  repeat (quiet_step (first | (go_at_call 77; ((refine itoa_all _ _ (by omega) (by omega) ((HW.out _).kp (kpw_kp _ _)) ?_); intro w' k'; exact kpx_mk k')) | (rw [if_neg (by simp only [List.length_append, List.length_cons, List.length_nil]; omega)]; exact ⟨rfl, rfl⟩) | (rw [if_neg (by omega)]; exact ⟨rfl, rfl⟩)))
  refine wpQuiet_nil ?_
  intro w6 k6
  go_wp2
  exact H.out _ (((Kp.refl _ _).alloc _).trans k6)
end
end Go.Proofs.YtnmafahbdfilcaaGreatDoor
