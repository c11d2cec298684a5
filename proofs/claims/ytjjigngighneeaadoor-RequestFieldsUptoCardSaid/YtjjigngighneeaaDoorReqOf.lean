/- Package pantlerlaw24: a request as the other's. -/
import Derived.Test.YtjjigngighneeaaDoorReqE
import Derived.BigRegion
import Derived.Test.YtjjigngighneeaaDoorReqG
namespace Go.Proofs.YtjjigngighneeaaDoor
open Go.RowKit Go.Shelf
set_option linter.unusedVariables false
set_option linter.unusedSimpArgs false
set_option maxRecDepth 100000

theorem step_app {P : Program} {ops : Array Oper} {o : Oper} {a : Act} {w : World} {K : Act → World → Prop} {Q : Exit → Act → World → Prop} {E : Prop} (hg : o.guard = none) (s x : Operand) (t : Nat)
    (ho : o.op = .call { callee := .builtin .append, args := #[s, x], argTypes := #[t, t] })
    {e : Nat} {z : Value} {sz by_ : Nat} (hE : Elt P t e z sz by_) (A : Option Addr) (n c : Nat) (xs : List Value) (hs : a.eval s = .slice A n c) (hown : Ow w e sz A n c xs)
    (N : List Nat) (A2 : Option Addr) (m c2 : Nat) (news : List Value) (hx : a.eval x = .slice A2 m c2) (hr : Rd w N A2 news) (hl : news.length = m * sz) (h1 : ∀ u ∈ news, u.oneCell' = true) (hb : n + m ≤ 4294967296)
    (h : ∀ A' c' w', Ow w' e sz A' (n + m) c' (xs ++ news) → Kp (bks A) w w' → (A' = A ∨ A' = some ⟨w.heap.size, 0, none⟩) → K (a.put o.dst (.slice A' (n + m) c')) w') :
    if Region.wanted o (yielded ops a.tmps) = true then Oper.wp P o a w K Q else E := by
  have hw : Region.wanted o (yielded ops a.tmps) = true := by simp [Region.wanted, hg]
  rw [if_pos hw]
  exact wp_app w s x t ho hE A n c xs hs hown N A2 m c2 news hx hr hl h1 hb h
/-- What is made: the result's struct, and the one that grows. -/
structure OfT (T FT : Nat) (w W : World) (g2 g4 : Nat) (r : Req) (A : Option Addr) (c : Nat) : Prop where
  kp : Kp [] w W
  hg : w.heap.size ≤ g2
  n4 : g2 < g4
  b2 : Bk W g2 T zeroC
  b4 : Bk W g4 T (reqC r A c)
  own : Ow W FT 2 A r.fs.length c (r.fs.flatMap fldC)
  fresh : ∀ b ∈ bks A, g4 < b
section
variable {T FT : Nat} {w W w3 : World} {g2 g4 : Nat} {r : Req} {A A3 : Option Addr} {c c3 : Nat}
theorem OfT.app (h : OfT T FT w W g2 g4 r A c) (o : Obj) (x : Fd) (ho : Ow w3 FT 2 A3 (r.fs.length + 1) c3 (r.fs.flatMap fldC ++ fldC x)) (hk : Kp (bks A) (W.alloc o) w3) (hA : A3 = A ∨ A3 = some ⟨(W.alloc o).heap.size, 0, none⟩) :
    (w3.cell? ⟨g4, 3, none⟩ = some (.slice A r.fs.length c) ∧ w3.frozen? ⟨g4, 3, none⟩ = false) ∧ OfT T FT w (w3.setCell ⟨g4, 3, none⟩ (.slice A3 (r.fs.length + 1) c3)) g2 g4 { r with fs := r.fs ++ [x] } A3 c3 := by
  have g0 := h.hg; have g1 := h.n4
  have n4 : g4 ∉ bks A := fun hm => by have := h.fresh _ hm; omega
  have n2 : g2 ∉ bks A := fun hm => by have := h.fresh _ hm; omega
  have b4 := (h.b4.alloc o).kp hk n4
  have b2 := (h.b2.alloc o).kp hk n2
  have h4 := h.b4.lt
  have hf : ∀ b ∈ bks A3, g4 < b := by
    rcases hA with rfl | rfl
    · exact h.fresh
    · intro b hb; simp [bks] at hb; omega
  have k : Kp [g4] w3 (w3.setCell ⟨g4, 3, none⟩ (.slice A3 (r.fs.length + 1) c3)) := (Kp.refl _ _).setCell (.inl (by simp)) _
  refine ⟨⟨b4.cell 3, b4.frozen 3⟩, ((h.kp.alloc o).thn hk (fun s hs => .inr (by have := h.fresh s hs; omega))).setCell (.inr (by simp; omega)) _, h.hg, h.n4, b2.kp k (by simp; omega), ((b4.set_ 3 _).cast ?_), (ho.kp k (fun b hb => by have := hf b hb; simp; omega)).cast (by simp) (by simp), hf⟩
  simp [reqC]
theorem OfT.fin (h : OfT T FT w W g2 g4 r A c) :
    ∃ W', ((((W.setCell ⟨g2, 0, none⟩ (.string (S r.m))).setCell ⟨g2, 1, none⟩ (.string (S r.t))).setCell ⟨g2, 2, none⟩ (.int .i64 r.minor)).setCell ⟨g2, 3, none⟩ (.slice A r.fs.length c)).setCell ⟨g2, 4, none⟩ (.bool r.close) = W' ∧ Kp [] w W' ∧ Rd W' [] A (r.fs.flatMap fldC) ∧ (∀ x ∈ bks A, w.heap.size ≤ x) ∧ r.fs.length ≤ c ∧
      (W'.cell? ⟨g2, 0, none⟩ = some (.string (S r.m)) ∧ W'.cell? ⟨g2, 1, none⟩ = some (.string (S r.t)) ∧ W'.cell? ⟨g2, 2, none⟩ = some (.int .i64 r.minor) ∧ W'.cell? ⟨g2, 3, none⟩ = some (.slice A r.fs.length c) ∧ W'.cell? ⟨g2, 4, none⟩ = some (.bool r.close)) := by
  have h0 := h.hg; have h2 := h.n4
  have kk : Kp [g2] W (((((W.setCell ⟨g2, 0, none⟩ (.string (S r.m))).setCell ⟨g2, 1, none⟩ (.string (S r.t))).setCell ⟨g2, 2, none⟩ (.int .i64 r.minor)).setCell ⟨g2, 3, none⟩ (.slice A r.fs.length c)).setCell ⟨g2, 4, none⟩ (.bool r.close)) :=
    (((((Kp.refl _ _).setCell (.inl (by simp)) _).setCell (.inl (by simp)) _).setCell (.inl (by simp)) _).setCell (.inl (by simp)) _).setCell (.inl (by simp)) _
  have hb := (((((h.b2.set_ 0 (.string (S r.m))).set_ 1 (.string (S r.t))).set_ 2 (.int .i64 r.minor)).set_ 3 (.slice A r.fs.length c)).set_ 4 (.bool r.close)).cast (cs' := reqC r A c) rfl
  have ho := h.own.kp kk (fun b hb => by have := h.fresh b hb; simp; omega)
  exact ⟨_, rfl, h.kp.thn kk (fun s hs => .inr (by simp at hs; omega)), ho.rd (by simp), fun x hx => by have := h.fresh x hx; omega, h.own.ncap, hb.cell 0, hb.cell 1, hb.cell 2, hb.cell 3, hb.cell 4⟩
theorem OfT.drew (h : OfT T FT w W g2 g4 r A c) : OfT T FT w W.drew g2 g4 r A c := ⟨h.kp.drew, h.hg, h.n4, h.b2, h.b4, h.own, h.fresh⟩
end
theorem elt_rfd : Elt Tryd.prog 35 51 (.agg #[.string ByteArray.empty, .string ByteArray.empty]) 2 32 := ⟨Tryd.underlying35, by kernel_rfl, rfl, by decide, by decide⟩
theorem rfd_rd {w : World} {g : Nat} (hg : g = w.heap.size) {a b : List UInt8} : Rd (w.alloc (.cells #[.string (S a), .string (S b)] 51)) [] (some ⟨g, 0, none⟩) (fldC (a, b)) := Rd.of_bk (Bk.newAt hg _ _) (by simp)
theorem fs_take {r : Req} {k : Nat} {x : Fd} (hx : r.fs[k]? = some x) : r.fs.take (k + 1) = r.fs.take k ++ [x] := by
  have hk : k < r.fs.length := (List.getElem?_eq_some_iff.1 hx).1
  rw [List.take_succ_eq_append_getElem hk, (List.getElem?_eq_some_iff.1 hx).2]
set_option maxHeartbeats 4000000 in
theorem of24_any {R : Ending → World → Prop} (r : Req) {A : Option Addr} {c : Nat} (w : World) (hr : Rd w [] A (r.fs.flatMap fldC)) (hn : r.fs.length ≤ 100000)
    (h : ∀ A' c' w', Kp [] w w' → Rd w' [] A' (r.fs.flatMap fldC) → (∀ b ∈ bks A', w.heap.size ≤ b) → r.fs.length ≤ c' → R (.returned (.agg #[.string (S r.m), .string (S r.t), .int .i64 r.minor, .slice A' r.fs.length c', .bool r.close])) w') :
    Calls Tryd.prog 14 #[.agg #[.string (S r.m), .string (S r.t), .int .i64 r.minor, .slice A r.fs.length c, .bool r.close]] w R := by
  have H := Lib.hid h
  have HR := Lib.hid hr
  clear h hr
  go_enter Tryd.func14, Tryd.ntmps14
  go_upto_region 2 with (fail)
  refine gen_world (fun W => OfT 41 77 w W (w.heap.size + 1) (w.heap.size + 2) { r with fs := [] } none 0 ∧ Bk W w.heap.size 37 (reqC r A c)) ?_ ?_
  · exact ⟨⟨(((Kp.refl _ _).alloc _).alloc _).alloc _, by omega, by omega, ((Bk.newAt (by simp) _ _).alloc _).cast rfl, (Bk.newAt (by simp) _ _).cast rfl, Ow.nil, by simp [bks]⟩, (((Bk.new' _ _ _).alloc _).alloc _).cast rfl⟩
  rintro W ⟨hs, h1⟩
  obtain ⟨g1, hg1⟩ : ∃ g1, w.heap.size = g1 := ⟨_, rfl⟩
  obtain ⟨g2, hg2⟩ : ∃ g2, w.heap.size + 1 = g2 := ⟨_, rfl⟩
  obtain ⟨g4, hg4⟩ : ∃ g4, w.heap.size + 2 = g4 := ⟨_, rfl⟩
  rw [hg1] at h1
  rw [hg4, hg2] at hs ⊢
  rw [hg1]
  have HS := Lib.hid hs
  have H1 := Lib.hid h1
  have hlt1 : g1 < g2 := by omega
  have hlt2 : g2 < g4 := by omega
  clear hg1 hg2 hg4 hs h1
  go_wp2
  go_loopw [4] (fun iv wr => ∃ (k : Nat) (A2 : Option Addr) (c2 : Nat) (fs : List Fd), k ≤ r.fs.length ∧ iv = .int .i64 k ∧ Hid (r.fs.take k = fs) ∧ Hid (fs.length = k) ∧ Hid (OfT 41 77 w wr g2 g4 { r with fs := fs } A2 c2) ∧ Hid (Bk wr g1 37 (reqC r A c))) (fun iv _ => r.fs.length - (intOf iv).toNat)
  case atStart => exact ⟨0, none, 0, [], Nat.zero_le _, rfl, Lib.hid rfl, Lib.hid rfl, HS, H1⟩
  case round =>
    obtain ⟨k, A2, c2, fs, hk, rfl, htk, hfl, hS, hB⟩ := hrel
    have hfl2 : fs.length ≤ 100000 := by have := hfl.out; omega
    have a3 := hB.out.cell 3
    simp only [reqC, List.getElem?_cons_zero, List.getElem?_cons_succ] at a3
    by_cases hlt : k < r.fs.length
    · obtain ⟨x, hx⟩ : ∃ x, r.fs[k]? = some x := ⟨_, List.getElem?_eq_getElem hlt⟩
      obtain ⟨b, off, rfl, _, hgl, hc⟩ := rd_at (HR.out.kp hS.out.kp (by simp)) fldC_len (by decide) hx
      have hc0 := hc 0 _ rfl
      have hc1 := hc 1 _ rfl
      rw [Nat.add_zero] at hc0
      have b3 := hS.out.b4.cell 3
      simp only [reqC, List.getElem?_cons_zero, List.getElem?_cons_succ] at b3
      have b3a := fun o => (hS.out.b4.alloc o).cell 3
      simp only [reqC, List.getElem?_cons_zero, List.getElem?_cons_succ] at b3a
      have HX := Lib.hid hx
      clear hc hx
      go_wp2
      go_region_law (refine step_app rfl (.tmp 22) (.tmp 28) _ rfl elt_fd A2 fs.length c2 _ (by simp [Act.eval, Act.put]) (hS.out.drew.own.alloc _) [] (some ⟨wr.heap.size, 0, none⟩) 1 1 (fldC x) (by simp [Act.eval, Act.put]) (fd_rd rfl) rfl (fd_one _) (by omega) ?_; intro A3 c3 w5 ho5 hk5 hA5; obtain ⟨⟨qn, en⟩, hs5⟩ := hS.out.drew.app _ x ho5 hk5 hA5)
      all_goals
        have H5 := Lib.hid hs5
        have hB5 := (((hB.out.drew).alloc (.cells #[.string (S x.1), .string (S x.2)] 77)).kp hk5 (fun hm => by have := hS.out.fresh _ hm; omega)).kp (Kp.setCell (Kp.refl [g4] w5) (.inl (by simp)) (.slice A3 (fs.length + 1) c3) (p := ⟨g4, 3, none⟩)) (by simp; omega)
        have HB5 := Lib.hid hB5
        clear hs5 hB5
        go_wp2
        exact ⟨⟨k + 1, A3, c3, fs ++ [x], by omega, by go_num, Lib.hid (by rw [fs_take HX.out, htk.out]), Lib.hid (by simp [hfl.out]), H5, HB5⟩, by simp [intOf]; omega⟩
    · obtain rfl : k = r.fs.length := by omega
      have e : fs = r.fs := by rw [← htk.out, List.take_length]
      subst e
      obtain ⟨⟨q0, q1, q2, q3, q4⟩, ⟨e0, e1, e2, e3, e4⟩⟩ := bk5 hS.out.b2
      obtain ⟨⟨p0, p1, p2, p3, p4⟩, _⟩ := bk5 hS.out.b4
      have hne : g2 ≠ g4 := by omega
      go_wp2
      obtain ⟨W4, hW4, k4, rd4, fr4, nc4, z0, z1, z2, z3, z4⟩ := hS.out.fin
      rw [hW4]
      exact bodyPost_ret (v := .agg #[.string (S r.m), .string (S r.t), .int .i64 r.minor, .slice A2 r.fs.length c2, .bool r.close]) (by simp [results, Tryd.results14, go_sem, z0, z1, z2, z3, z4]) rfl (H.out A2 c2 W4 k4 rd4 fr4 nc4)
end Go.Proofs.YtjjigngighneeaaDoor
