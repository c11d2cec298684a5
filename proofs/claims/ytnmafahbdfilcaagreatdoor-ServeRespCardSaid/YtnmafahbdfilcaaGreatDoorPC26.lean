/- Package pantlerlaw24: a request as the other's. The document's answers on fields: Get, All, Same. pantlerlaw27: far, Count, the chapter's example. The walks of package path's small functions. path.Name. path.Target, path.Kind. -/
import Derived.Test.YtnmafahbdfilcaaGreatDoorPC17
import Derived.BigRegion
import Derived.Test.YtnmafahbdfilcaaGreatDoorPC18
import Derived.Test.YtnmafahbdfilcaaGreatDoorPC7
import Derived.Test.YtnmafahbdfilcaaGreatDoorPC24
import Derived.Test.YtnmafahbdfilcaaGreatDoorPC1
import Derived.Test.YtnmafahbdfilcaaGreatDoorPC2
namespace Go.Proofs.YtnmafahbdfilcaaGreatDoor
/-! ### Package pantlerlaw24: a request as the other's. -/
section
open Go.RowKit Go.Shelf
set_option linter.unusedVariables false
set_option linter.unusedSimpArgs false
set_option maxRecDepth 100000

/-- What is made: the result's struct, and the one that grows. -/
structure OfT (T FT : Nat) (w W : World) (g2 g4 : Nat) (r : Req) (A : Option Addr) (c : Nat) : Prop where
  kp : Kp [] w W
  hg : w.heap.size ≤ g2
  n4 : g2 < g4
  b2 : Bk W g2 T zeroC
  b4 : Bk W g4 T (reqC r A c)
  own : Ow W FT 2 A r.fs.length c (r.fs.flatMap fldC)
  fresh : ∀ b ∈ bks A, g4 < b
section
variable {T FT : Nat} {w W w3 : World} {g2 g4 : Nat} {r : Req} {A A3 : Option Addr} {c c3 : Nat}
theorem OfT.app (h : OfT T FT w W g2 g4 r A c) (o : Obj) (x : Fd) (ho : Ow w3 FT 2 A3 (r.fs.length + 1) c3 (r.fs.flatMap fldC ++ fldC x)) (hk : Kp (bks A) (W.alloc o) w3) (hA : A3 = A ∨ A3 = some ⟨(W.alloc o).heap.size, 0, none⟩) :
    (w3.cell? ⟨g4, 3, none⟩ = some (.slice A r.fs.length c) ∧ w3.frozen? ⟨g4, 3, none⟩ = false) ∧ OfT T FT w (w3.setCell ⟨g4, 3, none⟩ (.slice A3 (r.fs.length + 1) c3)) g2 g4 { r with fs := r.fs ++ [x] } A3 c3 := by
  have g0 := h.hg; have g1 := h.n4
  have n4 : g4 ∉ bks A := fun hm => by have := h.fresh _ hm; omega
  have n2 : g2 ∉ bks A := fun hm => by have := h.fresh _ hm; omega
  have b4 := (h.b4.alloc o).kp hk n4
  have b2 := (h.b2.alloc o).kp hk n2
  have h4 := h.b4.lt
  have hf : ∀ b ∈ bks A3, g4 < b := by
    rcases hA with rfl | rfl
    · exact h.fresh
    · intro b hb; simp [bks] at hb; omega
  have k : Kp [g4] w3 (w3.setCell ⟨g4, 3, none⟩ (.slice A3 (r.fs.length + 1) c3)) := (Kp.refl _ _).setCell (.inl (by simp)) _
  refine ⟨⟨b4.cell 3, b4.frozen 3⟩, ((h.kp.alloc o).thn hk (fun s hs => .inr (by have := h.fresh s hs; omega))).setCell (.inr (by simp; omega)) _, h.hg, h.n4, b2.kp k (by simp; omega), ((b4.set_ 3 _).cast ?_), (ho.kp k (fun b hb => by have := hf b hb; simp; omega)).cast (by simp) (by simp), hf⟩
  simp [reqC]
theorem OfT.fin (h : OfT T FT w W g2 g4 r A c) :
    ∃ W', ((((W.setCell ⟨g2, 0, none⟩ (.string (S r.m))).setCell ⟨g2, 1, none⟩ (.string (S r.t))).setCell ⟨g2, 2, none⟩ (.int .i64 r.minor)).setCell ⟨g2, 3, none⟩ (.slice A r.fs.length c)).setCell ⟨g2, 4, none⟩ (.bool r.close) = W' ∧ Kp [] w W' ∧ Rd W' [] A (r.fs.flatMap fldC) ∧ (∀ x ∈ bks A, w.heap.size ≤ x) ∧ r.fs.length ≤ c ∧
      (W'.cell? ⟨g2, 0, none⟩ = some (.string (S r.m)) ∧ W'.cell? ⟨g2, 1, none⟩ = some (.string (S r.t)) ∧ W'.cell? ⟨g2, 2, none⟩ = some (.int .i64 r.minor) ∧ W'.cell? ⟨g2, 3, none⟩ = some (.slice A r.fs.length c) ∧ W'.cell? ⟨g2, 4, none⟩ = some (.bool r.close)) := by
  have h0 := h.hg; have h2 := h.n4
  have kk : Kp [g2] W (((((W.setCell ⟨g2, 0, none⟩ (.string (S r.m))).setCell ⟨g2, 1, none⟩ (.string (S r.t))).setCell ⟨g2, 2, none⟩ (.int .i64 r.minor)).setCell ⟨g2, 3, none⟩ (.slice A r.fs.length c)).setCell ⟨g2, 4, none⟩ (.bool r.close)) :=
    (((((Kp.refl _ _).setCell (.inl (by simp)) _).setCell (.inl (by simp)) _).setCell (.inl (by simp)) _).setCell (.inl (by simp)) _).setCell (.inl (by simp)) _
  have hb := (((((h.b2.set_ 0 (.string (S r.m))).set_ 1 (.string (S r.t))).set_ 2 (.int .i64 r.minor)).set_ 3 (.slice A r.fs.length c)).set_ 4 (.bool r.close)).cast (cs' := reqC r A c) rfl
  have ho := h.own.kp kk (fun b hb => by have := h.fresh b hb; simp; omega)
  exact ⟨_, rfl, h.kp.thn kk (fun s hs => .inr (by simp at hs; omega)), ho.rd (by simp), fun x hx => by have := h.fresh x hx; omega, h.own.ncap, hb.cell 0, hb.cell 1, hb.cell 2, hb.cell 3, hb.cell 4⟩
theorem OfT.drew (h : OfT T FT w W g2 g4 r A c) : OfT T FT w W.drew g2 g4 r A c := ⟨h.kp.drew, h.hg, h.n4, h.b2, h.b4, h.own, h.fresh⟩
end
theorem elt_rfd : Elt Tryz.prog 22 80 (.agg #[.string ByteArray.empty, .string ByteArray.empty]) 2 32 := ⟨Tryz.underlying22, by kernel_rfl, rfl, by decide, by decide⟩
theorem rfd_rd {w : World} {g : Nat} (hg : g = w.heap.size) {a b : List UInt8} : Rd (w.alloc (.cells #[.string (S a), .string (S b)] 80)) [] (some ⟨g, 0, none⟩) (fldC (a, b)) := Rd.of_bk (Bk.newAt hg _ _) (by simp)
theorem fs_take {r : Req} {k : Nat} {x : Fd} (hx : r.fs[k]? = some x) : r.fs.take (k + 1) = r.fs.take k ++ [x] := by
  have hk : k < r.fs.length := (List.getElem?_eq_some_iff.1 hx).1
  rw [List.take_succ_eq_append_getElem hk, (List.getElem?_eq_some_iff.1 hx).2]
set_option maxHeartbeats 4000000 in
theorem of24_any {R : Ending → World → Prop} (r : Req) {A : Option Addr} {c : Nat} (w : World) (hr : Rd w [] A (r.fs.flatMap fldC)) (hn : r.fs.length ≤ 100000)
    (h : ∀ A' c' w', Kp [] w w' → Rd w' [] A' (r.fs.flatMap fldC) → (∀ b ∈ bks A', w.heap.size ≤ b) → r.fs.length ≤ c' → R (.returned (.agg #[.string (S r.m), .string (S r.t), .int .i64 r.minor, .slice A' r.fs.length c', .bool r.close])) w') :
    Calls Tryz.prog 12 #[.agg #[.string (S r.m), .string (S r.t), .int .i64 r.minor, .slice A r.fs.length c, .bool r.close]] w R := by
  have H := Lib.hid h
  have HR := Lib.hid hr
  clear h hr
  go_enter Tryz.func12, Tryz.ntmps12
  go_upto_region 2 with (fail)
  refine gen_world (fun W => OfT 35 79 w W (w.heap.size + 1) (w.heap.size + 2) { r with fs := [] } none 0 ∧ Bk W w.heap.size 24 (reqC r A c)) ?_ ?_
  · exact ⟨⟨(((Kp.refl _ _).alloc _).alloc _).alloc _, by omega, by omega, ((Bk.newAt (by simp) _ _).alloc _).cast rfl, (Bk.newAt (by simp) _ _).cast rfl, Ow.nil, by simp [bks]⟩, (((Bk.new' _ _ _).alloc _).alloc _).cast rfl⟩
  rintro W ⟨hs, h1⟩
  obtain ⟨g1, hg1⟩ : ∃ g1, w.heap.size = g1 := ⟨_, rfl⟩
  obtain ⟨g2, hg2⟩ : ∃ g2, w.heap.size + 1 = g2 := ⟨_, rfl⟩
  obtain ⟨g4, hg4⟩ : ∃ g4, w.heap.size + 2 = g4 := ⟨_, rfl⟩
  rw [hg1] at h1
  rw [hg4, hg2] at hs ⊢
  rw [hg1]
  have HS := Lib.hid hs
  have H1 := Lib.hid h1
  have hlt1 : g1 < g2 := by omega
  have hlt2 : g2 < g4 := by omega
  clear hg1 hg2 hg4 hs h1
  go_wp2
  go_loopw [4] (fun iv wr => ∃ (k : Nat) (A2 : Option Addr) (c2 : Nat) (fs : List Fd), k ≤ r.fs.length ∧ iv = .int .i64 k ∧ Hid (r.fs.take k = fs) ∧ Hid (fs.length = k) ∧ Hid (OfT 35 79 w wr g2 g4 { r with fs := fs } A2 c2) ∧ Hid (Bk wr g1 24 (reqC r A c))) (fun iv _ => r.fs.length - (intOf iv).toNat)
  case atStart => exact ⟨0, none, 0, [], Nat.zero_le _, rfl, Lib.hid rfl, Lib.hid rfl, HS, H1⟩
  case round =>
    obtain ⟨k, A2, c2, fs, hk, rfl, htk, hfl, hS, hB⟩ := hrel
    have hfl2 : fs.length ≤ 100000 := by have := hfl.out; omega
    have a3 := hB.out.cell 3
    simp only [reqC, List.getElem?_cons_zero, List.getElem?_cons_succ] at a3
    by_cases hlt : k < r.fs.length
    · obtain ⟨x, hx⟩ : ∃ x, r.fs[k]? = some x := ⟨_, List.getElem?_eq_getElem hlt⟩
      obtain ⟨b, off, rfl, _, hgl, hc⟩ := rd_at (HR.out.kp hS.out.kp (by simp)) fldC_len (by decide) hx
      have hc0 := hc 0 _ rfl
      have hc1 := hc 1 _ rfl
      rw [Nat.add_zero] at hc0
      have b3 := hS.out.b4.cell 3
      simp only [reqC, List.getElem?_cons_zero, List.getElem?_cons_succ] at b3
      have b3a := fun o => (hS.out.b4.alloc o).cell 3
      simp only [reqC, List.getElem?_cons_zero, List.getElem?_cons_succ] at b3a
      have HX := Lib.hid hx
      clear hc hx
      go_wp2
      go_region_law (refine step_app rfl (.tmp 22) (.tmp 28) _ rfl elt_fd A2 fs.length c2 _ (by simp [Act.eval, Act.put]) (hS.out.drew.own.alloc _) [] (some ⟨wr.heap.size, 0, none⟩) 1 1 (fldC x) (by simp [Act.eval, Act.put]) (fd_rd rfl) rfl (fd_one _) (by omega) ?_; intro A3 c3 w5 ho5 hk5 hA5; obtain ⟨⟨qn, en⟩, hs5⟩ := hS.out.drew.app _ x ho5 hk5 hA5)
      all_goals
        have H5 := Lib.hid hs5
        have hB5 := (((hB.out.drew).alloc (.cells #[.string (S x.1), .string (S x.2)] 79)).kp hk5 (fun hm => by have := hS.out.fresh _ hm; omega)).kp (Kp.setCell (Kp.refl [g4] w5) (.inl (by simp)) (.slice A3 (fs.length + 1) c3) (p := ⟨g4, 3, none⟩)) (by simp; omega)
        have HB5 := Lib.hid hB5
        clear hs5 hB5
        go_wp2
        exact ⟨⟨k + 1, A3, c3, fs ++ [x], by omega, by go_num, Lib.hid (by rw [fs_take HX.out, htk.out]), Lib.hid (by simp [hfl.out]), H5, HB5⟩, by simp [intOf]; omega⟩
    · obtain rfl : k = r.fs.length := by omega
      have e : fs = r.fs := by rw [← htk.out, List.take_length]
      subst e
      obtain ⟨⟨q0, q1, q2, q3, q4⟩, ⟨e0, e1, e2, e3, e4⟩⟩ := bk5 hS.out.b2
      obtain ⟨⟨p0, p1, p2, p3, p4⟩, _⟩ := bk5 hS.out.b4
      have hne : g2 ≠ g4 := by omega
      go_wp2
      obtain ⟨W4, hW4, k4, rd4, fr4, nc4, z0, z1, z2, z3, z4⟩ := hS.out.fin
      rw [hW4]
      exact bodyPost_ret (v := .agg #[.string (S r.m), .string (S r.t), .int .i64 r.minor, .slice A2 r.fs.length c2, .bool r.close]) (by simp [results, Tryz.results12, go_sem, z0, z1, z2, z3, z4]) rfl (H.out A2 c2 W4 k4 rd4 fr4 nc4)
end
/-! ### The document's answers on fields: Get, All, Same. -/
section
open Go.RowKit Go.Shelf
set_option linter.unusedVariables false
set_option linter.unusedSimpArgs false
set_option maxRecDepth 100000

def noneYet (fs : List Fd) (name : List UInt8) (k : Nat) : Prop := valsF (fs.take k) name = []
theorem join_app_le (a b : List (List UInt8)) (s : List UInt8) : (Lib.join a s).length ≤ (Lib.join (a ++ b) s).length := by
  cases a with
  | nil => simp [Lib.join_nil]
  | cons p r =>
    rw [List.cons_append, Lib.join_length, Lib.join_length]
    have e1 : Lib.lens (p :: r) = ((p :: r).map List.length).sum := rfl
    have e2 : Lib.lens (p :: (r ++ b)) = ((p :: (r ++ b)).map List.length).sum := rfl
    rw [e1, e2]
    simp only [List.map_cons, List.map_append, List.sum_cons, List.sum_append, List.length_append, Nat.mul_add]
    omega
theorem allF_le (fs : List Fd) (name : List UInt8) (k : Nat) : (allF (fs.take k) name).length ≤ (allF fs name).length := by
  have e : valsF fs name = valsF (fs.take k) name ++ valsF (fs.drop k) name := by rw [← valsF_app, List.take_append_drop]
  unfold allF
  rw [e]
  exact join_app_le _ _ _
theorem join_snoc (a : List (List UInt8)) (v s : List UInt8) : Lib.join (a ++ [v]) s = if a = [] then v else Lib.join a s ++ s ++ v := by
  cases a with
  | nil => rw [if_pos rfl, List.nil_append, Lib.join_one]
  | cons p r =>
    rw [if_neg (by simp), List.cons_append, Lib.join_cons, Lib.join_cons]
    have := Lib.joinTail_take_succ s (r ++ [v]) r.length v (by simp)
    rw [show (r ++ [v]).take (r.length + 1) = r ++ [v] from List.take_of_length_le (by simp), show (r ++ [v]).take r.length = r from List.take_left] at this
    rw [this]; simp
theorem allF_snoc {fs : List Fd} {k : Nat} {x : Fd} {name : List UInt8} (hx : fs[k]? = some x) : allF (fs.take (k + 1)) name = if (x.1 == name) = true then (if (valsF (fs.take k) name).isEmpty = true then x.2 else allF (fs.take k) name ++ [44, 32] ++ x.2) else allF (fs.take k) name := by
  unfold allF
  rw [valsF_take hx]
  split
  · rw [join_snoc]
    by_cases h : valsF (fs.take k) name = []
    · rw [if_pos h, if_pos (by simpa using h)]
    · rw [if_neg h, if_neg (by simpa using h)]
  · rw [List.append_nil]
theorem emp_snoc {fs : List Fd} {k : Nat} {x : Fd} {name : List UInt8} (hx : fs[k]? = some x) : (valsF (fs.take (k + 1)) name).isEmpty = ((valsF (fs.take k) name).isEmpty && !(x.1 == name)) := by
  rw [valsF_take hx]
  cases h : (x.1 == name) <;> simp
set_option maxHeartbeats 2000000 in
theorem rall24_any {R : Ending → World → Prop} (r : Req) (name : List UInt8) {A : Option Addr} {c : Nat} (w : World) (hr : Rd w [] A (r.fs.flatMap fldC)) (hn : r.fs.length ≤ 100000) (hlen : (allF r.fs name).length ≤ 100000000) (hvl : ∀ x ∈ r.fs, x.2.length ≤ 100000000)
    (h : ∀ w', Kp [] w w' → R (.returned (.string (S (allF r.fs name)))) w') :
    Calls Tryz.prog 54 #[.agg #[.string (S r.m), .string (S r.t), .int .i64 r.minor, .slice A r.fs.length c, .bool r.close], .string (S name)] w R := by
  have H := Lib.hid h
  have HR := Lib.hid hr
  have HL := Lib.hid (fun k => Nat.le_trans (allF_le r.fs name k) hlen)
  have HVL := Lib.hid hvl
  clear h hr hlen hvl
  go_enter Tryz.func54, Tryz.ntmps54
  go_upto_region 1 with (fail)
  refine gen_world (fun W => Kp [] w W ∧ Bk W w.heap.size 24 (reqC r A c)) ⟨(Kp.refl _ _).alloc _, (Bk.new' _ _ _).cast rfl⟩ ?_
  rintro W ⟨kW, bW⟩
  obtain ⟨g, hg⟩ : ∃ g, w.heap.size = g := ⟨_, rfl⟩
  rw [hg] at bW ⊢
  have q3 := bW.cell 3
  simp only [reqC, List.getElem?_cons_zero, List.getElem?_cons_succ] at q3
  have KW := Lib.hid kW
  have RW := Lib.hid (HR.out.kp kW (by simp))
  clear kW bW hg
  go_wp2
  go_loop [5, 6, 7] (fun sv bv iv => ∃ (k : Nat) (s : List UInt8) (e : Bool), k ≤ r.fs.length ∧ iv = .int .i64 k ∧ sv = .string (S s) ∧ bv = .bool e ∧ s.length ≤ 100000000 ∧ Hid (allF (r.fs.take k) name = s) ∧ Hid ((valsF (r.fs.take k) name).isEmpty = e)) (fun _ _ iv => r.fs.length - (intOf iv).toNat)
  case atStart => exact ⟨0, [], true, Nat.zero_le _, rfl, rfl, rfl, by simp, Lib.hid rfl, Lib.hid rfl⟩
  case round =>
    obtain ⟨k, s, e, hk, rfl, rfl, rfl, hsl, hs, he⟩ := hrel
    by_cases hlt : k < r.fs.length
    · obtain ⟨x, hx⟩ : ∃ x, r.fs[k]? = some x := ⟨_, List.getElem?_eq_getElem hlt⟩
      have HV := Lib.hid (allF_snoc (name := name) hx)
      have HE := Lib.hid (emp_snoc (name := name) hx)
      have hxl := HVL.out x (List.mem_of_getElem? hx)
      have hl1 := HL.out (k + 1)
      obtain ⟨b, off, rfl, _, hgl, hc⟩ := rd_at RW.out fldC_len (by decide) hx
      have hc0 := hc 0 _ rfl
      have hc1 := hc 1 _ rfl
      rw [Nat.add_zero] at hc0
      clear hc hx
      rw [hs.out, he.out] at HV
      rw [he.out] at HE
      cases hq : (x.1 == name)
      · rw [hq] at HV HE
        have HV2 : Hid (allF (r.fs.take (k + 1)) name = s) := Lib.hid (by rw [HV.out]; rfl)
        have HE2 : Hid ((valsF (r.fs.take (k + 1)) name).isEmpty = e) := Lib.hid (by rw [HE.out]; simp)
        clear HV HE hl1
        go_wp2
        go_round
        case rel => exact ⟨k + 1, s, e, by omega, by go_num, rfl, rfl, hsl, HV2, HE2⟩
        case measure => simp [intOf]; omega
      · rw [hq] at HV HE
        cases e
        · have HV2 : Hid (allF (r.fs.take (k + 1)) name = s ++ [44, 32] ++ x.2) := Lib.hid (by rw [HV.out]; rfl)
          have HE2 : Hid ((valsF (r.fs.take (k + 1)) name).isEmpty = false) := Lib.hid (by rw [HE.out]; rfl)
          rw [HV2.out] at hl1
          have HL1 := Lib.hid hl1
          clear HV HE hl1
          go_wp2
          go_round
          case rel => exact ⟨k + 1, _, _, by omega, by go_num, rfl, rfl, by have := HL1.out; simpa [Nat.add_assoc, Nat.add_comm, Nat.add_left_comm] using this, by first | exact HV2 | (refine Lib.hid ?_; rw [HV2.out]; simp), HE2⟩
          case measure => simp [intOf]; omega
        · have HV2 : Hid (allF (r.fs.take (k + 1)) name = x.2) := Lib.hid (by rw [HV.out]; rfl)
          have HE2 : Hid ((valsF (r.fs.take (k + 1)) name).isEmpty = false) := Lib.hid (by rw [HE.out]; rfl)
          have hs0 : s = [] := by
            have h1 := he.out
            have h2 := hs.out
            rw [← h2]; unfold allF; rw [List.isEmpty_iff.1 h1]; rfl
          subst hs0
          clear HV HE hl1
          go_wp2
          go_round
          case rel => exact ⟨k + 1, x.2, false, by omega, by go_num, by simp, rfl, hxl, HV2, HE2⟩
          case measure => simp [intOf]; omega
    · have HF : Hid (allF r.fs name = s) := Lib.hid (by
        have := hs.out
        rwa [List.take_of_length_le (by omega)] at this)
      go_wp2
      exact rcast (H.out _ KW.out) (by rw [HF.out])
end
/-! ### pantlerlaw27: far, Count, the chapter's example. -/
section
open Go.RowKit Go.Shelf
set_option linter.unusedVariables false
set_option linter.unusedSimpArgs false
set_option maxRecDepth 100000
section
variable {R : Ending → World → Prop} {w : World}
set_option maxHeartbeats 4000000 in
theorem far27_any (r : Req) (v mt len : Int) (kd : List UInt8) {A : Option Addr} {c : Nat} (h : ∀ b w', Kp [] w w' → (b = false → r.fs.length ≤ 60 ∧ kd.length ≤ 300 ∧ 0 ≤ len ∧ len ≤ 1099511627776 ∧ 0 ≤ v ∧ 0 ≤ mt) → R (.returned (.bool b)) w') :
    Calls Tryz.prog 10 #[.agg #[.string (S r.m), .string (S r.t), .int .i64 r.minor, .slice A r.fs.length c, .bool r.close], .agg #[.int .i64 v, .int .i64 mt, .int .i64 len, .string (S kd)]] w R := by
  have H := Lib.hid h
  clear h
  obtain ⟨c1, d1⟩ : ∃ c, decide ((60 : Int) < r.fs.length) = c := ⟨_, rfl⟩
  obtain ⟨c2, d2⟩ : ∃ c, decide ((300 : Int) < kd.length) = c := ⟨_, rfl⟩
  obtain ⟨c3, d3⟩ : ∃ c, decide (len < 0) = c := ⟨_, rfl⟩
  obtain ⟨c4, d4⟩ : ∃ c, decide (1099511627776 < len) = c := ⟨_, rfl⟩
  obtain ⟨c5, d5⟩ : ∃ c, decide (v < 0) = c := ⟨_, rfl⟩
  obtain ⟨c6, d6⟩ : ∃ c, decide (mt < 0) = c := ⟨_, rfl⟩
  go_enter Tryz.func10, Tryz.ntmps10
  cases c1 with
  | true =>
    go_wp2
    exact H.out true _ (((Kp.refl _ _).alloc _).alloc _) (fun e => by cases e)
  | false =>
    cases c2 with
    | true =>
      go_wp2
      exact H.out true _ (((Kp.refl _ _).alloc _).alloc _) (fun e => by cases e)
    | false =>
      cases c3 with
      | true =>
        go_wp2
        exact H.out true _ (((Kp.refl _ _).alloc _).alloc _) (fun e => by cases e)
      | false =>
        cases c4 with
        | true =>
          go_wp2
          exact H.out true _ (((Kp.refl _ _).alloc _).alloc _) (fun e => by cases e)
        | false =>
          cases c5 with
          | true =>
            go_wp2
            exact H.out true _ (((Kp.refl _ _).alloc _).alloc _) (fun e => by cases e)
          | false =>
            cases c6 with
            | true =>
              go_wp2
              exact H.out true _ (((Kp.refl _ _).alloc _).alloc _) (fun e => by cases e)
            | false =>
              go_wp2
              exact H.out false _ (((Kp.refl _ _).alloc _).alloc _) (fun _ => by simp at d1 d2 d3 d4 d5 d6; omega)
set_option maxHeartbeats 2000000 in
theorem rcount24_any (r : Req) (name : List UInt8) {A : Option Addr} {c : Nat} (hr : Rd w [] A (r.fs.flatMap fldC)) (hn : r.fs.length ≤ 100000)
    (h : ∀ w', Kp [] w w' → R (.returned (.int .i64 (valsF r.fs name).length)) w') :
    Calls Tryz.prog 13 #[.agg #[.string (S r.m), .string (S r.t), .int .i64 r.minor, .slice A r.fs.length c, .bool r.close], .string (S name)] w R := by
  have H := Lib.hid h
  have HR := Lib.hid hr
  clear h hr
  go_enter Tryz.func13, Tryz.ntmps13
  go_upto_region 1 with (fail)
  refine gen_worldC (fun W => ∃ g, w.heap.size = g ∧ Hid (Kp [] w W ∧ Bk W g 24 (reqC r A c))) ⟨_, rfl, Lib.hid ⟨(Kp.refl _ _).alloc _, (Bk.new' _ _ _).cast rfl⟩⟩ ?_
  rintro W ⟨g, hg, hW⟩
  rw [hg]
  have q3 : W.cell? ⟨g, 3, none⟩ = some (.slice A r.fs.length c) := hW.out.2.cell 3
  have RW := Lib.hid (HR.out.kp hW.out.1 (by simp))
  clear hg
  go_wp2
  go_loop [5, 6] (fun nv iv => ∃ k m : Nat, k ≤ r.fs.length ∧ iv = .int .i64 k ∧ nv = .int .i64 m ∧ m ≤ k ∧ Hid ((valsF (r.fs.take k) name).length = m)) (fun _ iv => r.fs.length - (intOf iv).toNat)
  case atStart => exact ⟨0, 0, Nat.zero_le _, rfl, rfl, Nat.le_refl _, Lib.hid rfl⟩
  case round =>
    obtain ⟨k, m, hk, rfl, rfl, hmk, hv⟩ := hrel
    by_cases hlt : k < r.fs.length
    · obtain ⟨x, hx⟩ : ∃ x, r.fs[k]? = some x := ⟨_, List.getElem?_eq_getElem hlt⟩
      have HV := Lib.hid (valsF_take hx name)
      obtain ⟨b, off, rfl, _, hgl, hc⟩ := rd_at RW.out fldC_len (by decide) hx
      have hc0 := hc 0 _ rfl
      rw [Nat.add_zero] at hc0
      clear hc hx
      cases hq : (x.1 == name)
      · have HV2 : Hid ((valsF (r.fs.take (k + 1)) name).length = m) := Lib.hid (by rw [HV.out, hq]; simpa using hv.out)
        clear HV
        go_wp2
        go_round
        case rel => exact ⟨k + 1, m, by omega, by go_num, rfl, by omega, HV2⟩
        case measure => simp [intOf]; omega
      · have HV2 : Hid ((valsF (r.fs.take (k + 1)) name).length = m + 1) := Lib.hid (by rw [HV.out, hq, if_pos rfl, List.length_append, hv.out]; rfl)
        clear HV
        go_wp2
        go_round
        case rel => exact ⟨k + 1, m + 1, by omega, by go_num, by go_num, by omega, HV2⟩
        case measure => simp [intOf]; omega
    · have hv2 := hv.out
      rw [List.take_of_length_le (by omega)] at hv2
      subst hv2
      go_wp2
      exact H.out _ hW.out.1
theorem wr400 : wrS 400 = 400 := by decide
def badTT : List UInt8 := [52, 48, 48, 32, 66, 97, 100, 32, 82, 101, 113, 117, 101, 115, 116, 10]
theorem body400B : bodyT 400 = badTT := by
  unfold bodyT
  rw [show ((400 : Int).toNat) = 400 from rfl, decL_big (by omega), decL_big (n := 400 / 10) (by omega), decL_small (by omega)]
  rfl
theorem parts400 : partsG 400 0 [] [] = [(badTT, 0, 0)] := by
  unfold partsG layG
  rw [if_neg (by decide), if_neg (by decide), if_neg (by decide), body400B]
  rfl
set_option maxHeartbeats 2000000 in
theorem alive27b_any (hw : Lw w) (h : ∀ w', Kp [] w w' → R (.returned (.bool true)) w') : Calls Tryz.prog 9 #[] w R := by
  have H := Lib.hid h
  have HW : Hid (∀ (R : Ending → World → Prop) (w1 : World), Lw w1 → (∀ L b o c w', Kp [] w1 w' → b < w'.heap.size → w'.cell? ⟨b, o, none⟩ = some (.string (S badTT)) ∧ w'.cell? ⟨b, o + 1, none⟩ = some (.int .i64 0) ∧ w'.cell? ⟨b, o + 2, none⟩ = some (.int .i64 0) → R (.returned (.agg #[.int .i64 400, .string (S L), .slice (some ⟨b, o, none⟩) 1 c, .bool true])) w') → Calls Tryz.prog 15 #[.int .i64 400, .int .i64 (-1)] w1 R) := Lib.hid (fun R w1 h1 h => rwrong_gen 400 (-1) h1 (fun A n c w' k hh => by
    rw [wr400, parts400] at hh
    obtain ⟨b, o, rfl, _, hb, hc⟩ := hh.out.1 (by simp [ptV])
    have e : n = 1 := hh.out.2.1.symm
    subst e
    rw [wr400]
    exact h _ b o c w' k hb ⟨hc 0 _ rfl, hc 1 _ rfl, hc 2 _ rfl⟩))
  have HRs : Hid (∀ (R : Ending → World → Prop) (w : World), R (.returned (.string (S [78, 111, 116, 32, 70, 111, 117, 110, 100]))) w → Calls Tryz.prog 16 #[.int .i64 404] w R) := Lib.hid (fun R w h => reason_any 404 w h)
  clear h
  go_enter Tryz.func9, Tryz.ntmps9
  go_upto_region 2 with (go_at_call 15; ((refine HW.out _ _ hw ?_); intro L x o cc w1 k1 hb hc))
  obtain ⟨c0, c1, c2⟩ := hc
  have gBB : (badTT == [52, 48, 48, 32, 66, 97, 100, 32, 82, 101, 113, 117, 101, 115, 116, 10]) = true := by decide
  go_wp2_with (go_at_call 16; (refine HRs.out _ _ ?_))
  exact rcast (H.out _ (k1.alloc _)) rfl
end
end
/-! ### The walks of package path's small functions. -/
section
open Go.RowKit
set_option linter.unusedVariables false

/-- May a byte stand in a segment? -/
def plainB (c : UInt8) : Bool := (decide (97 ≤ c.toNat) && decide (c.toNat ≤ 122)) || (decide (65 ≤ c.toNat) && decide (c.toNat ≤ 90)) || (decide (48 ≤ c.toNat) && decide (c.toNat ≤ 57)) || decide (c.toNat = 46) || decide (c.toNat = 45) || decide (c.toNat = 95)
def segB (l : List UInt8) : Bool := !(l == []) && !(l == [46]) && !(l == [46, 46]) && l.all plainB
/-- A digit of base 16. -/
def digI (c : UInt8) : Int :=
  if 48 ≤ c.toNat ∧ c.toNat ≤ 57 then c.toNat - 48 else if 97 ≤ c.toNat ∧ c.toNat ≤ 102 then c.toNat - 87 else if 65 ≤ c.toNat ∧ c.toNat ≤ 70 then c.toNat - 55 else -1

set_option maxHeartbeats 400000 in
theorem plain_any {R : Ending → World → Prop} (c : UInt8) (w : World) (h : R (.returned (.bool (plainB c))) w) : Calls Tryz.prog 86 #[.int .u8 c.toNat] w R := by
  go_enter Tryz.func86, Tryz.ntmps86
  go_wp2
  all_goals (refine rcast h (congrArg Value.bool ?_); rw [Bool.eq_iff_iff]; simp [plainB] <;> omega)

set_option maxHeartbeats 400000 in
theorem digit_any {R : Ending → World → Prop} (c : UInt8) (w : World) (h : R (.returned (.int .i64 (digI c))) w) : Calls Tryz.prog 85 #[.int .u8 c.toNat] w R := by
  have hc := c.toNat_lt
  go_enter Tryz.func85, Tryz.ntmps85
  go_wp2
  all_goals (refine ricast h ?_; unfold digI; (repeat' split) <;> omega)
theorem all_snoc (l : List UInt8) (p : UInt8 → Bool) (k : Nat) (h : k < l.length) : (l.take (k + 1)).all p = ((l.take k).all p && p l[k]) := by
  rw [List.take_succ_eq_append_getElem h, List.all_append]; simp
theorem all_stop {l : List UInt8} {p : UInt8 → Bool} {k : Nat} {h : k < l.length} (hn : p l[k] = false) : l.all p = false := by
  rw [List.all_eq_false]; exact ⟨_, List.getElem_mem h, by simp [hn]⟩
set_option maxHeartbeats 800000 in
theorem seg_any {R : Ending → World → Prop} (l : List UInt8) (w : World) (h0 : l.length ≤ 2000000) (h : R (.returned (.bool (segB l))) w) : Calls Tryz.prog 124 #[.string (S l)] w R := by
  have H := Lib.hid h
  clear h
  by_cases e1 : l = []
  · subst e1
    go_enter Tryz.func124, Tryz.ntmps124
    go_wp2
    exact H.out
  by_cases e2 : l = [46]
  · subst e2
    go_enter Tryz.func124, Tryz.ntmps124
    go_wp2
    exact H.out
  by_cases e3 : l = [46, 46]
  · subst e3
    go_enter Tryz.func124, Tryz.ntmps124
    go_wp2
    exact H.out
  have b1 : l.isEmpty = false := by simpa using e1
  have b2 : (l == [46]) = false := by simpa using e2
  have b3 : (l == [46, 46]) = false := by simpa using e3
  have E1 := Lib.hid e1
  clear e1 e2 e3
  go_enter Tryz.func124, Tryz.ntmps124
  go_wp2
  have G2 := Lib.hid b2
  have G3 := Lib.hid b3
  clear b1 b2 b3
  go_loop [16] (fun k => ∃ n : Nat, n ≤ l.length ∧ k = .int .i64 n ∧ (l.take n).all plainB = true) (fun k => l.length - (intOf k).toNat)
  case atStart => exact ⟨0, Nat.zero_le _, rfl, by simp⟩
  case round =>
    obtain ⟨n, hn, rfl, ha⟩ := hrel
    have HA := Lib.hid ha
    clear ha
    by_cases hlt : n < l.length
    · cases hp : plainB l[n]
      · have HP := Lib.hid hp
        clear hp
        go_wp2_with (go_at_call 86; refine plain_any _ _ ?_; rw [HP.out])
        refine rcast H.out (congrArg Value.bool ?_)
        rw [segB, all_stop HP.out, Bool.and_false]
      · have HP := Lib.hid hp
        clear hp
        go_wp2_with (go_at_call 86; refine plain_any _ _ ?_; rw [HP.out])
        go_round
        case rel => exact ⟨n + 1, by omega, by go_num, by rw [all_snoc l _ n hlt, HA.out, HP.out]; rfl⟩
        case measure => simp [intOf]; omega
    · go_wp2
      refine rcast H.out (congrArg Value.bool ?_)
      have e : n = l.length := by omega
      subst e
      have := HA.out
      rw [List.take_length] at this
      rw [segB, G2.out, G3.out, this]
      have := E1.out
      simp [this]
end
/-! ### path.Name. -/
section
open Go.RowKit
set_option linter.unusedVariables false

def nameB (l : List UInt8) : Bool := decide (l.length ≤ 24) && (spl 47 l).all segB
theorem strs_at {ps : List (List UInt8)} {n : Nat} {p : List UInt8} (h : ps[n]? = some p) : (strs ps)[n]? = some (.string (S p)) := by simp [strs, h]
theorem allof_snoc {α : Type} (l : List α) (p : α → Bool) (k : Nat) {x : α} (h : l[k]? = some x) : (l.take (k + 1)).all p = ((l.take k).all p && p x) := by
  obtain ⟨hk, hx⟩ := List.getElem?_eq_some_iff.1 h
  rw [List.take_succ_eq_append_getElem hk, List.all_append, hx]; simp
theorem allof_stop {α : Type} {l : List α} {p : α → Bool} {x : α} {k : Nat} (h : l[k]? = some x) (hn : p x = false) : l.all p = false := by
  rw [List.all_eq_false]; exact ⟨x, List.mem_of_getElem? h, by simp [hn]⟩
set_option maxHeartbeats 800000 in
theorem name_any {R : Ending → World → Prop} (l : List UInt8) (w : World) (hm : Ml w) (h : ∀ w', Kp [] w w' → R (.returned (.bool (nameB l))) w') : Calls Tryz.prog 87 #[.string (S l)] w R := by
  have H := Lib.hid h
  clear h
  by_cases hl : l.length ≤ 24
  · go_enter Tryz.func87, Tryz.ntmps87
    go_wp2_with (go_at_call 120; refine split_any l 47 hm (by omega) ?_; intro g w1 hg hb hk)
    have HK := Lib.hid hk
    clear hk
    have hml := spl_mem_len 47 l
    have HM := Lib.hid hml
    clear hml
    have hnn : (spl 47 l).length ≤ l.length + 1 := by rw [spl_len]; have := List.count_le_length (a := (47 : UInt8)) (l := l); omega
    have HN : nameB l = (spl 47 l).all segB := by unfold nameB; rw [decide_eq_true hl, Bool.true_and]
    have HN := Lib.hid HN
    generalize spl 47 l = ps at *
    go_loop [11] (fun k => ∃ n : Nat, n ≤ ps.length ∧ k = .int .i64 n ∧ (ps.take n).all segB = true) (fun k => ps.length - (intOf k).toNat)
    case atStart => exact ⟨0, Nat.zero_le _, rfl, by simp⟩
    case round =>
      obtain ⟨n, hn, rfl, ha⟩ := hrel
      have HA := Lib.hid ha
      clear ha
      by_cases hlt : n < ps.length
      · obtain ⟨p, hp⟩ : ∃ p, ps[n]? = some p := ⟨_, List.getElem?_eq_getElem hlt⟩
        have HP := Lib.hid hp
        have hc : w1.cell? ⟨g, n, none⟩ = some (.string (S p)) := by rw [hb.cell, strs_at hp]
        have hpl := HM.out p (List.mem_of_getElem? hp)
        clear hp
        cases hs : segB p
        · have HS := Lib.hid hs
          clear hs
          go_wp2_with (go_at_call 124; refine seg_any _ _ (by omega) ?_; rw [HS.out])
          refine rcast (H.out w1 HK.out) (congrArg Value.bool ?_)
          rw [HN.out, allof_stop HP.out HS.out]
        · have HS := Lib.hid hs
          clear hs
          go_wp2_with (go_at_call 124; refine seg_any _ _ (by omega) ?_; rw [HS.out])
          go_round
          case rel => exact ⟨n + 1, by omega, by go_num, by rw [allof_snoc ps _ n HP.out, HA.out, HS.out]; rfl⟩
          case measure => simp [intOf]; omega
      · go_wp2
        refine rcast (H.out w1 HK.out) (congrArg Value.bool ?_)
        have e : n = ps.length := by omega
        subst e
        have := HA.out
        rw [List.take_length] at this
        rw [HN.out, this]
  · go_enter Tryz.func87, Tryz.ntmps87
    go_wp2
    refine rcast (H.out w (Kp.refl _ _)) (congrArg Value.bool ?_)
    unfold nameB; rw [decide_eq_false hl, Bool.false_and]
end
/-! ### path.Target, path.Kind. -/
section
open Go.RowKit
set_option linter.unusedVariables false
set_option maxRecDepth 100000

theorem last_j (l : List UInt8) (c : UInt8) : ∃ j : Nat, Lib.lastIndex l [c] = (j : Int) - 1 ∧ j ≤ l.length ∧ l.drop j = lst c l := by
  have h := last_lst l c
  rcases last_cases l c with ⟨e, _⟩ | ⟨i, e, hi, _⟩
  · exact ⟨0, by rw [e]; rfl, Nat.zero_le _, by rw [← h, e]; rfl⟩
  · exact ⟨i + 1, by rw [e]; omega, hi, by rw [← h, e]; rfl⟩
def octS : List UInt8 := [97, 112, 112, 108, 105, 99, 97, 116, 105, 111, 110, 47, 111, 99, 116, 101, 116, 45, 115, 116, 114, 101, 97, 109]
def extK (x : List UInt8) : List UInt8 :=
  if x = [104, 116, 109, 108] then [116, 101, 120, 116, 47, 104, 116, 109, 108] else if x = [99, 115, 115] then [116, 101, 120, 116, 47, 99, 115, 115] else if x = [116, 120, 116] then [116, 101, 120, 116, 47, 112, 108, 97, 105, 110] else if x = [106, 115] then [116, 101, 120, 116, 47, 106, 97, 118, 97, 115, 99, 114, 105, 112, 116] else if x = [112, 110, 103] then [105, 109, 97, 103, 101, 47, 112, 110, 103] else if x = [106, 115, 111, 110] then [97, 112, 112, 108, 105, 99, 97, 116, 105, 111, 110, 47, 106, 115, 111, 110] else octS
def kindL (l : List UInt8) : List UInt8 := if (lst 47 l).contains 46 then extK (lst 46 (lst 47 l)) else octS
theorem cat_lit (a b : List UInt8) : (⟨a.toArray⟩ : ByteArray) ++ S b = S (a ++ b) := S_append a b
theorem lst_len (c : UInt8) (l : List UInt8) : (lst c l).length ≤ l.length := by
  obtain ⟨j, _, _, h⟩ := last_j l c
  rw [← h, List.length_drop]; omega
end
end Go.Proofs.YtnmafahbdfilcaaGreatDoor
