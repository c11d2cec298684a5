/- gather.Drop over a table, where every hold is there: the deferred closure looks at the result and goes. -/
import Derived.Test.YthlmfjfkkndboaaGather4
import Derived.Defers
namespace Go.Proofs.Ythlmfjfkkndboaa
open Go.RowKit
set_option linter.unusedVariables false
set_option linter.unusedSimpArgs false
set_option maxRecDepth 100000
section
variable {R : Ending → World → Prop} {bT bL : Nat} {fs : List Fr} {w : World}

def dropAll (fs : List Fr) (l : List Pc) : List Fr := l.foldl (fun fs p => (tDrop fs p.f).2) fs
def dropOk : List Fr → List Pc → Prop
  | _, [] => True
  | fs, p :: l => (tDrop fs p.f).1 = 0 ∧ dropOk (tDrop fs p.f).2 l
theorem dropOk_at : ∀ {l : List Pc} {fs : List Fr} {k : Nat} {x : Pc}, dropOk fs l → l[k]? = some x → (tDrop (dropAll fs (l.take k)) x.f).1 = 0
  | p :: l, fs, 0, x, h, hx => by simp at hx; subst hx; exact h.1
  | p :: l, fs, k + 1, x, h, hx => by
    have := dropOk_at (k := k) h.2 (by simpa using hx)
    simpa [dropAll] using this
theorem tDrop_hoB {lo hi : Int} (h : ∀ y ∈ fs, lo ≤ y.ho ∧ y.ho ≤ hi) (f : Int) : ∀ y ∈ (tDrop fs f).2, lo - 1 ≤ y.ho ∧ y.ho ≤ hi := by
  unfold tDrop
  split
  · split
    · intro y hy; have := h y hy; omega
    · rename_i x hx
      intro y hy
      rcases mem_set hy with rfl | hy
      · have := h x (List.mem_of_getElem? (fat_some hx).2); simp only; omega
      · have := h y hy; omega
  · intro y hy; have := h y hy; omega

/-- The closure where the call ends well. -/
theorem drop1_ok (e l d t : Nat) (h0 : w.cell? ⟨e, 0, none⟩ = some (.int .i64 0)) : CallsD Try.prog 63 #[.pointer (some ⟨e, 0, none⟩), .pointer (some ⟨l, 0, none⟩), .pointer (some ⟨d, 0, none⟩), .pointer (some ⟨t, 0, none⟩)] .returning w fun e u' w' => u' = .returning ∧ (e = .returned (.tuple #[]) ∧ w' = w) := by
  go_enter_d Try.func63, Try.ntmps63
  go_wp2
  first | go_end0 | refine bodyPost_ret (results_none rfl _ _ _) rfl ?_
  simp

set_option maxHeartbeats 1000000 in
theorem gdrop_any (hT : Tab w bT bL fs) {N : List Nat} {A : Option Addr} {n c : Nat} {l : List Pc} (hr : Rd w N A (l.flatMap Pc.vals)) (hN : ∀ s ∈ [bL], s ∈ N ∨ w.heap.size ≤ s) (hl : l.length = n) (hn : n ≤ 1000000) (hb : ∀ y ∈ fs, 0 ≤ y.ho ∧ y.ho ≤ 1000000) (hd : dropOk fs l)
    (h : ∀ w', Kp [bL] w w' → Tab w' bT bL (dropAll fs l) → R (.returned (.int .i64 0)) w') :
    Calls Try.prog 24 #[.pointer (some ⟨bT, 0, none⟩), .slice A n c] w R := by
  have H := Lib.hid h
  have HL := Lib.hid hl
  have HN := Lib.hid hN
  have HB := Lib.hid hb
  have HD := Lib.hid hd
  have hmf : ∀ (fn : Fn) (first cap : Array Value) (w : World), (Instr.makeFunc fn first cap).run Try.prog w = .ok (.func fn first cap) w := fun _ _ _ _ => rfl
  clear h hl hN hb hd
  go_enter_defers Try.func24, Try.ntmps24
  go_wp2
  have hbl := hT.l.lt
  have hbt := hT.t.lt
  have z0 : Bk _ w.heap.size 26 [.pointer (some ⟨bT, 0, none⟩)] := (((Bk.new' w 26 #[.pointer (some ⟨bT, 0, none⟩)]).alloc (.cells #[.slice A n c] 39)).alloc (.cells #[.int .i64 0] 27)).alloc (.cells #[.int .i64 0] 3)
  have z1 : Bk _ (w.heap.size + 1) 39 [.slice A n c] := ((Bk.newAt (w := w.alloc (.cells #[.pointer (some ⟨bT, 0, none⟩)] 26)) (by simp) 39 #[.slice A n c]).alloc (.cells #[.int .i64 0] 27)).alloc (.cells #[.int .i64 0] 3)
  have z2 : Bk _ (w.heap.size + 1 + 1) 27 [.int .i64 0] := (Bk.newAt (w := (w.alloc (.cells #[.pointer (some ⟨bT, 0, none⟩)] 26)).alloc (.cells #[.slice A n c] 39)) (by simp) 27 #[.int .i64 0]).alloc (.cells #[.int .i64 0] 3)
  have z3 : Bk _ (w.heap.size + 1 + 1 + 1) 3 [.int .i64 0] := Bk.newAt (w := ((w.alloc (.cells #[.pointer (some ⟨bT, 0, none⟩)] 26)).alloc (.cells #[.slice A n c] 39)).alloc (.cells #[.int .i64 0] 27)) (by simp) 3 #[.int .i64 0]
  have kz : Kp [bL] w _ := ((((Kp.refl [bL] w).alloc (.cells #[.pointer (some ⟨bT, 0, none⟩)] 26)).alloc (.cells #[.slice A n c] 39)).alloc (.cells #[.int .i64 0] 27)).alloc (.cells #[.int .i64 0] 3)
  have tz := hT.kp (((((Kp.refl [] w).alloc (.cells #[.pointer (some ⟨bT, 0, none⟩)] 26)).alloc (.cells #[.slice A n c] 39)).alloc (.cells #[.int .i64 0] 27)).alloc (.cells #[.int .i64 0] 3)) (by simp) (by simp)
  generalize (((w.alloc (.cells #[.pointer (some ⟨bT, 0, none⟩)] 26)).alloc (.cells #[.slice A n c] 39)).alloc (.cells #[.int .i64 0] 27)).alloc (.cells #[.int .i64 0] 3) = wz at *
  go_loopw [13] (fun i wr => ∃ (k : Nat) (fr : List Fr), k ≤ n ∧ i = .int .i64 k ∧ Kp [bL] w wr ∧ Tab wr bT bL fr ∧ Bk wr w.heap.size 26 [.pointer (some ⟨bT, 0, none⟩)] ∧ Bk wr (w.heap.size + 1) 39 [.slice A n c] ∧ Bk wr (w.heap.size + 1 + 1) 27 [.int .i64 0] ∧ Bk wr (w.heap.size + 1 + 1 + 1) 3 [.int .i64 k] ∧
    Hid (fr = dropAll fs (l.take k) ∧ (∀ y ∈ fr, -(k : Int) ≤ y.ho ∧ y.ho ≤ 1000000))) (fun i _ => n - (intOf i).toNat)
  case atStart => exact ⟨0, fs, Nat.zero_le _, rfl, kz, tz, z0, z1, z2, z3, rfl, by simpa using HB.out⟩
  case round =>
    obtain ⟨k, fr, hk, rfl, kr, tr, y0, y1, y2, y3, hq⟩ := hrel
    by_cases hlt : k < n
    · obtain ⟨x, hx, hm⟩ := get_lt (l := l) (k := k) (by rw [HL.out]; exact hlt)
      obtain ⟨b, off, rfl, _, _, hc⟩ := rd_at (hr.kp kr HN.out) pvals_len (by omega) hx
      have c0 := hc 0 _ rfl
      have c1 := hc 1 _ rfl
      have c2 := hc 2 _ rfl
      rw [Nat.add_zero] at c0
      have HX := Lib.hid hx
      have HE := Lib.hid (dropOk_at HD.out hx)
      have ta := fun o => tr.kp ((Kp.refl [] wr).alloc o) (by simp) (by simp)
      have ko := fun o => kr.alloc o
      have e0 := y0.cell 0
      have e3 := y3.cell 0
      simp only [List.getElem?_cons_zero] at e0 e3
      have e0a := fun o => (y0.alloc o).cell 0
      simp only [List.getElem?_cons_zero] at e0a
      have hs := kr.size
      clear hc hx
      go_wp2_with (go_at_call 53; refine drop_any (ta _) _ (fun y hy => by have := hq.out.2 y (List.mem_of_getElem? (fat_some hy).2); omega) (fun e7 f7 w7 q7 k7 t7 => ?_); (obtain rfl : e7 = 0 := by have := congrArg Prod.fst q7.out; rw [hq.out.1, HE.out] at this; exact this.symm); have x0 := (y0.alloc _).kp k7 (by simp; omega); have x1 := (y1.alloc _).kp k7 (by simp; omega); have x2 := (y2.alloc _).kp k7 (by simp; omega); have x3 := (y3.alloc _).kp k7 (by simp; omega); have g3 := x3.cell 0; have f3 := x3.frozen 0; simp only [List.getElem?_cons_zero] at g3)
      refine ⟨⟨k + 1, f7, by omega, by go_num, ((ko _).thn k7 (fun s hs => .inl hs)).setCell (.inr (by simp; omega)) _, t7.kp ((Kp.refl [w.heap.size + 1 + 1 + 1] w7).setCell (.inl (by simp)) _) (by simp; omega) (by simp; omega), x0.far (by simp <;> omega) _, x1.far (by simp <;> omega) _, x2.far (by simp <;> omega) _, (x3.set_ 0 _).cast (by go_num), Lib.hid ⟨?_, ?_⟩⟩, by simp [intOf]; omega⟩
      · have := foldl_snoc (f := fun fs (p : Pc) => (tDrop fs p.f).2) (b := fs) HX.out
        unfold dropAll
        rw [this]
        show f7 = (tDrop (dropAll fs (l.take k)) x.f).2
        rw [← hq.out.1, q7.out]
      · have := tDrop_hoB hq.out.2 x.f
        rw [q7.out] at this
        intro y hy
        have := this y hy
        omega
    · have e : l.take k = l := List.take_of_length_le (by have := HL.out; omega)
      obtain rfl : n = k := by omega
      rw [e] at hq
      clear e
      have e2 := y2.cell 0
      have f2 := y2.frozen 0
      simp only [List.getElem?_cons_zero] at e2
      go_wp2
      have v2 := y2.set_ 0 (.int .i64 0)
      have u2 := v2.cell 0
      simp only [List.set_cons_zero, List.getElem?_cons_zero] at u2
      refine leaves_cons (f := 63) (args := #[.pointer (some ⟨w.heap.size + 1 + 1, 0, none⟩), .pointer (some ⟨w.heap.size + 1, 0, none⟩), .pointer (some ⟨w.heap.size + 1 + 1 + 1, 0, none⟩), .pointer (some ⟨w.heap.size, 0, none⟩)]) (by simp) (by simp [go_sem]) ?_
      refine (drop1_ok _ _ _ _ u2).mono ?_
      rintro e u' w'' ⟨rfl, rfl, rfl⟩
      have ht := tr.kp ((Kp.refl [w.heap.size + 1 + 1] wr).setCell (p := ⟨w.heap.size + 1 + 1, 0, none⟩) (.inl (by simp)) (.int .i64 0)) (by simp; omega) (by simp; omega)
      rw [hq.out.1] at ht
      have hg := H.out _ (kr.setCell (p := ⟨w.heap.size + 1 + 1, 0, none⟩) (.inr (by simp; omega)) (.int .i64 0)) ht
      simp [Leaves, settle, results, Try.results24, go_sem, u2]
      exact hg
end
end Go.Proofs.Ythlmfjfkkndboaa
