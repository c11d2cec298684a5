/- gather.Hold over a table. -/
import Derived.Test.YthlmfjfkkndboaaGather3
namespace Go.Proofs.Ythlmfjfkkndboaa
open Go.RowKit
set_option linter.unusedVariables false
set_option linter.unusedSimpArgs false
set_option maxRecDepth 100000
section
variable {R : Ending → World → Prop} {bT bL : Nat} {fs : List Fr} {w : World}

def hoB (fs : List Fr) (hi : Int) : Prop := ∀ y ∈ fs, -1000000 ≤ y.ho ∧ y.ho ≤ hi
theorem tHold_hoB {hi : Int} (h : hoB fs hi) (who f : Int) : hoB (tHold fs who f).2 (hi + 1) := by
  unfold tHold
  split
  · split
    · intro y hy; have := h y hy; omega
    · rename_i x hx
      intro y hy
      rcases mem_set hy with rfl | hy
      · have := h x (List.mem_of_getElem? (fat_some hx).2); simp only; omega
      · have := h y hy; omega
  · intro y hy; have := h y hy; omega
theorem hoB_at {hi : Int} (h : hoB fs hi) (hh : hi ≤ 1000000000) (f : Int) : ∀ x, fat fs f = some x → -1000000000 ≤ x.ho ∧ x.ho ≤ 1000000000 := fun x hx => by
  have := h x (List.mem_of_getElem? (fat_some hx).2); omega

set_option maxHeartbeats 1000000 in
theorem ghold_any (hT : Tab w bT bL fs) (env : Int) {N : List Nat} {A : Option Addr} {n c : Nat} {l : List Pc} (hr : Rd w N A (l.flatMap Pc.vals)) (hN : ∀ s ∈ [bL], s ∈ N ∨ w.heap.size ≤ s) (hl : l.length = n) (hn : n ≤ 1000000) (hok : ∀ p ∈ l, p.ok) (hb : hoB fs 1000000)
    (h : ∀ fs' w', Hid ((checkE fs env l, fs') = (checkE fs env l, if checkE fs env l = 0 then holdAll fs env l else fs)) → Kp [bL] w w' → Tab w' bT bL fs' → R (.returned (.int .i64 (checkE fs env l))) w') :
    Calls Try.prog 19 #[.pointer (some ⟨bT, 0, none⟩), .int .i64 env, .slice A n c] w R := by
  have H := Lib.hid h
  have HL := Lib.hid hl
  have HO := Lib.hid hok
  have HN := Lib.hid hN
  have HB := Lib.hid hb
  clear h hl hok hN hb
  generalize hce : checkE fs env l = ce at H
  have HCE := Lib.hid hce
  clear hce
  have hcase : (ce != 0) = true ∨ (ce != 0) = false := by cases (ce != 0) <;> simp
  rcases hcase with d1 | d1
  · go_enter Try.func19, Try.ntmps19
    go_wp2_with (go_at_call 14; refine check_any hT env hr HL.out hn HO.out (fun w1 k1 => ?_); rw [HCE.out])
    exact H.out fs _ (by simp only [Hid]; rw [if_neg (by simpa using d1)]) (k1.mono (by simp)) (hT.kp k1 (by simp) (by simp))
  · go_enter Try.func19, Try.ntmps19
    go_wp2_with (go_at_call 14; refine check_any hT env hr HL.out hn HO.out (fun w1 k1 => ?_); rw [HCE.out])
    obtain rfl : ce = 0 := by simpa using d1
    clear d1
    have t1 := hT.kp k1 (by simp) (by simp)
    have kk1 : Kp [bL] w w1 := k1.mono (by simp)
    clear k1
    go_loopw [19] (fun i wr => ∃ (k : Nat) (fr : List Fr), k ≤ n ∧ i = .int .i64 k ∧ Kp [bL] w wr ∧ Tab wr bT bL fr ∧ Hid (fr = holdAll fs env (l.take k) ∧ hoB fr (1000000 + k))) (fun i _ => n - (intOf i).toNat)
    case atStart => exact ⟨0, fs, Nat.zero_le _, rfl, kk1, t1, rfl, by simpa using HB.out⟩
    case round =>
      obtain ⟨k, fr, hk, rfl, kr, tr, hq⟩ := hrel
      by_cases hlt : k < n
      · obtain ⟨x, hx, hm⟩ := get_lt (l := l) (k := k) (by rw [HL.out]; exact hlt)
        obtain ⟨b, off, rfl, _, _, hc⟩ := rd_at (hr.kp kr HN.out) pvals_len (by omega) hx
        have c0 := hc 0 _ rfl
        have c1 := hc 1 _ rfl
        have c2 := hc 2 _ rfl
        rw [Nat.add_zero] at c0
        have HX := Lib.hid hx
        have ta := fun o => tr.kp ((Kp.refl [] wr).alloc o) (by simp) (by simp)
        have ko := fun o => kr.alloc o
        clear hc hx
        go_wp2_with (go_at_call 52; refine hold_any (ta _) _ _ (hoB_at hq.out.2 (by omega) _) (fun e7 f7 w7 q7 k7 t7 => ?_))
        refine ⟨⟨k + 1, f7, by omega, by go_num, (ko _).thn k7 (fun s hs => .inl hs), t7, Lib.hid ⟨?_, ?_⟩⟩, by simp [intOf]; omega⟩
        · have := foldl_snoc (f := fun fs (p : Pc) => (tHold fs env p.f).2) (b := fs) HX.out
          unfold holdAll
          rw [this]
          show f7 = (tHold (holdAll fs env (l.take k)) env x.f).2
          rw [← hq.out.1, q7.out]
        · have := tHold_hoB hq.out.2 env x.f
          rw [q7.out] at this
          have e : (1000000 : Int) + k + 1 = 1000000 + ((k + 1 : Nat) : Int) := by omega
          rw [← e]; exact this
      · have e : l.take k = l := List.take_of_length_le (by have := HL.out; omega)
        obtain rfl : n = k := by omega
        rw [e] at hq
        clear e
        go_wp2
        exact H.out fr _ (by simp only [Hid]; rw [hq.out.1]; simp) kr tr
end
end Go.Proofs.Ythlmfjfkkndboaa
