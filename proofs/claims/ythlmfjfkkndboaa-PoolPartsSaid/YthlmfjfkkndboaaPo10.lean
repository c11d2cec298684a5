/- PoolNil walked. -/
import Derived.Test.YthlmfjfkkndboaaPo9
import Derived.Lib.SlBytesConst
namespace Go.Proofs.Ythlmfjfkkndboaa
open Go.RowKit Go.Shelf
set_option linter.unusedVariables false
set_option linter.unusedSimpArgs false
set_option maxRecDepth 100000
theorem hoz {fs : List Fr} (h : hoIn fs 0) (f : Int) : tHolds fs f = 0 := by
  unfold tHolds
  cases hx : fat fs f with
  | none => rfl
  | some x => have := hoIn_at h hx; simp only; omega
theorem fsN_hoz (F i : Nat) : hoIn (fsN F i) 0 := fun y hy => by
  simp only [fsN, List.mem_append] at hy
  rcases hy with hy | hy
  · rw [List.eq_of_mem_replicate hy]; simp [f1, fz]
  · rw [List.eq_of_mem_replicate hy]; simp [fz]
theorem kw_cnt {k : KS} {m : Nat} (h : k.cnt m) (e f o : Int) (s : List UInt8) : ({ k with fs := (tWrite k.fs e f o s).2 } : KS).cnt m := ⟨h.ln, h.nx, h.c1, h.c2, h.co, h.dn, h.fl, tWrite_ho h.ho⟩
theorem maB_z {k : KS} (h : hoIn k.fs 0) (x : PSl) : maB k x = (x.pi == 0) := by unfold maB; rw [hoz h]; simp
/-- The pool of one slot, with its head. -/
def p1h (a b : Nat) : PS := ⟨[⟨0, 2, 0, 1, 1, a, b, false⟩], 0, 0⟩
theorem al_head {f e : Int} {p' : PS} {k' : KS} (h : HeadR (kzi 2 8 1) ⟨psN 1, 0, 0⟩ [120] f e p' k') : f = 0 ∧ e = 0 ∧ ∃ a b, p' = p1h a b ∧ k'.cnt 0 ∧ hoIn k'.fs 0 := by
  have hT : pTake (kzi 2 8 1) ⟨psN 1, 0, 0⟩ = (some 0, ⟨psN 1, 0, 0⟩) := by
    unfold pTake
    have : (psN 1).findIdx? (tkB (kzi 2 8 1)) = some 0 := by
      show [PSl.e 0].findIdx? _ = _
      simp [List.findIdx?_cons, tkB, PSl.e, maB, hoz (show hoIn (kzi 2 8 1).fs 0 from fsN_hoz 2 1)]
    rw [this]
  rcases h with ⟨h, _⟩ | ⟨_, h, _⟩ | ⟨_, i, x, h1, h2, h3, h4, h5, h6⟩
  · simp at h
  · rw [hT] at h; cases h
  · rw [hT] at h1 h2 h5
    simp only [Option.some.injEq] at h1
    subst h1
    have hx : x = PSl.e 0 := by
      have : [PSl.e 0][0]? = some x := h2
      simpa using this.symm
    subst hx
    refine ⟨h3, h4, _, _, h5, ?_, ?_⟩
    · rw [h6]; exact kw_cnt (kzi_cnt 2 8 1) _ _ _ _
    · rw [h6]; exact tWrite_ho (fsN_hoz 2 1)
theorem al_take (k : KS) (a b : Nat) : pTake k (p1h a b) = (none, p1h a b) := by
  unfold pTake
  have : (p1h a b).sl.findIdx? (tkB k) = none := by simp [p1h, List.findIdx?_cons, tkB]
  rw [this]
  simp [p1h, pRnd, maB]
theorem al_get {k k' : KS} {a b : Nat} {f e : Int} {p' : PS} (h : GetR k (p1h a b) 2 0 0 0 f e p' k') : f = 0 ∧ e = 80 ∧ p' = p1h a b ∧ k' = k := by
  have hf : (p1h a b).sl.findIdx? (hasB 2) = none := by simp [p1h, List.findIdx?_cons, hasB]
  rcases h with ⟨h, _⟩ | ⟨_, i, x, h, _⟩ | ⟨_, _, _, h1, h2, h3, h4⟩ | ⟨_, _, i, x, h, _⟩
  · omega
  · rw [hf] at h; cases h
  · rw [al_take] at h3; exact ⟨h1, h2, h3, h4⟩
  · rw [al_take] at h; cases h
theorem al_pins (a b : Nat) : pPins (p1h a b) 0 = 1 := by simp [pPins, p1h, List.findIdx?_cons, pinB]
theorem al_unpin (a b : Nat) : pUnpin (p1h a b) 0 = (0, ⟨[PSl.e 0], 0, 0⟩) := by simp [pUnpin, p1h, List.findIdx?_cons, pinB, PSl.less]
theorem al_pins0 : pPins ⟨[PSl.e 0], 0, 0⟩ 0 = 0 := by simp [pPins, List.findIdx?_cons, pinB, PSl.e]
theorem al_bd (a b : Nat) : (p1h a b).bd 1 := ⟨fun x hx => by simp [p1h] at hx; subst hx; simp, by simp [p1h], by simp [p1h]⟩
section
variable {R : Ending → World → Prop} {w w' : World}
theorem tb_mark (W : World) (C : Array Value) (t : Nat) (z : Nat × Nat) : Tb (W.alloc (.cells C t z)) t (some ⟨W.heap.size, 0, none⟩) C.toList := fun _ =>
  ⟨W.heap.size, 0, C.toList, rfl, ⟨z, by rw [Array.toArray_toList]; exact heap_alloc_new W _⟩, fun j u hu => by rw [Nat.zero_add]; exact hu⟩
set_option maxHeartbeats 4000000 in
theorem alive13_any (h : ∀ w', Kp [] w w' → R (.returned (.bool true)) w') : Calls Try.prog 26 #[] w R := by
  have H := Lib.hid h
  obtain ⟨B, hB⟩ : ∃ B, w.heap.size = B := ⟨_, rfl⟩
  have HN : Hid (∀ (R : Ending → World → Prop), (∀ kg w', Hid (∃ a, a.g = kg ∧ Kp [] w w' ∧ Kn w' B a (kz0 2 8)) → R (.returned (.tuple #[.pointer (some ⟨kg, 0, none⟩), .int .i64 0])) w') → Calls Try.prog 28 #[.int .i64 2, .int .i64 8] w R) := Lib.hid (fun R h => knew2_any 2 8 (by omega) (by omega) (by omega) (by omega) w (fun a w' k n => h a.g w' (Lib.hid ⟨a, rfl, k, by rw [← hB]; exact n⟩)))
  have HP : Hid (∀ (R : Ending → World → Prop) (w1 : World) (kg : Nat), Hid (∃ a, a.g = kg ∧ Kp [] w w1 ∧ Kn w1 B a (kz0 2 8)) → (∀ pg w', Hid (∃ ka pa, pa.g = pg ∧ Kp [] w w' ∧ KPl w' B ka (kzi 2 8 1) pa ⟨psN 1, 0, 0⟩) → R (.returned (.tuple #[.pointer (some ⟨pg, 0, none⟩), .int .i64 0])) w') → Calls Try.prog 29 #[.pointer (some ⟨kg, 0, none⟩), .int .i64 1] w1 R) := Lib.hid (fun R w1 kg hw h => by
    obtain ⟨a, rfl, k1, n1⟩ := hw.out
    exact pnew_any n1 1 (by omega) (by omega) (by omega) (fun ka' pa w' q z e1 e2 g1 g2 => h pa.g w' (Lib.hid ⟨ka', pa, rfl, q.old k1 (by omega), z⟩)))
  have HH : Hid (∀ (R : Ending → World → Prop) (w1 w2 : World) (pg g c : Nat), Hid (∃ ka pa, pa.g = pg ∧ Kp [] w w1 ∧ KPl w1 B ka (kzi 2 8 1) pa ⟨psN 1, 0, 0⟩) → Kp [] w1 w2 → Tb w2 5 (some ⟨g, 0, none⟩) (bts [120]) → (∀ w', Hid (∃ ka pa a b k, pa.g = pg ∧ Kp [] w w' ∧ KPl w' B ka k pa (p1h a b) ∧ k.cnt 0 ∧ hoIn k.fs 0) → R (.returned (.tuple #[.int .i64 0, .int .i64 0])) w') → Calls Try.prog 30 #[.pointer (some ⟨pg, 0, none⟩), .slice (some ⟨g, 0, none⟩) 1 c] w2 R) := Lib.hid (fun R w1 w2 pg g c hw k2 ht h => by
    obtain ⟨ka, pa, rfl, k1, z1⟩ := hw.out
    refine phead_any (z1.off0 k2) (kzi_cnt 2 8 1) (by omega) ht rfl (by omega) (fun e => by cases e) (fun f e p' k' ka' w' hr q z e1 e2 => ?_)
    obtain ⟨rfl, rfl, a, b, rfl, hc, ho⟩ := al_head hr.out
    exact h w' (Lib.hid ⟨ka', pa, a, b, k', rfl, q.old (k1.trans k2) (by omega), z, hc, ho⟩))
  have HG : Hid (∀ (R : Ending → World → Prop) (w1 : World) (pg : Nat), Hid (∃ ka pa a b k, pa.g = pg ∧ Kp [] w w1 ∧ KPl w1 B ka k pa (p1h a b) ∧ k.cnt 0 ∧ hoIn k.fs 0) → (∀ w', Hid (∃ ka pa a b k, pa.g = pg ∧ Kp [] w w' ∧ KPl w' B ka k pa (p1h a b)) → R (.returned (.tuple #[.int .i64 0, .int .i64 80])) w') → Calls Try.prog 32 #[.pointer (some ⟨pg, 0, none⟩), .int .i64 2, .int .i64 0, .complex .f64 0 0] w1 R) := Lib.hid (fun R w1 pg hw h => by
    obtain ⟨ka, pa, a, b, k, rfl, k1, z1, hc, ho⟩ := hw.out
    have hc1 : k.cnt 1 := ⟨by have := hc.ln; omega, by have := hc.nx; omega, by have := hc.c1; omega, by have := hc.c2; omega, by have := hc.co; omega, by have := hc.dn; omega, hc.fl, fun y hy => by have := hc.ho y hy; omega⟩
    refine pget_any z1 (al_bd a b) hc1 (by omega) 2 0 0 0 (fun f e p' k' ka' w' hr q z e1 e2 => ?_)
    obtain ⟨rfl, rfl, rfl, rfl⟩ := al_get hr.out
    exact h w' (Lib.hid ⟨ka', pa, a, b, _, rfl, q.old k1 (by omega), z⟩))
  have HI : Hid (∀ (R : Ending → World → Prop) (w1 : World) (pg : Nat), Hid (∃ ka pa a b k, pa.g = pg ∧ Kp [] w w1 ∧ KPl w1 B ka k pa (p1h a b)) → (∀ w', Hid (∃ ka pa a b k, pa.g = pg ∧ Kp [] w w' ∧ KPl w' B ka k pa (p1h a b)) → R (.returned (.int .i64 1)) w') → Calls Try.prog 36 #[.pointer (some ⟨pg, 0, none⟩), .int .i64 0] w1 R) := Lib.hid (fun R w1 pg hw h => by
    obtain ⟨ka, pa, a, b, k, rfl, k1, z1⟩ := hw.out
    refine ppins_any z1 0 (fun w' k' => ?_)
    rw [al_pins]
    exact h w' (Lib.hid ⟨ka, pa, a, b, k, rfl, k1.trans k', z1.off0 k'⟩))
  have HU : Hid (∀ (R : Ending → World → Prop) (w1 : World) (pg : Nat), Hid (∃ ka pa a b k, pa.g = pg ∧ Kp [] w w1 ∧ KPl w1 B ka k pa (p1h a b)) → (∀ w', Hid (∃ ka pa k, pa.g = pg ∧ Kp [] w w' ∧ KPl w' B ka k pa ⟨[PSl.e 0], 0, 0⟩) → R (.returned (.int .i64 0)) w') → Calls Try.prog 38 #[.pointer (some ⟨pg, 0, none⟩), .int .i64 0] w1 R) := Lib.hid (fun R w1 pg hw h => by
    obtain ⟨ka, pa, a, b, k, rfl, k1, z1⟩ := hw.out
    refine punpin_any z1 (al_bd a b) (by omega) 0 (fun w' q z => ?_)
    rw [al_unpin] at z ⊢
    exact h w' (Lib.hid ⟨ka, pa, k, rfl, q.old k1 (by omega), z⟩))
  have HJ : Hid (∀ (R : Ending → World → Prop) (w1 : World) (pg : Nat), Hid (∃ ka pa k, pa.g = pg ∧ Kp [] w w1 ∧ KPl w1 B ka k pa ⟨[PSl.e 0], 0, 0⟩) → (∀ w', Hid (Kp [] w w') → R (.returned (.int .i64 0)) w') → Calls Try.prog 36 #[.pointer (some ⟨pg, 0, none⟩), .int .i64 0] w1 R) := Lib.hid (fun R w1 pg hw h => by
    obtain ⟨ka, pa, k, rfl, k1, z1⟩ := hw.out
    refine ppins_any z1 0 (fun w' k' => ?_)
    rw [al_pins0]
    exact h w' (Lib.hid (k1.trans k')))
  have hcv := fun (W : World) (C : Array Value) (n c : Nat) => Lib.run_convert_bytes_const (P := Try.prog) W 44 5 C n c Try.underlying44 Try.underlying5
  clear h hB
  go_enter Try.func26, Try.ntmps26
  go_wp2_with (first | (go_at_call 28; ((refine HN.out _ ?_); intro kg w1 h1)) | (go_at_call 29; ((refine HP.out _ _ _ h1 ?_); intro pg w2 h2)) | (go_at_call 30; ((refine HH.out _ _ _ _ _ _ h2 ((Kp.refl _ _).alloc _) (tb_mark _ #[.int .u8 120] _ _) ?_); intro w3 h3)) | (go_at_call 32; ((refine HG.out _ _ _ h3 ?_); intro w4 h4)) | (go_at_call 36; ((refine HJ.out _ _ _ h6 ?_); intro w7 h7)) | (go_at_call 38; ((refine HU.out _ _ _ h5 ?_); intro w6 h6)) | (go_at_call 36; ((refine HI.out _ _ _ h4 ?_); intro w5 h5)))
  exact H.out _ h7.out
set_option maxHeartbeats 1000000 in
theorem pfind_nil (v : Value) (h : R (.returned (.pointer none)) w) : Calls Try.prog 72 #[.pointer none, v] w R := by
  go_enter Try.func72, Try.ntmps72
  go_wp2
  exact h
set_option maxHeartbeats 1000000 in
theorem ppinned_nil (f : Int) (h : ∀ w', Kp [] w w' → R (.returned (.pointer none)) w') : Calls Try.prog 84 #[.pointer none, .int .i64 f] w R := by
  have H := Lib.hid h
  clear h
  go_enter Try.func84, Try.ntmps84
  go_wp2_with (go_at_call 72; refine pfind_nil _ ?_)
  exact H.out _ ((Kp.refl _ _).alloc _)
set_option maxHeartbeats 1000000 in
theorem ppins_nil (f : Int) (h : ∀ w', Kp [] w w' → R (.returned (.int .i64 0)) w') : Calls Try.prog 36 #[.pointer none, .int .i64 f] w R := by
  have H := Lib.hid h
  clear h
  go_enter Try.func36, Try.ntmps36
  go_wp2_with (go_at_call 84; (refine ppinned_nil f ?_; intro w2 k2))
  exact H.out _ k2
set_option maxHeartbeats 1000000 in
theorem phas_nil (f : Int) (h : ∀ w', Kp [] w w' → R (.returned (.bool false)) w') : Calls Try.prog 42 #[.pointer none, .int .i64 f] w R := by
  have H := Lib.hid h
  clear h
  go_enter Try.func42, Try.ntmps42
  go_wp2_with (go_at_call 72; refine pfind_nil _ ?_)
  exact H.out _ ((Kp.refl _ _).alloc _)
set_option maxHeartbeats 1000000 in
theorem pfills_nil (h : R (.returned (.int .i64 0)) w) : Calls Try.prog 41 #[.pointer none] w R := by
  go_enter Try.func41, Try.ntmps41
  go_wp2
  exact h
set_option maxHeartbeats 1000000 in
theorem ppin_nil (f : Int) (h : R (.returned (.int .i64 3)) w) : Calls Try.prog 45 #[.pointer none, .int .i64 f] w R := by
  go_enter Try.func45, Try.ntmps45
  go_wp2
  exact h
set_option maxHeartbeats 1000000 in
theorem punpin_nil (f : Int) (h : R (.returned (.int .i64 3)) w) : Calls Try.prog 38 #[.pointer none, .int .i64 f] w R := by
  go_enter Try.func38, Try.ntmps38
  go_wp2
  exact h
set_option maxHeartbeats 1000000 in
theorem pforget_nil (v : Value) (h : R (.returned (.tuple #[])) w) : Calls Try.prog 39 #[.pointer none, v] w R := by
  go_enter Try.func39, Try.ntmps39
  go_wp2
  exact bodyPost_ret (v := .tuple #[]) (by simp [results, Try.results39, go_sem]) rfl h
set_option maxHeartbeats 1000000 in
theorem pget_nil (b n : Int) (h : ∀ w', Kp [] w w' → R (.returned (.tuple #[.int .i64 0, .int .i64 3])) w') : Calls Try.prog 32 #[.pointer none, .int .i64 b, .int .i64 n, .complex .f64 0 0] w R := by
  have H := Lib.hid h
  clear h
  go_enter Try.func32, Try.ntmps32
  go_wp2
  exact H.out _ ((Kp.refl _ _).alloc _)
set_option maxHeartbeats 1000000 in
theorem phead_nil (v : Value) (h : R (.returned (.tuple #[.int .i64 0, .int .i64 3])) w) : Calls Try.prog 30 #[.pointer none, v] w R := by
  go_enter Try.func30, Try.ntmps30
  go_wp2
  exact h
set_option maxHeartbeats 1000000 in
theorem ppart_nil (v : Value) (h : R (.returned (.tuple #[.complex .f64 0 0, .int .i64 3])) w) : Calls Try.prog 43 #[.pointer none, v] w R := by
  go_enter Try.func43, Try.ntmps43
  go_wp2
  exact h
set_option maxHeartbeats 1000000 in
theorem pnew_nil (n : Int) (h : R (.returned (.tuple #[.pointer none, .int .i64 3])) w) : Calls Try.prog 29 #[.pointer none, .int .i64 n] w R := by
  go_enter Try.func29, Try.ntmps29
  go_wp2
  exact h
set_option maxHeartbeats 4000000 in
theorem pnil_walk (n : Int) (h : ∀ w', Kp [] w w' → R (.returned (.bool true)) w') : Calls Try.prog 7 #[.int .i64 n] w R := by
  have H := Lib.hid h
  have HA : Hid (∀ (R : Ending → World → Prop), (∀ w', Kp [] w w' → R (.returned (.bool true)) w') → Calls Try.prog 26 #[] w R) := Lib.hid (fun R h => alive13_any h)
  clear h
  go_enter Try.func7, Try.ntmps7
  go_wp2_with (first | (go_at_call 26; ((refine HA.out _ ?_); intro w1 k1)) | (go_at_call 39; refine pforget_nil _ ?_) | (go_at_call 32; ((refine pget_nil _ _ ?_); intro w2 k2)) | (go_at_call 30; refine phead_nil _ ?_) | (go_at_call 43; refine ppart_nil _ ?_) | (go_at_call 29; refine pnew_nil _ ?_) | (go_at_call 45; refine ppin_nil _ ?_) | (go_at_call 38; refine punpin_nil _ ?_) | (go_at_call 36; ((refine ppins_nil _ ?_); intro w3 k3)) | (go_at_call 41; refine pfills_nil ?_) | (go_at_call 42; ((refine phas_nil _ ?_); intro w4 k4)))
  exact H.out _ (by
    have e1 : Kp [] w w2 := (k1.alloc _).trans k2
    have e2 : Kp [] w w3 := (e1.alloc _).trans k3
    exact e2.trans k4)
end
end Go.Proofs.Ythlmfjfkkndboaa
