/- PoolOnce walked. -/
import Derived.Test.YthlmfjfkkndboaaPo10
namespace Go.Proofs.Ythlmfjfkkndboaa
open Go.RowKit Go.Shelf
set_option linter.unusedVariables false
set_option linter.unusedSimpArgs false
set_option maxRecDepth 100000
theorem kcnt_mono {k : KS} {a b : Nat} (h : k.cnt a) (hab : a ≤ b) : k.cnt b := ⟨by have := h.ln; omega, by have := h.nx; omega, by have := h.c1; omega, by have := h.c2; omega, by have := h.co; omega, by have := h.dn; omega, h.fl, fun y hy => by have := h.ho y hy; omega⟩
/-- A kernel whose disk is new and whose frames have no holds. -/
structure KK (F N : Nat) (k : KS) : Prop where
  d : k.d = (kz0 F N).d
  ho : hoIn k.fs 0
  c : k.cnt 0
theorem KK.new (F N i : Nat) : KK F N (kzi F N i) := ⟨rfl, fsN_hoz F i, kzi_cnt F N i⟩
theorem KK.write {F N : Nat} {k : KS} (h : KK F N k) (e f o : Int) (s : List UInt8) : KK F N { k with fs := (tWrite k.fs e f o s).2 } := ⟨h.d, tWrite_ho h.ho, kw_cnt h.c _ _ _ _⟩
/-- A pool in the law's world. -/
def PO (F N : Nat) (w w' : World) (B pg : Nat) (p : PS) : Prop := ∃ ka pa k, pa.g = pg ∧ Kp [] w w' ∧ KPl w' B ka k pa p ∧ KK F N k
section
variable {R : Ending → World → Prop} {w w1 w' : World} {B pg F N : Nat} {p p' : PS}
theorem PO.off0 (h : PO F N w w1 B pg p) (hk : Kp [] w1 w') : PO F N w w' B pg p := by
  obtain ⟨ka, pa, k, e, k1, z, c⟩ := h
  exact ⟨ka, pa, k, e, k1.trans hk, z.off0 hk, c⟩
theorem PO.kp (h : PO F N w w1 B pg p) : Kp [] w w1 := by obtain ⟨ka, pa, k, e, k1, z, c⟩ := h; exact k1
theorem po_get (hB : w.heap.size ≤ B) (hw : Hid (PO F N w w1 B pg p)) (hbd : p.bd 2) (b n f0 : Int) (re im : Nat) (hres : ∀ k, KK F N k → ∀ f e p2 k', GetR k p b n re im f e p2 k' → f = f0 ∧ e = 0 ∧ p2 = p' ∧ KK F N k')
    (h : ∀ w', Hid (PO F N w w' B pg p') → R (.returned (.tuple #[.int .i64 f0, .int .i64 0])) w') : Calls Try.prog 32 #[.pointer (some ⟨pg, 0, none⟩), .int .i64 b, .int .i64 n, .complex .f64 re im] w1 R := by
  obtain ⟨ka, pa, k, rfl, k1, z, c⟩ := hw.out
  refine pget_any z hbd (kcnt_mono c.c (by omega)) (by omega) b n re im (fun f e p2 k' ka' w' hr q z' e1 e2 => ?_)
  obtain ⟨rfl, rfl, rfl, hk⟩ := hres k c f e p2 k' hr.out
  exact h w' (Lib.hid ⟨ka', pa, k', rfl, q.old k1 hB, z', hk⟩)
theorem po_unpin (hB : w.heap.size ≤ B) (hw : Hid (PO F N w w1 B pg p)) (hbd : p.bd 2) (f e0 : Int) (hres : pUnpin p f = (e0, p'))
    (h : ∀ w', Hid (PO F N w w' B pg p') → R (.returned (.int .i64 e0)) w') : Calls Try.prog 38 #[.pointer (some ⟨pg, 0, none⟩), .int .i64 f] w1 R := by
  obtain ⟨ka, pa, k, rfl, k1, z, c⟩ := hw.out
  refine punpin_any z hbd (by omega) f (fun w' q z' => ?_)
  rw [hres] at z' ⊢
  exact h w' (Lib.hid ⟨ka, pa, k, rfl, q.old k1 hB, z', c⟩)
theorem po_pins (hw : Hid (PO F N w w1 B pg p)) (f n0 : Int) (hres : pPins p f = n0) (h : ∀ w', Hid (PO F N w w' B pg p) → R (.returned (.int .i64 n0)) w') : Calls Try.prog 36 #[.pointer (some ⟨pg, 0, none⟩), .int .i64 f] w1 R := by
  obtain ⟨ka, pa, k, rfl, k1, z, c⟩ := hw.out
  refine ppins_any z f (fun w' k' => ?_)
  rw [hres]
  exact h w' (Lib.hid ⟨ka, pa, k, rfl, k1.trans k', z.off0 k', c⟩)
theorem po_has (hw : Hid (PO F N w w1 B pg p)) (b : Int) (t : Bool) (hres : (p.sl.findIdx? (hasB b)).isSome = t) (h : ∀ w', Hid (PO F N w w' B pg p) → R (.returned (.bool t)) w') : Calls Try.prog 42 #[.pointer (some ⟨pg, 0, none⟩), .int .i64 b] w1 R := by
  obtain ⟨ka, pa, k, rfl, k1, z, c⟩ := hw.out
  refine phas_any z b (fun w' k' => ?_)
  rw [hres]
  exact h w' (Lib.hid ⟨ka, pa, k, rfl, k1.trans k', z.off0 k', c⟩)
theorem po_fills (hw : Hid (PO F N w w1 B pg p)) (h : R (.returned (.int .i64 p.fills)) w1) : Calls Try.prog 41 #[.pointer (some ⟨pg, 0, none⟩)] w1 R := by
  obtain ⟨ka, pa, k, rfl, k1, z, c⟩ := hw.out
  exact pfills_any z h
theorem po_fgt (hB : w.heap.size ≤ B) (hw : Hid (PO F N w w1 B pg p)) {A : Option Addr} {n c : Nat} {bl : List Int} (hr : Tb w1 3 A (ints bl)) (hl : bl.length = n) (hn : n ≤ 1000000) (hres : pForget p bl = p')
    (h : ∀ w', Hid (PO F N w w' B pg p') → R (.returned (.tuple #[])) w') : Calls Try.prog 39 #[.pointer (some ⟨pg, 0, none⟩), .slice A n c] w1 R := by
  obtain ⟨ka, pa, k, rfl, k1, z, c⟩ := hw.out
  refine pfgt_any z hr hl hn (fun w' q z' => ?_)
  rw [hres] at z'
  exact h w' (Lib.hid ⟨ka, pa, k, rfl, q.old k1 hB, z', c⟩)
end
/-! ### the law's pool -/
def sA (b pi kd : Int) : PSl := ⟨0, kd, b, pi, 256, 0, 0, true⟩
def oP (x : PSl) (n : Int) : PS := ⟨[x, PSl.e 1, PSl.e 2], 0, n⟩
theorem psN3 : (⟨psN 3, 0, 0⟩ : PS) = oP (PSl.e 0) 0 := rfl
theorem dr9 {k : KS} (h : KK 4 12 k) {b : Int} (h0 : 0 ≤ b) (h1 : b < 9) : (dRead k.d 1 b).1 = 0 := by
  have hm : dMay k.d 1 b = 0 := by
    rw [h.d]
    rcases (by omega : b = 0 ∨ b = 1 ∨ b = 2 ∨ b = 3 ∨ b = 4 ∨ b = 5 ∨ b = 6 ∨ b = 7 ∨ b = 8) with rfl | rfl | rfl | rfl | rfl | rfl | rfl | rfl | rfl <;> rfl
  unfold dRead
  rw [if_pos hm]
theorem on_take {k : KS} (h : KK 4 12 k) (n : Int) : pTake k (oP (PSl.e 0) n) = (some 0, oP (PSl.e 0) n) := by
  unfold pTake
  have : (oP (PSl.e 0) n).sl.findIdx? (tkB k) = some 0 := by simp [oP, List.findIdx?_cons, tkB, PSl.e, maB, hoz h.ho]
  rw [this]
theorem on_get1 (n b : Int) (h0 : 0 ≤ b) (h1 : b < 9) (k : KS) (h : KK 4 12 k) (f e : Int) (p2 : PS) (k' : KS) (hr : GetR k (oP (PSl.e 0) n) b 256 0 0 f e p2 k') : f = 0 ∧ e = 0 ∧ p2 = oP (sA b 1 1) (n + 1) ∧ KK 4 12 k' := by
  have hf : (oP (PSl.e 0) n).sl.findIdx? (hasB b) = none := by simp [oP, List.findIdx?_cons, hasB, PSl.e]
  rcases hr with ⟨g, _⟩ | ⟨_, i, x, g, _⟩ | ⟨_, _, g, _⟩ | ⟨_, _, i, x, g1, g2, ⟨g3, _⟩ | ⟨_, g4, g5, g6, g7⟩⟩
  · omega
  · rw [hf] at g; cases g
  · rw [on_take h] at g; cases g
  · exact absurd (dr9 h h0 h1) g3
  · rw [on_take h] at g1 g2 g6
    simp only [Option.some.injEq] at g1
    subst g1
    have hx : x = PSl.e 0 := by
      have : (oP (PSl.e 0) n).sl[0]? = some x := g2
      simpa [oP] using this.symm
    subst hx
    exact ⟨g4, g5, g6, by rw [g7]; exact h.write _ _ _ _⟩
theorem on_get2 (n b : Int) (k : KS) (h : KK 4 12 k) (f e : Int) (p2 : PS) (k' : KS) (hr : GetR k (oP (sA b 1 1) n) b 256 0 0 f e p2 k') : f = 0 ∧ e = 0 ∧ p2 = oP (sA b 2 1) n ∧ KK 4 12 k' := by
  have hf : (oP (sA b 1 1) n).sl.findIdx? (hasB b) = some 0 := by simp [oP, sA, List.findIdx?_cons, hasB]
  rcases hr with ⟨g, _⟩ | ⟨_, i, x, g, g2, g3, g4, g5, g6⟩ | ⟨_, g, _⟩ | ⟨_, g, _⟩
  · omega
  · rw [hf] at g
    simp only [Option.some.injEq] at g
    subst g
    have hx : x = sA b 1 1 := by
      have : (oP (sA b 1 1) n).sl[0]? = some x := g2
      simpa [oP] using this.symm
    subst hx
    exact ⟨g3, g4, g5, by rw [g6]; exact h⟩
  · rw [hf] at g; cases g
  · rw [hf] at g; cases g
theorem on_takeC {k : KS} (h : KK 4 12 k) (b n : Int) : pTake k (oP (sA b 1 3) n) = (some 1, oP (sA b 1 3) n) := by
  unfold pTake
  have : (oP (sA b 1 3) n).sl.findIdx? (tkB k) = some 1 := by simp [oP, sA, List.findIdx?_cons, tkB, PSl.e, maB, hoz h.ho]
  rw [this]
def oC (b n : Int) : PS := ⟨[sA b 1 3, ⟨1, 1, b, 1, 256, 0, 0, true⟩, PSl.e 2], 0, n⟩
theorem on_getC (n b : Int) (h0 : 0 ≤ b) (h1 : b < 9) (k : KS) (h : KK 4 12 k) (f e : Int) (p2 : PS) (k' : KS) (hr : GetR k (oP (sA b 1 3) n) b 256 0 0 f e p2 k') : f = 1 ∧ e = 0 ∧ p2 = oC b (n + 1) ∧ KK 4 12 k' := by
  have hf : (oP (sA b 1 3) n).sl.findIdx? (hasB b) = none := by simp [oP, sA, List.findIdx?_cons, hasB, PSl.e]
  rcases hr with ⟨g, _⟩ | ⟨_, i, x, g, _⟩ | ⟨_, _, g, _⟩ | ⟨_, _, i, x, g1, g2, ⟨g3, _⟩ | ⟨_, g4, g5, g6, g7⟩⟩
  · omega
  · rw [hf] at g; cases g
  · rw [on_takeC h] at g; cases g
  · exact absurd (dr9 h h0 h1) g3
  · rw [on_takeC h] at g1 g2 g6
    simp only [Option.some.injEq] at g1
    subst g1
    have hx : x = PSl.e 1 := by
      have : (oP (sA b 1 3) n).sl[1]? = some x := g2
      simpa [oP] using this.symm
    subst hx
    exact ⟨g4, g5, g6, by rw [g7]; exact h.write _ _ _ _⟩
theorem on_un2 (b n : Int) : pUnpin (oP (sA b 2 1) n) 0 = (0, oP (sA b 1 1) n) := by simp [pUnpin, oP, sA, List.findIdx?_cons, pinB, PSl.less]
theorem on_un1 (b n : Int) : pUnpin (oP (sA b 1 1) n) 0 = (0, oP (sA b 0 1) n) := by simp [pUnpin, oP, sA, List.findIdx?_cons, pinB, PSl.less]
theorem on_pins (b n kd : Int) : pPins (oP (sA b 1 kd) n) 0 = 1 := by simp [pPins, oP, sA, List.findIdx?_cons, pinB]
theorem on_pinsC (b n : Int) : pPins (oC b n) 0 = 1 := by simp [pPins, oC, sA, List.findIdx?_cons, pinB]
theorem on_has (b n : Int) : ((oP (sA b 1 1) n).sl.findIdx? (hasB b)).isSome = true := by simp [oP, sA, List.findIdx?_cons, hasB]
theorem on_fgtB (b n : Int) : pForget (oP (sA b 0 1) n) [b] = oP (PSl.e 0) n := by simp [pForget, oP, sA, fgt, PSl.e]
theorem on_fgtA (b n : Int) : pForget (oP (sA b 1 1) n) [b] = oP (sA b 1 3) n := by simp [pForget, oP, sA, fgt, PSl.e]
theorem on_bd (b pi kd n : Int) (h0 : 0 ≤ pi) (h1 : pi ≤ 2) (h2 : 0 ≤ n) (h3 : n ≤ 2) : (oP (sA b pi kd) n).bd 2 := ⟨fun x hx => by simp [oP] at hx; rcases hx with rfl | rfl | rfl <;> simp [sA, PSl.e] <;> omega, h2, h3⟩
theorem on_bdE (n : Int) (h2 : 0 ≤ n) (h3 : n ≤ 2) : (oP (PSl.e 0) n).bd 2 := ⟨fun x hx => by simp [oP] at hx; rcases hx with rfl | rfl | rfl <;> simp [PSl.e], h2, h3⟩
section
variable {R : Ending → World → Prop} {w w' : World}
set_option maxHeartbeats 4000000 in
theorem ponce_walk (blk tm : Nat) (hb : blk < 256) (ht : tm < 256) (pin : Bool) (h : ∀ w', Kp [] w w' → R (.returned (.bool true)) w') : Calls Try.prog 5 #[.int .u8 blk, .int .u8 tm, .bool pin] w R := by
  have H := Lib.hid h
  obtain ⟨B, hBw⟩ : ∃ B, w.heap.size = B := ⟨_, rfl⟩
  have hB : w.heap.size ≤ B := by omega
  obtain ⟨b, hbb⟩ : ∃ b : Int, ((blk % 9 : Nat) : Int) = b := ⟨_, rfl⟩
  have hb0 : 0 ≤ b := by omega
  have hb9 : b < 9 := by omega
  obtain ⟨M, hM⟩ : ∃ M : Nat, tm % 20 = M := ⟨_, rfl⟩
  have hM20 : M < 20 := by omega
  have ht1 : (tm : Int).tmod 20 = (M : Int) := by rw [Int.tmod_eq_emod_of_nonneg (by omega)]; omega
  have hb1 : (blk : Int).tmod 9 = b := by rw [Int.tmod_eq_emod_of_nonneg (by omega)]; omega
  have HA : Hid (∀ (R : Ending → World → Prop), (∀ w', Kp [] w w' → R (.returned (.bool true)) w') → Calls Try.prog 26 #[] w R) := Lib.hid (fun R h => alive13_any h)
  have HN : Hid (∀ (R : Ending → World → Prop) (w1 : World), Kp [] w w1 → (∀ kg w', Hid (∃ a, a.g = kg ∧ Kp [] w w' ∧ Kn w' w1.heap.size a (kz0 4 12)) → R (.returned (.tuple #[.pointer (some ⟨kg, 0, none⟩), .int .i64 0])) w') → Calls Try.prog 28 #[.int .i64 4, .int .i64 12] w1 R) := Lib.hid (fun R w1 k1 h => knew2_any 4 12 (by omega) (by omega) (by omega) (by omega) w1 (fun a w' k n => h a.g w' (Lib.hid ⟨a, rfl, k1.trans k, n⟩)))
  have HP : Hid (∀ (R : Ending → World → Prop) (w1 : World) (kg B1 : Nat), w.heap.size ≤ B1 → Hid (∃ a, a.g = kg ∧ Kp [] w w1 ∧ Kn w1 B1 a (kz0 4 12)) → (∀ pg w', Hid (PO 4 12 w w' B1 pg (oP (PSl.e 0) 0)) → R (.returned (.tuple #[.pointer (some ⟨pg, 0, none⟩), .int .i64 0])) w') → Calls Try.prog 29 #[.pointer (some ⟨kg, 0, none⟩), .int .i64 3] w1 R) := Lib.hid (fun R w1 kg B1 hB1 hw h => by
    obtain ⟨a, rfl, k1, n1⟩ := hw.out
    exact pnew_any n1 3 (by omega) (by omega) (by omega) (fun ka' pa w' q z e1 e2 g1 g2 => h pa.g w' (Lib.hid ⟨ka', pa, _, rfl, q.old k1 hB1, z, KK.new 4 12 3⟩)))
  clear h hbb hM hBw
  go_enter Try.func5, Try.ntmps5
  go_upto_region 7 with (first | (go_at_call 26; ((refine HA.out _ ?_); intro w0 k0)) | (go_at_call 28; ((refine HN.out _ _ k0 ?_); intro kg w1 h1)) | (go_at_call 29; ((refine HP.out _ _ _ _ k0.size h1 ?_); intro pg w2 h2)) | (go_at_call 32; ((refine po_get k0.size h2 (on_bdE 0 (by omega) (by omega)) b 256 0 0 0 (on_get1 0 b hb0 hb9) ?_); intro w3 h3)))
  have hw9 := k0.size
  obtain ⟨B1, hB1⟩ : ∃ B1, w0.heap.size = B1 := ⟨_, rfl⟩
  rw [hB1] at h3 hw9
  refine gen_worldK (fun W => Hid (PO 4 12 w W B1 pg (oP (sA b 1 1) 1))) h3 ?_
  intro W hW
  clear h1 h2 h3 k0 HA HN HP hB1
  go_wp2
  go_loopw [14, 15, 16] (fun iv _ _ wr => ∃ j : Nat, j ≤ M ∧ iv = .int .i64 j ∧ Hid (PO 4 12 w wr B1 pg (oP (sA b 1 1) 1))) (fun iv _ _ _ => M - (intOf iv).toNat)
  case atStart => exact ⟨0, Nat.zero_le _, rfl, hW⟩
  case round =>
    obtain ⟨j, hj, rfl, hw⟩ := hrel
    by_cases hlt : j < M
    · go_wp2_with (first | (go_at_call 32; ((refine po_get hw9 hw (on_bd b 1 1 1 (by omega) (by omega) (by omega) (by omega)) b 256 0 0 0 (on_get2 1 b) ?_); intro w4 h4)) | (go_at_call 38; ((refine po_unpin hw9 h4 (on_bd b 2 1 1 (by omega) (by omega) (by omega) (by omega)) 0 0 (on_un2 b 1) ?_); intro w5 h5)))
      exact ⟨⟨j + 1, by omega, by go_num, h5⟩, by simp [intOf]; omega⟩
    · obtain rfl : j = M := by omega
      cases pin with
      | true =>
        go_wp2_with (first | (go_at_call 41; (refine po_fills h9 ?_)) | (go_at_call 36; ((refine po_pins h9 0 1 (on_pinsC b 2) ?_); intro w10 h10)) | (go_at_call 32; ((refine po_get hw9 h8 (on_bd b 1 3 1 (by omega) (by omega) (by omega) (by omega)) b 256 1 0 0 (on_getC 1 b hb0 hb9) ?_); intro w9 h9)) | (go_at_call 39; ((refine po_fgt hw9 (Lib.hid (h7.out.off0 ((Kp.refl _ _).alloc _))) (bl := [b]) ((Ow.lit _ _ 1 #[.int .i64 b] 1 (by decide) rfl).cast rfl rfl).tb rfl (by omega) (on_fgtA b 1) ?_); intro w8 h8)) | (go_at_call 42; ((refine po_has h6 b true (on_has b 1) ?_); intro w7 h7)) | (go_at_call 36; ((refine po_pins hw 0 1 (on_pins b 1 1) ?_); intro w6 h6)) | (go_at_call 41; (refine po_fills hw ?_)))
        exact H.out _ h10.out.kp
      | false =>
        go_wp2_with (first | (go_at_call 41; (refine po_fills h9 ?_)) | (go_at_call 32; ((refine po_get hw9 h8 (on_bdE 1 (by omega) (by omega)) b 256 0 0 0 (on_get1 1 b hb0 hb9) ?_); intro w9 h9)) | (go_at_call 39; ((refine po_fgt hw9 (Lib.hid (h71.out.off0 ((Kp.refl _ _).alloc _))) (bl := [b]) ((Ow.lit _ _ 1 #[.int .i64 b] 1 (by decide) rfl).cast rfl rfl).tb rfl (by omega) (on_fgtB b 1) ?_); intro w8 h8)) | (go_at_call 38; ((refine po_unpin hw9 h7 (on_bd b 1 1 1 (by omega) (by omega) (by omega) (by omega)) 0 0 (on_un1 b 1) ?_); intro w71 h71)) | (go_at_call 42; ((refine po_has h6 b true (on_has b 1) ?_); intro w7 h7)) | (go_at_call 36; ((refine po_pins hw 0 1 (on_pins b 1 1) ?_); intro w6 h6)) | (go_at_call 41; (refine po_fills hw ?_)))
        exact H.out _ h9.out.kp
end
end Go.Proofs.Ythlmfjfkkndboaa
