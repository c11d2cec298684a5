/- The law's own helpers: the document's files and directories as the program's, and back. -/
import Derived.Test.YtnpkfhnhcadgeaaDoorIn15
namespace Go.Proofs.YtnpkfhnhcadgeaaDoor
open Go.RowKit
set_option linter.unusedVariables false
set_option linter.unusedSimpArgs false
set_option maxRecDepth 100000
def pV (p : Int × Int) : List Value := [.int .i64 p.1, .int .i64 p.2]
def cOf (p : Int × Int) : Nat × Nat := (floatOfInt .f64 p.1, floatOfInt .f64 p.2)
theorem elt_dent : Elt Tryd.prog 40 77 (.agg #[.string ByteArray.empty, .int .i64 0]) 2 24 := ⟨Tryd.underlying40, by kernel_rfl, rfl, by decide, by decide⟩
theorem elt_pair : Elt Tryd.prog 41 80 (.agg #[.int .i64 0, .int .i64 0]) 2 16 := ⟨Tryd.underlying41, by kernel_rfl, rfl, by decide, by decide⟩
section
variable {R : Ending → World → Prop} {w w' w0 : World}
set_option maxHeartbeats 2000000 in
theorem dir_any {A : Option Addr} {n c : Nat} {l : List (List UInt8 × Int)} (hr : Rd w [] A (l.flatMap eV)) (hl : l.length = n) (hn : n ≤ 1000000)
    (h : ∀ A' c' w', Kp [] w w' → Ow w' 65 2 A' n c' (l.flatMap eV) → R (.returned (.slice A' n c')) w') : Calls Tryd.prog 12 #[.slice A n c] w R := by
  have H := Lib.hid h
  have HL := Lib.hid hl
  clear h hl
  go_enter Tryd.func12, Tryd.ntmps12
  go_wp2
  go_loopw [3, 4] (fun v i wr => ∃ (k : Nat) (A' : Option Addr) (c' : Nat), k ≤ n ∧ i = .int .i64 k ∧ v = .slice A' k c' ∧ Kp [] w wr ∧ Ow wr 65 2 A' k c' ((l.take k).flatMap eV) ∧ (∀ b ∈ bks A', w.heap.size ≤ b)) (fun _ i _ => n - (intOf i).toNat)
  case atStart => exact ⟨0, none, 0, Nat.zero_le _, rfl, rfl, Kp.refl _ _, Ow.nil, by simp [bks]⟩
  case round =>
    obtain ⟨k, A', c', hk, rfl, rfl, kr, ho, hA⟩ := hrel
    by_cases hlt : k < n
    · obtain ⟨x, hx, hm⟩ := get_ltI (l := l) (k := k) (by rw [HL.out]; exact hlt)
      obtain ⟨b, off, rfl, _, _, hc⟩ := rd_at (hr.kp kr (by simp)) eV_len (by omega) hx
      have c0 := hc 0 _ rfl
      have c1 := hc 1 _ rfl
      rw [Nat.add_zero] at c0
      have HX := Lib.hid hx
      clear hc hx
      go_wp2_with (at_builtin; refine wpList_app _ rfl (.tmp 11) (.tmp 16) _ rfl elt_ent A' k c' _ rfl (ho.alloc _) [] (some ⟨wr.heap.size, 0, none⟩) 1 1 (eV x) rfl (Rd.of_bk (Bk.newAt rfl _ _) (by simp)) rfl (eV_one x) (by omega) ?_; intro A2 c2' w2 ho2 hk2 hA2)
      exact ⟨⟨k + 1, A2, c2', by omega, by go_num, rfl, (kr.alloc _).thn hk2 (fun s hs => .inr (hA s hs)), ho2.cast rfl (flat_snoc HX.out).symm, bks_app hA2 hA (by have := kr.size; simp; omega)⟩, by simp [intOf]; omega⟩
    · have e : l.take k = l := List.take_of_length_le (by have := HL.out; omega)
      obtain rfl : k = n := by omega
      rw [e] at ho
      clear e
      go_wp2
      exact H.out _ _ _ kr ho
set_option maxHeartbeats 2000000 in
theorem undir_any {A : Option Addr} {n c : Nat} {l : List (List UInt8 × Int)} (hr : Rd w [] A (l.flatMap eV)) (hl : l.length = n) (hn : n ≤ 1000000)
    (h : ∀ A' c' w', Kp [] w w' → Ow w' 77 2 A' n c' (l.flatMap eV) → R (.returned (.slice A' n c')) w') : Calls Tryd.prog 14 #[.slice A n c] w R := by
  have H := Lib.hid h
  have HL := Lib.hid hl
  clear h hl
  go_enter Tryd.func14, Tryd.ntmps14
  go_wp2
  go_loopw [3, 4] (fun v i wr => ∃ (k : Nat) (A' : Option Addr) (c' : Nat), k ≤ n ∧ i = .int .i64 k ∧ v = .slice A' k c' ∧ Kp [] w wr ∧ Ow wr 77 2 A' k c' ((l.take k).flatMap eV) ∧ (∀ b ∈ bks A', w.heap.size ≤ b)) (fun _ i _ => n - (intOf i).toNat)
  case atStart => exact ⟨0, none, 0, Nat.zero_le _, rfl, rfl, Kp.refl _ _, Ow.nil, by simp [bks]⟩
  case round =>
    obtain ⟨k, A', c', hk, rfl, rfl, kr, ho, hA⟩ := hrel
    by_cases hlt : k < n
    · obtain ⟨x, hx, hm⟩ := get_ltI (l := l) (k := k) (by rw [HL.out]; exact hlt)
      obtain ⟨b, off, rfl, _, _, hc⟩ := rd_at (hr.kp kr (by simp)) eV_len (by omega) hx
      have c0 := hc 0 _ rfl
      have c1 := hc 1 _ rfl
      rw [Nat.add_zero] at c0
      have HX := Lib.hid hx
      clear hc hx
      go_wp2_with (at_builtin; refine wpList_app _ rfl (.tmp 11) (.tmp 16) _ rfl elt_dent A' k c' _ rfl (ho.alloc _) [] (some ⟨wr.heap.size, 0, none⟩) 1 1 (eV x) rfl (Rd.of_bk (Bk.newAt rfl _ _) (by simp)) rfl (eV_one x) (by omega) ?_; intro A2 c2' w2 ho2 hk2 hA2)
      exact ⟨⟨k + 1, A2, c2', by omega, by go_num, rfl, (kr.alloc _).thn hk2 (fun s hs => .inr (hA s hs)), ho2.cast rfl (flat_snoc HX.out).symm, bks_app hA2 hA (by have := kr.size; simp; omega)⟩, by simp [intOf]; omega⟩
    · have e : l.take k = l := List.take_of_length_le (by have := HL.out; omega)
      obtain rfl : k = n := by omega
      rw [e] at ho
      clear e
      go_wp2
      exact H.out _ _ _ kr ho
set_option maxHeartbeats 2000000 in
/-- Two lists of the same numbers. -/
theorem ints_same {A B : Option Addr} {n c d : Nat} {l : List Int} (ha : Rd w [] A (l.flatMap iv)) (hb : Rd w [] B (l.flatMap iv)) (hl : l.length = n) (hn : n ≤ 1000000) (h : ∀ w', Kp [] w w' → R (.returned (.bool true)) w') :
    Calls Tryd.prog 28 #[.slice A n c, .slice B n d] w R := by
  have H := Lib.hid h
  have HL := Lib.hid hl
  have HA := Lib.hid ha
  have HB := Lib.hid hb
  clear h hl ha hb
  go_enter Tryd.func28, Tryd.ntmps28
  go_wp2
  go_loopw [5] (fun i wr => ∃ (k : Nat), k ≤ n ∧ i = .int .i64 k ∧ Hid (Kp [] w wr)) (fun i _ => n - (intOf i).toNat)
  case atStart => exact ⟨0, Nat.zero_le _, rfl, Lib.hid (Kp.refl _ _)⟩
  case round =>
    obtain ⟨k, hk, rfl, kr⟩ := hrel
    by_cases hlt : k < n
    · obtain ⟨x, hx, hm⟩ := get_ltI (l := l) (k := k) (by rw [HL.out]; exact hlt)
      obtain ⟨b, off, rfl, _, _, hc⟩ := rd_at (F := iv) (K := 1) (HA.out.kp kr.out (by simp)) (fun _ => rfl) (by omega) hx
      obtain ⟨b2, off2, rfl, _, _, hc2⟩ := rd_at (F := iv) (K := 1) (HB.out.kp kr.out (by simp)) (fun _ => rfl) (by omega) hx
      have c0 := hc 0 _ rfl
      have c1 := hc2 0 _ rfl
      rw [Nat.add_zero, Nat.mul_one] at c0 c1
      have hk0 : (0 : Int) ≤ k := by omega
      clear hc hc2 hx hm
      go_upto_region 6 with (fail)
      go_quiet (fail)
      go_wp2
      exact ⟨⟨k + 1, by omega, by go_num, Lib.hid (kr.out.drewN _)⟩, by simp [intOf]; omega⟩
    · obtain rfl : k = n := by omega
      go_wp2
      exact H.out _ kr.out
set_option maxHeartbeats 2000000 in
theorem sdir_same {A B : Option Addr} {n c d : Nat} {l : List (List UInt8 × Int)} (ha : Rd w [] A (l.flatMap eV)) (hb : Rd w [] B (l.flatMap eV)) (hl : l.length = n) (hn : n ≤ 1000000) (h : ∀ w', Kp [] w w' → R (.returned (.bool true)) w') :
    Calls Tryd.prog 13 #[.slice A n c, .slice B n d] w R := by
  have H := Lib.hid h
  have HL := Lib.hid hl
  have HA := Lib.hid ha
  have HB := Lib.hid hb
  clear h hl ha hb
  go_enter Tryd.func13, Tryd.ntmps13
  go_wp2
  go_loopw [5] (fun i wr => ∃ (k : Nat), k ≤ n ∧ i = .int .i64 k ∧ Hid (Kp [] w wr)) (fun i _ => n - (intOf i).toNat)
  case atStart => exact ⟨0, Nat.zero_le _, rfl, Lib.hid (Kp.refl _ _)⟩
  case round =>
    obtain ⟨k, hk, rfl, kr⟩ := hrel
    by_cases hlt : k < n
    · obtain ⟨x, hx, hm⟩ := get_ltI (l := l) (k := k) (by rw [HL.out]; exact hlt)
      obtain ⟨b, off, rfl, _, _, hc⟩ := rd_at (HA.out.kp kr.out (by simp)) eV_len (by omega) hx
      obtain ⟨b2, off2, rfl, _, _, hc2⟩ := rd_at (HB.out.kp kr.out (by simp)) eV_len (by omega) hx
      have c0 := hc 0 _ rfl
      have c1 := hc2 0 _ rfl
      have c2 := hc 1 _ rfl
      have c3 := hc2 1 _ rfl
      rw [Nat.add_zero] at c0 c1
      have hk0 : (0 : Int) ≤ k := by omega
      clear hc hc2 hx hm
      go_upto_region 6 with (fail)
      go_quiet (fail)
      go_wp2
      exact ⟨⟨k + 1, by omega, by go_num, Lib.hid (kr.out.drewN _)⟩, by simp [intOf]; omega⟩
    · obtain rfl : k = n := by omega
      go_wp2
      exact H.out _ kr.out
set_option maxHeartbeats 2000000 in
theorem sroot_same {A B : Option Addr} {n c d : Nat} {l : List Int} (g : Int) (ha : Rd w [] A (l.flatMap iv)) (hb : Rd w [] B (l.flatMap iv)) (hl : l.length = n) (hn : n ≤ 1000000) (h : ∀ w', Kp [] w w' → R (.returned (.bool true)) w') :
    Calls Tryd.prog 10 #[.agg #[.int .i64 g, .slice A n c], .agg #[.int .i64 g, .slice B n d]] w R := by
  have H := Lib.hid h
  have HI : Hid (∀ (R : Ending → World → Prop) (w1 : World), Kp [] w w1 → (∀ w', Kp [] w w' → R (.returned (.bool true)) w') → Calls Tryd.prog 28 #[.slice A n c, .slice B n d] w1 R) := Lib.hid (fun R w1 k1 h => ints_same (ha.kp k1 (by simp)) (hb.kp k1 (by simp)) hl hn (fun w' k' => h w' (k1.trans k')))
  clear h ha hb hl
  go_enter Tryd.func10, Tryd.ntmps10
  go_wp2_with (go_at_call 28; (with_reducible refine HI.out _ _ (((Kp.refl _ _).alloc _).alloc _) ?_; intro w2 k2))
  exact H.out _ k2
set_option maxHeartbeats 2000000 in
theorem span_any (ver mt : Int) (L : Nat) {A B : Option Addr} {n c m d : Nat} (i : Nat) (hi : i < n) (hn : n ≤ 32) (hL : L ≤ 8192) (h : ∀ w', Kp [] w w' → R (.returned (.int .i64 (min (L - 256 * i) 256 : Nat))) w') :
    Calls Tryd.prog 19 #[.agg #[.int .i64 ver, .int .i64 mt, .int .i64 L, .slice A n c, .slice B m d], .int .i64 i] w R := by
  have H := Lib.hid h
  obtain ⟨V, hV⟩ : ∃ V, min (L - 256 * i) 256 = V := ⟨_, rfl⟩
  rw [hV] at H
  have h1 : IntKind.i64.wrap ((i : Int) * 256) = i * 256 := by rw [IntKind.wrap_i64]; omega
  have h2 : IntKind.i64.wrap ((L : Int) - i * 256) = (L : Int) - i * 256 := by rw [IntKind.wrap_i64]; omega
  have h3 : min (max ((L : Int) - i * 256) 0) 256 = V := by omega
  have h4 : ((i : Int) ≥ n) = False := by simp; omega
  have h5 : ((i : Int) ≥ 32) = False := by simp; omega
  have HV := Lib.hid hV
  clear h hV
  go_enter Tryd.func19, Tryd.ntmps19
  go_wp2
  exact H.out _ ((Kp.refl _ _).alloc _)
set_option maxHeartbeats 2000000 in
theorem number_any01 (p : Int × Int) (h : ∀ w', Kp [] w w' → R (.returned (.complex .f64 (cOf p).1 (cOf p).2)) w') : Calls Tryd.prog 34 #[.agg #[.int .i64 p.1, .int .i64 p.2]] w R := by
  have H := Lib.hid h
  obtain ⟨a, b⟩ := p
  unfold cOf at H
  clear h
  go_enter Tryd.func34, Tryd.ntmps34
  go_wp2
  exact H.out _ ((Kp.refl _ _).alloc _)
end
end Go.Proofs.YtnpkfhnhcadgeaaDoor
