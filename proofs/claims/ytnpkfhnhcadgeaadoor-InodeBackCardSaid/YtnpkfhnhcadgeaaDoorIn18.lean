/- The law's own helper To. -/
import Derived.Test.YtnpkfhnhcadgeaaDoorIn17
import Derived.Deep.RegionHeldLaw
namespace Go.Proofs.YtnpkfhnhcadgeaaDoor
open Go.RowKit
set_option linter.unusedVariables false
set_option linter.unusedSimpArgs false
set_option maxRecDepth 100000
section
variable {R : Ending → World → Prop} {w w' w0 : World}
theorem conv_f64 {n : Nat} (hn : n < 2 ^ 53) (W : World) : (convert 67 2 (.float .f64 (fl n))).run Tryd.prog W = .ok (.int .i64 n) W := by
  refine run_convert_float_int (P := Tryd.prog) W 67 2 .f64 .i64 (fl n) n (by rw [Tryd.underlying67]; rfl) Tryd.underlying2 ?_
  unfold floatToIntVal
  rw [toInt_fl hn]
  simp only
  rw [if_pos ⟨by show (-9223372036854775808 : Int) ≤ (n : Int); omega, by show (n : Int) ≤ 9223372036854775807; omega⟩]
theorem conv_word {a : Int} (h0 : 0 ≤ a) (h1 : a < 65536) (W : World) : (convert 67 2 (.float .f64 (floatOfInt .f64 a))).run Tryd.prog W = .ok (.int .i64 a) W := by
  obtain ⟨n, rfl⟩ : ∃ n : Nat, a = n := ⟨a.toNat, by omega⟩
  exact conv_f64 (by omega) W
section
variable {W w5 : World} {g1 r0 g3 : Nat} {ver mt len : Int} {A : Option Addr} {n c : Nat} {B0 : Option Addr} {m d0 : Nat} {k : Nat} {B B' : Option Addr} {d d' : Nat} {t1 t3 t5 sz : Nat} {xs ys : List Value}
theorem LpO.app' (h : LpO W w g1 r0 g3 ver mt len A n c B0 m d0 k B d t1 t3 t5 sz xs)
    (ho : Ow w5 t5 sz B' (k + 1) d' (xs ++ ys)) (hk : Kp (bks B) w w5) (hA : B' = B ∨ B' = some ⟨w.heap.size, 0, none⟩) :
    LpO W (w5.setCell ⟨g3, 4, none⟩ (.slice B' (k + 1) d')) g1 r0 g3 ver mt len A n c B0 m d0 (k + 1) B' d' t1 t3 t5 sz (xs ++ ys) := by
  have hbl := h.b3.lt
  have hf : ∀ b ∈ bks B', g3 < b := by
    intro b hb
    rcases hA with rfl | rfl
    · exact h.fr b hb
    · simp [bks] at hb
      omega
  have h1 := h.o1
  have h2 := h.o2
  have h3 := h.o3
  have n1 : g1 ∉ bks B := fun hm => by have := h.fr _ hm; omega
  have n0 : r0 ∉ bks B := fun hm => by have := h.fr _ hm; omega
  have n3 : g3 ∉ bks B := fun hm => Nat.lt_irrefl _ (h.fr _ hm)
  have hs : Kp [g3] w5 (w5.setCell ⟨g3, 4, none⟩ (.slice B' (k + 1) d')) := (Kp.refl [g3] w5).setCell (.inl (by simp)) _
  refine ⟨(h.kw.thn hk (fun s hs => .inr (by have := h.fr s hs; omega))).thn hs (by simp; omega), (h.b1.kp hk n1).kp hs (by simp; omega), (h.b0.kp hk n0).kp hs (by simp; omega), ((h.b3.kp hk n3).set_ 4 _).cast rfl, ho.kp hs (fun b hb => by have := hf b hb; simp; omega), hf, h1, h2, h3⟩
end
set_option maxHeartbeats 8000000 in
theorem to11_any (ver mt len : Int) {A B : Option Addr} {n c m d : Nat} {pa : List (Int × Int)} (hp : Rd w [] B (pa.flatMap cVp)) (hw : ∀ p ∈ pa, (0 ≤ p.1 ∧ p.1 < 65536) ∧ (0 ≤ p.2 ∧ p.2 < 65536)) (hq : pa.length = m) (hm : m ≤ 1000000)
    (h : ∀ B' d' w', Hid (Kp [] w w' ∧ Ow w' 80 2 B' m d' (pa.flatMap pV)) → R (.returned (.agg #[.int .i64 ver, .int .i64 mt, .int .i64 len, .slice A n c, .slice B' m d'])) w') :
    Calls Tryd.prog 18 #[.agg #[.int .i64 ver, .int .i64 mt, .int .i64 len, .slice A n c, .slice B m d]] w R := by
  have H := Lib.hid h
  have HQ := Lib.hid hq
  have HP := Lib.hid hp
  have HW := Lib.hid hw
  clear h hp hq hw
  go_enter Tryd.func18, Tryd.ntmps18
  go_upto_region 2 with (fail)
  refine gen_worldI (fun W => ∃ g1 r0 g3, w.heap.size = g1 ∧ g1 + 1 = r0 ∧ r0 + 1 = g3 ∧ Hid (LpO w W g1 r0 g3 ver mt len A n c B m d 0 none 0 35 43 80 2 [])) ⟨_, _, _, rfl, rfl, rfl, Lib.hid ⟨(((Kp.refl _ _).alloc _).alloc _).alloc _, (((Bk.new' _ _ _).alloc _).alloc _).cast rfl, ((Bk.newAt (by simp) _ _).alloc _).cast rfl, (Bk.newAt (by simp) _ _).cast rfl, Ow.nil, by simp [bks], Nat.le_refl _, by omega, by omega⟩⟩ ?_
  rintro W ⟨g1, r0, g3, e1, e2, e3, hW⟩
  rw [e1, e2, e3]
  clear e1 e2 e3
  go_wp2
  go_loopw [4] (fun i wr => ∃ (k : Nat) (B' : Option Addr) (d' : Nat), k ≤ m ∧ i = .int .i64 k ∧ Hid (LpO w wr g1 r0 g3 ver mt len A n c B m d k B' d' 35 43 80 2 ((pa.take k).flatMap pV))) (fun i _ => m - (intOf i).toNat)
  case atStart => exact ⟨0, none, 0, Nat.zero_le _, rfl, hW⟩
  case round =>
    obtain ⟨k, B2, d2, hk, rfl, hS⟩ := hrel
    have b1 := hS.out.b1
    have u4 : wr.cell? ⟨g1, 4, none⟩ = some (.slice B m d) := b1.cell 4
    clear b1
    by_cases hlt : k < m
    · obtain ⟨x, hx, hm⟩ := get_ltI (l := pa) (k := k) (by rw [HQ.out]; exact hlt)
      obtain ⟨b, off, rfl, _, hb0, _⟩ := rd_at (F := cVp) (K := 1) HP.out (fun _ => rfl) (by omega) hx
      have hbl : b < wr.heap.size := Nat.lt_of_lt_of_le hb0 hS.out.kw.size
      obtain ⟨b', off', hBe, _, _, hc⟩ := rd_at (F := cVp) (K := 1) (HP.out.kp hS.out.kw (by simp)) (fun _ => rfl) (by omega) hx
      injection hBe with hBe; injection hBe with hB1 hB2 _
      subst hB1; subst hB2
      have c0 : wr.cell? ⟨b, off + k, none⟩ = some (.complex .f64 (floatOfInt .f64 x.1) (floatOfInt .f64 x.2)) := by
        have := hc 0 _ rfl
        rw [Nat.add_zero, Nat.mul_one] at this
        exact this
      obtain ⟨⟨x1, x2⟩, x3, x4⟩ := HW.out x hm
      have cv1 := conv_word x1 x2
      have cv2 := conv_word x3 x4
      have HX := Lib.hid hx
      have hk0 : (0 : Int) ≤ k := by omega
      have b3 := hS.out.b3
      have v4 : wr.cell? ⟨g3, 4, none⟩ = some (.slice B2 k d2) := b3.cell 4
      have z4 := b3.frozen 4
      clear hc hx hm b3
      go_upto_region 5 with (fail)
      have v4b : ∀ o, (wr.alloc o).cell? ⟨g3, 4, none⟩ = some (.slice B2 k d2) := fun o => (hS.out.b3.alloc o).cell 4
      have hS2 : Hid (∀ o, LpO w (wr.alloc o).drew g1 r0 g3 ver mt len A n c (some ⟨b, off, none⟩) m d k B2 d2 35 43 80 2 ((pa.take k).flatMap pV)) := Lib.hid (fun o => (hS.out.kp ((Kp.refl [] wr).alloc o)).kp (Kp.refl [] _).drew)
      have hRd : Hid (∀ _z : Nat, Rd (wr.alloc (.cells #[.int .i64 x.1, .int .i64 x.2] 80)).drew [] (some ⟨wr.heap.size, 0, none⟩) (pV x)) := Lib.hid (fun _ => (Rd.of_bk (Bk.newAt rfl _ _) (by simp)).kp (Kp.refl [] _).drew (by simp))
      have hS2 : Hid (∀ o, LpO w (wr.alloc o).drew g1 r0 g3 ver mt len A n c (some ⟨b, off, none⟩) m d k B2 d2 35 43 80 2 ((pa.take k).flatMap pV)) := Lib.hid (fun o => (hS.out.kp ((Kp.refl [] wr).alloc o)).kp (Kp.refl [] _).drew)
      have hRd : Hid (∀ _z : Nat, Rd (wr.alloc (.cells #[.int .i64 x.1, .int .i64 x.2] 80)).drew [] (some ⟨wr.heap.size, 0, none⟩) (pV x)) := Lib.hid (fun _ => (Rd.of_bk (Bk.newAt rfl _ _) (by simp)).kp (Kp.refl [] _).drew (by simp))
      have hlb : b < wr.heap.size := hbl
      have hw0 : b < w.heap.size := hb0
      have hg13 : g1 ≠ g3 := by have := hS.out.o2; have := hS.out.o3; omega
      have hgb : b ≠ g3 := by have := hS.out.o1; have := hS.out.o2; have := hS.out.o3; omega
      have HSB : Hid (∀ (w' : World), Kp (bks B2) wr w' → w'.cell? ⟨g1, 4, none⟩ = some (.slice (some ⟨b, off, none⟩) m d) ∧ w'.cell? ⟨b, off + k, none⟩ = some (.complex .f64 (floatOfInt .f64 x.1) (floatOfInt .f64 x.2))) := Lib.hid (fun w' k' => ⟨(hS.out.b1.kp k' (fun hm => by have := hS.out.fr _ hm; have := hS.out.o2; have := hS.out.o3; omega)).cell 4, by rw [k'.cell (p := ⟨b, off + k, none⟩) hlb (fun hm => by have h9 : g3 < b := hS.out.fr _ hm; have := hS.out.o1; have := hS.out.o2; have := hS.out.o3; omega)]; exact c0⟩)
      have HSS : Hid (∀ (w' : World), Kp [] wr w' → w'.cell? ⟨g1, 4, none⟩ = some (.slice (some ⟨b, off, none⟩) m d) ∧ w'.cell? ⟨b, off + k, none⟩ = some (.complex .f64 (floatOfInt .f64 x.1) (floatOfInt .f64 x.2))) := Lib.hid (fun w' k' => HSB.out w' (k'.mono (by simp)))
      have HSG : Hid (∀ (w' : World) (v : Value), (w'.cell? ⟨g1, 4, none⟩ = some (.slice (some ⟨b, off, none⟩) m d) ∧ w'.cell? ⟨b, off + k, none⟩ = some (.complex .f64 (floatOfInt .f64 x.1) (floatOfInt .f64 x.2))) → (w'.setCell ⟨g3, 4, none⟩ v).cell? ⟨g1, 4, none⟩ = some (.slice (some ⟨b, off, none⟩) m d) ∧ (w'.setCell ⟨g3, 4, none⟩ v).cell? ⟨b, off + k, none⟩ = some (.complex .f64 (floatOfInt .f64 x.1) (floatOfInt .f64 x.2))) := Lib.hid (fun w' v h => ⟨by rw [World.cell?_setCell_far _ _ _ _ (by simpa using Ne.symm hg13)]; exact h.1, by rw [World.cell?_setCell_far _ _ _ _ (by simpa using Ne.symm hgb)]; exact h.2⟩)
      refine wp_region_held_drew (S := fun w' => w'.cell? ⟨g1, 4, none⟩ = some (.slice (some ⟨b, off, none⟩) m d) ∧ w'.cell? ⟨b, off + k, none⟩ = some (.complex .f64 (floatOfInt .f64 x.1) (floatOfInt .f64 x.2))) (by kernel_rfl) (HSS.out _ (Kp.refl _ _).drew) (fun hHeld => ?_)
      refine wpAnyH_take (i := 0) (oi := { dst := some 21, op := Op.fieldAddr 43 (Operand.tmp 3) 4, type := 0, pos := "law.go:31", after := #[], guard := none }) (v := ?_) rfl (by kernel_rfl) (by kernel_rfl) (by kernel_rfl) (fun _ _ _ h => h) (Or.inl ⟨by rfl, ?_⟩) hHeld ?_
      rotate_left
      · intro w hSw; (try dsimp only at hSw); go_split_ands; go_simp; (try with_reducible rfl)
      (try simp only [Act.put, List.setIfInBounds_toArray, List.set_cons_zero, List.set_cons_succ])
      refine wpAnyH_take (i := 2) (oi := { dst := some 23, op := Op.fieldAddr 35 (Operand.tmp 1) 4, type := 0, pos := "law.go:31", after := #[], guard := none }) (v := ?_) rfl (by kernel_rfl) (by kernel_rfl) (by kernel_rfl) (fun _ _ _ h => h) (Or.inl ⟨by rfl, ?_⟩) hHeld ?_
      rotate_left
      · intro w hSw; (try dsimp only at hSw); go_split_ands; go_simp; (try with_reducible rfl)
      (try simp only [Act.put, List.setIfInBounds_toArray, List.set_cons_zero, List.set_cons_succ])
      refine wpAnyH_take (i := 3) (oi := { dst := some 24, op := Op.load 33 (Operand.tmp 23), type := 33, pos := "law.go:31", after := #[{ on := 2, ground := Ground.data }], guard := none }) (v := ?_) rfl (by kernel_rfl) (by kernel_rfl) (by kernel_rfl) (fun _ _ _ h => h) (Or.inl ⟨by rfl, ?_⟩) hHeld ?_
      rotate_left
      · intro w hSw; (try dsimp only at hSw); go_split_ands; go_simp; (try with_reducible rfl)
      (try simp only [Act.put, List.setIfInBounds_toArray, List.set_cons_zero, List.set_cons_succ])
      refine wpAnyH_take (i := 4) (oi := { dst := some 25, op := Op.move (Operand.tmp 4), type := 3, pos := "law.go:31", after := #[], guard := none }) (v := ?_) rfl (by kernel_rfl) (by kernel_rfl) (by kernel_rfl) (fun _ _ _ h => h) (Or.inl ⟨by rfl, ?_⟩) hHeld ?_
      rotate_left
      · intro w hSw; (try dsimp only at hSw); go_split_ands; go_simp; (try with_reducible rfl)
      (try simp only [Act.put, List.setIfInBounds_toArray, List.set_cons_zero, List.set_cons_succ])
      refine wpAnyH_take (i := 5) (oi := { dst := some 26, op := Op.indexAddr 33 (Operand.tmp 24) (Operand.tmp 25), type := 0, pos := "law.go:31", after := #[{ on := 3, ground := Ground.data }, { on := 4, ground := Ground.data }], guard := none }) (v := ?_) rfl (by kernel_rfl) (by kernel_rfl) (by kernel_rfl) (fun _ _ _ h => h) (Or.inl ⟨by rfl, ?_⟩) hHeld ?_
      rotate_left
      · intro w hSw; (try dsimp only at hSw); go_split_ands; go_simp; (try with_reducible rfl)
      (try simp only [Act.put, List.setIfInBounds_toArray, List.set_cons_zero, List.set_cons_succ])
      refine wpAnyH_take (i := 6) (oi := { dst := some 27, op := Op.load 68 (Operand.tmp 26), type := 68, pos := "law.go:31", after := #[{ on := 5, ground := Ground.data }], guard := none }) (v := ?_) rfl (by kernel_rfl) (by kernel_rfl) (by kernel_rfl) (fun _ _ _ h => h) (Or.inl ⟨by rfl, ?_⟩) hHeld ?_
      rotate_left
      · intro w hSw; (try dsimp only at hSw); go_split_ands; go_simp; (try with_reducible rfl)
      (try simp only [Act.put, List.setIfInBounds_toArray, List.set_cons_zero, List.set_cons_succ])
      refine wpAnyH_take (i := 7) (oi := { dst := some 28, op := Op.call { callee := Callee.builtin Builtin.real, args := #[Operand.tmp 27], argTypes := #[68] }, type := 67, pos := "law.go:31", after := #[{ on := 6, ground := Ground.data }], guard := none }) (v := ?_) rfl (by kernel_rfl) (by kernel_rfl) (by kernel_rfl) (fun _ _ _ h => h) (Or.inl ⟨by rfl, ?_⟩) hHeld ?_
      rotate_left
      · intro w hSw; (try dsimp only at hSw); go_split_ands; go_simp; (try with_reducible rfl)
      (try simp only [Act.put, List.setIfInBounds_toArray, List.set_cons_zero, List.set_cons_succ])
      refine wpAnyH_take (i := 8) (oi := { dst := some 29, op := Op.convert 67 2 (Operand.tmp 28), type := 2, pos := "law.go:31", after := #[{ on := 7, ground := Ground.data }], guard := none }) (v := ?_) rfl (by kernel_rfl) (by kernel_rfl) (by kernel_rfl) (fun _ _ _ h => h) (Or.inl ⟨by rfl, ?_⟩) hHeld ?_
      rotate_left
      · intro w hSw; (try dsimp only at hSw); go_split_ands; go_simp; (try with_reducible rfl)
      (try simp only [Act.put, List.setIfInBounds_toArray, List.set_cons_zero, List.set_cons_succ])
      refine wpAnyH_take (i := 9) (oi := { dst := some 30, op := Op.fieldAddr 35 (Operand.tmp 1) 4, type := 0, pos := "law.go:31", after := #[], guard := none }) (v := ?_) rfl (by kernel_rfl) (by kernel_rfl) (by kernel_rfl) (fun _ _ _ h => h) (Or.inl ⟨by rfl, ?_⟩) hHeld ?_
      rotate_left
      · intro w hSw; (try dsimp only at hSw); go_split_ands; go_simp; (try with_reducible rfl)
      (try simp only [Act.put, List.setIfInBounds_toArray, List.set_cons_zero, List.set_cons_succ])
      refine wpAnyH_take (i := 10) (oi := { dst := some 31, op := Op.load 33 (Operand.tmp 30), type := 33, pos := "law.go:31", after := #[{ on := 9, ground := Ground.data }], guard := none }) (v := ?_) rfl (by kernel_rfl) (by kernel_rfl) (by kernel_rfl) (fun _ _ _ h => h) (Or.inl ⟨by rfl, ?_⟩) hHeld ?_
      rotate_left
      · intro w hSw; (try dsimp only at hSw); go_split_ands; go_simp; (try with_reducible rfl)
      (try simp only [Act.put, List.setIfInBounds_toArray, List.set_cons_zero, List.set_cons_succ])
      refine wpAnyH_take (i := 11) (oi := { dst := some 32, op := Op.move (Operand.tmp 4), type := 3, pos := "law.go:31", after := #[], guard := none }) (v := ?_) rfl (by kernel_rfl) (by kernel_rfl) (by kernel_rfl) (fun _ _ _ h => h) (Or.inl ⟨by rfl, ?_⟩) hHeld ?_
      rotate_left
      · intro w hSw; (try dsimp only at hSw); go_split_ands; go_simp; (try with_reducible rfl)
      (try simp only [Act.put, List.setIfInBounds_toArray, List.set_cons_zero, List.set_cons_succ])
      refine wpAnyH_take (i := 12) (oi := { dst := some 33, op := Op.indexAddr 33 (Operand.tmp 31) (Operand.tmp 32), type := 0, pos := "law.go:31", after := #[{ on := 10, ground := Ground.data }, { on := 11, ground := Ground.data }], guard := none }) (v := ?_) rfl (by kernel_rfl) (by kernel_rfl) (by kernel_rfl) (fun _ _ _ h => h) (Or.inl ⟨by rfl, ?_⟩) hHeld ?_
      rotate_left
      · intro w hSw; (try dsimp only at hSw); go_split_ands; go_simp; (try with_reducible rfl)
      (try simp only [Act.put, List.setIfInBounds_toArray, List.set_cons_zero, List.set_cons_succ])
      refine wpAnyH_take (i := 13) (oi := { dst := some 34, op := Op.load 68 (Operand.tmp 33), type := 68, pos := "law.go:31", after := #[{ on := 12, ground := Ground.data }], guard := none }) (v := ?_) rfl (by kernel_rfl) (by kernel_rfl) (by kernel_rfl) (fun _ _ _ h => h) (Or.inl ⟨by rfl, ?_⟩) hHeld ?_
      rotate_left
      · intro w hSw; (try dsimp only at hSw); go_split_ands; go_simp; (try with_reducible rfl)
      (try simp only [Act.put, List.setIfInBounds_toArray, List.set_cons_zero, List.set_cons_succ])
      refine wpAnyH_take (i := 14) (oi := { dst := some 35, op := Op.call { callee := Callee.builtin Builtin.imag, args := #[Operand.tmp 34], argTypes := #[68] }, type := 67, pos := "law.go:31", after := #[{ on := 13, ground := Ground.data }], guard := none }) (v := ?_) rfl (by kernel_rfl) (by kernel_rfl) (by kernel_rfl) (fun _ _ _ h => h) (Or.inl ⟨by rfl, ?_⟩) hHeld ?_
      rotate_left
      · intro w hSw; (try dsimp only at hSw); go_split_ands; go_simp; (try with_reducible rfl)
      (try simp only [Act.put, List.setIfInBounds_toArray, List.set_cons_zero, List.set_cons_succ])
      refine wpAnyH_take (i := 15) (oi := { dst := some 36, op := Op.convert 67 2 (Operand.tmp 35), type := 2, pos := "law.go:31", after := #[{ on := 14, ground := Ground.data }], guard := none }) (v := ?_) rfl (by kernel_rfl) (by kernel_rfl) (by kernel_rfl) (fun _ _ _ h => h) (Or.inl ⟨by rfl, ?_⟩) hHeld ?_
      rotate_left
      · intro w hSw; (try dsimp only at hSw); go_split_ands; go_simp; (try with_reducible rfl)
      (try simp only [Act.put, List.setIfInBounds_toArray, List.set_cons_zero, List.set_cons_succ])
      refine wpAnyH_take (i := 16) (oi := { dst := some 37, op := Op.build 80 #[(0, Operand.tmp 29), (1, Operand.tmp 36)], type := 80, pos := "law.go:31", after := #[{ on := 8, ground := Ground.data }, { on := 15, ground := Ground.data }], guard := none }) (v := ?_) rfl (by kernel_rfl) (by kernel_rfl) (by kernel_rfl) (fun _ _ _ h => h) (Or.inl ⟨by rfl, ?_⟩) hHeld ?_
      rotate_left
      · intro w hSw; (try dsimp only at hSw); go_split_ands; go_simp; (try with_reducible rfl)
      (try simp only [Act.put, List.setIfInBounds_toArray, List.set_cons_zero, List.set_cons_succ])
      refine wpAnyH_ready (rs := [1, 17]) (by kernel_rfl) (by simp) ?_
      refine AllReadyH.cons rfl (fun K hK => ?_) (AllReadyH.cons rfl (fun K hK => ?_) AllReadyH.nil)
      · rw [if_pos (by rfl)]
        go_simp
        refine hK.out _ _ hHeld (fun hHeld => ?_)
        clear hK K
        (try simp only [Act.put, List.setIfInBounds_toArray, List.set_cons_zero, List.set_cons_succ])
        refine wpAnyH_ready (rs := [17]) (by kernel_rfl) (by simp) ?_
        refine AllReadyH.cons rfl (fun K hK => ?_) AllReadyH.nil
        rw [if_pos (by rfl)]
        go_simp
        refine hK.out _ _ (HSS.out _ ((Kp.refl [] wr).alloc _).drew) (fun hHeld => ?_)
        clear hK K
        (try simp only [Act.put, List.setIfInBounds_toArray, List.set_cons_zero, List.set_cons_succ])
        refine wpAnyH_ready (rs := [18]) (by kernel_rfl) (by simp) ?_
        refine AllReadyH.cons rfl (fun K hK => ?_) AllReadyH.nil
        rw [if_pos (by rfl)]
        refine wp_app _ (.tmp 22) (.tmp 38) 41 rfl elt_pair B2 k d2 _ (by simp [Act.eval]) (hS2.out _).ow [] (some ⟨wr.heap.size, 0, none⟩) 1 1 (pV x) (by simp [Act.eval]) (hRd.out 0) rfl (by simp [pV, Value.oneCell']) (by omega) (fun B3 d3 w12 ho12 hk12 hA12 => ?_)
        have hL2 := Lib.hid ((hS2.out _).app' ho12 hk12 hA12)
        have b12 := (hS2.out (.cells #[.int .i64 x.1, .int .i64 x.2] 80)).b3.kp hk12 (fun hm => Nat.lt_irrefl _ (hS.out.fr _ hm))
        have z12 := b12.frozen 4
        have y12 : w12.cell? ⟨g3, 4, none⟩ = some (.slice B2 k d2) := b12.cell 4
        have hE := HSB.out _ ((Kp.mono (S := []) ((Kp.refl [] wr).alloc (.cells #[.int .i64 x.1, .int .i64 x.2] 80)).drew (by simp)).trans hk12)
        refine hK.out _ _ hE (fun hHeld => ?_)
        clear hK K
        (try simp only [Act.put, List.setIfInBounds_toArray, List.set_cons_zero, List.set_cons_succ])
        refine wpAnyH_ready (rs := [19]) (by kernel_rfl) (by simp) ?_
        refine AllReadyH.cons rfl (fun K hK => ?_) AllReadyH.nil
        rw [if_pos (by rfl)]
        go_simp
        refine hK.out _ _ hE (fun hHeld => ?_)
        clear hK K
        (try simp only [Act.put, List.setIfInBounds_toArray, List.set_cons_zero, List.set_cons_succ])
        refine wpAnyH_ready (rs := [20]) (by kernel_rfl) (by simp) ?_
        refine AllReadyH.cons rfl (fun K hK => ?_) AllReadyH.nil
        rw [if_pos (by rfl)]
        go_simp
        refine hK.out _ _ (HSG.out _ _ hE) (fun hHeld => ?_)
        clear hK K
        (try simp only [Act.put, List.setIfInBounds_toArray, List.set_cons_zero, List.set_cons_succ])
        refine wpAnyH_done (by kernel_rfl) ?_ _
        go_wp2
        exact ⟨⟨k + 1, B3, d3, by omega, by go_num, Lib.hid (by rw [flat_snoc HX.out]; exact hL2.out)⟩, by simp [intOf]; omega⟩
      · rw [if_pos (by rfl)]
        go_simp
        refine hK.out _ _ (HSS.out _ ((Kp.refl [] wr).alloc _).drew) (fun hHeld => ?_)
        clear hK K
        (try simp only [Act.put, List.setIfInBounds_toArray, List.set_cons_zero, List.set_cons_succ])
        refine wpAnyH_ready (rs := [1]) (by kernel_rfl) (by simp) ?_
        refine AllReadyH.cons rfl (fun K hK => ?_) AllReadyH.nil
        rw [if_pos (by rfl)]
        go_simp
        refine hK.out _ _ hHeld (fun hHeld => ?_)
        clear hK K
        (try simp only [Act.put, List.setIfInBounds_toArray, List.set_cons_zero, List.set_cons_succ])
        refine wpAnyH_ready (rs := [18]) (by kernel_rfl) (by simp) ?_
        refine AllReadyH.cons rfl (fun K hK => ?_) AllReadyH.nil
        rw [if_pos (by rfl)]
        refine wp_app _ (.tmp 22) (.tmp 38) 41 rfl elt_pair B2 k d2 _ (by simp [Act.eval]) (hS2.out _).ow [] (some ⟨wr.heap.size, 0, none⟩) 1 1 (pV x) (by simp [Act.eval]) (hRd.out 0) rfl (by simp [pV, Value.oneCell']) (by omega) (fun B3 d3 w12 ho12 hk12 hA12 => ?_)
        have hL2 := Lib.hid ((hS2.out _).app' ho12 hk12 hA12)
        have b12 := (hS2.out (.cells #[.int .i64 x.1, .int .i64 x.2] 80)).b3.kp hk12 (fun hm => Nat.lt_irrefl _ (hS.out.fr _ hm))
        have z12 := b12.frozen 4
        have y12 : w12.cell? ⟨g3, 4, none⟩ = some (.slice B2 k d2) := b12.cell 4
        have hE := HSB.out _ ((Kp.mono (S := []) ((Kp.refl [] wr).alloc (.cells #[.int .i64 x.1, .int .i64 x.2] 80)).drew (by simp)).trans hk12)
        refine hK.out _ _ hE (fun hHeld => ?_)
        clear hK K
        (try simp only [Act.put, List.setIfInBounds_toArray, List.set_cons_zero, List.set_cons_succ])
        refine wpAnyH_ready (rs := [19]) (by kernel_rfl) (by simp) ?_
        refine AllReadyH.cons rfl (fun K hK => ?_) AllReadyH.nil
        rw [if_pos (by rfl)]
        go_simp
        refine hK.out _ _ hE (fun hHeld => ?_)
        clear hK K
        (try simp only [Act.put, List.setIfInBounds_toArray, List.set_cons_zero, List.set_cons_succ])
        refine wpAnyH_ready (rs := [20]) (by kernel_rfl) (by simp) ?_
        refine AllReadyH.cons rfl (fun K hK => ?_) AllReadyH.nil
        rw [if_pos (by rfl)]
        go_simp
        refine hK.out _ _ (HSG.out _ _ hE) (fun hHeld => ?_)
        clear hK K
        (try simp only [Act.put, List.setIfInBounds_toArray, List.set_cons_zero, List.set_cons_succ])
        refine wpAnyH_done (by kernel_rfl) ?_ _
        go_wp2
        exact ⟨⟨k + 1, B3, d3, by omega, by go_num, Lib.hid (by rw [flat_snoc HX.out]; exact hL2.out)⟩, by simp [intOf]; omega⟩
    · obtain rfl : k = m := by omega
      have e : pa.take k = pa := List.take_of_length_le (by have := HQ.out; omega)
      rw [e] at hS
      clear e
      have b3 := hS.out.b3
      have B0 := hS.out.b0
      have v0 : wr.cell? ⟨g3, 0, none⟩ = some (.int .i64 ver) := b3.cell 0
      have v1 : wr.cell? ⟨g3, 1, none⟩ = some (.int .i64 mt) := b3.cell 1
      have v2 : wr.cell? ⟨g3, 2, none⟩ = some (.int .i64 len) := b3.cell 2
      have v3 : wr.cell? ⟨g3, 3, none⟩ = some (.slice A n c) := b3.cell 3
      have v4 : wr.cell? ⟨g3, 4, none⟩ = some (.slice B2 k d2) := b3.cell 4
      have dd0 : wr.cell? ⟨r0, 0, none⟩ = some (.int .i64 0) := B0.cell 0
      have dd1 : wr.cell? ⟨r0, 1, none⟩ = some (.int .i64 0) := B0.cell 1
      have dd2 : wr.cell? ⟨r0, 2, none⟩ = some (.int .i64 0) := B0.cell 2
      have dd3 : wr.cell? ⟨r0, 3, none⟩ = some (.slice none 0 0) := B0.cell 3
      have dd4 : wr.cell? ⟨r0, 4, none⟩ = some (.slice none 0 0) := B0.cell 4
      have f0 := B0.frozen 0
      have f1 := B0.frozen 1
      have f2 := B0.frozen 2
      have f3 := B0.frozen 3
      have f4 := B0.frozen 4
      clear b3
      go_wp2
      obtain ⟨q0, q1, q2, q3, q4⟩ := cells5 (x := .int .i64 ver) (y := .int .i64 mt) (z := .int .i64 len) (u := .slice A n c) (v := .slice B2 k d2) B0
      refine bodyPost_ret (v := .agg #[.int .i64 ver, .int .i64 mt, .int .i64 len, .slice A n c, .slice B2 k d2]) (by simp [results, Tryd.results18, go_sem, q0, q1, q2, q3, q4]) rfl ?_
      have hr0 : w.heap.size ≤ r0 := by have := hS.out.o1; have := hS.out.o2; omega
      have kS : Kp [r0] wr (((((wr.setCell ⟨r0, 0, none⟩ (.int .i64 ver)).setCell ⟨r0, 1, none⟩ (.int .i64 mt)).setCell ⟨r0, 2, none⟩ (.int .i64 len)).setCell ⟨r0, 3, none⟩ (.slice A n c)).setCell ⟨r0, 4, none⟩ (.slice B2 k d2)) := ((((((Kp.refl [r0] wr).setCell (.inl (by simp)) _).setCell (.inl (by simp)) _).setCell (.inl (by simp)) _).setCell (.inl (by simp)) _).setCell (.inl (by simp)) _)
      exact H.out B2 d2 _ (Lib.hid ⟨hS.out.kw.thn kS (fun s hs => .inr (by simp at hs; omega)), hS.out.ow.kp kS (fun b hb => by have := hS.out.fr b hb; have := hS.out.o3; simp; omega)⟩)
end
end Go.Proofs.YtnpkfhnhcadgeaaDoor
