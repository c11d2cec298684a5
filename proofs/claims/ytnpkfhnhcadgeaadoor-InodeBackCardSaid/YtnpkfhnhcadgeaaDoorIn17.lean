/- The law's own helpers for files: Of, To, SameFile. -/
import Derived.Test.YtnpkfhnhcadgeaaDoorIn16
namespace Go.Proofs.YtnpkfhnhcadgeaaDoor
open Go.RowKit
set_option linter.unusedVariables false
set_option linter.unusedSimpArgs false
set_option maxRecDepth 100000
def cVp (p : Int × Int) : List Value := cV (cOf p)
section
variable {R : Ending → World → Prop} {w w' w0 : World}
set_option maxHeartbeats 4000000 in
/-- Two files of the same cells. -/
theorem sfile_same (ver mt len : Int) {A A' B B' : Option Addr} {n c c' m d d' : Nat} {bl : List Int} {pa : List (Int × Int)} (ha : Rd w [] A (bl.flatMap iv)) (ha' : Rd w [] A' (bl.flatMap iv)) (hl : bl.length = n) (hn : n ≤ 1000000)
    (hb : Rd w [] B (pa.flatMap pV)) (hb' : Rd w [] B' (pa.flatMap pV)) (hq : pa.length = m) (hm : m ≤ 1000000) (h : ∀ w', Kp [] w w' → R (.returned (.bool true)) w') :
    Calls Tryd.prog 17 #[.agg #[.int .i64 ver, .int .i64 mt, .int .i64 len, .slice A n c, .slice B m d], .agg #[.int .i64 ver, .int .i64 mt, .int .i64 len, .slice A' n c', .slice B' m d']] w R := by
  have H := Lib.hid h
  have HI : Hid (∀ (R : Ending → World → Prop) (w1 : World), Kp [] w w1 → (∀ w', Kp [] w1 w' → R (.returned (.bool true)) w') → Calls Tryd.prog 28 #[.slice A n c, .slice A' n c'] w1 R) := Lib.hid (fun R w1 k1 h => ints_same (ha.kp k1 (by simp)) (ha'.kp k1 (by simp)) hl hn h)
  have HA := Lib.hid hb
  have HB := Lib.hid hb'
  have HQ := Lib.hid hq
  clear h ha ha' hb hb' hl hq
  go_enter Tryd.func17, Tryd.ntmps17
  go_upto_region 1 with (fail)
  refine gen_worldI (fun W => ∃ g1 g2, w.heap.size = g1 ∧ g1 + 1 = g2 ∧ Hid (Kp [] w W ∧ Bk W g1 43 [.int .i64 ver, .int .i64 mt, .int .i64 len, .slice A n c, .slice B m d] ∧ Bk W g2 43 [.int .i64 ver, .int .i64 mt, .int .i64 len, .slice A' n c', .slice B' m d'])) ⟨_, _, rfl, rfl, Lib.hid ⟨((Kp.refl _ _).alloc _).alloc _, ((Bk.new' _ _ _).alloc _).cast rfl, (Bk.newAt (by simp) _ _).cast rfl⟩⟩ ?_
  rintro W ⟨g1, g2, e1, e2, hW⟩
  rw [e1, e2]
  clear e1 e2
  have HC : Hid (∀ W', Kp [] W W' → W'.cell? ⟨g1, 0, none⟩ = some (.int .i64 ver) ∧ W'.cell? ⟨g1, 1, none⟩ = some (.int .i64 mt) ∧ W'.cell? ⟨g1, 2, none⟩ = some (.int .i64 len) ∧ W'.cell? ⟨g1, 3, none⟩ = some (.slice A n c) ∧ W'.cell? ⟨g1, 4, none⟩ = some (.slice B m d) ∧ W'.cell? ⟨g2, 0, none⟩ = some (.int .i64 ver) ∧ W'.cell? ⟨g2, 1, none⟩ = some (.int .i64 mt) ∧ W'.cell? ⟨g2, 2, none⟩ = some (.int .i64 len) ∧ W'.cell? ⟨g2, 3, none⟩ = some (.slice A' n c') ∧ W'.cell? ⟨g2, 4, none⟩ = some (.slice B' m d')) :=
    Lib.hid (fun W' k => ⟨(hW.out.2.1.kp k (by simp)).cell 0, (hW.out.2.1.kp k (by simp)).cell 1, (hW.out.2.1.kp k (by simp)).cell 2, (hW.out.2.1.kp k (by simp)).cell 3, (hW.out.2.1.kp k (by simp)).cell 4, (hW.out.2.2.kp k (by simp)).cell 0, (hW.out.2.2.kp k (by simp)).cell 1, (hW.out.2.2.kp k (by simp)).cell 2, (hW.out.2.2.kp k (by simp)).cell 3, (hW.out.2.2.kp k (by simp)).cell 4⟩)
  obtain ⟨u0, u1, u2, u3, u4, v0, v1, v2, v3, v4⟩ := HC.out W (Kp.refl _ _)
  go_upto_region 3 with (go_at_call 28; ((with_reducible refine HI.out _ _ hW.out.1 ?_); intro w2 k2; obtain ⟨x0, x1, x2, x3, x4, y0, y1, y2, y3, y4⟩ := HC.out w2 k2))
  clear u0 u1 u2 u3 u4 v0 v1 v2 v3 v4 x0 x1 x2 x3 y0 y1 y2 y3
  go_wp2
  go_loopw [5] (fun i wr => ∃ (k : Nat), k ≤ m ∧ i = .int .i64 k ∧ Hid (Kp [] W wr)) (fun i _ => m - (intOf i).toNat)
  case atStart => exact ⟨0, Nat.zero_le _, rfl, Lib.hid k2⟩
  case round =>
    obtain ⟨k, hk, rfl, kr⟩ := hrel
    obtain ⟨u0, u1, u2, u3, u4, v0, v1, v2, v3, v4⟩ := HC.out wr kr.out
    clear x4 y4 u0 u1 u2 u3 v0 v1 v2 v3
    by_cases hlt : k < m
    · obtain ⟨x, hx, hm⟩ := get_ltI (l := pa) (k := k) (by rw [HQ.out]; exact hlt)
      have kw := hW.out.1.trans kr.out
      obtain ⟨b, off, rfl, _, _, hc⟩ := rd_at (F := pV) (K := 2) (HA.out.kp kw (by simp)) (fun _ => rfl) (by omega) hx
      obtain ⟨b2, off2, rfl, _, _, hc2⟩ := rd_at (F := pV) (K := 2) (HB.out.kp kw (by simp)) (fun _ => rfl) (by omega) hx
      have c0 := hc 0 _ rfl
      have c1 := hc2 0 _ rfl
      have c2 := hc 1 _ rfl
      have c3 := hc2 1 _ rfl
      rw [Nat.add_zero] at c0 c1
      have hk0 : (0 : Int) ≤ k := by omega
      clear hc hc2 hx hm kw
      go_upto_region 6 with (fail)
      go_quiet (fail)
      go_wp2
      exact ⟨⟨k + 1, by omega, by go_num, Lib.hid (kr.out.drewN _)⟩, by simp [intOf]; omega⟩
    · obtain rfl : k = m := by omega
      go_wp2
      exact H.out _ (hW.out.1.trans kr.out)
/-- Of's round. -/
structure LpO (W w : World) (g1 r0 g3 : Nat) (ver mt len : Int) (A : Option Addr) (n c : Nat) (B0 : Option Addr) (m d0 : Nat) (k : Nat) (B : Option Addr) (d : Nat) (t1 t3 t5 : Nat) (sz : Nat) (xs : List Value) : Prop where
  kw : Kp [] W w
  b1 : Bk w g1 t1 [.int .i64 ver, .int .i64 mt, .int .i64 len, .slice A n c, .slice B0 m d0]
  b0 : Bk w r0 t3 [.int .i64 0, .int .i64 0, .int .i64 0, .slice none 0 0, .slice none 0 0]
  b3 : Bk w g3 t3 [.int .i64 ver, .int .i64 mt, .int .i64 len, .slice A n c, .slice B k d]
  ow : Ow w t5 sz B k d xs
  fr : ∀ b ∈ bks B, g3 < b
  o1 : W.heap.size ≤ g1
  o2 : g1 < r0
  o3 : r0 < g3
section
variable {W w5 : World} {g1 r0 g3 : Nat} {ver mt len : Int} {A : Option Addr} {n c : Nat} {B0 : Option Addr} {m d0 : Nat} {k : Nat} {B B' : Option Addr} {d d' : Nat} {t1 t3 t5 sz : Nat} {xs ys : List Value}
theorem LpO.kp (h : LpO W w g1 r0 g3 ver mt len A n c B0 m d0 k B d t1 t3 t5 sz xs) (hk : Kp [] w w') : LpO W w' g1 r0 g3 ver mt len A n c B0 m d0 k B d t1 t3 t5 sz xs :=
  ⟨h.kw.trans hk, h.b1.kp hk (by simp), h.b0.kp hk (by simp), h.b3.kp hk (by simp), h.ow.kp hk (by simp), h.fr, h.o1, h.o2, h.o3⟩
theorem LpO.app (h : LpO W w g1 r0 g3 ver mt len A n c B0 m d0 k B d t1 t3 t5 sz xs) (o : Obj)
    (ho : Ow w5 t5 sz B' (k + 1) d' (xs ++ ys)) (hk : Kp (bks B) (w.alloc o) w5) (hA : B' = B ∨ B' = some ⟨(w.alloc o).heap.size, 0, none⟩) :
    LpO W (w5.setCell ⟨g3, 4, none⟩ (.slice B' (k + 1) d')) g1 r0 g3 ver mt len A n c B0 m d0 (k + 1) B' d' t1 t3 t5 sz (xs ++ ys) := by
  have hbl := h.b3.lt
  have hf : ∀ b ∈ bks B', g3 < b := by
    intro b hb
    rcases hA with rfl | rfl
    · exact h.fr b hb
    · simp [bks] at hb
      omega
  have h1 := h.o1
  have h2 := h.o2
  have h3 := h.o3
  have n1 : g1 ∉ bks B := fun hm => by have := h.fr _ hm; omega
  have n0 : r0 ∉ bks B := fun hm => by have := h.fr _ hm; omega
  have n3 : g3 ∉ bks B := fun hm => Nat.lt_irrefl _ (h.fr _ hm)
  have hs : Kp [g3] w5 (w5.setCell ⟨g3, 4, none⟩ (.slice B' (k + 1) d')) := (Kp.refl [g3] w5).setCell (.inl (by simp)) _
  have ka := h.kw.alloc o
  refine ⟨(ka.thn hk (fun s hs => .inr (by have := h.fr s hs; omega))).thn hs (by simp; omega), ((h.b1.alloc o).kp hk n1).kp hs (by simp; omega), ((h.b0.alloc o).kp hk n0).kp hs (by simp; omega), (((h.b3.alloc o).kp hk n3).set_ 4 _).cast rfl, ho.kp hs (fun b hb => by have := hf b hb; simp; omega), hf, h1, h2, h3⟩
end
set_option maxHeartbeats 8000000 in
theorem of11_any (ver mt len : Int) {A B : Option Addr} {n c m d : Nat} {pa : List (Int × Int)} (hp : Rd w [] B (pa.flatMap pV)) (hq : pa.length = m) (hm : m ≤ 1000000)
    (h : ∀ B' d' w', Hid (Kp [] w w' ∧ Ow w' 68 1 B' m d' (pa.flatMap cVp)) → R (.returned (.agg #[.int .i64 ver, .int .i64 mt, .int .i64 len, .slice A n c, .slice B' m d'])) w') :
    Calls Tryd.prog 16 #[.agg #[.int .i64 ver, .int .i64 mt, .int .i64 len, .slice A n c, .slice B m d]] w R := by
  have H := Lib.hid h
  have HQ := Lib.hid hq
  have HP := Lib.hid hp
  clear h hp hq
  go_enter Tryd.func16, Tryd.ntmps16
  go_upto_region 2 with (fail)
  refine gen_worldI (fun W => ∃ g1 r0 g3, w.heap.size = g1 ∧ g1 + 1 = r0 ∧ r0 + 1 = g3 ∧ Hid (LpO w W g1 r0 g3 ver mt len A n c B m d 0 none 0 43 35 68 1 [])) ⟨_, _, _, rfl, rfl, rfl, Lib.hid ⟨(((Kp.refl _ _).alloc _).alloc _).alloc _, (((Bk.new' _ _ _).alloc _).alloc _).cast rfl, ((Bk.newAt (by simp) _ _).alloc _).cast rfl, (Bk.newAt (by simp) _ _).cast rfl, Ow.nil, by simp [bks], Nat.le_refl _, by omega, by omega⟩⟩ ?_
  rintro W ⟨g1, r0, g3, e1, e2, e3, hW⟩
  rw [e1, e2, e3]
  clear e1 e2 e3
  go_wp2
  go_loopw [4] (fun i wr => ∃ (k : Nat) (B' : Option Addr) (d' : Nat), k ≤ m ∧ i = .int .i64 k ∧ Hid (LpO w wr g1 r0 g3 ver mt len A n c B m d k B' d' 43 35 68 1 ((pa.take k).flatMap cVp))) (fun i _ => m - (intOf i).toNat)
  case atStart => exact ⟨0, none, 0, Nat.zero_le _, rfl, hW⟩
  case round =>
    obtain ⟨k, B2, d2, hk, rfl, hS⟩ := hrel
    have b1 := hS.out.b1
    have u4 : wr.cell? ⟨g1, 4, none⟩ = some (.slice B m d) := b1.cell 4
    clear b1
    by_cases hlt : k < m
    · obtain ⟨x, hx, hm⟩ := get_ltI (l := pa) (k := k) (by rw [HQ.out]; exact hlt)
      obtain ⟨b, off, rfl, _, _, hc⟩ := rd_at (F := pV) (K := 2) (HP.out.kp hS.out.kw (by simp)) (fun _ => rfl) (by omega) hx
      have c0 := hc 0 _ rfl
      have c1 := hc 1 _ rfl
      rw [Nat.add_zero] at c0
      have HX := Lib.hid hx
      have hk0 : (0 : Int) ≤ k := by omega
      have b3 := hS.out.b3
      have v4 : wr.cell? ⟨g3, 4, none⟩ = some (.slice B2 k d2) := b3.cell 4
      have z4 := b3.frozen 4
      clear hc hx hm b3
      go_upto_region 5 with (fail)
      have HNum : Hid (∀ (R : Ending → World → Prop), (∀ w', Hid (LpO w w' g1 r0 g3 ver mt len A n c (some ⟨b, off, none⟩) m d k B2 d2 43 35 68 1 ((pa.take k).flatMap cVp)) → R (.returned (.complex .f64 (cOf x).1 (cOf x).2)) w') → Calls Tryd.prog 34 #[.agg #[.int .i64 x.1, .int .i64 x.2]] wr.drew R) := Lib.hid (fun R h => number_any01 x (fun w' k' => h w' (Lib.hid ((hS.out.kp (Kp.refl [] wr).drew).kp k'))))
      go_region_law (first | (go_simp; go_at_call 34; (refine HNum.out _ ?_); intro w9 h9; have e9 : w9.cell? ⟨g3, 4, none⟩ = some (.slice B2 k d2) := h9.out.b3.cell 4; have f9a : ∀ o, (w9.alloc o).cell? ⟨g3, 4, none⟩ = some (.slice B2 k d2) := fun o => (h9.out.b3.alloc o).cell 4) | (refine step_appI rfl (.tmp 22) (.tmp 29) _ rfl elt_cplx B2 k d2 _ (by simp [Act.eval, Act.put]) (h9.out.ow.alloc _) [] (some ⟨w9.heap.size, 0, none⟩) 1 1 [.complex .f64 (cOf x).1 (cOf x).2] (by simp [Act.eval, Act.put]) (Rd.of_bk (Bk.newAt rfl _ _) (by simp)) rfl (by simp [Value.oneCell']) (by omega) ?_; intro B3 d3 w12 ho12 hk12 hA12; have hL2 := Lib.hid (h9.out.app _ ho12 hk12 hA12); have b12 := (h9.out.b3.alloc (.cells #[.complex .f64 (cOf x).1 (cOf x).2] 68)).kp hk12 (fun hm => Nat.lt_irrefl _ (h9.out.fr _ hm)); have z12 := b12.frozen 4; have y12 : w12.cell? ⟨g3, 4, none⟩ = some (.slice B2 k d2) := b12.cell 4))
      all_goals go_wp2
      all_goals exact ⟨⟨k + 1, B3, d3, by omega, by go_num, Lib.hid (by rw [flat_snoc HX.out]; exact hL2.out)⟩, by simp [intOf]; omega⟩
    · obtain rfl : k = m := by omega
      have e : pa.take k = pa := List.take_of_length_le (by have := HQ.out; omega)
      rw [e] at hS
      clear e
      have b3 := hS.out.b3
      have B0 := hS.out.b0
      have v0 : wr.cell? ⟨g3, 0, none⟩ = some (.int .i64 ver) := b3.cell 0
      have v1 : wr.cell? ⟨g3, 1, none⟩ = some (.int .i64 mt) := b3.cell 1
      have v2 : wr.cell? ⟨g3, 2, none⟩ = some (.int .i64 len) := b3.cell 2
      have v3 : wr.cell? ⟨g3, 3, none⟩ = some (.slice A n c) := b3.cell 3
      have v4 : wr.cell? ⟨g3, 4, none⟩ = some (.slice B2 k d2) := b3.cell 4
      have dd0 : wr.cell? ⟨r0, 0, none⟩ = some (.int .i64 0) := B0.cell 0
      have dd1 : wr.cell? ⟨r0, 1, none⟩ = some (.int .i64 0) := B0.cell 1
      have dd2 : wr.cell? ⟨r0, 2, none⟩ = some (.int .i64 0) := B0.cell 2
      have dd3 : wr.cell? ⟨r0, 3, none⟩ = some (.slice none 0 0) := B0.cell 3
      have dd4 : wr.cell? ⟨r0, 4, none⟩ = some (.slice none 0 0) := B0.cell 4
      have f0 := B0.frozen 0
      have f1 := B0.frozen 1
      have f2 := B0.frozen 2
      have f3 := B0.frozen 3
      have f4 := B0.frozen 4
      clear b3
      go_wp2
      obtain ⟨q0, q1, q2, q3, q4⟩ := cells5 (x := .int .i64 ver) (y := .int .i64 mt) (z := .int .i64 len) (u := .slice A n c) (v := .slice B2 k d2) B0
      refine bodyPost_ret (v := .agg #[.int .i64 ver, .int .i64 mt, .int .i64 len, .slice A n c, .slice B2 k d2]) (by simp [results, Tryd.results16, go_sem, q0, q1, q2, q3, q4]) rfl ?_
      have hr0 : w.heap.size ≤ r0 := by have := hS.out.o1; have := hS.out.o2; omega
      have kS : Kp [r0] wr (((((wr.setCell ⟨r0, 0, none⟩ (.int .i64 ver)).setCell ⟨r0, 1, none⟩ (.int .i64 mt)).setCell ⟨r0, 2, none⟩ (.int .i64 len)).setCell ⟨r0, 3, none⟩ (.slice A n c)).setCell ⟨r0, 4, none⟩ (.slice B2 k d2)) := ((((((Kp.refl [r0] wr).setCell (.inl (by simp)) _).setCell (.inl (by simp)) _).setCell (.inl (by simp)) _).setCell (.inl (by simp)) _).setCell (.inl (by simp)) _)
      exact H.out B2 d2 _ (Lib.hid ⟨hS.out.kw.thn kS (fun s hs => .inr (by simp at hs; omega)), hS.out.ow.kp kS (fun b hb => by have := hS.out.fr b hb; have := hS.out.o3; simp; omega)⟩)
end
end Go.Proofs.YtnpkfhnhcadgeaaDoor
