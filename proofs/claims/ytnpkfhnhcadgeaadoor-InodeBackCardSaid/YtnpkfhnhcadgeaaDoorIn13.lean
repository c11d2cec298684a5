/- inode.ParseFile. -/
import Derived.Test.YtnpkfhnhcadgeaaDoorIn12
namespace Go.Proofs.YtnpkfhnhcadgeaaDoor
open Go.RowKit
set_option linter.unusedVariables false
set_option linter.unusedSimpArgs false
set_option maxRecDepth 100000
def verF (q : List UInt8) : Nat := numB ((q.drop 1).take 4)
def mtF (q : List UInt8) : Int := IntKind.i64.wrap (numB ((q.drop 5).take 8) : Int)
def lenF (q : List UInt8) : Nat := numB ((q.drop 13).take 2)
def cntL (q : List UInt8) : Nat := min (cntF (lenF q)) 32
def blkF (q : List UInt8) (k : Nat) : Nat := numB ((q.drop (15 + 6 * k)).take 2)
def evF (q : List UInt8) (k : Nat) : Nat := numB ((q.drop (15 + 6 * k + 2)).take 2)
def odF (q : List UInt8) (k : Nat) : Nat := numB ((q.drop (15 + 6 * k + 4)).take 2)
def blksF (q : List UInt8) : Nat → List Int
  | 0 => []
  | k + 1 => blksF q k ++ [(blkF q k : Int)]
def partsF (q : List UInt8) : Nat → List (Nat × Nat)
  | 0 => []
  | k + 1 => partsF q k ++ [(fl (evF q k), fl (odF q k))]
theorem blksF_len (q : List UInt8) : ∀ k, (blksF q k).length = k
  | 0 => rfl
  | k + 1 => by simp [blksF, blksF_len q k]
theorem partsF_len (q : List UInt8) : ∀ k, (partsF q k).length = k
  | 0 => rfl
  | k + 1 => by simp [partsF, partsF_len q k]
theorem partsF_mem (q : List UInt8) : ∀ k, ∀ p ∈ partsF q k, ∃ a b, a < 65536 ∧ b < 65536 ∧ p = (fl a, fl b)
  | 0 => by simp [partsF]
  | k + 1 => by
    intro p hp
    simp only [partsF, List.mem_append, List.mem_cons, List.not_mem_nil, or_false] at hp
    rcases hp with hp | rfl
    · exact partsF_mem q k p hp
    · exact ⟨_, _, numB_lt' (k := 2) (by simp; omega), numB_lt' (k := 2) (by simp; omega), rfl⟩
theorem elt_cplx : Elt Tryd.prog 33 68 (.complex .f64 0 0) 1 16 := ⟨Tryd.underlying33, by kernel_rfl, rfl, by decide, by decide⟩
/-- ParseFile's round. -/
structure LpF (W w : World) (g g6 : Nat) (q : List UInt8) (ver mt len : Int) (k j m : Nat) (A : Option Addr) (c : Nat) (B : Option Addr) (d : Nat) : Prop where
  ey : Ey W w g (q.drop m)
  bx : Bk w g6 35 [.int .i64 ver, .int .i64 mt, .int .i64 len, .slice A k c, .slice B j d]
  oa : Ow w 3 1 A k c ((blksF q k).flatMap iv)
  ob : Ow w 68 1 B j d ((partsF q j).flatMap cV)
  fa : ∀ b ∈ bks A, g6 < b
  fb : ∀ b ∈ bks B, g6 < b
  ab : ∀ b ∈ bks A, b ∉ bks B
  lt : g < g6
section
variable {W w w' w5 : World} {g g6 k j m m' c d c' : Nat} {q : List UInt8} {ver mt len : Int} {A B A' : Option Addr}
theorem LpF.kp (h : LpF W w g g6 q ver mt len k j m A c B d) (hk : Kp [] w w') : LpF W w' g g6 q ver mt len k j m A c B d := ⟨h.ey.kp hk, h.bx.kp hk (by simp), h.oa.kp hk (by simp), h.ob.kp hk (by simp), h.fa, h.fb, h.ab, h.lt⟩
theorem LpF.num (h : LpF W w g g6 q ver mt len k j m A c B d) (hk : Kp [g] w w') (he : Ey W w' g (q.drop m')) : LpF W w' g g6 q ver mt len k j m' A c B d :=
  ⟨he, h.bx.kp hk (by have := h.lt; simp; omega), h.oa.kp hk (fun b hb => by have := h.lt; have := h.fa b hb; simp; omega), h.ob.kp hk (fun b hb => by have := h.lt; have := h.fb b hb; simp; omega), h.fa, h.fb, h.ab, h.lt⟩
theorem LpF.appA (h : LpF W w g g6 q ver mt len k j m A c B d) (o : Obj)
    (ho : Ow w5 3 1 A' (k + 1) c' ((blksF q k).flatMap iv ++ [.int .i64 (blkF q k)])) (hk : Kp (bks A) (w.alloc o) w5) (hA : A' = A ∨ A' = some ⟨(w.alloc o).heap.size, 0, none⟩) :
    LpF W (w5.setCell ⟨g6, 3, none⟩ (.slice A' (k + 1) c')) g g6 q ver mt len (k + 1) j m A' c' B d := by
  have hbl := h.bx.lt
  have hf : ∀ b ∈ bks A', g6 < b ∧ b ∉ bks B := by
    intro b hb
    rcases hA with rfl | rfl
    · exact ⟨h.fa b hb, h.ab b hb⟩
    · simp [bks] at hb
      refine ⟨by omega, fun hm => ?_⟩
      have := h.ob.lt b hm
      omega
  have hg : g6 ∉ bks A := fun hm => Nat.lt_irrefl _ (h.fa _ hm)
  have hs : Kp [g6] w5 (w5.setCell ⟨g6, 3, none⟩ (.slice A' (k + 1) c')) := (Kp.refl [g6] w5).setCell (.inl (by simp)) _
  have ka := (Kp.refl [] w).alloc o
  refine ⟨((h.ey.kp ka).thn hk (fun s hs => Nat.lt_trans h.lt (h.fa s hs))).thn hs (by simp; exact h.lt), (((h.bx.alloc o).kp hk hg).set_ 3 _).cast rfl, (ho.kp hs (fun b hb => by have := (hf b hb).1; simp; omega)).cast rfl (by simp [blksF, iv]), ?_, fun b hb => (hf b hb).1, h.fb, fun b hb => (hf b hb).2, h.lt⟩
  exact ((h.ob.alloc o).kp hk (fun b hb hm => h.ab b hm hb)).kp hs (fun b hb => by have := h.fb b hb; simp; omega)
theorem LpF.appB (h : LpF W w g g6 q ver mt len k j m A c B d) (o : Obj)
    (ho : Ow w5 68 1 A' (j + 1) c' ((partsF q j).flatMap cV ++ [.complex .f64 (fl (evF q j)) (fl (odF q j))])) (hk : Kp (bks B) (w.alloc o) w5) (hA : A' = B ∨ A' = some ⟨(w.alloc o).heap.size, 0, none⟩) :
    LpF W (w5.setCell ⟨g6, 4, none⟩ (.slice A' (j + 1) c')) g g6 q ver mt len k (j + 1) m A c A' c' := by
  have hbl := h.bx.lt
  have hf : ∀ b ∈ bks A', g6 < b ∧ b ∉ bks A := by
    intro b hb
    rcases hA with rfl | rfl
    · exact ⟨h.fb b hb, fun hm => h.ab b hm hb⟩
    · simp [bks] at hb
      refine ⟨by omega, fun hm => ?_⟩
      have := h.oa.lt b hm
      omega
  have hg : g6 ∉ bks B := fun hm => Nat.lt_irrefl _ (h.fb _ hm)
  have hs : Kp [g6] w5 (w5.setCell ⟨g6, 4, none⟩ (.slice A' (j + 1) c')) := (Kp.refl [g6] w5).setCell (.inl (by simp)) _
  have ka := (Kp.refl [] w).alloc o
  refine ⟨((h.ey.kp ka).thn hk (fun s hs => Nat.lt_trans h.lt (h.fb s hs))).thn hs (by simp; exact h.lt), (((h.bx.alloc o).kp hk hg).set_ 4 _).cast rfl, ?_, (ho.kp hs (fun b hb => by have := (hf b hb).1; simp; omega)).cast rfl (by simp [partsF, cV]), h.fa, fun b hb => (hf b hb).1, fun b hb hm => (hf b hm).2 hb, h.lt⟩
  exact ((h.oa.alloc o).kp hk (fun b hb hm => h.ab b hb hm)).kp hs (fun b hb => by have := h.fa b hb; simp; omega)
end
theorem fl_inj {a b : Nat} (ha : a < 2 ^ 53) (hb : b < 2 ^ 53) (h : fl a = fl b) : a = b := by
  have h1 := order_fl ha hb
  rw [h, order_fl hb hb] at h1
  injection h1 with h1
  rw [Nat.compare_eq_eq.2 rfl] at h1
  exact Nat.compare_eq_eq.1 h1.symm
/-- Which number it is. -/
noncomputable def vF (x : Nat) : Nat := by
  classical exact if h : ∃ a, a < 65536 ∧ x = fl a then h.choose else 0
theorem vF_fl {a : Nat} (ha : a < 65536) : vF (fl a) = a := by
  have h : ∃ b, b < 65536 ∧ fl a = fl b := ⟨a, ha, rfl⟩
  unfold vF
  rw [dif_pos h]
  have h2 := h.choose_spec
  exact (fl_inj (by omega) (by omega) h2.2).symm
def wF (x : Nat) : Bool := true
/-- What a block that is none answers ahead of its parse. -/
def eF (l : List UInt8) (e : Int) : Prop := (l.length ≠ 256 → e = 50) ∧ (l.length = 256 → goodB l = false → e = 51)
def isFile (l : List UInt8) : Prop := l.length = 256 ∧ goodB l = true ∧ fileB wF (verF (l.take 254)) (mtF (l.take 254)) (lenF (l.take 254)) (blksF (l.take 254) (cntL (l.take 254))) (partsF (l.take 254) (cntL (l.take 254))) = true ∧
  l = sealB (fileT vF (verF (l.take 254)) (mtF (l.take 254)) (lenF (l.take 254)) (blksF (l.take 254) (cntL (l.take 254))) (partsF (l.take 254) (cntL (l.take 254))))
theorem cells5 {w : World} {g t : Nat} {a b c d e x y z u v : Value} (h : Bk w g t [a, b, c, d, e]) :
    let w' := ((((w.setCell ⟨g, 0, none⟩ x).setCell ⟨g, 1, none⟩ y).setCell ⟨g, 2, none⟩ z).setCell ⟨g, 3, none⟩ u).setCell ⟨g, 4, none⟩ v
    w'.cell? ⟨g, 0, none⟩ = some x ∧ w'.cell? ⟨g, 1, none⟩ = some y ∧ w'.cell? ⟨g, 2, none⟩ = some z ∧ w'.cell? ⟨g, 3, none⟩ = some u ∧ w'.cell? ⟨g, 4, none⟩ = some v := by
  have h2 := ((((h.set_ 0 x).set_ 1 y).set_ 2 z).set_ 3 u).set_ 4 v
  exact ⟨h2.cell 0, h2.cell 1, h2.cell 2, h2.cell 3, h2.cell 4⟩
section
variable {R : Ending → World → Prop} {w w' w0 : World} {g : Nat} {l : List UInt8}
set_option maxHeartbeats 8000000 in
theorem pfile_any {A : Option Addr} {n c : Nat} (hr : Rd w [] A (bts l)) (hl : l.length = n) (hn : n ≤ 65536) (hc : n ≤ c)
    (h0 : ¬ isFile l → ∀ e w', e ≠ 0 → Hid (eF l e) → Kp [] w w' → R (.returned (.tuple #[.agg #[.int .i64 0, .int .i64 0, .int .i64 0, .slice none 0 0, .slice none 0 0], .int .i64 e])) w')
    (h1 : isFile l → ∀ A' c' B' d' w', Hid (Kp [] w w' ∧ Ow w' 3 1 A' (cntL (l.take 254)) c' ((blksF (l.take 254) (cntL (l.take 254))).flatMap iv) ∧ Ow w' 68 1 B' (cntL (l.take 254)) d' ((partsF (l.take 254) (cntL (l.take 254))).flatMap cV) ∧ (∀ b ∈ bks A', w.heap.size ≤ b) ∧ ∀ b ∈ bks B', w.heap.size ≤ b) → R (.returned (.tuple #[.agg #[.int .i64 (verF (l.take 254)), .int .i64 (mtF (l.take 254)), .int .i64 (lenF (l.take 254)), .slice A' (cntL (l.take 254)) c', .slice B' (cntL (l.take 254)) d'], .int .i64 0])) w') :
    Calls Tryd.prog 8 #[.slice A n c] w R := by
  have H0 := Lib.hid h0
  have H1 := Lib.hid h1
  have HR := Lib.hid hr
  have HL := Lib.hid hl
  clear h0 h1 hr hl
  go_enter Tryd.func8, Tryd.ntmps8
  go_upto_region 1 with (fail)
  refine gen_worldI (fun W => ∃ r0, w.heap.size = r0 ∧ Hid (Kp [] w W ∧ Bk W r0 35 [.int .i64 0, .int .i64 0, .int .i64 0, .slice none 0 0, .slice none 0 0])) ⟨_, rfl, Lib.hid ⟨(Kp.refl _ _).alloc _, (Bk.new' _ _ _).cast rfl⟩⟩ ?_
  rintro W ⟨r0, hr0, hW⟩
  rw [hr0]
  have hwr0 : w.heap.size ≤ r0 := by omega
  have hrW : r0 < W.heap.size := hW.out.2.lt
  clear hr0
  have HOp : Hid (∀ (R : Ending → World → Prop), (∀ e w', e ≠ 0 → Hid (¬ isFile l ∧ eF l e) → Kp [] W w' → R (.returned (.tuple #[.pointer none, .int .i64 e])) w') → (Hid (l.length = 256 ∧ goodB l = true) → ∀ g w', Hid (Ey W w' g (l.take 254)) → R (.returned (.tuple #[.pointer (some ⟨g, 0, none⟩), .int .i64 0])) w') → Calls Tryd.prog 20 #[.slice A n c] W R) := Lib.hid (fun R h0 h1 => iopen_any (HR.out.kp hW.out.1 (by simp)) HL.out hn hc (fun e w' he h5 h6 k => h0 e w' he (Lib.hid ⟨fun hi => (Bool.noConfusion (hi.2.1.symm.trans (h6 (by have := hi.1; have := HL.out; omega)).2)), fun hn2 => h5 (by have := HL.out; omega), fun hn2 _ => (h6 (by have := HL.out; omega)).1⟩) k) (fun h5 h6 => h1 (Lib.hid ⟨by have := HL.out; omega, h6⟩)))
  have HB0 : Hid (∀ w', Kp [] W w' → Bk w' r0 35 [.int .i64 0, .int .i64 0, .int .i64 0, .slice none 0 0, .slice none 0 0]) := Lib.hid (fun w' k' => hW.out.2.kp k' (by simp))
  go_upto_if 16 with (go_at_call 20; (refine HOp.out _ (fun e w2 he hni k2 => ?_) (fun hg g w2 h2 => ?_); (have he0 : (e != 0) = true := by simpa using he); rotate_left))
  rotate_left
  · have B0 := HB0.out _ k2
    have d0 : w2.cell? ⟨r0, 0, none⟩ = some (.int .i64 0) := B0.cell 0
    have d1 : w2.cell? ⟨r0, 1, none⟩ = some (.int .i64 0) := B0.cell 1
    have d2 : w2.cell? ⟨r0, 2, none⟩ = some (.int .i64 0) := B0.cell 2
    have d3 : w2.cell? ⟨r0, 3, none⟩ = some (.slice none 0 0) := B0.cell 3
    have d4 : w2.cell? ⟨r0, 4, none⟩ = some (.slice none 0 0) := B0.cell 4
    have f0 := B0.frozen 0
    have f1 := B0.frozen 1
    have f2 := B0.frozen 2
    have f3 := B0.frozen 3
    have f4 := B0.frozen 4
    clear he0
    go_wp2
    obtain ⟨u0, u1, u2, u3, u4⟩ := cells5 (x := .int .i64 0) (y := .int .i64 0) (z := .int .i64 0) (u := .slice none 0 0) (v := .slice none 0 0) B0
    refine bodyPost_ret (v := .tuple #[.agg #[.int .i64 0, .int .i64 0, .int .i64 0, .slice none 0 0, .slice none 0 0], .int .i64 e]) (by simp [results, Tryd.results8, go_sem, u0, u1, u2, u3, u4]) rfl ?_
    exact H0.out hni.out.1 e _ he (Lib.hid hni.out.2) ((((((hW.out.1.trans k2).setCell (.inr hwr0) _).setCell (.inr hwr0) _).setCell (.inr hwr0) _).setCell (.inr hwr0) _).setCell (.inr hwr0) _)
  have HQ : Hid (l.length = 256 ∧ goodB l = true) := hg
  clear hg HOp
  obtain ⟨q, hq⟩ : ∃ q, l.take 254 = q := ⟨_, rfl⟩
  rw [hq] at h2
  have HQL : Hid (q.length = 254) := Lib.hid (by rw [← hq, List.length_take, HQ.out.1]; rfl)
  have HQQ := Lib.hid hq
  clear hq
  have HA1 : Hid (∀ (R : Ending → World → Prop), (∀ v w', Hid (Ey W w' g (q.drop 1)) → R (.returned (.int .u64 v)) w') → Calls Tryd.prog 22 #[.pointer (some ⟨g, 0, none⟩), .int .i64 1] w2 R) := Lib.hid (fun R h => enum1_any h2 (by rw [HQL.out]; decide) (fun w' k h' => h _ w' h'))
  go_upto_region 5 with (go_at_call 22; (refine HA1.out _ ?_; intro v3 w3 h3))
  obtain ⟨G, hG⟩ : ∃ G, verF q = G := ⟨_, rfl⟩
  obtain ⟨M, hM⟩ : ∃ M, numB ((q.drop 5).take 8) = M := ⟨_, rfl⟩
  obtain ⟨L, hL⟩ : ∃ L, lenF q = L := ⟨_, rfl⟩
  obtain ⟨mt, hmt⟩ : ∃ mt, IntKind.i64.wrap (M : Int) = mt := ⟨_, rfl⟩
  have hGl : G < 4294967296 := by rw [← hG]; exact numB_lt' (k := 4) (by simp; omega)
  have hLl : L < 65536 := by rw [← hL]; exact numB_lt' (k := 2) (by simp; omega)
  have hwG : IntKind.i64.wrap (G : Int) = G := by rw [IntKind.wrap_i64]; omega
  have hwL : IntKind.i64.wrap (L : Int) = L := by rw [IntKind.wrap_i64]; omega
  have HMT : Hid (mtF q = mt) := Lib.hid (by unfold mtF; rw [hM, hmt])
  have H4 : Hid (∀ (R : Ending → World → Prop), (∀ w', Hid (Ey W w' g (q.drop 5)) → R (.returned (.int .u64 G)) w') → Calls Tryd.prog 22 #[.pointer (some ⟨g, 0, none⟩), .int .i64 4] w3 R) := Lib.hid (fun R h => enum4_any h3 (by rw [List.length_drop, HQL.out]; decide) (fun w' k h' => by
    have e : numB ((q.drop 1).take 4) = G := hG
    rw [List.drop_drop] at h'
    rw [e]
    exact h w' h'))
  have H8 : Hid (∀ (R : Ending → World → Prop) (w4 : World), Hid (Ey W w4 g (q.drop 5)) → (∀ w', Hid (Ey W w' g (q.drop 13)) → R (.returned (.int .u64 M)) w') → Calls Tryd.prog 22 #[.pointer (some ⟨g, 0, none⟩), .int .i64 8] w4 R) := Lib.hid (fun R w4 h4 h => enum8_any h4 (by rw [List.length_drop, HQL.out]; decide) (fun w' k h' => by
    rw [List.drop_drop] at h'
    rw [hM]
    exact h w' h'))
  have H2 : Hid (∀ (R : Ending → World → Prop) (w5 : World), Hid (Ey W w5 g (q.drop 13)) → (∀ w', Hid (Ey W w' g (q.drop 15)) → R (.returned (.int .u64 L)) w') → Calls Tryd.prog 22 #[.pointer (some ⟨g, 0, none⟩), .int .i64 2] w5 R) := Lib.hid (fun R w5 h5 h => enum2_any h5 (by rw [List.length_drop, HQL.out]; decide) (fun w' k h' => by
    have e : numB ((q.drop 13).take 2) = L := hL
    rw [List.drop_drop] at h'
    rw [e]
    exact h w' h'))
  have HG := Lib.hid hG
  have HLn := Lib.hid hL
  clear hG hM hL
  go_upto_region 6 with (first | (go_at_call 22; (with_reducible refine H4.out _ ?_; intro w4 h4)) | (go_at_call 22; (with_reducible refine H8.out _ _ h4 ?_; intro w5 h5)) | (go_at_call 22; (with_reducible refine H2.out _ _ h5 ?_; intro w6 h6)))
  refine gen_worldI (fun W6 => ∃ g6, w6.heap.size = g6 ∧ Hid (LpF W W6 g g6 q G mt L 0 0 15 none 0 none 0)) ⟨_, rfl, Lib.hid ⟨h6.out.kp ((Kp.refl [] _).alloc _), (Bk.new' _ _ _).cast rfl, Ow.nil, Ow.nil, by simp [bks], by simp [bks], by simp [bks], by obtain ⟨A, n, c, he, _⟩ := h6.out.x; exact he.bk.lt⟩⟩ ?_
  rintro W6 ⟨g6, hg6, h7⟩
  rw [hg6]
  clear hg6 H4 H8 H2 h3 h4 h5 h6 h2 HA1 hmt hwG hwL
  have b6 := h7.out.bx
  have c2 : W6.cell? ⟨g6, 2, none⟩ = some (.int .i64 L) := b6.cell 2
  clear b6
  obtain ⟨K, hK⟩ : ∃ K, cntF L = K := ⟨_, rfl⟩
  have HCt : Hid (∀ (R : Ending → World → Prop), R (.returned (.int .i64 K)) W6 → Calls Tryd.prog 24 #[.int .i64 L] W6 R) := Lib.hid (fun R h => count_any L (by omega) (by rw [hK]; exact h))
  have HK := Lib.hid hK
  clear hK
  go_wp2_with (go_at_call 24; (refine HCt.out _ ?_))
  obtain ⟨N, hN⟩ : ∃ N : Nat, min (K : Int) 32 = N := ⟨min K 32, by omega⟩
  rw [hN]
  have hN4 : N ≤ 32 := by omega
  have HN : Hid (cntL q = N) := Lib.hid (by unfold cntL; rw [HLn.out, HK.out]; omega)
  clear hN HCt HK
  go_loopw [35] (fun jv wr => ∃ k : Nat, k ≤ N ∧ jv = .int .i64 k ∧ ∃ A c B d, Hid (LpF W wr g g6 q G mt L k k (15 + 6 * k) A c B d)) (fun jv _ => N - (intOf jv).toNat)
  case atStart => exact ⟨0, Nat.zero_le _, rfl, none, 0, none, 0, h7⟩
  case round =>
    obtain ⟨k, hk, rfl, A2, c2, B2, d2, hS⟩ := hrel
    by_cases hlt : k < N
    · obtain ⟨V, hV⟩ : ∃ V, blkF q k = V := ⟨_, rfl⟩
      have hVl : V < 65536 := by rw [← hV]; exact numB_lt' (k := 2) (by simp; omega)
      have hwr : IntKind.i64.wrap (V : Int) = V := by rw [IntKind.wrap_i64]; omega
      have HNum : Hid (∀ (R : Ending → World → Prop), (∀ w', Hid (LpF W w' g g6 q G mt L k k (15 + 6 * k + 2) A2 c2 B2 d2) → R (.returned (.int .u64 V)) w') → Calls Tryd.prog 22 #[.pointer (some ⟨g, 0, none⟩), .int .i64 2] wr.drew R) := Lib.hid (fun R h => enum2_any (Lib.hid (hS.out.ey.kp (Kp.refl [] wr).drew)) (by rw [List.length_drop, HQL.out]; omega) (fun w' k' h' => by
        have e : numB ((q.drop (15 + 6 * k)).take 2) = V := hV
        rw [List.drop_drop] at h'
        rw [e]
        exact h w' (Lib.hid ((hS.out.kp (Kp.refl [] wr).drew).num k' h'.out))))
      have HV := Lib.hid hV
      have b2 := hS.out.bx.drew
      have c1 : wr.drew.cell? ⟨g6, 3, none⟩ = some (.slice A2 k c2) := b2.cell 3
      have f1 := b2.frozen 3
      clear hV b2
      go_upto_region 8 with (fail)
      go_region_law (first | (go_simp; go_at_call 22; (refine HNum.out _ ?_); intro w9 h9; have e9 : w9.cell? ⟨g6, 3, none⟩ = some (.slice A2 k c2) := h9.out.bx.cell 3; have f9a : ∀ o, (w9.alloc o).cell? ⟨g6, 3, none⟩ = some (.slice A2 k c2) := fun o => (h9.out.bx.alloc o).cell 3) | (refine step_appI rfl (.tmp 38) (.tmp 42) _ rfl elt_intI A2 k c2 _ (by simp [Act.eval, Act.put]) (h9.out.oa.alloc _) [] (some ⟨w9.heap.size, 0, none⟩) 1 1 [.int .i64 V] (by simp [Act.eval, Act.put]) (Rd.of_bk (Bk.newAt rfl _ _) (by simp)) rfl (by simp [Value.oneCell']) (by omega) ?_; intro A3 c3 w5 ho5 hk5 hA5; have hL := Lib.hid (h9.out.appA _ (by rw [HV.out]; exact ho5) hk5 hA5); have b5 := (h9.out.bx.alloc (.cells #[.int .i64 V] 3)).kp hk5 (fun hm => Nat.lt_irrefl _ (h9.out.fa _ hm)); have z5 := b5.frozen 3; have y5 : w5.cell? ⟨g6, 3, none⟩ = some (.slice A2 k c2) := b5.cell 3))
      all_goals go_upto_region 9 with (fail)
      all_goals refine gen_worldI (fun W8 => Hid (LpF W W8 g g6 q G mt L (k + 1) k (15 + 6 * k + 2) A3 c3 B2 d2)) hL ?_
      all_goals (clear HNum hL; intro W8 h8)
      all_goals (obtain ⟨E0, hE0⟩ : ∃ E0, evF q k = E0 := ⟨_, rfl⟩)
      all_goals have HE9 : Hid (∀ (R : Ending → World → Prop), (∀ w', Hid (LpF W w' g g6 q G mt L (k + 1) k (15 + 6 * k + 4) A3 c3 B2 d2) → R (.returned (.int .u64 E0)) w') → Calls Tryd.prog 22 #[.pointer (some ⟨g, 0, none⟩), .int .i64 2] W8 R) := Lib.hid (fun R h => enum2_any (Lib.hid h8.out.ey) (by rw [List.length_drop, HQL.out]; omega) (fun w' k' h' => by
        have e : numB ((q.drop (15 + 6 * k + 2)).take 2) = E0 := hE0
        rw [List.drop_drop] at h'
        rw [e]
        exact h w' (Lib.hid (h8.out.num k' h'.out))))
      all_goals have HE0 := Lib.hid hE0
      all_goals clear hE0
      all_goals go_upto_region 10 with (go_at_call 22; (refine HE9.out _ ?_; intro w10 h10))
      all_goals (obtain ⟨O0, hO0⟩ : ∃ O0, odF q k = O0 := ⟨_, rfl⟩)
      all_goals have HE10 : Hid (∀ (R : Ending → World → Prop), (∀ w', Hid (LpF W w' g g6 q G mt L (k + 1) k (15 + 6 * (k + 1)) A3 c3 B2 d2) → R (.returned (.int .u64 O0)) w') → Calls Tryd.prog 22 #[.pointer (some ⟨g, 0, none⟩), .int .i64 2] w10.drew R) := Lib.hid (fun R h => enum2_any (Lib.hid (h10.out.ey.kp (Kp.refl [] w10).drew)) (by rw [List.length_drop, HQL.out]; omega) (fun w' k' h' => by
        have e : numB ((q.drop (15 + 6 * k + 4)).take 2) = O0 := hO0
        rw [List.drop_drop] at h'
        rw [e]
        exact h w' (Lib.hid ((h10.out.kp (Kp.refl [] w10).drew).num k' h'.out))))
      all_goals have HO0 := Lib.hid hO0
      all_goals have b10 := h10.out.bx.drew
      all_goals have c10 : w10.drew.cell? ⟨g6, 4, none⟩ = some (.slice B2 k d2) := b10.cell 4
      all_goals have f10 := b10.frozen 4
      all_goals clear hO0 b10 HE9
      all_goals go_region_law (first | (go_simp; go_at_call 22; (refine HE10.out _ ?_); intro w11 h11; have e11 : w11.cell? ⟨g6, 4, none⟩ = some (.slice B2 k d2) := h11.out.bx.cell 4; have f11a : ∀ o, (w11.alloc o).cell? ⟨g6, 4, none⟩ = some (.slice B2 k d2) := fun o => (h11.out.bx.alloc o).cell 4) | (refine step_appI rfl (.tmp 49) (.tmp 55) _ rfl elt_cplx B2 k d2 _ (by simp [Act.eval, Act.put]) (h11.out.ob.alloc _) [] (some ⟨w11.heap.size, 0, none⟩) 1 1 [.complex .f64 (floatOfInt .f64 (E0 : Int)) (floatOfInt .f64 (O0 : Int))] (by simp [Act.eval, Act.put]) (Rd.of_bk (Bk.newAt rfl _ _) (by simp)) rfl (by simp [Value.oneCell']) (by omega) ?_; intro B3 d3 w12 ho12 hk12 hA12; have hL2 := Lib.hid (h11.out.appB _ (by rw [HE0.out, HO0.out]; exact ho12) hk12 hA12); have b12 := (h11.out.bx.alloc (.cells #[.complex .f64 (floatOfInt .f64 (E0 : Int)) (floatOfInt .f64 (O0 : Int))] 68)).kp hk12 (fun hm => Nat.lt_irrefl _ (h11.out.fb _ hm)); have z12 := b12.frozen 4; have y12 : w12.cell? ⟨g6, 4, none⟩ = some (.slice B2 k d2) := b12.cell 4))
      all_goals go_wp2
      all_goals exact ⟨⟨k + 1, by omega, by go_num, A3, c3, B3, d3, hL2⟩, by simp [intOf]; omega⟩
    · obtain rfl : k = N := by omega
      have HP : Hid (∀ (R : Ending → World → Prop), (∀ e a A3 m3 c3 w', Hid (Kp [] wr w' ∧ Rd w' [] A3 (bts a) ∧ a.length = m3 ∧ ((e = 0 ∧ fileB wF G mt L (blksF q k) (partsF q k) = true ∧ a = sealB (fileT vF G mt L (blksF q k) (partsF q k))) ∨ (e = 1 ∧ fileB wF G mt L (blksF q k) (partsF q k) = false))) → R (.returned (.tuple #[.slice A3 m3 c3, .int .i64 e])) w') → Calls Tryd.prog 15 #[.agg #[.int .i64 G, .int .i64 mt, .int .i64 L, .slice A2 k c2, .slice B2 k d2]] wr R) := Lib.hid (fun R h => packf_any wF vF G mt L (fun p hp => by
        obtain ⟨a, b, ha, hb, rfl⟩ := partsF_mem q k p hp
        have h1 := word_fl (n := a) (by omega)
        have h2 := word_fl (n := b) (by omega)
        rw [decide_eq_true (by omega)] at h1 h2
        exact ⟨h1, h2⟩) (fun p hp => by
        obtain ⟨a, b, ha, hb, rfl⟩ := partsF_mem q k p hp
        exact ⟨fun _ => by show vF (fl a) < 65536 ∧ fl a = fl (vF (fl a)); rw [vF_fl ha]; exact ⟨ha, rfl⟩, fun _ => by show vF (fl b) < 65536 ∧ fl b = fl (vF (fl b)); rw [vF_fl hb]; exact ⟨hb, rfl⟩⟩) (hS.out.oa.rd (by simp)) (blksF_len q k) (hS.out.ob.rd (by simp)) (partsF_len q k) (fun hb w' k' => h 1 [] none 0 0 w' (Lib.hid ⟨k', Rd.nil, rfl, .inr ⟨rfl, hb⟩⟩)) (fun hb A' c' w' h' => h 0 _ A' 256 c' w' (Lib.hid ⟨h'.out.1, h'.out.2.1.rd (by simp), sealB_len (by unfold fileT; simp only [List.length_append, List.length_cons, List.length_nil, putL_len, rowsT_len, blksF_len]; omega), .inl ⟨rfl, hb, rfl⟩⟩)))
      have HBX : Hid (∀ w', Kp [] wr w' → w'.cell? ⟨g6, 0, none⟩ = some (.int .i64 G) ∧ w'.cell? ⟨g6, 1, none⟩ = some (.int .i64 mt) ∧ w'.cell? ⟨g6, 2, none⟩ = some (.int .i64 L) ∧ w'.cell? ⟨g6, 3, none⟩ = some (.slice A2 k c2) ∧ w'.cell? ⟨g6, 4, none⟩ = some (.slice B2 k d2)) := Lib.hid (fun w' k' => ⟨(hS.out.bx.kp k' (by simp)).cell 0, (hS.out.bx.kp k' (by simp)).cell 1, (hS.out.bx.kp k' (by simp)).cell 2, (hS.out.bx.kp k' (by simp)).cell 3, (hS.out.bx.kp k' (by simp)).cell 4⟩)
      obtain ⟨c0, c1, c2', c3, c4⟩ := HBX.out wr (Kp.refl _ _)
      go_upto_region 13 with (go_at_call 15; (refine HP.out _ ?_; intro e2 a A3 m3 c3' w8 h8))
      have HS2 : Hid (∀ (R : Ending → World → Prop), (∀ f, Hid ((f = 0 ∧ e2 = 0 ∧ l = a) ∨ (f = 50 ∧ ¬ (e2 = 0 ∧ l = a))) → R (.returned (.int .i64 f)) w8) → Calls Tryd.prog 23 #[.slice A n c, .slice A3 m3 c3', .int .i64 e2] w8 R) := Lib.hid (fun R h => same_any (HR.out.kp ((hW.out.1.trans hS.out.ey.k).trans h8.out.1) (by simp)) h8.out.2.1 HL.out h8.out.2.2.1 h)
      have hHS := hS
      clear HP hS
      go_upto_region 14 with (go_at_call 23; (refine HS2.out _ ?_; intro f hf))
      have kW := (hHS.out.ey.k).trans h8.out.1
      have B0 := HB0.out _ kW
      obtain ⟨c0, c1, c2', c3, c4⟩ := HBX.out w8 h8.out.1
      have dd0 : w8.cell? ⟨r0, 0, none⟩ = some (.int .i64 0) := B0.cell 0
      have dd1 : w8.cell? ⟨r0, 1, none⟩ = some (.int .i64 0) := B0.cell 1
      have dd2 : w8.cell? ⟨r0, 2, none⟩ = some (.int .i64 0) := B0.cell 2
      have dd3 : w8.cell? ⟨r0, 3, none⟩ = some (.slice none 0 0) := B0.cell 3
      have dd4 : w8.cell? ⟨r0, 4, none⟩ = some (.slice none 0 0) := B0.cell 4
      have f0 := B0.frozen 0
      have f1 := B0.frozen 1
      have f2 := B0.frozen 2
      have f3 := B0.frozen 3
      have f4 := B0.frozen 4
      have hH8 := h8
      clear h8
      rcases hf.out with ⟨rfl, hyes⟩ | ⟨rfl, hno⟩
      · have HY := Lib.hid hyes
        clear hyes hf
        go_wp2
        obtain ⟨u0, u1, u2, u3, u4⟩ := cells5 (x := .int .i64 G) (y := .int .i64 mt) (z := .int .i64 L) (u := .slice A2 k c2) (v := .slice B2 k d2) B0
        refine bodyPost_ret (v := .tuple #[.agg #[.int .i64 G, .int .i64 mt, .int .i64 L, .slice A2 k c2, .slice B2 k d2], .int .i64 0]) (by simp [results, Tryd.results8, go_sem, u0, u1, u2, u3, u4]) rfl ?_
        have H2 := H1.out
        unfold isFile at H2
        rw [HQQ.out, HN.out, HG.out, HMT.out, HLn.out] at H2
        have kS : Kp [r0] w8 (((((w8.setCell ⟨r0, 0, none⟩ (.int .i64 G)).setCell ⟨r0, 1, none⟩ (.int .i64 mt)).setCell ⟨r0, 2, none⟩ (.int .i64 L)).setCell ⟨r0, 3, none⟩ (.slice A2 k c2)).setCell ⟨r0, 4, none⟩ (.slice B2 k d2)) := ((((((Kp.refl [r0] w8).setCell (.inl (by simp)) _).setCell (.inl (by simp)) _).setCell (.inl (by simp)) _).setCell (.inl (by simp)) _).setCell (.inl (by simp)) _)
        have hgo : r0 < g := Nat.lt_of_lt_of_le hrW hHS.out.ey.g0
        have hgl := hHS.out.lt
        refine H2 ⟨HQ.out.1, HQ.out.2, ?_⟩ A2 c2 B2 d2 _ (Lib.hid ⟨(hW.out.1.trans kW).thn kS (fun s hs => .inr (by simp at hs; subst hs; exact hwr0)), (hHS.out.oa.kp hH8.out.1 (by simp)).kp kS (fun b hb => by have := hHS.out.fa b hb; simp; omega), (hHS.out.ob.kp hH8.out.1 (by simp)).kp kS (fun b hb => by have := hHS.out.fb b hb; simp; omega), fun b hb => by have := hHS.out.fa b hb; omega, fun b hb => by have := hHS.out.fb b hb; omega⟩)
        rcases hH8.out.2.2.2 with ⟨_, hb, hs⟩ | ⟨h1, _⟩
        · exact ⟨hb, HY.out.2.trans hs⟩
        · exact absurd (h1.symm.trans HY.out.1) (by decide)
      · have HY := Lib.hid hno
        clear hno hf
        go_wp2
        obtain ⟨u0, u1, u2, u3, u4⟩ := cells5 (x := .int .i64 0) (y := .int .i64 0) (z := .int .i64 0) (u := .slice none 0 0) (v := .slice none 0 0) B0
        refine bodyPost_ret (v := .tuple #[.agg #[.int .i64 0, .int .i64 0, .int .i64 0, .slice none 0 0, .slice none 0 0], .int .i64 50]) (by simp [results, Tryd.results8, go_sem, u0, u1, u2, u3, u4]) rfl ?_
        refine H0.out (fun hi => ?_) 50 _ (by decide) (Lib.hid ⟨fun h => absurd HQ.out.1 h, fun _ h => by rw [HQ.out.2] at h; cases h⟩) ((((((hW.out.1.trans kW).setCell (.inr hwr0) _).setCell (.inr hwr0) _).setCell (.inr hwr0) _).setCell (.inr hwr0) _).setCell (.inr hwr0) _)
        unfold isFile at hi
        rw [HQQ.out, HN.out, HG.out, HMT.out, HLn.out] at hi
        rcases hH8.out.2.2.2 with ⟨h0, _, hs⟩ | ⟨_, hb⟩
        · exact HY.out ⟨h0, hi.2.2.2.trans hs.symm⟩
        · rw [hi.2.2.1] at hb; cases hb
end
end Go.Proofs.YtnpkfhnhcadgeaaDoor
