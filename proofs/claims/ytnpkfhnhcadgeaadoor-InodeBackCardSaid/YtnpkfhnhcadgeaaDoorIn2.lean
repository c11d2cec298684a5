/- inode's pen: num, seal. -/
import Derived.Test.YtnpkfhnhcadgeaaDoorIn1
import Derived.Test.YtnpkfhnhcadgeaaDoorAz
import Derived.Test.YtnpkfhnhcadgeaaDoorOct1
import Derived.Test.YtnpkfhnhcadgeaaDoorQuiet
import Derived.Deep.RegionLaw
import Derived.BigRegion
import Derived.StillTailTactics
namespace Go.Proofs.YtnpkfhnhcadgeaaDoor
open Go.RowKit
set_option linter.unusedVariables false
set_option linter.unusedSimpArgs false
set_option maxRecDepth 100000
theorem Ow.row {w : World} {e n c : Nat} {A : Option Addr} {xs : List Value} (h : Ow w e 1 A n c xs) (hn : 0 < n) : ∃ g cur, A = some ⟨g, 0, none⟩ ∧ Bk w g e cur ∧ cur.length = c ∧ n ≤ c ∧ c ≤ maxLen ∧ cur.take n = xs := by
  rcases h.2 with ⟨hv, h0⟩ | ⟨g, cap, cur, hv, _, hg, hnc, hcm, hcs, ht⟩
  · omega
  · injection hv with hA _ hc
    subst hc
    exact ⟨g, cur.toList, hA, by simpa [Bk] using hg, by rw [Array.length_toList]; omega, hnc, hcm, by simpa using ht⟩
theorem Ow.of_row {w : World} {e n c g : Nat} {cur xs : List Value} (hb : Bk w g e cur) (hl : cur.length = c) (hn : n ≤ c) (hm : c ≤ maxLen) (ht : cur.take n = xs) : Ow w e 1 (some ⟨g, 0, none⟩) n c xs := by
  refine ⟨?_, .inr ⟨g, c, cur.toArray, rfl, Nat.zero_le _, by simpa [Bk] using hb, hn, hm, by simp [hl], by simpa using ht⟩⟩
  rw [← ht]; simp; omega
theorem Ow.setAt {w : World} {e n c g : Nat} {xs : List Value} (h : Ow w e 1 (some ⟨g, 0, none⟩) n c xs) {i : Nat} (hi : i < n) (v : Value) : Ow (w.setCell ⟨g, i, none⟩ v) e 1 (some ⟨g, 0, none⟩) n c (xs.set i v) := by
  obtain ⟨g', cur, hA, hb, hl, hn, hm, ht⟩ := h.row (by omega)
  injection hA with hA; injection hA with hA; subst hA
  exact Ow.of_row (hb.set_ i v) (by simpa using hl) hn hm (by rw [List.take_set, ht])
theorem Ow.cellAt {w : World} {e n c g : Nat} {xs : List Value} (h : Ow w e 1 (some ⟨g, 0, none⟩) n c xs) {i : Nat} (hi : i < n) : w.cell? ⟨g, i, none⟩ = xs[i]? ∧ w.frozen? ⟨g, i, none⟩ = false := by
  obtain ⟨g', cur, hA, hb, hl, hn, hm, ht⟩ := h.row (by omega)
  injection hA with hA; injection hA with hA; subst hA
  refine ⟨?_, hb.frozen i⟩
  rw [hb.cell, ← ht, List.getElem?_take, if_pos hi]
/-- The pen in the midst of a block; all that was there at w0 is kept. -/
structure Pn (w0 w : World) (g : Nat) (t : List UInt8) : Prop where
  k : Kp [] w0 w
  g0 : w0.heap.size ≤ g
  x : ∃ A c, Bk w g 70 [.slice A t.length c] ∧ Ow w 5 1 A t.length c (bts t) ∧ ∀ b ∈ bks A, w0.heap.size ≤ b ∧ b ≠ g
section
variable {R : Ending → World → Prop} {w0 w w' : World} {g : Nat} {t : List UInt8}
theorem Pn.kp (h : Pn w0 w g t) (hk : Kp [] w w') : Pn w0 w' g t := by
  obtain ⟨A, c, h1, h2, h3⟩ := h.x
  exact ⟨h.k.trans hk, h.g0, A, c, h1.kp hk (by simp), h2.kp hk (by simp), h3⟩
/-- The same, where its bytes may be read alone. -/
structure Pr0 (w0 w : World) (g : Nat) (t : List UInt8) : Prop where
  k : Kp [] w0 w
  g0 : w0.heap.size ≤ g
  x : ∃ A c, Bk w g 70 [.slice A t.length c] ∧ Rd w [] A (bts t)
theorem Pn.pr (h : Pn w0 w g t) : Pr0 w0 w g t := by
  obtain ⟨A, c, h1, h2, h3⟩ := h.x
  exact ⟨h.k, h.g0, A, c, h1, h2.rd (by simp)⟩
theorem rd_mark (W : World) (C : Array Value) (t : Nat) (z : Nat × Nat) (l : List Value) (hl : C.toList = l) : Rd (W.alloc (.cells C t z)) [] (some ⟨W.heap.size, 0, none⟩) l := fun hx => by
  subst hl
  refine ⟨W.heap.size, 0, rfl, by simp, by simp, fun j u hu => ?_⟩
  have hh := heap_alloc_new W (.cells C t z)
  rw [Nat.zero_add]
  simp only [World.cell?, hh]
  simpa using hu
set_option maxHeartbeats 1000000 in
theorem pnum_any (hp : Hid (Pr0 w0 w g t)) (ht : t.length ≤ 1000) (N k : Nat) (hN : N < 4611686018427387904) (hk1 : 1 ≤ k) (hk8 : k ≤ 8) (hf : k = 8 ∨ N < 256 ^ k) (h : ∀ w', Hid (Pn w0 w' g (t ++ putL N k)) → R (.returned (.tuple #[])) w') :
    Calls Tryd.prog 26 #[.pointer (some ⟨g, 0, none⟩), .int .i64 N, .int .i64 k] w R := by
  have H := Lib.hid h
  obtain ⟨A, c, hb, ho⟩ := hp.out.x
  obtain ⟨n, hn⟩ : ∃ n, t.length = n := ⟨_, rfl⟩
  rw [hn] at hb ht
  have hw : IntKind.u64.wrap (N : Int) = N := by simp [IntKind.wrap, IntKind.signed, IntKind.bits]; omega
  have HPut : Hid (∀ (R : Ending → World → Prop), (∀ A' c' w', Hid ((∀ x ∈ bks A', w.heap.size ≤ x) ∧ Ow w' 5 1 A' (n + k) c' (bts (t ++ putL N k)) ∧ Kp [] w w') → R (.returned (.tuple #[.slice A' (n + k) c', .int .i64 0])) w') → Calls Tryd.prog 42 #[.slice A n c, .int .u64 N, .int .i64 k] w R) := Lib.hid (fun R h => put_good N k ho hn (by omega) (by omega) hk1 hk8 hf (fun A' c' w' a b c => h A' c' w' (Lib.hid ⟨a, b, c⟩)))
  have c0 : w.cell? ⟨g, 0, none⟩ = some (.slice A n c) := hb.cell 0
  have HC : Hid (∀ w', Kp [] w w' → w'.cell? ⟨g, 0, none⟩ = some (.slice A n c) ∧ w'.frozen? ⟨g, 0, none⟩ = false ∧ Bk w' g 70 [.slice A n c]) := Lib.hid (fun w' k' => ⟨(hb.kp k' (by simp)).cell 0, (hb.kp k' (by simp)).frozen 0, hb.kp k' (by simp)⟩)
  have hgl := hb.lt
  have HN := Lib.hid hn
  clear h hb ho hn
  go_enter Tryd.func26, Tryd.ntmps26
  go_wp2_with (go_at_call 42; ((refine HPut.out _ ?_); intro A' c' w2 h2; obtain ⟨d0, d1, d2⟩ := HC.out w2 h2.out.2.2; have D2 := Lib.hid d2; clear d2))
  obtain ⟨f2, o2, k2⟩ := h2.out
  have hk : Kp [g] w2 (w2.setCell ⟨g, 0, none⟩ (.slice A' (n + k) c')) := (Kp.refl _ _).setCell (p := ⟨g, 0, none⟩) (.inl (by simp)) _
  have hlen : (t ++ putL N k).length = n + k := by rw [List.length_append, HN.out, putL_len]
  first | go_end0 | refine bodyPost_ret (results_none rfl _ _ _) rfl ?_
  refine H.out _ (Lib.hid ⟨(hp.out.k.trans k2).thn hk (fun s hs => .inr (by simp at hs; subst hs; exact hp.out.g0)), hp.out.g0, A', c', ?_, ?_, ?_⟩)
  · rw [hlen]; exact (D2.out.set_ 0 _).cast rfl
  · rw [hlen]; exact o2.kp hk (fun b hb => by have := f2 b hb; simp; omega)
  · intro b hb
    have := f2 b hb
    have := hp.out.k.size
    constructor <;> omega
set_option maxHeartbeats 2000000 in
theorem pseal_any (hp : Hid (Pn w0 w g t)) (ht1 : 1 ≤ t.length) (ht : t.length ≤ 254) (h : ∀ A' c' w', Hid (Kp [] w0 w' ∧ Ow w' 5 1 A' 256 c' (bts (sealB t)) ∧ ∀ b ∈ bks A', w0.heap.size ≤ b) → R (.returned (.slice A' 256 c')) w') :
    Calls Tryd.prog 27 #[.pointer (some ⟨g, 0, none⟩)] w R := by
  have H := Lib.hid h
  obtain ⟨A, c, hb, ho, hA⟩ := hp.out.x
  obtain ⟨n, hn⟩ : ∃ n, t.length = n := ⟨_, rfl⟩
  rw [hn] at hb ho ht ht1
  obtain ⟨gA, hgA, _⟩ := ho.form (by omega)
  subst hgA
  have c0 : w.cell? ⟨g, 0, none⟩ = some (.slice (some ⟨gA, 0, none⟩) n c) := hb.cell 0
  obtain ⟨m, hm⟩ : ∃ m : Nat, 256 - n = m := ⟨_, rfl⟩
  have hsub : (256 : Int) - n = (m : Int) := by omega
  have hwm : IntKind.i64.wrap (m : Int) = (m : Int) := by simp [IntKind.wrap, IntKind.signed, IntKind.bits]; omega
  have hz : ∀ u ∈ (Builtin.zeroCells (Value.int .u8 0).cells m).toList, u.oneCell' = true := by
    intro u hu
    rw [show (Value.int .u8 0).cells = #[Value.int .u8 0] from rfl, zeros_one] at hu
    rw [List.eq_of_mem_replicate hu]; rfl
  have HZ : Hid (bts t ++ (Builtin.zeroCells (Value.int .u8 0).cells m).toList = bts (padB t ++ [0, 0])) := Lib.hid (by
    rw [show (Value.int .u8 0).cells = #[Value.int .u8 0] from rfl, zeros_one]
    unfold padB
    rw [hn, show m = (254 - n) + 2 by omega, ← List.replicate_append_replicate]
    simp [bts, List.replicate])
  have hb1 := pr_bd t
  have hL : (padB t ++ [0, 0]).length = 256 := by rw [List.length_append, padB_len (by omega)]; rfl
  have hpr : pr (padB t ++ [0, 0]) = pr t := by
    have e : padB t ++ [0, 0] = t ++ List.replicate ((254 - t.length) + 2) 0 := by
      unfold padB
      rw [← List.replicate_append_replicate, List.append_assoc]; rfl
    rw [e]; exact pr_pad t _
  obtain ⟨x, hx⟩ : ∃ x, fl (pr t).1 = x := ⟨_, rfl⟩
  obtain ⟨y, hy⟩ : ∃ x, fl (pr t).2 = x := ⟨_, rfl⟩
  obtain ⟨sv, hsv⟩ : ∃ sv, smW t = sv := ⟨_, rfl⟩
  have hs1 : sv ≤ 65535 := by rw [← hsv]; exact smW_le t
  have HPr : Hid (partN (padB t ++ [0, 0]) 256 = (x, y)) := Lib.hid (by rw [part_pr hL (by omega), hpr, hx, hy])
  have HSum : Hid (∀ (R : Ending → World → Prop) (w : World), R (.returned (.tuple #[.int .u16 sv, .int .i64 0])) w → Calls Tryd.prog 44 #[.complex .f64 x y] w R) := Lib.hid (fun R w h => by
    rw [← hx, ← hy]
    refine sumw_any (by omega) (by omega) ?_
    rw [← hsv] at h
    exact h)
  have HLn := Lib.hid hL
  have hsh : IntKind.u8.wrap ((sv : Int) / 256) = ((sv / 256 : Nat) : Int) := by simp [IntKind.wrap, IntKind.signed, IntKind.bits]; omega
  have hsl : IntKind.u8.wrap (sv : Int) = ((sv % 256 : Nat) : Int) := by simp [IntKind.wrap, IntKind.signed, IntKind.bits]
  have HSL : Hid (((bts (padB t ++ [0, 0])).set 254 (.int .u8 ((sv : Int) / 256))).set 255 (.int .u8 ((sv : Int) % 256)) = bts (sealB t)) := Lib.hid (by
    have e1 : (Value.int .u8 ((sv : Int) / 256)) = (fun c : UInt8 => Value.int .u8 c.toNat) (UInt8.ofNat (sv / 256)) := by
      simp only [UInt8.toNat_ofNat']; congr 1; omega
    have e2 : (Value.int .u8 ((sv : Int) % 256)) = (fun c : UInt8 => Value.int .u8 c.toNat) (UInt8.ofNat (sv % 256)) := by
      simp only [UInt8.toNat_ofNat']; congr 1; omega
    have hp := padB_len (t := t) (by omega)
    unfold bts sealB
    rw [hsv, e1, e2, ← List.map_set, ← List.map_set]
    congr 1
    rw [List.set_append_right _ _ (by omega), List.set_append_right _ _ (by omega), hp]
    rfl)
  have HO := Lib.hid ho
  have HN := Lib.hid hn
  have HA := Lib.hid hA
  clear h hb ho hA hn hx hy hsv hpr hb1 hL
  go_enter Tryd.func27, Tryd.ntmps27
  go_upto_region 1 with (fail)
  go_still_tail 10, (by kernel_rfl)
  change wpList _ _ _ _ _ w.drew
  generalize hwd : w.drew = wd
  have HO2 : Hid (Ow wd 5 1 (some ⟨gA, 0, none⟩) n c (bts t)) := Lib.hid (by rw [← hwd]; exact HO.out.drew)
  go_wp2_with (first | (at_builtin; refine wpList_zeros _ rfl (.tmp 11) (.tmp 17) _ _ rfl elt_u8 Tryd.underlying3 ⟨gA, 0, none⟩ n c (bts t) rfl HO2.out m hz rfl (by omega) (by omega) ?_; intro A2 c2 w2 o2 k2 hA2; rw [show n + m = 256 by omega] at o2 ⊢; rw [HZ.out] at o2; obtain ⟨g2, rfl, hg2⟩ := o2.form (by omega); have hG2 : g2 = gA ∨ g2 = wd.heap.size := (by rcases hA2 with h9 | h9 <;> (simp at h9; omega)); have O2 := Lib.hid o2; have K2 := Lib.hid k2; have A2' := Lib.hid hA2; clear o2 k2 hA2) | (go_at_call 43; (refine spart_any (O2.out.rd (by simp)) HLn.out (by omega) (fun w3 _ _ k3 => ?_); rw [HPr.out])) | (go_at_call 44; (refine HSum.out _ _ ?_; have O3 := Lib.hid (O2.out.kp k3 (by simp)); obtain ⟨r1, r2⟩ := O3.out.cellAt (i := 254) (by omega); obtain ⟨r3, r4⟩ := O3.out.cellAt (i := 255) (by omega); rw [bts_get, List.getElem?_eq_getElem (by rw [HLn.out]; omega)] at r1 r3; simp only [Option.map_some] at r1 r3)))
  have hA1 : w0.heap.size ≤ gA := (HA.out gA (by simp [bks])).1
  have hw1 : w0.heap.size ≤ wd.heap.size := by rw [← hwd]; exact hp.out.k.size
  have hge : w0.heap.size ≤ g2 := by clear H HSum HSL HZ HPr; omega
  have kk : Kp [] w0 w3 := by
    have k0 : Kp [] w0 wd := by rw [← hwd]; exact hp.out.k.drew
    exact (k0.thn K2.out (fun s hs => .inr (HA.out s hs).1)).trans k3
  refine H.out _ _ _ (Lib.hid ⟨(kk.setCell (p := ⟨g2, 254, none⟩) (.inr hge) _).setCell (p := ⟨g2, 255, none⟩) (.inr hge) _, ?_, fun b hb => by simp [bks] at hb; omega⟩)
  rw [← HSL.out]
  exact (O3.out.setAt (by omega) _).setAt (by omega) _
end
end Go.Proofs.YtnpkfhnhcadgeaaDoor
