/- InodeBack walked. -/
import Derived.Test.YtnpkfhnhcadgeaaDoorIn18
import Derived.Deep.CutBlock
import Derived.Deep.DeepCutAuto
import Derived.Laws.BitsAllLaws
namespace Go.Proofs.YtnpkfhnhcadgeaaDoor
open Go.RowKit
set_option linter.unusedVariables false
set_option linter.unusedSimpArgs false
set_option maxRecDepth 100000
/-- So many bytes k blocks have of L. -/
def sumS (L : Nat) : Nat → Nat
  | 0 => 0
  | k + 1 => sumS L k + min (L - 256 * k) 256
theorem sumS_min (L : Nat) : ∀ k, sumS L k = min L (256 * k)
  | 0 => by simp [sumS]
  | k + 1 => by rw [sumS, sumS_min L k]; omega
theorem sumS_all (L : Nat) : sumS L (cntF L) = L := by rw [sumS_min]; unfold cntF; omega
theorem sealed_len {t : List UInt8} (h : t.length ≤ 254) : (sealB t).length = 256 := sealB_len h
theorem get_eq {l : List UInt8} {i : Nat} (hi : i < l.length) : l[i]? = some (l[i]'hi) := List.getElem?_eq_getElem hi
theorem xor_ne {a t : UInt8} (h : t ≠ 0) : a ^^^ t ≠ a := by
  intro e
  have h2 : a ^^^ (a ^^^ t) = a ^^^ a := by rw [e]
  rw [← UInt8.xor_assoc, UInt8.xor_self, UInt8.zero_xor] at h2
  exact h h2
section
variable {R : Ending → World → Prop} {w w' w0 : World}
/-- What comes in. -/
structure IbIn (w : World) (gen ver mt len : Int) (A0 A1 A2 A3 : Option Addr) (n0 n1 n2 n3 : Nat) (ds : List Int) (l : List (List UInt8 × Int)) (bl : List Int) (pa : List (Int × Int)) : Prop where
  r0 : Rd w [] A0 (ds.flatMap iv)
  r1 : Rd w [] A1 (l.flatMap eV)
  r2 : Rd w [] A2 (bl.flatMap iv)
  r3 : Rd w [] A3 (pa.flatMap pV)
  l0 : ds.length = n0
  l1 : l.length = n1
  l2 : bl.length = n2
  l3 : pa.length = n3
  bd : ∀ p ∈ pa, (-9223372036854775808 ≤ p.1 ∧ p.1 ≤ 9223372036854775807) ∧ (-9223372036854775808 ≤ p.2 ∧ p.2 ≤ 9223372036854775807)
section
variable {gen ver mt len : Int} {A0 A1 A2 A3 : Option Addr} {n0 n1 n2 n3 : Nat} {ds : List Int} {l : List (List UInt8 × Int)} {bl : List Int} {pa : List (Int × Int)}
/-- The root there and back. -/
theorem ib_root (hI : IbIn w gen ver mt len A0 A1 A2 A3 n0 n1 n2 n3 ds l bl pa) (hn : n0 ≤ 100) (c0 : Nat) {W : World} (hk : Kp [] w W)
    (h0 : rootB gen ds = false → ∀ w', Kp [] w w' → R (.returned (.tuple #[.slice none 0 0, .int .i64 1])) w')
    (h1 : rootB gen ds = true → ∀ A c w', Kp [] w w' → Hid (Rd w' [] A (bts (sealB (rootT gen ds))) ∧ 256 ≤ c) → R (.returned (.tuple #[.slice A 256 c, .int .i64 0])) w') :
    Calls Tryd.prog 9 #[.agg #[.int .i64 gen, .slice A0 n0 c0]] W R :=
  packr_any gen (hI.r0.kp hk (by simp)) hI.l0 (fun hb w' k' => h0 hb w' (hk.trans k')) (fun hb A c w' h' => h1 hb A c w' (hk.trans h'.out.1) (Lib.hid ⟨h'.out.2.1.rd (by simp), h'.out.2.1.ncap⟩))
theorem ib_proot (hI : IbIn w gen ver mt len A0 A1 A2 A3 n0 n1 n2 n3 ds l bl pa) (hb : rootB gen ds = true) {A : Option Addr} {c : Nat} {W : World} (hk : Kp [] w W) (hr : Hid (Rd W [] A (bts (sealB (rootT gen ds))) ∧ 256 ≤ c))
    (h : ∀ A' c' w', Kp [] w w' → Hid (Rd w' [] A' (ds.flatMap iv)) → R (.returned (.tuple #[.agg #[.int .i64 gen, .slice A' n0 c'], .int .i64 0])) w') :
    Calls Tryd.prog 6 #[.slice A 256 c] W R := by
  obtain ⟨hi, hg, hc, hd⟩ := root_back hb
  refine proot_any hr.out.1 hi.1 (by omega) hr.out.2 (fun hn => absurd hi hn) (fun _ A' c' w' h' => ?_)
  have h2 := h'.out.2.1
  rw [hc, hd] at h2
  rw [hg, hc, hI.l0]
  exact h A' c' w' (hk.trans h'.out.1) (Lib.hid (h2.rd (by simp)))
/-- The directory there and back. -/
theorem ib_dir (hI : IbIn w gen ver mt len A0 A1 A2 A3 n0 n1 n2 n3 ds l bl pa) (hn : n1 ≤ 100) (c1 : Nat) {W : World} (hk : Kp [] w W)
    (h : ∀ A c w', Kp [] w w' → Hid (Rd w' [] A (l.flatMap eV)) → R (.returned (.slice A n1 c)) w') :
    Calls Tryd.prog 12 #[.slice A1 n1 c1] W R :=
  dir_any (hI.r1.kp hk (by simp)) hI.l1 (by omega) (fun A c w' k' o' => h A c w' (hk.trans k') (Lib.hid (o'.rd (by simp))))
theorem ib_packd (hI : IbIn w gen ver mt len A0 A1 A2 A3 n0 n1 n2 n3 ds l bl pa) (hn : n1 ≤ 100) (hm : Ml w) {A : Option Addr} {c : Nat} {W : World} (hk : Kp [] w W) (hr : Hid (Rd W [] A (l.flatMap eV)))
    (h0 : dirB l = false → ∀ w', Kp [] w w' → R (.returned (.tuple #[.slice none 0 0, .int .i64 1])) w')
    (h1 : dirB l = true → ∀ A c w', Kp [] w w' → Hid (Rd w' [] A (bts (sealB (dirT l))) ∧ 256 ≤ c) → R (.returned (.tuple #[.slice A 256 c, .int .i64 0])) w') :
    Calls Tryd.prog 11 #[.slice A n1 c] W R :=
  packd_any hr.out hI.l1 (by omega) (hm.kp hk) (fun hb w' k' => h0 hb w' (hk.trans k')) (fun hb A c w' h' => h1 hb A c w' (hk.trans h'.out.1) (Lib.hid ⟨h'.out.2.1.rd (by simp), h'.out.2.1.ncap⟩))
theorem ib_pdir (hI : IbIn w gen ver mt len A0 A1 A2 A3 n0 n1 n2 n3 ds l bl pa) (hm : Ml w) (hb : dirB l = true) {A : Option Addr} {c : Nat} {W : World} (hk : Kp [] w W) (hr : Hid (Rd W [] A (bts (sealB (dirT l))) ∧ 256 ≤ c))
    (h : ∀ A' c' w', Kp [] w w' → Hid (Rd w' [] A' (l.flatMap eV)) → R (.returned (.tuple #[.slice A' n1 c', .int .i64 0])) w') :
    Calls Tryd.prog 7 #[.slice A 256 c] W R := by
  obtain ⟨hi, hc, hd⟩ := dir_back hb
  refine pdir_any hr.out.1 hi.1 (by omega) hr.out.2 (hm.kp hk) (fun hn => absurd hi hn) (fun _ A' c' w' h' => ?_)
  have h2 := h'.out.2.1
  rw [hc, hd] at h2
  rw [hc, hI.l1]
  exact h A' c' w' (hk.trans h'.out.1) (Lib.hid (h2.rd (by simp)))
theorem ib_undir (hI : IbIn w gen ver mt len A0 A1 A2 A3 n0 n1 n2 n3 ds l bl pa) (hn : n1 ≤ 100) {A : Option Addr} {c : Nat} {W : World} (hk : Kp [] w W) (hr : Hid (Rd W [] A (l.flatMap eV)))
    (h : ∀ A c w', Kp [] w w' → Hid (Rd w' [] A (l.flatMap eV)) → R (.returned (.slice A n1 c)) w') :
    Calls Tryd.prog 14 #[.slice A n1 c] W R :=
  undir_any hr.out hI.l1 (by omega) (fun A c w' k' o' => h A c w' (hk.trans k') (Lib.hid (o'.rd (by simp))))
theorem ib_sdir (hI : IbIn w gen ver mt len A0 A1 A2 A3 n0 n1 n2 n3 ds l bl pa) (hn : n1 ≤ 100) (c1 : Nat) {A : Option Addr} {c : Nat} {W : World} (hk : Kp [] w W) (hr : Hid (Rd W [] A (l.flatMap eV)))
    (h : ∀ w', Kp [] w w' → R (.returned (.bool true)) w') : Calls Tryd.prog 13 #[.slice A n1 c, .slice A1 n1 c1] W R :=
  sdir_same hr.out (hI.r1.kp hk (by simp)) hI.l1 (by omega) (fun w' k' => h w' (hk.trans k'))
theorem ib_sroot (hI : IbIn w gen ver mt len A0 A1 A2 A3 n0 n1 n2 n3 ds l bl pa) (hn : n0 ≤ 100) (c0 : Nat) {A : Option Addr} {c : Nat} {W : World} (hk : Kp [] w W) (hr : Hid (Rd W [] A (ds.flatMap iv)))
    (h : ∀ w', Kp [] w w' → R (.returned (.bool true)) w') : Calls Tryd.prog 10 #[.agg #[.int .i64 gen, .slice A n0 c], .agg #[.int .i64 gen, .slice A0 n0 c0]] W R :=
  sroot_same gen hr.out (hI.r0.kp hk (by simp)) hI.l0 (by omega) (fun w' k' => h w' (hk.trans k'))
/-- The file there and back. -/
def wInt (pa : List (Int × Int)) : List (Nat × Nat) := pa.map cOf
theorem flat_cVp (pa : List (Int × Int)) : pa.flatMap cVp = (wInt pa).flatMap cV := by unfold wInt cVp; rw [List.flatMap_map]
theorem ib_of (hI : IbIn w gen ver mt len A0 A1 A2 A3 n0 n1 n2 n3 ds l bl pa) (hn : n3 ≤ 100) (c2 c3 : Nat) {W : World} (hk : Kp [] w W)
    (h : ∀ B d w', Kp [] w w' → Hid (Rd w' [] B (pa.flatMap cVp)) → R (.returned (.agg #[.int .i64 ver, .int .i64 mt, .int .i64 len, .slice A2 n2 c2, .slice B n3 d])) w') :
    Calls Tryd.prog 16 #[.agg #[.int .i64 ver, .int .i64 mt, .int .i64 len, .slice A2 n2 c2, .slice A3 n3 c3]] W R :=
  of11_any ver mt len (hI.r3.kp hk (by simp)) hI.l3 (by omega) (fun B d w' h' => h B d w' (hk.trans h'.out.1) (Lib.hid (h'.out.2.rd (by simp))))
theorem word_cOf (z : Int) (h1 : -9223372036854775808 ≤ z ∧ z ≤ 9223372036854775807) : WordAt (floatOfInt .f64 z) (wordF (floatOfInt .f64 z)) := by
  have h := word_int z h1.1 h1.2
  have e : wordF (floatOfInt .f64 z) = decide (0 ≤ z ∧ z ≤ 65535) := by
    by_cases hz : 0 ≤ z ∧ z ≤ 65535
    · obtain ⟨n, rfl⟩ : ∃ n : Nat, z = n := ⟨z.toNat, by omega⟩
      have := wordF_fl (n := n) (by omega)
      rw [decide_eq_true hz]
      rw [decide_eq_true (by omega)] at this
      exact this
    · rw [decide_eq_false hz]
      cases hw : wordF (floatOfInt .f64 z) with
      | false => rfl
      | true =>
        exfalso
        obtain ⟨a, ha, e⟩ : ∃ a, a < 65536 ∧ floatOfInt .f64 z = fl a := ⟨_, (wordF_vF hw).1, (wordF_vF hw).2⟩
        rcases Int.lt_or_le z 0 with hneg | hpos
        · obtain ⟨n, rfl⟩ : ∃ n : Nat, z = -(n : Int) := ⟨z.natAbs, by omega⟩
          have h3 := neg_ord (n := n) (by omega)
          rw [e, ← fl_zero, order_fl (by omega) (by decide)] at h3
          injection h3 with h3
          have := Nat.compare_eq_lt.1 h3
          omega
        · obtain ⟨n, rfl⟩ : ∃ n : Nat, z = n := ⟨z.toNat, by omega⟩
          rcases Nat.lt_or_ge n (2 ^ 53) with hn | hn
          · have := fl_inj hn (by omega) e
            omega
          · have h3 := big_ord hn (by omega) (show a < 2 ^ 53 by omega)
            have e2 : fl n = fl a := e
            rw [e2, order_fl (by omega) (by omega)] at h3
            injection h3 with h3
            have := Nat.compare_eq_gt.1 h3
            omega
  rw [e]; exact h
theorem ib_parts (hI : IbIn w gen ver mt len A0 A1 A2 A3 n0 n1 n2 n3 ds l bl pa) (hb : fileB wordF ver mt len bl (wInt pa) = true) : ∀ p ∈ pa, (0 ≤ p.1 ∧ p.1 < 65536) ∧ (0 ≤ p.2 ∧ p.2 < 65536) := by
  intro p hp
  unfold fileB at hb
  simp only [Bool.and_eq_true, decide_eq_true_eq, List.all_eq_true] at hb
  have h1 := hb.2.2 (cOf p) (List.mem_map_of_mem hp)
  have hbd := hI.bd p hp
  have key : ∀ z : Int, (-9223372036854775808 ≤ z ∧ z ≤ 9223372036854775807) → wordF (floatOfInt .f64 z) = true → 0 ≤ z ∧ z < 65536 := by
    intro z hz hw
    rcases Int.lt_or_le z 0 with hneg | hpos
    · obtain ⟨n, rfl⟩ : ∃ n : Nat, z = -(n : Int) := ⟨z.natAbs, by omega⟩
      have h3 := neg_ord (n := n) (by omega)
      rw [(wordF_vF hw).2, ← fl_zero, order_fl (by have := (wordF_vF hw).1; omega) (by decide)] at h3
      injection h3 with h3
      have := Nat.compare_eq_lt.1 h3
      omega
    · obtain ⟨n, rfl⟩ : ∃ n : Nat, z = n := ⟨z.toNat, by omega⟩
      rcases Nat.lt_or_ge n (2 ^ 53) with hn | hn
      · have hw2 : wordF (fl n) = true := hw
        rw [wordF_fl hn] at hw2
        have := of_decide_eq_true hw2
        omega
      · have h3 := big_ord hn (by omega) (show vF (fl n) < 2 ^ 53 by have := (wordF_vF (x := fl n) hw).1; omega)
        have e2 : fl n = fl (vF (fl n)) := (wordF_vF (x := fl n) hw).2
        rw [← e2] at h3
        have h4 := order_fl (m := vF (fl n)) (n := vF (fl n)) (by have := (wordF_vF (x := fl n) hw).1; omega) (by have := (wordF_vF (x := fl n) hw).1; omega)
        rw [← e2, h3] at h4
        injection h4 with h4
        have := Nat.compare_eq_gt.1 h4.symm
        omega
  exact ⟨key _ hbd.1 h1.1, key _ hbd.2 h1.2⟩
theorem ib_packf (hI : IbIn w gen ver mt len A0 A1 A2 A3 n0 n1 n2 n3 ds l bl pa) (c2 : Nat) {B : Option Addr} {d : Nat} {W : World} (hk : Kp [] w W) (hr : Hid (Rd W [] B (pa.flatMap cVp)))
    (h0 : fileB wordF ver mt len bl (wInt pa) = false → ∀ w', Kp [] w w' → R (.returned (.tuple #[.slice none 0 0, .int .i64 1])) w')
    (h1 : fileB wordF ver mt len bl (wInt pa) = true → ∀ A c w', Kp [] w w' → Hid (Ow w' 5 1 A 256 c (bts (sealB (fileT vF ver mt len bl (wInt pa)))) ∧ ∀ b ∈ bks A, w.heap.size ≤ b) → R (.returned (.tuple #[.slice A 256 c, .int .i64 0])) w') :
    Calls Tryd.prog 15 #[.agg #[.int .i64 ver, .int .i64 mt, .int .i64 len, .slice A2 n2 c2, .slice B n3 d]] W R := by
  refine packf_any wordF vF ver mt len (pa := wInt pa) ?_ ?_ (hI.r2.kp hk (by simp)) hI.l2 (by rw [← flat_cVp]; exact hr.out) (by unfold wInt; rw [List.length_map]; exact hI.l3) (fun hb w' k' => h0 hb w' (hk.trans k')) (fun hb A c w' h' => h1 hb A c w' (hk.trans h'.out.1) (Lib.hid ⟨h'.out.2.1, fun b hb' => Nat.le_trans hk.size (h'.out.2.2 b hb')⟩))
  · intro p hp
    obtain ⟨q, hq, rfl⟩ := List.mem_map.1 hp
    exact ⟨word_cOf _ (hI.bd q hq).1, word_cOf _ (hI.bd q hq).2⟩
  · intro p _
    exact ⟨fun h => wordF_vF h, fun h => wordF_vF h⟩
theorem ib_pfile (hI : IbIn w gen ver mt len A0 A1 A2 A3 n0 n1 n2 n3 ds l bl pa) (hb : fileB wordF ver mt len bl (wInt pa) = true) {A : Option Addr} {c : Nat} {W : World} (hk : Kp [] w W) (hr : Hid (Ow W 5 1 A 256 c (bts (sealB (fileT vF ver mt len bl (wInt pa)))) ∧ ∀ b ∈ bks A, w.heap.size ≤ b))
    (h : ∀ A' c' B' d' w', Kp [] w w' → Kp [] W w' → Hid (Rd w' [] A' (bl.flatMap iv) ∧ Rd w' [] B' (pa.flatMap cVp)) → R (.returned (.tuple #[.agg #[.int .i64 ver, .int .i64 mt, .int .i64 len, .slice A' n2 c', .slice B' n3 d'], .int .i64 0])) w') :
    Calls Tryd.prog 8 #[.slice A 256 c] W R := by
  obtain ⟨hi, hv, hmt, hl, hc, hbk, hpk, hlen, hn, h32⟩ := file_back (fun x => wordF_vF) hb
  have hl3 : (wInt pa).length = pa.length := by unfold wInt; rw [List.length_map]
  refine pfile_any (hr.out.1.rd (by simp)) hi.1 (by omega) hr.out.1.ncap (fun hn => absurd hi hn) (fun _ A' c' B' d' w' h' => ?_)
  have h2 := h'.out.2.1
  have h3 := h'.out.2.2.1
  rw [hc, hbk] at h2
  rw [hc, hpk] at h3
  have e3 : n3 = n2 := by have := hI.l2; have := hI.l3; omega
  rw [hv, hmt, hl, hc, hI.l2]
  have := h A' c' B' d' w' (hk.trans h'.out.1) h'.out.1 (Lib.hid ⟨h2.rd (by simp), by rw [flat_cVp]; exact h3.rd (by simp)⟩)
  rw [e3] at this
  exact this
theorem ib_to (hI : IbIn w gen ver mt len A0 A1 A2 A3 n0 n1 n2 n3 ds l bl pa) (hn : n3 ≤ 100) (hb : fileB wordF ver mt len bl (wInt pa) = true) {A B : Option Addr} {c d : Nat} {W : World} (hk : Kp [] w W) (hr : Hid (Rd W [] A (bl.flatMap iv) ∧ Rd W [] B (pa.flatMap cVp)))
    (h : ∀ B' d' w', Kp [] W w' → Hid (Rd w' [] A (bl.flatMap iv) ∧ Rd w' [] B' (pa.flatMap pV)) → R (.returned (.agg #[.int .i64 ver, .int .i64 mt, .int .i64 len, .slice A n2 c, .slice B' n3 d'])) w') :
    Calls Tryd.prog 18 #[.agg #[.int .i64 ver, .int .i64 mt, .int .i64 len, .slice A n2 c, .slice B n3 d]] W R :=
  to11_any ver mt len hr.out.2 (ib_parts hI hb) hI.l3 (by omega) (fun B' d' w' h' => h B' d' w' h'.out.1 (Lib.hid ⟨hr.out.1.kp h'.out.1 (by simp), h'.out.2.rd (by simp)⟩))
theorem ib_sfile (hI : IbIn w gen ver mt len A0 A1 A2 A3 n0 n1 n2 n3 ds l bl pa) (h2 : n2 ≤ 100) (hn : n3 ≤ 100) (c2 c3 : Nat) {A B : Option Addr} {c d : Nat} {W : World} (hk : Kp [] w W) (hr : Hid (Rd W [] A (bl.flatMap iv) ∧ Rd W [] B (pa.flatMap pV)))
    (h : ∀ w', Kp [] W w' → R (.returned (.bool true)) w') :
    Calls Tryd.prog 17 #[.agg #[.int .i64 ver, .int .i64 mt, .int .i64 len, .slice A n2 c, .slice B n3 d], .agg #[.int .i64 ver, .int .i64 mt, .int .i64 len, .slice A2 n2 c2, .slice A3 n3 c3]] W R :=
  sfile_same ver mt len hr.out.1 (hI.r2.kp hk (by simp)) hI.l2 (by omega) hr.out.2 (hI.r3.kp hk (by simp)) hI.l3 (by omega) h
/-- A turned block. -/
theorem ib_turn (hI : IbIn w gen ver mt len A0 A1 A2 A3 n0 n1 n2 n3 ds l bl pa) (hb : fileB wordF ver mt len bl (wInt pa) = true) {g c : Nat} {W : World} (hk : Kp [] w W) (hr : Hid (Ow W 5 1 (some ⟨g, 0, none⟩) 256 c (bts (sealB (fileT vF ver mt len bl (wInt pa)))) ∧ ∀ b ∈ bks (some (⟨g, 0, none⟩ : Addr)), w.heap.size ≤ b)) (i : Nat) (hi : i < 256) (v : UInt8)
    (hv : (sealB (fileT vF ver mt len bl (wInt pa)))[i]? ≠ some v)
    (h : ∀ w', Kp [] w w' → R (.returned (.tuple #[.agg #[.int .i64 0, .int .i64 0, .int .i64 0, .slice none 0 0, .slice none 0 0], .int .i64 51])) w') :
    Calls Tryd.prog 8 #[.slice (some ⟨g, 0, none⟩) 256 c] (W.setCell ⟨g, i, none⟩ (.int .u8 v.toNat)) R := by
  obtain ⟨hif, _⟩ := file_back (fun x => wordF_vF) hb
  obtain ⟨q, hq⟩ : ∃ q, sealB (fileT vF ver mt len bl (wInt pa)) = q := ⟨_, rfl⟩
  have hqi : isFile q := by rw [← hq]; exact hif
  rw [hq] at hr hv
  have hgood := good_set hqi.2.1 i (by rw [hqi.1]; exact hi) v (fun e => hv (by rw [List.getElem?_eq_getElem (by rw [hqi.1]; exact hi), e]))
  have h2 := hr.out.1.setAt (i := i) hi (.int .u8 v.toNat)
  have e : (bts q).set i (.int .u8 v.toNat) = bts (q.set i v) := by unfold bts; rw [List.map_set]
  rw [e] at h2
  have hk2 : Kp [] w (W.setCell ⟨g, i, none⟩ (.int .u8 v.toNat)) := hk.setCell (.inr (hr.out.2 g (by simp [bks]))) _
  have hl : (q.set i v).length = 256 := by rw [List.length_set]; exact hqi.1
  refine pfile_any (h2.rd (by simp)) hl (by omega) h2.ncap (fun _ e w' he hf k' => ?_) (fun hfi => by have := hfi.2.1; rw [hgood] at this; cases this)
  rw [hf.out.2 hl hgood]
  exact h w' (hk2.trans k')
end
end
end Go.Proofs.YtnpkfhnhcadgeaaDoor
