/- A new disk, and its extents. An extent of a disk. A new kernel. -/
import Derived.Test.YtedblbpmlbjnhaaGreatPE2
import Derived.BigQuiet
import Derived.BigRegion
import Derived.Deep.Cut
import Derived.Shelf.Abstract
import Derived.Deep.RegionLaw
namespace Go.Proofs.YtedblbpmlbjnhaaGreat
/-! ### A new disk, and its extents. -/
section
open Go.RowKit
set_option linter.unusedVariables false
set_option linter.unusedSimpArgs false
set_option maxRecDepth 100000

def zpg : Value := .agg (Array.replicate 256 (.int .u8 0))
theorem info_page : (Tryz.prog.info? 245).map (fun i => (i.zero, i.size, i.bytes)) = some (some zpg, 256, 256) := by kernel_rfl
theorem info_int : (Tryz.prog.info? 3).map (fun i => (i.zero, i.size, i.bytes)) = some (some (.int .i64 0), 1, 8) := by kernel_rfl
def diskC (bL bO n : Nat) : List Value := [.slice (some ⟨bL, 0, none⟩) n n, .slice (some ⟨bO, 0, none⟩) n n, .slice none 0 0, .bool false, .bool false, .int .i64 0]
def ints (l : List Int) : List Value := l.map (Value.int .i64 ·)
theorem flat_ints (n : Nat) : (List.replicate n #[Value.int .i64 0]).flatMap (·.toList) = ints (List.replicate n 0) := by
  induction n with
  | zero => rfl
  | succ n ih => rw [List.replicate_succ, List.flatMap_cons, ih, List.replicate_succ]; rfl
theorem made_ints (n : Nat) : (madeCells #[Value.int .i64 0] n).toList = ints (List.replicate n 0) := by
  have h := made_pieces (z := #[Value.int .i64 0]) (K := 1) rfl (by omega) n
  rw [Nat.mul_one] at h
  rw [h, flat_ints]
end
/-! ### An extent of a disk. -/
section
open Go.RowKit Go.Shelf
set_option linter.unusedVariables false
set_option linter.unusedSimpArgs false
set_option maxRecDepth 100000

theorem grf_any {R : Ending → World → Prop} (e : Int) (w : World) (h : R (.returned (.bool (e != 0))) w) : Calls Tryz.prog 92 #[.int .i64 e] w R := by
  have H := Lib.hid h
  clear h
  go_enter Tryz.func92, Tryz.ntmps92
  go_wp2
  exact H.out
set_option maxHeartbeats 1000000 in
theorem idxz_any {R : Ending → World → Prop} (m b o c : Nat) (w : World) (hc : ∀ j, j < m → w.cell? ⟨b, o + j, none⟩ = some (.int .i64 0)) (hm : m ≤ 1000) (h : ∀ w', Kp [] w w' → R (.returned (.int .i64 (-1))) w') :
    Calls Tryz.prog 138 #[.slice (some ⟨b, o, none⟩) m c, .func (.func 92) #[] #[]] w R := by
  have H := Lib.hid h
  have HC := Lib.hid hc
  have he : ∀ (args : Array Value) (w : World), (callFunc 92 args).run Tryz.prog w = .ok (.enter 92 args) w := enters_of Tryz.func92 (by kernel_rfl) rfl
  clear h hc
  go_enter Tryz.func138, Tryz.ntmps138
  go_wp2
  go_loopw [5, 8] (fun _ iv wr => ∃ k : Nat, k ≤ m ∧ iv = .int .i64 k ∧ Kp [] w wr) (fun _ iv _ => m - (intOf iv).toNat)
  case atStart => exact ⟨0, Nat.zero_le _, rfl, Kp.refl _ _⟩
  case round =>
    obtain ⟨k, hk, rfl, kr⟩ := hrel
    by_cases hlt : k < m
    · have hc0 := HC.out k hlt
      have hb := World.block_lt_of_cell? w _ hc0
      have hc1 : wr.cell? ⟨b, o + k, none⟩ = some (.int .i64 0) := (kr.cell (p := ⟨b, o + k, none⟩) hb (by simp)).trans hc0
      clear hc0
      go_wp2_with (refine grf_any 0 _ ?_)
      exact ⟨⟨k + 1, by omega, by go_num, kr⟩, by simp [intOf]; omega⟩
    · go_wp2
      exact H.out _ kr
set_option maxHeartbeats 1000000 in
theorem hasz_any {R : Ending → World → Prop} (m b o c : Nat) (w : World) (hc : ∀ j, j < m → w.cell? ⟨b, o + j, none⟩ = some (.int .i64 0)) (hm : m ≤ 1000) (h : ∀ w', Kp [] w w' → R (.returned (.bool false)) w') :
    Calls Tryz.prog 91 #[.slice (some ⟨b, o, none⟩) m c, .func (.func 92) #[] #[]] w R := by
  have H := Lib.hid h
  have HC := Lib.hid hc
  clear h hc
  go_enter Tryz.func91, Tryz.ntmps91
  go_wp2_with (go_at_call 138; (refine idxz_any m b o c _ HC.out hm ?_); intro w1 k1)
  exact H.out _ k1
def setR (os : List Int) (first : Nat) : Nat → Int → List Int
  | 0, _ => os
  | k + 1, e => (setR os first k e).set (first + k) e
theorem setR_len (os : List Int) (first : Nat) (e : Int) : ∀ k, (setR os first k e).length = os.length
  | 0 => rfl
  | k + 1 => by rw [setR, List.length_set, setR_len os first e k]
theorem ints_set (l : List Int) (i : Nat) (e : Int) : (ints l).set i (.int .i64 e) = ints (l.set i e) := by unfold ints; rw [List.map_set]
theorem ints_at {l : List Int} {i : Nat} {e : Int} (h : l[i]? = some e) : (ints l)[i]? = some (.int .i64 e) := by unfold ints; rw [List.getElem?_map, h]; rfl
theorem bk_ints_at {w : World} {g tt : Nat} {l : List Int} (h : Bk w g tt (ints l)) {i : Nat} (hi : i < l.length) : ∃ x, w.cell? ⟨g, i, none⟩ = some (.int .i64 x) :=
  ⟨_, by rw [h.cell]; exact ints_at (List.getElem?_eq_getElem hi)⟩
set_option maxHeartbeats 2000000 in
theorem grant_any {R : Ending → World → Prop} (bD bL bO n first cnt : Nat) (env : Int) (os : List Int) (w : World) (he : env = 1 ∨ env = 2) (hl : os.length = n) (hn : n ≤ 512) (h1 : 1 ≤ cnt) (hf : first + cnt ≤ n) (hz : ∀ j, first ≤ j → j < first + cnt → os[j]? = some 0) (hne : bD ≠ bO)
    (hD : Bk w bD 163 (diskC bL bO n)) (hO : Bk w bO 3 (ints os))
    (h : ∀ w', Kp [bO] w w' → Bk w' bD 163 (diskC bL bO n) → Bk w' bO 3 (ints (setR os first cnt env)) → R (.returned (.int .i64 0)) w') :
    Calls Tryz.prog 42 #[.pointer (some ⟨bD, 0, none⟩), .int .i64 env, .int .i64 first, .int .i64 cnt] w R := by
  have H := Lib.hid h
  have d0 := hD.cell 0
  have d1 := hD.cell 1
  simp only [diskC, List.getElem?_cons_zero, List.getElem?_cons_succ] at d0 d1
  have HZ : Hid (∀ w1, Kp [] w w1 → ∀ j, j < cnt → w1.cell? ⟨bO, first + j, none⟩ = some (.int .i64 0)) := Lib.hid (fun w1 k1 j hj => by rw [(hO.kp k1 (by simp)).cell]; exact ints_at (hz _ (by omega) (by omega)))
  have HD := Lib.hid hD
  have HO := Lib.hid hO
  clear h hz hD hO
  rcases he with rfl | rfl
  all_goals
    go_enter Tryz.func42, Tryz.ntmps42
    go_wp2_with (go_at_call 91; (refine hasz_any cnt bO first _ _ (HZ.out _ (by first | exact Kp.refl _ _ | exact (Kp.refl _ _).drew)) (by omega) ?_); intro w1 k1)
    have hD1 := Lib.hid (HD.out.kp k1 (by simp))
    have hO1 := Lib.hid (HO.out.kp k1 (by simp))
    have K1 := Lib.hid k1
    clear k1 d0 d1
    go_loopw [9, 56] (fun _ iv wr => ∃ k : Nat, k ≤ cnt ∧ iv = .int .i64 k ∧ Hid (Kp [bO] w wr) ∧ Hid (Bk wr bD 163 (diskC bL bO n)) ∧ Hid (Bk wr bO 3 (ints (setR os first k _)))) (fun _ iv _ => cnt - (intOf iv).toNat)
    case atStart => exact ⟨0, Nat.zero_le _, rfl, Lib.hid (K1.out.mono (by simp)), hD1, hO1⟩
    case round =>
      obtain ⟨k, hk, rfl, kr, bd, bo⟩ := hrel
      by_cases hlt : k < cnt
      · have d1 : wr.cell? ⟨bD, 1, none⟩ = some (.slice (some ⟨bO, 0, none⟩) n n) := bd.out.cell 1
        obtain ⟨x, c1⟩ := bk_ints_at bo.out (i := first + k) (by rw [setR_len, hl]; omega)
        have f1 := bo.out.frozen (first + k)
        go_wp2
        refine ⟨⟨k + 1, by omega, by go_num, ?_, ?_, ?_⟩, by simp [intOf]; omega⟩
        · exact Lib.hid (kr.out.setCell (p := ⟨bO, first + k, none⟩) (.inl (by simp)) _)
        · exact Lib.hid (bd.out.far (p := ⟨bO, first + k, none⟩) hne _)
        · exact Lib.hid ((bo.out.set_ (first + k) _).cast (by rw [ints_set]; rfl))
      · obtain rfl : k = cnt := by omega
        go_wp2
        exact H.out _ kr.out bd.out bo.out
end
/-! ### A new kernel. -/
section
open Go.RowKit Go.Shelf
set_option linter.unusedVariables false
set_option linter.unusedSimpArgs false
set_option maxRecDepth 100000

theorem info_bs : (Tryz.prog.info? 37).map (fun i => (i.zero, i.size, i.bytes)) = some (some (.slice none 0 0), 1, 24) := by kernel_rfl
theorem info_tr : (Tryz.prog.info? 120).map (fun i => (i.zero, i.size, i.bytes)) = some (some (.agg #[.int .i64 0, .slice none 0 0]), 2, 32) := by kernel_rfl
theorem gen_worldK {P : Program} {c : Code} {Q : Exit → Act → World → Prop} {a : Act} {W : World} (Pr : World → Prop) (h : Pr W) (hk : ∀ W', Pr W' → Code.wp P c Q a W') : Code.wp P c Q a W := hk W h
def kernC (bT bD : Nat) (a b c d : Option Addr) : List Value := [.pointer (some ⟨bT, 0, none⟩), .pointer (some ⟨bD, 0, none⟩), .slice none 0 0, .int .i64 0, .pointer a, .pointer b, .pointer c, .pointer d, .int .i64 0]
end
end Go.Proofs.YtedblbpmlbjnhaaGreat
