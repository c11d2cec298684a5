/- pantlerref09: the calls that a pool makes. sums.Part of any bytes: it comes to an end, and no part of it is a NaN. A pool in memory, and who looks through its slots. -/
import Derived.Test.YtedblbpmlbjnhaaGreatPE36
import Derived.Test.YtedblbpmlbjnhaaGreatPE5
import Derived.WalkLawsBesides
import Derived.Test.YtedblbpmlbjnhaaGreatPE19
import Derived.Test.YtedblbpmlbjnhaaGreatPE15
import Derived.Test.YtedblbpmlbjnhaaGreatPE32
import Derived.BigQuiet
import Derived.Test.YtedblbpmlbjnhaaGreatPE8
namespace Go.Proofs.YtedblbpmlbjnhaaGreat
/-! ### pantlerref09: the calls that a pool makes. -/
section
open Go.RowKit Go.Shelf
set_option linter.unusedVariables false
set_option linter.unusedSimpArgs false
set_option maxRecDepth 100000
section
variable {R : Ending → World → Prop} {w0 w : World} {B m : Nat} {q : QA} {k : KS} {f1 f2 : List Bnd}
/-- The document's calls that a pool makes, and that its law makes. -/
theorem rcallp_any (hQ : Qn w0 B w q k) (hc : k.cnt m) (hm : m ≤ 10000) (hpg : ∀ y ∈ k.fs, y.bs.length = 256) (hr : k.qo.length ≤ 16) (x : Kc) (c : Cl) (hx : KCl x c) (hcc : QC w0 c) (hi : i64B c.b) (hop : c.op = 1 ∨ c.op = 2 ∨ c.op = 5 ∨ c.op = 6 ∨ c.op = 7 ∨ c.op = 11) {n e : Int} {l : List UInt8} {k' : KS} (hs : kStep k x n l e k') (h : RcP R w0 B w q k' n l e) :
    Calls Tryz.prog 11 #[.pointer (some ⟨q.g, 0, none⟩), .agg #[.int .i64 c.op, .int .i64 c.env, .int .i64 c.a, .int .i64 c.b, .int .i64 c.c, .string c.s, .slice c.p.A c.p.n c.p.c, .slice c.l.A c.l.n c.l.c]] w R := by
  have hln := hc.ln
  have hnx := hc.nx
  have hfl := hc.fl
  have hco := hc.co
  have hF : Fok (16 * m) k.fs := ⟨fun y hy => by have := hc.ho y hy; omega, hpg⟩
  unfold kStep at hs
  rw [hx.env, hx.op] at hs
  split at hs
  · rename_i hno
    obtain ⟨rfl, rfl, rfl, rfl⟩ := hs
    exact rc_no hQ c hno h
  · rename_i hno
    have he1 : 1 ≤ c.env := by omega
    have he2 : c.env ≤ 2 := by omega
    split at hs
    · rename_i h8
      by_cases h5 : c.op ≤ 5
      · rw [kFB_dDo (s := c.s) hx.s (by rw [hx.op]; omega) (by rw [hx.op]; omega)] at hs
        injection hs with e1 e2 e3 e4
        subst e1; subst e2; subst e3; subst e4
        rcases (by omega : c.op = 1 ∨ c.op = 2 ∨ c.op = 5) with h' | h' | h'
        · have ea : acOf x c.s = ⟨0, c.env, 0, 0, 0, ⟨#[]⟩⟩ := by unfold acOf; rw [hx.op, hx.env, if_pos h']
          rw [ea] at h; rw [h']; exact rc_1 hQ hF hm c hi he1 he2 h
        · have ea : acOf x c.s = ⟨1, c.env, c.a, 0, 0, ⟨#[]⟩⟩ := by unfold acOf; rw [hx.op, hx.env, hx.a, if_neg (by omega), if_pos h']
          rw [ea] at h; rw [h']; exact rc_2 hQ hF hm c hi he1 he2 h
        · have ea : acOf x c.s = ⟨4, c.env, c.a, c.b, 0, c.s⟩ := by unfold acOf; rw [hx.op, hx.env, hx.a, hx.b, if_neg (by omega), if_neg (by omega), if_neg (by omega), if_neg (by omega)]
          rw [ea] at h; rw [h']; exact rc_5 hQ hF hm c hi he1 he2 h
      · have h6 := hs
        unfold kFB at h6
        rw [hx.op, hx.env, hx.a, hx.s, if_neg (by omega), if_neg (by omega), if_neg (by omega), if_neg (by omega), if_neg (by omega)] at h6
        by_cases o6 : c.op = 6
        · rw [if_pos o6] at h6
          injection h6 with e1 e2 e3 e4
          subst e1; subst e2; subst e3; subst e4
          rw [o6]; exact rc_6 hQ (by omega) c he1 he2 h
        · rw [if_neg o6] at h6
          by_cases o7 : c.op = 7
          · rw [if_pos o7] at h6
            injection h6 with e1 e2 e3 e4
            subst e1; subst e2; subst e3; subst e4
            rw [o7]; exact rc_7 hQ (by omega) c he1 he2 h
          · omega
    · split at hs
      · omega
      · split at hs
        · omega
        · split at hs
          · rename_i o11
            obtain ⟨hb, rfl⟩ := hs
            rw [o11]
            unfold kSend at hb
            rw [hx.env, hx.l] at hb
            refine rc_11 hQ (fun y hy => by have := hc.ho y hy; omega) (by omega) hr c hcc he1 he2 (fun h8 => ?_) (fun h8 hf => ?_) (fun h8 hf y hy => ?_)
            · rcases hb with ⟨_, rfl, rfl, rfl⟩ | ⟨hl, _⟩ | ⟨hl, _⟩
              · exact h
              · omega
              · omega
            · rcases hb with ⟨hl, _⟩ | ⟨_, _, rfl, rfl, rfl⟩ | ⟨_, hf2, _⟩
              · omega
              · exact h
              · exact absurd hf2 hf
            · rcases hb with ⟨hl, _⟩ | ⟨_, hf2, _⟩ | ⟨_, _, rfl, rfl, z, z1, z2, rfl⟩
              · omega
              · exact absurd hf hf2
              · exact h.same_qo (y := y) (z := z) (by rw [hy]; unfold tkey; rw [z1, z2])
          · omega
end
end
/-! ### sums.Part of any bytes: it comes to an end, and no part of it is a NaN. -/
section
open Go.RowKit
set_option linter.unusedVariables false
set_option linter.unusedSimpArgs false

section
variable {f : Ieee.Format}
theorem read_nn {x : Nat} (hf : f.infRung < f.signWeight) (h : x ≤ f.infRung) : (∃ m p, f.read x = .number false m p) ∨ f.read x = .infinity false := by
  have h1 : x / f.signWeight = 0 := Nat.div_eq_of_lt (by omega)
  have h2 : x % f.signWeight = x := Nat.mod_eq_of_lt (by omega)
  unfold Ieee.Format.read
  simp only [h1, h2]
  split
  · exact .inl ⟨_, _, rfl⟩
  · split
    · exact .inl ⟨_, _, rfl⟩
    · rw [if_pos (by omega)]
      exact .inr rfl
theorem write_nn (m : Nat) (p : Int) : f.write (.number false m p) ≤ f.infRung := by
  show f.nearest false m p ≤ _
  unfold Ieee.Format.nearest
  split
  · simp [Ieee.Format.word]
  · simp only [Ieee.Format.word, Bool.false_eq_true, if_false]
    exact Nat.min_le_right _ _
theorem write_inf : f.write (.infinity false) ≤ f.infRung := Nat.le_refl _
theorem shl_nn (m : Nat) (k : Nat) : Ieee.signed false m k = ((m <<< k : Nat) : Int) := rfl
theorem add_nn {x y : Nat} (hf : f.infRung < f.signWeight) (hx : x ≤ f.infRung) (hy : y ≤ f.infRung) : ∃ r, f.add x y = some r ∧ r ≤ f.infRung := by
  unfold Ieee.Format.add
  rcases read_nn hf hx with ⟨m, p, h1⟩ | h1 <;> rcases read_nn hf hy with ⟨n, q, h2⟩ | h2 <;> rw [h1, h2]
  · refine ⟨_, rfl, ?_⟩
    have e : ∀ (t b : Int), 0 ≤ t → f.write (.number (if t = 0 then false && false else decide (t < 0)) t.natAbs b) ≤ f.infRung := by
      intro t b ht
      have e : (if t = 0 then false && false else decide (t < 0)) = false := by
        split
        · rfl
        · simp; omega
      rw [e]
      exact write_nn _ _
    exact e _ _ (by rw [shl_nn, shl_nn]; exact Int.add_nonneg (Int.natCast_nonneg _) (Int.natCast_nonneg _))
  · exact ⟨_, rfl, write_inf⟩
  · exact ⟨_, rfl, write_inf⟩
  · exact ⟨_, rfl, write_inf⟩
end
/-- No NaN, nothing below zero. -/
def NN (x : Nat) : Prop := x ≤ Ieee.double.infRung
theorem dbl : Ieee.double.infRung < Ieee.double.signWeight := by decide
theorem nn_zero : NN 0 := Nat.zero_le _
theorem floatOfInt_nn (n : Nat) : NN (floatOfInt .f64 (n : Int)) := by
  show Ieee.double.write (.number (decide ((n : Int) < 0)) (n : Int).natAbs 0) ≤ _
  rw [show decide ((n : Int) < 0) = false by simp]
  exact write_nn _ _
@[go_sem] theorem run_store_cx {P : Program} {w : World} {a : Addr} {m : Mode} (k : FloatKind) (x y : Nat) : (store a (.complex k x y) m).run P w = stored P w a (.complex k x y) m := run_store P w a _ m rfl
theorem turn_any {R : Ending → World → Prop} {w : World} (a b : Nat) (h : R (.returned (.complex .f64 b a)) w) : Calls Tryz.prog 133 #[.complex .f64 a b] w R := by
  have H := Lib.hid h
  clear h
  go_enter Tryz.func133, Tryz.ntmps133
  go_wp2
  exact H.out
theorem rd_byte {w : World} {A : Option Addr} {l : List UInt8} (hr : Rd w [] A (bts l)) {k : Nat} (hk : k < l.length) : ∃ b off, A = some ⟨b, off, none⟩ ∧ w.cell? ⟨b, off + k, none⟩ = some (.int .u8 (l[k]'hk).toNat) := by
  obtain ⟨b, off, hA, _, _, hc⟩ := hr (by intro e; have h9 := bts_len l; rw [e] at h9; simp at h9; omega)
  exact ⟨b, off, hA, hc k _ (by rw [bts_get, List.getElem?_eq_getElem hk]; rfl)⟩
/-- A sum of doubles. -/
def addD (x y : Nat) : Nat := (Ieee.double.add x y).getD 0
/-- The part of the first k bytes, as the code sums it. -/
def partN (l : List UInt8) : Nat → Nat × Nat
  | 0 => (0, 0)
  | k + 1 => if k % 2 = 1 then (addD (partN l k).1 0, addD (partN l k).2 (floatOfInt .f64 ((l.getD k 0).toNat : Int))) else (addD (partN l k).1 (floatOfInt .f64 ((l.getD k 0).toNat : Int)), addD (partN l k).2 0)
theorem csum_D {a b c d : Nat} (ha : NN a) (hb : NN b) (hc : NN c) (hd : NN d) : cSumBits .add .f64 a b c d = some (addD a c, addD b d) ∧ NN (addD a c) ∧ NN (addD b d) := by
  obtain ⟨r, h1, h2⟩ := add_nn dbl ha hc
  obtain ⟨s, h3, h4⟩ := add_nn dbl hb hd
  have e1 : addD a c = r := by unfold addD; rw [h1]; rfl
  have e2 : addD b d = s := by unfold addD; rw [h3]; rfl
  rw [e1, e2]
  refine ⟨?_, h2, h4⟩
  unfold cSumBits
  show (Ieee.double.add a c).bind _ = _
  rw [h1]
  show (Ieee.double.add b d).bind _ = _
  rw [h3]
  rfl
set_option maxHeartbeats 1000000 in
theorem spart_any {R : Ending → World → Prop} {w : World} {A : Option Addr} {n c : Nat} {l : List UInt8} (hr : Rd w [] A (bts l)) (hl : l.length = n) (hn : n ≤ 65536)
    (h : ∀ w', NN (partN l n).1 → NN (partN l n).2 → Kp [] w w' → R (.returned (.tuple #[.complex .f64 (partN l n).1 (partN l n).2, .int .i64 0])) w') : Calls Tryz.prog 81 #[.slice A n c] w R := by
  have H := Lib.hid h
  have HR := Lib.hid hr
  have HL := Lib.hid hl
  have hcv : ∀ (W : World) (m : Nat), (convert 5 180 (.int .u8 (m : Int))).run Tryz.prog W = .ok (.float .f64 (floatOfInt .f64 (m : Int))) W := fun W m => run_convert_int_float (P := Tryz.prog) W 5 180 .u8 .f64 m (by rw [Tryz.underlying5]; rfl) Tryz.underlying180
  clear h hr hl
  go_enter Tryz.func81, Tryz.ntmps81
  go_wp2
  go_loopw [4, 13] (fun zv iv wr => ∃ k re im : Nat, k ≤ n ∧ iv = .int .i64 k ∧ zv = .complex .f64 re im ∧ Hid (NN re ∧ NN im ∧ partN l k = (re, im)) ∧ Hid (Kp [] w wr)) (fun _ iv _ => n - (intOf iv).toNat)
  case atStart => exact ⟨0, 0, 0, Nat.zero_le _, rfl, rfl, Lib.hid ⟨nn_zero, nn_zero, rfl⟩, Lib.hid (Kp.refl _ _)⟩
  case round =>
    obtain ⟨k, re, im, hk, rfl, rfl, hnn, kr⟩ := hrel
    by_cases hlt : k < n
    · obtain ⟨b, off, rfl, hc⟩ := rd_byte (HR.out.kp kr.out (by simp)) (k := k) (by have := HL.out; omega)
      obtain ⟨m, hm⟩ : ∃ m : Nat, (l[k]'(by have := HL.out; omega)).toNat = m := ⟨_, rfl⟩
      have hmD : (l.getD k 0).toNat = m := by rw [← hm, List.getD_eq_getElem?_getD, List.getElem?_eq_getElem (by have := HL.out; omega)]; rfl
      rw [hm] at hc
      have hcm := hcv wr m
      have hfm := floatOfInt_nn m
      have hst : partN l (k + 1) = if k % 2 = 1 then (addD re 0, addD im (floatOfInt .f64 (m : Int))) else (addD re (floatOfInt .f64 (m : Int)), addD im 0) := by
        rw [partN, hnn.out.2.2, hmD]
      obtain ⟨f, hf⟩ : ∃ f : Nat, floatOfInt .f64 (m : Int) = f := ⟨_, rfl⟩
      rw [hf] at hcm hfm hst
      have HST := Lib.hid hst
      clear hcv hf hm hmD hst
      by_cases hp : k % 2 = 1
      · obtain ⟨hs, hr1, hr2⟩ := csum_D hnn.out.1 hnn.out.2.1 nn_zero hfm
        have hsum := fun W => run_complex_sum (P := Tryz.prog) W .add (Or.inl rfl) 89 .f64 re im 0 f _ _ hs
        have hq : (k : Int).tmod 2 = 1 := by rw [Int.tmod_eq_emod_of_nonneg (by omega)]; omega
        have HS2 : Hid (partN l (k + 1) = (addD re 0, addD im f)) := Lib.hid (by rw [HST.out, if_pos hp])
        clear hs HST
        go_wp2_with (go_at_call 133; refine turn_any _ _ ?_)
        exact ⟨⟨k + 1, _, _, by omega, by go_num, rfl, Lib.hid ⟨hr1, hr2, HS2.out⟩, kr⟩, by simp [intOf]; omega⟩
      · obtain ⟨hs, hr1, hr2⟩ := csum_D hnn.out.1 hnn.out.2.1 hfm nn_zero
        have hsum := fun W => run_complex_sum (P := Tryz.prog) W .add (Or.inl rfl) 89 .f64 re im f 0 _ _ hs
        have hq : (k : Int).tmod 2 = 0 := by rw [Int.tmod_eq_emod_of_nonneg (by omega)]; omega
        have HS2 : Hid (partN l (k + 1) = (addD re f, addD im 0)) := Lib.hid (by rw [HST.out, if_neg hp])
        clear hs HST
        go_wp2
        exact ⟨⟨k + 1, _, _, by omega, by go_num, rfl, Lib.hid ⟨hr1, hr2, HS2.out⟩, kr⟩, by simp [intOf]; omega⟩
    · obtain rfl : k = n := by omega
      have e1 := hnn.out.2.2
      rw [e1] at H
      have H2 := Lib.hid (H.out wr hnn.out.1 hnn.out.2.1 kr.out)
      clear H e1
      go_wp2
      exact H2.out
end
/-! ### A pool in memory, and who looks through its slots. -/
section
open Go.RowKit Go.Shelf
set_option linter.unusedVariables false
set_option linter.unusedSimpArgs false
set_option maxRecDepth 100000

/-- A slot. -/
structure PSl where
  f : Int
  kd : Int
  bl : Int
  pi : Int
  n : Int
  re : Nat
  im : Nat
  ma : Bool
def PSl.vals (x : PSl) : List Value := [.int .i64 x.f, .int .i64 x.kd, .int .i64 x.bl, .int .i64 x.pi, .int .i64 x.n, .complex .f64 x.re x.im, .bool x.ma]
theorem slv_len (x : PSl) : x.vals.length = 7 := rfl
/-- An empty one of this frame. -/
def PSl.e (f : Int) : PSl := ⟨f, 0, 0, 0, 0, 0, 0, false⟩
structure PS where
  sl : List PSl
  hand : Nat
  fills : Int
structure PA where
  g : Nat
  l : Nat
  lc : Nat
/-- A pool in memory, of the kernel at kg. -/
structure Pl (w : World) (kg : Nat) (pa : PA) (p : PS) : Prop where
  g : Bk w pa.g 167 [.pointer (some ⟨kg, 0, none⟩), .slice (some ⟨pa.l, 0, none⟩) p.sl.length pa.lc, .int .i64 p.hand, .int .i64 p.fills]
  l : ∃ tl, Bk w pa.l 169 (p.sl.flatMap PSl.vals ++ tl)
  hh : p.hand < p.sl.length
  hn : p.sl.length ≤ 256
section
variable {w w' : World} {kg : Nat} {pa : PA} {p : PS} {S : List Nat}
theorem Pl.lt (h : Pl w kg pa p) : pa.l < w.heap.size := by obtain ⟨tl, hl⟩ := h.l; exact hl.lt
theorem Pl.ty (h : Pl w kg pa p) : Ty w pa.l 169 := by obtain ⟨tl, hl⟩ := h.l; exact hl.ty
theorem Pl.off (h : Pl w kg pa p) (hk : Kp S w w') (h1 : Off w S 167) (h2 : Off w S 169) : Pl w' kg pa p := by
  obtain ⟨tl, hl⟩ := h.l
  exact ⟨h.g.off hk h1, ⟨tl, hl.off hk h2⟩, h.hh, h.hn⟩
theorem Pl.off0 (h : Pl w kg pa p) (hk : Kp [] w w') : Pl w' kg pa p := h.off hk (Off.nil _ _) (Off.nil _ _)
theorem Pl.kq {B : Nat} (h : Pl w kg pa p) (hk : Kq B w w') : Pl w' kg pa p := by
  obtain ⟨tl, hl⟩ := h.l
  exact ⟨hk.bk h.g (by decide), ⟨tl, hk.bk hl (by decide)⟩, h.hh, h.hn⟩
theorem app_get {α : Type} {a b : List α} {i : Nat} {v : α} (h : a[i]? = some v) : (a ++ b)[i]? = some v := by
  rw [List.getElem?_append_left (List.getElem?_eq_some_iff.1 h).1]; exact h
theorem Pl.at_ (h : Pl w kg pa p) {i : Nat} {x : PSl} (hx : p.sl[i]? = some x) {j : Nat} {v : Value} (hj : x.vals[j]? = some v) : w.cell? ⟨pa.l, i * 7 + j, none⟩ = some v := by
  obtain ⟨tl, hl⟩ := h.l
  have hj7 : j < 7 := by rw [← slv_len x]; exact (List.getElem?_eq_some_iff.1 hj).1
  rw [hl.cell]
  exact app_get (by rw [flat_get slv_len hx hj7]; exact hj)
/-- All cells of a slot. -/
theorem Pl.cells (h : Pl w kg pa p) {i : Nat} {x : PSl} (hx : p.sl[i]? = some x) :
    w.cell? ⟨pa.l, i * 7, none⟩ = some (.int .i64 x.f) ∧ w.cell? ⟨pa.l, i * 7 + 1, none⟩ = some (.int .i64 x.kd) ∧ w.cell? ⟨pa.l, i * 7 + 2, none⟩ = some (.int .i64 x.bl) ∧ w.cell? ⟨pa.l, i * 7 + 3, none⟩ = some (.int .i64 x.pi) ∧
      w.cell? ⟨pa.l, i * 7 + 4, none⟩ = some (.int .i64 x.n) ∧ w.cell? ⟨pa.l, i * 7 + 5, none⟩ = some (.complex .f64 x.re x.im) ∧ w.cell? ⟨pa.l, i * 7 + 6, none⟩ = some (.bool x.ma) :=
  ⟨h.at_ hx (j := 0) rfl, h.at_ hx (j := 1) rfl, h.at_ hx (j := 2) rfl, h.at_ hx (j := 3) rfl, h.at_ hx (j := 4) rfl, h.at_ hx (j := 5) rfl, h.at_ hx (j := 6) rfl⟩
theorem Pl.free (h : Pl w kg pa p) (i : Nat) : w.frozen? ⟨pa.l, i, none⟩ = false := by obtain ⟨tl, hl⟩ := h.l; exact hl.frozen i
theorem set_app {α : Type} {a b : List α} {i : Nat} {v : α} (h : i < a.length) : (a ++ b).set i v = a.set i v ++ b := by rw [List.set_append_left _ _ h]
theorem Pl.put (h : Pl w kg pa p) {i : Nat} {x x' : PSl} (hx : p.sl[i]? = some x) {j : Nat} {v : Value} (hj : j < 7) (hv : x'.vals = x.vals.set j v) :
    Pl (w.setCell ⟨pa.l, i * 7 + j, none⟩ v) kg pa { p with sl := p.sl.set i x' } := by
  obtain ⟨tl, hl⟩ := h.l
  have hne : pa.g ≠ pa.l := h.g.ne_ hl (by decide)
  have hi := (List.getElem?_eq_some_iff.1 hx).1
  refine ⟨?_, ⟨tl, ?_⟩, by simpa using h.hh, by simpa using h.hn⟩
  · show Bk _ pa.g _ [_, .slice _ (p.sl.set i x').length _, _, _]
    rw [List.length_set]; exact h.g.far (p := ⟨pa.l, i * 7 + j, none⟩) hne v
  · refine (hl.set_ _ v).cast ?_
    rw [set_app (by rw [flat_len slv_len]; have := Nat.mul_le_mul_right 7 (Nat.succ_le_of_lt hi); omega), flat_set slv_len hx hj hv]
theorem Pl.putG (h : Pl w kg pa p) (j : Nat) (v : Value) {p' : PS} (hp : p'.sl = p.sl) (hh : p'.hand < p.sl.length) (hv : ([.pointer (some ⟨kg, 0, none⟩), .slice (some ⟨pa.l, 0, none⟩) p.sl.length pa.lc, .int .i64 p.hand, .int .i64 p.fills] : List Value).set j v = [.pointer (some ⟨kg, 0, none⟩), .slice (some ⟨pa.l, 0, none⟩) p'.sl.length pa.lc, .int .i64 p'.hand, .int .i64 p'.fills]) :
    Pl (w.setCell ⟨pa.g, j, none⟩ v) kg pa p' := by
  obtain ⟨tl, hl⟩ := h.l
  have hne : pa.g ≠ pa.l := h.g.ne_ hl (by decide)
  exact ⟨(h.g.set_ j v).cast hv, ⟨tl, by rw [hp]; exact hl.far (p := ⟨pa.g, j, none⟩) hne.symm v⟩, by rw [hp]; exact hh, by rw [hp]; exact h.hn⟩
/-- A kernel, where only the pool turned. -/
theorem Kn.offP {B : Nat} {a : KA} {k : KS} (h : Kn w B a k) (hk : Kp S w w') (o : ∀ e, 169 ≠ e → 167 ≠ e → Off w S e) : Kn w' B a k :=
  have o1 : ∀ e, (169 ≠ e ∧ 167 ≠ e) → Off w S e := fun e he => o e he.1 he.2
  ⟨h.g.off hk (o1 _ (by decide)), h.t.kp hk ((o1 _ (by decide)).nin h.t.t.ty) ((o1 _ (by decide)).nin h.t.l.ty), h.d.off hk (o1 _ (by decide)) (o1 _ (by decide)) (o1 _ (by decide)) (o1 _ (by decide)), h.fl.off hk (o1 _ (by decide)), fun x hx => ⟨(h.fd x hx).1, (h.fd x hx).2.1, (h.fd x hx).2.2.kp hk (o1 _ (by decide))⟩, h.i1.off hk ((o1 _ (by decide)).nin h.i1.hs.ty) ((o1 _ (by decide)).nin h.r1) (o1 _ (by decide)), h.i2.off hk ((o1 _ (by decide)).nin h.i2.hs.ty) ((o1 _ (by decide)).nin h.r2) (o1 _ (by decide)), h.o.off hk ((o1 _ (by decide)).nin h.o.hs.ty) ((o1 _ (by decide)).nin h.ro) (o1 _ (by decide)), h.new⟩
end
/-- The types of what a pool's calls may turn. -/
def MP : List Nat := 167 :: 169 :: MT
/-- What a pool's call keeps: all blocks older than B, and all of other types. -/
structure Pq (B : Nat) (w w' : World) : Prop where
  os : w'.os = w.os
  tape : w'.tape = w.tape
  output : w'.output = w.output
  size : w.heap.size ≤ w'.heap.size
  block : ∀ b, b < w.heap.size → (b < B ∨ ∃ e, e ∉ MP ∧ Ty w b e) → w'.heap[b]? = w.heap[b]?
theorem Pq.refl (B : Nat) (w : World) : Pq B w w := ⟨rfl, rfl, rfl, Nat.le_refl _, fun _ _ _ => rfl⟩
theorem Pq.trans {B : Nat} {a w w' : World} (h : Pq B a w) (k : Pq B w w') : Pq B a w' :=
  ⟨k.os.trans h.os, k.tape.trans h.tape, k.output.trans h.output, Nat.le_trans h.size k.size, fun b hb hc => by
    have h1 := h.block b hb hc
    refine (k.block b (Nat.lt_of_lt_of_le hb h.size) ?_).trans h1
    rcases hc with hc | ⟨e, he, ht⟩
    · exact .inl hc
    · exact .inr ⟨e, he, ht.same h1⟩⟩
theorem Pq.of {B : Nat} {S : List Nat} {w w' : World} (h : Kp S w w') (hB : ∀ s ∈ S, B ≤ s) (hT : ∀ e, e ∉ MP → Off w S e) : Pq B w w' :=
  ⟨h.os, h.tape, h.output, h.size, fun b hb hc => h.block b hb (fun hm => by
    rcases hc with hc | ⟨e, he, ht⟩
    · have := hB b hm; omega
    · exact (hT e he).nin ht hm)⟩
theorem Pq.of0 {B : Nat} {w w' : World} (h : Kp [] w w') : Pq B w w' := Pq.of h (by simp) (fun e _ => Off.nil w e)
theorem Kq.pq {B : Nat} {w w' : World} (h : Kq B w w') : Pq B w w' := ⟨h.os, h.tape, h.output, h.size, fun b hb hc => h.block b hb (by
  rcases hc with hc | ⟨e, he, ht⟩
  · exact .inl hc
  · exact .inr ⟨e, fun hm => he (by unfold MP; simp [hm]), ht⟩)⟩
theorem Pq.bz {B : Nat} {w w' : World} (h : Pq B w w') {b e : Nat} {cs : List Value} (hb : Bz w b e cs) (he : e ∉ MP) : Bz w' b e cs := by
  have hl := hb.lt
  have h1 := h.block b hl (.inr ⟨e, he, cs, hb⟩)
  obtain ⟨z, hz⟩ := hb
  exact ⟨z, h1.trans hz⟩
theorem Pq.bk {B : Nat} {w w' : World} (h : Pq B w w') {b e : Nat} {cs : List Value} (hb : Bk w b e cs) (he : e ∉ MP) : Bk w' b e cs := by
  have hl := hb.lt
  exact (h.block b hl (.inr ⟨e, he, cs, hb.bz⟩)).trans hb
theorem Pq.tb {B : Nat} {w w' : World} (h : Pq B w w') {A : Option Addr} {e : Nat} {xs : List Value} (hb : Tb w e A xs) (he : e ∉ MP) : Tb w' e A xs := fun hx => by
  obtain ⟨b, off, cs, rfl, hb, hc⟩ := hb hx
  exact ⟨b, off, cs, rfl, h.bz hb he, hc⟩
theorem Pq.old {B : Nat} {w0 w w' : World} (h : Pq B w w') (h0 : Kp [] w0 w) (hB : w0.heap.size ≤ B) : Kp [] w0 w' :=
  ⟨h.os.trans h0.os, h.tape.trans h0.tape, h.output.trans h0.output, Nat.le_trans h0.size h.size, fun b hb _ => (h.block b (Nat.lt_of_lt_of_le hb h0.size) (.inl (by omega))).trans (h0.block b hb (by simp))⟩
/-- A kernel and its pool. -/
structure KPl (w : World) (B : Nat) (ka : KA) (k : KS) (pa : PA) (p : PS) : Prop where
  kn : Kn w B ka k
  pl : Pl w ka.g pa p
  gB : B ≤ pa.g
  lB : B ≤ pa.l
section
variable {R : Ending → World → Prop} {w w' : World} {B m : Nat} {ka : KA} {k : KS} {pa : PA} {p : PS}
theorem KPl.off0 (h : KPl w B ka k pa p) (hk : Kp [] w w') : KPl w' B ka k pa p := ⟨h.kn.off0 hk, h.pl.off0 hk, h.gB, h.lB⟩
theorem KPl.offL (h : KPl w B ka k pa p) (e : Nat) (h1 : 169 ≠ e) : Off w [pa.l] e := Off.one h.pl.ty h1
/-- One cell of a slot is written. -/
theorem KPl.put (h : KPl w B ka k pa p) {i : Nat} {x x' : PSl} (hx : p.sl[i]? = some x) {j : Nat} {v : Value} (hj : j < 7) (hv : x'.vals = x.vals.set j v) :
    KPl (w.setCell ⟨pa.l, i * 7 + j, none⟩ v) B ka k pa { p with sl := p.sl.set i x' } ∧ Pq B w (w.setCell ⟨pa.l, i * 7 + j, none⟩ v) := by
  have hk : Kp [pa.l] w (w.setCell ⟨pa.l, i * 7 + j, none⟩ v) := (Kp.refl _ _).setCell (p := ⟨pa.l, i * 7 + j, none⟩) (.inl (by simp)) _
  exact ⟨⟨h.kn.offP hk (fun e h1 h2 => h.offL e h1), h.pl.put hx hj hv, h.gB, h.lB⟩, Pq.of hk (by intro s hs; simp at hs; subst hs; exact h.lB) (fun e he => h.offL e (by rintro rfl; exact he (by decide)))⟩
/-- One cell of the pool's own. -/
theorem KPl.putG (h : KPl w B ka k pa p) (j : Nat) (v : Value) {p' : PS} (hp : p'.sl = p.sl) (hh : p'.hand < p.sl.length) (hv : ([.pointer (some ⟨ka.g, 0, none⟩), .slice (some ⟨pa.l, 0, none⟩) p.sl.length pa.lc, .int .i64 p.hand, .int .i64 p.fills] : List Value).set j v = [.pointer (some ⟨ka.g, 0, none⟩), .slice (some ⟨pa.l, 0, none⟩) p'.sl.length pa.lc, .int .i64 p'.hand, .int .i64 p'.fills]) :
    KPl (w.setCell ⟨pa.g, j, none⟩ v) B ka k pa p' ∧ Pq B w (w.setCell ⟨pa.g, j, none⟩ v) := by
  have hk : Kp [pa.g] w (w.setCell ⟨pa.g, j, none⟩ v) := (Kp.refl _ _).setCell (p := ⟨pa.g, j, none⟩) (.inl (by simp)) _
  exact ⟨⟨h.kn.offP hk (fun e h1 h2 => Off.one h.pl.g.ty h2), h.pl.putG j v hp hh hv, h.gB, h.lB⟩, Pq.of hk (by intro s hs; simp at hs; subst hs; exact h.gB) (fun e he => Off.one h.pl.g.ty (by rintro rfl; exact he (by decide)))⟩
set_option maxHeartbeats 1000000 in
/-- May a slot be taken? -/
theorem pmay_any (h0 : KPl w B ka k pa p) {i : Nat} {x : PSl} (hx : p.sl[i]? = some x) (h : ∀ w', Kp [] w w' → R (.returned (.bool (x.pi == 0 && tHolds k.fs x.f == 0))) w') :
    Calls Tryz.prog 131 #[.pointer (some ⟨pa.g, 0, none⟩), .pointer (some ⟨pa.l, i * 7, none⟩)] w R := by
  have H := Lib.hid h
  have HK := Lib.hid h0
  obtain ⟨c0, c1, c2, c3, c4, c5, c6⟩ := h0.pl.cells hx
  have g0 : w.cell? ⟨pa.g, 0, none⟩ = some (.pointer (some ⟨ka.g, 0, none⟩)) := h0.pl.g.cell 0
  clear h h0 c1 c2 c4 c5 c6 hx
  cases hp : (x.pi == 0) with
  | false =>
    go_enter Tryz.func131, Tryz.ntmps131
    go_wp2
    refine wp_region_kp (by kernel_rfl) (by kernel_rfl) ?_
    repeat (go_big_quiet_step (fail))
    intro w' k'
    go_wp2
    exact rcast (H.out _ k') (by rw [hp]; rfl)
  | true =>
    go_enter Tryz.func131, Tryz.ntmps131
    go_wp2
    refine wp_region_kp (by kernel_rfl) (by kernel_rfl) ?_
    repeat (go_big_quiet_step (first | (go_at_call 17; refine ktab_any (HK.out.kn.off0 (kpw_kp _ _)) ?_; exact kpx_mk (Kp.refl _ _)) | (go_at_call 71; refine holds_any (HK.out.kn.off0 (kpw_kp _ _)).t x.f (fun n hn => ?_); rw [← hn.out]; exact kpx_mk (Kp.refl _ _))))
    intro w' k'
    go_wp2
    exact rcast (H.out _ k') (by rw [hp]; rfl)
end
section
variable {R : Ending → World → Prop} {w w' : World} {B m : Nat} {ka : KA} {k : KS} {pa : PA} {p : PS}
set_option maxHeartbeats 1000000 in
theorem ptk1_any (h0 : KPl w B ka k pa p) {cb : Nat} (hb : w.cell? ⟨cb, 0, none⟩ = some (.pointer (some ⟨pa.g, 0, none⟩))) {i : Nat} {x : PSl} (hx : p.sl[i]? = some x) (h : ∀ w', Kp [] w w' → R (.returned (.bool (x.kd == 0 && (x.pi == 0 && tHolds k.fs x.f == 0)))) w') :
    Calls Tryz.prog 130 #[.pointer (some ⟨pa.l, i * 7, none⟩), .pointer (some ⟨cb, 0, none⟩)] w R := by
  have H := Lib.hid h
  have HK := Lib.hid h0
  have HX := Lib.hid hx
  obtain ⟨c0, c1, c2, c3, c4, c5, c6⟩ := h0.pl.cells hx
  clear h h0 c0 c2 c3 c4 c5 c6 hx
  cases hp : (x.kd == 0) with
  | false =>
    go_enter Tryz.func130, Tryz.ntmps130
    go_wp2
    exact rcast (H.out _ (Kp.refl _ _)) (by rw [hp]; rfl)
  | true =>
    go_enter Tryz.func130, Tryz.ntmps130
    go_wp2_with (go_at_call 131; refine pmay_any HK.out HX.out ?_; intro w2 k2)
    exact rcast (H.out _ k2) (by rw [hp]; rfl)
set_option maxHeartbeats 1000000 in
theorem ppn1_any (h0 : KPl w B ka k pa p) {cb : Nat} (f : Int) (hb : w.cell? ⟨cb, 0, none⟩ = some (.int .i64 f)) {i : Nat} {x : PSl} (hx : p.sl[i]? = some x) (h : ∀ w', Kp [] w w' → R (.returned (.bool (x.f == f && decide (x.pi > 0)))) w') :
    Calls Tryz.prog 134 #[.pointer (some ⟨pa.l, i * 7, none⟩), .pointer (some ⟨cb, 0, none⟩)] w R := by
  have H := Lib.hid h
  obtain ⟨c0, c1, c2, c3, c4, c5, c6⟩ := h0.pl.cells hx
  clear h h0 c1 c2 c4 c5 c6 hx
  cases hp : (x.f == f) with
  | false =>
    go_enter Tryz.func134, Tryz.ntmps134
    go_wp2
    refine wp_region_kp (by kernel_rfl) (by kernel_rfl) ?_
    repeat (go_big_quiet_step (fail))
    intro w' k'
    go_wp2
    exact rcast (H.out _ k') (by rw [hp]; rfl)
  | true =>
    go_enter Tryz.func134, Tryz.ntmps134
    go_wp2
    refine wp_region_kp (by kernel_rfl) (by kernel_rfl) ?_
    repeat (go_big_quiet_step (fail))
    intro w' k'
    go_wp2
    exact rcast (H.out _ k') (by rw [hp]; rfl)
set_option maxHeartbeats 1000000 in
theorem pgt1_any (h0 : KPl w B ka k pa p) {cb : Nat} (f : Int) (hb : w.cell? ⟨cb, 0, none⟩ = some (.int .i64 f)) {i : Nat} {x : PSl} (hx : p.sl[i]? = some x) (h : ∀ w', Kp [] w w' → R (.returned (.bool (x.kd == 1 && x.bl == f))) w') :
    Calls Tryz.prog 76 #[.pointer (some ⟨pa.l, i * 7, none⟩), .pointer (some ⟨cb, 0, none⟩)] w R := by
  have H := Lib.hid h
  obtain ⟨c0, c1, c2, c3, c4, c5, c6⟩ := h0.pl.cells hx
  clear h h0 c0 c3 c4 c5 c6 hx
  cases hp : (x.kd == 1) with
  | false =>
    go_enter Tryz.func76, Tryz.ntmps76
    go_wp2
    refine wp_region_kp (by kernel_rfl) (by kernel_rfl) ?_
    repeat (go_big_quiet_step (fail))
    intro w' k'
    go_wp2
    exact rcast (H.out _ k') (by rw [hp]; rfl)
  | true =>
    go_enter Tryz.func76, Tryz.ntmps76
    go_wp2
    refine wp_region_kp (by kernel_rfl) (by kernel_rfl) ?_
    repeat (go_big_quiet_step (fail))
    intro w' k'
    go_wp2
    exact rcast (H.out _ k') (by rw [hp]; rfl)
set_option maxHeartbeats 1000000 in
theorem phs1_any (h0 : KPl w B ka k pa p) {cb : Nat} (f : Int) (hb : w.cell? ⟨cb, 0, none⟩ = some (.int .i64 f)) {i : Nat} {x : PSl} (hx : p.sl[i]? = some x) (h : ∀ w', Kp [] w w' → R (.returned (.bool (x.kd == 1 && x.bl == f))) w') :
    Calls Tryz.prog 137 #[.pointer (some ⟨pa.l, i * 7, none⟩), .pointer (some ⟨cb, 0, none⟩)] w R := by
  have H := Lib.hid h
  obtain ⟨c0, c1, c2, c3, c4, c5, c6⟩ := h0.pl.cells hx
  clear h h0 c0 c3 c4 c5 c6 hx
  cases hp : (x.kd == 1) with
  | false =>
    go_enter Tryz.func137, Tryz.ntmps137
    go_wp2
    refine wp_region_kp (by kernel_rfl) (by kernel_rfl) ?_
    repeat (go_big_quiet_step (fail))
    intro w' k'
    go_wp2
    exact rcast (H.out _ k') (by rw [hp]; rfl)
  | true =>
    go_enter Tryz.func137, Tryz.ntmps137
    go_wp2
    refine wp_region_kp (by kernel_rfl) (by kernel_rfl) ?_
    repeat (go_big_quiet_step (fail))
    intro w' k'
    go_wp2
    exact rcast (H.out _ k') (by rw [hp]; rfl)
/-- The first slot of which it holds, as a pointer. -/
def pfind (p : PS) (l : Nat) (pr : PSl → Bool) : Option Addr := match p.sl.findIdx? pr with | none => none | some i => some ⟨l, i * 7, none⟩
set_option maxHeartbeats 1000000 in
theorem pfind_any (h0 : KPl w B ka k pa p) (fn cb : Nat) (pr : PSl → Bool) (he : ∀ (args : Array Value) (w : World), (callFunc fn args).run Tryz.prog w = .ok (.enter fn args) w)
    (hc : ∀ (R : Ending → World → Prop) (i : Nat) (x : PSl) (w1 : World), Kp [] w w1 → p.sl[i]? = some x → (∀ w', Kp [] w1 w' → R (.returned (.bool (pr x))) w') → Calls Tryz.prog fn #[.pointer (some ⟨pa.l, i * 7, none⟩), .pointer (some ⟨cb, 0, none⟩)] w1 R)
    (h : ∀ w', Kp [] w w' → R (.returned (.pointer (pfind p pa.l pr))) w') :
    Calls Tryz.prog 75 #[.pointer (some ⟨pa.g, 0, none⟩), .func (.func fn) #[] #[.pointer (some ⟨cb, 0, none⟩)]] w R := by
  have H := Lib.hid h
  have HC := Lib.hid hc
  have HG : Hid (∀ w', Kp [] w w' → w'.cell? ⟨pa.g, 1, none⟩ = some (.slice (some ⟨pa.l, 0, none⟩) p.sl.length pa.lc)) := Lib.hid (fun w' k' => (h0.pl.g.kp k' (by simp)).cell 1)
  have hn := h0.pl.hn
  obtain ⟨n, hN⟩ : ∃ n, p.sl.length = n := ⟨_, rfl⟩
  rw [hN] at HG hn
  have HN := Lib.hid hN
  have g1 := HG.out _ (Kp.refl _ _)
  clear h hc h0 hN
  go_enter Tryz.func75, Tryz.ntmps75
  go_wp2
  go_loopw [13] (fun iv wr => ∃ k : Nat, k ≤ n ∧ iv = .int .i64 k ∧ Hid (Kp [] w wr) ∧ Hid (∀ j x, j < k → p.sl[j]? = some x → pr x = false)) (fun iv _ => n - (intOf iv).toNat)
  case atStart => exact ⟨0, Nat.zero_le _, rfl, Lib.hid (Kp.refl _ _), Lib.hid (by omega)⟩
  case round =>
    obtain ⟨j, hj, rfl, kr, hgd⟩ := hrel
    by_cases hlt : j < n
    · obtain ⟨x, hx⟩ : ∃ x, p.sl[j]? = some x := ⟨_, List.getElem?_eq_getElem (by have := HN.out; omega)⟩
      have HX := Lib.hid hx
      have g2 := HG.out _ kr.out
      clear hx g1
      cases hb : pr x with
      | false =>
        go_wp2_with (refine HC.out _ j x _ kr.out HX.out ?_; rw [hb]; intro w2 k2; have g3 := HG.out _ (kr.out.trans k2))
        exact ⟨⟨j + 1, by omega, by go_num, Lib.hid (kr.out.trans k2), Lib.hid (fun i y hi hy => by
          rcases Nat.lt_or_ge i j with h | h
          · exact hgd.out i y h hy
          · obtain rfl : i = j := by omega
            rw [HX.out] at hy; injection hy with hy; subst hy; exact hb)⟩, by simp [intOf]; omega⟩
      | true =>
        have hfi : p.sl.findIdx? pr = some j := by
          rw [List.findIdx?_eq_some_iff_getElem]
          obtain ⟨hk', hxe⟩ := List.getElem?_eq_some_iff.1 HX.out
          refine ⟨hk', by rw [hxe]; exact hb, fun i hi => by
            have := hgd.out i (p.sl[i]'(by omega)) hi (List.getElem?_eq_getElem (by omega))
            simp [this]⟩
        have HH := Lib.hid (fun w' k' => rcast (H.out w' k') (congrArg Value.pointer (show pfind p pa.l pr = some ⟨pa.l, j * 7, none⟩ by unfold pfind; rw [hfi])))
        clear H hfi
        go_wp2_with (refine HC.out _ j x _ kr.out HX.out ?_; rw [hb]; intro w2 k2; have g3 := HG.out _ (kr.out.trans k2))
        exact HH.out _ (kr.out.trans k2)
    · obtain rfl : j = n := by omega
      have hfi : p.sl.findIdx? pr = none := by
        rw [List.findIdx?_eq_none_iff]
        intro x hx
        obtain ⟨i, hi⟩ := List.getElem?_of_mem hx
        exact hgd.out i x (by rw [← HN.out]; exact (List.getElem?_eq_some_iff.1 hi).1) hi
      have HH := Lib.hid (fun w' k' => rcast (H.out w' k') (congrArg Value.pointer (show pfind p pa.l pr = none by unfold pfind; rw [hfi])))
      clear H hfi
      go_wp2
      exact HH.out _ kr.out
end
end
end Go.Proofs.YtedblbpmlbjnhaaGreat
