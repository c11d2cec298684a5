/- The pool laws' steps that came in (pantlerlaw13.Act); far, stale, Fill. The pool laws' far, with all that it tells. -/
import Derived.Test.YtedblbpmlbjnhaaGreatPE43
namespace Go.Proofs.YtedblbpmlbjnhaaGreat
/-! ### The pool laws' steps that came in (pantlerlaw13.Act); far, stale, Fill. -/
section
open Go.RowKit Go.Shelf Go.ChangeShapes Go.WideShapes Go.ChangeAt Go.Deep
set_option linter.unusedVariables false
set_option linter.unusedSimpArgs false
set_option maxRecDepth 100000
/-- A step. -/
structure PAct where
  k : Int
  a : Int
  b : Int
  ev : Int
  od : Int
  s : ByteArray
  l : Sin Pc
def PAct.vals (x : PAct) : List Value := [.int .i64 x.k, .int .i64 x.a, .int .i64 x.b, .int .i64 x.ev, .int .i64 x.od, .string x.s, .slice x.l.A x.l.n x.l.c]
theorem pavals_len (x : PAct) : x.vals.length = 7 := rfl
structure PAct.ok (W : World) (x : PAct) : Prop where
  s : x.s.size ≤ maxLen
  l : x.l.ok W Pc.vals Pc.ok
section
variable {H : Type} {enc : TypeId × Value → H} {W : World}
theorem opn_pair : Opn enc Tryz.prog W 85 (fun e : Int × Int => [.int .i64 e.1, .int .i64 e.2]) (fun _ => True) := ⟨fun fuel cs x h => by
  obtain ⟨xs, n, _, _, hlen, hxl, hg⟩ := DataW.trod_struct Tryz.underlying85 h
  have hK : Tryz.prog.cellsOf 85 = 2 := by kernel_rfl
  have hI : Tryz.prog.cellsOf 2 = 1 := by kernel_rfl
  rw [hK] at hlen
  match cs, hlen with
  | [c0, c1], _ =>
    obtain ⟨m0, rfl, h0⟩ := fld_int hg hxl 0 rfl hI Tryz.underlying2 rfl
    obtain ⟨m1, rfl, h1⟩ := fld_int hg hxl 1 rfl hI Tryz.underlying2 rfl
    exact ⟨⟨m0, m1⟩, rfl, trivial⟩⟩
theorem opn_pact : Opn enc Tryz.prog W 87 PAct.vals (PAct.ok W) := ⟨fun fuel cs x h => by
  obtain ⟨xs, n, _, _, hlen, hxl, hg⟩ := DataW.trod_struct Tryz.underlying87 h
  have hK : Tryz.prog.cellsOf 87 = 7 := by kernel_rfl
  have hI : Tryz.prog.cellsOf 3 = 1 := by kernel_rfl
  have hS : Tryz.prog.cellsOf 9 = 1 := by kernel_rfl
  have hC : Tryz.prog.cellsOf 85 = 2 := by kernel_rfl
  have hL : Tryz.prog.cellsOf 32 = 1 := by kernel_rfl
  rw [hK] at hlen
  match cs, hlen, xs, hxl with
  | [c0, c1, c2, c3, c4, c5, c6], _, [x0, x1, x2, x3, x4, x5], hxl =>
    obtain ⟨m0, rfl, h0⟩ := fld_int hg hxl 0 rfl hI Tryz.underlying3 rfl
    obtain ⟨m1, rfl, h1⟩ := fld_int hg hxl 1 rfl hI Tryz.underlying3 rfl
    obtain ⟨m2, rfl, h2⟩ := fld_int hg hxl 2 rfl hI Tryz.underlying3 rfl
    obtain ⟨m5, rfl, h5⟩ := fld_string hg hxl 4 rfl hS Tryz.underlying9 rfl
    obtain ⟨y6, hy6⟩ := fld hg hxl 5 rfl hL rfl
    obtain ⟨l, el, hl⟩ := opn_pcs.op _ _ _ hy6
    simp [Sin.vals] at el
    subst el
    have g1 : DataW.trod enc Tryz.prog W 0 (fun _ => true) true n 85 (([Value.int .i64 m0, .int .i64 m1, .int .i64 m2, c3, c4, Value.string m5, Value.slice l.A l.n l.c].drop 3).take (Tryz.prog.cellsOf 85)) = some x3 := hg 3 _ rfl
    rw [hC] at g1
    obtain ⟨⟨e, o⟩, ec, _⟩ := opn_pair.op _ _ _ g1
    have ec' : [c3, c4] = [Value.int .i64 e, .int .i64 o] := ec
    injection ec' with e1 e2
    injection e2 with e2 _
    subst e1; subst e2
    exact ⟨⟨m0, m1, m2, e, o, m5, l⟩, rfl, h5, hl⟩⟩
theorem opn_pacts : Opn enc Tryz.prog W 76 (Sin.vals (α := PAct)) (Sin.ok W PAct.vals (PAct.ok W)) :=
  opn_slice (K := 7) Tryz.underlying76 (by kernel_rfl) pavals_len opn_pact
end
theorem pact_cells {x : PAct} {W : World} {b o : Nat} (hc : ∀ j v, (x.vals)[j]? = some v → W.cell? ⟨b, o + j, none⟩ = some v) : W.cell? ⟨b, o, none⟩ = some (.int .i64 x.k) ∧ W.cell? ⟨b, o + 1, none⟩ = some (.int .i64 x.a) ∧ W.cell? ⟨b, o + 2, none⟩ = some (.int .i64 x.b) ∧ W.cell? ⟨b, o + 3, none⟩ = some (.int .i64 x.ev) ∧ W.cell? ⟨b, o + 4, none⟩ = some (.int .i64 x.od) ∧ W.cell? ⟨b, o + 5, none⟩ = some (.string x.s) ∧ W.cell? ⟨b, o + 6, none⟩ = some (.slice x.l.A x.l.n x.l.c) :=
  ⟨hc 0 _ rfl, hc 1 _ rfl, hc 2 _ rfl, hc 3 _ rfl, hc 4 _ rfl, hc 5 _ rfl, hc 6 _ rfl⟩
section
variable {R : Ending → World → Prop} {w : World}
/-- Was a block written anew? -/
def stB (l : List PAct) (a : Int) : Bool := l.any (fun x => x.k == 8 && x.a == a)
theorem fill_set {l : List UInt8} (i : Nat) {v : Int} (h0 : 0 ≤ v) (h1 : v ≤ 255) : (bts l).set i (.int .u8 v) = bts (l.set i (UInt8.ofNat v.toNat)) := by
  have e : (Value.int .u8 v) = (fun c : UInt8 => Value.int .u8 c.toNat) (UInt8.ofNat v.toNat) := by
    simp only [UInt8.toNat_ofNat']
    congr 1
    omega
  unfold bts
  rw [e, List.map_set]
set_option maxHeartbeats 2000000 in
theorem fill_any (sd : Int) (h0 : 0 ≤ sd) (h1 : sd ≤ 255) (h : ∀ s w', Kp [] w w' → s.size = 256 → R (.returned (.string s)) w') : Calls Tryz.prog 37 #[.int .u8 sd, .int .i64 256] w R := by
  have H := Lib.hid h
  obtain ⟨i0, hi, hz0, hz1, hz2⟩ := info_parts (show (Tryz.prog.info? 5).map (fun i => (i.zero, i.size, i.bytes)) = some (some (.int .u8 0), 1, 1) by kernel_rfl)
  have hmk := fun W => run_make (P := Tryz.prog) W 37 5 i0 _ Tryz.underlying37 hi hz0 .i64 .i64 256 256 (by omega) (by omega) (by rw [hz2]; omega) (by omega)
  simp only [hz1] at hmk
  have hml : (madeCells #[Value.int .u8 0] 256).toList = bts (List.replicate 256 0) := by kernel_rfl
  have HML := Lib.hid hml
  clear h hi hz0 hz1 hz2 hml
  go_enter Tryz.func37, Tryz.ntmps37
  go_upto_region 2 with (fail)
  refine gen_worldK (fun W => ∃ g, w.heap.size = g ∧ Hid (Kp [] w W ∧ ∃ l : List UInt8, l.length = 256 ∧ Bk W g 5 (bts l))) ⟨_, rfl, Lib.hid ⟨(Kp.refl _ _).alloc _, List.replicate 256 0, by simp, (Bk.new' _ _ _).cast HML.out⟩⟩ ?_
  rintro W ⟨g, hg, hW⟩
  rw [hg]
  have hgw : w.heap.size ≤ g := by omega
  clear hmk HML hg
  go_wp2
  go_loopw [6] (fun iv wr => ∃ k : Nat, k ≤ 256 ∧ iv = .int .i64 k ∧ Hid (Kp [] w wr ∧ ∃ l : List UInt8, l.length = 256 ∧ Bk wr g 5 (bts l))) (fun iv _ => 256 - (intOf iv).toNat)
  case atStart => exact ⟨0, Nat.zero_le _, rfl, hW⟩
  case round =>
    obtain ⟨k, hk, rfl, kr⟩ := hrel
    by_cases hlt : k < 256
    · obtain ⟨k1, l, hl, bk⟩ := kr.out
      obtain ⟨v0, cx⟩ : ∃ v0 : Int, wr.cell? ⟨g, k, none⟩ = some (.int .u8 v0) := ⟨((l[k]'(by omega)).toNat : Int), by rw [bk.cell, bts_get, List.getElem?_eq_getElem (by omega)]; rfl⟩
      have fx := bk.frozen k
      obtain ⟨q, hq⟩ : ∃ q : Nat, k * k = q := ⟨_, rfl⟩
      have hqb : q ≤ 65025 := by rw [← hq]; exact Nat.mul_le_mul (by omega : k ≤ 255) (by omega : k ≤ 255)
      have hqq : (k : Int) * (k : Int) = (q : Int) := by rw [← hq]; simp
      have BK := Lib.hid (And.intro hl bk)
      clear hl bk hq
      go_wp2
      exact ⟨⟨k + 1, by omega, by go_num, Lib.hid ⟨k1.setCell (p := ⟨g, k, none⟩) (.inr hgw) _, _, by rw [List.length_set]; exact BK.out.1, (BK.out.2.set_ k _).cast (fill_set k (by omega) (by omega))⟩⟩, by simp [intOf]; omega⟩
    · obtain rfl : k = 256 := by omega
      obtain ⟨k1, l, hl, bk⟩ := kr.out
      have hcv := conv_bs (w := wr) (c := 256) (N := []) (Rd.of_bk bk (by simp)) hl
      go_wp2
      exact H.out _ _ k1 (by show l.toArray.size = 256; simpa using hl)
end
end
/-! ### The pool laws' far, with all that it tells. -/
section
open Go.RowKit Go.Shelf
set_option linter.unusedVariables false
set_option linter.unusedSimpArgs false
set_option maxRecDepth 100000
structure PActB (x : PAct) : Prop where
  s : x.s.size ≤ 1000
  l : x.l.n ≤ 50
  e0 : 0 ≤ x.ev
  e1 : x.ev ≤ 1073741824
  o0 : 0 ≤ x.od
  o1 : x.od ≤ 1073741824
section
variable {R : Ending → World → Prop} {w : World}
set_option maxHeartbeats 1000000 in
theorem may01_yes (e o : Int) (h1 : 0 ≤ e) (h2 : e ≤ 1099511627776) (h3 : 0 ≤ o) (h4 : o ≤ 1099511627776) (h : ∀ w', Kp [] w w' → R (.returned (.bool true)) w') : Calls Tryz.prog 74 #[.agg #[.int .i64 e, .int .i64 o]] w R := by
  have H := Lib.hid h
  clear h
  go_enter Tryz.func74, Tryz.ntmps74
  go_wp2
  exact H.out _ ((Kp.refl _ _).alloc _)
set_option maxHeartbeats 1000000 in
theorem may01_no (e o : Int) (hno : ¬ (0 ≤ e ∧ e ≤ 1099511627776 ∧ 0 ≤ o ∧ o ≤ 1099511627776)) (h : ∀ w', Kp [] w w' → R (.returned (.bool false)) w') : Calls Tryz.prog 74 #[.agg #[.int .i64 e, .int .i64 o]] w R := by
  have H := Lib.hid h
  clear h
  rcases (by omega : e < 0 ∨ 1099511627776 < e ∨ (0 ≤ e ∧ e ≤ 1099511627776 ∧ (o < 0 ∨ 1099511627776 < o))) with h1 | h1 | ⟨h1, h2, h3 | h3⟩
  · clear hno
    go_enter Tryz.func74, Tryz.ntmps74
    go_wp2
    exact H.out _ ((Kp.refl _ _).alloc _)
  · have h2 : 0 ≤ e := by omega
    clear hno
    go_enter Tryz.func74, Tryz.ntmps74
    go_wp2
    exact H.out _ ((Kp.refl _ _).alloc _)
  · clear hno
    go_enter Tryz.func74, Tryz.ntmps74
    go_wp2
    exact H.out _ ((Kp.refl _ _).alloc _)
  · have h4 : 0 ≤ o := by omega
    have h5 : decide (o ≤ 1099511627776) = false := by simp; omega
    clear hno
    go_enter Tryz.func74, Tryz.ntmps74
    go_wp2
    exact H.out _ ((Kp.refl _ _).alloc _)
set_option maxHeartbeats 4000000 in
theorem far13f_any {A : Option Addr} {n c : Nat} {l : List PAct} (hr : Rd w [] A (l.flatMap PAct.vals)) (hl : l.length = n) (hn : n ≤ 9223372036854775807)
    (h1 : ∀ w', Kp [] w w' → R (.returned (.bool true)) w') (h2 : n ≤ 80 → (∀ x ∈ l, PActB x) → ∀ w', Kp [] w w' → R (.returned (.bool false)) w') : Calls Tryz.prog 21 #[.slice A n c] w R := by
  have H1 := Lib.hid h1
  have H2 := Lib.hid h2
  have HL := Lib.hid hl
  have HR := Lib.hid hr
  clear h1 h2 hl hr
  by_cases h100 : 80 < n
  · go_enter Tryz.func21, Tryz.ntmps21
    go_wp2
    exact H1.out _ (Kp.refl _ _)
  · go_enter Tryz.func21, Tryz.ntmps21
    go_wp2
    go_loopw [3] (fun iv wr => ∃ k : Nat, k ≤ n ∧ iv = .int .i64 k ∧ Hid (Kp [] w wr) ∧ Hid (∀ j x, j < k → l[j]? = some x → PActB x)) (fun iv _ => n - (intOf iv).toNat)
    case atStart => exact ⟨0, Nat.zero_le _, rfl, Lib.hid (Kp.refl _ _), Lib.hid (by omega)⟩
    case round =>
      obtain ⟨k, hk, rfl, kr, hgd⟩ := hrel
      by_cases hlt : k < n
      · obtain ⟨x, hx, hm⟩ := get_lt (l := l) (k := k) (by have := HL.out; omega)
        obtain ⟨b, off, rfl, _, hbl, hc⟩ := rd_at (HR.out.kp kr.out (by simp)) pavals_len (by omega) hx
        obtain ⟨c0, c1, c2, c3, c4, c5, c6⟩ := pact_cells hc
        have HX := Lib.hid hx
        have HC : Hid (∀ w', Kp [] wr w' → w'.cell? ⟨b, off + k * 7 + 3, none⟩ = some (.int .i64 x.ev) ∧ w'.cell? ⟨b, off + k * 7 + 4, none⟩ = some (.int .i64 x.od)) := Lib.hid (fun w' k' => ⟨(k'.cell (p := ⟨b, off + k * 7 + 3, none⟩) hbl (by simp)).trans c3, (k'.cell (p := ⟨b, off + k * 7 + 4, none⟩) hbl (by simp)).trans c4⟩)
        clear hc hx c0 c1 c2
        by_cases hs : 1000 < x.s.size
        · go_wp2
          exact H1.out _ kr.out
        · by_cases hp : 50 < x.l.n
          · go_wp2
            exact H1.out _ kr.out
          · by_cases hma : 0 ≤ x.ev ∧ x.ev ≤ 1099511627776 ∧ 0 ≤ x.od ∧ x.od ≤ 1099511627776
            · have HM : Hid (∀ (R : Ending → World → Prop), (∀ w', Kp [] wr w' → R (.returned (.bool true)) w') → Calls Tryz.prog 74 #[.agg #[.int .i64 x.ev, .int .i64 x.od]] wr R) := Lib.hid (fun R h => may01_yes x.ev x.od hma.1 hma.2.1 hma.2.2.1 hma.2.2.2 h)
              by_cases he : 1073741824 < x.ev
              · clear hma
                go_upto_if 55 with (go_at_call 74; ((refine HM.out _ ?_); intro w2 k2; (obtain ⟨d3, d4⟩ := HC.out w2 k2)))
                go_wp2
                exact H1.out _ (kr.out.trans k2)
              · by_cases ho : 1073741824 < x.od
                · clear hma
                  go_upto_if 55 with (go_at_call 74; ((refine HM.out _ ?_); intro w2 k2; (obtain ⟨d3, d4⟩ := HC.out w2 k2)))
                  go_wp2
                  exact H1.out _ (kr.out.trans k2)
                · have HB : Hid (PActB x) := Lib.hid ⟨by omega, by omega, hma.1, by omega, hma.2.2.1, by omega⟩
                  clear hma
                  go_upto_if 55 with (go_at_call 74; ((refine HM.out _ ?_); intro w2 k2; (obtain ⟨d3, d4⟩ := HC.out w2 k2)))
                  go_wp2
                  exact ⟨⟨k + 1, by omega, by go_num, Lib.hid (kr.out.trans k2), Lib.hid (fun j y hj hy => by
                    rcases Nat.lt_or_ge j k with h | h
                    · exact hgd.out j y h hy
                    · obtain rfl : j = k := by omega
                      rw [HX.out] at hy; injection hy with hy; subst hy; exact HB.out)⟩, by simp [intOf]; omega⟩
            · have HM : Hid (∀ (R : Ending → World → Prop), (∀ w', Kp [] wr w' → R (.returned (.bool false)) w') → Calls Tryz.prog 74 #[.agg #[.int .i64 x.ev, .int .i64 x.od]] wr R) := Lib.hid (fun R h => may01_no x.ev x.od hma h)
              clear hma
              go_upto_if 55 with (go_at_call 74; ((refine HM.out _ ?_); intro w2 k2; (obtain ⟨d3, d4⟩ := HC.out w2 k2)))
              go_wp2
              exact H1.out _ (kr.out.trans k2)
      · obtain rfl : k = n := by omega
        go_wp2
        exact H2.out (by omega) (fun x hx => by
          obtain ⟨j, hj⟩ := List.getElem?_of_mem hx
          exact hgd.out j x (by rw [← HL.out]; exact (List.getElem?_eq_some_iff.1 hj).1) hj) _ kr.out
end
end
end Go.Proofs.YtedblbpmlbjnhaaGreat
