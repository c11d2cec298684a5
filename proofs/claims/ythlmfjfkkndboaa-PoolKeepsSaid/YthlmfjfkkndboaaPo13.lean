/- The pool laws' steps that came in (pantlerlaw13.Act); far, stale, Fill. -/
import Derived.Test.YthlmfjfkkndboaaPo10
namespace Go.Proofs.Ythlmfjfkkndboaa
open Go.RowKit Go.Shelf Go.ChangeShapes Go.WideShapes Go.ChangeAt Go.Deep
set_option linter.unusedVariables false
set_option linter.unusedSimpArgs false
set_option maxRecDepth 100000
/-- A step. -/
structure PAct where
  k : Int
  a : Int
  b : Int
  ev : Int
  od : Int
  s : ByteArray
  l : Sin Pc
def PAct.vals (x : PAct) : List Value := [.int .i64 x.k, .int .i64 x.a, .int .i64 x.b, .int .i64 x.ev, .int .i64 x.od, .string x.s, .slice x.l.A x.l.n x.l.c]
theorem pavals_len (x : PAct) : x.vals.length = 7 := rfl
structure PAct.ok (W : World) (x : PAct) : Prop where
  s : x.s.size ≤ maxLen
  l : x.l.ok W Pc.vals Pc.ok
section
variable {H : Type} {enc : TypeId × Value → H} {W : World}
theorem opn_pair : Opn enc Try.prog W 65 (fun e : Int × Int => [.int .i64 e.1, .int .i64 e.2]) (fun _ => True) := ⟨fun fuel cs x h => by
  obtain ⟨xs, n, _, _, hlen, hxl, hg⟩ := DataW.trod_struct Try.underlying65 h
  have hK : Try.prog.cellsOf 65 = 2 := by kernel_rfl
  have hI : Try.prog.cellsOf 2 = 1 := by kernel_rfl
  rw [hK] at hlen
  match cs, hlen with
  | [c0, c1], _ =>
    obtain ⟨m0, rfl, h0⟩ := fld_int hg hxl 0 rfl hI Try.underlying2 rfl
    obtain ⟨m1, rfl, h1⟩ := fld_int hg hxl 1 rfl hI Try.underlying2 rfl
    exact ⟨⟨m0, m1⟩, rfl, trivial⟩⟩
theorem opn_pact : Opn enc Try.prog W 67 PAct.vals (PAct.ok W) := ⟨fun fuel cs x h => by
  obtain ⟨xs, n, _, _, hlen, hxl, hg⟩ := DataW.trod_struct Try.underlying67 h
  have hK : Try.prog.cellsOf 67 = 7 := by kernel_rfl
  have hI : Try.prog.cellsOf 3 = 1 := by kernel_rfl
  have hS : Try.prog.cellsOf 9 = 1 := by kernel_rfl
  have hC : Try.prog.cellsOf 65 = 2 := by kernel_rfl
  have hL : Try.prog.cellsOf 37 = 1 := by kernel_rfl
  rw [hK] at hlen
  match cs, hlen, xs, hxl with
  | [c0, c1, c2, c3, c4, c5, c6], _, [x0, x1, x2, x3, x4, x5], hxl =>
    obtain ⟨m0, rfl, h0⟩ := fld_int hg hxl 0 rfl hI Try.underlying3 rfl
    obtain ⟨m1, rfl, h1⟩ := fld_int hg hxl 1 rfl hI Try.underlying3 rfl
    obtain ⟨m2, rfl, h2⟩ := fld_int hg hxl 2 rfl hI Try.underlying3 rfl
    obtain ⟨m5, rfl, h5⟩ := fld_string hg hxl 4 rfl hS Try.underlying9 rfl
    obtain ⟨y6, hy6⟩ := fld hg hxl 5 rfl hL rfl
    obtain ⟨l, el, hl⟩ := opn_pcs.op _ _ _ hy6
    simp [Sin.vals] at el
    subst el
    have g1 : DataW.trod enc Try.prog W 0 (fun _ => true) true n 65 (([Value.int .i64 m0, .int .i64 m1, .int .i64 m2, c3, c4, Value.string m5, Value.slice l.A l.n l.c].drop 3).take (Try.prog.cellsOf 65)) = some x3 := hg 3 _ rfl
    rw [hC] at g1
    obtain ⟨⟨e, o⟩, ec, _⟩ := opn_pair.op _ _ _ g1
    have ec' : [c3, c4] = [Value.int .i64 e, .int .i64 o] := ec
    injection ec' with e1 e2
    injection e2 with e2 _
    subst e1; subst e2
    exact ⟨⟨m0, m1, m2, e, o, m5, l⟩, rfl, h5, hl⟩⟩
theorem opn_pacts : Opn enc Try.prog W 53 (Sin.vals (α := PAct)) (Sin.ok W PAct.vals (PAct.ok W)) :=
  opn_slice (K := 7) Try.underlying53 (by kernel_rfl) pavals_len opn_pact
end
theorem pact_cells {x : PAct} {W : World} {b o : Nat} (hc : ∀ j v, (x.vals)[j]? = some v → W.cell? ⟨b, o + j, none⟩ = some v) : W.cell? ⟨b, o, none⟩ = some (.int .i64 x.k) ∧ W.cell? ⟨b, o + 1, none⟩ = some (.int .i64 x.a) ∧ W.cell? ⟨b, o + 2, none⟩ = some (.int .i64 x.b) ∧ W.cell? ⟨b, o + 3, none⟩ = some (.int .i64 x.ev) ∧ W.cell? ⟨b, o + 4, none⟩ = some (.int .i64 x.od) ∧ W.cell? ⟨b, o + 5, none⟩ = some (.string x.s) ∧ W.cell? ⟨b, o + 6, none⟩ = some (.slice x.l.A x.l.n x.l.c) :=
  ⟨hc 0 _ rfl, hc 1 _ rfl, hc 2 _ rfl, hc 3 _ rfl, hc 4 _ rfl, hc 5 _ rfl, hc 6 _ rfl⟩
section
variable {R : Ending → World → Prop} {w : World}
set_option maxHeartbeats 1000000 in
theorem may01_any (e o : Int) (h : ∀ t w', Kp [] w w' → R (.returned (.bool t)) w') : Calls Try.prog 64 #[.agg #[.int .i64 e, .int .i64 o]] w R := by
  have H := Lib.hid h
  clear h
  have hq : 0 ≤ e ∨ ¬ 0 ≤ e := by omega
  rcases (by omega : e < 0 ∨ 1099511627776 < e ∨ (0 ≤ e ∧ e ≤ 1099511627776 ∧ (o < 0 ∨ 1099511627776 < o ∨ (0 ≤ o ∧ o ≤ 1099511627776)))) with h1 | h1 | ⟨h1, h2, h3 | h3 | ⟨h3, h4⟩⟩
  · clear hq
    go_enter Try.func64, Try.ntmps64
    go_wp2
    exact H.out _ _ ((Kp.refl _ _).alloc _)
  · have h2 : 0 ≤ e := by omega
    clear hq
    go_enter Try.func64, Try.ntmps64
    go_wp2
    exact H.out _ _ ((Kp.refl _ _).alloc _)
  · clear hq
    go_enter Try.func64, Try.ntmps64
    go_wp2
    exact H.out _ _ ((Kp.refl _ _).alloc _)
  · have h4 : 0 ≤ o := by omega
    clear hq
    go_enter Try.func64, Try.ntmps64
    go_wp2
    exact H.out _ _ ((Kp.refl _ _).alloc _)
  · clear hq
    go_enter Try.func64, Try.ntmps64
    go_wp2
    exact H.out _ _ ((Kp.refl _ _).alloc _)
set_option maxHeartbeats 1000000 in
theorem num01_any (e o : Int) (h : ∀ w', Kp [] w w' → R (.returned (.complex .f64 (floatOfInt .f64 e) (floatOfInt .f64 o))) w') : Calls Try.prog 33 #[.agg #[.int .i64 e, .int .i64 o]] w R := by
  have H := Lib.hid h
  have hcv : ∀ (W : World) (m : Int), (convert 2 139 (.int .i64 m)).run Try.prog W = .ok (.float .f64 (floatOfInt .f64 m)) W := fun W m => run_convert_int_float (P := Try.prog) W 2 139 .i64 .f64 m (by rw [Try.underlying2]; rfl) Try.underlying139
  clear h
  go_enter Try.func33, Try.ntmps33
  go_wp2
  exact H.out _ ((Kp.refl _ _).alloc _)
set_option maxHeartbeats 4000000 in
theorem far13_any {A : Option Addr} {n c : Nat} {l : List PAct} (hr : Rd w [] A (l.flatMap PAct.vals)) (hl : l.length = n) (hn : n ≤ 9223372036854775807)
    (h1 : ∀ w', Kp [] w w' → R (.returned (.bool true)) w') (h2 : n ≤ 80 → (∀ x ∈ l, x.s.size ≤ 1000) → ∀ w', Kp [] w w' → R (.returned (.bool false)) w') : Calls Try.prog 27 #[.slice A n c] w R := by
  have H1 := Lib.hid h1
  have H2 := Lib.hid h2
  have HL := Lib.hid hl
  have HR := Lib.hid hr
  clear h1 h2 hl hr
  by_cases h100 : 80 < n
  · go_enter Try.func27, Try.ntmps27
    go_wp2
    exact H1.out _ (Kp.refl _ _)
  · go_enter Try.func27, Try.ntmps27
    go_wp2
    go_loopw [3] (fun iv wr => ∃ k : Nat, k ≤ n ∧ iv = .int .i64 k ∧ Hid (Kp [] w wr) ∧ Hid (∀ j x, j < k → l[j]? = some x → x.s.size ≤ 1000)) (fun iv _ => n - (intOf iv).toNat)
    case atStart => exact ⟨0, Nat.zero_le _, rfl, Lib.hid (Kp.refl _ _), Lib.hid (by omega)⟩
    case round =>
      obtain ⟨k, hk, rfl, kr, hgd⟩ := hrel
      by_cases hlt : k < n
      · obtain ⟨x, hx, hm⟩ := get_lt (l := l) (k := k) (by have := HL.out; omega)
        obtain ⟨b, off, rfl, _, hbl, hc⟩ := rd_at (HR.out.kp kr.out (by simp)) pavals_len (by omega) hx
        obtain ⟨c0, c1, c2, c3, c4, c5, c6⟩ := pact_cells hc
        have HX := Lib.hid hx
        have HC : Hid (∀ w', Kp [] wr w' → w'.cell? ⟨b, off + k * 7 + 3, none⟩ = some (.int .i64 x.ev) ∧ w'.cell? ⟨b, off + k * 7 + 4, none⟩ = some (.int .i64 x.od)) := Lib.hid (fun w' k' => ⟨(k'.cell (p := ⟨b, off + k * 7 + 3, none⟩) hbl (by simp)).trans c3, (k'.cell (p := ⟨b, off + k * 7 + 4, none⟩) hbl (by simp)).trans c4⟩)
        clear hc hx c0 c1 c2
        by_cases hs : 1000 < x.s.size
        · go_wp2
          exact H1.out _ kr.out
        · by_cases hp : 50 < x.l.n
          · go_wp2
            exact H1.out _ kr.out
          · have HM : Hid (∀ (R : Ending → World → Prop), (∀ t w', Kp [] wr w' → R (.returned (.bool t)) w') → Calls Try.prog 64 #[.agg #[.int .i64 x.ev, .int .i64 x.od]] wr R) := Lib.hid (fun R h => may01_any x.ev x.od h)
            by_cases he : 1073741824 < x.ev
            · go_upto_if 55 with (go_at_call 64; ((refine HM.out _ ?_); intro t w2 k2; (obtain ⟨d3, d4⟩ := HC.out w2 k2); cases t))
              all_goals
                go_wp2
                exact H1.out _ (kr.out.trans k2)
            · by_cases ho : 1073741824 < x.od
              · go_upto_if 55 with (go_at_call 64; ((refine HM.out _ ?_); intro t w2 k2; (obtain ⟨d3, d4⟩ := HC.out w2 k2); cases t))
                all_goals
                  go_wp2
                  exact H1.out _ (kr.out.trans k2)
              · go_upto_if 55 with (go_at_call 64; ((refine HM.out _ ?_); intro t w2 k2; (obtain ⟨d3, d4⟩ := HC.out w2 k2); cases t))
                · go_wp2
                  exact H1.out _ (kr.out.trans k2)
                · go_wp2
                  exact ⟨⟨k + 1, by omega, by go_num, Lib.hid (kr.out.trans k2), Lib.hid (fun j y hj hy => by
                    rcases Nat.lt_or_ge j k with h | h
                    · exact hgd.out j y h hy
                    · obtain rfl : j = k := by omega
                      rw [HX.out] at hy; injection hy with hy; subst hy; omega)⟩, by simp [intOf]; omega⟩
      · obtain rfl : k = n := by omega
        go_wp2
        exact H2.out (by omega) (fun x hx => by
          obtain ⟨j, hj⟩ := List.getElem?_of_mem hx
          exact hgd.out j x (by rw [← HL.out]; exact (List.getElem?_eq_some_iff.1 hj).1) hj) _ kr.out
/-- Was a block written anew? -/
def stB (l : List PAct) (a : Int) : Bool := l.any (fun x => x.k == 8 && x.a == a)
set_option maxHeartbeats 2000000 in
theorem stale_any {A : Option Addr} {n c : Nat} {l : List PAct} (hr : Rd w [] A (l.flatMap PAct.vals)) (hl : l.length = n) (hn : n ≤ 1000) (a : Int) (h : ∀ w', Kp [] w w' → R (.returned (.bool (stB l a))) w') : Calls Try.prog 37 #[.slice A n c, .int .i64 a] w R := by
  have H := Lib.hid h
  have HL := Lib.hid hl
  have HR := Lib.hid hr
  clear h hl hr
  go_enter Try.func37, Try.ntmps37
  go_wp2
  go_loopw [5] (fun iv wr => ∃ k : Nat, k ≤ n ∧ iv = .int .i64 k ∧ Hid (Kp [] w wr) ∧ Hid (∀ j x, j < k → l[j]? = some x → (x.k == 8 && x.a == a) = false)) (fun iv _ => n - (intOf iv).toNat)
  case atStart => exact ⟨0, Nat.zero_le _, rfl, Lib.hid (Kp.refl _ _), Lib.hid (by omega)⟩
  case round =>
    obtain ⟨k, hk, rfl, kr, hgd⟩ := hrel
    by_cases hlt : k < n
    · obtain ⟨x, hx, hm⟩ := get_lt (l := l) (k := k) (by have := HL.out; omega)
      obtain ⟨b, off, rfl, _, hbl, hc⟩ := rd_at (HR.out.kp kr.out (by simp)) pavals_len (by omega) hx
      obtain ⟨c0, c1, _, _, _, _, _⟩ := pact_cells hc
      have HX := Lib.hid hx
      have HB : Hid ((x.k == 8 && x.a == a) = true → stB l a = true) := Lib.hid (fun hb => List.any_eq_true.2 ⟨x, hm, hb⟩)
      have HN : Hid ((x.k == 8 && x.a == a) = false → ∀ j y, j < k + 1 → l[j]? = some y → (y.k == 8 && y.a == a) = false) := Lib.hid (fun hb j y hj hy => by
        rcases Nat.lt_or_ge j k with h | h
        · exact hgd.out j y h hy
        · obtain rfl : j = k := by omega
          rw [HX.out] at hy; injection hy with hy; subst hy; exact hb)
      clear hc hx hm
      cases h8 : (x.k == 8) with
      | false =>
        have HN2 := Lib.hid (HN.out (by rw [h8]; rfl))
        clear HN HB
        go_wp2
        exact ⟨⟨k + 1, by omega, by go_num, kr, HN2⟩, by simp [intOf]; omega⟩
      | true =>
        cases ha : (x.a == a) with
        | false =>
          have HN2 := Lib.hid (HN.out (by rw [h8, ha]; rfl))
          clear HN HB
          go_wp2
          exact ⟨⟨k + 1, by omega, by go_num, kr, HN2⟩, by simp [intOf]; omega⟩
        | true =>
          have HH := Lib.hid (fun w' k' => rcast (H.out w' k') (congrArg Value.bool (HB.out (by rw [h8, ha]; rfl))))
          clear HN HB H
          go_wp2
          exact HH.out _ kr.out
    · obtain rfl : k = n := by omega
      have HH := Lib.hid (fun w' k' => rcast (H.out w' k') (congrArg Value.bool (show stB l a = false by
        rw [← Bool.not_eq_true]
        intro hc
        obtain ⟨x, hx, hb⟩ := List.any_eq_true.1 hc
        obtain ⟨j, hj⟩ := List.getElem?_of_mem hx
        have := hgd.out j x (by rw [← HL.out]; exact (List.getElem?_eq_some_iff.1 hj).1) hj
        rw [this] at hb; cases hb)))
      clear H
      go_wp2
      exact HH.out _ kr.out
theorem fill_set {l : List UInt8} (i : Nat) {v : Int} (h0 : 0 ≤ v) (h1 : v ≤ 255) : (bts l).set i (.int .u8 v) = bts (l.set i (UInt8.ofNat v.toNat)) := by
  have e : (Value.int .u8 v) = (fun c : UInt8 => Value.int .u8 c.toNat) (UInt8.ofNat v.toNat) := by
    simp only [UInt8.toNat_ofNat']
    congr 1
    omega
  unfold bts
  rw [e, List.map_set]
set_option maxHeartbeats 2000000 in
theorem fill_any (sd : Int) (h0 : 0 ≤ sd) (h1 : sd ≤ 255) (h : ∀ s w', Kp [] w w' → s.size = 256 → R (.returned (.string s)) w') : Calls Try.prog 40 #[.int .u8 sd, .int .i64 256] w R := by
  have H := Lib.hid h
  obtain ⟨i0, hi, hz0, hz1, hz2⟩ := info_parts (show (Try.prog.info? 5).map (fun i => (i.zero, i.size, i.bytes)) = some (some (.int .u8 0), 1, 1) by kernel_rfl)
  have hmk := fun W => run_make (P := Try.prog) W 44 5 i0 _ Try.underlying44 hi hz0 .i64 .i64 256 256 (by omega) (by omega) (by rw [hz2]; omega) (by omega)
  simp only [hz1] at hmk
  have hml : (madeCells #[Value.int .u8 0] 256).toList = bts (List.replicate 256 0) := by kernel_rfl
  have HML := Lib.hid hml
  clear h hi hz0 hz1 hz2 hml
  go_enter Try.func40, Try.ntmps40
  go_upto_region 2 with (fail)
  refine gen_worldK (fun W => ∃ g, w.heap.size = g ∧ Hid (Kp [] w W ∧ ∃ l : List UInt8, l.length = 256 ∧ Bk W g 5 (bts l))) ⟨_, rfl, Lib.hid ⟨(Kp.refl _ _).alloc _, List.replicate 256 0, by simp, (Bk.new' _ _ _).cast HML.out⟩⟩ ?_
  rintro W ⟨g, hg, hW⟩
  rw [hg]
  have hgw : w.heap.size ≤ g := by omega
  clear hmk HML hg
  go_wp2
  go_loopw [6] (fun iv wr => ∃ k : Nat, k ≤ 256 ∧ iv = .int .i64 k ∧ Hid (Kp [] w wr ∧ ∃ l : List UInt8, l.length = 256 ∧ Bk wr g 5 (bts l))) (fun iv _ => 256 - (intOf iv).toNat)
  case atStart => exact ⟨0, Nat.zero_le _, rfl, hW⟩
  case round =>
    obtain ⟨k, hk, rfl, kr⟩ := hrel
    by_cases hlt : k < 256
    · obtain ⟨k1, l, hl, bk⟩ := kr.out
      obtain ⟨v0, cx⟩ : ∃ v0 : Int, wr.cell? ⟨g, k, none⟩ = some (.int .u8 v0) := ⟨((l[k]'(by omega)).toNat : Int), by rw [bk.cell, bts_get, List.getElem?_eq_getElem (by omega)]; rfl⟩
      have fx := bk.frozen k
      obtain ⟨q, hq⟩ : ∃ q : Nat, k * k = q := ⟨_, rfl⟩
      have hqb : q ≤ 65025 := by rw [← hq]; exact Nat.mul_le_mul (by omega : k ≤ 255) (by omega : k ≤ 255)
      have hqq : (k : Int) * (k : Int) = (q : Int) := by rw [← hq]; simp
      have BK := Lib.hid (And.intro hl bk)
      clear hl bk hq
      go_wp2
      exact ⟨⟨k + 1, by omega, by go_num, Lib.hid ⟨k1.setCell (p := ⟨g, k, none⟩) (.inr hgw) _, _, by rw [List.length_set]; exact BK.out.1, (BK.out.2.set_ k _).cast (fill_set k (by omega) (by omega))⟩⟩, by simp [intOf]; omega⟩
    · obtain rfl : k = 256 := by omega
      obtain ⟨k1, l, hl, bk⟩ := kr.out
      have hcv := conv_bs (w := wr) (c := 256) (N := []) (Rd.of_bk bk (by simp)) hl
      go_wp2
      exact H.out _ _ k1 (by show l.toArray.size = 256; simpa using hl)
end
end Go.Proofs.Ythlmfjfkkndboaa
