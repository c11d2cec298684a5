/- The kernel laws' steps that came in (pantlerlaw09.Act), and far. KernSends walked. -/
import Derived.Test.YtedblbpmlbjnhaaGreatPD43
import Derived.Test.YtedblbpmlbjnhaaGreatPD42
namespace Go.Proofs.YtedblbpmlbjnhaaGreat
/-! ### The kernel laws' steps that came in (pantlerlaw09.Act), and far. -/
section
open Go.RowKit Go.Shelf Go.ChangeShapes Go.WideShapes Go.ChangeAt Go.Deep
set_option linter.unusedVariables false
set_option linter.unusedSimpArgs false
set_option maxRecDepth 100000

/-- A step. -/
structure KAct where
  k : Int
  c : Cl
  s : ByteArray
def KAct.vals (x : KAct) : List Value := .int .i64 x.k :: (x.c.vals ++ [.string x.s])
theorem kavals_len (x : KAct) : x.vals.length = 10 := rfl
structure KAct.ok (W : World) (x : KAct) : Prop where
  c : x.c.ok W
  s : x.s.size ≤ maxLen
section
variable {H : Type} {enc : TypeId × Value → H} {W : World}
theorem opn_kact : Opn enc Tryz.prog W 36 KAct.vals (KAct.ok W) := ⟨fun fuel cs x h => by
  obtain ⟨xs, n, _, _, hlen, hxl, hg⟩ := DataW.trod_struct Tryz.underlying36 h
  have hK : Tryz.prog.cellsOf 36 = 10 := by kernel_rfl
  have hI : Tryz.prog.cellsOf 3 = 1 := by kernel_rfl
  have hS : Tryz.prog.cellsOf 9 = 1 := by kernel_rfl
  have hC : Tryz.prog.cellsOf 34 = 8 := by kernel_rfl
  rw [hK] at hlen
  match cs, hlen, xs, hxl with
  | [c0, c1, c2, c3, c4, c5, c6, c7, c8, c9], _, [x0, x1, x2], hxl =>
    obtain ⟨m0, rfl, h0⟩ := fld_int hg hxl 0 rfl hI Tryz.underlying3 rfl
    obtain ⟨m2, rfl, h2⟩ := fld_string hg hxl 2 rfl hS Tryz.underlying9 rfl
    have g1 : DataW.trod enc Tryz.prog W 0 (fun _ => true) true n 34 (([Value.int .i64 m0, c1, c2, c3, c4, c5, c6, c7, c8, Value.string m2].drop 1).take (Tryz.prog.cellsOf 34)) = some x1 := hg 1 _ rfl
    rw [hC] at g1
    obtain ⟨c, ec, hc⟩ := opn_call.op _ _ _ g1
    refine ⟨⟨m0, c, m2⟩, ?_, hc, h2⟩
    have ec' : [c1, c2, c3, c4, c5, c6, c7, c8] = c.vals := ec
    simp only [KAct.vals, ← ec']
    rfl⟩
theorem opn_kacts : Opn enc Tryz.prog W 22 (Sin.vals (α := KAct)) (Sin.ok W KAct.vals (KAct.ok W)) :=
  opn_slice (K := 10) Tryz.underlying22 (by kernel_rfl) kavals_len opn_kact
end
def kfar (l : List KAct) : Bool := decide (100 < l.length) || l.any (fun x => farC x.c || decide (2000 < x.s.size))
section
variable {R : Ending → World → Prop} {w : World}
/-- The cells of a step. -/
theorem kact_cells {x : KAct} {W : World} {b o : Nat} (hc : ∀ j v, (x.vals)[j]? = some v → W.cell? ⟨b, o + j, none⟩ = some v) : W.cell? ⟨b, o, none⟩ = some (.int .i64 x.k) ∧ W.cell? ⟨b, o + 1, none⟩ = some (.int .i64 x.c.op) ∧ W.cell? ⟨b, o + 2, none⟩ = some (.int .i64 x.c.env) ∧ W.cell? ⟨b, o + 3, none⟩ = some (.int .i64 x.c.a) ∧ W.cell? ⟨b, o + 4, none⟩ = some (.int .i64 x.c.b) ∧ W.cell? ⟨b, o + 5, none⟩ = some (.int .i64 x.c.c) ∧ W.cell? ⟨b, o + 6, none⟩ = some (.string x.c.s) ∧ W.cell? ⟨b, o + 7, none⟩ = some (.slice x.c.p.A x.c.p.n x.c.p.c) ∧ W.cell? ⟨b, o + 8, none⟩ = some (.slice x.c.l.A x.c.l.n x.c.l.c) ∧ W.cell? ⟨b, o + 9, none⟩ = some (.string x.s) :=
  ⟨hc 0 _ rfl, hc 1 _ rfl, hc 2 _ rfl, hc 3 _ rfl, hc 4 _ rfl, hc 5 _ rfl, hc 6 _ rfl, hc 7 _ rfl, hc 8 _ rfl, hc 9 _ rfl⟩
set_option maxHeartbeats 2000000 in
theorem kfar_any {A : Option Addr} {n c : Nat} {l : List KAct} (hr : Rd w [] A (l.flatMap KAct.vals)) (hl : l.length = n) (hn : n ≤ 9223372036854775807)
    (h : ∀ w', Kp [] w w' → R (.returned (.bool (kfar l))) w') : Calls Tryz.prog 6 #[.slice A n c] w R := by
  have H := Lib.hid h
  have HL := Lib.hid hl
  have HR := Lib.hid hr
  clear h hl hr
  by_cases h100 : 100 < n
  · have hk : kfar l = true := by have := HL.out; simp [kfar]; omega
    rw [hk] at H
    clear hk
    go_enter Tryz.func6, Tryz.ntmps6
    go_wp2
    exact H.out _ (Kp.refl _ _)
  · go_enter Tryz.func6, Tryz.ntmps6
    go_wp2
    go_loopw [3] (fun iv wr => ∃ k : Nat, k ≤ n ∧ iv = .int .i64 k ∧ Hid (Kp [] w wr) ∧ Hid ((l.take k).any (fun x => farC x.c || decide (2000 < x.s.size)) = false)) (fun iv _ => n - (intOf iv).toNat)
    case atStart => exact ⟨0, Nat.zero_le _, rfl, Lib.hid (Kp.refl _ _), Lib.hid rfl⟩
    case round =>
      obtain ⟨k, hk, rfl, kr, hgd⟩ := hrel
      by_cases hlt : k < n
      · obtain ⟨x, hx, hm⟩ := get_lt (l := l) (k := k) (by have := HL.out; omega)
        obtain ⟨b, off, rfl, _, hbl, hc⟩ := rd_at (HR.out.kp kr.out (by simp)) kavals_len (by omega) hx
        obtain ⟨c0, c1, c2, c3, c4, c5, c6, c7, c8, c9⟩ := kact_cells hc
        have HX := Lib.hid hx
        have HC9 : Hid (∀ w', Kp [] wr w' → w'.cell? ⟨b, off + k * 10 + 9, none⟩ = some (.string x.s)) := Lib.hid (fun w' k' => (k'.cell (p := ⟨b, off + k * 10 + 9, none⟩) hbl (by simp)).trans c9)
        clear hc hx
        have HBAD : Hid ((farC x.c || decide (2000 < x.s.size)) = true → ∀ w', Kp [] w w' → R (.returned (.bool true)) w') := Lib.hid (fun hb w' k' => rcast (H.out w' k') (congrArg Value.bool (by
          have : l.any (fun x => farC x.c || decide (2000 < x.s.size)) = true := List.any_eq_true.2 ⟨x, hm, hb⟩
          simp [kfar, this])))
        cases hf : farC x.c with
        | true =>
          have HH := Lib.hid (HBAD.out (by simp [hf]))
          clear HBAD
          go_wp2_with (go_at_call 39; ((refine far09_any x.c _ ?_); rw [hf]; intro w2 k2))
          exact HH.out _ (kr.out.trans k2)
        | false =>
          by_cases hs : 2000 < x.s.size
          · have HH := Lib.hid (HBAD.out (by simp [hs]))
            clear HBAD
            go_wp2_with (go_at_call 39; ((refine far09_any x.c _ ?_); rw [hf]; intro w2 k2; have d9 := HC9.out w2 k2))
            exact HH.out _ (kr.out.trans k2)
          · go_wp2_with (go_at_call 39; ((refine far09_any x.c _ ?_); rw [hf]; intro w2 k2; have d9 := HC9.out w2 k2))
            exact ⟨⟨k + 1, by omega, by go_num, Lib.hid (kr.out.trans k2), Lib.hid (by
              have hk2 : k < l.length := (List.getElem?_eq_some_iff.1 HX.out).1
              have e : l[k] = x := (List.getElem?_eq_some_iff.1 HX.out).2
              rw [List.take_succ_eq_append_getElem hk2, e, List.any_append, hgd.out]
              simp [hf]; omega)⟩, by simp [intOf]; omega⟩
      · obtain rfl : k = n := by omega
        have HH := Lib.hid (fun w' k' => rcast (H.out w' k') (congrArg Value.bool (show kfar l = false by
          have h1 := hgd.out
          rw [← HL.out, List.take_length] at h1
          have h2 := HL.out
          simp only [kfar, h1, Bool.or_false, decide_eq_false_iff_not]; omega)))
        clear H
        go_wp2
        exact HH.out _ kr.out
end
end
/-! ### KernSends walked. -/
section
open Go.RowKit Go.Shelf
set_option linter.unusedVariables false
set_option linter.unusedSimpArgs false
set_option maxRecDepth 100000
section
variable {R : Ending → World → Prop} {w : World}
/-- A call of plain numbers. -/
def numC (op env : Int) : Kc := ⟨op, env, 0, 0, 0, none, 0, 0, [], none, 0, 0, [], none, 0, 0, []⟩
/-- The kernel of KernSends, step by step. -/
def ks1 : KS := { kz0 4 8 with fs := fs1 }
def ks2 (P : List UInt8) : KS := { kz0 4 8 with fs := [⟨1, 0, P⟩, fz, fz, fz] }
end
end
end Go.Proofs.YtedblbpmlbjnhaaGreat
