/- The document's Same of two requests that are alike. -/
import Derived.Test.YtbgfcidklofcpaaDoorReqRf
namespace Go.Proofs.YtbgfcidklofcpaaDoor
open Go.RowKit Go.Shelf
set_option linter.unusedVariables false
set_option linter.unusedSimpArgs false
set_option maxRecDepth 100000

set_option maxHeartbeats 4000000 in
theorem rsame24_any {R : Ending → World → Prop} (r : Req) {A1 A2 : Option Addr} {c1 c2 : Nat} (w : World) (hr1 : Rd w [] A1 (r.fs.flatMap fldC)) (hr2 : Rd w [] A2 (r.fs.flatMap fldC)) (hn : r.fs.length ≤ 100000)
    (h : ∀ w', Kp [] w w' → R (.returned (.bool true)) w') :
    Calls Tryd.prog 17 #[.agg #[.string (S r.m), .string (S r.t), .int .i64 r.minor, .slice A1 r.fs.length c1, .bool r.close], .agg #[.string (S r.m), .string (S r.t), .int .i64 r.minor, .slice A2 r.fs.length c2, .bool r.close]] w R := by
  have H := Lib.hid h
  have HR1 := Lib.hid hr1
  have HR2 := Lib.hid hr2
  clear h hr1 hr2
  go_enter Tryd.func17, Tryd.ntmps17
  go_upto_region 1 with (fail)
  refine gen_world (fun W => Kp [] w W ∧ Bk W w.heap.size 24 (reqC r A1 c1) ∧ Bk W (w.heap.size + 1) 24 (reqC r A2 c2)) ⟨((Kp.refl _ _).alloc _).alloc _, ((Bk.new' _ _ _).alloc _).cast rfl, (Bk.newAt (by simp) _ _).cast rfl⟩ ?_
  rintro W ⟨kW, bW, bV⟩
  obtain ⟨g, hg⟩ : ∃ g, w.heap.size = g := ⟨_, rfl⟩
  obtain ⟨g', hg'⟩ : ∃ g', w.heap.size + 1 = g' := ⟨_, rfl⟩
  rw [hg'] at bV ⊢
  rw [hg] at bW ⊢
  obtain ⟨⟨p0, p1, p2, p3, p4⟩, _⟩ := bk5 bW
  obtain ⟨⟨q0, q1, q2, q3, q4⟩, _⟩ := bk5 bV
  have KW := Lib.hid kW
  have RW1 := Lib.hid (HR1.out.kp kW (by simp))
  have RW2 := Lib.hid (HR2.out.kp kW (by simp))
  clear kW bW bV hg hg'
  go_wp2
  go_loopw [5] (fun iv wr => ∃ k : Nat, k ≤ r.fs.length ∧ iv = .int .i64 k ∧ Kp [] W wr) (fun iv _ => r.fs.length - (intOf iv).toNat)
  case atStart => exact ⟨0, Nat.zero_le _, rfl, Kp.refl _ _⟩
  case round =>
    obtain ⟨k, hk, rfl, kr⟩ := hrel
    have p3' := (kr.cell (p := ⟨g, 3, none⟩) (World.block_lt_of_cell? W _ p3) (by simp)).trans p3
    have q3' := (kr.cell (p := ⟨g', 3, none⟩) (World.block_lt_of_cell? W _ q3) (by simp)).trans q3
    by_cases hlt : k < r.fs.length
    · obtain ⟨x, hx⟩ : ∃ x, r.fs[k]? = some x := ⟨_, List.getElem?_eq_getElem hlt⟩
      obtain ⟨b, off, rfl, _, hgl, hc⟩ := rd_at (RW1.out.kp kr (by simp)) fldC_len (by decide) hx
      have hc0 := hc 0 _ rfl
      have hc1 := hc 1 _ rfl
      rw [Nat.add_zero] at hc0
      obtain ⟨b', off', rfl, _, hgl', hc'⟩ := rd_at (RW2.out.kp kr (by simp)) fldC_len (by decide) hx
      have hd0 := hc' 0 _ rfl
      have hd1 := hc' 1 _ rfl
      rw [Nat.add_zero] at hd0
      clear hc hc' hx
      go_wp2
      go_quiet (fail)
      go_wp2
      exact ⟨⟨k + 1, by omega, by go_num, kr.drewN _⟩, by simp [intOf]; omega⟩
    · go_wp2
      exact H.out _ (KW.out.trans kr)
end Go.Proofs.YtbgfcidklofcpaaDoor
