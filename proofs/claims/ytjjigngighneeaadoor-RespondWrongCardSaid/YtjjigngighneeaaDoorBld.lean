/- A strings.Builder embedded in a struct of one field: copyCheck, WriteString, String (lines of the kit's template, turned). -/
import Derived.Test.YtjjigngighneeaaDoorStr
import Derived.Lib.Builder
import Derived.Lib.AppendStr
import Derived.Shelf.Strings.Builder1
import Derived.BigQuiet
import Derived.BigRegion
import Derived.Deep.DeepBigQuietO
namespace Go.Proofs.YtjjigngighneeaaDoor
open Go.RowKit
set_option linter.unusedVariables false
set_option linter.unusedSimpArgs false
set_option maxRecDepth 100000

theorem bsize : ∃ j : TypeInfo, Tryd.prog.info? 105 = some j ∧ j.size ≠ 0 := by
  have h : (Tryd.prog.info? 105).map (fun j => decide (j.size ≠ 0)) = some true := by kernel_rfl
  obtain ⟨j, hj, hs⟩ := Option.map_eq_some_iff.1 h
  exact ⟨j, hj, by simpa using hs⟩
theorem blies : liesAt Tryd.prog Tryd.prog.depth 126 (2 / Tryd.prog.cellsOf 105) 0 105 1 = true := by kernel_rfl
theorem bbyte : (Tryd.prog.info? 5).map (fun i => (i.zero, i.size, i.bytes)) = some (some (.int .u8 0), 1, 1) := by kernel_rfl
def BlA (B b : Nat) (p : Value) (bs : List Value) (w : World) : Prop := Lib.BuilderAt 126 5 B b p bs w
def BlI (B b : Nat) (bs : List Value) (w : World) : Prop := Lib.IsBuilder 126 5 B b bs w
set_option maxHeartbeats 1000000 in
theorem ccheck_used (b : Nat) (w : World) (h0 : w.cell? ⟨b, 0, none⟩ = some (.pointer (some ⟨b, 0, none⟩))) :
    Calls Tryd.prog 78 #[.pointer (some ⟨b, 0, none⟩)] w fun e w' => e = .returned (.tuple #[]) ∧ w' = w := by
  obtain ⟨j, hj, _⟩ := bsize
  go_enter Tryd.func78, Tryd.ntmps78
  go_wp2
  rw [Lib.run_neq_ptr_same w _ Tryd.underlying103 hj]
  go_wp2
  go_end0
  exact ⟨rfl, rfl⟩
set_option maxHeartbeats 1000000 in
theorem ccheck_fresh (b : Nat) (w : World) (h0 : w.cell? ⟨b, 0, none⟩ = some (.pointer none)) (hsh : w.shape? b = some (126, 2)) (hfz : w.frozen? ⟨b, 0, none⟩ = false) :
    Calls Tryd.prog 78 #[.pointer (some ⟨b, 0, none⟩)] w fun e w' => e = .returned (.tuple #[]) ∧ w' = w.setCell ⟨b, 0, none⟩ (.pointer (some ⟨b, 0, none⟩)) := by
  obtain ⟨j, hj, hjs⟩ := bsize
  go_enter Tryd.func78, Tryd.ntmps78
  go_wp2
  rw [Lib.run_to_unsafe w ⟨b, 0, none⟩ Tryd.underlying103 Tryd.underlying160 hj hjs hsh (Nat.zero_lt_succ 1)]
  simp only [Result.andThen]
  rw [Oper.upon_value]
  go_wp2
  rw [run_callFunc_extern Tryd.func101 (by kernel_rfl) (by kernel_rfl) (by kernel_rfl) (e := Extern.AbiNoEscape.same) (by kernel_rfl)]
  rw [Lib.run_noEscape]
  simp only [Result.andThen]
  rw [Oper.upon_value]
  go_wp2
  rw [Lib.run_from_unsafe w ⟨b, 0, none⟩ Tryd.underlying160 Tryd.underlying103 hj hsh blies]
  simp only [Result.andThen]
  rw [Oper.upon_value]
  go_wp2
  go_end0
  exact ⟨rfl, rfl⟩
theorem ccheck_any (B b : Nat) (bs : List Value) (w : World) (h : BlI B b bs w) :
    Calls Tryd.prog 78 #[.pointer (some ⟨b, 0, none⟩)] w fun e w' => e = .returned (.tuple #[]) ∧ (BlA B b (.pointer (some ⟨b, 0, none⟩)) bs w' ∧ Below B w w') := by
  rcases h with h | h
  · refine (ccheck_fresh b w h.cell0 h.shape h.frozen0).mono ?_
    rintro e w' ⟨rfl, rfl⟩
    exact ⟨rfl, h.used _, (Below.refl B w).setCell (p := ⟨b, 0, none⟩) h.1 _⟩
  · refine (ccheck_used b w h.cell0).mono ?_
    rintro e w' ⟨rfl, rfl⟩
    exact ⟨rfl, h, Below.refl B _⟩
set_option maxHeartbeats 2000000 in
theorem bwrite_any (B b : Nat) (bs : List Value) (s : ByteArray) (w : World) (h : BlI B b bs w) (hlen : bs.length + s.size ≤ 140737488355328) (hBw : B ≤ w.heap.size) :
    Calls Tryd.prog 51 #[.pointer (some ⟨b, 0, none⟩), .string s] w fun e w' => e = .returned (.tuple #[.int .i64 s.size, .nilIface]) ∧ (BlA B b (.pointer (some ⟨b, 0, none⟩)) (bs ++ Lib.strCells s) w' ∧ Below B w w') := by
  obtain ⟨i0, hi, hz0, hz1, hz2⟩ := info_parts bbyte
  go_enter Tryd.func51, Tryd.ntmps51
  go_wp2_with (go_at_call 78; (refine (ccheck_any B b bs _ h).mono ?_))
  rintro e w1 ⟨rfl, h1, hb1⟩
  obtain ⟨hB, v, hbk, hown, hne⟩ := h1
  have c0 : w1.cell? ⟨b, 0, none⟩ = some (.pointer (some ⟨b, 0, none⟩)) := by rw [Lib.cell_of_heap hbk]; rfl
  have c1 : w1.cell? ⟨b, 1, none⟩ = some v := by rw [Lib.cell_of_heap hbk]; rfl
  go_wp2_with (at_builtin; refine Lib.wpList_append_own_string _ rfl _ _ 73 9 rfl B 5 i0 Tryd.underlying73 Tryd.underlying9 hi hz0 hz1 hz2 _ _ _ rfl hown s rfl ?c3 ?c4 ?c5 ?_)
  case c3 => unfold maxLen; omega
  case c4 => omega
  case c5 => have := hb1.size; omega
  intro v' w2 hown' hgrow _
  have hlt : b < w1.heap.size := by
    rcases Nat.lt_or_ge b w1.heap.size with h' | h'
    · exact h'
    · simp [Array.getElem?_eq_none h'] at hbk
  have hb2 : w2.heap[b]? = some (.cells #[.pointer (some ⟨b, 0, none⟩), v] 126 (0, 0)) := by
    rw [hgrow.block b hlt (fun e => hne e.symm)]
    exact hbk
  have d0 : w2.cell? ⟨b, 0, none⟩ = some (.pointer (some ⟨b, 0, none⟩)) := by rw [Lib.cell_of_heap hb2]; rfl
  have d1 : w2.cell? ⟨b, 1, none⟩ = some v := by rw [Lib.cell_of_heap hb2]; rfl
  have f1 : w2.frozen? ⟨b, 1, none⟩ = false := Lib.frozen_of_heap hb2 1
  obtain ⟨ao, n', cap, rfl⟩ : ∃ ao n' cap, v' = .slice ao n' cap := by
    rcases hown'.2 with ⟨hv, _⟩ | ⟨g, cap, cur, hv, _⟩
    · exact ⟨_, _, _, hv⟩
    · exact ⟨_, _, _, hv⟩
  go_wp2
  go_ret2
  refine ⟨rfl, ?_, ?_⟩
  · exact Lib.BuilderAt.put (T := 126) (e := 5) hB hb2 (bs' := bs ++ Lib.strCells s) (by simpa [Lib.strCells_length] using hown') (by decide)
  · exact (hb1.grown hgrow (by have := hb1.size; omega) (fun k hk => (hown.lt k hk).1)).setCell (p := ⟨b, 1, none⟩) hB _
set_option maxHeartbeats 1000000 in
theorem bstring_any (B b : Nat) (l : List UInt8) (w : World) (h : BlI B b (Lib.byteCells l) w) (h0 : l ≠ []) :
    Calls Tryd.prog 52 #[.pointer (some ⟨b, 0, none⟩)] w fun e w' => e = .returned (.string ⟨l.toArray⟩) ∧ Below B w w' := by
  obtain ⟨p, hB, v, hbk, hown, hne⟩ : ∃ p, BlA B b p (Lib.byteCells l) w := by
    rcases h with h | h
    · exact ⟨_, h⟩
    · exact ⟨_, h⟩
  have hl0 : l.length ≠ 0 := by simpa using h0
  rw [Lib.byteCells_length] at hown
  obtain ⟨g, cap, cur, rfl, hbg, hg, hnc, hcm, hcs, htake⟩ : ∃ g cap cur, v = .slice (some ⟨g, 0, none⟩) l.length cap ∧ B ≤ g ∧ w.heap[g]? = some (.cells cur 5 (0, 0)) ∧ l.length ≤ cap ∧ cap ≤ maxLen ∧ cur.size = cap * 1 ∧ cur.toList.take (l.length * 1) = Lib.byteCells l := by
    rcases hown.2 with ⟨_, hz⟩ | ⟨g, cap, cur, hv, r⟩
    · exact absurd hz hl0
    · exact ⟨g, cap, cur, hv, r⟩
  have c1 : w.drew.cell? ⟨b, 1, none⟩ = some (.slice (some ⟨g, 0, none⟩) l.length cap) := by
    have : w.drew.heap[b]? = some (.cells #[p, .slice (some ⟨g, 0, none⟩) l.length cap] 126 (0, 0)) := hbk
    rw [Lib.cell_of_heap this]; rfl
  have hSD : (Builtin.unsafeSliceData_ #[73] 139 #[.slice (some ⟨g, 0, none⟩) l.length cap]).run Tryd.prog w.drew = .ok (.pointer (some ⟨g, 0, none⟩)) w.drew :=
    Lib.run_unsafeSliceData_row _ _ _ _ _ _ (by omega)
  have hUS : (Builtin.unsafeString_ #[139, 3] 9 #[.pointer (some ⟨g, 0, none⟩), .int .i64 l.length]).run Tryd.prog w.drew = .ok (.string ⟨l.toArray⟩) (w.drew.freeze ⟨g, 0, none⟩ l.length) := by
    refine Lib.run_unsafeString_row w.drew 139 3 9 5 Tryd.underlying139 (by kernel_rfl) g cur.size (by have hg' : w.drew.heap[g]? = some (.cells cur 5 (0, 0)) := hg; simp [World.shape?, hg']) l h0 (by omega) (by unfold maxLen at hcm; omega) ?_
    intro j x hx
    have := hown.cells (g := g) rfl j (.int .u8 x.toNat) (by simp [Lib.byteCells, hx])
    exact this
  have mixed : Tryd.prog.follows .mixedOrders = true := by kernel_rfl
  go_enter Tryd.func52, Tryd.ntmps52
  go_wp2
  go_region_o
  all_goals (go_wp2; go_ret; exact ⟨rfl, Lib.below_freeze (Below.drew (Below.refl B w)) (p := ⟨g, 0, none⟩) hbg _⟩)
/-- The builder as a list of bytes, over the world that was when the call began. -/
structure Bl (w0 W : World) (b : Nat) (l : List UInt8) : Prop where
  kp : Kp [] w0 W
  is : BlI w0.heap.size b (Lib.byteCells l) W
theorem Bl.new {w0 W : World} (k : Kp [] w0 W) (h : W.heap.size = w0.heap.size) : Bl w0 (W.alloc (.cells #[.pointer none, .slice none 0 0] 126)) W.heap.size [] :=
  ⟨k.alloc _, by unfold BlI; rw [← h]; exact Lib.fresh_isBuilder _ _ W⟩
theorem strc (l : List UInt8) : Lib.strCells (S l) = Lib.byteCells l := by unfold Lib.strCells Lib.byteCells; simp [S]
theorem bytec_app (a b : List UInt8) : Lib.byteCells a ++ Lib.byteCells b = Lib.byteCells (a ++ b) := by simp [Lib.byteCells]
theorem bw_any {R : Ending → World → Prop} {w0 W : World} {b : Nat} {l s : List UInt8} (h : Bl w0 W b l) (hl : l.length + s.length ≤ 100000000) (hk : ∀ W', Bl w0 W' b (l ++ s) → R (.returned (.tuple #[.int .i64 s.length, .nilIface])) W') :
    Calls Tryd.prog 51 #[.pointer (some ⟨b, 0, none⟩), .string (S s)] W R := by
  have e0 : (Lib.byteCells l).length = l.length := Lib.byteCells_length l
  refine (bwrite_any w0.heap.size b _ (S s) W h.is (by rw [e0, S_size]; omega) h.kp.size).mono ?_
  rintro e W' ⟨rfl, hA, hB⟩
  rw [S_size]
  refine hk W' ⟨⟨hB.os.trans h.kp.os, hB.tape.trans h.kp.tape, hB.output.trans h.kp.output, Nat.le_trans h.kp.size hB.size, fun i hi hn => (hB.block i hi).trans (h.kp.block i hi hn)⟩, .inr ?_⟩
  · rw [strc, bytec_app] at hA; exact hA
theorem bs_any {R : Ending → World → Prop} {w0 W : World} {b : Nat} {l : List UInt8} (h : Bl w0 W b l) (h0 : l ≠ []) (hk : ∀ W', Kp [] w0 W' → R (.returned (.string (S l))) W') :
    Calls Tryd.prog 52 #[.pointer (some ⟨b, 0, none⟩)] W R := by
  refine (bstring_any w0.heap.size b l W h.is h0).mono ?_
  rintro e W' ⟨rfl, hB⟩
  exact hk W' ⟨hB.os.trans h.kp.os, hB.tape.trans h.kp.tape, hB.output.trans h.kp.output, Nat.le_trans h.kp.size hB.size, fun i hi hn => (hB.block i hi).trans (h.kp.block i hi hn)⟩
theorem Bl.step {w0 W W' : World} {b : Nat} {l : List UInt8} (h : Bl w0 W b l) (k : Kp [] W W') : Bl w0 W' b l := by
  refine ⟨h.kp.trans k, ?_⟩
  have hs := h.kp.size
  have key : ∀ p, BlA w0.heap.size b p (Lib.byteCells l) W → BlA w0.heap.size b p (Lib.byteCells l) W' := by
    rintro p ⟨hB, v, hbk, hown, hne⟩
    refine ⟨hB, v, ?_, ?_, hne⟩
    · rw [k.block b ?_ (by simp)]; exact hbk
      rcases Nat.lt_or_ge b W.heap.size with h' | h'
      · exact h'
      · simp [Array.getElem?_eq_none h'] at hbk
    · refine ⟨hown.1, ?_⟩
      rcases hown.2 with hn | ⟨g, cap, cur, hv, hb, hg, rest⟩
      · exact .inl hn
      · refine .inr ⟨g, cap, cur, hv, hb, ?_, rest⟩
        rw [k.block g (Array.getElem?_eq_some_iff.1 hg).1 (by simp)]
        exact hg
  rcases h.is with h1 | h1
  · exact .inl (key _ h1)
  · exact .inr (key _ h1)
set_option maxHeartbeats 1000000 in
/-- A line of a head, if it is so. -/
theorem add_any {R : Ending → World → Prop} {w0 W : World} {b : Nat} {l n v : List UInt8} (is : Bool) (h : Bl w0 W b l) (hl : l.length ≤ 100000) (hn : n.length ≤ 1000) (hv : v.length ≤ 100000)
    (hk : ∀ W', Bl w0 W' b (if is then l ++ (n ++ 58 :: 32 :: (v ++ [13, 10])) else l) → R (.returned (.tuple #[])) W') :
    Calls Tryd.prog 65 #[.pointer (some ⟨b, 0, none⟩), .bool is, .string (S n), .string (S v)] W R := by
  have H := Lib.hid hk
  have B := Lib.hid h
  clear hk h
  cases is
  · go_enter Tryd.func65, Tryd.ntmps65
    go_wp2
    go_end0
    exact H.out _ B.out
  · go_enter Tryd.func65, Tryd.ntmps65
    go_wp2_with (go_at_call 51; ((refine bw_any B.out (by simp only [List.length_append, List.length_cons, List.length_nil]; omega) ?_); intro W1 h1))
    go_end0
    exact H.out _ h1
end Go.Proofs.YtjjigngighneeaaDoor
