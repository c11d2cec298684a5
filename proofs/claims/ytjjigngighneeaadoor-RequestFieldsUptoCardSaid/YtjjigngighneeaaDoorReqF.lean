/- The walks of package request: a parser. -/
import Derived.Test.YtjjigngighneeaaDoorReqD
import Derived.Test.YtjjigngighneeaaDoorBytes
import Derived.BigRegion
namespace Go.Proofs.YtjjigngighneeaaDoor
open Go.RowKit Go.Shelf
set_option linter.unusedVariables false
set_option linter.unusedSimpArgs false
set_option maxRecDepth 100000

/-- A parser's block. -/
def PsC (b : List UInt8) (ov : Bool) : List Value := [.string (S b), .bool ov]
def Ps (w : World) (g : Nat) (b : List UInt8) (ov : Bool) : Prop := Bk w g 99 (PsC b ov)
theorem Ps.cells {w : World} {g : Nat} {b : List UInt8} {ov : Bool} (h : Ps w g b ov) : w.cell? ⟨g, 0, none⟩ = some (.string (S b)) ∧ w.cell? ⟨g, 1, none⟩ = some (.bool ov) ∧ w.frozen? ⟨g, 0, none⟩ = false ∧ w.frozen? ⟨g, 1, none⟩ = false :=
  ⟨Bk.cell h 0, Bk.cell h 1, Bk.frozen h 0, Bk.frozen h 1⟩
theorem new24_any {R : Ending → World → Prop} (w : World) (h : ∀ g w', w.heap.size ≤ g → Ps w' g [] false → Kp [] w w' → R (.returned (.pointer (some ⟨g, 0, none⟩))) w') : Calls Tryd.prog 26 #[] w R := by
  have H := Lib.hid h
  clear h
  go_enter Tryd.func26, Tryd.ntmps26
  go_wp2
  exact H.out _ _ (Nat.le_refl _) ((Bk.new' w _ _).cast rfl) ((Kp.refl _ _).alloc _)
theorem held24_any {R : Ending → World → Prop} {w : World} {g : Nat} {b : List UInt8} {ov : Bool} (hp : Ps w g b ov) (hl : b.length ≤ 1000000) (h : R (.returned (.int .i64 (b.length : Nat))) w) : Calls Tryd.prog 29 #[.pointer (some ⟨g, 0, none⟩)] w R := by
  have H := Lib.hid h
  obtain ⟨c0, c1, f0, f1⟩ := hp.cells
  clear h
  go_enter Tryd.func29, Tryd.ntmps29
  go_wp2
  exact H.out
set_option maxHeartbeats 2000000 in
theorem feed_any {R : Ending → World → Prop} {w : World} {g : Nat} {b : List UInt8} {ov : Bool} (hp : Ps w g b ov) {A : Option Addr} {n c : Nat} (x : List UInt8) (hx : Rd w [] A (bts x)) (hn : x.length = n) (hl : b.length + n ≤ 1000000)
    (h : ∀ w', Ps w' g (if ov then b else b ++ x) ov → Kp [g] w w' → R (.returned (.tuple #[])) w') : Calls Tryd.prog 27 #[.pointer (some ⟨g, 0, none⟩), .slice A n c] w R := by
  have H := Lib.hid h
  obtain ⟨c0, c1, f0, f1⟩ := hp.cells
  clear h
  cases ov
  · have hcv := conv_bs (c := c) hx hn
    go_enter Tryd.func27, Tryd.ntmps27
    have hcv1 := conv_bs (w := w.drew) (c := c) (show Rd w.drew [] A (bts x) from hx) hn
    have hls : ¬ (9223372036854775807 < b.length + x.length) := by omega
    go_wp2
    go_region
    go_wp2
    first | go_end0 | refine bodyPost_ret (results_none rfl _ _ _) rfl ?_
    exact H.out _ ((Bk.set_ hp 0 _).cast rfl) (((Kp.refl _ _).setCell (.inl (by simp)) _).drew)
  · go_enter Tryd.func27, Tryd.ntmps27
    go_wp2
    first | go_end0 | refine bodyPost_ret (results_none rfl _ _ _) rfl ?_
    exact H.out _ hp (Kp.refl _ _)
end Go.Proofs.YtjjigngighneeaaDoor
