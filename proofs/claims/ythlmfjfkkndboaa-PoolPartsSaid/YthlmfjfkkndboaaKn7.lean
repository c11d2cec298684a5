/- pantlerlaw09.Of: the document's call as the program's. -/
import Derived.Test.YthlmfjfkkndboaaKn6
import Derived.Test.YthlmfjfkkndboaaStepA
import Derived.Test.YthlmfjfkkndboaaKa
import Derived.Deep.DeepCutAuto
import Derived.Deep.Cut
import Derived.Deep.RegionHeldLaw
namespace Go.Proofs.Ythlmfjfkkndboaa
open Go.RowKit Go.Shelf
set_option linter.unusedVariables false
set_option linter.unusedSimpArgs false
set_option maxRecDepth 100000

theorem elt_op : Elt Try.prog 76 172 (.agg #[.int .i64 0, .int .u32 0, .int .i64 0, .int .i64 0]) 4 32 := ⟨Try.underlying76, by kernel_rfl, rfl, by decide, by decide⟩
/-- A slice whose block is new. -/
def Fresh (B : Nat) (A : Option Addr) : Prop := ∀ b ∈ bks A, B ≤ b
/-- The program's call, in cells. -/
def kcC (x : Cl) (A5 : Option Addr) (c5 : Nat) (A6 : Option Addr) (n6 c6 : Nat) (A7 : Option Addr) (n7 c7 : Nat) : List Value :=
  [.int .i64 x.op, .int .i64 x.env, .int .i64 x.a, .int .i64 x.b, .int .i64 x.c, .slice A5 x.s.size c5, .slice A6 n6 c6, .slice A7 n7 c7]
theorem bk8 {w : World} {g tt : Nat} {a b c d e f k l : Value} (h : Bk w g tt [a, b, c, d, e, f, k, l]) : (w.cell? ⟨g, 0, none⟩ = some a ∧ w.cell? ⟨g, 1, none⟩ = some b ∧ w.cell? ⟨g, 2, none⟩ = some c ∧ w.cell? ⟨g, 3, none⟩ = some d ∧ w.cell? ⟨g, 4, none⟩ = some e ∧ w.cell? ⟨g, 5, none⟩ = some f ∧ w.cell? ⟨g, 6, none⟩ = some k ∧ w.cell? ⟨g, 7, none⟩ = some l) :=
  ⟨h.cell 0, h.cell 1, h.cell 2, h.cell 3, h.cell 4, h.cell 5, h.cell 6, h.cell 7⟩
theorem bk8f {w : World} {g tt : Nat} {a b c d e f k l : Value} (h : Bk w g tt [a, b, c, d, e, f, k, l]) : (w.frozen? ⟨g, 0, none⟩ = false ∧ w.frozen? ⟨g, 1, none⟩ = false ∧ w.frozen? ⟨g, 2, none⟩ = false ∧ w.frozen? ⟨g, 3, none⟩ = false ∧ w.frozen? ⟨g, 4, none⟩ = false ∧ w.frozen? ⟨g, 5, none⟩ = false ∧ w.frozen? ⟨g, 6, none⟩ = false ∧ w.frozen? ⟨g, 7, none⟩ = false) :=
  ⟨h.frozen 0, h.frozen 1, h.frozen 2, h.frozen 3, h.frozen 4, h.frozen 5, h.frozen 6, h.frozen 7⟩
theorem Bk.bytesW {w : World} {g t : Nat} {cs : List Value} (h : Bk w g t cs) (e : Nat) (s : ByteArray) : Bk (Lib.bytesWorld w e s) g t cs := h.kp ((Kp.refl [] w).bytesWorld e s) (by simp)
def kz : List Value := [.int .i64 0, .int .i64 0, .int .i64 0, .int .i64 0, .int .i64 0, .slice none 0 0, .slice none 0 0, .slice none 0 0]
theorem Bk.at_ {w : World} {g g' t : Nat} {cs : List Value} (h : Bk w g t cs) (e : g = g') : Bk w g' t cs := e ▸ h
theorem nb_a {V w7 : World} {cs : Array Value} {t : Nat} (k7 : Kp [] (V.alloc (.cells cs t)) w7) : Bk w7 V.heap.size t cs.toList := (Bk.newAt rfl _ _).kp k7 (by simp)
theorem nb_ad {V w7 : World} {cs : Array Value} {t : Nat} (k7 : Kp [] (V.alloc (.cells cs t)).drew w7) : Bk w7 V.heap.size t cs.toList := Bk.kp (w := (V.alloc (.cells cs t)).drew) (Bk.newAt (w := V) rfl _ _) k7 (by simp)
theorem nb_b {V V' w7 : World} {cs : Array Value} {t : Nat} (k7 : Kp [] V' w7) (k : Kp [] (V.alloc (.cells cs t)).drew V') : Bk w7 V.heap.size t cs.toList := nb_ad (k.trans k7)
theorem bk8set {W : World} {g t : Nat} {cs : List Value} (h : Bk W g t kz) (a b c d e f k l : Value) : Bk ((((((((W.setCell ⟨g, 0, none⟩ a).setCell ⟨g, 1, none⟩ b).setCell ⟨g, 2, none⟩ c).setCell ⟨g, 3, none⟩ d).setCell ⟨g, 4, none⟩ e).setCell ⟨g, 5, none⟩ f).setCell ⟨g, 6, none⟩ k).setCell ⟨g, 7, none⟩ l) g t [a, b, c, d, e, f, k, l] ∧
    Kp [g] W ((((((((W.setCell ⟨g, 0, none⟩ a).setCell ⟨g, 1, none⟩ b).setCell ⟨g, 2, none⟩ c).setCell ⟨g, 3, none⟩ d).setCell ⟨g, 4, none⟩ e).setCell ⟨g, 5, none⟩ f).setCell ⟨g, 6, none⟩ k).setCell ⟨g, 7, none⟩ l) :=
  ⟨((((((((h.set_ 0 a).set_ 1 b).set_ 2 c).set_ 3 d).set_ 4 e).set_ 5 f).set_ 6 k).set_ 7 l).cast rfl, by repeat (first | with_reducible exact Kp.refl _ _ | with_reducible refine Kp.setCell ?_ (.inl (by simp)) _)⟩
/-- The conversion of a string to bytes, its world a letter. -/
theorem conv_letter (s : ByteArray) : ∃ (bw : World → World) (cw : World → Nat), (∀ W, (convert 9 44 (.string s)).run Try.prog W = .ok (.slice (some ⟨W.heap.size, 0, none⟩) s.size (cw W)) (bw W)) ∧ (∀ W, (bw W).heap.size = W.heap.size + 1) ∧
    (∀ (S : List Nat) (a w : World), Kp S a w → Kp S a (bw w)) ∧ (∀ (w : World) (b : Nat), b = w.heap.size → Tb (bw w) 5 (some ⟨b, 0, none⟩) (bts s.data.toList)) :=
  ⟨fun W => Lib.bytesWorld W 5 s, fun W => grownCap W s.size 0 5, fun W => conv_sb W s, fun W => Lib.bytesWorld_size _ _ _, fun S a w k => k.bytesWorld _ _, fun w b hb => Tb.fresh w hb⟩
end Go.Proofs.Ythlmfjfkkndboaa
