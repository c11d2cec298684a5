/- A call that came in (pantlerref09.Call), and the program's form of it (pantlerlaw09.Of). -/
import Derived.Test.YthlmfjfkkndboaaKn5
import Derived.Test.YthlmfjfkkndboaaGather
import Derived.Test.YthlmfjfkkndboaaOpen
namespace Go.Proofs.Ythlmfjfkkndboaa
open Go.RowKit Go.Shelf Go.ChangeShapes Go.WideShapes Go.ChangeAt Go.Deep
set_option linter.unusedVariables false
set_option linter.unusedSimpArgs false
set_option maxRecDepth 100000

/-- A step of a filter. -/
structure FOp where
  c : Int
  k : Int
  t : Int
  f : Int
def FOp.vals (o : FOp) : List Value := [.int .i64 o.c, .int .u32 o.k, .int .i64 o.t, .int .i64 o.f]
theorem ovals_len (o : FOp) : o.vals.length = 4 := rfl
theorem ovals_one (o : FOp) : ∀ u ∈ o.vals, u.oneCell' = true := by intro u hu; simp [FOp.vals] at hu; rcases hu with rfl | rfl | rfl | rfl <;> rfl
def i64B (n : Int) : Prop := -9223372036854775808 ≤ n ∧ n ≤ 9223372036854775807
structure FOp.ok (o : FOp) : Prop where
  c : i64B o.c
  k : 0 ≤ o.k ∧ o.k ≤ 4294967295
  t : i64B o.t
  f : i64B o.f
/-- A call. -/
structure Cl where
  op : Int
  env : Int
  a : Int
  b : Int
  c : Int
  s : ByteArray
  p : Sin FOp
  l : Sin Pc
def Cl.vals (x : Cl) : List Value := [.int .i64 x.op, .int .i64 x.env, .int .i64 x.a, .int .i64 x.b, .int .i64 x.c, .string x.s, .slice x.p.A x.p.n x.p.c, .slice x.l.A x.l.n x.l.c]
structure Cl.ok (W : World) (x : Cl) : Prop where
  op : i64B x.op
  env : i64B x.env
  a : i64B x.a
  b : i64B x.b
  c : i64B x.c
  s : x.s.size ≤ maxLen
  p : x.p.ok W FOp.vals FOp.ok
  l : x.l.ok W Pc.vals Pc.ok
theorem u32_bd {m : Int} (h : (Lit.int .u32 m).wf = true) : 0 ≤ m ∧ m ≤ 4294967295 := by
  simp [Lit.wf, IntKind.min, IntKind.max, IntKind.signed, IntKind.bits] at h
  omega
section
variable {H : Type} {enc : TypeId × Value → H} {W : World}
theorem top_agg {t base : Nat} {fs : Array Field} {α : Type} {vals : α → List Value} {ok : α → Prop} (ht : Try.prog.underlying t = some (.struct fs)) (O : Opn enc Try.prog W t vals ok) {v : Value} {d : DataW H} {p : List MemPlace}
    (hv : Value.okWide Try.prog W .any base t v) (h : DataW.Trod enc Try.prog W 0 (fun _ => true) true t v d p) : ∃ a, v = .agg (vals a).toArray ∧ ok a := by
  obtain ⟨cs, rfl, hsz⟩ := okWide_struct ht hv
  obtain ⟨fuel, hf⟩ := h
  obtain ⟨a, ha, hok⟩ := O.op _ _ _ hf
  refine ⟨a, ?_, hok⟩
  congr 1
  rw [← ha]
  simp [Value.cells]
end
end Go.Proofs.Ythlmfjfkkndboaa
