/- A call that came in (pantlerref09.Call), and the program's form of it (pantlerlaw09.Of). -/
import Derived.Test.YtogipajanbgenaaKn5
import Derived.Test.YtogipajanbgenaaGather
import Derived.Test.YtogipajanbgenaaOpen
namespace Go.Proofs.Ytogipajanbgenaa
open Go.RowKit Go.Shelf Go.ChangeShapes Go.WideShapes Go.ChangeAt Go.Deep
set_option linter.unusedVariables false
set_option linter.unusedSimpArgs false
set_option maxRecDepth 100000

/-- A step of a filter. -/
structure FOp where
  c : Int
  k : Int
  t : Int
  f : Int
def FOp.vals (o : FOp) : List Value := [.int .i64 o.c, .int .u32 o.k, .int .i64 o.t, .int .i64 o.f]
theorem ovals_len (o : FOp) : o.vals.length = 4 := rfl
theorem ovals_one (o : FOp) : ∀ u ∈ o.vals, u.oneCell' = true := by intro u hu; simp [FOp.vals] at hu; rcases hu with rfl | rfl | rfl | rfl <;> rfl
def i64B (n : Int) : Prop := -9223372036854775808 ≤ n ∧ n ≤ 9223372036854775807
structure FOp.ok (o : FOp) : Prop where
  c : i64B o.c
  k : 0 ≤ o.k ∧ o.k ≤ 4294967295
  t : i64B o.t
  f : i64B o.f
/-- A call. -/
structure Cl where
  op : Int
  env : Int
  a : Int
  b : Int
  c : Int
  s : ByteArray
  p : Sin FOp
  l : Sin Pc
def Cl.vals (x : Cl) : List Value := [.int .i64 x.op, .int .i64 x.env, .int .i64 x.a, .int .i64 x.b, .int .i64 x.c, .string x.s, .slice x.p.A x.p.n x.p.c, .slice x.l.A x.l.n x.l.c]
structure Cl.ok (W : World) (x : Cl) : Prop where
  op : i64B x.op
  env : i64B x.env
  a : i64B x.a
  b : i64B x.b
  c : i64B x.c
  s : x.s.size ≤ maxLen
  p : x.p.ok W FOp.vals FOp.ok
  l : x.l.ok W Pc.vals Pc.ok
theorem u32_bd {m : Int} (h : (Lit.int .u32 m).wf = true) : 0 ≤ m ∧ m ≤ 4294967295 := by
  simp [Lit.wf, IntKind.min, IntKind.max, IntKind.signed, IntKind.bits] at h
  omega
section
variable {H : Type} {enc : TypeId × Value → H} {W : World}
theorem opn_fop : Opn enc Try.prog W 148 FOp.vals FOp.ok := ⟨fun fuel cs x h => by
  obtain ⟨xs, n, _, _, hlen, hxl, hg⟩ := DataW.trod_struct Try.underlying148 h
  have hK : Try.prog.cellsOf 148 = 4 := by kernel_rfl
  have hI : Try.prog.cellsOf 3 = 1 := by kernel_rfl
  have hU : Try.prog.cellsOf 80 = 1 := by kernel_rfl
  rw [hK] at hlen
  match cs, hlen with
  | [c0, c1, c2, c3], _ =>
    obtain ⟨m0, rfl, h0⟩ := fld_int hg hxl 0 rfl hI Try.underlying3 rfl
    obtain ⟨m1, rfl, h1⟩ := fld_int hg hxl 1 rfl hU Try.underlying80 rfl
    obtain ⟨m2, rfl, h2⟩ := fld_int hg hxl 2 rfl hI Try.underlying3 rfl
    obtain ⟨m3, rfl, h3⟩ := fld_int hg hxl 3 rfl hI Try.underlying3 rfl
    exact ⟨⟨m0, m1, m2, m3⟩, rfl, i64_bd h0, u32_bd h1, i64_bd h2, i64_bd h3⟩⟩
theorem opn_fops : Opn enc Try.prog W 65 (Sin.vals (α := FOp)) (Sin.ok W FOp.vals FOp.ok) :=
  opn_slice (K := 4) Try.underlying65 (by kernel_rfl) (fun _ => rfl) opn_fop
theorem opn_call : Opn enc Try.prog W 67 Cl.vals (Cl.ok W) := ⟨fun fuel cs x h => by
  obtain ⟨xs, n, _, _, hlen, hxl, hg⟩ := DataW.trod_struct Try.underlying67 h
  have hK : Try.prog.cellsOf 67 = 8 := by kernel_rfl
  have hI : Try.prog.cellsOf 3 = 1 := by kernel_rfl
  have hS : Try.prog.cellsOf 9 = 1 := by kernel_rfl
  have hP : Try.prog.cellsOf 65 = 1 := by kernel_rfl
  have hL : Try.prog.cellsOf 37 = 1 := by kernel_rfl
  rw [hK] at hlen
  match cs, hlen with
  | [c0, c1, c2, c3, c4, c5, c6, c7], _ =>
    obtain ⟨m0, rfl, h0⟩ := fld_int hg hxl 0 rfl hI Try.underlying3 rfl
    obtain ⟨m1, rfl, h1⟩ := fld_int hg hxl 1 rfl hI Try.underlying3 rfl
    obtain ⟨m2, rfl, h2⟩ := fld_int hg hxl 2 rfl hI Try.underlying3 rfl
    obtain ⟨m3, rfl, h3⟩ := fld_int hg hxl 3 rfl hI Try.underlying3 rfl
    obtain ⟨m4, rfl, h4⟩ := fld_int hg hxl 4 rfl hI Try.underlying3 rfl
    obtain ⟨m5, rfl, h5⟩ := fld_string hg hxl 5 rfl hS Try.underlying9 rfl
    obtain ⟨y6, hy6⟩ := fld hg hxl 6 rfl hP rfl
    obtain ⟨p, ep, hp⟩ := opn_fops.op _ _ _ hy6
    obtain ⟨y7, hy7⟩ := fld hg hxl 7 rfl hL rfl
    obtain ⟨l, el, hl⟩ := opn_pcs.op _ _ _ hy7
    simp [Sin.vals] at ep el
    subst ep; subst el
    exact ⟨⟨m0, m1, m2, m3, m4, m5, p, l⟩, rfl, i64_bd h0, i64_bd h1, i64_bd h2, i64_bd h3, i64_bd h4, h5, hp, hl⟩⟩
theorem top_agg {t base : Nat} {fs : Array Field} {α : Type} {vals : α → List Value} {ok : α → Prop} (ht : Try.prog.underlying t = some (.struct fs)) (O : Opn enc Try.prog W t vals ok) {v : Value} {d : DataW H} {p : List MemPlace}
    (hv : Value.okWide Try.prog W .any base t v) (h : DataW.Trod enc Try.prog W 0 (fun _ => true) true t v d p) : ∃ a, v = .agg (vals a).toArray ∧ ok a := by
  obtain ⟨cs, rfl, hsz⟩ := okWide_struct ht hv
  obtain ⟨fuel, hf⟩ := h
  obtain ⟨a, ha, hok⟩ := O.op _ _ _ hf
  refine ⟨a, ?_, hok⟩
  congr 1
  rw [← ha]
  simp [Value.cells]
end
end Go.Proofs.Ytogipajanbgenaa
