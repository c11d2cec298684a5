/- A call that came in (pantlerref09.Call), and the program's form of it (pantlerlaw09.Of). append as a step of a drawn region. -/
import Derived.Test.YtedblbpmlbjnhaaGreatPD6
import Derived.Test.YtedblbpmlbjnhaaGreatPD7
import Derived.Test.YtedblbpmlbjnhaaGreatPD1
namespace Go.Proofs.YtedblbpmlbjnhaaGreat
/-! ### A call that came in (pantlerref09.Call), and the program's form of it (pantlerlaw09.Of). -/
section
open Go.RowKit Go.Shelf Go.ChangeShapes Go.WideShapes Go.ChangeAt Go.Deep
set_option linter.unusedVariables false
set_option linter.unusedSimpArgs false
set_option maxRecDepth 100000

/-- A step of a filter. -/
structure FOp where
  c : Int
  k : Int
  t : Int
  f : Int
def FOp.vals (o : FOp) : List Value := [.int .i64 o.c, .int .u32 o.k, .int .i64 o.t, .int .i64 o.f]
theorem ovals_len (o : FOp) : o.vals.length = 4 := rfl
theorem ovals_one (o : FOp) : ∀ u ∈ o.vals, u.oneCell' = true := by intro u hu; simp [FOp.vals] at hu; rcases hu with rfl | rfl | rfl | rfl <;> rfl
def i64B (n : Int) : Prop := -9223372036854775808 ≤ n ∧ n ≤ 9223372036854775807
structure FOp.ok (o : FOp) : Prop where
  c : i64B o.c
  k : 0 ≤ o.k ∧ o.k ≤ 4294967295
  t : i64B o.t
  f : i64B o.f
/-- A call. -/
structure Cl where
  op : Int
  env : Int
  a : Int
  b : Int
  c : Int
  s : ByteArray
  p : Sin FOp
  l : Sin Pc
def Cl.vals (x : Cl) : List Value := [.int .i64 x.op, .int .i64 x.env, .int .i64 x.a, .int .i64 x.b, .int .i64 x.c, .string x.s, .slice x.p.A x.p.n x.p.c, .slice x.l.A x.l.n x.l.c]
structure Cl.ok (W : World) (x : Cl) : Prop where
  op : i64B x.op
  env : i64B x.env
  a : i64B x.a
  b : i64B x.b
  c : i64B x.c
  s : x.s.size ≤ maxLen
  p : x.p.ok W FOp.vals FOp.ok
  l : x.l.ok W Pc.vals Pc.ok
theorem u32_bd {m : Int} (h : (Lit.int .u32 m).wf = true) : 0 ≤ m ∧ m ≤ 4294967295 := by
  simp [Lit.wf, IntKind.min, IntKind.max, IntKind.signed, IntKind.bits] at h
  omega
section
variable {H : Type} {enc : TypeId × Value → H} {W : World}
theorem opn_fop : Opn enc Tryz.prog W 129 FOp.vals FOp.ok := ⟨fun fuel cs x h => by
  obtain ⟨xs, n, _, _, hlen, hxl, hg⟩ := DataW.trod_struct Tryz.underlying129 h
  have hK : Tryz.prog.cellsOf 129 = 4 := by kernel_rfl
  have hI : Tryz.prog.cellsOf 3 = 1 := by kernel_rfl
  have hU : Tryz.prog.cellsOf 126 = 1 := by kernel_rfl
  rw [hK] at hlen
  match cs, hlen with
  | [c0, c1, c2, c3], _ =>
    obtain ⟨m0, rfl, h0⟩ := fld_int hg hxl 0 rfl hI Tryz.underlying3 rfl
    obtain ⟨m1, rfl, h1⟩ := fld_int hg hxl 1 rfl hU Tryz.underlying126 rfl
    obtain ⟨m2, rfl, h2⟩ := fld_int hg hxl 2 rfl hI Tryz.underlying3 rfl
    obtain ⟨m3, rfl, h3⟩ := fld_int hg hxl 3 rfl hI Tryz.underlying3 rfl
    exact ⟨⟨m0, m1, m2, m3⟩, rfl, i64_bd h0, u32_bd h1, i64_bd h2, i64_bd h3⟩⟩
theorem opn_fops : Opn enc Tryz.prog W 31 (Sin.vals (α := FOp)) (Sin.ok W FOp.vals FOp.ok) :=
  opn_slice (K := 4) Tryz.underlying31 (by kernel_rfl) (fun _ => rfl) opn_fop
theorem opn_call : Opn enc Tryz.prog W 34 Cl.vals (Cl.ok W) := ⟨fun fuel cs x h => by
  obtain ⟨xs, n, _, _, hlen, hxl, hg⟩ := DataW.trod_struct Tryz.underlying34 h
  have hK : Tryz.prog.cellsOf 34 = 8 := by kernel_rfl
  have hI : Tryz.prog.cellsOf 3 = 1 := by kernel_rfl
  have hS : Tryz.prog.cellsOf 9 = 1 := by kernel_rfl
  have hP : Tryz.prog.cellsOf 31 = 1 := by kernel_rfl
  have hL : Tryz.prog.cellsOf 32 = 1 := by kernel_rfl
  rw [hK] at hlen
  match cs, hlen with
  | [c0, c1, c2, c3, c4, c5, c6, c7], _ =>
    obtain ⟨m0, rfl, h0⟩ := fld_int hg hxl 0 rfl hI Tryz.underlying3 rfl
    obtain ⟨m1, rfl, h1⟩ := fld_int hg hxl 1 rfl hI Tryz.underlying3 rfl
    obtain ⟨m2, rfl, h2⟩ := fld_int hg hxl 2 rfl hI Tryz.underlying3 rfl
    obtain ⟨m3, rfl, h3⟩ := fld_int hg hxl 3 rfl hI Tryz.underlying3 rfl
    obtain ⟨m4, rfl, h4⟩ := fld_int hg hxl 4 rfl hI Tryz.underlying3 rfl
    obtain ⟨m5, rfl, h5⟩ := fld_string hg hxl 5 rfl hS Tryz.underlying9 rfl
    obtain ⟨y6, hy6⟩ := fld hg hxl 6 rfl hP rfl
    obtain ⟨p, ep, hp⟩ := opn_fops.op _ _ _ hy6
    obtain ⟨y7, hy7⟩ := fld hg hxl 7 rfl hL rfl
    obtain ⟨l, el, hl⟩ := opn_pcs.op _ _ _ hy7
    simp [Sin.vals] at ep el
    subst ep; subst el
    exact ⟨⟨m0, m1, m2, m3, m4, m5, p, l⟩, rfl, i64_bd h0, i64_bd h1, i64_bd h2, i64_bd h3, i64_bd h4, h5, hp, hl⟩⟩
end
end
/-! ### append as a step of a drawn region. -/
section
open Go.RowKit
set_option linter.unusedVariables false
set_option linter.unusedSimpArgs false
set_option maxRecDepth 100000

theorem step_app {P : Program} {ops : Array Oper} {o : Oper} {a : Act} {w : World} {K : Act → World → Prop} {Q : Exit → Act → World → Prop} {E : Prop} (hg : o.guard = none) (s x : Operand) (t : Nat)
    (ho : o.op = .call { callee := .builtin .append, args := #[s, x], argTypes := #[t, t] })
    {e : Nat} {z : Value} {sz by_ : Nat} (hE : Elt P t e z sz by_) (A : Option Addr) (n c : Nat) (xs : List Value) (hs : a.eval s = .slice A n c) (hown : Ow w e sz A n c xs)
    (N : List Nat) (A2 : Option Addr) (m c2 : Nat) (news : List Value) (hx : a.eval x = .slice A2 m c2) (hr : Rd w N A2 news) (hl : news.length = m * sz) (h1 : ∀ u ∈ news, u.oneCell' = true) (hb : n + m ≤ 4294967296)
    (h : ∀ A' c' w', Ow w' e sz A' (n + m) c' (xs ++ news) → Kp (bks A) w w' → (A' = A ∨ A' = some ⟨w.heap.size, 0, none⟩) → K (a.put o.dst (.slice A' (n + m) c')) w') :
    if Region.wanted o (yielded ops a.tmps) = true then Oper.wp P o a w K Q else E := by
  have hw : Region.wanted o (yielded ops a.tmps) = true := by simp [Region.wanted, hg]
  rw [if_pos hw]
  exact wp_app w s x t ho hE A n c xs hs hown N A2 m c2 news hx hr hl h1 hb h
end
end Go.Proofs.YtedblbpmlbjnhaaGreat
