/- InodeBack: what comes in, opened. -/
import Derived.Test.YtnpkfhnhcadgeaaDoorIn20
import Derived.Test.YtnpkfhnhcadgeaaDoorOpen
namespace Go.Proofs.YtnpkfhnhcadgeaaDoor
open Go.RowKit Go.Shelf Go.ChangeShapes Go.WideShapes Go.ChangeAt Go.Deep
set_option linter.unusedVariables false
set_option linter.unusedSimpArgs false
set_option maxRecDepth 100000
def i64I (n : Int) : Prop := -9223372036854775808 ≤ n ∧ n ≤ 9223372036854775807
theorem i64_bdI {m : Int} (h : (Lit.int .i64 m).wf = true) : i64I m := by
  simp [Lit.wf, IntKind.min, IntKind.max, IntKind.signed, IntKind.bits] at h
  unfold i64I
  omega
structure RtA where
  gen : Int
  d : Sin Int
def RtA.vals (x : RtA) : List Value := [.int .i64 x.gen, .slice x.d.A x.d.n x.d.c]
structure RtA.ok (W : World) (x : RtA) : Prop where
  d : x.d.ok W iv i64I
structure FlA where
  ver : Int
  mt : Int
  len : Int
  bl : Sin Int
  pa : Sin (Int × Int)
def FlA.vals (x : FlA) : List Value := [.int .i64 x.ver, .int .i64 x.mt, .int .i64 x.len, .slice x.bl.A x.bl.n x.bl.c, .slice x.pa.A x.pa.n x.pa.c]
structure FlA.ok (W : World) (x : FlA) : Prop where
  bl : x.bl.ok W iv i64I
  pa : x.pa.ok W pV (fun p => i64I p.1 ∧ i64I p.2)
section
variable {H : Type} {enc : TypeId × Value → H} {W : World}
theorem opn_intI : Opn enc Tryd.prog W 3 iv i64I := ⟨fun fuel cs x h => by
  obtain ⟨a, rfl, hw⟩ := (opn_int Tryd.underlying3).op fuel cs x h
  exact ⟨a, rfl, i64_bdI hw⟩⟩
theorem opn_intsI : Opn enc Tryd.prog W 23 (Sin.vals (α := Int)) (Sin.ok W iv i64I) :=
  opn_slice (K := 1) Tryd.underlying23 (by kernel_rfl) (fun _ => rfl) opn_intI
theorem opn_pairI : Opn enc Tryd.prog W 80 pV (fun p => i64I p.1 ∧ i64I p.2) := ⟨fun fuel cs x h => by
  obtain ⟨xs, n, _, _, hlen, hxl, hg⟩ := DataW.trod_struct Tryd.underlying80 h
  have hK : Tryd.prog.cellsOf 80 = 2 := by kernel_rfl
  have hI : Tryd.prog.cellsOf 2 = 1 := by kernel_rfl
  rw [hK] at hlen
  match cs, hlen with
  | [c0, c1], _ =>
    obtain ⟨m0, rfl, h0⟩ := fld_int hg hxl 0 rfl hI Tryd.underlying2 rfl
    obtain ⟨m1, rfl, h1⟩ := fld_int hg hxl 1 rfl hI Tryd.underlying2 rfl
    exact ⟨(m0, m1), rfl, i64_bdI h0, i64_bdI h1⟩⟩
theorem opn_pairsI : Opn enc Tryd.prog W 41 (Sin.vals (α := Int × Int)) (Sin.ok W pV (fun p => i64I p.1 ∧ i64I p.2)) :=
  opn_slice (K := 2) Tryd.underlying41 (by kernel_rfl) (fun _ => rfl) opn_pairI
theorem opn_dent : Opn enc Tryd.prog W 77 eV (fun _ => True) := ⟨fun fuel cs x h => by
  obtain ⟨xs, n, _, _, hlen, hxl, hg⟩ := DataW.trod_struct Tryd.underlying77 h
  have hK : Tryd.prog.cellsOf 77 = 2 := by kernel_rfl
  have hI : Tryd.prog.cellsOf 3 = 1 := by kernel_rfl
  have hS : Tryd.prog.cellsOf 9 = 1 := by kernel_rfl
  rw [hK] at hlen
  match cs, hlen with
  | [c0, c1], _ =>
    obtain ⟨m0, rfl, h0⟩ := fld_string hg hxl 0 rfl hS Tryd.underlying9 rfl
    obtain ⟨m1, rfl, h1⟩ := fld_int hg hxl 1 rfl hI Tryd.underlying3 rfl
    refine ⟨(m0.data.toList, m1), ?_, trivial⟩
    unfold eV
    rw [← S_eta]⟩
theorem opn_dents : Opn enc Tryd.prog W 40 (Sin.vals (α := List UInt8 × Int)) (Sin.ok W eV (fun _ => True)) :=
  opn_slice (K := 2) Tryd.underlying40 (by kernel_rfl) (fun _ => rfl) opn_dent
theorem opn_root11 : Opn enc Tryd.prog W 39 RtA.vals (RtA.ok W) := ⟨fun fuel cs x h => by
  obtain ⟨xs, n, _, _, hlen, hxl, hg⟩ := DataW.trod_struct Tryd.underlying39 h
  have hK : Tryd.prog.cellsOf 39 = 2 := by kernel_rfl
  have hI : Tryd.prog.cellsOf 3 = 1 := by kernel_rfl
  have hL : Tryd.prog.cellsOf 23 = 1 := by kernel_rfl
  rw [hK] at hlen
  match cs, hlen with
  | [c0, c1], _ =>
    obtain ⟨m0, rfl, h0⟩ := fld_int hg hxl 0 rfl hI Tryd.underlying3 rfl
    obtain ⟨y1, hy1⟩ := fld hg hxl 1 rfl hL rfl
    obtain ⟨l, el, hl⟩ := opn_intsI.op _ _ _ hy1
    simp [Sin.vals] at el
    subst el
    exact ⟨⟨m0, l⟩, rfl, ⟨hl⟩⟩⟩
theorem opn_file11 : Opn enc Tryd.prog W 43 FlA.vals (FlA.ok W) := ⟨fun fuel cs x h => by
  obtain ⟨xs, n, _, _, hlen, hxl, hg⟩ := DataW.trod_struct Tryd.underlying43 h
  have hK : Tryd.prog.cellsOf 43 = 5 := by kernel_rfl
  have hI : Tryd.prog.cellsOf 3 = 1 := by kernel_rfl
  have hJ : Tryd.prog.cellsOf 2 = 1 := by kernel_rfl
  have hL : Tryd.prog.cellsOf 23 = 1 := by kernel_rfl
  have hP : Tryd.prog.cellsOf 41 = 1 := by kernel_rfl
  rw [hK] at hlen
  match cs, hlen with
  | [c0, c1, c2, c3, c4], _ =>
    obtain ⟨m0, rfl, h0⟩ := fld_int hg hxl 0 rfl hI Tryd.underlying3 rfl
    obtain ⟨m1, rfl, h1⟩ := fld_int hg hxl 1 rfl hJ Tryd.underlying2 rfl
    obtain ⟨m2, rfl, h2⟩ := fld_int hg hxl 2 rfl hI Tryd.underlying3 rfl
    obtain ⟨y3, hy3⟩ := fld hg hxl 3 rfl hL rfl
    obtain ⟨l, el, hl⟩ := opn_intsI.op _ _ _ hy3
    obtain ⟨y4, hy4⟩ := fld hg hxl 4 rfl hP rfl
    obtain ⟨p, ep, hp⟩ := opn_pairsI.op _ _ _ hy4
    simp [Sin.vals] at el ep
    subst el; subst ep
    exact ⟨⟨m0, m1, m2, l, p⟩, rfl, ⟨hl, hp⟩⟩⟩
theorem top_agg {t base : Nat} {fs : Array Field} {α : Type} {vals : α → List Value} {ok : α → Prop} (ht : Tryd.prog.underlying t = some (.struct fs)) (O : Opn enc Tryd.prog W t vals ok) {v : Value} {d : DataW H} {p : List MemPlace}
    (hv : Value.okWide Tryd.prog W .any base t v) (h : DataW.Trod enc Tryd.prog W 0 (fun _ => true) true t v d p) : ∃ a, v = .agg (vals a).toArray ∧ ok a := by
  obtain ⟨cs, rfl, hsz⟩ := okWide_struct ht hv
  obtain ⟨fuel, hf⟩ := h
  obtain ⟨a, ha, hok⟩ := O.op _ _ _ hf
  refine ⟨a, ?_, hok⟩
  congr 1
  rw [← ha]
  simp [Value.cells]
end
theorem iback_top {R : Ending → World → Prop} {w : World} (r : RtA) (hr : r.ok w) (l : Sin (List UInt8 × Int)) (hl : l.ok w eV (fun _ => True)) (f : FlA) (hf : f.ok w) (a t : Int) (ha : 0 ≤ a ∧ a ≤ 255) (ht : 0 ≤ t ∧ t ≤ 255) (hm : Ml w) (h : ∀ w', Kp [] w w' → R (.returned (.bool true)) w') :
    Calls Tryd.prog 4 #[.agg r.vals.toArray, .slice l.A l.n l.c, .agg f.vals.toArray, .int .u8 a, .int .u8 t] w R := by
  have e1 : a = (a.toNat : Int) := by omega
  have e2 : t = ((UInt8.ofNat t.toNat).toNat : Int) := by rw [UInt8.toNat_ofNat']; omega
  rw [e1, e2]
  exact iback_walk (ds := r.d.l) (l := l.l) (bl := f.bl.l) (pa := f.pa.l) (Lib.hid ⟨hr.d.rd, hl.rd, hf.bl.rd, hf.pa.rd, hr.d.len, hl.len, hf.bl.len, hf.pa.len, fun p hp => hf.pa.all p hp⟩) hm _ _ _ _ _ _ (by omega) h
end Go.Proofs.YtnpkfhnhcadgeaaDoor
