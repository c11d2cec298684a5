/- ServeStays: what comes in, opened. -/
import Derived.Test.YtnmafahbdfilcaaGreatDoorPSv7
import Derived.Test.YtnmafahbdfilcaaGreatDoorPA4
namespace Go.Proofs.YtnmafahbdfilcaaGreatDoor
open Go.RowKit Go.Shelf Go.ChangeShapes Go.WideShapes Go.ChangeAt Go.Deep
set_option linter.unusedVariables false
set_option linter.unusedSimpArgs false
set_option maxRecDepth 100000
def i64F (n : Int) : Prop := -9223372036854775808 ≤ n ∧ n ≤ 9223372036854775807
theorem i64_bdF {m : Int} (h : (Lit.int .i64 m).wf = true) : i64F m := by
  simp [Lit.wf, IntKind.min, IntKind.max, IntKind.signed, IntKind.bits] at h
  unfold i64F
  omega
structure FileA where
  v : Int
  mt : Int
  len : Int
  kd : ByteArray
def FileA.vals (x : FileA) : List Value := [.int .i64 x.v, .int .i64 x.mt, .int .i64 x.len, .string x.kd]
section
variable {H : Type} {enc : TypeId × Value → H} {W : World}
theorem opn_file27 : Opn enc Tryz.prog W 26 FileA.vals (fun x => i64F x.v ∧ i64F x.mt ∧ i64F x.len) := ⟨fun fuel cs x h => by
  obtain ⟨xs, n, _, _, hlen, hxl, hg⟩ := DataW.trod_struct Tryz.underlying26 h
  have hK : Tryz.prog.cellsOf 26 = 4 := by kernel_rfl
  have hI : Tryz.prog.cellsOf 3 = 1 := by kernel_rfl
  have hJ : Tryz.prog.cellsOf 2 = 1 := by kernel_rfl
  have hS : Tryz.prog.cellsOf 9 = 1 := by kernel_rfl
  rw [hK] at hlen
  match cs, hlen with
  | [c0, c1, c2, c3], _ =>
    obtain ⟨m0, rfl, h0⟩ := fld_int hg hxl 0 rfl hI Tryz.underlying3 rfl
    obtain ⟨m1, rfl, h1⟩ := fld_int hg hxl 1 rfl hJ Tryz.underlying2 rfl
    obtain ⟨m2, rfl, h2⟩ := fld_int hg hxl 2 rfl hI Tryz.underlying3 rfl
    obtain ⟨m3, rfl, h3⟩ := fld_string hg hxl 3 rfl hS Tryz.underlying9 rfl
    exact ⟨⟨m0, m1, m2, m3⟩, rfl, i64_bdF h0, i64_bdF h1, i64_bdF h2⟩⟩
theorem top_agg {t base : Nat} {fs : Array Field} {α : Type} {vals : α → List Value} {ok : α → Prop} (ht : Tryz.prog.underlying t = some (.struct fs)) (O : Opn enc Tryz.prog W t vals ok) {v : Value} {d : DataW H} {p : List MemPlace}
    (hv : Value.okWide Tryz.prog W .any base t v) (h : DataW.Trod enc Tryz.prog W 0 (fun _ => true) true t v d p) : ∃ a, v = .agg (vals a).toArray ∧ ok a := by
  obtain ⟨cs, rfl, hsz⟩ := okWide_struct ht hv
  obtain ⟨fuel, hf⟩ := h
  obtain ⟨a, ha, hok⟩ := O.op _ _ _ hf
  refine ⟨a, ?_, hok⟩
  congr 1
  rw [← ha]
  simp [Value.cells]
end
theorem stays_top {R : Ending → World → Prop} {W : World} (x : ByteArray) (s : Sin ByteArray) (f : FileA) (now : Int) (ws : Sin.ok W (fun s : ByteArray => [Value.string s]) (fun s => s.size ≤ maxLen) s) (wf : i64F f.v ∧ i64F f.mt ∧ i64F f.len) (hw : Lw W) (h : ∀ w', Kp [] W w' → R (.returned (.bool true)) w') :
    Calls Tryz.prog 6 #[.string x, .slice s.A s.n s.c, .agg f.vals.toArray, .int .i64 now] W R := by
  have e : f.kd = S f.kd.data.toList := S_eta _
  unfold FileA.vals
  rw [e]
  refine stays_walk x s.l f.v f.mt f.len f.kd.data.toList now (by have := ws.rd; rwa [show s.l.flatMap (fun s : ByteArray => [Value.string s]) = s.l.map Value.string from by induction s.l with | nil => rfl | cons y l ih => simp only [List.flatMap_cons, List.map_cons, ih]; rfl] at this) ws.len wf.1 wf.2.1 wf.2.2 hw h
end Go.Proofs.YtnmafahbdfilcaaGreatDoor
