/- A new disk, and its extents. -/
import Derived.Test.YthlmfjfkkndboaaFrame4
import Derived.BigQuiet
import Derived.BigRegion
import Derived.Deep.Cut
namespace Go.Proofs.Ythlmfjfkkndboaa
open Go.RowKit
set_option linter.unusedVariables false
set_option linter.unusedSimpArgs false
set_option maxRecDepth 100000

def zpg : Value := .agg (Array.replicate 256 (.int .u8 0))
theorem info_page : (Try.prog.info? 187).map (fun i => (i.zero, i.size, i.bytes)) = some (some zpg, 256, 256) := by kernel_rfl
theorem info_int : (Try.prog.info? 3).map (fun i => (i.zero, i.size, i.bytes)) = some (some (.int .i64 0), 1, 8) := by kernel_rfl
def diskC (bL bO n : Nat) : List Value := [.slice (some ⟨bL, 0, none⟩) n n, .slice (some ⟨bO, 0, none⟩) n n, .slice none 0 0, .bool false, .bool false, .int .i64 0]
def ints (l : List Int) : List Value := l.map (Value.int .i64 ·)
theorem flat_ints (n : Nat) : (List.replicate n #[Value.int .i64 0]).flatMap (·.toList) = ints (List.replicate n 0) := by
  induction n with
  | zero => rfl
  | succ n ih => rw [List.replicate_succ, List.flatMap_cons, ih, List.replicate_succ]; rfl
theorem made_ints (n : Nat) : (madeCells #[Value.int .i64 0] n).toList = ints (List.replicate n 0) := by
  have h := made_pieces (z := #[Value.int .i64 0]) (K := 1) rfl (by omega) n
  rw [Nat.mul_one] at h
  rw [h, flat_ints]
set_option maxHeartbeats 2000000 in
theorem dnew_any {R : Ending → World → Prop} (n : Nat) (w : World) (h1 : 1 ≤ n) (h2 : n ≤ 512) (h : ∀ bD bL bO w', w.heap.size ≤ bD → w.heap.size ≤ bO → bD ≠ bO → Kp [] w w' → Bk w' bD 156 (diskC bL bO n) → Bk w' bO 3 (ints (List.replicate n 0)) → R (.returned (.tuple #[.pointer (some ⟨bD, 0, none⟩), .int .i64 0])) w') :
    Calls Try.prog 65 #[.int .i64 n] w R := by
  have H := Lib.hid h
  clear h
  obtain ⟨i0, hi, hz0, hz1, hz2⟩ := info_parts info_page
  obtain ⟨i1, ji, jz0, jz1, jz2⟩ := info_parts info_int
  have hmk := fun W => run_make (P := Try.prog) W 153 187 i0 _ Try.underlying153 hi hz0 .i64 .i64 n n (by omega) (by omega) (by rw [hz2]; omega) (by omega)
  have hmi := fun W => run_make (P := Try.prog) W 83 3 i1 _ Try.underlying83 ji jz0 .i64 .i64 n n (by omega) (by omega) (by rw [jz2]; omega) (by omega)
  simp only [hz1, Int.toNat_natCast] at hmk
  simp only [jz1, Int.toNat_natCast] at hmi
  clear hi hz0 hz1 hz2 ji jz0 jz1 jz2
  go_enter Try.func65, Try.ntmps65
  go_wp2
  go_region
  all_goals
    go_wp2
    first
    | exact rcast (H.out (w.heap.size + 1 + 1) w.heap.size (w.heap.size + 1) _ (by omega) (by omega) (by omega) ((((Kp.refl _ _).alloc _).alloc _).alloc _).drew ((Bk.newAt (by simp) _ _).cast rfl) (((Bk.newAt (by simp) _ _).alloc _).cast (made_ints n))) rfl
    | exact rcast (H.out (w.heap.size + 1 + 1) (w.heap.size + 1) w.heap.size _ (by omega) (by omega) (by omega) ((((Kp.refl _ _).alloc _).alloc _).alloc _).drew ((Bk.newAt (by simp) _ _).cast rfl) ((((Bk.new' _ _ _).alloc _).alloc _).cast (made_ints n))) rfl
end Go.Proofs.Ythlmfjfkkndboaa
