/- RespondLength: what comes in, opened. RespondForm in plain words: what a head's bytes are. -/
import Derived.Test.YtnmafahbdfilcaaGreatDoorPB23
import Derived.Test.YtnmafahbdfilcaaGreatDoorPB26
import Derived.Test.YtnmafahbdfilcaaGreatDoorPB19
namespace Go.Proofs.YtnmafahbdfilcaaGreatDoor
/-! ### RespondLength: what comes in, opened. -/
section
open Go.RowKit Go.Shelf Go.ChangeShapes Go.WideShapes Go.ChangeAt Go.Deep
set_option linter.unusedVariables false
set_option linter.unusedSimpArgs false
set_option maxRecDepth 100000
theorem rlen_top {R : Ending → World → Prop} {W : World} (m t : ByteArray) (mi : Int) (s : Sin (ByteArray × ByteArray)) (cl there : Bool) (f : FileA) (now : Int) (w0 : Sin.ok W (fun s : ByteArray × ByteArray => [Value.string s.1, Value.string s.2]) (fun s => s.1.size ≤ maxLen ∧ s.2.size ≤ maxLen) s) (hz : (s.l.map fun s => s.1.size + s.2.size + 3).sum ≤ 1048576) (wf : i64F f.v ∧ i64F f.mt ∧ i64F f.len) (hw : Lw W) (h : ∀ w', Kp [] W w' → R (.returned (.bool true)) w') :
    Calls Tryz.prog 3 #[.agg #[.string m, .string t, .int .i64 mi, .slice s.A s.n s.c, .bool cl], .bool there, .agg f.vals.toArray, .int .i64 now] W R := by
  have e : f.kd = S f.kd.data.toList := S_eta _
  unfold FileA.vals
  rw [e, S_eta m, S_eta t]
  have rd0 : Rd W [] s.A ((s.l.map fdB).flatMap fldC) := by have := w0.rd; rwa [flat_fd] at this
  have hl : (s.l.map fdB).length = s.n := by rw [List.length_map]; exact w0.len
  have e2 : s.n = (Req.fs ⟨m.data.toList, t.data.toList, mi, s.l.map fdB, cl⟩).length := hl.symm
  rw [e2]
  exact rlen_walk ⟨m.data.toList, t.data.toList, mi, s.l.map fdB, cl⟩ there f.v f.mt f.len f.kd.data.toList now rd0 (by have := w0.cap; simp only; omega) wf.1 wf.2.1 (fun _ nm => by
    have h1 := all_le (s.l.map fdB) nm
    have h2 := fd_sum s.l
    simp only
    omega) hw h
end
/-! ### RespondForm in plain words: what a head's bytes are. -/
section
open Go.RowKit
set_option linter.unusedVariables false
set_option linter.unusedSimpArgs false
set_option maxRecDepth 100000
def emptyL : List UInt8 := [13, 10, 13, 10]
/-- What the law asks of a head: each byte's neighbours; an empty line at the end alone; that it closes is told. -/
structure FormS (s : List UInt8) (b : List UInt8) (cl : Bool) : Prop where
  beg : s.take b.length = b
  len : b.length + 2 ≤ s.length
  fin : s.drop (s.length - 4) = emptyL
  byt : ∀ (i : Nat) (c : UInt8), s[i]? = some c → (c ≠ 13 ∧ c ≠ 10) ∨ (c = 13 ∧ s[i + 1]? = some 10) ∨ (c = 10 ∧ 0 < i ∧ s[i - 1]? = some 13)
  emp : ∀ i, (s.drop i).take 4 = emptyL → i + 4 = s.length
  cls : (∃ i, (s.drop i).take 21 = connLn) ↔ cl = true
theorem form_head (a : HdA) (hk : cleanL a.kd) : FormS (headS a) (line1 (decL a.st.toNat) (rsnL a.st)) a.cl := by
  have hl := lines_ok a hk
  have hj := head_lines a
  obtain ⟨p, hp⟩ := end4 (headLs a) (stL a.st)
  have hst : stL a.st ++ [13, 10] = line1 (decL a.st.toNat) (rsnL a.st) := by
    unfold stL line1
    simp
  have hd : headS a = line1 (decL a.st.toNat) (rsnL a.st) ++ joinH (headLs a) := by
    rw [hj, ← hst]
    show stL a.st ++ 13 :: 10 :: joinH (headLs a) = _
    simp
  have hq : 2 ≤ (joinH (headLs a)).length := by
    cases headLs a with
    | nil => decide
    | cons l ls => show 2 ≤ (l ++ 13 :: 10 :: joinH ls).length; simp only [List.length_append, List.length_cons]; omega
  refine ⟨?_, ?_, ?_, ?_, ?_, closes_iff a hk⟩
  · rw [hd, List.take_left' rfl]
  · rw [hd, List.length_append]; omega
  · rw [hj, hp, List.length_append]
    show (p ++ [13, 10, 13, 10]).drop (p.length + 4 - 4) = _
    rw [Nat.add_sub_cancel, List.drop_left' rfl]
    rfl
  · intro i c hc
    rw [hj] at hc ⊢
    rcases at_place _ hl i c hc with h | ⟨h1, h2, _⟩ | h
    · exact .inl h
    · exact .inr (.inl ⟨h1, h2⟩)
    · exact .inr (.inr h)
  · intro i hi
    rw [hj] at hi ⊢
    exact empty_end hl hi
end
end Go.Proofs.YtnmafahbdfilcaaGreatDoor
