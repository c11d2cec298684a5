/- Package civil: digits. -/
import Derived.Test.YtjjigngighneeaaDoorCiv2
import Derived.Test.YtjjigngighneeaaDoorCont
import Derived.Test.YtjjigngighneeaaDoorDec
namespace Go.Proofs.YtjjigngighneeaaDoor
open Go.RowKit
set_option linter.unusedVariables false
set_option linter.unusedSimpArgs false
set_option maxRecDepth 100000

def digL (n wd : Nat) : List UInt8 := List.replicate (wd - (decL n).length) 48 ++ decL n
theorem rep_any {R : Ending → World → Prop} (c : Nat) (w : World) (hc : c ≤ 1) (h : R (.returned (.string (S (List.replicate c 48)))) w) : Calls Tryd.prog 93 #[.string (S [48]), .int .i64 c] w R := by
  have H := Lib.hid h
  clear h
  rcases (by omega : c = 0 ∨ c = 1) with rfl | rfl
  all_goals
    go_enter Tryd.func93, Tryd.ntmps93
    go_wp2
    exact H.out
set_option maxHeartbeats 1000000 in
theorem digits_any {R : Ending → World → Prop} (n wd : Nat) (w : World) (hn : n ≤ 99999) (hd : wd ≤ 10) (hl : wd ≤ (decL n).length + 1) (hw : Lw w) (h : ∀ w', Kp [] w w' → R (.returned (.string (S (digL n wd)))) w') : Calls Tryd.prog 60 #[.int .i64 n, .int .i64 wd] w R := by
  have H := Lib.hid h
  clear h
  have hlen : (decL n).length ≤ 21 := by have := itoaL_len n (by omega) (by omega); rw [itoaL_nat] at this; exact this
  have HE : Hid (∀ (R : Ending → World → Prop) (w : World), Lw w → (∀ w', Kp [] w w' → R (.returned (.string (S (decL n)))) w') → Calls Tryd.prog 35 #[.int .i64 n] w R) := Lib.hid (fun R w a b => itoa_any n w (by omega) a b)
  obtain ⟨o, ho⟩ : ∃ o, wd - (decL n).length = o := ⟨_, rfl⟩
  have ho1 : o ≤ 1 := by omega
  have hmax : max ((wd : Int) - ((decL n).length : Int)) 0 = (o : Int) := by omega
  go_enter Tryd.func60, Tryd.ntmps60
  go_wp2_with (first | (go_at_call 35; ((refine HE.out _ _ hw ?_); intro w1 k1)) | (go_at_call 93; (refine rep_any o _ ho1 ?_)))
  exact rcast (H.out _ k1) (by unfold digL; rw [ho]; simp [S_append])
end Go.Proofs.YtjjigngighneeaaDoor
