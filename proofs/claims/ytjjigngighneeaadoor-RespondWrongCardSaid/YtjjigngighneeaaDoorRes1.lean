/- Package respond: reasons; dates that are none; the document's Print. -/
import Derived.Test.YtjjigngighneeaaDoorRef03
import Derived.Test.YtjjigngighneeaaDoorBld
import Derived.Test.YtjjigngighneeaaDoorCond1
namespace Go.Proofs.YtjjigngighneeaaDoor
open Go.RowKit
set_option linter.unusedVariables false
set_option linter.unusedSimpArgs false
set_option maxRecDepth 100000

def rCodes : List Int := [200, 206, 304, 400, 404, 405, 412, 414, 416, 431, 501, 505]
def rTexts : List (List UInt8) := [[79, 75], [80, 97, 114, 116, 105, 97, 108, 32, 67, 111, 110, 116, 101, 110, 116], [78, 111, 116, 32, 77, 111, 100, 105, 102, 105, 101, 100], [66, 97, 100, 32, 82, 101, 113, 117, 101, 115, 116], [78, 111, 116, 32, 70, 111, 117, 110, 100], [77, 101, 116, 104, 111, 100, 32, 78, 111, 116, 32, 65, 108, 108, 111, 119, 101, 100], [80, 114, 101, 99, 111, 110, 100, 105, 116, 105, 111, 110, 32, 70, 97, 105, 108, 101, 100], [85, 82, 73, 32, 84, 111, 111, 32, 76, 111, 110, 103], [82, 97, 110, 103, 101, 32, 78, 111, 116, 32, 83, 97, 116, 105, 115, 102, 105, 97, 98, 108, 101], [82, 101, 113, 117, 101, 115, 116, 32, 72, 101, 97, 100, 101, 114, 32, 70, 105, 101, 108, 100, 115, 32, 84, 111, 111, 32, 76, 97, 114, 103, 101], [78, 111, 116, 32, 73, 109, 112, 108, 101, 109, 101, 110, 116, 101, 100], [72, 84, 84, 80, 32, 86, 101, 114, 115, 105, 111, 110, 32, 78, 111, 116, 32, 83, 117, 112, 112, 111, 114, 116, 101, 100]]
def unkL : List UInt8 := [85, 110, 107, 110, 111, 119, 110]
def rsnL (n : Int) : List UInt8 := if n = 200 then rTexts[0] else if n = 206 then rTexts[1] else if n = 304 then rTexts[2] else if n = 400 then rTexts[3] else if n = 404 then rTexts[4] else if n = 405 then rTexts[5] else if n = 412 then rTexts[6] else if n = 414 then rTexts[7] else if n = 416 then rTexts[8] else if n = 431 then rTexts[9] else if n = 501 then rTexts[10] else if n = 505 then rTexts[11] else unkL
theorem rsn_cases (n : Int) : (n = 200 ∨ n = 206 ∨ n = 304 ∨ n = 400 ∨ n = 404 ∨ n = 405 ∨ n = 412 ∨ n = 414 ∨ n = 416 ∨ n = 431 ∨ n = 501 ∨ n = 505) ∨ (¬ n = 200 ∧ ¬ n = 206 ∧ ¬ n = 304 ∧ ¬ n = 400 ∧ ¬ n = 404 ∧ ¬ n = 405 ∧ ¬ n = 412 ∧ ¬ n = 414 ∧ ¬ n = 416 ∧ ¬ n = 431 ∧ ¬ n = 501 ∧ ¬ n = 505) := by omega
theorem rsn_len (n : Int) : (rsnL n).length ≤ 40 := by
  rcases rsn_cases n with (rfl | rfl | rfl | rfl | rfl | rfl | rfl | rfl | rfl | rfl | rfl | rfl) | ⟨h0, h1, h2, h3, h4, h5, h6, h7, h8, h9, h10, h11⟩
  all_goals first | decide | (simp only [rsnL, h0, h1, h2, h3, h4, h5, h6, h7, h8, h9, h10, h11, if_false]; decide)
set_option maxHeartbeats 2000000 in
theorem reason_any {R : Ending → World → Prop} (n : Int) (w : World) (h : R (.returned (.string (S (rsnL n)))) w) : Calls Tryd.prog 11 #[.int .i64 n] w R := by
  have H := Lib.hid h
  clear h
  rcases rsn_cases n with (rfl | rfl | rfl | rfl | rfl | rfl | rfl | rfl | rfl | rfl | rfl | rfl) | ⟨h0, h1, h2, h3, h4, h5, h6, h7, h8, h9, h10, h11⟩
  all_goals
    go_enter Tryd.func11, Tryd.ntmps11
    go_wp2
    first | exact H.out | exact rcast H.out (by simp only [rsnL, h0, h1, h2, h3, h4, h5, h6, h7, h8, h9, h10, h11, if_false]; rfl)
theorem maybad_any {R : Ending → World → Prop} (n : Int) (w : World) (hn : n < 0 ∨ 253402300799 < n) (h : R (.returned (.bool false)) w) : Calls Tryd.prog 89 #[.int .i64 n] w R := by
  have H := Lib.hid h
  clear h
  rcases hn with hn | hn
  · go_enter Tryd.func89, Tryd.ntmps89
    go_wp2
    exact H.out
  · have hb : decide (n ≤ 253402300799) = false := by simp; omega
    go_enter Tryd.func89, Tryd.ntmps89
    go_wp2
    exact H.out
theorem cofbad_any {R : Ending → World → Prop} (n : Int) (w : World) (hn : n < 0 ∨ 253402300799 < n) (h : ∀ w', Kp [] w w' → R (.returned (.tuple #[.agg #[.int .i64 0, .int .i64 0, .int .i64 0, .int .i64 0, .int .i64 0, .int .i64 0, .int .i64 0], .int .i64 1])) w') : Calls Tryd.prog 59 #[.int .i64 n] w R := by
  have H := Lib.hid h
  clear h
  go_enter Tryd.func59, Tryd.ntmps59
  go_wp2_with (go_at_call 89; (refine maybad_any n _ hn ?_))
  exact bodyPost_ret (v := .tuple #[.agg #[.int .i64 0, .int .i64 0, .int .i64 0, .int .i64 0, .int .i64 0, .int .i64 0, .int .i64 0], .int .i64 1]) (by simp [results, Tryd.results59, go_sem]; try rfl) rfl (H.out _ ((Kp.refl _ _).alloc _))
set_option maxHeartbeats 1000000 in
theorem printbad_any {R : Ending → World → Prop} (n : Int) (w : World) (hn : n < 0 ∨ 253402300799 < n) (h : ∀ w', Kp [] w w' → R (.returned (.tuple #[.string (S []), .int .i64 1])) w') : Calls Tryd.prog 38 #[.int .i64 n] w R := by
  have H := Lib.hid h
  clear h
  go_enter Tryd.func38, Tryd.ntmps38
  go_wp2_with (go_at_call 59; ((refine cofbad_any n _ hn ?_); intro w1 k1))
  exact H.out _ (by repeat first | exact k1 | refine Kp.alloc ?_ _)
/-- What is told of a second. -/
def mayB (n : Int) : Bool := decide (0 ≤ n) && decide (n ≤ 253402300799)
def Told (n : Int) (D : List UInt8) : Prop := ∃ (y m d hh mi s wd : Nat) (a b : List UInt8), CivN n y m d hh mi s wd ∧ wdN[wd]? = some a ∧ moN[m - 1]? = some b ∧ D = prL y m d hh mi s a b
theorem told_len {n : Int} {D : List UInt8} (h : Told n D) (h0 : 0 ≤ n) (h1 : n ≤ 253402300799) : D.length ≤ 200 := by
  obtain ⟨y, m, d, hh, mi, s, wd, a, b, c, ha, hb, rfl⟩ := h
  have ld := digL_len d 2 (by have := c.d1; have := lenM_31 y m; omega) (by omega)
  have ly := digL_len y 4 (by have := c.y1; omega) (by omega)
  have lh := digL_len hh 2 (by have := c.eh; omega) (by omega)
  have lm := digL_len mi 2 (by have := c.emi; omega) (by omega)
  have ls := digL_len s 2 (by have := c.es; omega) (by omega)
  have la : a.length ≤ 3 := by
    have := List.mem_of_getElem? ha
    simp only [wdN, List.mem_cons, List.not_mem_nil, or_false] at this
    rcases this with rfl | rfl | rfl | rfl | rfl | rfl | rfl <;> simp
  have lb : b.length ≤ 3 := by
    have := List.mem_of_getElem? hb
    simp only [moN, List.mem_cons, List.not_mem_nil, or_false] at this
    rcases this with rfl | rfl | rfl | rfl | rfl | rfl | rfl | rfl | rfl | rfl | rfl | rfl <;> simp
  unfold prL
  simp only [List.length_append, List.length_cons, List.length_nil]
  omega
/-- The program's Print, either way: the text D is told, or none. -/
theorem print_both {R : Ending → World → Prop} (n : Int) (w : World) (hw : Lw w) (h : ∀ D e w', Kp [] w w' → (mayB n = true → Told n D ∧ e = 0) → (mayB n = false → D = [] ∧ e = 1) → R (.returned (.tuple #[.string (S D), .int .i64 e])) w') : Calls Tryd.prog 38 #[.int .i64 n] w R := by
  by_cases hm : 0 ≤ n ∧ n ≤ 253402300799
  · refine print_any n w hm.1 hm.2 hw ?_
    intro y m d hh mi s wd a b c ha hb w' k
    exact h _ _ _ k (fun _ => ⟨⟨y, m, d, hh, mi, s, wd, a, b, c, ha, hb, rfl⟩, rfl⟩) (fun h2 => by simp [mayB, hm] at h2)
  · refine printbad_any n w (by omega) ?_
    intro w' k
    exact h _ _ _ k (fun h2 => by simp [mayB] at h2; omega) (fun _ => ⟨rfl, rfl⟩)
end Go.Proofs.YtjjigngighneeaaDoor
