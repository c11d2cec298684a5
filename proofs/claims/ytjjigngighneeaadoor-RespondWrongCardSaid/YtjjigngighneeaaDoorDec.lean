/- Decimal numbers; rows of texts; what is joined. -/
import Derived.Test.YtjjigngighneeaaDoorLib
import Derived.Test.YtjjigngighneeaaDoorBytes
import Derived.Test.YtjjigngighneeaaDoorShelfI
import Derived.Lib.SmallJoins
namespace Go.Proofs.YtjjigngighneeaaDoor
open Go.RowKit Go.Shelf
set_option linter.unusedVariables false
set_option linter.unusedSimpArgs false
set_option maxRecDepth 100000

/-- strconv's table lies as its text lays it. -/
def Pw (w : World) : Prop := Lib.TabIs Tryd.prog w "internal/strconv.uint64pow10" .u64 Lib.pow10Tab
theorem Pw.kp {w w' : World} (h : Pw w) (hk : Kp [] w w') : Pw w' :=
  Go.Joins.tab_stays (g := 0) (by kernel_rfl) h hk.below_nil (Nat.le_refl _)
structure Lw (w : World) : Prop where
  ml : Ml w
  pw : Pw w
theorem Lw.kp {w w' : World} (h : Lw w) (hk : Kp [] w w') : Lw w' := ⟨h.ml.kp hk, h.pw.kp hk⟩
theorem Kp.grow {S : List Nat} {a w : World} (h : Kp S a w) (os : Array Obj) : Kp S a (Go.Sort.grow w os) :=
  ⟨h.os, h.tape, h.output, by show a.heap.size ≤ (w.heap ++ os).size; rw [Array.size_append]; have := h.size; omega, fun k hk hn => by
    show (w.heap ++ os)[k]? = _
    rw [Array.getElem?_append_left (by have := h.size; omega)]; exact h.block k hk hn⟩
/-- The digits of a number. -/
def decL (n : Nat) : List UInt8 := Lib.decDigits n
theorem decL_small {n : Nat} (h : n < 10) : decL n = [UInt8.ofNat (48 + n)] := by unfold decL; rw [Lib.decDigits, dif_pos h]
theorem decL_big {n : Nat} (h : ¬ n < 10) : decL n = decL (n / 10) ++ [UInt8.ofNat (48 + n % 10)] := by unfold decL; rw [Lib.decDigits, dif_neg h]
theorem decL_len {k : Nat} : ∀ n : Nat, n < 10 ^ k → (decL n).length ≤ k + 1 := by
  induction k with
  | zero => intro n h; rw [decL_small (by omega)]; simp
  | succ k ih =>
    intro n h
    by_cases h1 : n < 10
    · rw [decL_small h1]; simp
    · rw [decL_big h1]
      have := ih (n / 10) (by rw [Nat.pow_succ] at h; omega)
      simp; omega
theorem decL_len20 {n : Nat} (h : n ≤ 9223372036854775807) : (decL n).length ≤ 20 := by
  have e : (10 : Nat) ^ 19 = 10000000000000000000 := by decide
  exact decL_len (k := 19) n (by omega)
theorem itoa_any {R : Ending → World → Prop} (n : Nat) (w : World) (hn : n ≤ 9223372036854775807) (hw : Lw w) (h : ∀ w', Kp [] w w' → R (.returned (.string (S (decL n)))) w') : Calls Tryd.prog 35 #[.int .i64 n] w R := by
  refine (Tryd.strconv_Itoa n (by omega) (by omega) w hw.pw).mono fun e w' ⟨he, k, os, hw'⟩ => ?_
  have e1 : Lib.itoa (n : Int) = decL n := by
    unfold Lib.itoa decL
    rw [if_neg (by omega), Int.toNat_natCast]
  rw [e1] at he
  subst he; subst hw'
  exact h _ (((Kp.refl _ _).drewN _).grow _)
theorem itoa_int {R : Ending → World → Prop} (v : Int) (n : Nat) (w : World) (hv : v = n) (hn : n ≤ 9223372036854775807) (hw : Lw w) (h : ∀ w', Kp [] w w' → R (.returned (.string (S (decL n)))) w') : Calls Tryd.prog 35 #[.int .i64 v] w R := by
  subst hv; exact itoa_any n w hn hw h
theorem elt_str : Elt Tryd.prog 69 9 (.string ByteArray.empty) 1 16 := ⟨Tryd.underlying69, by kernel_rfl, rfl, by decide, by decide⟩
theorem strs_one (ps : List (List UInt8)) : ∀ u ∈ strs ps, u.oneCell' = true := by
  intro u hu; simp only [strs, List.mem_map] at hu; obtain ⟨c, _, rfl⟩ := hu; rfl
theorem strs_append (a b : List (List UInt8)) : strs (a ++ b) = strs a ++ strs b := by simp [strs]
theorem strs_len (a : List (List UInt8)) : (strs a).length = a.length := by simp [strs]
theorem strs_get (a : List (List UInt8)) (i : Nat) : (strs a)[i]? = (a[i]?).map fun p => .string (S p) := by simp [strs]
theorem join_any {R : Ending → World → Prop} {w : World} {A : Option Addr} {n c : Nat} (ps : List (List UInt8)) (x : List UInt8) (ho : Ow w 9 1 A n c (strs ps)) (hn : 0 < n) (hc : n ≤ 1000) (hlen : (Lib.join ps x).length ≤ 1000000)
    (h : ∀ w', Kp [] w w' → R (.returned (.string (S (Lib.join ps x)))) w') : Calls Tryd.prog 32 #[.slice A n c, .string ⟨x.toArray⟩] w R := by
  have hl := ho.len
  simp only [strs, List.length_map, Nat.mul_one] at hl
  obtain ⟨g, rfl, hg⟩ := ho.form hn
  have hcap : n ≤ c := by
    rcases ho.2 with ⟨hv, h0⟩ | ⟨g', cap, cur, hv, _, _, hnc, _⟩
    · omega
    · injection hv with _ _ hc'; omega
  have hcells : ∀ (j : Nat) y, (ps.map S)[j]? = some y → w.cell? ⟨g, 0 + j, none⟩ = some (.string y) := by
    intro j y hy
    obtain ⟨b, off, hb, _, _, hcc⟩ := ho.rd (N := []) (by simp) (by intro e; simp [strs] at e; subst e; simp at hl; omega)
    cases hb
    refine hcc j _ ?_
    simp only [strs, List.getElem?_map] at hy ⊢
    cases hp : ps[j]? with
    | none => rw [hp] at hy; cases hy
    | some p => rw [hp] at hy; simp at hy; subst hy; simp
  have e1 : (ps.map S).map (·.data.toList) = ps := by
    rw [List.map_map]; conv => rhs; rw [← List.map_id ps]
    exact List.map_congr_left (fun s _ => S_data s)
  have e2 : ((⟨x.toArray⟩ : ByteArray)).data.toList = x := by simp
  have hcon := Tryd.strings_Join g 0 c (ps.map S) ⟨x.toArray⟩ w hcells hg (by rw [List.length_map]; omega) (by rw [List.length_map]; omega) (by rw [e1, e2]; omega)
  rw [List.length_map, hl, e1, e2] at hcon
  refine hcon.mono fun e w' ⟨he, hw⟩ => ?_
  subst he
  exact h w' (Kp.of_below hw)
end Go.Proofs.YtjjigngighneeaaDoor
