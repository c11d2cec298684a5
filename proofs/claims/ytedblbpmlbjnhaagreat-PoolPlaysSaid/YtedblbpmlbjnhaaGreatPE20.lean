/- The document's table: calls that are refused. -/
import Derived.Test.YtedblbpmlbjnhaaGreatPE9
import Derived.BigQuiet
namespace Go.Proofs.YtedblbpmlbjnhaaGreat
/-! ### The document's table: calls that are refused. -/
section
open Go.RowKit
set_option linter.unusedVariables false
set_option linter.unusedSimpArgs false
set_option maxRecDepth 100000
section
variable {R : Ending → World → Prop} {bM bO bH bB : Nat} {fs : List Fr} {w : World}

set_option maxHeartbeats 800000 in
theorem rwithin_any (a b : Int) (h1 : -9223372036854775808 ≤ a) (h2 : a ≤ 9223372036854775807) (w : World) (h : R (.returned (.bool (spanB a b))) w) : Calls Tryz.prog 113 #[.int .i64 a, .int .i64 b] w R := by
  go_enter Tryz.func113, Tryz.ntmps113
  go_wp2
  all_goals (refine rcast h (congrArg Value.bool ?_); rw [Bool.eq_iff_iff]; simp [spanB] <;> omega)

set_option maxHeartbeats 800000 in
theorem rdo_env (k e f o n : Int) (s : ByteArray) (h0 : 0 ≤ k) (h5 : k ≤ 5) (he : e ≠ 1 ∧ e ≠ 2)
    (h : ∀ w', Kp [] w w' → R (.returned (.tuple #[.int .i64 0, .string ⟨#[]⟩, .int .i64 1])) w') :
    Calls Tryz.prog 54 #[.pointer (some ⟨bM, 0, none⟩), .agg #[.int .i64 k, .int .i64 e, .int .i64 f, .int .i64 o, .int .i64 n, .string s]] w R := by
  have H := Lib.hid h
  clear h
  have b1 : (e == 1) = false := by simpa using he.1
  have b2 : (e == 2) = false := by simpa using he.2
  have hK1 := fun o => (Kp.refl [] w).alloc o
  clear he
  go_enter Tryz.func54, Tryz.ntmps54
  go_wp2
  go_ret3
  exact H.out _ (hK1 _)

set_option maxHeartbeats 800000 in
theorem rdo_rng (hT : RT w bM bO bH bB fs) (k e f o n : Int) (s : ByteArray) (h1 : 1 ≤ k) (h7 : k ≤ 7) (he : k < 6 → e = 1 ∨ e = 2) (hf : f < 0 ∨ (fs.length : Int) ≤ f)
    (h : ∀ w', Kp [] w w' → R (.returned (.tuple #[.int .i64 0, .string ⟨#[]⟩, .int .i64 1])) w') :
    Calls Tryz.prog 54 #[.pointer (some ⟨bM, 0, none⟩), .agg #[.int .i64 k, .int .i64 e, .int .i64 f, .int .i64 o, .int .i64 n, .string s]] w R := by
  have H := Lib.hid h
  clear h
  obtain ⟨c0, c1, c2, ht⟩ := hT.t
  have hn := hT.n1
  have q0 := fun o => (ht.alloc o).cell 0
  simp only [List.getElem?_cons_zero] at q0
  have hK1 := fun o => (Kp.refl [] w).alloc o
  have hk : k < 6 ∧ e = 1 ∨ k < 6 ∧ e = 2 ∨ 6 ≤ k := by
    by_cases h : k < 6
    · rcases he h with rfl | rfl
      · exact .inl ⟨h, rfl⟩
      · exact .inr (.inl ⟨h, rfl⟩)
    · exact .inr (.inr (by omega))
  clear hT ht he
  have hff : f < 0 ∨ (¬ f < 0 ∧ (fs.length : Int) ≤ f) := by omega
  clear hf
  rcases hk with ⟨h6, rfl⟩ | ⟨h6, rfl⟩ | h6 <;> rcases hff with hf | ⟨hf0, hf⟩
  all_goals go_enter Tryz.func54, Tryz.ntmps54
  all_goals go_wp2
  all_goals go_quiet (fail)
  all_goals go_wp2
  all_goals go_ret3
  all_goals exact H.out _ ((hK1 _).drewN _)

set_option maxHeartbeats 800000 in
theorem rdo_own (hT : RT w bM bO bH bB fs) (k e o n : Int) (i : Nat) (s : ByteArray) (x : Fr) (hx : fs[i]? = some x) (h1 : 1 ≤ k) (h5 : k ≤ 5) (he : e = 1 ∨ e = 2) (hne : x.ow ≠ e)
    (h : ∀ w', Kp [] w w' → R (.returned (.tuple #[.int .i64 0, .string ⟨#[]⟩, .int .i64 20])) w') :
    Calls Tryz.prog 54 #[.pointer (some ⟨bM, 0, none⟩), .agg #[.int .i64 k, .int .i64 e, .int .i64 i, .int .i64 o, .int .i64 n, .string s]] w R := by
  have H := Lib.hid h
  clear h
  obtain ⟨c0, c1, c2, ht⟩ := hT.t
  have hn := hT.n1
  have hi := lt_of hx
  have q0 := fun o => (ht.alloc o).cell 0
  have x0 := fun o => (hT.kp ((Kp.refl [] w).alloc o) (by simp) (by simp) (by simp) (by simp)).ow hx
  simp only [List.getElem?_cons_zero] at q0
  have hK1 := fun o => (Kp.refl [] w).alloc o
  have b0 : (x.ow != e) = true := by simpa using hne
  have h6 : k < 6 := by omega
  have i0 : ¬ (i : Int) < 0 := by omega
  clear hT ht hne hx
  rcases he with rfl | rfl
  all_goals
    go_enter Tryz.func54, Tryz.ntmps54
    go_wp2
    go_quiet (fail)
    go_wp2
    go_quiet (fail)
    go_wp2
    go_ret3
    exact H.out _ (((hK1 _).drewN _).drewN _)
end
end
end Go.Proofs.YtedblbpmlbjnhaaGreat
