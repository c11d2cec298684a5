/- The document's gather: Within, Size, Check. -/
import Derived.Test.YthlmfjfkkndboaaGather4
import Derived.Test.YthlmfjfkkndboaaRDo2
namespace Go.Proofs.Ythlmfjfkkndboaa
open Go.RowKit
set_option linter.unusedVariables false
set_option linter.unusedSimpArgs false
set_option maxRecDepth 100000
section
variable {R : Ending → World → Prop} {bM bO bH bB : Nat} {fs : List Fr} {w : World}
theorem pwithin_any (p : Pc) (hp : p.ok) (h : ∀ w', Kp [] w w' → R (.returned (.bool (wB p))) w') : Calls Try.prog 59 #[.agg #[.int .i64 p.f, .int .i64 p.o, .int .i64 p.n]] w R := by
  have H := Lib.hid h
  obtain ⟨_, ⟨o1, o2⟩, ⟨n1, n2⟩⟩ := hp
  obtain ⟨f, o, n⟩ := p
  simp only at *
  clear h
  go_enter Try.func59, Try.ntmps59
  go_wp2
  all_goals (refine rcast (H.out _ ((Kp.refl _ _).alloc _)) (congrArg Value.bool ?_); rw [Bool.eq_iff_iff]; simp [wB] <;> omega)
theorem psz_top {l : List Pc} {k : Nat} {x : Pc} (hx : l[k]? = some x) (h : 0 < x.n) (h2 : 1048576 - psz (l.take k) ≤ x.n) : psz l = 1048576 := by
  have hk : k < l.length := (List.getElem?_eq_some_iff.1 hx).1
  have e : l[k] = x := (List.getElem?_eq_some_iff.1 hx).2
  have hb := psz_bd (l.take k)
  have hs : psz l = (l.drop (k + 1)).foldl pszF (pszF (psz (l.take k)) x) := by
    unfold psz
    conv => lhs; rw [← List.take_append_drop k l, List.foldl_append, List.drop_eq_getElem_cons hk, e, List.foldl_cons]
  have hp : pszF (psz (l.take k)) x = 1048576 := by unfold pszF; rw [if_pos h]; omega
  rw [hp] at hs
  have := @psz_from (l.drop (k + 1)) 1048576 (by omega) (by omega)
  omega
set_option maxHeartbeats 1000000 in
theorem rsize_any {N : List Nat} {A : Option Addr} {n c : Nat} {l : List Pc} (hr : Rd w N A (l.flatMap Pc.vals)) (hl : l.length = n) (hn : n ≤ 1000000) (hok : ∀ p ∈ l, p.ok)
    (h : R (.returned (.int .i64 (psz l))) w) : Calls Try.prog 18 #[.slice A n c] w R := by
  have H := Lib.hid h
  have HL := Lib.hid hl
  have HR := Lib.hid hr
  have HO := Lib.hid hok
  clear h hl hr hok
  go_enter Try.func18, Try.ntmps18
  go_wp2
  go_loop [3, 4] (fun sv iv => ∃ k : Nat, k ≤ n ∧ iv = .int .i64 k ∧ sv = .int .i64 (psz (l.take k))) (fun _ iv => n - (intOf iv).toNat)
  case atStart => exact ⟨0, Nat.zero_le _, rfl, rfl⟩
  case round =>
    obtain ⟨k, hk, rfl, rfl⟩ := hrel
    have hb := psz_bd (l.take k)
    by_cases hlt : k < n
    · obtain ⟨x, hx, hm⟩ := get_lt (l := l) (k := k) (by rw [HL.out]; exact hlt)
      obtain ⟨b, off, rfl, _, _, hc⟩ := rd_at HR.out pvals_len (by omega) hx
      have c2 := hc 2 _ rfl
      have hxo := (HO.out x hm).2.2
      have hst : psz (l.take (k + 1)) = pszF (psz (l.take k)) x := by unfold psz; exact foldl_snoc hx
      have HX := Lib.hid hx
      have HST := Lib.hid hst
      obtain ⟨s, hs⟩ : ∃ s, psz (l.take k) = s := ⟨_, rfl⟩
      rw [hs] at hb ⊢
      have HS := Lib.hid hs
      clear hc hx hst hs
      by_cases h0 : 0 < x.n
      · by_cases h1 : 1048576 - s ≤ x.n
        · have ht := psz_top HX.out h0 (by rw [HS.out]; exact h1)
          have HT := Lib.hid ht
          clear ht
          go_wp2
          exact ricast H.out HT.out
        · have hv : psz (l.take (k + 1)) = s + x.n := by rw [HST.out, HS.out]; unfold pszF; rw [if_pos h0]; omega
          have HV := Lib.hid hv
          clear hv
          go_wp2
          exact ⟨⟨k + 1, by omega, by go_num, icast (by rw [HV.out])⟩, by simp [intOf]; omega⟩
      · have hv : psz (l.take (k + 1)) = s := by rw [HST.out, HS.out]; unfold pszF; rw [if_neg h0]
        have HV := Lib.hid hv
        clear hv
        go_wp2
        exact ⟨⟨k + 1, by omega, by go_num, icast (by rw [HV.out])⟩, by simp [intOf]; omega⟩
    · have e : l.take k = l := List.take_of_length_le (by have := HL.out; omega)
      rw [e]
      go_wp2
      exact H.out
end
end Go.Proofs.Ythlmfjfkkndboaa
