/- The document's gather: Within, Size, Check. The document's gather: Check. -/
import Derived.Test.YtedblbpmlbjnhaaGreatPD21
import Derived.Test.YtedblbpmlbjnhaaGreatPD30
import Derived.BigQuiet
namespace Go.Proofs.YtedblbpmlbjnhaaGreat
/-! ### The document's gather: Within, Size, Check. -/
section
open Go.RowKit
set_option linter.unusedVariables false
set_option linter.unusedSimpArgs false
set_option maxRecDepth 100000
section
variable {R : Ending → World → Prop} {bM bO bH bB : Nat} {fs : List Fr} {w : World}
theorem pwithin_any (p : Pc) (hp : p.ok) (h : ∀ w', Kp [] w w' → R (.returned (.bool (wB p))) w') : Calls Tryz.prog 87 #[.agg #[.int .i64 p.f, .int .i64 p.o, .int .i64 p.n]] w R := by
  have H := Lib.hid h
  obtain ⟨_, ⟨o1, o2⟩, ⟨n1, n2⟩⟩ := hp
  obtain ⟨f, o, n⟩ := p
  simp only at *
  clear h
  go_enter Tryz.func87, Tryz.ntmps87
  go_wp2
  all_goals (refine rcast (H.out _ ((Kp.refl _ _).alloc _)) (congrArg Value.bool ?_); rw [Bool.eq_iff_iff]; simp [wB] <;> omega)
theorem psz_top {l : List Pc} {k : Nat} {x : Pc} (hx : l[k]? = some x) (h : 0 < x.n) (h2 : 1048576 - psz (l.take k) ≤ x.n) : psz l = 1048576 := by
  have hk : k < l.length := (List.getElem?_eq_some_iff.1 hx).1
  have e : l[k] = x := (List.getElem?_eq_some_iff.1 hx).2
  have hb := psz_bd (l.take k)
  have hs : psz l = (l.drop (k + 1)).foldl pszF (pszF (psz (l.take k)) x) := by
    unfold psz
    conv => lhs; rw [← List.take_append_drop k l, List.foldl_append, List.drop_eq_getElem_cons hk, e, List.foldl_cons]
  have hp : pszF (psz (l.take k)) x = 1048576 := by unfold pszF; rw [if_pos h]; omega
  rw [hp] at hs
  have := @psz_from (l.drop (k + 1)) 1048576 (by omega) (by omega)
  omega
set_option maxHeartbeats 1000000 in
theorem rsize_any {N : List Nat} {A : Option Addr} {n c : Nat} {l : List Pc} (hr : Rd w N A (l.flatMap Pc.vals)) (hl : l.length = n) (hn : n ≤ 1000000) (hok : ∀ p ∈ l, p.ok)
    (h : R (.returned (.int .i64 (psz l))) w) : Calls Tryz.prog 148 #[.slice A n c] w R := by
  have H := Lib.hid h
  have HL := Lib.hid hl
  have HR := Lib.hid hr
  have HO := Lib.hid hok
  clear h hl hr hok
  go_enter Tryz.func148, Tryz.ntmps148
  go_wp2
  go_loop [3, 4] (fun sv iv => ∃ k : Nat, k ≤ n ∧ iv = .int .i64 k ∧ sv = .int .i64 (psz (l.take k))) (fun _ iv => n - (intOf iv).toNat)
  case atStart => exact ⟨0, Nat.zero_le _, rfl, rfl⟩
  case round =>
    obtain ⟨k, hk, rfl, rfl⟩ := hrel
    have hb := psz_bd (l.take k)
    by_cases hlt : k < n
    · obtain ⟨x, hx, hm⟩ := get_lt (l := l) (k := k) (by rw [HL.out]; exact hlt)
      obtain ⟨b, off, rfl, _, _, hc⟩ := rd_at HR.out pvals_len (by omega) hx
      have c2 := hc 2 _ rfl
      have hxo := (HO.out x hm).2.2
      have hst : psz (l.take (k + 1)) = pszF (psz (l.take k)) x := by unfold psz; exact foldl_snoc hx
      have HX := Lib.hid hx
      have HST := Lib.hid hst
      obtain ⟨s, hs⟩ : ∃ s, psz (l.take k) = s := ⟨_, rfl⟩
      rw [hs] at hb ⊢
      have HS := Lib.hid hs
      clear hc hx hst hs
      by_cases h0 : 0 < x.n
      · by_cases h1 : 1048576 - s ≤ x.n
        · have ht := psz_top HX.out h0 (by rw [HS.out]; exact h1)
          have HT := Lib.hid ht
          clear ht
          go_wp2
          exact ricast H.out HT.out
        · have hv : psz (l.take (k + 1)) = s + x.n := by rw [HST.out, HS.out]; unfold pszF; rw [if_pos h0]; omega
          have HV := Lib.hid hv
          clear hv
          go_wp2
          exact ⟨⟨k + 1, by omega, by go_num, icast (by rw [HV.out])⟩, by simp [intOf]; omega⟩
      · have hv : psz (l.take (k + 1)) = s := by rw [HST.out, HS.out]; unfold pszF; rw [if_neg h0]
        have HV := Lib.hid hv
        clear hv
        go_wp2
        exact ⟨⟨k + 1, by omega, by go_num, icast (by rw [HV.out])⟩, by simp [intOf]; omega⟩
    · have e : l.take k = l := List.take_of_length_le (by have := HL.out; omega)
      rw [e]
      go_wp2
      exact H.out
end
end
/-! ### The document's gather: Check. -/
section
open Go.RowKit
set_option linter.unusedVariables false
set_option linter.unusedSimpArgs false
set_option maxRecDepth 100000
section
variable {R : Ending → World → Prop} {bM bO bH bB : Nat} {fs : List Fr} {w : World}
theorem any_stop {l : List Pc} {p : Pc → Bool} {k : Nat} {x : Pc} (hx : l[k]? = some x) (h : p x = true) : l.any p = true := List.any_eq_true.2 ⟨x, List.mem_of_getElem? hx, h⟩
theorem any_next {l : List Pc} {p : Pc → Bool} {k : Nat} {x : Pc} (hx : l[k]? = some x) (h0 : (l.take k).any p = false) (h : p x = false) : (l.take (k + 1)).any p = false := by
  rw [any_snoc_pc hx, h0, h]; rfl
set_option maxHeartbeats 4000000 in
theorem rcheck_any (hM : RT w bM bO bH bB fs) (env : Int) {A : Option Addr} {n c : Nat} {l : List Pc} (hr : Rd w [] A (l.flatMap Pc.vals)) (hl : l.length = n) (hn : n ≤ 1000000) (hok : ∀ p ∈ l, p.ok)
    (h : ∀ w', Kp [] w w' → R (.returned (.int .i64 (checkE fs env l))) w') : Calls Tryz.prog 117 #[.pointer (some ⟨bM, 0, none⟩), .int .i64 env, .slice A n c] w R := by
  have H := Lib.hid h
  have HL := Lib.hid hl
  have HR := Lib.hid hr
  have HO := Lib.hid hok
  have HM := Lib.hid hM
  obtain ⟨cc0, cc1, cc2, ht⟩ := hM.t
  have HTT := Lib.hid ht
  have hle := hM.n1
  have HC := Lib.hid (show checkE fs env l = (if envB env = false ∨ l = [] then 1 else if l.any (kbad fs.length) then 1 else if 16 < l.length ∨ 1024 < psz l then 2 else if l.any (fun p => tOwner fs p.f != env) then 20 else 0) from rfl)
  generalize checkE fs env l = e at *
  clear h hl hr hok hM ht
  by_cases he : envB env = true
  · have hev : env = 1 ∨ env = 2 := by unfold envB at he; have := of_decide_eq_true he; omega
    by_cases hn0 : n = 0
    · subst hn0
      have hl0 : l = [] := List.eq_nil_of_length_eq_zero HL.out
      have hv : e = 1 := by rw [HC.out, if_pos (.inr hl0)]
      subst hv
      have d1 : ¬ env < 1 := by omega
      have d2 : ¬ 2 < env := by omega
      clear hev
      go_enter Tryz.func117, Tryz.ntmps117
      go_wp2
      exact H.out _ (Kp.refl _ _)
    · have hln : l ≠ [] := by intro h; have := HL.out; rw [h] at this; simp at this; omega
      have HC2 : Hid (e = (if l.any (kbad fs.length) then 1 else if 16 < l.length ∨ 1024 < psz l then 2 else if l.any (fun p => tOwner fs p.f != env) then 20 else 0)) := Lib.hid (by rw [HC.out, if_neg (fun h => h.elim (fun h => by rw [he] at h; cases h) hln)])
      have d1 : ¬ env < 1 := by omega
      have d2 : ¬ 2 < env := by omega
      have b0 : ((n : Int) == 0) = false := by simp; omega
      have b1 : (n == 0) = false := by simp; omega
      clear HC hev hln
      go_enter Tryz.func117, Tryz.ntmps117
      go_wp2
      go_loopw [7] (fun iv wr => ∃ k : Nat, k ≤ n ∧ iv = .int .i64 k ∧ Kp [] w wr ∧ Hid ((l.take k).any (kbad fs.length) = false)) (fun iv _ => n - (intOf iv).toNat)
      case atStart => exact ⟨0, Nat.zero_le _, rfl, Kp.refl _ _, Lib.hid rfl⟩
      case round =>
        obtain ⟨k, hk, rfl, kr, hbad⟩ := hrel
        by_cases hlt : k < n
        · obtain ⟨x, hx, hm⟩ := get_lt (l := l) (k := k) (by rw [HL.out]; exact hlt)
          obtain ⟨b, off, rfl, _, _, hc⟩ := rd_at (HR.out.kp kr (by simp)) pvals_len (by omega) hx
          have c0 := hc 0 _ rfl
          have c1 := hc 1 _ rfl
          have c2 := hc 2 _ rfl
          rw [Nat.add_zero] at c0
          have q0 := (HTT.out.kp kr (by simp)).cell 0
          simp only [List.getElem?_cons_zero] at q0
          have hxo := HO.out x hm
          have HX := Lib.hid hx
          have HXO := Lib.hid hxo
          have HS : Hid (kbad fs.length x = true → e = 1) := Lib.hid (fun h => by rw [HC2.out, if_pos (any_stop HX.out h)])
          clear hc hx hxo
          by_cases z1 : x.n = 0
          · have g1 : (x.n == 0) = true := by simp [z1]
            have hv := HS.out (by unfold kbad; simp [z1])
            subst hv
            clear z1
            go_wp2_with fail
            refine wp_region_kp (by kernel_rfl) (by kernel_rfl) ?_
            repeat (go_big_quiet_step (fail))
            refine wpQuiet_nil ?_
            intro w3 k3
            go_wp2
            exact H.out _ (kr.trans k3)
          · have g1 : (x.n == 0) = false := by simpa using z1
            cases hw : wB x
            · have hv := HS.out (by unfold kbad; simp [hw])
              subst hv
              have HW := Lib.hid hw
              clear hw
              go_wp2_with fail
              refine wp_region_kp (by kernel_rfl) (by kernel_rfl) ?_
              repeat (go_big_quiet_step ((go_at_call 87; refine pwithin_any x HXO.out (fun w3 k3 => ?_); rw [HW.out]; exact kpx_mk k3)))
              refine wpQuiet_nil ?_
              intro w3 k3
              go_wp2
              exact H.out _ (kr.trans k3)
            · have HW := Lib.hid hw
              have hwb := wB_bd hw
              by_cases f0 : x.f < 0
              · have g2 : decide (x.f < 0) = true := by simpa using f0
                have hv := HS.out (by unfold kbad; simp [f0])
                subst hv
                clear hw
                go_wp2_with fail
                refine wp_region_kp (by kernel_rfl) (by kernel_rfl) ?_
                repeat (go_big_quiet_step ((go_at_call 87; refine pwithin_any x HXO.out (fun w3 k3 => ?_); rw [HW.out]; exact kpx_mk k3)))
                refine wpQuiet_nil ?_
                intro w3 k3
                go_wp2
                exact H.out _ (kr.trans k3)
              · have g2 : decide (x.f < 0) = false := by simpa using f0
                by_cases f1 : (fs.length : Int) ≤ x.f
                · have g3 : decide ((fs.length : Int) ≤ x.f) = true := by simpa using f1
                  have hv := HS.out (by unfold kbad; simp [f1])
                  subst hv
                  clear hw
                  go_wp2_with fail
                  refine wp_region_kp (by kernel_rfl) (by kernel_rfl) ?_
                  repeat (go_big_quiet_step ((go_at_call 87; refine pwithin_any x HXO.out (fun w3 k3 => ?_); rw [HW.out]; exact kpx_mk k3)))
                  refine wpQuiet_nil ?_
                  intro w3 k3
                  go_wp2
                  exact H.out _ (kr.trans k3)
                · have g3 : decide ((fs.length : Int) ≤ x.f) = false := by simpa using f1
                  have HN := Lib.hid (any_next HX.out hbad.out (by unfold kbad; rw [hw]; simp; omega))
                  clear hw
                  go_wp2_with fail
                  refine wp_region_kp (by kernel_rfl) (by kernel_rfl) ?_
                  repeat (go_big_quiet_step ((go_at_call 87; refine pwithin_any x HXO.out (fun w3 k3 => ?_); rw [HW.out]; exact kpx_mk k3)))
                  refine wpQuiet_nil ?_
                  intro w3 k3
                  go_wp2
                  exact ⟨⟨k + 1, by omega, by go_num, kr.trans k3, HN⟩, by simp [intOf]; omega⟩
        · obtain rfl : k = n := by omega
          have hnb : l.any (kbad fs.length) = false := by
            have h := hbad.out
            rwa [List.take_of_length_le (by have := HL.out; omega)] at h
          have HC3 : Hid (e = (if 16 < l.length ∨ 1024 < psz l then 2 else if l.any (fun p => tOwner fs p.f != env) then 20 else 0)) := Lib.hid (by rw [HC2.out, hnb]; rfl)
          have HIN : Hid (∀ x ∈ l, 0 ≤ x.f ∧ x.f < fs.length) := Lib.hid (fun x hx => by
            have h := List.any_eq_false.1 hnb x hx
            unfold kbad at h
            simp at h
            omega)
          have hpb := psz_bd l
          by_cases h16 : 16 < k
          · have hv : e = 2 := by rw [HC3.out, if_pos (.inl (by rw [HL.out]; exact h16))]
            subst hv
            clear hnb
            go_wp2
            exact H.out _ kr
          · by_cases h10 : 1024 < psz l
            · have hv : e = 2 := by rw [HC3.out, if_pos (.inr h10)]
              subst hv
              clear hnb
              go_wp2_with (go_at_call 148; (refine rsize_any (HR.out.kp kr (by simp)) HL.out hn HO.out ?_))
              exact H.out _ kr
            · have HC4 : Hid (e = (if l.any (fun p => tOwner fs p.f != env) then 20 else 0)) := Lib.hid (by rw [HC3.out, if_neg (fun h => h.elim (fun h => by rw [HL.out] at h; omega) h10)])
              clear hnb
              go_wp2_with (go_at_call 148; (refine rsize_any (HR.out.kp kr (by simp)) HL.out hn HO.out ?_))
              go_loopw [8] (fun iv wr => ∃ j : Nat, j ≤ k ∧ iv = .int .i64 j ∧ Kp [] w wr ∧ Hid ((l.take j).any (fun p => tOwner fs p.f != env) = false)) (fun iv _ => k - (intOf iv).toNat)
              case atStart => exact ⟨0, Nat.zero_le _, rfl, kr, Lib.hid rfl⟩
              case round =>
                obtain ⟨j, hj, rfl, kr2, hown⟩ := hrel
                by_cases hlt2 : j < k
                · obtain ⟨x, hx, hm⟩ := get_lt (l := l) (k := j) (by rw [HL.out]; exact hlt2)
                  obtain ⟨b, off, rfl, _, _, hc⟩ := rd_at (HR.out.kp kr2 (by simp)) pvals_len (by omega) hx
                  have c0 := hc 0 _ rfl
                  rw [Nat.add_zero] at c0
                  have q0 := (HTT.out.kp kr2 (by simp)).cell 0
                  simp only [List.getElem?_cons_zero] at q0
                  obtain ⟨i0, i1⟩ := HIN.out x hm
                  obtain ⟨i, hi⟩ : ∃ i : Nat, x.f = i := ⟨x.f.toNat, by omega⟩
                  have hil : i < fs.length := by omega
                  obtain ⟨y, hy⟩ : ∃ y, fs[i]? = some y := ⟨_, List.getElem?_eq_getElem hil⟩
                  have y0 := (HM.out.kp kr2 (by simp) (by simp) (by simp) (by simp)).ow hy
                  have how : tOwner fs x.f = y.ow := by unfold tOwner fat; rw [hi, if_pos (by omega), Int.toNat_natCast, hy]
                  rw [hi] at c0
                  have HX := Lib.hid hx
                  have HW := Lib.hid how
                  clear hc hx hy how i0 i1
                  cases hb : (y.ow != env)
                  · have HN := Lib.hid (any_next (p := fun p => tOwner fs p.f != env) HX.out hown.out (by show (tOwner fs x.f != env) = _; rw [HW.out]; exact hb))
                    go_wp2
                    go_quiet (fail)
                    go_wp2
                    exact ⟨⟨j + 1, by omega, by go_num, kr2.drewN _, HN⟩, by simp [intOf]; omega⟩
                  · have hv : e = 20 := by rw [HC4.out, if_pos (any_stop (p := fun p => tOwner fs p.f != env) HX.out (by show (tOwner fs x.f != env) = _; rw [HW.out]; exact hb))]
                    subst hv
                    go_wp2
                    go_quiet (fail)
                    go_wp2
                    exact H.out _ (kr2.drewN _)
                · have hv : e = 0 := by
                    have h := hown.out
                    rw [List.take_of_length_le (by have := HL.out; omega)] at h
                    rw [HC4.out, h]; rfl
                  subst hv
                  go_wp2
                  exact H.out _ kr2
  · have hv : e = 1 := by rw [HC.out, if_pos (.inl (by simpa using he))]
    subst hv
    have hev : env < 1 ∨ (¬ env < 1 ∧ 2 < env) := by
      have : ¬ (1 ≤ env ∧ env ≤ 2) := fun h => he (by unfold envB; simp [h])
      omega
    rcases hev with h1 | ⟨h1, h2⟩
    all_goals
      go_enter Tryz.func117, Tryz.ntmps117
      go_wp2
      exact H.out _ (Kp.refl _ _)
end
end
end Go.Proofs.YtedblbpmlbjnhaaGreat
