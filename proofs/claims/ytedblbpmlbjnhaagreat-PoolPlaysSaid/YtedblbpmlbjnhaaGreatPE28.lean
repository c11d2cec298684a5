/- The document's gather: Within, Size, Check. The document's gather: Check. The document's gather: Drop. -/
import Derived.Test.YtedblbpmlbjnhaaGreatPE14
import Derived.Test.YtedblbpmlbjnhaaGreatPE21
import Derived.BigQuiet
import Derived.BigRegion
namespace Go.Proofs.YtedblbpmlbjnhaaGreat
/-! ### The document's gather: Within, Size, Check. -/
section
open Go.RowKit
set_option linter.unusedVariables false
set_option linter.unusedSimpArgs false
set_option maxRecDepth 100000
section
variable {R : Ending → World → Prop} {bM bO bH bB : Nat} {fs : List Fr} {w : World}
theorem pwithin_any (p : Pc) (hp : p.ok) (h : ∀ w', Kp [] w w' → R (.returned (.bool (wB p))) w') : Calls Tryz.prog 87 #[.agg #[.int .i64 p.f, .int .i64 p.o, .int .i64 p.n]] w R := by
  have H := Lib.hid h
  obtain ⟨_, ⟨o1, o2⟩, ⟨n1, n2⟩⟩ := hp
  obtain ⟨f, o, n⟩ := p
  simp only at *
  clear h
  go_enter Tryz.func87, Tryz.ntmps87
  go_wp2
  all_goals (refine rcast (H.out _ ((Kp.refl _ _).alloc _)) (congrArg Value.bool ?_); rw [Bool.eq_iff_iff]; simp [wB] <;> omega)
theorem psz_top {l : List Pc} {k : Nat} {x : Pc} (hx : l[k]? = some x) (h : 0 < x.n) (h2 : 1048576 - psz (l.take k) ≤ x.n) : psz l = 1048576 := by
  have hk : k < l.length := (List.getElem?_eq_some_iff.1 hx).1
  have e : l[k] = x := (List.getElem?_eq_some_iff.1 hx).2
  have hb := psz_bd (l.take k)
  have hs : psz l = (l.drop (k + 1)).foldl pszF (pszF (psz (l.take k)) x) := by
    unfold psz
    conv => lhs; rw [← List.take_append_drop k l, List.foldl_append, List.drop_eq_getElem_cons hk, e, List.foldl_cons]
  have hp : pszF (psz (l.take k)) x = 1048576 := by unfold pszF; rw [if_pos h]; omega
  rw [hp] at hs
  have := @psz_from (l.drop (k + 1)) 1048576 (by omega) (by omega)
  omega
set_option maxHeartbeats 1000000 in
theorem rsize_any {N : List Nat} {A : Option Addr} {n c : Nat} {l : List Pc} (hr : Rd w N A (l.flatMap Pc.vals)) (hl : l.length = n) (hn : n ≤ 1000000) (hok : ∀ p ∈ l, p.ok)
    (h : R (.returned (.int .i64 (psz l))) w) : Calls Tryz.prog 148 #[.slice A n c] w R := by
  have H := Lib.hid h
  have HL := Lib.hid hl
  have HR := Lib.hid hr
  have HO := Lib.hid hok
  clear h hl hr hok
  go_enter Tryz.func148, Tryz.ntmps148
  go_wp2
  go_loop [3, 4] (fun sv iv => ∃ k : Nat, k ≤ n ∧ iv = .int .i64 k ∧ sv = .int .i64 (psz (l.take k))) (fun _ iv => n - (intOf iv).toNat)
  case atStart => exact ⟨0, Nat.zero_le _, rfl, rfl⟩
  case round =>
    obtain ⟨k, hk, rfl, rfl⟩ := hrel
    have hb := psz_bd (l.take k)
    by_cases hlt : k < n
    · obtain ⟨x, hx, hm⟩ := get_lt (l := l) (k := k) (by rw [HL.out]; exact hlt)
      obtain ⟨b, off, rfl, _, _, hc⟩ := rd_at HR.out pvals_len (by omega) hx
      have c2 := hc 2 _ rfl
      have hxo := (HO.out x hm).2.2
      have hst : psz (l.take (k + 1)) = pszF (psz (l.take k)) x := by unfold psz; exact foldl_snoc hx
      have HX := Lib.hid hx
      have HST := Lib.hid hst
      obtain ⟨s, hs⟩ : ∃ s, psz (l.take k) = s := ⟨_, rfl⟩
      rw [hs] at hb ⊢
      have HS := Lib.hid hs
      clear hc hx hst hs
      by_cases h0 : 0 < x.n
      · by_cases h1 : 1048576 - s ≤ x.n
        · have ht := psz_top HX.out h0 (by rw [HS.out]; exact h1)
          have HT := Lib.hid ht
          clear ht
          go_wp2
          exact ricast H.out HT.out
        · have hv : psz (l.take (k + 1)) = s + x.n := by rw [HST.out, HS.out]; unfold pszF; rw [if_pos h0]; omega
          have HV := Lib.hid hv
          clear hv
          go_wp2
          exact ⟨⟨k + 1, by omega, by go_num, icast (by rw [HV.out])⟩, by simp [intOf]; omega⟩
      · have hv : psz (l.take (k + 1)) = s := by rw [HST.out, HS.out]; unfold pszF; rw [if_neg h0]
        have HV := Lib.hid hv
        clear hv
        go_wp2
        exact ⟨⟨k + 1, by omega, by go_num, icast (by rw [HV.out])⟩, by simp [intOf]; omega⟩
    · have e : l.take k = l := List.take_of_length_le (by have := HL.out; omega)
      rw [e]
      go_wp2
      exact H.out
end
end
/-! ### The document's gather: Check. -/
section
open Go.RowKit
set_option linter.unusedVariables false
set_option linter.unusedSimpArgs false
set_option maxRecDepth 100000
section
variable {R : Ending → World → Prop} {bM bO bH bB : Nat} {fs : List Fr} {w : World}
theorem any_stop {l : List Pc} {p : Pc → Bool} {k : Nat} {x : Pc} (hx : l[k]? = some x) (h : p x = true) : l.any p = true := List.any_eq_true.2 ⟨x, List.mem_of_getElem? hx, h⟩
theorem any_next {l : List Pc} {p : Pc → Bool} {k : Nat} {x : Pc} (hx : l[k]? = some x) (h0 : (l.take k).any p = false) (h : p x = false) : (l.take (k + 1)).any p = false := by
  rw [any_snoc_pc hx, h0, h]; rfl
set_option maxHeartbeats 4000000 in
theorem rcheck_any (hM : RT w bM bO bH bB fs) (env : Int) {A : Option Addr} {n c : Nat} {l : List Pc} (hr : Rd w [] A (l.flatMap Pc.vals)) (hl : l.length = n) (hn : n ≤ 1000000) (hok : ∀ p ∈ l, p.ok)
    (h : ∀ w', Kp [] w w' → R (.returned (.int .i64 (checkE fs env l))) w') : Calls Tryz.prog 117 #[.pointer (some ⟨bM, 0, none⟩), .int .i64 env, .slice A n c] w R := by
  have H := Lib.hid h
  have HL := Lib.hid hl
  have HR := Lib.hid hr
  have HO := Lib.hid hok
  have HM := Lib.hid hM
  obtain ⟨cc0, cc1, cc2, ht⟩ := hM.t
  have HTT := Lib.hid ht
  have hle := hM.n1
  have HC := Lib.hid (show checkE fs env l = (if envB env = false ∨ l = [] then 1 else if l.any (kbad fs.length) then 1 else if 16 < l.length ∨ 1024 < psz l then 2 else if l.any (fun p => tOwner fs p.f != env) then 20 else 0) from rfl)
  generalize checkE fs env l = e at *
  clear h hl hr hok hM ht
  by_cases he : envB env = true
  · have hev : env = 1 ∨ env = 2 := by unfold envB at he; have := of_decide_eq_true he; omega
    by_cases hn0 : n = 0
    · subst hn0
      have hl0 : l = [] := List.eq_nil_of_length_eq_zero HL.out
      have hv : e = 1 := by rw [HC.out, if_pos (.inr hl0)]
      subst hv
      have d1 : ¬ env < 1 := by omega
      have d2 : ¬ 2 < env := by omega
      clear hev
      go_enter Tryz.func117, Tryz.ntmps117
      go_wp2
      exact H.out _ (Kp.refl _ _)
    · have hln : l ≠ [] := by intro h; have := HL.out; rw [h] at this; simp at this; omega
      have HC2 : Hid (e = (if l.any (kbad fs.length) then 1 else if 16 < l.length ∨ 1024 < psz l then 2 else if l.any (fun p => tOwner fs p.f != env) then 20 else 0)) := Lib.hid (by rw [HC.out, if_neg (fun h => h.elim (fun h => by rw [he] at h; cases h) hln)])
      have d1 : ¬ env < 1 := by omega
      have d2 : ¬ 2 < env := by omega
      have b0 : ((n : Int) == 0) = false := by simp; omega
      have b1 : (n == 0) = false := by simp; omega
      clear HC hev hln
      go_enter Tryz.func117, Tryz.ntmps117
      go_wp2
      go_loopw [7] (fun iv wr => ∃ k : Nat, k ≤ n ∧ iv = .int .i64 k ∧ Kp [] w wr ∧ Hid ((l.take k).any (kbad fs.length) = false)) (fun iv _ => n - (intOf iv).toNat)
      case atStart => exact ⟨0, Nat.zero_le _, rfl, Kp.refl _ _, Lib.hid rfl⟩
      case round =>
        obtain ⟨k, hk, rfl, kr, hbad⟩ := hrel
        by_cases hlt : k < n
        · obtain ⟨x, hx, hm⟩ := get_lt (l := l) (k := k) (by rw [HL.out]; exact hlt)
          obtain ⟨b, off, rfl, _, _, hc⟩ := rd_at (HR.out.kp kr (by simp)) pvals_len (by omega) hx
          have c0 := hc 0 _ rfl
          have c1 := hc 1 _ rfl
          have c2 := hc 2 _ rfl
          rw [Nat.add_zero] at c0
          have q0 := (HTT.out.kp kr (by simp)).cell 0
          simp only [List.getElem?_cons_zero] at q0
          have hxo := HO.out x hm
          have HX := Lib.hid hx
          have HXO := Lib.hid hxo
          have HS : Hid (kbad fs.length x = true → e = 1) := Lib.hid (fun h => by rw [HC2.out, if_pos (any_stop HX.out h)])
          clear hc hx hxo
          by_cases z1 : x.n = 0
          · have g1 : (x.n == 0) = true := by simp [z1]
            have hv := HS.out (by unfold kbad; simp [z1])
            subst hv
            clear z1
            go_wp2_with fail
            refine wp_region_kp (by kernel_rfl) (by kernel_rfl) ?_
            repeat (go_big_quiet_step (fail))
            refine wpQuiet_nil ?_
            intro w3 k3
            go_wp2
            exact H.out _ (kr.trans k3)
          · have g1 : (x.n == 0) = false := by simpa using z1
            cases hw : wB x
            · have hv := HS.out (by unfold kbad; simp [hw])
              subst hv
              have HW := Lib.hid hw
              clear hw
              go_wp2_with fail
              refine wp_region_kp (by kernel_rfl) (by kernel_rfl) ?_
              repeat (go_big_quiet_step ((go_at_call 87; refine pwithin_any x HXO.out (fun w3 k3 => ?_); rw [HW.out]; exact kpx_mk k3)))
              refine wpQuiet_nil ?_
              intro w3 k3
              go_wp2
              exact H.out _ (kr.trans k3)
            · have HW := Lib.hid hw
              have hwb := wB_bd hw
              by_cases f0 : x.f < 0
              · have g2 : decide (x.f < 0) = true := by simpa using f0
                have hv := HS.out (by unfold kbad; simp [f0])
                subst hv
                clear hw
                go_wp2_with fail
                refine wp_region_kp (by kernel_rfl) (by kernel_rfl) ?_
                repeat (go_big_quiet_step ((go_at_call 87; refine pwithin_any x HXO.out (fun w3 k3 => ?_); rw [HW.out]; exact kpx_mk k3)))
                refine wpQuiet_nil ?_
                intro w3 k3
                go_wp2
                exact H.out _ (kr.trans k3)
              · have g2 : decide (x.f < 0) = false := by simpa using f0
                by_cases f1 : (fs.length : Int) ≤ x.f
                · have g3 : decide ((fs.length : Int) ≤ x.f) = true := by simpa using f1
                  have hv := HS.out (by unfold kbad; simp [f1])
                  subst hv
                  clear hw
                  go_wp2_with fail
                  refine wp_region_kp (by kernel_rfl) (by kernel_rfl) ?_
                  repeat (go_big_quiet_step ((go_at_call 87; refine pwithin_any x HXO.out (fun w3 k3 => ?_); rw [HW.out]; exact kpx_mk k3)))
                  refine wpQuiet_nil ?_
                  intro w3 k3
                  go_wp2
                  exact H.out _ (kr.trans k3)
                · have g3 : decide ((fs.length : Int) ≤ x.f) = false := by simpa using f1
                  have HN := Lib.hid (any_next HX.out hbad.out (by unfold kbad; rw [hw]; simp; omega))
                  clear hw
                  go_wp2_with fail
                  refine wp_region_kp (by kernel_rfl) (by kernel_rfl) ?_
                  repeat (go_big_quiet_step ((go_at_call 87; refine pwithin_any x HXO.out (fun w3 k3 => ?_); rw [HW.out]; exact kpx_mk k3)))
                  refine wpQuiet_nil ?_
                  intro w3 k3
                  go_wp2
                  exact ⟨⟨k + 1, by omega, by go_num, kr.trans k3, HN⟩, by simp [intOf]; omega⟩
        · obtain rfl : k = n := by omega
          have hnb : l.any (kbad fs.length) = false := by
            have h := hbad.out
            rwa [List.take_of_length_le (by have := HL.out; omega)] at h
          have HC3 : Hid (e = (if 16 < l.length ∨ 1024 < psz l then 2 else if l.any (fun p => tOwner fs p.f != env) then 20 else 0)) := Lib.hid (by rw [HC2.out, hnb]; rfl)
          have HIN : Hid (∀ x ∈ l, 0 ≤ x.f ∧ x.f < fs.length) := Lib.hid (fun x hx => by
            have h := List.any_eq_false.1 hnb x hx
            unfold kbad at h
            simp at h
            omega)
          have hpb := psz_bd l
          by_cases h16 : 16 < k
          · have hv : e = 2 := by rw [HC3.out, if_pos (.inl (by rw [HL.out]; exact h16))]
            subst hv
            clear hnb
            go_wp2
            exact H.out _ kr
          · by_cases h10 : 1024 < psz l
            · have hv : e = 2 := by rw [HC3.out, if_pos (.inr h10)]
              subst hv
              clear hnb
              go_wp2_with (go_at_call 148; (refine rsize_any (HR.out.kp kr (by simp)) HL.out hn HO.out ?_))
              exact H.out _ kr
            · have HC4 : Hid (e = (if l.any (fun p => tOwner fs p.f != env) then 20 else 0)) := Lib.hid (by rw [HC3.out, if_neg (fun h => h.elim (fun h => by rw [HL.out] at h; omega) h10)])
              clear hnb
              go_wp2_with (go_at_call 148; (refine rsize_any (HR.out.kp kr (by simp)) HL.out hn HO.out ?_))
              go_loopw [8] (fun iv wr => ∃ j : Nat, j ≤ k ∧ iv = .int .i64 j ∧ Kp [] w wr ∧ Hid ((l.take j).any (fun p => tOwner fs p.f != env) = false)) (fun iv _ => k - (intOf iv).toNat)
              case atStart => exact ⟨0, Nat.zero_le _, rfl, kr, Lib.hid rfl⟩
              case round =>
                obtain ⟨j, hj, rfl, kr2, hown⟩ := hrel
                by_cases hlt2 : j < k
                · obtain ⟨x, hx, hm⟩ := get_lt (l := l) (k := j) (by rw [HL.out]; exact hlt2)
                  obtain ⟨b, off, rfl, _, _, hc⟩ := rd_at (HR.out.kp kr2 (by simp)) pvals_len (by omega) hx
                  have c0 := hc 0 _ rfl
                  rw [Nat.add_zero] at c0
                  have q0 := (HTT.out.kp kr2 (by simp)).cell 0
                  simp only [List.getElem?_cons_zero] at q0
                  obtain ⟨i0, i1⟩ := HIN.out x hm
                  obtain ⟨i, hi⟩ : ∃ i : Nat, x.f = i := ⟨x.f.toNat, by omega⟩
                  have hil : i < fs.length := by omega
                  obtain ⟨y, hy⟩ : ∃ y, fs[i]? = some y := ⟨_, List.getElem?_eq_getElem hil⟩
                  have y0 := (HM.out.kp kr2 (by simp) (by simp) (by simp) (by simp)).ow hy
                  have how : tOwner fs x.f = y.ow := by unfold tOwner fat; rw [hi, if_pos (by omega), Int.toNat_natCast, hy]
                  rw [hi] at c0
                  have HX := Lib.hid hx
                  have HW := Lib.hid how
                  clear hc hx hy how i0 i1
                  cases hb : (y.ow != env)
                  · have HN := Lib.hid (any_next (p := fun p => tOwner fs p.f != env) HX.out hown.out (by show (tOwner fs x.f != env) = _; rw [HW.out]; exact hb))
                    go_wp2
                    go_quiet (fail)
                    go_wp2
                    exact ⟨⟨j + 1, by omega, by go_num, kr2.drewN _, HN⟩, by simp [intOf]; omega⟩
                  · have hv : e = 20 := by rw [HC4.out, if_pos (any_stop (p := fun p => tOwner fs p.f != env) HX.out (by show (tOwner fs x.f != env) = _; rw [HW.out]; exact hb))]
                    subst hv
                    go_wp2
                    go_quiet (fail)
                    go_wp2
                    exact H.out _ (kr2.drewN _)
                · have hv : e = 0 := by
                    have h := hown.out
                    rw [List.take_of_length_le (by have := HL.out; omega)] at h
                    rw [HC4.out, h]; rfl
                  subst hv
                  go_wp2
                  exact H.out _ kr2
  · have hv : e = 1 := by rw [HC.out, if_pos (.inl (by simpa using he))]
    subst hv
    have hev : env < 1 ∨ (¬ env < 1 ∧ 2 < env) := by
      have : ¬ (1 ≤ env ∧ env ≤ 2) := fun h => he (by unfold envB; simp [h])
      omega
    rcases hev with h1 | ⟨h1, h2⟩
    all_goals
      go_enter Tryz.func117, Tryz.ntmps117
      go_wp2
      exact H.out _ (Kp.refl _ _)
end
end
/-! ### The document's gather: Drop. -/
section
open Go.RowKit
set_option linter.unusedVariables false
set_option linter.unusedSimpArgs false
set_option maxRecDepth 100000
section
variable {R : Ending → World → Prop} {bM bO bH bB : Nat} {fs : List Fr} {w : World}
/-- How many pieces are of this frame. -/
def cntF (l : List Pc) (f : Int) : Nat := l.countP (fun p => p.f == f)
/-- A piece whose frame has too few holds. -/
def dbad (fs : List Fr) (l : List Pc) (p : Pc) : Bool := match fat fs p.f with | none => true | some y => decide (y.ho < cntF l p.f)
def decF (fs : List Fr) (p : Pc) : List Fr := match fat fs p.f with | none => fs | some y => fs.set p.f.toNat { y with ho := y.ho - 1 }
theorem cnt_next {l : List Pc} {k : Nat} {x : Pc} (hx : l[k]? = some x) (f : Int) : cntF (l.take (k + 1)) f = cntF (l.take k) f + if x.f == f then 1 else 0 := by
  have hk : k < l.length := (List.getElem?_eq_some_iff.1 hx).1
  have e : l[k] = x := (List.getElem?_eq_some_iff.1 hx).2
  unfold cntF
  rw [List.take_succ_eq_append_getElem hk, e, List.countP_append]
  simp [List.countP_cons]
set_option maxHeartbeats 4000000 in
theorem rdrop_good (hM : RT w bM bO bH bB fs) {A : Option Addr} {n c : Nat} {l : List Pc} (hr : Rd w [] A (l.flatMap Pc.vals)) (hl : l.length = n) (hn : n ≤ 1000000) (hok : ∀ p ∈ l, p.ok)
    (hb : l.any (dbad fs l) = false) (hB : ∀ y ∈ fs, -1000000 ≤ y.ho ∧ y.ho ≤ 1000000) (hrN : Rd w [bO, bH, bB] A (l.flatMap Pc.vals)) (h : ∀ w', Kp [bO, bH, bB] w w' → RT w' bM bO bH bB (l.foldl decF fs) → R (.returned (.int .i64 0)) w') : Calls Tryz.prog 66 #[.pointer (some ⟨bM, 0, none⟩), .slice A n c] w R := by
  have H := Lib.hid h
  have HL := Lib.hid hl
  have HM := Lib.hid hM
  have HR := Lib.hid hr
  have HB := Lib.hid hb
  have HBB := Lib.hid hB
  have HRN := Lib.hid hrN
  obtain ⟨cc0, cc1, cc2, ht⟩ := hM.t
  have q0 := ht.cell 0
  have q1 := ht.cell 1
  simp only [List.getElem?_cons_zero, List.getElem?_cons_succ] at q0 q1
  have hle := hM.n1
  clear h hl hM hr hb ht hB hrN
  go_enter Tryz.func66, Tryz.ntmps66
  go_wp2
  go_loop [5] (fun iv => ∃ k : Nat, k ≤ n ∧ iv = .int .i64 k ∧ Hid ((l.take k).any (dbad fs l) = false)) (fun iv => n - (intOf iv).toNat)
  case atStart => exact ⟨0, Nat.zero_le _, rfl, Lib.hid rfl⟩
  case round =>
    obtain ⟨k, hk, rfl, hno⟩ := hrel
    by_cases hlt : k < n
    · obtain ⟨x, hx, hm⟩ := get_lt (l := l) (k := k) (by rw [HL.out]; exact hlt)
      obtain ⟨b, off, rfl, _, _, hc⟩ := rd_at HR.out pvals_len (by omega) hx
      have c0 := hc 0 _ rfl
      rw [Nat.add_zero] at c0
      have HX := Lib.hid hx
      clear hc hx
      have hnb : dbad fs l x = false := by simpa using List.any_eq_false.1 HB.out x hm
      by_cases f0 : x.f < 0
      · exfalso
        have : fat fs x.f = none := by unfold fat; rw [if_neg (by omega)]
        unfold dbad at hnb; rw [this] at hnb; cases hnb
      · by_cases f1 : (fs.length : Int) ≤ x.f
        · exfalso
          have : fat fs x.f = none := by
            unfold fat
            split
            · exact List.getElem?_eq_none (by omega)
            · rfl
          unfold dbad at hnb; rw [this] at hnb; cases hnb
        · obtain ⟨i, hi⟩ : ∃ i : Nat, x.f = i := ⟨x.f.toNat, by omega⟩
          have hil : i < fs.length := by omega
          obtain ⟨y, hy⟩ : ∃ y, fs[i]? = some y := ⟨_, List.getElem?_eq_getElem hil⟩
          have y1 := HM.out.ho hy
          have hfa : fat fs x.f = some y := by unfold fat; rw [hi, if_pos (by omega), Int.toNat_natCast, hy]
          have HD : Hid (dbad fs l x = decide (y.ho < cntF l (i : Int))) := Lib.hid (by unfold dbad; rw [hfa, hi])
          rw [hi] at c0
          clear hfa hy f0 f1
          have i0 : ¬ (i : Int) < 0 := by omega
          go_wp2
          go_loop [7, 8] (fun nv jv => ∃ j : Nat, j ≤ n ∧ jv = .int .i64 j ∧ nv = .int .i64 (cntF (l.take j) (i : Int))) (fun _ jv => n - (intOf jv).toNat)
          case atStart => exact ⟨0, Nat.zero_le _, rfl, rfl⟩
          case round =>
            obtain ⟨j, hj, rfl, rfl⟩ := hrel
            have hcj : cntF (l.take j) (i : Int) ≤ j := Nat.le_trans List.countP_le_length (List.length_take_le _ _)
            by_cases hlt2 : j < n
            · obtain ⟨z, hz, _⟩ := get_lt (l := l) (k := j) (by rw [HL.out]; exact hlt2)
              obtain ⟨b2, off2, hA2, _, _, hc2⟩ := rd_at HR.out pvals_len (by omega) hz
              injection hA2 with hA2
              injection hA2 with e1 e2
              subst e1; subst e2
              have z0 := hc2 0 _ rfl
              rw [Nat.add_zero] at z0
              have HN := Lib.hid (cnt_next hz (i : Int))
              clear hc2 hz
              cases hzf : (z.f == (i : Int))
              · have HN2 : Hid (cntF (l.take (j + 1)) (i : Int) = cntF (l.take j) (i : Int)) := Lib.hid (by rw [HN.out, hzf]; rfl)
                clear HN
                go_wp2
                exact ⟨⟨j + 1, by omega, by go_num, icast (by rw [HN2.out])⟩, by simp [intOf]; omega⟩
              · have HN2 : Hid (cntF (l.take (j + 1)) (i : Int) = cntF (l.take j) (i : Int) + 1) := Lib.hid (by rw [HN.out, hzf]; rfl)
                clear HN
                go_wp2
                exact ⟨⟨j + 1, by omega, by go_num, icast (by rw [HN2.out]; omega)⟩, by simp [intOf]; omega⟩
            · have e : l.take j = l := List.take_of_length_le (by have := HL.out; omega)
              rw [e]
              obtain ⟨m, hm2⟩ : ∃ m, cntF l (i : Int) = m := ⟨_, rfl⟩
              rw [hm2] at HD ⊢
              clear e hcj
              by_cases hlow : y.ho < m
              · exfalso
                rw [HD.out] at hnb
                simp at hnb
                omega
              · have HN := Lib.hid (any_next (p := dbad fs l) HX.out hno.out (by rw [HD.out]; simp; omega))
                go_wp2
                exact ⟨⟨k + 1, by omega, by go_num, HN⟩, by simp [intOf]; omega⟩
    · have HRG : Hid (∀ x ∈ l, 0 ≤ x.f ∧ x.f < fs.length) := Lib.hid (fun x hx => by
        have hnb : dbad fs l x = false := by simpa using List.any_eq_false.1 HB.out x hx
        cases hfa : fat fs x.f with
        | none => unfold dbad at hnb; rw [hfa] at hnb; cases hnb
        | some y => exact ⟨(fat_some hfa).1, fat_lt hfa⟩)
      clear q0 q1
      go_wp2
      go_loopw [9] (fun iv wr => ∃ (j : Nat) (fr : List Fr), j ≤ n ∧ iv = .int .i64 j ∧ Kp [bO, bH, bB] w wr ∧ RT wr bM bO bH bB fr ∧ fr.length = fs.length ∧ Hid (fr = (l.take j).foldl decF fs ∧ ∀ y ∈ fr, -1000000 - (j : Int) ≤ y.ho ∧ y.ho ≤ 1000000)) (fun iv _ => n - (intOf iv).toNat)
      case atStart => exact ⟨0, fs, Nat.zero_le _, rfl, Kp.refl _ _, HM.out, rfl, rfl, by simpa using HBB.out⟩
      case round =>
        obtain ⟨j, fr, hj, rfl, kr, mr, hfl, hq⟩ := hrel
        by_cases hlt2 : j < n
        · obtain ⟨x, hx, hm⟩ := get_lt (l := l) (k := j) (by rw [HL.out]; exact hlt2)
          obtain ⟨b, off, rfl, _, _, hc⟩ := rd_at (HRN.out.kp kr (by simp)) pvals_len (by omega) hx
          have c0 := hc 0 _ rfl
          rw [Nat.add_zero] at c0
          obtain ⟨f0, f1⟩ := HRG.out x hm
          obtain ⟨i, hi⟩ : ∃ i : Nat, x.f = i := ⟨x.f.toNat, by omega⟩
          have hil : i < fr.length := by omega
          obtain ⟨y, hy⟩ : ∃ y, fr[i]? = some y := ⟨_, List.getElem?_eq_getElem hil⟩
          have hyb := hq.out.2 y (List.mem_of_getElem? hy)
          have hstep : decF fr x = fr.set i { y with ho := y.ho - 1 } := by
            have hf : fat fr x.f = some y := by unfold fat; rw [hi, if_pos (by omega), Int.toNat_natCast, hy]
            unfold decF; rw [hf, hi]; simp
          have HS : Hid (fr.set i { y with ho := y.ho - 1 } = (l.take (j + 1)).foldl decF fs ∧ ∀ z ∈ fr.set i { y with ho := y.ho - 1 }, -1000000 - ((j + 1 : Nat) : Int) ≤ z.ho ∧ z.ho ≤ 1000000) := Lib.hid ⟨by
              rw [foldl_snoc (f := decF) (b := fs) hx, ← hq.out.1, hstep], by
              intro z hz
              rcases mem_set hz with rfl | hz
              · simp only; omega
              · have := hq.out.2 z hz; omega⟩
          rw [hi] at c0
          obtain ⟨d0, d1, d2, ht⟩ := mr.t
          have q1 := ht.cell 1
          simp only [List.getElem?_cons_zero, List.getElem?_cons_succ] at q1
          have x1 := mr.ho hy
          have z1 := mr.h.frozen i
          have HY := Lib.hid hy
          have MR := Lib.hid mr
          have i0 : ¬ (i : Int) < 0 := by omega
          have yb1 : -1000000 - (j : Int) ≤ y.ho := hyb.1
          have yb2 : y.ho ≤ 1000000 := hyb.2
          clear hc hx hy hstep ht mr hyb hq f0 f1 hi
          go_wp2
          go_region
          all_goals go_wp2
          all_goals exact ⟨⟨j + 1, _, by omega, by go_num, (by repeat first | exact kr | refine Kp.setCell ?_ (.inl (by simp)) _ | refine Kp.drewN ?_ _ | refine Kp.drew ?_), (by repeat first | exact MR.out | refine RT.putHo ?_ HY.out _ | refine RT.drewN ?_ _ | refine RT.drew ?_), (by rw [List.length_set]; exact hfl), HS⟩, by simp [intOf]; omega⟩
        · have e : l.take j = l := List.take_of_length_le (by have := HL.out; omega)
          rw [e] at hq
          have hfr := hq.out.1
          clear e
          go_wp2
          exact H.out _ kr (by rw [← hfr]; exact mr)
end
end
end Go.Proofs.YtedblbpmlbjnhaaGreat
