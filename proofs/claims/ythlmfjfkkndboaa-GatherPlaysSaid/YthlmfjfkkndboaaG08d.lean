/- The document's gather: Drop. -/
import Derived.Test.YthlmfjfkkndboaaG08b
import Derived.BigRegion
namespace Go.Proofs.Ythlmfjfkkndboaa
open Go.RowKit
set_option linter.unusedVariables false
set_option linter.unusedSimpArgs false
set_option maxRecDepth 100000
section
variable {R : Ending → World → Prop} {bM bO bH bB : Nat} {fs : List Fr} {w : World}
/-- How many pieces are of this frame. -/
def cntF (l : List Pc) (f : Int) : Nat := l.countP (fun p => p.f == f)
/-- A piece whose frame has too few holds. -/
def dbad (fs : List Fr) (l : List Pc) (p : Pc) : Bool := match fat fs p.f with | none => true | some y => decide (y.ho < cntF l p.f)
def decF (fs : List Fr) (p : Pc) : List Fr := match fat fs p.f with | none => fs | some y => fs.set p.f.toNat { y with ho := y.ho - 1 }
theorem cnt_next {l : List Pc} {k : Nat} {x : Pc} (hx : l[k]? = some x) (f : Int) : cntF (l.take (k + 1)) f = cntF (l.take k) f + if x.f == f then 1 else 0 := by
  have hk : k < l.length := (List.getElem?_eq_some_iff.1 hx).1
  have e : l[k] = x := (List.getElem?_eq_some_iff.1 hx).2
  unfold cntF
  rw [List.take_succ_eq_append_getElem hk, e, List.countP_append]
  simp [List.countP_cons]
set_option maxHeartbeats 4000000 in
theorem rdrop_bad (hM : RT w bM bO bH bB fs) {A : Option Addr} {n c : Nat} {l : List Pc} (hr : Rd w [] A (l.flatMap Pc.vals)) (hl : l.length = n) (hn : n ≤ 1000000) (hok : ∀ p ∈ l, p.ok)
    (hb : l.any (dbad fs l) = true) (h : R (.returned (.int .i64 1)) w) : Calls Try.prog 25 #[.pointer (some ⟨bM, 0, none⟩), .slice A n c] w R := by
  have H := Lib.hid h
  have HL := Lib.hid hl
  have HM := Lib.hid hM
  have HR := Lib.hid hr
  have HB := Lib.hid hb
  obtain ⟨cc0, cc1, cc2, ht⟩ := hM.t
  have q0 := ht.cell 0
  have q1 := ht.cell 1
  simp only [List.getElem?_cons_zero, List.getElem?_cons_succ] at q0 q1
  have hle := hM.n1
  clear h hl hM hr hb ht
  go_enter Try.func25, Try.ntmps25
  go_wp2
  go_loop [5] (fun iv => ∃ k : Nat, k ≤ n ∧ iv = .int .i64 k ∧ Hid ((l.take k).any (dbad fs l) = false)) (fun iv => n - (intOf iv).toNat)
  case atStart => exact ⟨0, Nat.zero_le _, rfl, Lib.hid rfl⟩
  case round =>
    obtain ⟨k, hk, rfl, hno⟩ := hrel
    by_cases hlt : k < n
    · obtain ⟨x, hx, hm⟩ := get_lt (l := l) (k := k) (by rw [HL.out]; exact hlt)
      obtain ⟨b, off, rfl, _, _, hc⟩ := rd_at HR.out pvals_len (by omega) hx
      have c0 := hc 0 _ rfl
      rw [Nat.add_zero] at c0
      have HX := Lib.hid hx
      clear hc hx
      by_cases f0 : x.f < 0
      · go_wp2
        exact H.out
      · by_cases f1 : (fs.length : Int) ≤ x.f
        · go_wp2
          exact H.out
        · obtain ⟨i, hi⟩ : ∃ i : Nat, x.f = i := ⟨x.f.toNat, by omega⟩
          have hil : i < fs.length := by omega
          obtain ⟨y, hy⟩ : ∃ y, fs[i]? = some y := ⟨_, List.getElem?_eq_getElem hil⟩
          have y1 := HM.out.ho hy
          have hfa : fat fs x.f = some y := by unfold fat; rw [hi, if_pos (by omega), Int.toNat_natCast, hy]
          have HD : Hid (dbad fs l x = decide (y.ho < cntF l (i : Int))) := Lib.hid (by unfold dbad; rw [hfa, hi])
          rw [hi] at c0
          clear hfa hy f0 f1
          have i0 : ¬ (i : Int) < 0 := by omega
          go_wp2
          go_loop [7, 8] (fun nv jv => ∃ j : Nat, j ≤ n ∧ jv = .int .i64 j ∧ nv = .int .i64 (cntF (l.take j) (i : Int))) (fun _ jv => n - (intOf jv).toNat)
          case atStart => exact ⟨0, Nat.zero_le _, rfl, rfl⟩
          case round =>
            obtain ⟨j, hj, rfl, rfl⟩ := hrel
            have hcj : cntF (l.take j) (i : Int) ≤ j := Nat.le_trans List.countP_le_length (List.length_take_le _ _)
            by_cases hlt2 : j < n
            · obtain ⟨z, hz, _⟩ := get_lt (l := l) (k := j) (by rw [HL.out]; exact hlt2)
              obtain ⟨b2, off2, hA2, _, _, hc2⟩ := rd_at HR.out pvals_len (by omega) hz
              injection hA2 with hA2
              injection hA2 with e1 e2
              subst e1; subst e2
              have z0 := hc2 0 _ rfl
              rw [Nat.add_zero] at z0
              have HN := Lib.hid (cnt_next hz (i : Int))
              clear hc2 hz
              cases hzf : (z.f == (i : Int))
              · have HN2 : Hid (cntF (l.take (j + 1)) (i : Int) = cntF (l.take j) (i : Int)) := Lib.hid (by rw [HN.out, hzf]; rfl)
                clear HN
                go_wp2
                exact ⟨⟨j + 1, by omega, by go_num, icast (by rw [HN2.out])⟩, by simp [intOf]; omega⟩
              · have HN2 : Hid (cntF (l.take (j + 1)) (i : Int) = cntF (l.take j) (i : Int) + 1) := Lib.hid (by rw [HN.out, hzf]; rfl)
                clear HN
                go_wp2
                exact ⟨⟨j + 1, by omega, by go_num, icast (by rw [HN2.out]; omega)⟩, by simp [intOf]; omega⟩
            · have e : l.take j = l := List.take_of_length_le (by have := HL.out; omega)
              rw [e]
              obtain ⟨m, hm2⟩ : ∃ m, cntF l (i : Int) = m := ⟨_, rfl⟩
              rw [hm2] at HD ⊢
              clear e hcj
              by_cases hlow : y.ho < m
              · go_wp2
                exact H.out
              · have HN := Lib.hid (any_next (p := dbad fs l) HX.out hno.out (by rw [HD.out]; simp; omega))
                go_wp2
                exact ⟨⟨k + 1, by omega, by go_num, HN⟩, by simp [intOf]; omega⟩
    · exfalso
      have h := hno.out
      rw [List.take_of_length_le (by have := HL.out; omega), HB.out] at h
      cases h
set_option maxHeartbeats 4000000 in
theorem rdrop_good (hM : RT w bM bO bH bB fs) {A : Option Addr} {n c : Nat} {l : List Pc} (hr : Rd w [] A (l.flatMap Pc.vals)) (hl : l.length = n) (hn : n ≤ 1000000) (hok : ∀ p ∈ l, p.ok)
    (hb : l.any (dbad fs l) = false) (hB : ∀ y ∈ fs, -1000000 ≤ y.ho ∧ y.ho ≤ 1000000) (hrN : Rd w [bO, bH, bB] A (l.flatMap Pc.vals)) (h : ∀ w', Kp [bO, bH, bB] w w' → RT w' bM bO bH bB (l.foldl decF fs) → R (.returned (.int .i64 0)) w') : Calls Try.prog 25 #[.pointer (some ⟨bM, 0, none⟩), .slice A n c] w R := by
  have H := Lib.hid h
  have HL := Lib.hid hl
  have HM := Lib.hid hM
  have HR := Lib.hid hr
  have HB := Lib.hid hb
  have HBB := Lib.hid hB
  have HRN := Lib.hid hrN
  obtain ⟨cc0, cc1, cc2, ht⟩ := hM.t
  have q0 := ht.cell 0
  have q1 := ht.cell 1
  simp only [List.getElem?_cons_zero, List.getElem?_cons_succ] at q0 q1
  have hle := hM.n1
  clear h hl hM hr hb ht hB hrN
  go_enter Try.func25, Try.ntmps25
  go_wp2
  go_loop [5] (fun iv => ∃ k : Nat, k ≤ n ∧ iv = .int .i64 k ∧ Hid ((l.take k).any (dbad fs l) = false)) (fun iv => n - (intOf iv).toNat)
  case atStart => exact ⟨0, Nat.zero_le _, rfl, Lib.hid rfl⟩
  case round =>
    obtain ⟨k, hk, rfl, hno⟩ := hrel
    by_cases hlt : k < n
    · obtain ⟨x, hx, hm⟩ := get_lt (l := l) (k := k) (by rw [HL.out]; exact hlt)
      obtain ⟨b, off, rfl, _, _, hc⟩ := rd_at HR.out pvals_len (by omega) hx
      have c0 := hc 0 _ rfl
      rw [Nat.add_zero] at c0
      have HX := Lib.hid hx
      clear hc hx
      have hnb : dbad fs l x = false := by simpa using List.any_eq_false.1 HB.out x hm
      by_cases f0 : x.f < 0
      · exfalso
        have : fat fs x.f = none := by unfold fat; rw [if_neg (by omega)]
        unfold dbad at hnb; rw [this] at hnb; cases hnb
      · by_cases f1 : (fs.length : Int) ≤ x.f
        · exfalso
          have : fat fs x.f = none := by
            unfold fat
            split
            · exact List.getElem?_eq_none (by omega)
            · rfl
          unfold dbad at hnb; rw [this] at hnb; cases hnb
        · obtain ⟨i, hi⟩ : ∃ i : Nat, x.f = i := ⟨x.f.toNat, by omega⟩
          have hil : i < fs.length := by omega
          obtain ⟨y, hy⟩ : ∃ y, fs[i]? = some y := ⟨_, List.getElem?_eq_getElem hil⟩
          have y1 := HM.out.ho hy
          have hfa : fat fs x.f = some y := by unfold fat; rw [hi, if_pos (by omega), Int.toNat_natCast, hy]
          have HD : Hid (dbad fs l x = decide (y.ho < cntF l (i : Int))) := Lib.hid (by unfold dbad; rw [hfa, hi])
          rw [hi] at c0
          clear hfa hy f0 f1
          have i0 : ¬ (i : Int) < 0 := by omega
          go_wp2
          go_loop [7, 8] (fun nv jv => ∃ j : Nat, j ≤ n ∧ jv = .int .i64 j ∧ nv = .int .i64 (cntF (l.take j) (i : Int))) (fun _ jv => n - (intOf jv).toNat)
          case atStart => exact ⟨0, Nat.zero_le _, rfl, rfl⟩
          case round =>
            obtain ⟨j, hj, rfl, rfl⟩ := hrel
            have hcj : cntF (l.take j) (i : Int) ≤ j := Nat.le_trans List.countP_le_length (List.length_take_le _ _)
            by_cases hlt2 : j < n
            · obtain ⟨z, hz, _⟩ := get_lt (l := l) (k := j) (by rw [HL.out]; exact hlt2)
              obtain ⟨b2, off2, hA2, _, _, hc2⟩ := rd_at HR.out pvals_len (by omega) hz
              injection hA2 with hA2
              injection hA2 with e1 e2
              subst e1; subst e2
              have z0 := hc2 0 _ rfl
              rw [Nat.add_zero] at z0
              have HN := Lib.hid (cnt_next hz (i : Int))
              clear hc2 hz
              cases hzf : (z.f == (i : Int))
              · have HN2 : Hid (cntF (l.take (j + 1)) (i : Int) = cntF (l.take j) (i : Int)) := Lib.hid (by rw [HN.out, hzf]; rfl)
                clear HN
                go_wp2
                exact ⟨⟨j + 1, by omega, by go_num, icast (by rw [HN2.out])⟩, by simp [intOf]; omega⟩
              · have HN2 : Hid (cntF (l.take (j + 1)) (i : Int) = cntF (l.take j) (i : Int) + 1) := Lib.hid (by rw [HN.out, hzf]; rfl)
                clear HN
                go_wp2
                exact ⟨⟨j + 1, by omega, by go_num, icast (by rw [HN2.out]; omega)⟩, by simp [intOf]; omega⟩
            · have e : l.take j = l := List.take_of_length_le (by have := HL.out; omega)
              rw [e]
              obtain ⟨m, hm2⟩ : ∃ m, cntF l (i : Int) = m := ⟨_, rfl⟩
              rw [hm2] at HD ⊢
              clear e hcj
              by_cases hlow : y.ho < m
              · exfalso
                rw [HD.out] at hnb
                simp at hnb
                omega
              · have HN := Lib.hid (any_next (p := dbad fs l) HX.out hno.out (by rw [HD.out]; simp; omega))
                go_wp2
                exact ⟨⟨k + 1, by omega, by go_num, HN⟩, by simp [intOf]; omega⟩
    · have HRG : Hid (∀ x ∈ l, 0 ≤ x.f ∧ x.f < fs.length) := Lib.hid (fun x hx => by
        have hnb : dbad fs l x = false := by simpa using List.any_eq_false.1 HB.out x hx
        cases hfa : fat fs x.f with
        | none => unfold dbad at hnb; rw [hfa] at hnb; cases hnb
        | some y => exact ⟨(fat_some hfa).1, fat_lt hfa⟩)
      clear q0 q1
      go_wp2
      go_loopw [9] (fun iv wr => ∃ (j : Nat) (fr : List Fr), j ≤ n ∧ iv = .int .i64 j ∧ Kp [bO, bH, bB] w wr ∧ RT wr bM bO bH bB fr ∧ fr.length = fs.length ∧ Hid (fr = (l.take j).foldl decF fs ∧ ∀ y ∈ fr, -1000000 - (j : Int) ≤ y.ho ∧ y.ho ≤ 1000000)) (fun iv _ => n - (intOf iv).toNat)
      case atStart => exact ⟨0, fs, Nat.zero_le _, rfl, Kp.refl _ _, HM.out, rfl, rfl, by simpa using HBB.out⟩
      case round =>
        obtain ⟨j, fr, hj, rfl, kr, mr, hfl, hq⟩ := hrel
        by_cases hlt2 : j < n
        · obtain ⟨x, hx, hm⟩ := get_lt (l := l) (k := j) (by rw [HL.out]; exact hlt2)
          obtain ⟨b, off, rfl, _, _, hc⟩ := rd_at (HRN.out.kp kr (by simp)) pvals_len (by omega) hx
          have c0 := hc 0 _ rfl
          rw [Nat.add_zero] at c0
          obtain ⟨f0, f1⟩ := HRG.out x hm
          obtain ⟨i, hi⟩ : ∃ i : Nat, x.f = i := ⟨x.f.toNat, by omega⟩
          have hil : i < fr.length := by omega
          obtain ⟨y, hy⟩ : ∃ y, fr[i]? = some y := ⟨_, List.getElem?_eq_getElem hil⟩
          have hyb := hq.out.2 y (List.mem_of_getElem? hy)
          have hstep : decF fr x = fr.set i { y with ho := y.ho - 1 } := by
            have hf : fat fr x.f = some y := by unfold fat; rw [hi, if_pos (by omega), Int.toNat_natCast, hy]
            unfold decF; rw [hf, hi]; simp
          have HS : Hid (fr.set i { y with ho := y.ho - 1 } = (l.take (j + 1)).foldl decF fs ∧ ∀ z ∈ fr.set i { y with ho := y.ho - 1 }, -1000000 - ((j + 1 : Nat) : Int) ≤ z.ho ∧ z.ho ≤ 1000000) := Lib.hid ⟨by
              rw [foldl_snoc (f := decF) (b := fs) hx, ← hq.out.1, hstep], by
              intro z hz
              rcases mem_set hz with rfl | hz
              · simp only; omega
              · have := hq.out.2 z hz; omega⟩
          rw [hi] at c0
          obtain ⟨d0, d1, d2, ht⟩ := mr.t
          have q1 := ht.cell 1
          simp only [List.getElem?_cons_zero, List.getElem?_cons_succ] at q1
          have x1 := mr.ho hy
          have z1 := mr.h.frozen i
          have HY := Lib.hid hy
          have MR := Lib.hid mr
          have i0 : ¬ (i : Int) < 0 := by omega
          have yb1 : -1000000 - (j : Int) ≤ y.ho := hyb.1
          have yb2 : y.ho ≤ 1000000 := hyb.2
          clear hc hx hy hstep ht mr hyb hq f0 f1 hi
          go_wp2
          go_region
          all_goals go_wp2
          all_goals exact ⟨⟨j + 1, _, by omega, by go_num, (by repeat first | exact kr | refine Kp.setCell ?_ (.inl (by simp)) _ | refine Kp.drewN ?_ _ | refine Kp.drew ?_), (by repeat first | exact MR.out | refine RT.putHo ?_ HY.out _ | refine RT.drewN ?_ _ | refine RT.drew ?_), (by rw [List.length_set]; exact hfl), HS⟩, by simp [intOf]; omega⟩
        · have e : l.take j = l := List.take_of_length_le (by have := HL.out; omega)
          rw [e] at hq
          have hfr := hq.out.1
          clear e
          go_wp2
          exact H.out _ kr (by rw [← hfr]; exact mr)
end
end Go.Proofs.Ythlmfjfkkndboaa
