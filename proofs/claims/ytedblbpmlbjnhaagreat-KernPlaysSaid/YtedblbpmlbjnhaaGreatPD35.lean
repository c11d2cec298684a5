/- The document's gather: Drop. Drops one by one, and drops counted: the plain law. -/
import Derived.Test.YtedblbpmlbjnhaaGreatPD34
import Derived.BigRegion
import Derived.Test.YtedblbpmlbjnhaaGreatPD22
namespace Go.Proofs.YtedblbpmlbjnhaaGreat
/-! ### The document's gather: Drop. -/
section
open Go.RowKit
set_option linter.unusedVariables false
set_option linter.unusedSimpArgs false
set_option maxRecDepth 100000
section
variable {R : Ending → World → Prop} {bM bO bH bB : Nat} {fs : List Fr} {w : World}
/-- How many pieces are of this frame. -/
def cntF (l : List Pc) (f : Int) : Nat := l.countP (fun p => p.f == f)
/-- A piece whose frame has too few holds. -/
def dbad (fs : List Fr) (l : List Pc) (p : Pc) : Bool := match fat fs p.f with | none => true | some y => decide (y.ho < cntF l p.f)
def decF (fs : List Fr) (p : Pc) : List Fr := match fat fs p.f with | none => fs | some y => fs.set p.f.toNat { y with ho := y.ho - 1 }
theorem cnt_next {l : List Pc} {k : Nat} {x : Pc} (hx : l[k]? = some x) (f : Int) : cntF (l.take (k + 1)) f = cntF (l.take k) f + if x.f == f then 1 else 0 := by
  have hk : k < l.length := (List.getElem?_eq_some_iff.1 hx).1
  have e : l[k] = x := (List.getElem?_eq_some_iff.1 hx).2
  unfold cntF
  rw [List.take_succ_eq_append_getElem hk, e, List.countP_append]
  simp [List.countP_cons]
set_option maxHeartbeats 4000000 in
theorem rdrop_good (hM : RT w bM bO bH bB fs) {A : Option Addr} {n c : Nat} {l : List Pc} (hr : Rd w [] A (l.flatMap Pc.vals)) (hl : l.length = n) (hn : n ≤ 1000000) (hok : ∀ p ∈ l, p.ok)
    (hb : l.any (dbad fs l) = false) (hB : ∀ y ∈ fs, -1000000 ≤ y.ho ∧ y.ho ≤ 1000000) (hrN : Rd w [bO, bH, bB] A (l.flatMap Pc.vals)) (h : ∀ w', Kp [bO, bH, bB] w w' → RT w' bM bO bH bB (l.foldl decF fs) → R (.returned (.int .i64 0)) w') : Calls Tryz.prog 66 #[.pointer (some ⟨bM, 0, none⟩), .slice A n c] w R := by
  have H := Lib.hid h
  have HL := Lib.hid hl
  have HM := Lib.hid hM
  have HR := Lib.hid hr
  have HB := Lib.hid hb
  have HBB := Lib.hid hB
  have HRN := Lib.hid hrN
  obtain ⟨cc0, cc1, cc2, ht⟩ := hM.t
  have q0 := ht.cell 0
  have q1 := ht.cell 1
  simp only [List.getElem?_cons_zero, List.getElem?_cons_succ] at q0 q1
  have hle := hM.n1
  clear h hl hM hr hb ht hB hrN
  go_enter Tryz.func66, Tryz.ntmps66
  go_wp2
  go_loop [5] (fun iv => ∃ k : Nat, k ≤ n ∧ iv = .int .i64 k ∧ Hid ((l.take k).any (dbad fs l) = false)) (fun iv => n - (intOf iv).toNat)
  case atStart => exact ⟨0, Nat.zero_le _, rfl, Lib.hid rfl⟩
  case round =>
    obtain ⟨k, hk, rfl, hno⟩ := hrel
    by_cases hlt : k < n
    · obtain ⟨x, hx, hm⟩ := get_lt (l := l) (k := k) (by rw [HL.out]; exact hlt)
      obtain ⟨b, off, rfl, _, _, hc⟩ := rd_at HR.out pvals_len (by omega) hx
      have c0 := hc 0 _ rfl
      rw [Nat.add_zero] at c0
      have HX := Lib.hid hx
      clear hc hx
      have hnb : dbad fs l x = false := by simpa using List.any_eq_false.1 HB.out x hm
      by_cases f0 : x.f < 0
      · exfalso
        have : fat fs x.f = none := by unfold fat; rw [if_neg (by omega)]
        unfold dbad at hnb; rw [this] at hnb; cases hnb
      · by_cases f1 : (fs.length : Int) ≤ x.f
        · exfalso
          have : fat fs x.f = none := by
            unfold fat
            split
            · exact List.getElem?_eq_none (by omega)
            · rfl
          unfold dbad at hnb; rw [this] at hnb; cases hnb
        · obtain ⟨i, hi⟩ : ∃ i : Nat, x.f = i := ⟨x.f.toNat, by omega⟩
          have hil : i < fs.length := by omega
          obtain ⟨y, hy⟩ : ∃ y, fs[i]? = some y := ⟨_, List.getElem?_eq_getElem hil⟩
          have y1 := HM.out.ho hy
          have hfa : fat fs x.f = some y := by unfold fat; rw [hi, if_pos (by omega), Int.toNat_natCast, hy]
          have HD : Hid (dbad fs l x = decide (y.ho < cntF l (i : Int))) := Lib.hid (by unfold dbad; rw [hfa, hi])
          rw [hi] at c0
          clear hfa hy f0 f1
          have i0 : ¬ (i : Int) < 0 := by omega
          go_wp2
          go_loop [7, 8] (fun nv jv => ∃ j : Nat, j ≤ n ∧ jv = .int .i64 j ∧ nv = .int .i64 (cntF (l.take j) (i : Int))) (fun _ jv => n - (intOf jv).toNat)
          case atStart => exact ⟨0, Nat.zero_le _, rfl, rfl⟩
          case round =>
            obtain ⟨j, hj, rfl, rfl⟩ := hrel
            have hcj : cntF (l.take j) (i : Int) ≤ j := Nat.le_trans List.countP_le_length (List.length_take_le _ _)
            by_cases hlt2 : j < n
            · obtain ⟨z, hz, _⟩ := get_lt (l := l) (k := j) (by rw [HL.out]; exact hlt2)
              obtain ⟨b2, off2, hA2, _, _, hc2⟩ := rd_at HR.out pvals_len (by omega) hz
              injection hA2 with hA2
              injection hA2 with e1 e2
              subst e1; subst e2
              have z0 := hc2 0 _ rfl
              rw [Nat.add_zero] at z0
              have HN := Lib.hid (cnt_next hz (i : Int))
              clear hc2 hz
              cases hzf : (z.f == (i : Int))
              · have HN2 : Hid (cntF (l.take (j + 1)) (i : Int) = cntF (l.take j) (i : Int)) := Lib.hid (by rw [HN.out, hzf]; rfl)
                clear HN
                go_wp2
                exact ⟨⟨j + 1, by omega, by go_num, icast (by rw [HN2.out])⟩, by simp [intOf]; omega⟩
              · have HN2 : Hid (cntF (l.take (j + 1)) (i : Int) = cntF (l.take j) (i : Int) + 1) := Lib.hid (by rw [HN.out, hzf]; rfl)
                clear HN
                go_wp2
                exact ⟨⟨j + 1, by omega, by go_num, icast (by rw [HN2.out]; omega)⟩, by simp [intOf]; omega⟩
            · have e : l.take j = l := List.take_of_length_le (by have := HL.out; omega)
              rw [e]
              obtain ⟨m, hm2⟩ : ∃ m, cntF l (i : Int) = m := ⟨_, rfl⟩
              rw [hm2] at HD ⊢
              clear e hcj
              by_cases hlow : y.ho < m
              · exfalso
                rw [HD.out] at hnb
                simp at hnb
                omega
              · have HN := Lib.hid (any_next (p := dbad fs l) HX.out hno.out (by rw [HD.out]; simp; omega))
                go_wp2
                exact ⟨⟨k + 1, by omega, by go_num, HN⟩, by simp [intOf]; omega⟩
    · have HRG : Hid (∀ x ∈ l, 0 ≤ x.f ∧ x.f < fs.length) := Lib.hid (fun x hx => by
        have hnb : dbad fs l x = false := by simpa using List.any_eq_false.1 HB.out x hx
        cases hfa : fat fs x.f with
        | none => unfold dbad at hnb; rw [hfa] at hnb; cases hnb
        | some y => exact ⟨(fat_some hfa).1, fat_lt hfa⟩)
      clear q0 q1
      go_wp2
      go_loopw [9] (fun iv wr => ∃ (j : Nat) (fr : List Fr), j ≤ n ∧ iv = .int .i64 j ∧ Kp [bO, bH, bB] w wr ∧ RT wr bM bO bH bB fr ∧ fr.length = fs.length ∧ Hid (fr = (l.take j).foldl decF fs ∧ ∀ y ∈ fr, -1000000 - (j : Int) ≤ y.ho ∧ y.ho ≤ 1000000)) (fun iv _ => n - (intOf iv).toNat)
      case atStart => exact ⟨0, fs, Nat.zero_le _, rfl, Kp.refl _ _, HM.out, rfl, rfl, by simpa using HBB.out⟩
      case round =>
        obtain ⟨j, fr, hj, rfl, kr, mr, hfl, hq⟩ := hrel
        by_cases hlt2 : j < n
        · obtain ⟨x, hx, hm⟩ := get_lt (l := l) (k := j) (by rw [HL.out]; exact hlt2)
          obtain ⟨b, off, rfl, _, _, hc⟩ := rd_at (HRN.out.kp kr (by simp)) pvals_len (by omega) hx
          have c0 := hc 0 _ rfl
          rw [Nat.add_zero] at c0
          obtain ⟨f0, f1⟩ := HRG.out x hm
          obtain ⟨i, hi⟩ : ∃ i : Nat, x.f = i := ⟨x.f.toNat, by omega⟩
          have hil : i < fr.length := by omega
          obtain ⟨y, hy⟩ : ∃ y, fr[i]? = some y := ⟨_, List.getElem?_eq_getElem hil⟩
          have hyb := hq.out.2 y (List.mem_of_getElem? hy)
          have hstep : decF fr x = fr.set i { y with ho := y.ho - 1 } := by
            have hf : fat fr x.f = some y := by unfold fat; rw [hi, if_pos (by omega), Int.toNat_natCast, hy]
            unfold decF; rw [hf, hi]; simp
          have HS : Hid (fr.set i { y with ho := y.ho - 1 } = (l.take (j + 1)).foldl decF fs ∧ ∀ z ∈ fr.set i { y with ho := y.ho - 1 }, -1000000 - ((j + 1 : Nat) : Int) ≤ z.ho ∧ z.ho ≤ 1000000) := Lib.hid ⟨by
              rw [foldl_snoc (f := decF) (b := fs) hx, ← hq.out.1, hstep], by
              intro z hz
              rcases mem_set hz with rfl | hz
              · simp only; omega
              · have := hq.out.2 z hz; omega⟩
          rw [hi] at c0
          obtain ⟨d0, d1, d2, ht⟩ := mr.t
          have q1 := ht.cell 1
          simp only [List.getElem?_cons_zero, List.getElem?_cons_succ] at q1
          have x1 := mr.ho hy
          have z1 := mr.h.frozen i
          have HY := Lib.hid hy
          have MR := Lib.hid mr
          have i0 : ¬ (i : Int) < 0 := by omega
          have yb1 : -1000000 - (j : Int) ≤ y.ho := hyb.1
          have yb2 : y.ho ≤ 1000000 := hyb.2
          clear hc hx hy hstep ht mr hyb hq f0 f1 hi
          go_wp2
          go_region
          all_goals go_wp2
          all_goals exact ⟨⟨j + 1, _, by omega, by go_num, (by repeat first | exact kr | refine Kp.setCell ?_ (.inl (by simp)) _ | refine Kp.drewN ?_ _ | refine Kp.drew ?_), (by repeat first | exact MR.out | refine RT.putHo ?_ HY.out _ | refine RT.drewN ?_ _ | refine RT.drew ?_), (by rw [List.length_set]; exact hfl), HS⟩, by simp [intOf]; omega⟩
        · have e : l.take j = l := List.take_of_length_le (by have := HL.out; omega)
          rw [e] at hq
          have hfr := hq.out.1
          clear e
          go_wp2
          exact H.out _ kr (by rw [← hfr]; exact mr)
end
end
/-! ### Drops one by one, and drops counted: the plain law. -/
section
open Go.RowKit
set_option linter.unusedVariables false
set_option linter.unusedSimpArgs false

/-- Each frame has as many holds as pieces. -/
def okD (fs : List Fr) (l : List Pc) : Prop := ∀ q ∈ l, ∃ y, fat fs q.f = some y ∧ (cntF l q.f : Int) ≤ y.ho
theorem cnt_cons (p : Pc) (l : List Pc) (f : Int) : cntF (p :: l) f = cntF l f + if p.f == f then 1 else 0 := by
  unfold cntF; rw [List.countP_cons]
theorem fat_set {fs : List Fr} {f g : Int} {x z : Fr} (hx : fat fs f = some x) : fat (fs.set f.toNat z) g = if g = f then some z else fat fs g := by
  obtain ⟨f0, hi⟩ := fat_some hx
  have hl := (List.getElem?_eq_some_iff.1 hi).1
  unfold fat
  by_cases h : g = f
  · subst h
    rw [if_pos f0, if_pos rfl, List.getElem?_set_self hl]
  · rw [if_neg h]
    by_cases g0 : 0 ≤ g
    · rw [if_pos g0, if_pos g0, List.getElem?_set_ne (by omega)]
    · rw [if_neg g0, if_neg g0]
theorem drop_step {fs : List Fr} {f : Int} {x : Fr} (hx : fat fs f = some x) (h : x.ho ≠ 0) : tDrop fs f = (0, fs.set f.toNat { x with ho := x.ho - 1 }) := by
  have hh : heldE fs f = 0 := by unfold heldE; rw [hx]; simp [h]
  unfold tDrop
  rw [hh, hx]; rfl
theorem drop_at {fs : List Fr} {f : Int} (h : (tDrop fs f).1 = 0) : ∃ x, fat fs f = some x ∧ x.ho ≠ 0 := by
  unfold tDrop at h
  split at h
  · rename_i hh; exact heldE_ok hh
  · rename_i hh; exact absurd h hh
theorem ok_okD : ∀ (l : List Pc) (fs : List Fr), (∀ x ∈ fs, 0 ≤ x.ho) → dropOk fs l → okD fs l
  | [], _, _, _ => by intro q hq; cases hq
  | p :: l, fs, hp, h => by
    obtain ⟨h1, h2⟩ := h
    obtain ⟨x, hx, h0⟩ := drop_at h1
    have hs := drop_step hx h0
    rw [hs] at h2
    have hxp := hp x (List.mem_of_getElem? (fat_some hx).2)
    have ih := ok_okD l _ (by
      intro y hy
      rcases mem_set hy with rfl | hy
      · simp only; omega
      · exact hp y hy) h2
    have key : ∀ q ∈ l, ∃ y, fat fs q.f = some y ∧ (cntF (p :: l) q.f : Int) ≤ y.ho := by
      intro q hq
      obtain ⟨y, hy, hyc⟩ := ih q hq
      simp only at hy
      rw [fat_set hx] at hy
      have hcq := cnt_cons p l q.f
      by_cases e : q.f = p.f
      · rw [if_pos e] at hy
        injection hy with hy
        subst hy
        rw [e] at hyc hcq ⊢
        refine ⟨x, hx, ?_⟩
        simp at hcq hyc
        omega
      · rw [if_neg e] at hy
        refine ⟨y, hy, ?_⟩
        have : (p.f == q.f) = false := by simpa using fun h => e h.symm
        rw [this] at hcq
        simp at hcq
        omega
    intro q hq
    rcases List.mem_cons.1 hq with rfl | hq
    · by_cases hz : ∃ z ∈ l, z.f = q.f
      · obtain ⟨z, hz, e⟩ := hz
        obtain ⟨y, hy, hyc⟩ := key z hz
        rw [e] at hy hyc
        exact ⟨y, hy, hyc⟩
      · refine ⟨x, hx, ?_⟩
        have h3 : cntF l q.f = 0 := by
          unfold cntF
          rw [List.countP_eq_zero]
          intro z hz2 he
          exact hz ⟨z, hz2, by simpa using he⟩
        have := cnt_cons q l q.f
        simp at this
        omega
    · exact key q hq
theorem dbad_okD {fs : List Fr} {l : List Pc} : l.any (dbad fs l) = false ↔ okD fs l := by
  rw [List.any_eq_false]
  constructor
  · intro h q hq
    have hn := h q hq
    unfold dbad at hn
    cases hf : fat fs q.f with
    | none => rw [hf] at hn; simp at hn
    | some y => rw [hf] at hn; exact ⟨y, rfl, by simp at hn; omega⟩
  · intro h q hq
    obtain ⟨y, hy, hc⟩ := h q hq
    unfold dbad
    rw [hy]; simp; omega
theorem drop_dec : ∀ (l : List Pc) (fs : List Fr), dropOk fs l → dropAll fs l = l.foldl decF fs
  | [], _, _ => rfl
  | p :: l, fs, h => by
    obtain ⟨x, hx, h0⟩ := drop_at h.1
    have hs := drop_step hx h0
    have h2 := h.2
    rw [hs] at h2
    show dropAll (tDrop fs p.f).2 l = (l.foldl decF (decF fs p))
    have hd : decF fs p = fs.set p.f.toNat { x with ho := x.ho - 1 } := by unfold decF; rw [hx]
    rw [hs, hd]
    exact drop_dec l _ h2
end
end Go.Proofs.YtedblbpmlbjnhaaGreat
