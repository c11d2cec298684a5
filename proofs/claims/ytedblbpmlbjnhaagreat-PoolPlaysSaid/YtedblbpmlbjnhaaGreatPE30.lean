/- The document's gather: Hold, Fetch. The document's gather: Fetch. DOES NOT BUILD YET: heartbeats in the good case. pantlerlaw05.Shows: a table shows what the document's does. -/
import Derived.Test.YtedblbpmlbjnhaaGreatPE28
import Derived.BigRegion
import Derived.Deep.CutBlock
import Derived.Deep.DeepCutAuto
import Derived.Test.YtedblbpmlbjnhaaGreatPE21
namespace Go.Proofs.YtedblbpmlbjnhaaGreat
/-! ### The document's gather: Hold, Fetch. -/
section
open Go.RowKit
set_option linter.unusedVariables false
set_option linter.unusedSimpArgs false
set_option maxRecDepth 100000
section
variable {R : Ending → World → Prop} {bM bO bH bB : Nat} {fs : List Fr} {w : World}
theorem tHold_ow (fs : List Fr) (who f : Int) (j : Nat) : ((tHold fs who f).2[j]?).map (·.ow) = (fs[j]?).map (·.ow) := by
  unfold tHold
  split
  · split
    · rfl
    · rename_i x hx
      obtain ⟨_, hi⟩ := fat_some hx
      simp only
      rw [List.getElem?_set]
      split
      · rename_i h; subst h
        have := (List.getElem?_eq_some_iff.1 hi).1
        rw [hi]; simp [this]
      · rfl
  · rfl
theorem holdAll_ow (env : Int) : ∀ (l : List Pc) (fs : List Fr) (j : Nat), ((holdAll fs env l)[j]?).map (·.ow) = (fs[j]?).map (·.ow)
  | [], _, _ => rfl
  | p :: l, fs, j => by
    show ((holdAll (tHold fs env p.f).2 env l)[j]?).map (·.ow) = _
    rw [holdAll_ow env l, tHold_ow]
theorem check_ok {env : Int} {l : List Pc} (h : checkE fs env l = 0) : envB env = true ∧ ∀ x ∈ l, ∃ (i : Nat) (y : Fr), x.f = i ∧ fs[i]? = some y ∧ y.ow = env := by
  unfold checkE at h
  split at h
  · omega
  · rename_i h1
    split at h
    · omega
    · rename_i h2
      split at h
      · omega
      · split at h
        · omega
        · rename_i h4
          refine ⟨by cases he : envB env with | true => rfl | false => exact absurd (.inl he) h1, fun x hx => ?_⟩
          have hb : kbad fs.length x = false := by
            have := List.any_eq_false.1 (by simpa using h2) x hx
            simpa using this
          have ho : tOwner fs x.f = env := (by simpa using h4 : ∀ x ∈ l, tOwner fs x.f = env) x hx
          obtain ⟨_, _, f0, f1⟩ := tOwner_range hb
          obtain ⟨i, hi⟩ : ∃ i : Nat, x.f = i := ⟨x.f.toNat, by omega⟩
          have hil : i < fs.length := by omega
          refine ⟨i, fs[i], hi, List.getElem?_eq_getElem hil, ?_⟩
          unfold tOwner fat at ho
          rw [hi, if_pos (by omega), Int.toNat_natCast, List.getElem?_eq_getElem hil] at ho
          simpa using ho
set_option maxHeartbeats 4000000 in
theorem rhold_any (hM : RT w bM bO bH bB fs) (env : Int) {A : Option Addr} {n c : Nat} {l : List Pc} (hr : Rd w [bO, bH, bB] A (l.flatMap Pc.vals)) (hl : l.length = n) (hn : n ≤ 1000000) (hok : ∀ p ∈ l, p.ok) (hb : hoB fs 1000000)
    (h : ∀ w', Kp [bO, bH, bB] w w' → RT w' bM bO bH bB (if checkE fs env l = 0 then holdAll fs env l else fs) → R (.returned (.int .i64 (checkE fs env l))) w') :
    Calls Tryz.prog 57 #[.pointer (some ⟨bM, 0, none⟩), .int .i64 env, .slice A n c] w R := by
  have H := Lib.hid h
  have HL := Lib.hid hl
  have HO := Lib.hid hok
  have HM := Lib.hid hM
  have HR := Lib.hid hr
  have HB := Lib.hid hb
  have hle := hM.n1
  clear h hl hok hM hr hb
  obtain ⟨e, he⟩ : ∃ e, checkE fs env l = e := ⟨_, rfl⟩
  have HE := Lib.hid he
  rw [he] at H
  clear he
  by_cases h0 : e = 0
  · subst h0
    have HK := Lib.hid (check_ok HE.out)
    go_enter Tryz.func57, Tryz.ntmps57
    go_wp2_with (go_at_call 117; refine rcheck_any HM.out env (HR.out.sub (by simp)) HL.out hn HO.out (fun w1 k1 => ?_); rw [HE.out])
    have M1 := HM.out.kp k1 (by simp) (by simp) (by simp) (by simp)
    have K1 : Kp [bO, bH, bB] w w1 := k1.mono (by simp)
    clear k1
    go_loopw [8] (fun iv wr => ∃ (k : Nat) (fr : List Fr), k ≤ n ∧ iv = .int .i64 k ∧ Kp [bO, bH, bB] w wr ∧ RT wr bM bO bH bB fr ∧ Hid (fr = holdAll fs env (l.take k) ∧ hoB fr (1000000 + k))) (fun iv _ => n - (intOf iv).toNat)
    case atStart => exact ⟨0, fs, Nat.zero_le _, rfl, K1, M1, rfl, by simpa using HB.out⟩
    case round =>
      obtain ⟨k, fr, hk, rfl, kr, mr, hq⟩ := hrel
      by_cases hlt : k < n
      · obtain ⟨x, hx, hm⟩ := get_lt (l := l) (k := k) (by rw [HL.out]; exact hlt)
        obtain ⟨b, off, rfl, hbN, _, hc⟩ := rd_at (HR.out.kp kr (by simp)) pvals_len (by omega) hx
        have c0 := hc 0 _ rfl
        rw [Nat.add_zero] at c0
        obtain ⟨i, y0, hxi, hy0, how⟩ := HK.out.2 x hm
        have hy1 := holdAll_ow env (l.take k) fs i
        rw [← hq.out.1, hy0] at hy1
        obtain ⟨y, hy, hyo⟩ : ∃ y, fr[i]? = some y ∧ y.ow = env := by
          cases hz : fr[i]? with
          | none => rw [hz] at hy1; cases hy1
          | some y => rw [hz] at hy1; exact ⟨y, rfl, by have := Option.some.inj hy1; simp only at this; rw [this]; exact how⟩
        have hyb := hq.out.2 y (List.mem_of_getElem? hy)
        have hil := lt_of hy
        have hstep : (tHold fr env x.f).2 = fr.set i { y with ho := y.ho + 1 } := by
          have hf : fat fr x.f = some y := by unfold fat; rw [hxi, if_pos (by omega), Int.toNat_natCast, hy]
          have ho : ownE fr env x.f = 0 := by unfold ownE; rw [HK.out.1, hf]; simp [hyo]
          unfold tHold
          rw [ho, hf, hxi]; simp
        have HS : Hid (fr.set i { y with ho := y.ho + 1 } = holdAll fs env (l.take (k + 1)) ∧ hoB (fr.set i { y with ho := y.ho + 1 }) (1000000 + (k + 1 : Nat))) := Lib.hid ⟨by
            have := foldl_snoc (f := fun fs (p : Pc) => (tHold fs env p.f).2) (b := fs) hx
            unfold holdAll
            rw [this]
            show _ = (tHold (holdAll fs env (l.take k)) env x.f).2
            rw [← hq.out.1, hstep], by
            have := tHold_hoB hq.out.2 env x.f
            rw [hstep] at this
            have e : (1000000 : Int) + k + 1 = 1000000 + ((k + 1 : Nat) : Int) := by omega
            rw [← e]; exact this⟩
        rw [hxi] at c0
        obtain ⟨d0, d1, d2, ht⟩ := mr.t
        have q1 := ht.cell 1
        simp only [List.getElem?_cons_zero, List.getElem?_cons_succ] at q1
        have x1 := mr.ho hy
        have z1 := mr.h.frozen i
        have HY := Lib.hid hy
        have MR := Lib.hid mr
        have i0 : ¬ (i : Int) < 0 := by omega
        have yb1 : -1000000 ≤ y.ho := hyb.1
        have yb2 : y.ho ≤ 1000000 + k := hyb.2
        clear hc hx hy hy0 hy1 hstep ht mr hyb hq how hyo hxi
        go_wp2
        go_region
        all_goals go_wp2
        all_goals exact ⟨⟨k + 1, _, by omega, by go_num, (by repeat first | exact kr | refine Kp.setCell ?_ (.inl (by simp)) _ | refine Kp.drewN ?_ _ | refine Kp.drew ?_), (by repeat first | exact MR.out | refine RT.putHo ?_ HY.out _ | refine RT.drewN ?_ _ | refine RT.drew ?_), HS⟩, by simp [intOf]; omega⟩
      · have e : l.take k = l := List.take_of_length_le (by have := HL.out; omega)
        obtain rfl : k = n := by omega
        rw [e] at hq
        have hfr := hq.out.1
        clear e
        go_wp2
        exact H.out _ kr (by rw [if_pos trivial, ← hfr]; exact mr)
  · have b0 : (e == 0) = false := by simpa using h0
    go_enter Tryz.func57, Tryz.ntmps57
    go_wp2_with (go_at_call 117; refine rcheck_any HM.out env (HR.out.sub (by simp)) HL.out hn HO.out (fun w1 k1 => ?_); rw [HE.out])
    refine wp_loop_rounds 1 ?_
    rw [rounds_succ]
    go_wp2
    all_goals exact H.out _ (k1.mono (by simp)) (by rw [if_neg h0]; exact HM.out.kp k1 (by simp) (by simp) (by simp) (by simp))
end
end
/-! ### The document's gather: Fetch. DOES NOT BUILD YET: heartbeats in the good case. -/
section
open Go.RowKit
set_option linter.unusedVariables false
set_option linter.unusedSimpArgs false
set_option maxRecDepth 100000
section
variable {R : Ending → World → Prop} {bM bO bH bB : Nat} {fs : List Fr} {w : World}
/-- One piece of what is fetched. -/
theorem tFetch_bad {p : Pc} (h : (tFetch fs p.f p.o p.n).1 ≠ 0) : wB p = false ∨ (wB p = true ∧ (p.f < 0 ∨ (fs.length : Int) ≤ p.f)) ∨ ∃ (i : Nat) (y : Fr), wB p = true ∧ p.f = i ∧ fs[i]? = some y ∧ y.ho = 0 := by
  cases hw : wB p
  · exact .inl rfl
  · right
    cases hx : fat fs p.f with
    | none => exact .inl ⟨rfl, fat_none hx⟩
    | some y =>
      obtain ⟨f0, hi⟩ := fat_some hx
      right
      refine ⟨p.f.toNat, y, rfl, by omega, hi, ?_⟩
      rcases Decidable.em (y.ho = 0) with h0 | h0
      · exact h0
      · exfalso
        apply h
        have hs : spanB p.o p.n = true := by have := wB_bd hw; unfold spanB; simp; omega
        have hh : heldE fs p.f = 0 := by unfold heldE; rw [hx]; simp [h0]
        unfold tFetch
        rw [hh, hs, hx]; simp
theorem tFetch_good {p : Pc} (h : (tFetch fs p.f p.o p.n).1 = 0) : wB p = true ∧ ∃ (i : Nat) (y : Fr), p.f = i ∧ fs[i]? = some y ∧ y.ho ≠ 0 ∧ (tFetch fs p.f p.o p.n).2 = cutB y.bs p.o p.n := by
  unfold tFetch at h ⊢
  split at h
  · rename_i hh
    obtain ⟨y, hx, hy⟩ := heldE_ok hh
    obtain ⟨f0, hi⟩ := fat_some hx
    split at h
    · simp at h
    · rename_i hs
      refine ⟨by unfold wB; unfold spanB at hs; simpa using hs, p.f.toNat, y, by omega, hi, hy, ?_⟩
      rw [if_pos hh, if_neg hs, hx]
  · rename_i hh; exact absurd h hh
set_option maxHeartbeats 8000000 in
theorem rfetch_any (hM : RT w bM bO bH bB fs) (hpg : ∀ x ∈ fs, x.bs.length = 256) {A : Option Addr} {n c : Nat} {l : List Pc} (hr : Rd w [] A (l.flatMap Pc.vals)) (hl : l.length = n) (hn : n ≤ 1000) (hok : ∀ p ∈ l, p.ok)
    (h : ∀ e o w', Hid (fetF fs l = (e, o)) → Kp [] w w' → R (.returned (.tuple #[.string (S o), .int .i64 e])) w') :
    Calls Tryz.prog 65 #[.pointer (some ⟨bM, 0, none⟩), .slice A n c] w R := by
  have H := Lib.hid h
  have HL := Lib.hid hl
  have HO := Lib.hid hok
  have HM := Lib.hid hM
  have HR := Lib.hid hr
  have HP := Lib.hid hpg
  have hle := hM.n1
  clear h hl hok hM hr hpg
  go_enter Tryz.func65, Tryz.ntmps65
  go_wp2
  go_loopw [6, 7] (fun sv iv wr => ∃ (k : Nat) (o : List UInt8), k ≤ n ∧ iv = .int .i64 k ∧ sv = .string (S o) ∧ o.length ≤ 256 * k ∧ Kp [] w wr ∧ Hid ((l.take k).any (fun p => (tFetch fs p.f p.o p.n).1 != 0) = false ∧ ((l.take k).flatMap fun p => (tFetch fs p.f p.o p.n).2) = o)) (fun _ iv _ => n - (intOf iv).toNat)
  case atStart => exact ⟨0, [], Nat.zero_le _, rfl, rfl, by simp, Kp.refl _ _, rfl, rfl⟩
  case round =>
    obtain ⟨k, o, hk, rfl, rfl, hol, kr, hq⟩ := hrel
    by_cases hlt : k < n
    · obtain ⟨x, hx, hm⟩ := get_lt (l := l) (k := k) (by rw [HL.out]; exact hlt)
      obtain ⟨b, off, rfl, _, _, hc⟩ := rd_at (HR.out.kp kr (by simp)) pvals_len (by omega) hx
      have c0 := hc 0 _ rfl
      have c1 := hc 1 _ rfl
      have c2 := hc 2 _ rfl
      rw [Nat.add_zero] at c0
      have HXO := Lib.hid (HO.out x hm)
      have HX := Lib.hid hx
      clear hc hx
      go_upto_region 6 with (fail)
      refine gen_world (fun W => Kp [] wr W ∧ Bk W wr.heap.size 189 [.int .i64 x.f, .int .i64 x.o, .int .i64 x.n]) ⟨(Kp.refl _ _).alloc _, Bk.newAt rfl _ _⟩ ?_
      rintro W ⟨kW, bW⟩
      have p0 := bW.cell 0
      have p1 := bW.cell 1
      have p2 := bW.cell 2
      simp only [List.getElem?_cons_zero, List.getElem?_cons_succ] at p0 p1 p2
      have kw := kr.trans kW
      have mW := HM.out.kp kw (by simp) (by simp) (by simp) (by simp)
      obtain ⟨d0, d1, d2, ht⟩ := mW.t
      have q0 := ht.cell 0
      have q1 := ht.cell 1
      have q2 := ht.cell 2
      simp only [List.getElem?_cons_zero, List.getElem?_cons_succ] at q0 q1 q2
      have MW := Lib.hid mW
      clear c0 c1 c2 bW ht mW kW
      go_cut [47] (fun v W' => ∃ t : Bool, v = .bool t ∧ Hid (((tFetch fs x.f x.o x.n).1 != 0) = t) ∧ Hid (Kp [] W W'))
      case first =>
        by_cases hf : (tFetch fs x.f x.o x.n).1 = 0
        · obtain ⟨hw, i, y, hxi, hy, hho, hcut⟩ := tFetch_good hf
          have HT47 : Hid (((tFetch fs x.f x.o x.n).1 != 0) = false) := Lib.hid (by simp [hf])
          have HW := Lib.hid hw
          have hil := lt_of hy
          have y1 := MW.out.ho hy
          have g1 : decide (x.f < 0) = false := by simp; omega
          have g2 : decide ((fs.length : Int) ≤ x.f) = false := by simp; omega
          have g3 : (y.ho == 0) = false := by simpa using hho
          have HWI : Hid (∀ (R : Ending → World → Prop) (w1 : World), (∀ w', Kp [] w1 w' → R (.returned (.bool (wB x))) w') → Calls Tryz.prog 87 #[.agg #[.int .i64 i, .int .i64 x.o, .int .i64 x.n]] w1 R) := Lib.hid (fun R w1 h => by rw [← hxi]; exact pwithin_any x HXO.out h)
          rw [hxi] at p0 g1 g2
          have g2n : decide (fs.length ≤ i) = false := by simpa using hil
          have i0 : ¬ (i : Int) < 0 := by omega
          clear hw hf hcut hho hxi
          refine wp_region_kp (by kernel_rfl) (by kernel_rfl) ?_
          repeat (go_big_quiet_step ((go_at_call 87; with_reducible refine HWI.out _ _ (fun w3 k3 => ?_); rw [HW.out]; exact kpx_mk k3)))
          refine wpQuiet_nil ?_
          intro w4 k4
          go_wp2
          go_meet
          exact ⟨false, rfl, HT47, Lib.hid k4⟩
        · have HT47 : Hid (((tFetch fs x.f x.o x.n).1 != 0) = true) := Lib.hid (by simpa using hf)
          rcases tFetch_bad hf with hw | ⟨hw, hff⟩ | ⟨i, y, hw, hxi, hy, hho⟩
          · have HW := Lib.hid hw
            clear hw hf
            refine wp_region_kp (by kernel_rfl) (by kernel_rfl) ?_
            repeat (go_big_quiet_step ((go_at_call 87; refine pwithin_any x HXO.out (fun w3 k3 => ?_); rw [HW.out]; exact kpx_mk k3)))
            refine wpQuiet_nil ?_
            intro w4 k4
            go_wp2
            go_meet
            exact ⟨true, rfl, HT47, Lib.hid k4⟩
          · have HW := Lib.hid hw
            clear hw hf
            have hf2 : x.f < 0 ∨ (¬ x.f < 0 ∧ (fs.length : Int) ≤ x.f) := by omega
            clear hff
            rcases hf2 with f1 | ⟨f1, f2⟩
            · have g1 : decide (x.f < 0) = true := by simpa using f1
              clear f1
              refine wp_region_kp (by kernel_rfl) (by kernel_rfl) ?_
              repeat (go_big_quiet_step ((go_at_call 87; refine pwithin_any x HXO.out (fun w3 k3 => ?_); rw [HW.out]; exact kpx_mk k3)))
              refine wpQuiet_nil ?_
              intro w4 k4
              go_wp2
              go_meet
              exact ⟨true, rfl, HT47, Lib.hid k4⟩
            · have g1 : decide (x.f < 0) = false := by simpa using f1
              have g2 : decide ((fs.length : Int) ≤ x.f) = true := by simpa using f2
              clear f1 f2
              refine wp_region_kp (by kernel_rfl) (by kernel_rfl) ?_
              repeat (go_big_quiet_step ((go_at_call 87; refine pwithin_any x HXO.out (fun w3 k3 => ?_); rw [HW.out]; exact kpx_mk k3)))
              refine wpQuiet_nil ?_
              intro w4 k4
              go_wp2
              go_meet
              exact ⟨true, rfl, HT47, Lib.hid k4⟩
          · have HW := Lib.hid hw
            have hil := lt_of hy
            have y1 := MW.out.ho hy
            have g1 : decide (x.f < 0) = false := by simp; omega
            have g2 : decide ((fs.length : Int) ≤ x.f) = false := by simp; omega
            have g3 : (y.ho == 0) = true := by simp [hho]
            have HWI : Hid (∀ (R : Ending → World → Prop) (w1 : World), (∀ w', Kp [] w1 w' → R (.returned (.bool (wB x))) w') → Calls Tryz.prog 87 #[.agg #[.int .i64 i, .int .i64 x.o, .int .i64 x.n]] w1 R) := Lib.hid (fun R w1 h => by rw [← hxi]; exact pwithin_any x HXO.out h)
            rw [hxi] at p0 g1 g2
            have g2n : decide (fs.length ≤ i) = false := by simpa using hil
            have i0 : ¬ (i : Int) < 0 := by omega
            clear hw hf hho hxi
            refine wp_region_kp (by kernel_rfl) (by kernel_rfl) ?_
            repeat (go_big_quiet_step ((go_at_call 87; with_reducible refine HWI.out _ _ (fun w3 k3 => ?_); rw [HW.out]; exact kpx_mk k3)))
            refine wpQuiet_nil ?_
            intro w4 k4
            go_wp2
            go_meet
            exact ⟨true, rfl, HT47, Lib.hid k4⟩
      case rest =>
        obtain ⟨t, rfl, ht, hk4⟩ := hcut
        have k4 := hk4.out
        cases t with
        | true =>
          have HBAD : Hid (fetF fs l = (1, [])) := Lib.hid (by unfold fetF; rw [any_stop (p := fun p => (tFetch fs p.f p.o p.n).1 != 0) HX.out ht.out]; rfl)
          clear p0 p1 p2 q0 q1 q2 ht
          go_wp2
          exact H.out 1 [] _ HBAD (kw.trans k4)
        | false =>
          have hf : (tFetch fs x.f x.o x.n).1 = 0 := by have := ht.out; simpa using this
          obtain ⟨hw, i, y, hxi, hy, hho, hcut⟩ := tFetch_good hf
          have hwb := wB_bd hw
          obtain ⟨wb1, wb2, wb3⟩ := hwb
          have hil := lt_of hy
          have y2 := MW.out.bs hy
          have hyl := HP.out y (List.mem_of_getElem? hy)
          have HQ : Hid ((l.take (k + 1)).any (fun p => (tFetch fs p.f p.o p.n).1 != 0) = false ∧ ((l.take (k + 1)).flatMap fun p => (tFetch fs p.f p.o p.n).2) = o ++ cutB y.bs x.o x.n) := Lib.hid ⟨any_next (p := fun p => (tFetch fs p.f p.o p.n).1 != 0) HX.out hq.out.1 (by simp [hf]), by
            have hk2 : k < l.length := (List.getElem?_eq_some_iff.1 HX.out).1
            have e2 : l[k] = x := (List.getElem?_eq_some_iff.1 HX.out).2
            rw [List.take_succ_eq_append_getElem hk2, e2, List.flatMap_append, hq.out.2]
            simp [hcut]⟩
          have hcl : (cutB y.bs x.o x.n).length ≤ 256 := by unfold cutB; simp; omega
          have hcv : List.drop x.o.toNat (List.take (x.o + x.n).toNat y.bs) = cutB y.bs x.o x.n := by unfold cutB; rw [List.drop_take, show (x.o + x.n).toNat - x.o.toNat = x.n.toNat by omega]
          obtain ⟨bs, hbs⟩ : ∃ bs, cutB y.bs x.o x.n = bs := ⟨_, rfl⟩
          rw [hbs] at HQ hcl hcv
          have P0 := (k4.cell (p := ⟨wr.heap.size, 0, none⟩) (World.block_lt_of_cell? W _ p0) (by simp)).trans p0
          rw [hxi] at P0
          have P1 := (k4.cell (p := ⟨wr.heap.size, 1, none⟩) (World.block_lt_of_cell? W _ p1) (by simp)).trans p1
          have P2 := (k4.cell (p := ⟨wr.heap.size, 2, none⟩) (World.block_lt_of_cell? W _ p2) (by simp)).trans p2
          have Q2 := (k4.cell (p := ⟨bM, 2, none⟩) (World.block_lt_of_cell? W _ q2) (by simp)).trans q2
          have Y2 := (k4.cell (p := ⟨bB, i, none⟩) (World.block_lt_of_cell? W _ y2) (by simp)).trans y2
          have hsz : (9223372036854775807 < o.length + bs.length) = False := by simp; omega
          have hws : IntKind.i64.wrap (x.o + x.n) = x.o + x.n := by simp [IntKind.wrap, IntKind.signed, IntKind.bits]; omega
          have i0 : ¬ (i : Int) < 0 := by omega
          have hoc : (o ++ bs).length ≤ 256 * (k + 1) := by rw [List.length_append]; omega
          clear p0 p1 p2 q0 q1 q2 ht hf hw hho hcut hbs hxi y2
          go_upto_region 8 with (fail)
          refine wp_region_kp (by kernel_rfl) (by kernel_rfl) ?_
          repeat (go_big_quiet_step (first | (rw [if_neg (by simp only [List.length_append]; omega)]; exact ⟨rfl, rfl⟩) | (rw [if_neg (by omega)]; exact ⟨rfl, rfl⟩)))
          refine wpQuiet_nil ?_
          intro w5 k5
          go_wp2
          exact ⟨⟨k + 1, o ++ bs, by omega, by go_num, rfl, hoc, (kw.trans k4).trans k5, HQ⟩, by simp [intOf]; omega⟩
    · have e : l.take k = l := List.take_of_length_le (by have := HL.out; omega)
      rw [e] at hq
      have HF : Hid (fetF fs l = (0, o)) := Lib.hid (by unfold fetF; rw [hq.out.1, hq.out.2]; rfl)
      go_wp2
      exact H.out 0 o _ HF kr
end
end
/-! ### pantlerlaw05.Shows: a table shows what the document's does. -/
section
open Go.RowKit
set_option linter.unusedVariables false
set_option linter.unusedSimpArgs false
set_option maxRecDepth 100000
section
variable {R : Ending → World → Prop} {bT bL bM bO bH bB : Nat} {fs : List Fr} {w : World}
theorem owner_at {i : Nat} {x : Fr} (hT : Tab w bT bL fs) (hx : fs[i]? = some x) (h : R (.returned (.int .i64 x.ow)) w) : Calls Tryz.prog 70 #[.pointer (some ⟨bT, 0, none⟩), .int .i64 i] w R :=
  owner_any hT i (fun n e => by have : n = x.ow := by rw [← e.out]; unfold tOwner fat; rw [if_pos (by omega), Int.toNat_natCast, hx]
                                rw [this]; exact h)
theorem holds_at {i : Nat} {x : Fr} (hT : Tab w bT bL fs) (hx : fs[i]? = some x) (h : R (.returned (.int .i64 x.ho)) w) : Calls Tryz.prog 71 #[.pointer (some ⟨bT, 0, none⟩), .int .i64 i] w R :=
  holds_any hT i (fun n e => by have : n = x.ho := by rw [← e.out]; unfold tHolds fat; rw [if_pos (by omega), Int.toNat_natCast, hx]
                                rw [this]; exact h)
theorem owner_out {f : Int} (hT : Tab w bT bL fs) (hf : f < 0 ∨ (fs.length : Int) ≤ f) (h : R (.returned (.int .i64 0)) w) : Calls Tryz.prog 70 #[.pointer (some ⟨bT, 0, none⟩), .int .i64 f] w R :=
  owner_any hT f (fun n e => by
    have hx : fat fs f = none := by
      unfold fat; split
      · exact List.getElem?_eq_none (by omega)
      · rfl
    have : n = 0 := by rw [← e.out]; unfold tOwner; rw [hx]
    rw [this]; exact h)
theorem holds_out {f : Int} (hT : Tab w bT bL fs) (hf : f < 0 ∨ (fs.length : Int) ≤ f) (h : R (.returned (.int .i64 0)) w) : Calls Tryz.prog 71 #[.pointer (some ⟨bT, 0, none⟩), .int .i64 f] w R :=
  holds_any hT f (fun n e => by
    have hx : fat fs f = none := by
      unfold fat; split
      · exact List.getElem?_eq_none (by omega)
      · rfl
    have : n = 0 := by rw [← e.out]; unfold tHolds; rw [hx]
    rw [this]; exact h)
theorem read_at {i : Nat} {x : Fr} (hT : Tab w bT bL fs) (hx : fs[i]? = some x) (hn : envB x.ow = true) (h : ∀ A c w', Kp [] w w' → Ow w' 5 1 A 256 c (bts x.bs) → R (.returned (.tuple #[.slice A 256 c, .int .i64 0])) w') :
    Calls Tryz.prog 72 #[.pointer (some ⟨bT, 0, none⟩), .int .i64 x.ow, .int .i64 i, .int .i64 0, .int .i64 256] w R :=
  read_any hT _ _ _ _ (fun e l A c w' q k ho hb => by
    have hf : fat fs (i : Int) = some x := by unfold fat; rw [if_pos (by omega), Int.toNat_natCast, hx]
    have hpg := hT.pgAt hx
    have hq : ownE fs x.ow i = 0 := by unfold ownE; rw [hn, hf]; simp
    have hs : spanB 0 256 = true := by decide
    have hr : tRead fs x.ow i 0 256 = (0, x.bs) := by
      unfold tRead
      rw [hq, hs, hf]
      simp only [if_true, Bool.true_eq_false, if_false]
      have : cutB x.bs 0 256 = x.bs := by
        unfold cutB
        exact List.take_of_length_le (by simp; omega)
      rw [this]
    rw [hr] at q
    have q1 := congrArg Prod.fst q.out
    have q2 := congrArg Prod.snd q.out
    simp only at q1 q2
    subst q1; subst q2
    rw [hpg] at ho ⊢
    exact h A c w' k ho)
set_option maxHeartbeats 4000000 in
theorem shows_any (hT : Tab w bT bL fs) (hM : RT w bM bO bH bB fs) (hok : ∀ x ∈ fs, x.ow = 0 ∨ envB x.ow = true) (h : ∀ w', Kp [] w w' → R (.returned (.bool true)) w') :
    Calls Tryz.prog 16 #[.pointer (some ⟨bT, 0, none⟩), .pointer (some ⟨bM, 0, none⟩)] w R := by
  have H := Lib.hid h
  have HT := Lib.hid hT
  have HM := Lib.hid hM
  have HK := Lib.hid hok
  have hn := hT.n1
  obtain ⟨c0, c1, c2, ht⟩ := hM.t
  have HTT := Lib.hid ht
  have q0 := ht.cell 0
  simp only [List.getElem?_cons_zero] at q0
  clear h hT hM hok ht
  go_enter Tryz.func16, Tryz.ntmps16
  go_wp2_with fail
  refine wp_region_kp (by kernel_rfl) (by kernel_rfl) ?_
  repeat (quiet_step (first | (go_at_call 67; (refine size_any (HT.out.kp (kpw_kp _ _) (by simp) (by simp)) ?_); exact ⟨rfl, _, rfl⟩) | (go_at_call 68; (refine count_any (HT.out.kp (kpw_kp _ _) (by simp) (by simp)) ?_); exact ⟨rfl, _, rfl⟩) | (go_at_call 69; (refine rcount_any (HM.out.kp (kpw_kp _ _) (by simp) (by simp) (by simp) (by simp)) ?_); exact ⟨rfl, _, rfl⟩)))
  refine wpQuiet_nil ?_
  intro w1 k1
  go_wp2
  clear q0
  go_loopw [5] (fun iv wr => ∃ k : Nat, k ≤ fs.length ∧ iv = .int .i64 k ∧ Kp [] w wr) (fun iv _ => fs.length - (intOf iv).toNat)
  case atStart => exact ⟨0, Nat.zero_le _, rfl, k1⟩
  case round =>
    obtain ⟨k, hk, rfl, kr⟩ := hrel
    have tr := HT.out.kp kr (by simp) (by simp)
    have mr := HM.out.kp kr (by simp) (by simp) (by simp) (by simp)
    have htr := HTT.out.kp kr (by simp)
    have q0 := htr.cell 0
    have q1 := htr.cell 1
    have q2 := htr.cell 2
    simp only [List.getElem?_cons_zero, List.getElem?_cons_succ] at q0 q1 q2
    have TR := Lib.hid tr
    have MR := Lib.hid mr
    clear htr tr mr
    by_cases hlt : k < fs.length
    · obtain ⟨x, hx⟩ : ∃ x, fs[k]? = some x := ⟨_, List.getElem?_eq_getElem hlt⟩
      have x0 := MR.out.ow hx
      have x1 := MR.out.ho hx
      have x2 := MR.out.bs hx
      have HX := Lib.hid hx
      have hox := HK.out x (List.mem_of_getElem? hx)
      clear hx
      go_wp2_with fail
      refine wp_region_kp (by kernel_rfl) (by kernel_rfl) ?_
      repeat (quiet_step (first | (go_at_call 70; (refine owner_at (TR.out.kp (kpw_kp _ _) (by simp) (by simp)) HX.out ?_); exact ⟨rfl, _, rfl⟩) | (go_at_call 71; (refine holds_at (TR.out.kp (kpw_kp _ _) (by simp) (by simp)) HX.out ?_); exact ⟨rfl, _, rfl⟩)))
      refine wpQuiet_nil ?_
      intro w2 k2
      have y0 := (k2.cell (p := ⟨bM, 0, none⟩) (World.block_lt_of_cell? wr _ q0) (by simp)).trans q0
      have y1 := (k2.cell (p := ⟨bO, k, none⟩) (World.block_lt_of_cell? wr _ x0) (by simp)).trans x0
      have t2 := TR.out.kp k2 (by simp) (by simp)
      have T2 := Lib.hid t2
      clear t2
      cases hb : (x.ow == 0)
      · have hen : envB x.ow = true := hox.resolve_left (by simpa using hb)
        go_wp2_with (go_at_call 72; ((refine read_at T2.out HX.out hen ?_); intro A3 c3 w3 k3 ho3; have cv3 := fun k => conv_bsN (c := c3) (ho3.rd (N := []) (by simp)) (T2.out.pgAt HX.out) k))
        have u2 := (k3.cell (p := ⟨bM, 2, none⟩) (World.block_lt_of_cell? w2 _ ((k2.cell (p := ⟨bM, 2, none⟩) (World.block_lt_of_cell? wr _ q2) (by simp)).trans q2)) (by simp)).trans ((k2.cell (p := ⟨bM, 2, none⟩) (World.block_lt_of_cell? wr _ q2) (by simp)).trans q2)
        have u3 := (k3.cell (p := ⟨bB, k, none⟩) (World.block_lt_of_cell? w2 _ ((k2.cell (p := ⟨bB, k, none⟩) (World.block_lt_of_cell? wr _ x2) (by simp)).trans x2)) (by simp)).trans ((k2.cell (p := ⟨bB, k, none⟩) (World.block_lt_of_cell? wr _ x2) (by simp)).trans x2)
        go_quiet (fail)
        go_wp2
        exact ⟨⟨k + 1, by omega, by go_num, ((kr.trans k2).trans k3).drewN _⟩, by simp [intOf]; omega⟩
      · go_wp2
        exact ⟨⟨k + 1, by omega, by go_num, kr.trans k2⟩, by simp [intOf]; omega⟩
    · obtain rfl : k = fs.length := by omega
      go_wp2_with fail
      refine wp_region_kp (by kernel_rfl) (by kernel_rfl) ?_
      repeat (quiet_step (first | (go_at_call 70; (refine owner_out (TR.out.kp (kpw_kp _ _) (by simp) (by simp)) (by omega) ?_); exact ⟨rfl, _, rfl⟩) | (go_at_call 71; (refine holds_out (TR.out.kp (kpw_kp _ _) (by simp) (by simp)) (by omega) ?_); exact ⟨rfl, _, rfl⟩)))
      refine wpQuiet_nil ?_
      intro w2 k2
      go_wp2
      exact H.out _ (kr.trans k2)
end
end
end Go.Proofs.YtedblbpmlbjnhaaGreat
