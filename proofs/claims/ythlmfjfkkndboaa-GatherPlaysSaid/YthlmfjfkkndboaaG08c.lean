/- The document's gather: Hold, Fetch. -/
import Derived.Test.YthlmfjfkkndboaaG08b
import Derived.BigRegion
namespace Go.Proofs.Ythlmfjfkkndboaa
open Go.RowKit
set_option linter.unusedVariables false
set_option linter.unusedSimpArgs false
set_option maxRecDepth 100000
section
variable {R : Ending → World → Prop} {bM bO bH bB : Nat} {fs : List Fr} {w : World}
theorem tHold_ow (fs : List Fr) (who f : Int) (j : Nat) : ((tHold fs who f).2[j]?).map (·.ow) = (fs[j]?).map (·.ow) := by
  unfold tHold
  split
  · split
    · rfl
    · rename_i x hx
      obtain ⟨_, hi⟩ := fat_some hx
      simp only
      rw [List.getElem?_set]
      split
      · rename_i h; subst h
        have := (List.getElem?_eq_some_iff.1 hi).1
        rw [hi]; simp [this]
      · rfl
  · rfl
theorem holdAll_ow (env : Int) : ∀ (l : List Pc) (fs : List Fr) (j : Nat), ((holdAll fs env l)[j]?).map (·.ow) = (fs[j]?).map (·.ow)
  | [], _, _ => rfl
  | p :: l, fs, j => by
    show ((holdAll (tHold fs env p.f).2 env l)[j]?).map (·.ow) = _
    rw [holdAll_ow env l, tHold_ow]
theorem check_ok {env : Int} {l : List Pc} (h : checkE fs env l = 0) : envB env = true ∧ ∀ x ∈ l, ∃ (i : Nat) (y : Fr), x.f = i ∧ fs[i]? = some y ∧ y.ow = env := by
  unfold checkE at h
  split at h
  · omega
  · rename_i h1
    split at h
    · omega
    · rename_i h2
      split at h
      · omega
      · split at h
        · omega
        · rename_i h4
          refine ⟨by cases he : envB env with | true => rfl | false => exact absurd (.inl he) h1, fun x hx => ?_⟩
          have hb : kbad fs.length x = false := by
            have := List.any_eq_false.1 (by simpa using h2) x hx
            simpa using this
          have ho : tOwner fs x.f = env := (by simpa using h4 : ∀ x ∈ l, tOwner fs x.f = env) x hx
          obtain ⟨_, _, f0, f1⟩ := tOwner_range hb
          obtain ⟨i, hi⟩ : ∃ i : Nat, x.f = i := ⟨x.f.toNat, by omega⟩
          have hil : i < fs.length := by omega
          refine ⟨i, fs[i], hi, List.getElem?_eq_getElem hil, ?_⟩
          unfold tOwner fat at ho
          rw [hi, if_pos (by omega), Int.toNat_natCast, List.getElem?_eq_getElem hil] at ho
          simpa using ho
set_option maxHeartbeats 4000000 in
theorem rhold_any (hM : RT w bM bO bH bB fs) (env : Int) {A : Option Addr} {n c : Nat} {l : List Pc} (hr : Rd w [bO, bH, bB] A (l.flatMap Pc.vals)) (hl : l.length = n) (hn : n ≤ 1000000) (hok : ∀ p ∈ l, p.ok) (hb : hoB fs 1000000)
    (h : ∀ w', Kp [bO, bH, bB] w w' → RT w' bM bO bH bB (if checkE fs env l = 0 then holdAll fs env l else fs) → R (.returned (.int .i64 (checkE fs env l))) w') :
    Calls Try.prog 20 #[.pointer (some ⟨bM, 0, none⟩), .int .i64 env, .slice A n c] w R := by
  have H := Lib.hid h
  have HL := Lib.hid hl
  have HO := Lib.hid hok
  have HM := Lib.hid hM
  have HR := Lib.hid hr
  have HB := Lib.hid hb
  have hle := hM.n1
  clear h hl hok hM hr hb
  obtain ⟨e, he⟩ : ∃ e, checkE fs env l = e := ⟨_, rfl⟩
  have HE := Lib.hid he
  rw [he] at H
  clear he
  by_cases h0 : e = 0
  · subst h0
    have HK := Lib.hid (check_ok HE.out)
    go_enter Try.func20, Try.ntmps20
    go_wp2_with (go_at_call 16; refine rcheck_any HM.out env (HR.out.sub (by simp)) HL.out hn HO.out (fun w1 k1 => ?_); rw [HE.out])
    have M1 := HM.out.kp k1 (by simp) (by simp) (by simp) (by simp)
    have K1 : Kp [bO, bH, bB] w w1 := k1.mono (by simp)
    clear k1
    go_loopw [8] (fun iv wr => ∃ (k : Nat) (fr : List Fr), k ≤ n ∧ iv = .int .i64 k ∧ Kp [bO, bH, bB] w wr ∧ RT wr bM bO bH bB fr ∧ Hid (fr = holdAll fs env (l.take k) ∧ hoB fr (1000000 + k))) (fun iv _ => n - (intOf iv).toNat)
    case atStart => exact ⟨0, fs, Nat.zero_le _, rfl, K1, M1, rfl, by simpa using HB.out⟩
    case round =>
      obtain ⟨k, fr, hk, rfl, kr, mr, hq⟩ := hrel
      by_cases hlt : k < n
      · obtain ⟨x, hx, hm⟩ := get_lt (l := l) (k := k) (by rw [HL.out]; exact hlt)
        obtain ⟨b, off, rfl, hbN, _, hc⟩ := rd_at (HR.out.kp kr (by simp)) pvals_len (by omega) hx
        have c0 := hc 0 _ rfl
        rw [Nat.add_zero] at c0
        obtain ⟨i, y0, hxi, hy0, how⟩ := HK.out.2 x hm
        have hy1 := holdAll_ow env (l.take k) fs i
        rw [← hq.out.1, hy0] at hy1
        obtain ⟨y, hy, hyo⟩ : ∃ y, fr[i]? = some y ∧ y.ow = env := by
          cases hz : fr[i]? with
          | none => rw [hz] at hy1; cases hy1
          | some y => rw [hz] at hy1; exact ⟨y, rfl, by have := Option.some.inj hy1; simp only at this; rw [this]; exact how⟩
        have hyb := hq.out.2 y (List.mem_of_getElem? hy)
        have hil := lt_of hy
        have hstep : (tHold fr env x.f).2 = fr.set i { y with ho := y.ho + 1 } := by
          have hf : fat fr x.f = some y := by unfold fat; rw [hxi, if_pos (by omega), Int.toNat_natCast, hy]
          have ho : ownE fr env x.f = 0 := by unfold ownE; rw [HK.out.1, hf]; simp [hyo]
          unfold tHold
          rw [ho, hf, hxi]; simp
        have HS : Hid (fr.set i { y with ho := y.ho + 1 } = holdAll fs env (l.take (k + 1)) ∧ hoB (fr.set i { y with ho := y.ho + 1 }) (1000000 + (k + 1 : Nat))) := Lib.hid ⟨by
            have := foldl_snoc (f := fun fs (p : Pc) => (tHold fs env p.f).2) (b := fs) hx
            unfold holdAll
            rw [this]
            show _ = (tHold (holdAll fs env (l.take k)) env x.f).2
            rw [← hq.out.1, hstep], by
            have := tHold_hoB hq.out.2 env x.f
            rw [hstep] at this
            have e : (1000000 : Int) + k + 1 = 1000000 + ((k + 1 : Nat) : Int) := by omega
            rw [← e]; exact this⟩
        rw [hxi] at c0
        obtain ⟨d0, d1, d2, ht⟩ := mr.t
        have q1 := ht.cell 1
        simp only [List.getElem?_cons_zero, List.getElem?_cons_succ] at q1
        have x1 := mr.ho hy
        have z1 := mr.h.frozen i
        have HY := Lib.hid hy
        have MR := Lib.hid mr
        have i0 : ¬ (i : Int) < 0 := by omega
        have yb1 : -1000000 ≤ y.ho := hyb.1
        have yb2 : y.ho ≤ 1000000 + k := hyb.2
        clear hc hx hy hy0 hy1 hstep ht mr hyb hq how hyo hxi
        go_wp2
        go_region
        all_goals go_wp2
        all_goals exact ⟨⟨k + 1, _, by omega, by go_num, (by repeat first | exact kr | refine Kp.setCell ?_ (.inl (by simp)) _ | refine Kp.drewN ?_ _ | refine Kp.drew ?_), (by repeat first | exact MR.out | refine RT.putHo ?_ HY.out _ | refine RT.drewN ?_ _ | refine RT.drew ?_), HS⟩, by simp [intOf]; omega⟩
      · have e : l.take k = l := List.take_of_length_le (by have := HL.out; omega)
        obtain rfl : k = n := by omega
        rw [e] at hq
        have hfr := hq.out.1
        clear e
        go_wp2
        exact H.out _ kr (by rw [if_pos trivial, ← hfr]; exact mr)
  · have b0 : (e == 0) = false := by simpa using h0
    go_enter Try.func20, Try.ntmps20
    go_wp2_with (go_at_call 16; refine rcheck_any HM.out env (HR.out.sub (by simp)) HL.out hn HO.out (fun w1 k1 => ?_); rw [HE.out])
    refine wp_loop_rounds 1 ?_
    rw [rounds_succ]
    go_wp2
    all_goals exact H.out _ (k1.mono (by simp)) (by rw [if_neg h0]; exact HM.out.kp k1 (by simp) (by simp) (by simp) (by simp))
end
end Go.Proofs.Ythlmfjfkkndboaa
