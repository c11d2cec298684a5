/- FramePlays walked. -/
import Derived.Test.YtilhjohoahgefaaRDoA
import Derived.Test.YtilhjohoahgefaaShows
namespace Go.Proofs.Ytilhjohoahgefaa
open Go.RowKit Go.ChangeShapes Go.WideShapes Go.ChangeAt Go.Deep
set_option linter.unusedVariables false
set_option linter.unusedSimpArgs false
set_option maxRecDepth 100000
section
variable {H : Type} {enc : TypeId × Value → H} {W : World}
def okA (a : Ac) : Prop := a.s.size ≤ maxLen ∧ -9223372036854775808 ≤ a.o ∧ a.o ≤ 9223372036854775807
theorem opn_act2 : Opn enc Try.prog W 47 Ac.vals okA := ⟨fun fuel cs x h => by
  obtain ⟨xs, n, _, _, hlen, hxl, hg⟩ := DataW.trod_struct Try.underlying47 h
  have hK : Try.prog.cellsOf 47 = 6 := by kernel_rfl
  have hI : Try.prog.cellsOf 3 = 1 := by kernel_rfl
  have hS : Try.prog.cellsOf 9 = 1 := by kernel_rfl
  rw [hK] at hlen
  match cs, hlen with
  | [c0, c1, c2, c3, c4, c5], _ =>
    obtain ⟨m0, rfl, _⟩ := fld_int hg hxl 0 rfl hI Try.underlying3 rfl
    obtain ⟨m1, rfl, _⟩ := fld_int hg hxl 1 rfl hI Try.underlying3 rfl
    obtain ⟨m2, rfl, _⟩ := fld_int hg hxl 2 rfl hI Try.underlying3 rfl
    obtain ⟨m3, rfl, w3⟩ := fld_int hg hxl 3 rfl hI Try.underlying3 rfl
    obtain ⟨m4, rfl, _⟩ := fld_int hg hxl 4 rfl hI Try.underlying3 rfl
    obtain ⟨m5, rfl, hm⟩ := fld_string hg hxl 5 rfl hS Try.underlying9 rfl
    have b3 := bounds_i64 w3
    exact ⟨⟨m0, m1, m2, m3, m4, m5⟩, rfl, hm, b3.1, b3.2⟩⟩
theorem opn_acts2 : Opn enc Try.prog W 44 (Sin.vals (α := Ac)) (Sin.ok W Ac.vals okA) :=
  opn_slice (K := 6) Try.underlying44 (by kernel_rfl) (fun _ => rfl) opn_act2
end
section
variable {R : Ending → World → Prop} {w : World}
/-- Every frame is nobody's or an environment's. -/
def Own2 (fs : List Fr) : Prop := ∀ x ∈ fs, x.ow = 0 ∨ envB x.ow = true
theorem Own2.turn {fs fs' : List Fr} {a : Ac} (h : Own2 fs) (t : Turn fs a fs') : Own2 fs' := by
  rcases t with rfl | ⟨i, x, x', hx, rfl, _, t⟩
  · exact h
  · intro y hy
    rcases mem_set hy with rfl | hy
    · have hxo := h x (List.mem_of_getElem? hx)
      rcases t with ⟨_, _, he, rfl⟩ | ⟨_, _, _, ho, he, ⟨_, _, rfl⟩ | ⟨_, _, hn, rfl⟩ | ⟨_, _, rfl⟩ | ⟨_, rfl⟩⟩ | ⟨_, _, _, _, _, rfl⟩
      · exact .inr he
      · exact .inl rfl
      · exact .inr hn
      · exact hxo
      · exact hxo
      · exact hxo
    · exact h y hy
set_option maxHeartbeats 4000000 in
theorem plays_walk (n : Int) (a : Sin Ac) (ha : a.ok w Ac.vals okA) (n0 : -9223372036854775808 ≤ n) (n1 : n ≤ 9223372036854775807) (h : ∀ w', Kp [] w w' → R (.returned (.bool true)) w') :
    Calls Try.prog 7 #[.int .i64 n, .slice a.A a.n a.c] w R := by
  have H := Lib.hid h
  clear h
  obtain ⟨A, m, c, l⟩ := a
  have hrd := ha.rd
  have hall := fun x hx => (ha.all x hx)
  have hcap := ha.cap
  have hmax := ha.max
  have HL : Hid (l.length = m) := Lib.hid ha.len
  unfold maxLen at hmax
  simp only at hrd hall hcap hmax
  have hall' : ∀ x ∈ l, x.s.size ≤ 9223372036854775807 := fun x hx => by have := (hall x hx).1; unfold maxLen at this; omega
  have HA := Lib.hid hall
  have HA' := Lib.hid hall'
  clear ha hall hall'
  cases hf : farB l with
  | true =>
    go_enter Try.func7, Try.ntmps7
    go_wp2_with (first | (go_at_call 15; refine alive05 (fun w1 k1 => ?_)) | (go_at_call 23; refine far_any (hrd.to k1 (by simp) (N' := []) (by simp)) HL.out (by omega) HA'.out ?_; rw [hf]))
    exact H.out _ k1
  | false =>
    by_cases h40 : 40 < n ∧ n ≤ 256
    · obtain ⟨h4, h5⟩ := h40
      go_enter Try.func7, Try.ntmps7
      go_wp2_with (first | (go_at_call 15; refine alive05 (fun w1 k1 => ?_)) | (go_at_call 23; refine far_any (hrd.to k1 (by simp) (N' := []) (by simp)) HL.out (by omega) HA'.out ?_; rw [hf]))
      exact H.out _ k1
    · by_cases hbad : n < 1 ∨ 256 < n
      · have hb2 : n < 1 ∨ (¬ n < 1 ∧ 256 < n) := by omega
        clear h40
        rcases hb2 with h4 | ⟨h4, h5⟩
        all_goals
          go_enter Try.func7, Try.ntmps7
          go_wp2_with (first | (go_at_call 15; refine alive05 (fun w1 k1 => ?_)) | (go_at_call 23; refine far_any (hrd.to k1 (by simp) (N' := []) (by simp)) HL.out (by omega) HA'.out ?_; rw [hf]) | (go_at_call 16; refine new_bad n hbad ?_))
          exact H.out _ k1
      · obtain ⟨N, rfl⟩ : ∃ N : Nat, n = N := ⟨n.toNat, by omega⟩
        have h1 : 1 ≤ N := by omega
        have h4 : N ≤ 40 := by omega
        have hf2 : ¬ 150 < l.length ∧ l.any (fun a => decide (1000 < a.s.size)) = false := by
          simp only [farB, Bool.or_eq_false_iff, decide_eq_false_iff_not] at hf
          exact hf
        rw [HL.out] at hf2
        have hn150 : m ≤ 150 := by omega
        have hsz : ∀ x ∈ l, x.s.size ≤ 1000 := by
          intro x hx
          have := List.any_eq_false.1 hf2.2 x hx
          simpa using this
        have HSZ := Lib.hid hsz
        clear hf2 hbad h40 hsz
        go_enter Try.func7, Try.ntmps7
        go_wp2_with (first | (go_at_call 15; refine alive05 (fun w1 k1 => ?_)) | (go_at_call 23; refine far_any (hrd.to k1 (by simp) (N' := []) (by simp)) HL.out (by omega) HA'.out ?_; rw [hf]) | (go_at_call 16; refine new_any N h1 (by omega) (fun bT bL w2 a1 a2 k2 t2 => ?_)) | (go_at_call 28; refine rnew_any N h1 (by omega) (fun bM bO bH bB w3 e1 e2 e3 e4 k3 t3 => ?_)))
        have s1 := k1.size
        have s2 := k2.size
        have lT := t2.t.lt
        have lL := t2.l.lt
        have T3 := t2.kp k3 (by simp) (by simp)
        have K3 := (k1.trans k2).trans k3
        clear k1 k2 k3 t2
        go_loopw [8] (fun iv wr => ∃ (k : Nat) (fs : List Fr), k ≤ m ∧ iv = .int .i64 k ∧ Kp [] w wr ∧ Tab wr bT bL fs ∧ RT wr bM bO bH bB fs ∧ Hb (k + 1) fs ∧ Own2 fs) (fun iv _ => m - (intOf iv).toNat)
        case atStart => exact ⟨0, _, Nat.zero_le _, rfl, K3, T3, t3, by intro x hx; rw [List.eq_of_mem_replicate hx]; simp [fz], by intro x hx; rw [List.eq_of_mem_replicate hx]; exact .inl rfl⟩
        case round =>
          obtain ⟨k, fs, hk, rfl, kr, tr, mr, hb, ho⟩ := hrel
          by_cases hlt2 : k < m
          · have hx : l[k]? = some (l[k]'(by have := HL.out; omega)) := List.getElem?_eq_getElem _
            generalize (l[k]'(by have := HL.out; omega)) = x at hx
            have hsx := HSZ.out x (List.mem_of_getElem? hx)
            have hox := (HA.out x (List.mem_of_getElem? hx)).2
            obtain ⟨b, o, rfl, _, hbl, hc⟩ := rd_at hrd avals_len (by omega) hx
            have g0 := hc 0 _ rfl
            have g1 := hc 1 _ rfl
            have g2 := hc 2 _ rfl
            have g3 := hc 3 _ rfl
            have g4 := hc 4 _ rfl
            have g5 := hc 5 _ rfl
            rw [Nat.add_zero] at g0
            have c0 := (kr.cell (p := ⟨b, o + k * 6, none⟩) hbl (by simp)).trans g0
            have c1 := (kr.cell (p := ⟨b, o + k * 6 + 1, none⟩) hbl (by simp)).trans g1
            have c2 := (kr.cell (p := ⟨b, o + k * 6 + 2, none⟩) hbl (by simp)).trans g2
            have c3 := (kr.cell (p := ⟨b, o + k * 6 + 3, none⟩) hbl (by simp)).trans g3
            have c4 := (kr.cell (p := ⟨b, o + k * 6 + 4, none⟩) hbl (by simp)).trans g4
            have c5 := (kr.cell (p := ⟨b, o + k * 6 + 5, none⟩) hbl (by simp)).trans g5
            clear hc hx
            by_cases hk0 : x.k < 0
            · go_wp2
              exact ⟨⟨k + 1, fs, by omega, by go_num, kr, tr, mr, by have := hb.up; exact this, ho⟩, by simp [intOf]; omega⟩
            · by_cases hk7 : 7 < x.k
              · go_wp2
                exact ⟨⟨k + 1, fs, by omega, by go_num, kr, tr, mr, by have := hb.up; exact this, ho⟩, by simp [intOf]; omega⟩
              · go_wp2_with fail
                refine do_any tr x hsx (hb.at_ (by omega)) (fun n' s' e' fs' w6 q6 k6 t6 => ?_)
                have bb : b < w.heap.size := hbl
                have mr6 := mr.kp k6 (by simp; omega) (by simp; omega) (by simp; omega) (by simp; omega)
                have kr6 : Kp [] w w6 := kr.thn k6 (fun s hs => .inr (by simp at hs; omega))
                have d0 := (kr6.cell (p := ⟨b, o + k * 6, none⟩) hbl (by simp)).trans g0
                have d1 := (kr6.cell (p := ⟨b, o + k * 6 + 1, none⟩) hbl (by simp)).trans g1
                have d2 := (kr6.cell (p := ⟨b, o + k * 6 + 2, none⟩) hbl (by simp)).trans g2
                have d3 := (kr6.cell (p := ⟨b, o + k * 6 + 3, none⟩) hbl (by simp)).trans g3
                have d4 := (kr6.cell (p := ⟨b, o + k * 6 + 4, none⟩) hbl (by simp)).trans g4
                have d5 := (kr6.cell (p := ⟨b, o + k * 6 + 5, none⟩) hbl (by simp)).trans g5
                clear c0 c1 c2 c3 c4 c5 g0 g1 g2 g3 g4 g5
                have ht6 : Turn fs x fs' := by have := dDo_turn tr.pg x; rw [q6.out] at this; exact this
                have hb6 := hb.turn (by omega) ht6
                have ho6 := ho.turn ht6
                have HF : Hid (Fok (k + 1) fs) := Lib.hid ⟨fun y hy => hb y hy, tr.pg⟩
                go_wp2_with fail
                refine rdo_any mr6 x (m := k + 1) (by omega) HF.out (by omega) (by omega) hox.1 hox.2 (fun n2 s2 e2 fs2 w7 q7 k7 t7 => ?_)
                obtain ⟨rfl, rfl, rfl, rfl⟩ : n2 = n' ∧ s2 = s' ∧ e2 = e' ∧ fs2 = fs' := by
                  have := q7.out.symm.trans q6.out
                  injection this with r1 r2 r3 r4
                  exact ⟨r1, r2, r3, r4⟩
                have t67 := t6.kp k7 (by simp; omega) (by simp; omega)
                have kr7 : Kp [] w w7 := kr6.thn k7 (fun s hs => .inr (by simp at hs; omega))
                have T7 := Lib.hid t7
                have T67 := Lib.hid t67
                have HO6 := Lib.hid ho6
                clear d0 d1 d2 d3 d4 d5
                go_wp2_with (go_at_call 30; refine shows_any T67.out T7.out HO6.out (fun w8 k8 => ?_))
                exact ⟨⟨k + 1, fs2, by omega, by go_num, kr7.trans k8, t67.kp k8 (by simp) (by simp), t7.kp k8 (by simp) (by simp) (by simp) (by simp), hb6, ho6⟩, by simp [intOf]; omega⟩
          · go_wp2
            exact H.out _ kr
end
end Go.Proofs.Ytilhjohoahgefaa
