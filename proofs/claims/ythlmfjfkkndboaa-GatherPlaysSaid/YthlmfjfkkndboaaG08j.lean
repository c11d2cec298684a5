/- GatherPlays walked. -/
import Derived.Test.YthlmfjfkkndboaaG08i
import Derived.Test.YthlmfjfkkndboaaLawPlays
namespace Go.Proofs.Ythlmfjfkkndboaa
open Go.RowKit
set_option linter.unusedVariables false
set_option linter.unusedSimpArgs false
set_option maxRecDepth 100000
section
variable {H : Type} {enc : TypeId × Value → H} {W : World}
theorem opn_pcss : Opn enc Try.prog W 23 (Sin.vals (α := Sin Pc)) (Sin.ok W (Sin.vals (α := Pc)) (Sin.ok W Pc.vals Pc.ok)) :=
  opn_slice (K := 1) Try.underlying23 (by kernel_rfl) (fun _ => rfl) opn_pcs
end
section
variable {R : Ending → World → Prop} {w w1 w' : World} {g : GA} {fs f1 f2 : List Fr}
theorem g_do {m : Int} (hb : GOk m fs) (hm : m ≤ 1000000) (a : Ac) (hsz : a.s.size ≤ 1000) (hg : Hid (G2 w w1 g fs f2)) (h : ∀ v w', Hid (G2 w w' g (dDo fs a).fs f2) → R (.returned v) w') : Calls Try.prog 12 #[.pointer (some ⟨g.bT, 0, none⟩), .agg #[.int .i64 a.k, .int .i64 a.e, .int .i64 a.f, .int .i64 a.o, .int .i64 a.n, .string a.s]] w1 R :=
  do_any hg.out.t a hsz (fun f x hx => by have := hb.b x (List.mem_of_getElem? (fat_some hx).2); omega) (fun n s e fs' w' q k t => h _ w' (Lib.hid (hg.out.turnT k (by rw [q.out]; exact t))))
theorem g_rdo {m : Int} (hb : GOk m fs) (hm : m ≤ 1000000) (a : Ac) (k0 : 0 ≤ a.k) (k7 : a.k ≤ 7) (o1 : -9223372036854775808 ≤ a.o) (o2 : a.o ≤ 9223372036854775807) (hpg : ∀ x ∈ fs, x.bs.length = 256) (hg : Hid (G2 w w1 g f1 fs)) (h : ∀ v w', Hid (G2 w w' g f1 (dDo fs a).fs) → R (.returned v) w') : Calls Try.prog 13 #[.pointer (some ⟨g.bM, 0, none⟩), .agg #[.int .i64 a.k, .int .i64 a.e, .int .i64 a.f, .int .i64 a.o, .int .i64 a.n, .string a.s]] w1 R :=
  rdo_any hg.out.m a (m := m) (by omega) ⟨hb.b, hpg⟩ k0 k7 o1 o2 (fun n s e fs' w' q k t => h _ w' (Lib.hid (hg.out.turnM k (by rw [q.out]; exact t))))
theorem GOk.turn {m : Int} {a : Ac} (h : GOk m fs) (hm : 0 ≤ m) (hpg : ∀ x ∈ fs, x.bs.length = 256) : GOk (m + 1) (dDo fs a).fs := by
  have ht := dDo_turn hpg a
  have hb : Hb m fs := h.b
  exact ⟨hb.turn hm ht, h.o.turn ht, h.h.turn (fun x hx => (h.b x hx).1) ht⟩
set_option maxHeartbeats 8000000 in
theorem gplays_walk (a : Sin Ac) (ha : a.ok w Ac.vals okA) (env : Int) (ls : Sin (Sin Pc)) (hls : ls.ok w Sin.vals (Sin.ok w Pc.vals Pc.ok)) (h : ∀ w', Kp [] w w' → R (.returned (.bool true)) w') :
    Calls Try.prog 3 #[.slice a.A a.n a.c, .int .i64 env, .slice ls.A ls.n ls.c] w R := by
  have H := Lib.hid h
  obtain ⟨A, m, c, l⟩ := a
  obtain ⟨A2, n2, c2, l2⟩ := ls
  have hrd := ha.rd
  have hall := fun x hx => (ha.all x hx)
  have hcap := ha.cap
  have hmax := ha.max
  have HL : Hid (l.length = m) := Lib.hid ha.len
  obtain ⟨hl2, hcap2, hmax2, hall2, hrd2, _⟩ := hls
  unfold maxLen at hmax hmax2
  simp only at hrd hall hcap hmax hl2 hcap2 hmax2 hall2 hrd2
  have hall' : ∀ x ∈ l, x.s.size ≤ 9223372036854775807 := fun x hx => by have := (hall x hx).1; unfold maxLen at this; omega
  have HA := Lib.hid hall
  have HR := Lib.hid hrd
  have HL2 := Lib.hid hl2
  have HA2 := Lib.hid hall2
  have HR2 := Lib.hid hrd2
  have HFar : Hid (∀ (R : Ending → World → Prop) (w1 : World), Kp [] w w1 → R (.returned (.bool (farB l))) w1 → Calls Try.prog 9 #[.slice A m c] w1 R) := Lib.hid (fun R w1 k1 h => far_any (hrd.to k1 (by simp) (N' := []) (by simp)) HL.out (by omega) hall' h)
  clear h ha hall hall' hrd hl2 hall2 hrd2
  cases hf : farB l with
  | true =>
    rw [hf] at HFar
    go_enter Try.func3, Try.ntmps3
    go_wp2_with (first | (go_at_call 8; refine alive08 (fun w1 k1 => ?_)) | (go_at_call 9; refine HFar.out _ _ k1 ?_))
    exact H.out _ k1
  | false =>
    rw [hf] at HFar
    have hf2 : ¬ 150 < l.length ∧ l.any (fun a => decide (1000 < a.s.size)) = false := by
      simp only [farB, Bool.or_eq_false_iff, decide_eq_false_iff_not] at hf
      exact hf
    rw [HL.out] at hf2
    have hn150 : m ≤ 150 := by omega
    have HSZ : Hid (∀ x ∈ l, x.s.size ≤ 1000) := Lib.hid (by
      intro x hx
      have := List.any_eq_false.1 hf2.2 x hx
      simpa using this)
    clear hf2 hf
    by_cases h20 : 20 < n2
    · go_enter Try.func3, Try.ntmps3
      go_wp2_with (first | (go_at_call 8; refine alive08 (fun w1 k1 => ?_)) | (go_at_call 9; refine HFar.out _ _ k1 ?_))
      exact H.out _ k1
    · go_enter Try.func3, Try.ntmps3
      go_upto_region 7 with (first | (go_at_call 8; refine alive08 (fun w1 k1 => ?_)) | (go_at_call 9; refine HFar.out _ _ k1 ?_) | (go_at_call 10; refine new_any 4 (by omega) (by omega) (fun bT bL w2 a1 a2 k2 t2 => ?_)) | (go_at_call 11; refine rnew_any 4 (by omega) (by omega) (fun bM bO bH bB w3 e1 e2 e3 e4 k3 t3 => ?_)))
      have s1 := k1.size
      have s2 := k2.size
      have lT := t2.t.lt
      have lL := t2.l.lt
      obtain ⟨g, rfl, rfl, rfl, rfl, rfl, rfl⟩ : ∃ g : GA, g.bT = bT ∧ g.bL = bL ∧ g.bM = bM ∧ g.bO = bO ∧ g.bH = bH ∧ g.bB = bB := ⟨⟨bT, bL, bM, bO, bH, bB⟩, rfl, rfl, rfl, rfl, rfl, rfl⟩
      have hG : Hid (G2 w w3 g (List.replicate 4 fz) (List.replicate 4 fz)) := Lib.hid ⟨(k1.trans k2).trans k3, ⟨by omega, by omega, by omega, by omega, by omega, by omega⟩, t2.kp k3 (by simp) (by simp), t3⟩
      have hO : Hid (GOk 0 (List.replicate 4 fz)) := Lib.hid ⟨by intro x hx; rw [List.eq_of_mem_replicate hx]; simp [fz], by intro x hx; rw [List.eq_of_mem_replicate hx]; exact .inl rfl, by intro x hx h0; rw [List.eq_of_mem_replicate hx] at h0; exact absurd rfl h0⟩
      clear k1 k2 k3 t2 t3 s1 s2 lT lL a1 a2 e1 e2 e3 e4 HFar
      go_wp2
      go_loopw [10] (fun iv wr => ∃ (i : Nat) (fs : List Fr), i ≤ m ∧ iv = .int .i64 i ∧ Hid (G2 w wr g fs fs) ∧ Hid (GOk i fs)) (fun iv _ => m - (intOf iv).toNat)
      case atStart => exact ⟨0, _, Nat.zero_le _, rfl, hG, hO⟩
      case round =>
        obtain ⟨i, fs, hi, rfl, hg0, hb⟩ := hrel
        by_cases hlt : i < m
        · obtain ⟨x, hx, hm⟩ := get_lt (l := l) (k := i) (by have := HL.out; omega)
          have hsx := HSZ.out x hm
          have hox := (HA.out x hm).2
          obtain ⟨b, o, rfl, _, hbl, hc⟩ := rd_at HR.out avals_len (by omega) hx
          have HC : Hid (∀ w', Kp [] w w' → w'.cell? ⟨b, o + i * 6, none⟩ = some (.int .i64 x.k) ∧ w'.cell? ⟨b, o + i * 6 + 1, none⟩ = some (.int .i64 x.e) ∧ w'.cell? ⟨b, o + i * 6 + 2, none⟩ = some (.int .i64 x.f) ∧ w'.cell? ⟨b, o + i * 6 + 3, none⟩ = some (.int .i64 x.o) ∧ w'.cell? ⟨b, o + i * 6 + 4, none⟩ = some (.int .i64 x.n) ∧ w'.cell? ⟨b, o + i * 6 + 5, none⟩ = some (.string x.s)) := Lib.hid (fun w' k' => ⟨(k'.cell (p := ⟨b, o + i * 6, none⟩) hbl (by simp)).trans (hc 0 _ rfl), (k'.cell (p := ⟨b, o + i * 6 + 1, none⟩) hbl (by simp)).trans (hc 1 _ rfl), (k'.cell (p := ⟨b, o + i * 6 + 2, none⟩) hbl (by simp)).trans (hc 2 _ rfl), (k'.cell (p := ⟨b, o + i * 6 + 3, none⟩) hbl (by simp)).trans (hc 3 _ rfl), (k'.cell (p := ⟨b, o + i * 6 + 4, none⟩) hbl (by simp)).trans (hc 4 _ rfl), (k'.cell (p := ⟨b, o + i * 6 + 5, none⟩) hbl (by simp)).trans (hc 5 _ rfl)⟩)
          obtain ⟨c0, c1, c2', c3, c4, c5⟩ := HC.out _ hg0.out.k
          clear hc hx hm
          by_cases hk0 : x.k < 0
          · go_wp2
            exact ⟨⟨i + 1, fs, by omega, by go_num, hg0, Lib.hid (hb.out.mono (by omega))⟩, by simp [intOf]; omega⟩
          · by_cases hk7 : 7 < x.k
            · go_wp2
              exact ⟨⟨i + 1, fs, by omega, by go_num, hg0, Lib.hid (hb.out.mono (by omega))⟩, by simp [intOf]; omega⟩
            · have HPG := Lib.hid hg0.out.t.pg
              go_wp2_with (first | (go_at_call 12; (with_reducible refine g_do hb.out (by omega) x hsx hg0 ?_; intro v4 w4 g4; obtain ⟨d0, d1, d2, d3, d4, d5⟩ := HC.out _ g4.out.k)) | (go_at_call 13; (with_reducible refine g_rdo hb.out (by omega) x (by omega) (by omega) hox.1 hox.2 HPG.out g4 ?_; intro v5 w5 g5)))
              exact ⟨⟨i + 1, _, by omega, by go_num, g5, Lib.hid (hb.out.turn (by omega) HPG.out)⟩, by simp [intOf]; omega⟩
        · obtain rfl : i = m := by omega
          have hb0 : Hid (GOk (200 + 100 * (0 : Nat)) fs) := Lib.hid (hb.out.mono (by omega))
          clear hb
          go_wp2
          go_loopw [11] (fun iv wr => ∃ (i : Nat) (fs : List Fr), i ≤ n2 ∧ iv = .int .i64 i ∧ Hid (G2 w wr g fs fs) ∧ Hid (GOk (200 + 100 * i) fs)) (fun iv _ => n2 - (intOf iv).toNat)
          case atStart => exact ⟨0, fs, Nat.zero_le _, rfl, hg0, hb0⟩
          case round =>
            clear hg0 hb0 fs
            obtain ⟨i, fs, hi, rfl, hg0, hb⟩ := hrel
            by_cases hlt2 : i < n2
            · obtain ⟨x, hx, hm⟩ := get_lt (l := l2) (k := i) (by have := HL2.out; omega)
              have hxok := HA2.out x hm
              obtain ⟨b, o, rfl, _, hbl, hc⟩ := rd_at (F := Sin.vals) (K := 1) HR2.out (fun _ => rfl) (by omega) hx
              have c0 : _ = some (Value.slice x.A x.n x.c) := (hg0.out.k.cell (p := ⟨b, o + i * 1, none⟩) hbl (by simp)).trans (hc 0 _ rfl)
              rw [Nat.mul_one] at c0
              have HXL := Lib.hid hxok.len
              have HXR := Lib.hid hxok.rd
              have HXO := Lib.hid hxok.all
              clear hc hx hm hxok
              by_cases h100 : 100 < x.n
              · go_wp2
                exact H.out _ hg0.out.k
              · have hq3 : ∃ r3 : Nat, (i : Int).tmod 3 = (r3 : Int) ∧ r3 = i % 3 := ⟨i % 3, by rw [Int.tmod_eq_emod_of_nonneg (by omega)]; omega, rfl⟩
                obtain ⟨r3, hr3, hr3'⟩ := hq3
                have hq2 : ∃ r2 : Nat, (i : Int).tmod 2 = (r2 : Int) ∧ r2 = i % 2 := ⟨i % 2, by rw [Int.tmod_eq_emod_of_nonneg (by omega)]; omega, rfl⟩
                obtain ⟨r2, hr2, hr2'⟩ := hq2
                by_cases hh : r3 < 2
                · have d3 : decide ((r3 : Int) < 2) = true := by simp; omega
                  by_cases hd : r2 = 1
                  · have d2 : ((r2 : Int) == 1) = true := by simp; omega
                    clear hr3' hr2' hh hd
                    have hb2 : Hid (GOk (200 + 100 * (i + 1 : Nat)) (holdE fs env x.l)) := Lib.hid ((hb.out.gHoldE (l := x.l) (env := env)).mono (by have := HXL.out; omega))
                    have hb3 : Hid (GOk (200 + 100 * (i + 1 : Nat)) ((gdropE (holdE fs env x.l) x.l).2)) := Lib.hid hb2.out.gDropE
                    go_wp2_with (first | (go_at_call 15; (with_reducible refine g_of hg0 HXR.out HXL.out (by omega) ?_; intro A_g1 c_g1 w_g1 g1 p_g1)) | (go_at_call 14; (with_reducible refine g_check env g1 p_g1 HXL.out (by omega) HXO.out ?_; intro w_g2 g2)) | (go_at_call 16; (with_reducible refine g_rcheck env g2 HXR.out HXL.out (by omega) HXO.out ?_; intro w_g3 g3)) | (go_at_call 15; (with_reducible refine g_of g3 HXR.out HXL.out (by omega) ?_; intro A_g4 c_g4 w_g4 g4 p_g4)) | (go_at_call 17; (with_reducible refine g_size g4 p_g4 HXL.out (by omega) HXO.out ?_; intro w_g5 g5)) | (go_at_call 18; (with_reducible refine g_rsize g5 HXR.out HXL.out (by omega) HXO.out ?_)) | (go_at_call 15; (with_reducible refine g_of g5 HXR.out HXL.out (by omega) ?_; intro A_g6 c_g6 w_g6 g6 p_g6)) | (go_at_call 19; (with_reducible refine g_hold env hb.out (by omega) g6 p_g6 HXL.out (by omega) HXO.out ?_; intro w_g7 g7)) | (go_at_call 20; (with_reducible refine g_rhold env hb.out (by omega) g7 HXR.out HXL.out (by omega) HXO.out ?_; intro w_g8 g8)) | (go_at_call 15; (with_reducible refine g_of g8 HXR.out HXL.out (by omega) ?_; intro A_g9 c_g9 w_g9 g9 p_g9)) | (go_at_call 21; (with_reducible refine g_fetch g9 p_g9 HXL.out (by omega) ?_; intro A_g10 c_g10 w_g10 g10 cv)) | (go_at_call 22; (with_reducible refine g_rfetch g10 HXR.out HXL.out (by omega) HXO.out ?_ g10.out.t.pg; intro w_g11 g11 k_g11; have cv2 := cv _ k_g11)) | (go_at_call 23; (with_reducible refine g_shows hb2.out g11 ?_; intro w_g12 g12)) | (go_at_call 15; (with_reducible refine g_of g12 HXR.out HXL.out (by omega) ?_; intro A_g13 c_g13 w_g13 g13 p_g13)) | (go_at_call 24; (with_reducible refine g_drop hb2.out (by omega) g13 p_g13 HXL.out (by omega) ?_; intro w_g14 g14)) | (go_at_call 25; (with_reducible refine g_rdrop hb2.out (by omega) g14 HXR.out HXL.out (by omega) HXO.out ?_; intro w_g15 g15)) | (go_at_call 23; (with_reducible refine g_shows hb3.out g15 ?_; intro w_g16 g16)))
                    exact ⟨⟨i + 1, (gdropE (holdE fs env x.l) x.l).2, by omega, by go_num, g16, hb3⟩, by simp [intOf]; omega⟩
                  · have d2 : ((r2 : Int) == 1) = false := by simp; omega
                    clear hr3' hr2' hh hd
                    have hb2 : Hid (GOk (200 + 100 * (i + 1 : Nat)) (holdE fs env x.l)) := Lib.hid ((hb.out.gHoldE (l := x.l) (env := env)).mono (by have := HXL.out; omega))
                    have hb3 : Hid (GOk (200 + 100 * (i + 1 : Nat)) (holdE fs env x.l)) := Lib.hid hb2.out
                    go_wp2_with (first | (go_at_call 15; (with_reducible refine g_of hg0 HXR.out HXL.out (by omega) ?_; intro A_g1 c_g1 w_g1 g1 p_g1)) | (go_at_call 14; (with_reducible refine g_check env g1 p_g1 HXL.out (by omega) HXO.out ?_; intro w_g2 g2)) | (go_at_call 16; (with_reducible refine g_rcheck env g2 HXR.out HXL.out (by omega) HXO.out ?_; intro w_g3 g3)) | (go_at_call 15; (with_reducible refine g_of g3 HXR.out HXL.out (by omega) ?_; intro A_g4 c_g4 w_g4 g4 p_g4)) | (go_at_call 17; (with_reducible refine g_size g4 p_g4 HXL.out (by omega) HXO.out ?_; intro w_g5 g5)) | (go_at_call 18; (with_reducible refine g_rsize g5 HXR.out HXL.out (by omega) HXO.out ?_)) | (go_at_call 15; (with_reducible refine g_of g5 HXR.out HXL.out (by omega) ?_; intro A_g6 c_g6 w_g6 g6 p_g6)) | (go_at_call 19; (with_reducible refine g_hold env hb.out (by omega) g6 p_g6 HXL.out (by omega) HXO.out ?_; intro w_g7 g7)) | (go_at_call 20; (with_reducible refine g_rhold env hb.out (by omega) g7 HXR.out HXL.out (by omega) HXO.out ?_; intro w_g8 g8)) | (go_at_call 15; (with_reducible refine g_of g8 HXR.out HXL.out (by omega) ?_; intro A_g9 c_g9 w_g9 g9 p_g9)) | (go_at_call 21; (with_reducible refine g_fetch g9 p_g9 HXL.out (by omega) ?_; intro A_g10 c_g10 w_g10 g10 cv)) | (go_at_call 22; (with_reducible refine g_rfetch g10 HXR.out HXL.out (by omega) HXO.out ?_ g10.out.t.pg; intro w_g11 g11 k_g11; have cv2 := cv _ k_g11)) | (go_at_call 23; (with_reducible refine g_shows hb2.out g11 ?_; intro w_g12 g12)) | (go_at_call 23; (with_reducible refine g_shows hb3.out g12 ?_; intro w_g13 g13)))
                    exact ⟨⟨i + 1, holdE fs env x.l, by omega, by go_num, g13, hb3⟩, by simp [intOf]; omega⟩
                · have d3 : decide ((r3 : Int) < 2) = false := by simp; omega
                  by_cases hd : r2 = 1
                  · have d2 : ((r2 : Int) == 1) = true := by simp; omega
                    clear hr3' hr2' hh hd
                    have hb2 : Hid (GOk (200 + 100 * (i + 1 : Nat)) (fs)) := Lib.hid ((hb.out).mono (by have := HXL.out; omega))
                    have hb3 : Hid (GOk (200 + 100 * (i + 1 : Nat)) ((gdropE (fs) x.l).2)) := Lib.hid hb2.out.gDropE
                    go_wp2_with (first | (go_at_call 15; (with_reducible refine g_of hg0 HXR.out HXL.out (by omega) ?_; intro A_g1 c_g1 w_g1 g1 p_g1)) | (go_at_call 14; (with_reducible refine g_check env g1 p_g1 HXL.out (by omega) HXO.out ?_; intro w_g2 g2)) | (go_at_call 16; (with_reducible refine g_rcheck env g2 HXR.out HXL.out (by omega) HXO.out ?_; intro w_g3 g3)) | (go_at_call 15; (with_reducible refine g_of g3 HXR.out HXL.out (by omega) ?_; intro A_g4 c_g4 w_g4 g4 p_g4)) | (go_at_call 17; (with_reducible refine g_size g4 p_g4 HXL.out (by omega) HXO.out ?_; intro w_g5 g5)) | (go_at_call 18; (with_reducible refine g_rsize g5 HXR.out HXL.out (by omega) HXO.out ?_)) | (go_at_call 15; (with_reducible refine g_of g5 HXR.out HXL.out (by omega) ?_; intro A_g6 c_g6 w_g6 g6 p_g6)) | (go_at_call 21; (with_reducible refine g_fetch g6 p_g6 HXL.out (by omega) ?_; intro A_g7 c_g7 w_g7 g7 cv)) | (go_at_call 22; (with_reducible refine g_rfetch g7 HXR.out HXL.out (by omega) HXO.out ?_ g7.out.t.pg; intro w_g8 g8 k_g8; have cv2 := cv _ k_g8)) | (go_at_call 23; (with_reducible refine g_shows hb2.out g8 ?_; intro w_g9 g9)) | (go_at_call 15; (with_reducible refine g_of g9 HXR.out HXL.out (by omega) ?_; intro A_g10 c_g10 w_g10 g10 p_g10)) | (go_at_call 24; (with_reducible refine g_drop hb2.out (by omega) g10 p_g10 HXL.out (by omega) ?_; intro w_g11 g11)) | (go_at_call 25; (with_reducible refine g_rdrop hb2.out (by omega) g11 HXR.out HXL.out (by omega) HXO.out ?_; intro w_g12 g12)) | (go_at_call 23; (with_reducible refine g_shows hb3.out g12 ?_; intro w_g13 g13)))
                    exact ⟨⟨i + 1, (gdropE (fs) x.l).2, by omega, by go_num, g13, hb3⟩, by simp [intOf]; omega⟩
                  · have d2 : ((r2 : Int) == 1) = false := by simp; omega
                    clear hr3' hr2' hh hd
                    have hb2 : Hid (GOk (200 + 100 * (i + 1 : Nat)) (fs)) := Lib.hid ((hb.out).mono (by have := HXL.out; omega))
                    have hb3 : Hid (GOk (200 + 100 * (i + 1 : Nat)) (fs)) := Lib.hid hb2.out
                    go_wp2_with (first | (go_at_call 15; (with_reducible refine g_of hg0 HXR.out HXL.out (by omega) ?_; intro A_g1 c_g1 w_g1 g1 p_g1)) | (go_at_call 14; (with_reducible refine g_check env g1 p_g1 HXL.out (by omega) HXO.out ?_; intro w_g2 g2)) | (go_at_call 16; (with_reducible refine g_rcheck env g2 HXR.out HXL.out (by omega) HXO.out ?_; intro w_g3 g3)) | (go_at_call 15; (with_reducible refine g_of g3 HXR.out HXL.out (by omega) ?_; intro A_g4 c_g4 w_g4 g4 p_g4)) | (go_at_call 17; (with_reducible refine g_size g4 p_g4 HXL.out (by omega) HXO.out ?_; intro w_g5 g5)) | (go_at_call 18; (with_reducible refine g_rsize g5 HXR.out HXL.out (by omega) HXO.out ?_)) | (go_at_call 15; (with_reducible refine g_of g5 HXR.out HXL.out (by omega) ?_; intro A_g6 c_g6 w_g6 g6 p_g6)) | (go_at_call 21; (with_reducible refine g_fetch g6 p_g6 HXL.out (by omega) ?_; intro A_g7 c_g7 w_g7 g7 cv)) | (go_at_call 22; (with_reducible refine g_rfetch g7 HXR.out HXL.out (by omega) HXO.out ?_ g7.out.t.pg; intro w_g8 g8 k_g8; have cv2 := cv _ k_g8)) | (go_at_call 23; (with_reducible refine g_shows hb2.out g8 ?_; intro w_g9 g9)) | (go_at_call 23; (with_reducible refine g_shows hb3.out g9 ?_; intro w_g10 g10)))
                    exact ⟨⟨i + 1, fs, by omega, by go_num, g10, hb3⟩, by simp [intOf]; omega⟩
            · obtain rfl : i = n2 := by omega
              go_wp2
              exact H.out _ hg0.out.k
end
end Go.Proofs.Ythlmfjfkkndboaa
