/- pantlerref07: Check and number walked. pantlerref07: Run walked. -/
import Derived.Test.YtedblbpmlbjnhaaGreatPD18
import Derived.Test.YtedblbpmlbjnhaaGreatPD24
import Derived.Test.YtedblbpmlbjnhaaGreatPD16
import Derived.Test.YtedblbpmlbjnhaaGreatPD13
namespace Go.Proofs.YtedblbpmlbjnhaaGreat
/-! ### pantlerref07: Check and number walked. -/
section
open Go.RowKit Go.Shelf
set_option linter.unusedVariables false
set_option linter.unusedSimpArgs false
set_option maxRecDepth 100000
section
variable {R : Ending → World → Prop} {w : World}
set_option maxHeartbeats 4000000 in
theorem rfcheck_any {A : Option Addr} {n c : Nat} {p : List FOp} (hr : Rd w [] A (p.flatMap FOp.vals)) (hl : p.length = n) (hn : n ≤ 1000000) (hok : ∀ o ∈ p, o.ok)
    (h : ∀ w', Kp [] w w' → R (.returned (.bool (fchk p))) w') : Calls Tryz.prog 56 #[.slice A n c] w R := by
  have H := Lib.hid h
  have HL := Lib.hid hl
  have HO := Lib.hid hok
  clear h hl hok
  by_cases h1 : n = 0
  · have HH := H.out w (Kp.refl _ _)
    rw [show fchk p = false by have := HL.out; simp [fchk]; omega] at HH
    clear H
    have g0 : ((n : Int) == 0) = true := by simp [h1]
    clear h1
    go_enter Tryz.func56, Tryz.ntmps56
    go_wp2
    exact HH
  · have g0 : ((n : Int) == 0) = false := by simp; omega
    by_cases h64 : 64 < n
    · have HH := H.out w (Kp.refl _ _)
      rw [show fchk p = false by have := HL.out; simp [fchk]; omega] at HH
      clear H
      go_enter Tryz.func56, Tryz.ntmps56
      go_wp2
      exact HH
    · obtain ⟨z, hz, hzm⟩ := get_lt (l := p) (k := n - 1) (by have := HL.out; omega)
      have hfe : fends p = (z.c == 7 || z.c == 8) := by unfold fends; rw [HL.out, hz]
      have HF := Lib.hid hfe
      have HZ := Lib.hid hz
      have hn1 : ((n : Int) - 1) = ((n - 1 : Nat) : Int) := by omega
      have HR := Lib.hid hr
      clear hz hfe hr
      go_enter Tryz.func56, Tryz.ntmps56
      go_wp2
      go_loopw [4] (fun iv wr => ∃ k : Nat, k ≤ n ∧ iv = .int .i64 k ∧ Hid (Kp [] w wr) ∧ Hid (∀ j, j < k → fbadAt p j = false)) (fun iv _ => n - (intOf iv).toNat)
      case atStart => exact ⟨0, Nat.zero_le _, rfl, Lib.hid (Kp.refl _ _), Lib.hid (by omega)⟩
      case round =>
        obtain ⟨k, hk, rfl, kr, hgd⟩ := hrel
        by_cases hlt : k < n
        · obtain ⟨o, hx, hm⟩ := get_lt (l := p) (k := k) (by have := HL.out; omega)
          obtain ⟨b, off, rfl, _, hbl, hc⟩ := rd_at (HR.out.kp kr.out (by simp)) ovals_len (by omega) hx
          have c0 := hc 0 _ rfl
          have c1 := hc 1 _ rfl
          have c2 := hc 2 _ rfl
          have c3 := hc 3 _ rfl
          rw [Nat.add_zero] at c0
          obtain ⟨oc, ok, ot, of_⟩ := HO.out o hm
          have hfa : fbadAt p k = fbad ((n : Int) - 2 - k) o := by unfold fbadAt; rw [hx, HL.out]
          have HBAD : Hid (fbad ((n : Int) - 2 - k) o = true → ∀ w', Kp [] w w' → R (.returned (.bool false)) w') := Lib.hid (fun hb w' k' => rcast (H.out w' k') (congrArg Value.bool (by
            have : (List.range p.length).any (fbadAt p) = true := List.any_eq_true.2 ⟨k, by simp [HL.out, hlt], by rw [hfa]; exact hb⟩
            simp [fchk, this])))
          have HGOOD : Hid (fbad ((n : Int) - 2 - k) o = false → Hid (∀ j, j < k + 1 → fbadAt p j = false)) := Lib.hid (fun hb => Lib.hid (fun j hj => by
            rcases Nat.lt_or_ge j k with h | h
            · exact hgd.out j h
            · obtain rfl : j = k := by omega
              rw [hfa]; exact hb))
          unfold i64B at oc ot of_
          clear hc hx hfa HF HZ
          by_cases h2 : o.c < 0
          · have HBD := Lib.hid (HBAD.out (by simp [fbad, h2]))
            clear HGOOD HBAD
            go_wp2
            exact HBD.out _ (kr.out.alloc _)
          by_cases h3 : 8 < o.c
          · have HBD := Lib.hid (HBAD.out (by simp [fbad, h3]))
            clear HGOOD HBAD
            go_wp2
            exact HBD.out _ (kr.out.alloc _)
          by_cases h4 : o.t < 0
          · have HBD := Lib.hid (HBAD.out (by simp [fbad, h4]))
            clear HGOOD HBAD
            go_wp2
            exact HBD.out _ (kr.out.alloc _)
          by_cases h6 : 255 < o.t
          · have HBD := Lib.hid (HBAD.out (by simp [fbad, h6]))
            clear HGOOD HBAD
            go_wp2
            exact HBD.out _ (kr.out.alloc _)
          by_cases h5 : o.f < 0
          · have HBD := Lib.hid (HBAD.out (by simp [fbad, h5]))
            clear HGOOD HBAD
            go_wp2
            exact HBD.out _ (kr.out.alloc _)
          by_cases h7 : 255 < o.f
          · have HBD := Lib.hid (HBAD.out (by simp [fbad, h7]))
            clear HGOOD HBAD
            go_wp2
            exact HBD.out _ (kr.out.alloc _)
          have HJ1 : Hid (((o.c == 5 || o.c == 6) = false) → Hid (∀ j, j < k + 1 → fbadAt p j = false)) := Lib.hid (fun hj => HGOOD.out (by simp [fbad, h2, h3, h4, h5, h6, h7, hj]))
          have HJ2 : Hid (((o.c == 5 || o.c == 6) = true) → (o.t < 0 ∨ (n : Int) ≤ k + 1 + o.t ∨ (n : Int) ≤ k + 1 + o.f) → ∀ w', Kp [] w w' → R (.returned (.bool false)) w') := Lib.hid (fun hj h9 => HBAD.out (by
            by_cases ha : (n : Int) - 2 - k < o.t
            · simp [fbad, hj, ha]
            · by_cases hb : (n : Int) - 2 - k < o.f
              · simp [fbad, hj, hb]
              · omega))
          have HJ3 : Hid ((n : Int) - 2 - k < o.t ∨ (n : Int) - 2 - k < o.f ∨ Hid (∀ j, j < k + 1 → fbadAt p j = false)) := Lib.hid (by
            by_cases ha : (n : Int) - 2 - k < o.t
            · exact .inl ha
            · by_cases hb : (n : Int) - 2 - k < o.f
              · exact .inr (.inl hb)
              · exact .inr (.inr (HGOOD.out (by simp [fbad, h2, h3, h4, h5, h6, h7, ha, hb]))))
          clear HBAD HGOOD
          by_cases h10 : o.c = 5
          · have e5 : (o.c == 5) = true := by simp [h10]
            have HJ2 := Lib.hid (HJ2.out (by simp [h10]))
            clear HJ1 h10
            by_cases h8 : (n : Int) ≤ k + 1 + o.t
            · clear HJ3
              go_wp2
              exact HJ2.out (.inr (.inl h8)) _ (kr.out.alloc _)
            by_cases h9 : (n : Int) ≤ k + 1 + o.f
            · clear HJ3
              go_wp2
              exact HJ2.out (.inr (.inr h9)) _ (kr.out.alloc _)
            have HN : Hid (∀ j, j < k + 1 → fbadAt p j = false) := by
              rcases HJ3.out with h | h | h
              · omega
              · omega
              · exact h
            clear HJ3 HJ2
            go_wp2
            exact ⟨⟨k + 1, by omega, by go_num, Lib.hid (kr.out.alloc _), HN⟩, by simp [intOf]; omega⟩
          have e5 : (o.c == 5) = false := by simp [h10]
          by_cases h11 : o.c = 6
          · have e6 : (o.c == 6) = true := by simp [h11]
            have HJ2 := Lib.hid (HJ2.out (by simp [h11]))
            clear HJ1 h10 h11
            by_cases h8 : (n : Int) ≤ k + 1 + o.t
            · clear HJ3
              go_wp2
              exact HJ2.out (.inr (.inl h8)) _ (kr.out.alloc _)
            by_cases h9 : (n : Int) ≤ k + 1 + o.f
            · clear HJ3
              go_wp2
              exact HJ2.out (.inr (.inr h9)) _ (kr.out.alloc _)
            have HN : Hid (∀ j, j < k + 1 → fbadAt p j = false) := by
              rcases HJ3.out with h | h | h
              · omega
              · omega
              · exact h
            clear HJ3 HJ2
            go_wp2
            exact ⟨⟨k + 1, by omega, by go_num, Lib.hid (kr.out.alloc _), HN⟩, by simp [intOf]; omega⟩
          have e6 : (o.c == 6) = false := by simp [h11]
          have HN := HJ1.out (by simp [h10, h11])
          clear HJ1 HJ2 HJ3 h10 h11
          go_wp2
          exact ⟨⟨k + 1, by omega, by go_num, Lib.hid (kr.out.alloc _), HN⟩, by simp [intOf]; omega⟩
        · obtain rfl : k = n := by omega
          obtain ⟨b, off, rfl, _, hbl, hc⟩ := rd_at (HR.out.kp kr.out (by simp)) ovals_len (by omega) HZ.out
          have c0 := hc 0 _ rfl
          rw [Nat.add_zero] at c0
          have hzc : z.c = 7 ∨ z.c = 8 ∨ z.c < 7 := by
            have h9 := hgd.out (k - 1) (by omega)
            unfold fbadAt at h9
            rw [HZ.out] at h9
            simp only [fbad, Bool.or_eq_false_iff, decide_eq_false_iff_not] at h9
            omega
          have HH := Lib.hid (fun w' k' => rcast (H.out w' k') (congrArg Value.bool (show fchk p = decide (7 ≤ z.c) by
            have : (List.range p.length).any (fbadAt p) = false := by
              rw [Bool.eq_false_iff]; intro hh
              obtain ⟨j, hj, hb⟩ := List.any_eq_true.1 hh
              rw [hgd.out j (by simpa [HL.out] using hj)] at hb
              cases hb
            have hl := HL.out
            have h1 : decide (1 ≤ p.length) = true := by simp; omega
            have h2 : decide (p.length ≤ 64) = true := by simp; omega
            unfold fchk
            rw [this, HF.out, h1, h2]
            rcases hzc with h | h | h
            · simp [h]
            · simp [h]
            · have e7 : (z.c == 7) = false := by simp; omega
              have e8 : (z.c == 8) = false := by simp; omega
              rw [e7, e8]; simp; omega)))
          clear H hc hzc
          go_wp2
          exact HH.out _ kr.out
set_option maxHeartbeats 2000000 in
theorem rnumber_any {s : List UInt8} (hn : s.length ≤ 1000000) (k : Nat) (hk : k ≤ 4294967295) (wd : Nat) (h1 : 1 ≤ wd) (h4 : wd ≤ 4) (w : World)
    (h : R (.returned (ldV (fload s k wd))) w) : Calls Tryz.prog 120 #[.string (S s), .int .u32 k, .int .i64 wd] w R := by
  have H := Lib.hid h
  clear h
  go_enter Tryz.func120, Tryz.ntmps120
  go_wp2
  go_loop [8, 9] (fun av iv => ∃ (i a : Nat), i ≤ wd ∧ iv = .int .i64 i ∧ av = .int .u32 a ∧ k + i ≤ max s.length k ∧ Hid ((((s.drop k).take wd).take i).foldl (fun n c => n * 256 + c.toNat) 0 = a)) (fun _ iv => wd - (intOf iv).toNat)
  case atStart => exact ⟨0, 0, Nat.zero_le _, rfl, rfl, by omega, Lib.hid rfl⟩
  case round =>
    obtain ⟨i, a, hi, rfl, rfl, hki, ha⟩ := hrel
    by_cases hil : i < wd
    · by_cases hout : s.length ≤ k + i
      · have HF := Lib.hid (show fload s k wd = none by unfold fload; rw [if_pos (by omega)])
        have g1 : decide ((s.length : Int) ≤ (k : Int) + i) = true := by simp; omega
        have g2 : decide (s.length ≤ k + i) = true := by simpa using hout
        clear ha hki hout
        go_wp2
        exact rcast (H.out) (by rw [HF.out]; rfl)
      · obtain ⟨x, hx⟩ : ∃ x, s[k + i]? = some x := ⟨_, List.getElem?_eq_getElem (by omega)⟩
        have hx2 : ((s.drop k).take wd)[i]? = some x := by rw [List.getElem?_take, if_pos hil, List.getElem?_drop]; exact hx
        have hki2 : k + (i + 1) ≤ max s.length k := by omega
        have hab : a < 16777216 := by
          have h1 := load_bd ((s.drop k).take wd) i (by rw [List.length_take, List.length_drop]; omega)
          rw [ha.out] at h1
          have h2 : 256 ^ i ≤ 256 ^ 3 := Nat.pow_le_pow_right (by decide) (by omega)
          have h3 : (256 : Nat) ^ 3 = 16777216 := by decide
          omega
        have HA : Hid ((((s.drop k).take wd).take (i + 1)).foldl (fun n c => n * 256 + c.toNat) 0 = a * 256 + x.toNat) := by
          refine Lib.hid ?_
          obtain ⟨hk', he'⟩ := List.getElem?_eq_some_iff.1 hx2
          rw [List.take_succ_eq_append_getElem hk', List.foldl_append, ha.out, he']; rfl
        obtain ⟨hkl, hxe⟩ := List.getElem?_eq_some_iff.1 hx
        obtain ⟨j, hj⟩ : ∃ j, k + i = j := ⟨_, rfl⟩
        have ewi : IntKind.i64.wrap ((k : Int) + i) = (j : Int) := by rw [wrapV (by omega) (by omega)]; omega
        have g1 : decide ((s.length : Int) ≤ (j : Int)) = false := by simp; omega
        have g2 : decide (s.length ≤ j) = false := by simp; omega
        have hjl : j < s.length := by omega
        have hxe' : s[j] = x := by subst hj; exact hxe
        have hxl := x.toNat_lt
        have ew : IntKind.u32.wrap ((a : Int) * 256) = (a : Int) * 256 := by simp [IntKind.wrap, IntKind.bits, IntKind.signed]; omega
        have ew2 : IntKind.u32.wrap ((a : Int) * 256 + x.toNat) = (a : Int) * 256 + x.toNat := by simp [IntKind.wrap, IntKind.bits, IntKind.signed]; omega
        clear hx hx2 ha hout hki hxe hj
        go_wp2
        go_round
        case rel => exact ⟨i + 1, a * 256 + x.toNat, by omega, by go_num, by first | rfl | (congr 1; simp [hxe']; try omega), hki2, HA⟩
        case measure => simp [intOf]; omega
    · obtain rfl : i = wd := by omega
      have e : ((s.drop k).take i).take i = (s.drop k).take i := List.take_of_length_le (by simp; omega)
      have ha' := ha.out
      rw [e] at ha'
      have HA := Lib.hid ha'
      have HF := Lib.hid (show fload s k i = some (((s.drop k).take i).foldl (fun n c => n * 256 + c.toNat) 0) by unfold fload; rw [if_neg (by omega)])
      clear e ha' ha
      go_wp2
      exact rcast (H.out) (by rw [HF.out, HA.out]; rfl)
end
end
/-! ### pantlerref07: Run walked. -/
section
open Go.RowKit Go.Shelf
set_option linter.unusedVariables false
set_option linter.unusedSimpArgs false
set_option maxRecDepth 100000
section
variable {R : Ending → World → Prop} {w : World}
set_option maxHeartbeats 8000000 in
theorem rfrun_any {A : Option Addr} {n c : Nat} {p : List FOp} {s : List UInt8} (hp : Rd w [] A (p.flatMap FOp.vals)) (hpl : p.length = n) (hok : ∀ o ∈ p, o.ok) (hchk : fchk p = true)
    (hm : s.length ≤ 1024) (h : ∀ w' st, Kp [] w w' → R (.returned (.tuple #[.int .u32 (frunP s p), .int .i64 st])) w') :
    Calls Tryz.prog 61 #[.slice A n c, .string (S s)] w R := by
  have H := Lib.hid h
  have HP := Lib.hid hp
  have HPL := Lib.hid hpl
  have HOK := Lib.hid hok
  have HCK := Lib.hid hchk
  have hn : n ≤ 64 ∧ 1 ≤ n := by
    unfold fchk at hchk
    simp only [Bool.and_eq_true, decide_eq_true_eq] at hchk
    omega
  obtain ⟨hn, hn1⟩ := hn
  clear h hp hpl hok hchk
  go_enter Tryz.func61, Tryz.ntmps61
  go_wp2
  go_loopw [6, 7, 8] (fun av iv sv wr => ∃ (k st a f : Nat), k < n ∧ st ≤ k ∧ a ≤ 4294967295 ∧ n ≤ f + k ∧ av = .int .u32 a ∧ iv = .int .i64 k ∧ sv = .int .i64 st ∧ Hid (Kp [] w wr) ∧ Hid (frun s p f k a = frunP s p)) (fun _ iv _ _ => n - (intOf iv).toNat)
  case atStart => exact ⟨0, 0, 0, n, by omega, by omega, by omega, by omega, rfl, rfl, rfl, Lib.hid (Kp.refl _ _), Lib.hid (by unfold frunP; rw [HPL.out])⟩
  case round =>
    obtain ⟨k, st, av, f, hk, hst, hav, hf, rfl, rfl, rfl, kr, hr⟩ := hrel
    obtain ⟨o, ho⟩ : ∃ o, p[k]? = some o := ⟨_, List.getElem?_eq_getElem (by rw [HPL.out]; omega)⟩
    obtain ⟨g1, g2, g3, g4, g5, g6, g7⟩ := chk_at HCK.out ho
    obtain ⟨_, ok2, _, _⟩ := HOK.out o (List.mem_of_getElem? ho)
    obtain ⟨b, off, rfl, _, hbl, hc⟩ := rd_at (HP.out.kp kr.out (by simp)) ovals_len (by omega) ho
    have c0 := hc 0 _ rfl
    have c1 := hc 1 _ rfl
    have c2 := hc 2 _ rfl
    have c3 := hc 3 _ rfl
    rw [Nat.add_zero] at c0
    have hpl := HPL.out
    obtain ⟨f, rfl⟩ : ∃ f', f = f' + 1 := ⟨f - 1, by omega⟩
    have hru := hr.out
    rw [frun, ho] at hru
    have HRU := Lib.hid hru
    obtain ⟨oc, okk, ot, of_⟩ := o
    simp only at g2 g3 g4 g5 g6 g7 ok2 c0 c1 c2 c3
    obtain ⟨kk, rfl⟩ : ∃ kk : Nat, okk = kk := ⟨okk.toNat, by omega⟩
    have hk1 : k + 1 < n ∨ oc = 7 ∨ oc = 8 := by
      rcases Nat.lt_or_ge (k + 1) n with h | h
      · exact .inl h
      · exact .inr (g7 (by omega))
    rw [hpl] at g6 g7
    clear hc hru hr ho
    have HLD : Hid (∀ (R : Ending → World → Prop) (w1 : World) (wd : Nat), 1 ≤ wd → wd ≤ 4 → R (.returned (ldV (fload s kk wd))) w1 → Calls Tryz.prog 120 #[.string (S s), .int .u32 kk, .int .i64 wd] w1 R) := Lib.hid (fun R w1 wd h1 h2 h => rnumber_any (by omega) kk (by omega) wd h1 h2 w1 h)
    have kra := fun o => kr.out.alloc o
    have HNX : Hid (∀ (wx : World) (av2 : Nat), Kp [] w wx → k + 1 < n → av2 ≤ 4294967295 → frun s p f (k + 1) av2 = frunP s p → ∃ (k' st' a f : Nat), k' < n ∧ st' ≤ k' ∧ a ≤ 4294967295 ∧ n ≤ f + k' ∧ Value.int .u32 av2 = .int .u32 a ∧ Value.int .i64 ((k + 1 : Nat) : Int) = .int .i64 k' ∧ Value.int .i64 ((st + 1 : Nat) : Int) = .int .i64 st' ∧ Hid (Kp [] w wx) ∧ Hid (frun s p f k' a = frunP s p)) := Lib.hid (fun wx av2 h1 h2 h3 h4 => ⟨k + 1, st + 1, av2, f, h2, by omega, h3, by omega, rfl, rfl, rfl, Lib.hid h1, Lib.hid h4⟩)
    rcases (by omega : oc = 0 ∨ oc = 1 ∨ oc = 2 ∨ oc = 3 ∨ oc = 4 ∨ oc = 5 ∨ oc = 6 ∨ oc = 7 ∨ oc = 8) with rfl | rfl | rfl | rfl | rfl | rfl | rfl | rfl | rfl
    · have hru := HRU.out
      simp at hru
      clear HRU
      have hk1' : k + 1 < n := by omega
      cases hld : fload s kk 1 with
      | none =>
        rw [hld] at hru
        have HRU : Hid (0 = frunP s p) := Lib.hid hru
        clear hru
        have HL : Hid (∀ (R : Ending → World → Prop) (w1 : World), R (.returned (.tuple #[.int .u32 0, .bool false])) w1 → Calls Tryz.prog 120 #[.string (S s), .int .u32 kk, .int .i64 1] w1 R) := Lib.hid (fun R w1 h => HLD.out R w1 1 (by omega) (by omega) (by rw [hld]; exact h))
        clear HLD hld HNX
        go_wp2_with (go_at_call 120; (refine HL.out _ _ ?_))
        exact rcast (H.out _ (st + 1) (kra _)) (by rw [← HRU.out]; first | rfl | simp)
      | some v =>
        rw [hld] at hru
        have HRU : Hid (frun s p f (k + 1) v = frunP s p) := Lib.hid hru
        have hv := fload_bd hld (by omega)
        clear hru
        have HL : Hid (∀ (R : Ending → World → Prop) (w1 : World), R (.returned (.tuple #[.int .u32 v, .bool true])) w1 → Calls Tryz.prog 120 #[.string (S s), .int .u32 kk, .int .i64 1] w1 R) := Lib.hid (fun R w1 h => HLD.out R w1 1 (by omega) (by omega) (by rw [hld]; exact h))
        clear HLD HNX
        go_wp2_with (go_at_call 120; (refine HL.out _ _ ?_))
        exact ⟨⟨k + 1, st + 1, v, f, hk1', by omega, hv, by omega, rfl, by go_num, by go_num, Lib.hid (kra _), HRU⟩, by simp [intOf]; omega⟩
    · have hru := HRU.out
      simp at hru
      clear HRU
      have hk1' : k + 1 < n := by omega
      cases hld : fload s kk 2 with
      | none =>
        rw [hld] at hru
        have HRU : Hid (0 = frunP s p) := Lib.hid hru
        clear hru
        have HL : Hid (∀ (R : Ending → World → Prop) (w1 : World), R (.returned (.tuple #[.int .u32 0, .bool false])) w1 → Calls Tryz.prog 120 #[.string (S s), .int .u32 kk, .int .i64 2] w1 R) := Lib.hid (fun R w1 h => HLD.out R w1 2 (by omega) (by omega) (by rw [hld]; exact h))
        clear HLD hld HNX
        go_wp2_with (go_at_call 120; (refine HL.out _ _ ?_))
        exact rcast (H.out _ (st + 1) (kra _)) (by rw [← HRU.out]; first | rfl | simp)
      | some v =>
        rw [hld] at hru
        have HRU : Hid (frun s p f (k + 1) v = frunP s p) := Lib.hid hru
        have hv := fload_bd hld (by omega)
        clear hru
        have HL : Hid (∀ (R : Ending → World → Prop) (w1 : World), R (.returned (.tuple #[.int .u32 v, .bool true])) w1 → Calls Tryz.prog 120 #[.string (S s), .int .u32 kk, .int .i64 2] w1 R) := Lib.hid (fun R w1 h => HLD.out R w1 2 (by omega) (by omega) (by rw [hld]; exact h))
        clear HLD HNX
        go_wp2_with (go_at_call 120; (refine HL.out _ _ ?_))
        exact ⟨⟨k + 1, st + 1, v, f, hk1', by omega, hv, by omega, rfl, by go_num, by go_num, Lib.hid (kra _), HRU⟩, by simp [intOf]; omega⟩
    · have hru := HRU.out
      simp at hru
      clear HRU
      have hk1' : k + 1 < n := by omega
      cases hld : fload s kk 4 with
      | none =>
        rw [hld] at hru
        have HRU : Hid (0 = frunP s p) := Lib.hid hru
        clear hru
        have HL : Hid (∀ (R : Ending → World → Prop) (w1 : World), R (.returned (.tuple #[.int .u32 0, .bool false])) w1 → Calls Tryz.prog 120 #[.string (S s), .int .u32 kk, .int .i64 4] w1 R) := Lib.hid (fun R w1 h => HLD.out R w1 4 (by omega) (by omega) (by rw [hld]; exact h))
        clear HLD hld HNX
        go_wp2_with (go_at_call 120; (refine HL.out _ _ ?_))
        exact rcast (H.out _ (st + 1) (kra _)) (by rw [← HRU.out]; first | rfl | simp)
      | some v =>
        rw [hld] at hru
        have HRU : Hid (frun s p f (k + 1) v = frunP s p) := Lib.hid hru
        have hv := fload_bd hld (by omega)
        clear hru
        have HL : Hid (∀ (R : Ending → World → Prop) (w1 : World), R (.returned (.tuple #[.int .u32 v, .bool true])) w1 → Calls Tryz.prog 120 #[.string (S s), .int .u32 kk, .int .i64 4] w1 R) := Lib.hid (fun R w1 h => HLD.out R w1 4 (by omega) (by omega) (by rw [hld]; exact h))
        clear HLD HNX
        go_wp2_with (go_at_call 120; (refine HL.out _ _ ?_))
        exact ⟨⟨k + 1, st + 1, v, f, hk1', by omega, hv, by omega, rfl, by go_num, by go_num, Lib.hid (kra _), HRU⟩, by simp [intOf]; omega⟩
    · have hru := HRU.out
      simp at hru
      have HRU : Hid (frun s p f (k + 1) (av &&& kk) = frunP s p) := Lib.hid hru
      have hv : av &&& kk ≤ 4294967295 := Nat.le_trans Nat.and_le_left hav
      have hk1' : k + 1 < n := by omega
      clear hru HLD HNX
      go_wp2
      exact ⟨⟨k + 1, st + 1, av &&& kk, f, hk1', by omega, hv, by omega, congrArg (Value.int .u32) (u32_and_nat av kk (by omega) (by omega)), by go_num, by go_num, Lib.hid (kra _), HRU⟩, by simp [intOf]; omega⟩
    · have hru := HRU.out
      simp at hru
      have hk1' : k + 1 < n := by omega
      by_cases h32 : 32 ≤ kk
      · have e0 : av >>> kk = 0 := by
          rw [Nat.shiftRight_eq_div_pow]
          exact Nat.div_eq_of_lt (Nat.lt_of_lt_of_le (show av < 2 ^ 32 by omega) (Nat.pow_le_pow_right (by decide) h32))
        rw [e0] at hru
        have HRU : Hid (frun s p f (k + 1) 0 = frunP s p) := Lib.hid hru
        have g9 : decide ((32 : Int) ≤ (kk : Int)) = true := by simp; omega
        clear hru HLD HNX e0
        go_wp2
        exact ⟨⟨k + 1, st + 1, 0, f, hk1', by omega, by omega, by omega, rfl, by go_num, by go_num, Lib.hid (kra _), HRU⟩, by simp [intOf]; omega⟩
      · have HRU : Hid (frun s p f (k + 1) (av >>> kk) = frunP s p) := Lib.hid hru
        have hv : av >>> kk ≤ 4294967295 := Nat.le_trans (Nat.shiftRight_le _ _) hav
        have g9 : decide ((32 : Int) ≤ (kk : Int)) = false := by simp; omega
        clear hru HLD HNX
        go_wp2
        exact ⟨⟨k + 1, st + 1, av >>> kk, f, hk1', by omega, hv, by omega, congrArg (Value.int .u32) (by rw [Nat.shiftRight_eq_div_pow]; simp), by go_num, by go_num, Lib.hid (kra _), HRU⟩, by simp [intOf]; omega⟩
    · have hru := HRU.out
      simp at hru
      obtain ⟨hj1, hj2⟩ := g6 (by simp)
      clear HLD HNX HRU
      by_cases hcmp : (av : Int) = (kk : Int)
      · have hb1 : ((av : Int) == (kk : Int)) = true := by simpa using hcmp
        obtain ⟨T, rfl⟩ : ∃ T : Nat, ot = T := ⟨ot.toNat, by omega⟩
        have HRU : Hid (frun s p f (k + 1 + T) av = frunP s p) := Lib.hid (by first | (rw [if_pos (by first | exact hcmp | omega)] at hru; simpa using hru) | (simpa [hcmp] using hru))
        clear hru
        by_cases h0 : T = 0
        · subst h0
          have g9 : decide (0 < ((0 : Nat) : Int)) = false := by simp
          go_wp2
          exact ⟨⟨k + 1, st + 1, av, f, by omega, by omega, hav, by omega, rfl, by go_num, by go_num, Lib.hid (kra _), HRU⟩, by simp [intOf]; omega⟩
        · have g9 : decide (0 < (T : Int)) = true := by simp; omega
          have g8 : decide (0 < T) = true := by simp; omega
          have h0' : 0 < T := by omega
          go_wp2
          exact ⟨⟨k + 1 + T, st + 1, av, f, by omega, by omega, hav, by omega, rfl, by go_num, by go_num, Lib.hid (kra _), HRU⟩, by simp [intOf]; omega⟩
      · have hb1 : ((av : Int) == (kk : Int)) = false := by simpa using hcmp
        obtain ⟨T, rfl⟩ : ∃ T : Nat, of_ = T := ⟨of_.toNat, by omega⟩
        have HRU : Hid (frun s p f (k + 1 + T) av = frunP s p) := Lib.hid (by first | (rw [if_neg (by first | exact hcmp | omega)] at hru; simpa using hru) | (simpa [hcmp] using hru))
        clear hru
        by_cases h0 : T = 0
        · subst h0
          have g9 : decide (0 < ((0 : Nat) : Int)) = false := by simp
          go_wp2
          exact ⟨⟨k + 1, st + 1, av, f, by omega, by omega, hav, by omega, rfl, by go_num, by go_num, Lib.hid (kra _), HRU⟩, by simp [intOf]; omega⟩
        · have g9 : decide (0 < (T : Int)) = true := by simp; omega
          have g8 : decide (0 < T) = true := by simp; omega
          have h0' : 0 < T := by omega
          go_wp2
          exact ⟨⟨k + 1 + T, st + 1, av, f, by omega, by omega, hav, by omega, rfl, by go_num, by go_num, Lib.hid (kra _), HRU⟩, by simp [intOf]; omega⟩
    · have hru := HRU.out
      simp at hru
      obtain ⟨hj1, hj2⟩ := g6 (by simp)
      clear HLD HNX HRU
      by_cases hcmp : (kk : Int) < (av : Int)
      · have hb1 : decide ((kk : Int) < (av : Int)) = true := by simpa using hcmp
        obtain ⟨T, rfl⟩ : ∃ T : Nat, ot = T := ⟨ot.toNat, by omega⟩
        have HRU : Hid (frun s p f (k + 1 + T) av = frunP s p) := Lib.hid (by first | (rw [if_pos (by first | exact hcmp | omega)] at hru; simpa using hru) | (simpa [hcmp] using hru))
        clear hru
        by_cases h0 : T = 0
        · subst h0
          have g9 : decide (0 < ((0 : Nat) : Int)) = false := by simp
          go_wp2
          exact ⟨⟨k + 1, st + 1, av, f, by omega, by omega, hav, by omega, rfl, by go_num, by go_num, Lib.hid (kra _), HRU⟩, by simp [intOf]; omega⟩
        · have g9 : decide (0 < (T : Int)) = true := by simp; omega
          have g8 : decide (0 < T) = true := by simp; omega
          have h0' : 0 < T := by omega
          go_wp2
          exact ⟨⟨k + 1 + T, st + 1, av, f, by omega, by omega, hav, by omega, rfl, by go_num, by go_num, Lib.hid (kra _), HRU⟩, by simp [intOf]; omega⟩
      · have hb1 : decide ((kk : Int) < (av : Int)) = false := by simpa using hcmp
        obtain ⟨T, rfl⟩ : ∃ T : Nat, of_ = T := ⟨of_.toNat, by omega⟩
        have HRU : Hid (frun s p f (k + 1 + T) av = frunP s p) := Lib.hid (by first | (rw [if_neg (by first | exact hcmp | omega)] at hru; simpa using hru) | (simpa [hcmp] using hru))
        clear hru
        by_cases h0 : T = 0
        · subst h0
          have g9 : decide (0 < ((0 : Nat) : Int)) = false := by simp
          go_wp2
          exact ⟨⟨k + 1, st + 1, av, f, by omega, by omega, hav, by omega, rfl, by go_num, by go_num, Lib.hid (kra _), HRU⟩, by simp [intOf]; omega⟩
        · have g9 : decide (0 < (T : Int)) = true := by simp; omega
          have g8 : decide (0 < T) = true := by simp; omega
          have h0' : 0 < T := by omega
          go_wp2
          exact ⟨⟨k + 1 + T, st + 1, av, f, by omega, by omega, hav, by omega, rfl, by go_num, by go_num, Lib.hid (kra _), HRU⟩, by simp [intOf]; omega⟩
    · have hru := HRU.out
      simp at hru
      have HRU : Hid (kk = frunP s p) := Lib.hid hru
      clear hru HLD HNX
      go_wp2
      exact rcast (H.out _ (st + 1) (kra _)) (by rw [← HRU.out]; first | rfl | simp)
    · have hru := HRU.out
      simp at hru
      have HRU : Hid (av = frunP s p) := Lib.hid hru
      clear hru HLD HNX
      go_wp2
      exact rcast (H.out _ (st + 1) (kra _)) (by rw [← HRU.out]; first | rfl | simp)
end
end
end Go.Proofs.YtedblbpmlbjnhaaGreat
