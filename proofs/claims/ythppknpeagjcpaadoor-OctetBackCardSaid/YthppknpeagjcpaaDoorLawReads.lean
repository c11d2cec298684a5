/- OctetReads walked. -/
import Derived.Test.YthppknpeagjcpaaDoorEye3
import Derived.Test.YthppknpeagjcpaaDoorLawPuts
import Derived.Test.YthppknpeagjcpaaDoorOctD
import Derived.BigRegion
import Derived.Deep.RegionLaw
import Derived.Deep.AppendLies
import Derived.Deep.RegionWith
namespace Go.Proofs.YthppknpeagjcpaaDoor
open Go.RowKit Go.Shelf
set_option linter.unusedVariables false
set_option linter.unusedSimpArgs false
set_option maxRecDepth 100000

set_option maxHeartbeats 1000000 in
theorem rnum_any {R : Ending → World → Prop} (l : List UInt8) (w : World) (hl : l.length ≤ 8) (h : R (.returned (.int .u64 (numB l))) w) : Calls Tryd.prog 39 #[.string (S l)] w R := by
  have H := Lib.hid h
  clear h
  go_enter Tryd.func39, Tryd.ntmps39
  go_wp2
  go_loop [3, 4] (fun av iv => ∃ (i a : Nat), i ≤ l.length ∧ iv = .int .i64 i ∧ av = .int .u64 a ∧ Hid (numB (l.take i) = a)) (fun _ iv => l.length - (intOf iv).toNat)
  case atStart => exact ⟨0, 0, Nat.zero_le _, rfl, rfl, Lib.hid rfl⟩
  case round =>
    obtain ⟨i, a, hi, rfl, rfl, ha⟩ := hrel
    by_cases hlt : i < l.length
    · obtain ⟨x, hx⟩ : ∃ x, l[i]'hlt = x := ⟨_, rfl⟩
      have hxl := x.toNat_lt
      have hab : a < 72057594037927936 := by
        have h1 := numB_lt (l.take i)
        rw [ha.out, List.length_take, Nat.min_eq_left (by omega)] at h1
        have h2 : 256 ^ i ≤ 256 ^ 7 := Nat.pow_le_pow_right (by decide) (by omega)
        have h3 : (256 : Nat) ^ 7 = 72057594037927936 := by decide
        omega
      have HA : Hid (numB (l.take (i + 1)) = a * 256 + x.toNat) := by
        refine Lib.hid ?_
        rw [List.take_succ_eq_append_getElem hlt, numB_snoc, ha.out, hx]
      clear ha
      go_wp2
      go_round
      case rel => exact ⟨i + 1, a * 256 + x.toNat, by omega, by go_num, congrArg (Value.int .u64) (by first | omega | (simp; omega)), HA⟩
      case measure => simp [intOf]; omega
    · have e : l.take i = l := List.take_of_length_le (by omega)
      have ha' := ha.out
      rw [e] at ha'
      have HA := Lib.hid ha'
      clear e ha' ha
      go_wp2
      exact rcast H.out (congrArg (fun x : Nat => Value.int .u64 x) HA.out)
theorem rtake_st {R : Ending → World → Prop} {w : World} (l : List UInt8) (err : Int) (k : Int) (num : Bool) (hl : l.length ≤ 1000000) (st : List UInt8 × List UInt8 × Int) (hst : takeM (l, err) k (mayB k num) = st)
    (h : ∀ w', Kp [] w w' → R (.returned (.tuple #[.string (S st.1), .agg #[.string (S st.2.1), .int .i64 st.2.2]])) w') :
    Calls Tryd.prog 37 #[.agg #[.string (S l), .int .i64 err], .int .i64 k, .bool num] w R := by
  subst hst; exact rtake_any l err k num hl h
theorem num_st {R : Ending → World → Prop} {w : World} {g : Nat} {N : List Nat} {A : Option Addr} {n c : Nat} {l : List UInt8} {err : Int} (he : EyeR w g N A n c l err) (k : Int) (st : List UInt8 × List UInt8 × Int) (hst : takeM (l, err) k (mayB k true) = st)
    (h : ∀ A' n' c' w', EyeR w' g N A' n' c' st.2.1 st.2.2 → Kp [g] w w' → R (.returned (.int .u64 (numB st.1))) w') :
    Calls Tryd.prog 38 #[.pointer (some ⟨g, 0, none⟩), .int .i64 k] w R := by
  subst hst; exact num_any he k h
theorem bytes_st {R : Ending → World → Prop} {w : World} {g : Nat} {N : List Nat} {A : Option Addr} {n c : Nat} {l : List UInt8} {err : Int} (he : EyeR w g N A n c l err) (k : Int) (st : List UInt8 × List UInt8 × Int) (hst : takeM (l, err) k (mayB k false) = st)
    (h : ∀ A' n' c' B m cB w', EyeR w' g N A' n' c' st.2.1 st.2.2 → Rd w' [] B (bts st.1) → st.1.length = m → Kp [g] w w' → R (.returned (.slice B m cB)) w') :
    Calls Tryd.prog 40 #[.pointer (some ⟨g, 0, none⟩), .int .i64 k] w R := by
  subst hst; exact bytes_any he k h
theorem take8 (s : List UInt8 × Int) (k : Int) : (takeM s k (mayB k true)).1.length ≤ 8 := by
  have h1 := takeM_sub s k (mayB k true)
  cases hw : mayB k true
  · unfold takeM; (repeat' split) <;> simp_all
  · have h2 : k ≤ 8 := by
      unfold mayB wideB at hw
      simp only [if_true] at hw
      exact (of_decide_eq_true hw).2
    rw [hw] at h1; omega
theorem take_left (s : List UInt8 × Int) (k : Int) (b : Bool) : (takeM s k b).2.1.length ≤ s.1.length := by
  unfold takeM; (repeat' split) <;> simp
set_option maxHeartbeats 4000000 in
theorem reads_walk {R : Ending → World → Prop} (A : Option Addr) (n c : Nat) (b : List UInt8) (A2 : Option Addr) (n2 c2 : Nat) (l : List EAct) (w : World) (hr : Rd w [] A (bts b)) (hb : b.length = n) (hr2 : Rd w [] A2 (l.flatMap EAct.vals)) (hl : l.length = n2) (hw : Lw w)
    (h : ∀ w', Kp [] w w' → R (.returned (.bool true)) w') :
    Calls Tryd.prog 12 #[.slice A n c, .slice A2 n2 c2] w R := by
  have H := Lib.hid h
  have HB := Lib.hid hb
  have HL := Lib.hid hl
  clear h hb hl
  by_cases h1 : n ≤ 2000
  · by_cases h2 : n2 ≤ 100
    · go_enter Tryd.func12, Tryd.ntmps12
      go_wp2_with (first | (go_at_call 33; ((with_reducible refine alive02_any _ hw ?_); intro w1 k1; have hr1 := hr.kp k1 (by simp))) | (go_at_call 36; ((with_reducible refine new_any hr1 HB.out (by omega) ?_); intro g A1 c1 w2 hg he k2; have hcv := conv_bs (c := c) (hr1.kp k2 (by simp)) HB.out)))
      have hbb : Bk (w2.alloc (.cells #[.string ⟨b.toArray⟩, .int .i64 0] 49)) w2.heap.size 49 [.string (S b), .int .i64 0] := Bk.newAt rfl _ _
      have he0 := fun N hN => (he N hN).kp ((Kp.refl [] w2).alloc (.cells #[.string ⟨b.toArray⟩, .int .i64 0] 49))
      have hgm : g < w2.heap.size := (he [] (by simp)).bk.lt
      have k3 : Kp [] w (w2.alloc (.cells #[.string ⟨b.toArray⟩, .int .i64 0] 49)) := (k1.trans k2).alloc _
      have hgw : w.heap.size ≤ g := Nat.le_trans k1.size hg
      have HB2 := HB.out
      obtain ⟨gm, hgme⟩ : ∃ gm, w2.heap.size = gm := ⟨_, rfl⟩
      rw [hgme] at hbb hgm ⊢
      generalize w2.alloc (.cells #[.string ⟨b.toArray⟩, .int .i64 0] 49) = w3 at *
      clear hcv he hgme k1 k2
      go_loopw [7] (fun iv wr => ∃ (k : Nat) (s : List UInt8) (e : Int) (A' : Option Addr) (n' c' : Nat), k ≤ n2 ∧ iv = .int .i64 k ∧ EyeR wr g [gm] A' n' c' s e ∧ Bk wr gm 49 [.string (S s), .int .i64 e] ∧ s.length ≤ 2000 ∧ Kp [] w wr) (fun iv _ => n2 - (intOf iv).toNat)
      case atStart => exact ⟨0, b, 0, _, _, _, Nat.zero_le _, rfl, he0 [gm] (by simpa using hgm), hbb, by omega, k3⟩
      case round =>
        obtain ⟨k, s, e, A', n', c', hk, rfl, he, hbm, hs, kr⟩ := hrel
        by_cases hlt : k < n2
        · obtain ⟨x, hx⟩ : ∃ x, l[k]? = some x := ⟨_, List.getElem?_eq_getElem (by rw [HL.out]; exact hlt)⟩
          obtain ⟨b2, off, rfl, _, left0, hc0⟩ := rd_at (F := EAct.vals) (K := 2) hr2 (fun _ => rfl) (by omega) hx
          have left_b2 : b2 < wr.heap.size := Nat.lt_of_lt_of_le left0 kr.size
          have hc : ∀ j v, x.vals[j]? = some v → wr.cell? ⟨b2, off + k * 2 + j, none⟩ = some v := fun j v h => (kr.cell (p := ⟨b2, off + k * 2 + j, none⟩) left0 (by simp)).trans (hc0 j v h)
          have hb2g : b2 < g := by omega
          have q0 := hc 0 _ rfl
          have q1 := hc 1 _ rfl
          rw [Nat.add_zero] at q0
          have m0 := hbm.cell 0
          have m1 := hbm.cell 1
          simp only [List.getElem?_cons_zero, List.getElem?_cons_succ] at m0 m1
          have z1 := hbm.frozen 0
          have z2 := hbm.frozen 1
          clear hc hc0 hx
          obtain ⟨st, hst⟩ : ∃ st, takeM (s, e) x.n (mayB x.n x.num) = st := ⟨_, rfl⟩
          have HST := Lib.hid hst
          have hsl : s.length ≤ 1000000 := by omega
          clear hst
          have HBM := Lib.hid hbm
          go_wp2
          go_cut [8] from 400 (fun sv w' => sv = .string (S st.1) ∧ Bk w' gm 49 [.string (S st.2.1), .int .i64 st.2.2] ∧ Kp [gm] wr w')
          case rest =>
            obtain ⟨rfl, hbm2, kc⟩ := hcut
            have he2 : EyeR wc g [gm] A' n' c' s e := ⟨he.bk.kp kc (by simp; omega), he.rd.kp kc (fun s hs => .inl (by simp at hs; simp [hs])), he.len, he.cap, he.max⟩
            have q0' : wc.cell? ⟨b2, off + k * 2, none⟩ = some (.int .i64 x.n) := by rw [kc.cell left_b2 (by simp; omega)]; exact q0
            have q1' : wc.cell? ⟨b2, off + k * 2 + 1, none⟩ = some (.bool x.num) := by rw [kc.cell left_b2 (by simp; omega)]; exact q1
            have hsl2 : st.2.1.length ≤ 2000 := by have h' := take_left (s, e) x.n (mayB x.n x.num); rw [HST.out] at h'; exact Nat.le_trans h' hs
            have krc : Kp [] w wc := kr.thn kc (fun s hs => .inr (by simp at hs; omega))
            clear m0 m1 z1 z2 q0 q1
            have H8 : Hid (x.num = true → st.1.length ≤ 8) := Lib.hid (fun h => by have := take8 (s, e) x.n; rw [← HST.out, h]; exact this)
            cases hnum : x.num
            · rw [hnum] at q1' HST
              by_cases hd0 : st.2.2 = 0
              · by_cases hdl : 0 < st.2.1.length
                · have HD := Lib.hid (show doneI st.2.1 st.2.2 = 50 by unfold doneI; rw [if_neg (by simp [hd0]), if_pos hdl])
                  have b0 : (st.2.2 == 0) = true := by simpa using hd0
                  go_wp2_with (first | (go_at_call 40; ((refine bytes_st he2 x.n st HST.out ?_); intro A5 n5 c5 B m cB w5 he5 r5 l5 k5; have p0 : w5.cell? ⟨gm, 0, none⟩ = some (.string (S st.2.1)) := (hbm2.kp k5 (by simp; omega)).cell 0; have p1 : w5.cell? ⟨gm, 1, none⟩ = some (.int .i64 st.2.2) := (hbm2.kp k5 (by simp; omega)).cell 1; have ln5 := he5.len; have cv := conv_bs (c := cB) r5 l5)))
                  have HN5 := Lib.hid ln5
                  have g1 : ((n5 : Int) != (st.2.1.length : Int)) = false := by simp; omega
                  have g2 : (n5 != st.2.1.length) = false := by simp; omega
                  clear ln5
                  refine wp_region_kp (by kernel_rfl) (by kernel_rfl) ?_
                  repeat (quiet_step ((first | (go_at_call 41; (refine rest_any (he5.kp (kpw_kp _ _)) ?_); exact ⟨rfl, _, rfl⟩) | (go_at_call 42; (refine err_any (he5.kp (kpw_kp _ _)) ?_); exact ⟨rfl, _, rfl⟩) | (go_at_call 43; (refine done_any (he5.kp (kpw_kp _ _)) ?_); rw [HD.out]; exact ⟨rfl, _, rfl⟩))))
                  refine wpQuiet_nil ?_
                  intro w6 k6
                  go_wp2
                  exact ⟨⟨k + 1, st.2.1, st.2.2, A5, n5, c5, by omega, by go_num, he5.kp k6, ((hbm2.kp k5 (by simp; omega)).kp k6 (by simp)), hsl2, ((krc.thn k5 (fun s hs => .inr (by simp at hs; omega))).trans k6)⟩, by simp [intOf]; omega⟩
                · have HD := Lib.hid (show doneI st.2.1 st.2.2 = 0 by unfold doneI; rw [if_neg (by simp [hd0]), if_neg hdl])
                  have b0 : (st.2.2 == 0) = true := by simpa using hd0
                  go_wp2_with (first | (go_at_call 40; ((refine bytes_st he2 x.n st HST.out ?_); intro A5 n5 c5 B m cB w5 he5 r5 l5 k5; have p0 : w5.cell? ⟨gm, 0, none⟩ = some (.string (S st.2.1)) := (hbm2.kp k5 (by simp; omega)).cell 0; have p1 : w5.cell? ⟨gm, 1, none⟩ = some (.int .i64 st.2.2) := (hbm2.kp k5 (by simp; omega)).cell 1; have ln5 := he5.len; have cv := conv_bs (c := cB) r5 l5)))
                  have HN5 := Lib.hid ln5
                  have g1 : ((n5 : Int) != (st.2.1.length : Int)) = false := by simp; omega
                  have g2 : (n5 != st.2.1.length) = false := by simp; omega
                  clear ln5
                  refine wp_region_kp (by kernel_rfl) (by kernel_rfl) ?_
                  repeat (quiet_step ((first | (go_at_call 41; (refine rest_any (he5.kp (kpw_kp _ _)) ?_); exact ⟨rfl, _, rfl⟩) | (go_at_call 42; (refine err_any (he5.kp (kpw_kp _ _)) ?_); exact ⟨rfl, _, rfl⟩) | (go_at_call 43; (refine done_any (he5.kp (kpw_kp _ _)) ?_); rw [HD.out]; exact ⟨rfl, _, rfl⟩))))
                  refine wpQuiet_nil ?_
                  intro w6 k6
                  go_wp2
                  exact ⟨⟨k + 1, st.2.1, st.2.2, A5, n5, c5, by omega, by go_num, he5.kp k6, ((hbm2.kp k5 (by simp; omega)).kp k6 (by simp)), hsl2, ((krc.thn k5 (fun s hs => .inr (by simp at hs; omega))).trans k6)⟩, by simp [intOf]; omega⟩
              · have HD := Lib.hid (show doneI st.2.1 st.2.2 = st.2.2 by unfold doneI; rw [if_pos hd0])
                have b0 : (st.2.2 == 0) = false := by simpa using hd0
                go_wp2_with (first | (go_at_call 40; ((refine bytes_st he2 x.n st HST.out ?_); intro A5 n5 c5 B m cB w5 he5 r5 l5 k5; have p0 : w5.cell? ⟨gm, 0, none⟩ = some (.string (S st.2.1)) := (hbm2.kp k5 (by simp; omega)).cell 0; have p1 : w5.cell? ⟨gm, 1, none⟩ = some (.int .i64 st.2.2) := (hbm2.kp k5 (by simp; omega)).cell 1; have ln5 := he5.len; have cv := conv_bs (c := cB) r5 l5)))
                have HN5 := Lib.hid ln5
                have g1 : ((n5 : Int) != (st.2.1.length : Int)) = false := by simp; omega
                have g2 : (n5 != st.2.1.length) = false := by simp; omega
                clear ln5
                refine wp_region_kp (by kernel_rfl) (by kernel_rfl) ?_
                repeat (quiet_step ((first | (go_at_call 41; (refine rest_any (he5.kp (kpw_kp _ _)) ?_); exact ⟨rfl, _, rfl⟩) | (go_at_call 42; (refine err_any (he5.kp (kpw_kp _ _)) ?_); exact ⟨rfl, _, rfl⟩) | (go_at_call 43; (refine done_any (he5.kp (kpw_kp _ _)) ?_); rw [HD.out]; exact ⟨rfl, _, rfl⟩))))
                refine wpQuiet_nil ?_
                intro w6 k6
                go_wp2
                exact ⟨⟨k + 1, st.2.1, st.2.2, A5, n5, c5, by omega, by go_num, he5.kp k6, ((hbm2.kp k5 (by simp; omega)).kp k6 (by simp)), hsl2, ((krc.thn k5 (fun s hs => .inr (by simp at hs; omega))).trans k6)⟩, by simp [intOf]; omega⟩
            · rw [hnum] at q1' HST
              have H8' := H8.out hnum
              by_cases hd0 : st.2.2 = 0
              · by_cases hdl : 0 < st.2.1.length
                · have HD := Lib.hid (show doneI st.2.1 st.2.2 = 50 by unfold doneI; rw [if_neg (by simp [hd0]), if_pos hdl])
                  have b0 : (st.2.2 == 0) = true := by simpa using hd0
                  go_wp2_with (first | (go_at_call 38; ((refine num_st he2 x.n st HST.out ?_); intro A5 n5 c5 w5 he5 k5; have p0 : w5.cell? ⟨gm, 0, none⟩ = some (.string (S st.2.1)) := (hbm2.kp k5 (by simp; omega)).cell 0; have p1 : w5.cell? ⟨gm, 1, none⟩ = some (.int .i64 st.2.2) := (hbm2.kp k5 (by simp; omega)).cell 1; have ln5 := he5.len)) | (go_at_call 39; ((refine rnum_any st.1 _ H8' ?_))))
                  have HN5 := Lib.hid ln5
                  have g1 : ((n5 : Int) != (st.2.1.length : Int)) = false := by simp; omega
                  have g2 : (n5 != st.2.1.length) = false := by simp; omega
                  clear ln5
                  refine wp_region_kp (by kernel_rfl) (by kernel_rfl) ?_
                  repeat (quiet_step ((first | (go_at_call 41; (refine rest_any (he5.kp (kpw_kp _ _)) ?_); exact ⟨rfl, _, rfl⟩) | (go_at_call 42; (refine err_any (he5.kp (kpw_kp _ _)) ?_); exact ⟨rfl, _, rfl⟩) | (go_at_call 43; (refine done_any (he5.kp (kpw_kp _ _)) ?_); rw [HD.out]; exact ⟨rfl, _, rfl⟩))))
                  refine wpQuiet_nil ?_
                  intro w6 k6
                  go_wp2
                  exact ⟨⟨k + 1, st.2.1, st.2.2, A5, n5, c5, by omega, by go_num, he5.kp k6, ((hbm2.kp k5 (by simp; omega)).kp k6 (by simp)), hsl2, ((krc.thn k5 (fun s hs => .inr (by simp at hs; omega))).trans k6)⟩, by simp [intOf]; omega⟩
                · have HD := Lib.hid (show doneI st.2.1 st.2.2 = 0 by unfold doneI; rw [if_neg (by simp [hd0]), if_neg hdl])
                  have b0 : (st.2.2 == 0) = true := by simpa using hd0
                  go_wp2_with (first | (go_at_call 38; ((refine num_st he2 x.n st HST.out ?_); intro A5 n5 c5 w5 he5 k5; have p0 : w5.cell? ⟨gm, 0, none⟩ = some (.string (S st.2.1)) := (hbm2.kp k5 (by simp; omega)).cell 0; have p1 : w5.cell? ⟨gm, 1, none⟩ = some (.int .i64 st.2.2) := (hbm2.kp k5 (by simp; omega)).cell 1; have ln5 := he5.len)) | (go_at_call 39; ((refine rnum_any st.1 _ H8' ?_))))
                  have HN5 := Lib.hid ln5
                  have g1 : ((n5 : Int) != (st.2.1.length : Int)) = false := by simp; omega
                  have g2 : (n5 != st.2.1.length) = false := by simp; omega
                  clear ln5
                  refine wp_region_kp (by kernel_rfl) (by kernel_rfl) ?_
                  repeat (quiet_step ((first | (go_at_call 41; (refine rest_any (he5.kp (kpw_kp _ _)) ?_); exact ⟨rfl, _, rfl⟩) | (go_at_call 42; (refine err_any (he5.kp (kpw_kp _ _)) ?_); exact ⟨rfl, _, rfl⟩) | (go_at_call 43; (refine done_any (he5.kp (kpw_kp _ _)) ?_); rw [HD.out]; exact ⟨rfl, _, rfl⟩))))
                  refine wpQuiet_nil ?_
                  intro w6 k6
                  go_wp2
                  exact ⟨⟨k + 1, st.2.1, st.2.2, A5, n5, c5, by omega, by go_num, he5.kp k6, ((hbm2.kp k5 (by simp; omega)).kp k6 (by simp)), hsl2, ((krc.thn k5 (fun s hs => .inr (by simp at hs; omega))).trans k6)⟩, by simp [intOf]; omega⟩
              · have HD := Lib.hid (show doneI st.2.1 st.2.2 = st.2.2 by unfold doneI; rw [if_pos hd0])
                have b0 : (st.2.2 == 0) = false := by simpa using hd0
                go_wp2_with (first | (go_at_call 38; ((refine num_st he2 x.n st HST.out ?_); intro A5 n5 c5 w5 he5 k5; have p0 : w5.cell? ⟨gm, 0, none⟩ = some (.string (S st.2.1)) := (hbm2.kp k5 (by simp; omega)).cell 0; have p1 : w5.cell? ⟨gm, 1, none⟩ = some (.int .i64 st.2.2) := (hbm2.kp k5 (by simp; omega)).cell 1; have ln5 := he5.len)) | (go_at_call 39; ((refine rnum_any st.1 _ H8' ?_))))
                have HN5 := Lib.hid ln5
                have g1 : ((n5 : Int) != (st.2.1.length : Int)) = false := by simp; omega
                have g2 : (n5 != st.2.1.length) = false := by simp; omega
                clear ln5
                refine wp_region_kp (by kernel_rfl) (by kernel_rfl) ?_
                repeat (quiet_step ((first | (go_at_call 41; (refine rest_any (he5.kp (kpw_kp _ _)) ?_); exact ⟨rfl, _, rfl⟩) | (go_at_call 42; (refine err_any (he5.kp (kpw_kp _ _)) ?_); exact ⟨rfl, _, rfl⟩) | (go_at_call 43; (refine done_any (he5.kp (kpw_kp _ _)) ?_); rw [HD.out]; exact ⟨rfl, _, rfl⟩))))
                refine wpQuiet_nil ?_
                intro w6 k6
                go_wp2
                exact ⟨⟨k + 1, st.2.1, st.2.2, A5, n5, c5, by omega, by go_num, he5.kp k6, ((hbm2.kp k5 (by simp; omega)).kp k6 (by simp)), hsl2, ((krc.thn k5 (fun s hs => .inr (by simp at hs; omega))).trans k6)⟩, by simp [intOf]; omega⟩
          case first =>
            go_region_law (first | (go_simp; go_at_call 37; (refine rtake_st s e x.n x.num hsl st HST.out ?_); intro w4 k4; have y0 := (HBM.out.drew.kp k4 (by simp)).frozen 0; have y1 := (HBM.out.drew.kp k4 (by simp)).frozen 1; have y2 := (HBM.out.drew.kp k4 (by simp)).cell 0; have y3 := (HBM.out.drew.kp k4 (by simp)).cell 1))
            all_goals
              have kb := (HBM.out.drew.kp k4 (by simp))
              have kq : Kp [gm] wr w4 := (((Kp.refl [] wr).drew).trans k4).mono (by simp)
              go_wp2
              go_meet
              case rel => exact ⟨rfl, ((kb.set_ 0 _).set_ 1 _).cast rfl, (kq.setCell (.inl (by simp)) _).setCell (.inl (by simp)) _⟩
        · obtain rfl : k = n2 := by omega
          go_wp2_with (first | (go_at_call 38; (refine num_nil ?_)) | (go_at_call 40; (refine bytes_nil ?_)) | (go_at_call 41; (refine rest_nil ?_)) | (go_at_call 42; (refine err_nil ?_)) | (go_at_call 43; (refine done_nil ?_)))
          exact H.out _ kr
    · have h2' : 100 < n2 := by omega
      clear h2
      go_enter Tryd.func12, Tryd.ntmps12
      go_wp2_with (go_at_call 33; ((with_reducible refine alive02_any _ hw ?_); intro w1 k1))
      exact H.out _ k1
  · have h1' : 2000 < n := by omega
    clear h1
    go_enter Tryd.func12, Tryd.ntmps12
    go_wp2_with (go_at_call 33; ((with_reducible refine alive02_any _ hw ?_); intro w1 k1))
    exact H.out _ k1
end Go.Proofs.YthppknpeagjcpaaDoor
