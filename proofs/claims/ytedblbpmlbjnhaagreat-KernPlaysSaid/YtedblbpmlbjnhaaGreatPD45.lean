/- filter.Run and Kernel.Arrive in plain words; what KernCounts and KernApart keep. Kernel.Arrive. -/
import Derived.Test.YtedblbpmlbjnhaaGreatPD42
import Derived.Test.YtedblbpmlbjnhaaGreatPD24
import Derived.Test.YtedblbpmlbjnhaaGreatPD44
import Derived.Test.YtedblbpmlbjnhaaGreatPD28
import Derived.Deep.RegionHeldLaw
import Derived.BigQuiet
namespace Go.Proofs.YtedblbpmlbjnhaaGreat
/-! ### filter.Run and Kernel.Arrive in plain words; what KernCounts and KernApart keep. -/
section
open Go.RowKit Go.Shelf
set_option linter.unusedVariables false
set_option linter.unusedSimpArgs false
set_option maxRecDepth 100000

/-- Whose a packet is. -/
def taker (k : KS) (s : List UInt8) : Option Bnd := k.fl.find? (fun b => frunP s b.p != 0)
def kArr (k : KS) (s : List UInt8) (n e : Int) (k' : KS) : Prop :=
  (1024 < s.length ∧ n = 0 ∧ e = 2 ∧ k' = k) ∨ (s.length ≤ 1024 ∧ taker k s = none ∧ n = 0 ∧ e = 11 ∧ k' = k) ∨
  (s.length ≤ 1024 ∧ ∃ b, taker k s = some b ∧ b.env = 1 ∧ ((k.q1.length = 16 ∧ n = 0 ∧ e = 10 ∧ k' = k) ∨ (k.q1.length < 16 ∧ n = 1 ∧ e = 0 ∧ ∃ y : Sl, y.l = s ∧ k' = { k with q1 := k.q1 ++ [y] }))) ∨
  (s.length ≤ 1024 ∧ ∃ b, taker k s = some b ∧ b.env = 2 ∧ ((k.q2.length = 16 ∧ n = 0 ∧ e = 10 ∧ k' = k) ∨ (k.q2.length < 16 ∧ n = 2 ∧ e = 0 ∧ ∃ y : Sl, y.l = s ∧ k' = { k with q2 := k.q2 ++ [y] })))
theorem kArr_cnt {k k' : KS} {s : List UInt8} {n e : Int} {m : Nat} (h : kArr k s n e k') (hc : k.cnt m) : k'.cnt (m + 1) := by
  have h1 : k.cnt (m + 1) := ⟨by have := hc.ln; omega, by have := hc.nx; omega, by have := hc.c1; omega, by have := hc.c2; omega, by have := hc.co; omega, by have := hc.dn; omega, hc.fl, fun y hy => by have := hc.ho y hy; omega⟩
  rcases h with ⟨_, _, _, rfl⟩ | ⟨_, _, _, _, rfl⟩ | ⟨_, b, _, _, ⟨_, _, _, rfl⟩ | ⟨_, _, _, y, _, rfl⟩⟩ | ⟨_, b, _, _, ⟨_, _, _, rfl⟩ | ⟨_, _, _, y, _, rfl⟩⟩
  · exact h1
  · exact h1
  · exact h1
  · exact ⟨h1.ln, h1.nx, by have := hc.c1; simp; omega, h1.c2, h1.co, h1.dn, h1.fl, h1.ho⟩
  · exact h1
  · exact ⟨h1.ln, h1.nx, h1.c1, by have := hc.c2; simp; omega, h1.co, h1.dn, h1.fl, h1.ho⟩
theorem kArr_inv {k k' : KS} {s : List UInt8} {n e : Int} (h : kArr k s n e k') : k'.fs = k.fs ∧ k'.qo = k.qo ∧ k'.fl = k.fl ∧ k'.d = k.d ∧ k'.fo = k.fo ∧ k'.dn = k.dn := by
  rcases h with ⟨_, _, _, rfl⟩ | ⟨_, _, _, _, rfl⟩ | ⟨_, b, _, _, ⟨_, _, _, rfl⟩ | ⟨_, _, _, y, _, rfl⟩⟩ | ⟨_, b, _, _, ⟨_, _, _, rfl⟩ | ⟨_, _, _, y, _, rfl⟩⟩ <;> exact ⟨rfl, rfl, rfl, rfl, rfl, rfl⟩
theorem HInv.arr {k k' : KS} {s : List UInt8} {n e : Int} (hi : HInv k) (h : kArr k s n e k') : HInv k' := by
  obtain ⟨a, b, _⟩ := kArr_inv h
  exact hi.same b (by rw [a]; exact sameHo.refl _)
theorem FInv.arr {k k' : KS} {s : List UInt8} {n e : Int} (hi : FInv k) (h : kArr k s n e k') : FInv k' := hi.same (kArr_inv h).2.2.1
theorem FInv.dep {k k' : KS} {env e : Int} {l : List UInt8} (hi : FInv k) (h : kDep k l env e k') : FInv k' := by
  rcases h with ⟨_, _, _, _, rfl⟩ | ⟨y, q, _, _, _, _, rfl⟩
  · exact hi
  · exact hi.same rfl
/-! ### the first filter takes all, for the first environment -/
end
/-! ### Kernel.Arrive. -/
section
open Go.RowKit Go.Shelf
set_option linter.unusedVariables false
set_option linter.unusedSimpArgs false
set_option maxRecDepth 100000
section
variable {R : Ending → World → Prop} {w : World} {B m : Nat} {a : KA} {k : KS}
theorem find_at {α : Type} {p : α → Bool} {l : List α} {i : Nat} {x : α} (hx : l[i]? = some x) (hb : ∀ j y, j < i → l[j]? = some y → p y = false) (hp : p x = true) : l.find? p = some x := by
  obtain ⟨hi, hx⟩ := List.getElem?_eq_some_iff.1 hx
  rw [List.find?_eq_some_iff_getElem]
  refine ⟨hp, i, hi, hx, fun j hj => ?_⟩
  rw [hb j _ hj (List.getElem?_eq_getElem (by omega))]; rfl
theorem find_no {α : Type} {p : α → Bool} {l : List α} (hb : ∀ j y, j < l.length → l[j]? = some y → p y = false) : l.find? p = none := by
  rw [List.find?_eq_none]
  intro x hx
  obtain ⟨j, hj, e⟩ := List.getElem_of_mem hx
  rw [hb j x hj (by rw [List.getElem?_eq_getElem hj, e])]; simp
set_option maxHeartbeats 8000000 in
theorem karr_any (hK : Kn w B a k) (hm : k.cnt m) (hm2 : m ≤ 10000) (hf : FInv k) {ad : Addr} {n c : Nat} {s : List UInt8} (hs : Tb w 5 (some ad) (bts s)) (hsl : s.length = n) (hn : n ≤ 1000000) (hc : n ≤ c)
    (h : ∀ nn e k' w', Hid (kArr k s nn e k') → Kq B w w' → Kn w' B a k' → R (.returned (.tuple #[.int .i64 nn, .int .i64 e])) w') : Calls Tryz.prog 12 #[.pointer (some ⟨a.g, 0, none⟩), .slice (some ad) n c] w R := by
  have H := Lib.hid h
  have HK := Lib.hid hK
  have HF := Lib.hid hf
  have HS := Lib.hid hs
  have HL := Lib.hid hsl
  have hc1 := hm.c1
  have hc2 := hm.c2
  have hfl := hm.fl
  have c2 : w.cell? ⟨a.g, 2, none⟩ = some (.slice a.fA k.fl.length a.fc) := hK.cell 2
  clear h hK hf hs hsl hm
  by_cases h1 : 1024 < n
  · have HH := Lib.hid (H.out 0 2 k w (Lib.hid (.inl ⟨by rw [HL.out]; exact h1, rfl, rfl, rfl⟩)) (Kq.refl _ _) HK.out)
    clear H
    go_enter Tryz.func12, Tryz.ntmps12
    go_wp2
    exact HH.out
  · go_enter Tryz.func12, Tryz.ntmps12
    go_wp2
    go_loopw [24] (fun iv wr => ∃ i : Nat, i ≤ k.fl.length ∧ iv = .int .i64 i ∧ Hid (Kp [] w wr) ∧ Hid (∀ j y, j < i → k.fl[j]? = some y → (frunP s y.p != 0) = false)) (fun iv _ => k.fl.length - (intOf iv).toNat)
    case atStart => exact ⟨0, Nat.zero_le _, rfl, Lib.hid (Kp.refl _ _), Lib.hid (by intro j y hj; omega)⟩
    case round =>
      obtain ⟨i, hi, rfl, kr, hno⟩ := hrel
      have KN := Lib.hid (HK.out.off0 kr.out)
      clear c2
      by_cases hlt : i < k.fl.length
      · obtain ⟨y, hy, hym⟩ := get_lt (l := k.fl) (k := i) hlt
        obtain ⟨b, off, hA, _, hbl, hcc⟩ := rd_at (KN.out.fl.rd (N := []) (by simp)) bvals_len (by omega) hy
        have c0 := hcc 0 _ rfl
        have c1 := hcc 1 _ rfl
        have c2 := hcc 2 _ rfl
        rw [Nat.add_zero] at c0
        obtain ⟨d1, d2, d3⟩ := KN.out.fd y hym
        have HR : Hid (∀ (R : Ending → World → Prop) (w1 : World), Kp [] wr w1 → (∀ w', Kp [] w1 w' → R (.returned (.tuple #[.int .u32 (frunP s y.p), .int .i64 0])) w') → Calls Tryz.prog 58 #[.slice y.A y.n y.c, .slice (some ad) n c] w1 R) := Lib.hid (fun R w1 k1 h => frun_any (d3.kp k1 (Off.nil _ _)).rd0 d1 (HF.out.ok y hym) (HF.out.chk y hym) (HS.out.kp (kr.out.trans k1) (Off.nil _ _)).rd0 HL.out (by omega) hc h)
        have HE := HF.out.env y hym
        have HY := Lib.hid hy
        rw [hA]
        clear hcc hy d1 d3
        obtain ⟨fr, hfr⟩ : ∃ fr : Nat, frunP s y.p = fr := ⟨_, rfl⟩
        rw [hfr] at HR
        by_cases h0 : fr = 0
        · have e0 : ((fr : Int) == 0) = true := by simp [h0]
          have HF0 := Lib.hid (hfr.trans h0)
          clear hfr h0
          go_wp2_with (go_at_call 58; ((refine HR.out _ _ ((Kp.refl _ _).alloc _) ?_); intro w3 k3))
          exact ⟨⟨i + 1, by omega, by go_num, Lib.hid ((kr.out.alloc _).trans k3), Lib.hid (by
            intro j z hj hz
            rcases Nat.lt_or_ge j i with h | h
            · exact hno.out j z h hz
            · obtain rfl : j = i := by omega
              rw [HY.out] at hz
              injection hz with hz
              subst hz
              rw [HF0.out]; rfl)⟩, by simp [intOf]; omega⟩
        · have e0 : ((fr : Int) == 0) = false := by simp [h0]
          have HT : Hid (taker k s = some y) := Lib.hid (find_at HY.out hno.out (by rw [hfr]; simp [h0]))
          clear hfr h0
          rcases HE with he | he
          · rw [he] at c1
            have YB : Hid (∀ w', Kp [] (wr.alloc (.cells #[.int .i64 y.id, .int .i64 1, .slice y.A y.n y.c] 144)) w' → Bk w' wr.heap.size 144 [.int .i64 y.id, .int .i64 1, .slice y.A y.n y.c]) := Lib.hid (fun w' k' => nb_a k')
            go_upto_region 10 with (go_at_call 58; ((refine HR.out _ _ ((Kp.refl _ _).alloc _) ?_); intro w3 k3))
            have b3 := YB.out w3 k3
            obtain ⟨yb, hyb⟩ : ∃ yb, wr.heap.size = yb := ⟨_, rfl⟩
            rw [hyb] at b3 ⊢
            have kw3 : Kp [] w w3 := (kr.out.alloc _).trans k3
            have n3 := HK.out.off0 kw3
            have oL : ∀ e, 199 ≠ e → 37 ≠ e → Off w3 [a.s1, a.r1] e := fun e h1 h2 => Off.app (S := [a.s1]) (S' := [a.r1]) (Off.one n3.i1.hs.ty h1) (Off.one n3.r1 h2)
            have HQ : Hid (∀ w', Kp [a.s1, a.r1] w3 w' → w'.cell? ⟨a.g, 5, none⟩ = some (.pointer (some ⟨a.s1, 0, none⟩)) ∧ w'.cell? ⟨yb, 1, none⟩ = some (.int .i64 1)) := Lib.hid (fun w' k' => ⟨(n3.g.off k' (oL _ (by decide) (by decide))).cell 5, (b3.off k' (oL _ (by decide) (by decide))).cell 1⟩)
            have N3 := Lib.hid n3
            have KW3 := Lib.hid kw3
            have HS3 := Lib.hid (HS.out.kp kw3 (Off.nil _ _))
            have hroom := n3.i1.room
            have hBB := HK.out.hB
            clear n3 kw3 b3 oL hyb k3 c0 c1 c2 YB HR KN hbl d2
            obtain ⟨q0, q1⟩ := HQ.out w3 (Kp.refl _ _)
            by_cases h16 : k.q1.length = 16
            · go_region_held_law (fun w' => w'.cell? ⟨a.g, 5, none⟩ = some (.pointer (some ⟨a.s1, 0, none⟩)) ∧ w'.cell? ⟨yb, 1, none⟩ = some (.int .i64 1)) ((refine HQ.out _ ?_; repeat (first | with_reducible exact kk5.mono (by simp) | with_reducible exact kk4.mono (by simp) | with_reducible exact Kp.refl _ _ | with_reducible refine Kp.drew ?_))) (first | (go_simp; go_at_call 60; (refine clone_some (N := []) (xs := bts s) ((HS3.out.kp (by repeat (first | with_reducible exact Kp.refl _ _ | with_reducible refine Kp.drew ?_)) (Off.nil _ _)).rd0) (bts_one s) (by rw [bts_len]; exact HL.out) (by omega) ?_); intro g4 c4 w4 hg4 o4 k4; have kk4 : Kp [] w3 w4 := Kp.trans (by repeat (first | with_reducible exact Kp.refl _ _ | with_reducible refine Kp.drew ?_)) k4) | (go_simp; go_at_call 59; (refine rput_any (x := ⟨some ⟨g4, 0, none⟩, n, c4, s⟩) (N3.out.off0 kk4).i1 N3.out.new.n1 (by omega) ⟨HL.out, by show n ≤ 1024; omega, o4.tb⟩ (fun _ w5 k5 => ?_) (fun hh => absurd hh (by omega))); have kk5 : Kp [] w3 w5 := kk4.trans k5))
              all_goals
                go_wp2
                exact H.out 0 10 k _ (Lib.hid (.inr <| .inr <| .inl ⟨by rw [HL.out]; omega, y, HT.out, he, .inl ⟨h16, rfl, rfl, rfl⟩⟩)) (Kq.of0 (KW3.out.trans kk5)) (N3.out.off0 kk5)
            · have hlt16 : k.q1.length < 16 := by omega
              clear h16
              go_region_held_law (fun w' => w'.cell? ⟨a.g, 5, none⟩ = some (.pointer (some ⟨a.s1, 0, none⟩)) ∧ w'.cell? ⟨yb, 1, none⟩ = some (.int .i64 1)) ((refine HQ.out _ ?_; repeat (first | with_reducible exact kk5 | with_reducible exact kk4.mono (by simp) | with_reducible exact Kp.refl _ _ | with_reducible refine Kp.drew ?_))) (first | (go_simp; go_at_call 60; (refine clone_some (N := []) (xs := bts s) ((HS3.out.kp (by repeat (first | with_reducible exact Kp.refl _ _ | with_reducible refine Kp.drew ?_)) (Off.nil _ _)).rd0) (bts_one s) (by rw [bts_len]; exact HL.out) (by omega) ?_); intro g4 c4 w4 hg4 o4 k4; have kk4 : Kp [] w3 w4 := Kp.trans (by repeat (first | with_reducible exact Kp.refl _ _ | with_reducible refine Kp.drew ?_)) k4) | (go_simp; go_at_call 59; (refine rput_any (x := ⟨some ⟨g4, 0, none⟩, n, c4, s⟩) (N3.out.off0 kk4).i1 N3.out.new.n1 (by omega) ⟨HL.out, by show n ≤ 1024; omega, o4.tb⟩ (fun hh => absurd hh (by omega)) (fun _ w5 k5 r5 => ?_)); have kk5 : Kp [a.s1, a.r1] w3 w5 := (kk4.mono (by simp)).trans k5))
              all_goals
                obtain ⟨n5, q5⟩ := (N3.out.off0 kk4).set1 k5 r5
                obtain ⟨e0, e1⟩ := HQ.out w5 kk5
                go_wp2
                exact H.out 1 0 _ _ (Lib.hid (.inr <| .inr <| .inl ⟨by rw [HL.out]; omega, y, HT.out, he, .inr ⟨hlt16, rfl, rfl, _, rfl, rfl⟩⟩)) (((Kq.of0 KW3.out).trans (Kq.of0 kk4)).trans q5) n5
          · rw [he] at c1
            have YB : Hid (∀ w', Kp [] (wr.alloc (.cells #[.int .i64 y.id, .int .i64 2, .slice y.A y.n y.c] 144)) w' → Bk w' wr.heap.size 144 [.int .i64 y.id, .int .i64 2, .slice y.A y.n y.c]) := Lib.hid (fun w' k' => nb_a k')
            go_upto_region 10 with (go_at_call 58; ((refine HR.out _ _ ((Kp.refl _ _).alloc _) ?_); intro w3 k3))
            have b3 := YB.out w3 k3
            obtain ⟨yb, hyb⟩ : ∃ yb, wr.heap.size = yb := ⟨_, rfl⟩
            rw [hyb] at b3 ⊢
            have kw3 : Kp [] w w3 := (kr.out.alloc _).trans k3
            have n3 := HK.out.off0 kw3
            have oL : ∀ e, 199 ≠ e → 37 ≠ e → Off w3 [a.s2, a.r2] e := fun e h1 h2 => Off.app (S := [a.s2]) (S' := [a.r2]) (Off.one n3.i2.hs.ty h1) (Off.one n3.r2 h2)
            have HQ : Hid (∀ w', Kp [a.s2, a.r2] w3 w' → w'.cell? ⟨a.g, 6, none⟩ = some (.pointer (some ⟨a.s2, 0, none⟩)) ∧ w'.cell? ⟨yb, 1, none⟩ = some (.int .i64 2)) := Lib.hid (fun w' k' => ⟨(n3.g.off k' (oL _ (by decide) (by decide))).cell 6, (b3.off k' (oL _ (by decide) (by decide))).cell 1⟩)
            have N3 := Lib.hid n3
            have KW3 := Lib.hid kw3
            have HS3 := Lib.hid (HS.out.kp kw3 (Off.nil _ _))
            have hroom := n3.i2.room
            have hBB := HK.out.hB
            clear n3 kw3 b3 oL hyb k3 c0 c1 c2 YB HR KN hbl d2
            obtain ⟨q0, q1⟩ := HQ.out w3 (Kp.refl _ _)
            by_cases h16 : k.q2.length = 16
            · go_region_held_law (fun w' => w'.cell? ⟨a.g, 6, none⟩ = some (.pointer (some ⟨a.s2, 0, none⟩)) ∧ w'.cell? ⟨yb, 1, none⟩ = some (.int .i64 2)) ((refine HQ.out _ ?_; repeat (first | with_reducible exact kk5.mono (by simp) | with_reducible exact kk4.mono (by simp) | with_reducible exact Kp.refl _ _ | with_reducible refine Kp.drew ?_))) (first | (go_simp; go_at_call 60; (refine clone_some (N := []) (xs := bts s) ((HS3.out.kp (by repeat (first | with_reducible exact Kp.refl _ _ | with_reducible refine Kp.drew ?_)) (Off.nil _ _)).rd0) (bts_one s) (by rw [bts_len]; exact HL.out) (by omega) ?_); intro g4 c4 w4 hg4 o4 k4; have kk4 : Kp [] w3 w4 := Kp.trans (by repeat (first | with_reducible exact Kp.refl _ _ | with_reducible refine Kp.drew ?_)) k4) | (go_simp; go_at_call 59; (refine rput_any (x := ⟨some ⟨g4, 0, none⟩, n, c4, s⟩) (N3.out.off0 kk4).i2 N3.out.new.n2 (by omega) ⟨HL.out, by show n ≤ 1024; omega, o4.tb⟩ (fun _ w5 k5 => ?_) (fun hh => absurd hh (by omega))); have kk5 : Kp [] w3 w5 := kk4.trans k5))
              all_goals
                go_wp2
                exact H.out 0 10 k _ (Lib.hid (.inr <| .inr <| .inr ⟨by rw [HL.out]; omega, y, HT.out, he, .inl ⟨h16, rfl, rfl, rfl⟩⟩)) (Kq.of0 (KW3.out.trans kk5)) (N3.out.off0 kk5)
            · have hlt16 : k.q2.length < 16 := by omega
              clear h16
              go_region_held_law (fun w' => w'.cell? ⟨a.g, 6, none⟩ = some (.pointer (some ⟨a.s2, 0, none⟩)) ∧ w'.cell? ⟨yb, 1, none⟩ = some (.int .i64 2)) ((refine HQ.out _ ?_; repeat (first | with_reducible exact kk5 | with_reducible exact kk4.mono (by simp) | with_reducible exact Kp.refl _ _ | with_reducible refine Kp.drew ?_))) (first | (go_simp; go_at_call 60; (refine clone_some (N := []) (xs := bts s) ((HS3.out.kp (by repeat (first | with_reducible exact Kp.refl _ _ | with_reducible refine Kp.drew ?_)) (Off.nil _ _)).rd0) (bts_one s) (by rw [bts_len]; exact HL.out) (by omega) ?_); intro g4 c4 w4 hg4 o4 k4; have kk4 : Kp [] w3 w4 := Kp.trans (by repeat (first | with_reducible exact Kp.refl _ _ | with_reducible refine Kp.drew ?_)) k4) | (go_simp; go_at_call 59; (refine rput_any (x := ⟨some ⟨g4, 0, none⟩, n, c4, s⟩) (N3.out.off0 kk4).i2 N3.out.new.n2 (by omega) ⟨HL.out, by show n ≤ 1024; omega, o4.tb⟩ (fun hh => absurd hh (by omega)) (fun _ w5 k5 r5 => ?_)); have kk5 : Kp [a.s2, a.r2] w3 w5 := (kk4.mono (by simp)).trans k5))
              all_goals
                obtain ⟨n5, q5⟩ := (N3.out.off0 kk4).set2 k5 r5
                obtain ⟨e0, e1⟩ := HQ.out w5 kk5
                go_wp2
                exact H.out 2 0 _ _ (Lib.hid (.inr <| .inr <| .inr ⟨by rw [HL.out]; omega, y, HT.out, he, .inr ⟨hlt16, rfl, rfl, _, rfl, rfl⟩⟩)) (((Kq.of0 KW3.out).trans (Kq.of0 kk4)).trans q5) n5
      · obtain rfl : i = k.fl.length := by omega
        have HT : Hid (taker k s = none) := Lib.hid (find_no hno.out)
        go_wp2
        exact H.out 0 11 k _ (Lib.hid (.inr <| .inl ⟨by rw [HL.out]; omega, HT.out, rfl, rfl, rfl⟩)) (Kq.of0 kr.out) (HK.out.off0 kr.out)
end
end
end Go.Proofs.YtedblbpmlbjnhaaGreat
