/- filter.Check walked. -/
import Derived.Test.YthlmfjfkkndboaaKn6
import Derived.Test.YthlmfjfkkndboaaKa
namespace Go.Proofs.Ythlmfjfkkndboaa
open Go.RowKit Go.Shelf
set_option linter.unusedVariables false
set_option linter.unusedSimpArgs false
set_option maxRecDepth 100000

def fbad (left : Int) (o : FOp) : Bool := decide (o.c < 0) || (decide (8 < o.c) || (decide (o.t < 0) || (decide (o.f < 0) || (decide (255 < o.t) || (decide (255 < o.f) || ((o.c == 5 || o.c == 6) && (decide (left < o.t) || decide (left < o.f))))))))
def fbadAt (p : List FOp) (j : Nat) : Bool := match p[j]? with | some o => fbad ((p.length : Int) - 2 - j) o | none => false
def fends (p : List FOp) : Bool := match p[p.length - 1]? with | some o => (o.c == 7 || o.c == 8) | none => false
def fchk (p : List FOp) : Bool := decide (1 ≤ p.length) && decide (p.length ≤ 64) && fends p && !(List.range p.length).any (fbadAt p)
theorem bk4 {w : World} {g tt : Nat} {a b c d : Value} (h : Bk w g tt [a, b, c, d]) : w.cell? ⟨g, 0, none⟩ = some a ∧ w.cell? ⟨g, 1, none⟩ = some b ∧ w.cell? ⟨g, 2, none⟩ = some c ∧ w.cell? ⟨g, 3, none⟩ = some d := ⟨h.cell 0, h.cell 1, h.cell 2, h.cell 3⟩
section
variable {R : Ending → World → Prop} {w : World}
set_option maxHeartbeats 1000000 in
theorem ends_any (c k t f : Int) (h : ∀ w', Kp [] w w' → R (.returned (.bool (c == 7 || c == 8))) w') : Calls Try.prog 118 #[.agg #[.int .i64 c, .int .u32 k, .int .i64 t, .int .i64 f]] w R := by
  have H := Lib.hid h
  clear h
  have hk := fun o => (Kp.refl [] w).alloc o
  by_cases h7 : c = 7
  · have e : (c == 7) = true := by simp [h7]
    clear h7
    go_enter Try.func118, Try.ntmps118
    go_wp2
    exact rcast (H.out _ (hk _)) (by simp [e])
  · have e : (c == 7) = false := by simp [h7]
    clear h7
    go_enter Try.func118, Try.ntmps118
    go_wp2
    exact rcast (H.out _ (hk _)) (by simp [e])
set_option maxHeartbeats 1000000 in
theorem jumps_any (c k t f : Int) (h : ∀ w', Kp [] w w' → R (.returned (.bool (c == 5 || c == 6))) w') : Calls Try.prog 119 #[.agg #[.int .i64 c, .int .u32 k, .int .i64 t, .int .i64 f]] w R := by
  have H := Lib.hid h
  clear h
  have hk := fun o => (Kp.refl [] w).alloc o
  by_cases h7 : c = 5
  · have e : (c == 5) = true := by simp [h7]
    clear h7
    go_enter Try.func119, Try.ntmps119
    go_wp2
    exact rcast (H.out _ (hk _)) (by simp [e])
  · have e : (c == 5) = false := by simp [h7]
    clear h7
    go_enter Try.func119, Try.ntmps119
    go_wp2
    exact rcast (H.out _ (hk _)) (by simp [e])
set_option maxHeartbeats 4000000 in
theorem fcheck_any {A : Option Addr} {n c : Nat} {p : List FOp} (hr : Rd w [] A (p.flatMap FOp.vals)) (hl : p.length = n) (hn : n ≤ 1000000) (hok : ∀ o ∈ p, o.ok)
    (h : ∀ w', Kp [] w w' → R (.returned (.int .i64 (if fchk p then 0 else 40))) w') : Calls Try.prog 100 #[.slice A n c] w R := by
  have H := Lib.hid h
  have HL := Lib.hid hl
  have HO := Lib.hid hok
  clear h hl hok
  by_cases h1 : n < 1
  · have HH := H.out w (Kp.refl _ _)
    rw [if_neg (by have := HL.out; simp [fchk]; omega)] at HH
    clear H
    go_enter Try.func100, Try.ntmps100
    go_wp2
    exact HH
  · by_cases h64 : 64 < n
    · have HH := H.out w (Kp.refl _ _)
      rw [if_neg (by have := HL.out; simp [fchk]; omega)] at HH
      clear H
      go_enter Try.func100, Try.ntmps100
      go_wp2
      exact HH
    · obtain ⟨z, hz, hzm⟩ := get_lt (l := p) (k := n - 1) (by have := HL.out; omega)
      obtain ⟨b, off, rfl, _, hbl, hc⟩ := rd_at hr ovals_len (by omega) hz
      have c0 := hc 0 _ rfl
      have c1 := hc 1 _ rfl
      have c2 := hc 2 _ rfl
      have c3 := hc 3 _ rfl
      rw [Nat.add_zero] at c0
      have hfe : fends p = (z.c == 7 || z.c == 8) := by unfold fends; rw [HL.out, hz]
      have HF := Lib.hid hfe
      have hn1 : ((n : Int) - 1) = ((n - 1 : Nat) : Int) := by omega
      have HR := Lib.hid hr
      clear hc hz hfe hr
      cases he : (z.c == 7 || z.c == 8) with
      | false =>
        have HH := Lib.hid (fun w' k' => rcast (H.out w' k') (congrArg (Value.int .i64) (if_neg (by simp [fchk, HF.out, he]))))
        go_enter Try.func100, Try.ntmps100
        go_wp2_with (go_at_call 118; ((refine ends_any _ _ _ _ ?_); rw [he]; intro w1 k1))
        exact HH.out _ k1
      | true =>
        go_enter Try.func100, Try.ntmps100
        go_wp2_with (go_at_call 118; ((refine ends_any _ _ _ _ ?_); rw [he]; intro w1 k1))
        have K1 := Lib.hid k1
        clear k1 c0 c1 c2 c3
        go_loopw [26] (fun iv wr => ∃ k : Nat, k ≤ n ∧ iv = .int .i64 k ∧ Hid (Kp [] w wr) ∧ Hid (∀ j, j < k → fbadAt p j = false)) (fun iv _ => n - (intOf iv).toNat)
        case atStart => exact ⟨0, Nat.zero_le _, rfl, K1, Lib.hid (by omega)⟩
        case round =>
          obtain ⟨k, hk, rfl, kr, hgd⟩ := hrel
          by_cases hlt : k < n
          · obtain ⟨o, hx, hm⟩ := get_lt (l := p) (k := k) (by have := HL.out; omega)
            obtain ⟨b2, off2, hAA, _, _, hc⟩ := rd_at (HR.out.kp kr.out (by simp)) ovals_len (by omega) hx
            injection hAA with hAA
            injection hAA with hA1 hA2
            subst hA1; subst hA2
            have c0 := hc 0 _ rfl
            have c1 := hc 1 _ rfl
            have c2 := hc 2 _ rfl
            have c3 := hc 3 _ rfl
            rw [Nat.add_zero] at c0
            obtain ⟨oc, ok, ot, of_⟩ := HO.out o hm
            have hfa : fbadAt p k = fbad ((n : Int) - 2 - k) o := by unfold fbadAt; rw [hx, HL.out]
            have HBAD : Hid (fbad ((n : Int) - 2 - k) o = true → ∀ w', Kp [] w w' → R (.returned (.int .i64 40)) w') := Lib.hid (fun hb w' k' => rcast (H.out w' k') (congrArg (Value.int .i64) (if_neg (by
              have : (List.range p.length).any (fbadAt p) = true := List.any_eq_true.2 ⟨k, by simp [HL.out, hlt], by rw [hfa]; exact hb⟩
              simp [fchk, this]))))
            have HGOOD : Hid (fbad ((n : Int) - 2 - k) o = false → Hid (∀ j, j < k + 1 → fbadAt p j = false)) := Lib.hid (fun hb => Lib.hid (fun j hj => by
              rcases Nat.lt_or_ge j k with h | h
              · exact hgd.out j h
              · obtain rfl : j = k := by omega
                rw [hfa]; exact hb))
            have HBX : Hid (Bk (wr.alloc (.cells #[.int .i64 o.c, .int .u32 o.k, .int .i64 o.t, .int .i64 o.f] 172)) wr.heap.size 172 [.int .i64 o.c, .int .u32 o.k, .int .i64 o.t, .int .i64 o.f]) := Lib.hid ((Bk.newAt rfl _ _).cast rfl)
            unfold i64B at oc ot of_
            clear hc hx hfa HF
            by_cases h2 : o.c < 0
            · have HBD := Lib.hid (HBAD.out (by simp [fbad, h2]))
              clear HGOOD HBAD
              go_wp2
              exact HBD.out _ (kr.out.alloc _)
            by_cases h3 : 8 < o.c
            · have HBD := Lib.hid (HBAD.out (by simp [fbad, h3]))
              clear HGOOD HBAD
              go_wp2
              exact HBD.out _ (kr.out.alloc _)
            by_cases h4 : o.t < 0
            · have HBD := Lib.hid (HBAD.out (by simp [fbad, h4]))
              clear HGOOD HBAD
              go_wp2
              exact HBD.out _ (kr.out.alloc _)
            by_cases h5 : o.f < 0
            · have HBD := Lib.hid (HBAD.out (by simp [fbad, h5]))
              clear HGOOD HBAD
              go_wp2
              exact HBD.out _ (kr.out.alloc _)
            by_cases h6 : 255 < o.t
            · have HBD := Lib.hid (HBAD.out (by simp [fbad, h6]))
              clear HGOOD HBAD
              go_wp2
              exact HBD.out _ (kr.out.alloc _)
            by_cases h7 : 255 < o.f
            · have HBD := Lib.hid (HBAD.out (by simp [fbad, h7]))
              clear HGOOD HBAD
              go_wp2
              exact HBD.out _ (kr.out.alloc _)
            cases hj : (o.c == 5 || o.c == 6) with
            | false =>
              go_wp2_with (go_at_call 119; ((refine jumps_any _ _ _ _ ?_); rw [hj]; intro w2 k2; obtain ⟨a0, a1, a2, a3⟩ := bk4 (HBX.out.kp k2 (by simp))))
              exact ⟨⟨k + 1, by omega, by go_num, Lib.hid ((kr.out.alloc _).trans k2), HGOOD.out (by simp [fbad, h2, h3, h4, h5, h6, h7, hj])⟩, by simp [intOf]; omega⟩
            | true =>
              by_cases h8 : (n : Int) - 2 - k < o.t
              · have HBD := Lib.hid (HBAD.out (by simp [fbad, hj, h8]))
                clear HGOOD HBAD
                go_wp2_with (go_at_call 119; ((refine jumps_any _ _ _ _ ?_); rw [hj]; intro w2 k2; obtain ⟨a0, a1, a2, a3⟩ := bk4 (HBX.out.kp k2 (by simp))))
                exact HBD.out _ ((kr.out.alloc _).trans k2)
              by_cases h9 : (n : Int) - 2 - k < o.f
              · have HBD := Lib.hid (HBAD.out (by simp [fbad, hj, h9]))
                clear HGOOD HBAD
                go_wp2_with (go_at_call 119; ((refine jumps_any _ _ _ _ ?_); rw [hj]; intro w2 k2; obtain ⟨a0, a1, a2, a3⟩ := bk4 (HBX.out.kp k2 (by simp))))
                exact HBD.out _ ((kr.out.alloc _).trans k2)
              go_wp2_with (go_at_call 119; ((refine jumps_any _ _ _ _ ?_); rw [hj]; intro w2 k2; obtain ⟨a0, a1, a2, a3⟩ := bk4 (HBX.out.kp k2 (by simp))))
              exact ⟨⟨k + 1, by omega, by go_num, Lib.hid ((kr.out.alloc _).trans k2), HGOOD.out (by simp [fbad, h2, h3, h4, h5, h6, h7, h8, h9])⟩, by simp [intOf]; omega⟩
          · obtain rfl : k = n := by omega
            have HH := Lib.hid (fun w' k' => rcast (H.out w' k') (congrArg (Value.int .i64) (if_pos (by
              have : (List.range p.length).any (fbadAt p) = false := by
                rw [Bool.eq_false_iff]; intro hh
                obtain ⟨j, hj, hb⟩ := List.any_eq_true.1 hh
                rw [hgd.out j (by simpa [HL.out] using hj)] at hb
                cases hb
              have hl := HL.out
              simp [fchk, this, HF.out, he]; omega))))
            clear H
            go_wp2
            exact HH.out _ kr.out
end
end Go.Proofs.Ythlmfjfkkndboaa
