/- Scopes with any labels; filter.Run in plain words; filter.load walked. -/
import Derived.Test.YtogipajanbgenaaKg
import Derived.ScopeJumps
import Derived.WalkMore
import Derived.IntWalk
namespace Go.Proofs.Ytogipajanbgenaa
open Go.RowKit Go.Shelf
set_option linter.unusedVariables false
set_option linter.unusedSimpArgs false
set_option maxRecDepth 100000
/-- As Q; by a goto to l: J l. -/
def Exit.jumps (J : Nat → Act → World → Prop) (Q : Exit → Act → World → Prop) : Exit → Act → World → Prop
  | .goto l, a, w => J l a w
  | e, a, w => Q e a w
theorem jumps_mono {J J' : Nat → Act → World → Prop} {Q : Exit → Act → World → Prop} (h : ∀ l a w, J l a w → J' l a w) (e : Exit) (a : Act) (w : World) (hq : Exit.jumps J Q e a w) : Exit.jumps J' Q e a w := by
  cases e with
  | goto l => exact h _ _ _ hq
  | normal => exact hq
  | exit id => exact hq
  | ret => exact hq
  | panic ch => exact hq
  | outgrown => exact hq
theorem wp_scope_many {P : Program} {a : Act} {w : World} {Q : Exit → Act → World → Prop} {c r0 : Code} (l0 : Nat) (J : Nat → Act → World → Prop) (μ : Nat → Act → World → Nat)
    (hf0 : findLabel c l0 = some (Code.skip.seq r0)) (hQ : ∀ l a w, ¬ Q (.goto l) a w)
    (first0 : Hid (∀ a w, J l0 a w → r0.wp P (Exit.jumps J Q) a w) → c.wp P (Exit.jumps J Q) a w)
    (pass0 : ∀ a w, J l0 a w → r0.wp P (Exit.jumps (fun l' a' w' => J l' a' w' ∧ μ l' a' w' < μ l0 a w) Q) a w)
    (pass : ∀ l, l ≠ l0 → ∀ a w, J l a w → ∃ r, findLabel c l = some r ∧ r.wp P (Exit.jumps (fun l' a' w' => J l' a' w' ∧ μ l' a' w' < μ l a w) Q) a w) : (Code.scope c).wp P Q a w := by
  have first := first0 (Lib.hid fun a w hJ => wp_mono (pass0 a w hJ) (jumps_mono (fun l a w h => h.1)))
  have pass' : ∀ l a w, J l a w → ∃ r, findLabel c l = some r ∧ r.wp P (Exit.jumps (fun l' a' w' => J l' a' w' ∧ μ l' a' w' < μ l a w) Q) a w := by
    intro l a w h
    by_cases hl : l = l0
    · subst hl
      exact ⟨_, hf0, wp_seq (wp_skip (pass0 a w h))⟩
    · exact pass l hl a w h
  intro b k cs
  have key : ∀ n l a w, μ l a w = n → J l a w → ∀ r, findLabel c l = some r → ∃ e a' w', Q e a' w' ∧ Arrives P (lone (b.at a (.code r :: .inScope c :: k)) cs w) b k cs e a' w' := by
    intro n
    induction n using Nat.strongRecOn with
    | _ n ih =>
      intro l a w hn hJ r hr
      obtain ⟨r', hr', hp⟩ := pass' l a w hJ
      rw [hr] at hr'; injection hr' with hr'; subst hr'
      obtain ⟨e, a₁, w₁, hq, harr⟩ := hp b (.inScope c :: k) cs
      cases e with
      | normal => exact ⟨.normal, a₁, w₁, hq, Steps.trans harr (.one step_inScope)⟩
      | exit id => exact ⟨.exit id, a₁, w₁, hq, fun k' hk => harr k' (by simp [exitTo, hk])⟩
      | goto l' =>
        obtain ⟨hJ', hlt⟩ := hq
        obtain ⟨r2, hr2, _⟩ := pass' l' a₁ w₁ hJ'
        obtain ⟨e₂, a₂, w₂, hq₂, harr₂⟩ := ih _ (by omega) l' a₁ w₁ rfl hJ' r2 hr2
        exact ⟨e₂, a₂, w₂, hq₂, .of_steps (harr _ (by simp [gotoIn, hr2])) harr₂⟩
      | ret => exact ⟨_, a₁, w₁, hq, harr⟩
      | panic ch => exact ⟨_, a₁, w₁, hq, harr⟩
      | outgrown => exact ⟨_, a₁, w₁, hq, harr⟩
  obtain ⟨e, a₁, w₁, hq, harr⟩ := first b (.inScope c :: k) cs
  cases e with
  | normal => exact ⟨.normal, a₁, w₁, hq, .head step_scope (Steps.trans harr (.one step_inScope))⟩
  | exit id => exact ⟨.exit id, a₁, w₁, hq, fun k' hk => .head step_scope (harr k' (by simp [exitTo, hk]))⟩
  | goto l' =>
    obtain ⟨r2, hr2, _⟩ := pass' l' a₁ w₁ hq
    obtain ⟨e₂, a₂, w₂, hq₂, harr₂⟩ := key _ l' a₁ w₁ rfl hq r2 hr2
    exact ⟨e₂, a₂, w₂, hq₂, .of_steps (.head step_scope (harr _ (by simp [gotoIn, hr2]))) harr₂⟩
  | ret => exact ⟨_, a₁, w₁, hq, .of_steps (.one step_scope) harr⟩
  | panic ch => exact ⟨_, a₁, w₁, hq, .of_steps (.one step_scope) harr⟩
  | outgrown => exact ⟨_, a₁, w₁, hq, .of_steps (.one step_scope) harr⟩
/-- A number of a packet. -/
def fload (s : List UInt8) (at_ wd : Nat) : Option Nat := if s.length < at_ + wd then none else some (((s.drop at_).take wd).foldl (fun n c => n * 256 + c.toNat) 0)
/-- A program on a packet: the number. -/
def frun (s : List UInt8) (p : List FOp) : Nat → Nat → Nat → Nat
  | 0, _, _ => 0
  | f + 1, i, a => match p[i]? with
    | none => 0
    | some o => if o.c = 0 ∨ o.c = 1 ∨ o.c = 2 then match fload s o.k.toNat (2 ^ o.c.toNat) with
        | none => 0
        | some v => frun s p f (i + 1) v
      else if o.c = 3 then frun s p f (i + 1) (a &&& o.k.toNat)
      else if o.c = 4 then frun s p f (i + 1) (a >>> o.k.toNat)
      else if o.c = 5 then frun s p f (i + 1 + (if (a : Int) = o.k then o.t else o.f).toNat) a
      else if o.c = 6 then frun s p f (i + 1 + (if o.k < a then o.t else o.f).toNat) a
      else if o.c = 7 then o.k.toNat
      else a
def frunP (s : List UInt8) (p : List FOp) : Nat := frun s p p.length 0 0
theorem load_bd (l : List UInt8) (k : Nat) (hk : k ≤ l.length) : (l.take k).foldl (fun n c => n * 256 + c.toNat) 0 < 256 ^ k := by
  induction k with
  | zero => simp
  | succ k ih =>
    have h1 := ih (by omega)
    rw [List.take_succ_eq_append_getElem (by omega), List.foldl_append, Nat.pow_succ]
    have := (l[k]'(by omega)).toNat_lt
    simp only [List.foldl_cons, List.foldl_nil]
    omega
theorem ldv (a : Nat) (c : UInt8) (ha : a < 16777216) : bits .or .u32 ((a : Int) * 256) (c.toNat : Int) = ((a * 256 + c.toNat : Nat) : Int) := by
  have hc := c.toNat_lt
  have e1 : (a : Int) * 256 = ((2 ^ 8 * a : Nat) : Int) := by omega
  rw [e1, u32_or_nat _ _ (by omega) (by omega), ← Nat.two_pow_add_eq_or_of_lt (by omega)]
  omega
section
variable {R : Ending → World → Prop} {w : World}
def ldV : Option Nat → Value
  | none => .tuple #[.int .u32 0, .bool false]
  | some v => .tuple #[.int .u32 v, .bool true]
set_option maxHeartbeats 2000000 in
theorem fload_any {A : Option Addr} {n c : Nat} {s : List UInt8} (hr : Rd w [] A (bts s)) (hl : s.length = n) (hc : n ≤ c) (hn : n ≤ 1000000) (k : Nat) (hk : k ≤ 4294967295) (wd : Nat) (h1 : 1 ≤ wd) (h4 : wd ≤ 4)
    (h : R (.returned (ldV (fload s k wd))) w) : Calls Try.prog 126 #[.slice A n c, .int .u32 k, .int .i64 wd] w R := by
  have H := Lib.hid h
  have HR := Lib.hid hr
  have HL := Lib.hid hl
  clear h hr hl
  by_cases hlt : n < k + wd
  · have HF := Lib.hid (show fload s k wd = none by unfold fload; rw [if_pos (by rw [HL.out]; exact hlt)])
    go_enter Try.func126, Try.ntmps126
    go_wp2
    exact rcast (H.out) (by rw [HF.out]; rfl)
  · obtain ⟨x0, hx0⟩ : ∃ x, s[k]? = some x := ⟨_, List.getElem?_eq_getElem (by rw [HL.out]; omega)⟩
    obtain ⟨b, off, rfl, _, hbl, hcc⟩ := HR.out (by intro e; have := congrArg List.length e; rw [bts_len, HL.out] at this; simp at this; omega)
    have HC := Lib.hid hcc
    clear hcc hx0
    have HF := Lib.hid (show fload s k wd = some (((s.drop k).take wd).foldl (fun n c => n * 256 + c.toNat) 0) by unfold fload; rw [if_neg (by rw [HL.out]; exact hlt)])
    go_enter Try.func126, Try.ntmps126
    go_wp2
    go_loop [8, 28] (fun av iv => ∃ (i a : Nat), i ≤ wd ∧ iv = .int .i64 i ∧ av = .int .u32 a ∧ Hid ((((s.drop k).take wd).take i).foldl (fun n c => n * 256 + c.toNat) 0 = a)) (fun _ iv => wd - (intOf iv).toNat)
    case atStart => exact ⟨0, 0, Nat.zero_le _, rfl, rfl, Lib.hid rfl⟩
    case round =>
      obtain ⟨i, a, hi, rfl, rfl, ha⟩ := hrel
      by_cases hil : i < wd
      · obtain ⟨x, hx⟩ : ∃ x, s[k + i]? = some x := ⟨_, List.getElem?_eq_getElem (by rw [HL.out]; omega)⟩
        have hx2 : ((s.drop k).take wd)[i]? = some x := by rw [List.getElem?_take, if_pos hil, List.getElem?_drop]; exact hx
        have hab : a < 16777216 := by
          have h1 := load_bd ((s.drop k).take wd) i (by rw [List.length_take, List.length_drop, HL.out]; omega)
          rw [ha.out] at h1
          have h2 : 256 ^ i ≤ 256 ^ 3 := Nat.pow_le_pow_right (by decide) (by omega)
          have h3 : (256 : Nat) ^ 3 = 16777216 := by decide
          omega
        have hc : w.cell? ⟨b, off + (k + i), none⟩ = some (.int .u8 x.toNat) := HC.out (k + i) _ (by rw [bts_get, hx]; rfl)
        have hc2 : w.cell? ⟨b, off + k + i, none⟩ = some (.int .u8 x.toNat) := by rw [← hc, Nat.add_assoc]
        have HA : Hid ((((s.drop k).take wd).take (i + 1)).foldl (fun n c => n * 256 + c.toNat) 0 = a * 256 + x.toNat) := by
          refine Lib.hid ?_
          obtain ⟨hk', he'⟩ := List.getElem?_eq_some_iff.1 hx2
          rw [List.take_succ_eq_append_getElem hk', List.foldl_append, ha.out, he']; rfl
        have hxl := x.toNat_lt
        have HV : Hid (bits .or .u32 ((a : Int) * 256) (x.toNat : Int) = ((a * 256 + x.toNat : Nat) : Int)) := Lib.hid (ldv a x hab)
        clear hx hx2 ha
        go_wp2
        go_round
        case rel => exact ⟨i + 1, a * 256 + x.toNat, by omega, by go_num, congrArg (Value.int .u32) HV.out, HA⟩
        case measure => simp [intOf]; omega
      · obtain rfl : i = wd := by omega
        have e : ((s.drop k).take i).take i = (s.drop k).take i := List.take_of_length_le (by simp; omega)
        have ha' := ha.out
        rw [e] at ha'
        have HA := Lib.hid ha'
        clear e ha' ha
        go_wp2
        exact rcast (H.out) (by rw [HF.out, HA.out]; rfl)
end
end Go.Proofs.Ytogipajanbgenaa
