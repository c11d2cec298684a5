/- Scopes with any labels; filter.Run in plain words; filter.load walked. filter.Run walked. -/
import Derived.Test.YtedblbpmlbjnhaaGreatPD18
import Derived.ScopeJumps
import Derived.WalkMore
import Derived.IntWalk
import Derived.Test.YtedblbpmlbjnhaaGreatPD12
import Derived.BigQuiet
import Derived.Laws.Shifts
import Derived.Laws.BitsAllLaws
namespace Go.Proofs.YtedblbpmlbjnhaaGreat
/-! ### Scopes with any labels; filter.Run in plain words; filter.load walked. -/
section
open Go.RowKit Go.Shelf
set_option linter.unusedVariables false
set_option linter.unusedSimpArgs false
set_option maxRecDepth 100000
/-- As Q; by a goto to l: J l. -/
def Exit.jumps (J : Nat → Act → World → Prop) (Q : Exit → Act → World → Prop) : Exit → Act → World → Prop
  | .goto l, a, w => J l a w
  | e, a, w => Q e a w
theorem jumps_mono {J J' : Nat → Act → World → Prop} {Q : Exit → Act → World → Prop} (h : ∀ l a w, J l a w → J' l a w) (e : Exit) (a : Act) (w : World) (hq : Exit.jumps J Q e a w) : Exit.jumps J' Q e a w := by
  cases e with
  | goto l => exact h _ _ _ hq
  | normal => exact hq
  | exit id => exact hq
  | ret => exact hq
  | panic ch => exact hq
  | outgrown => exact hq
theorem wp_scope_many {P : Program} {a : Act} {w : World} {Q : Exit → Act → World → Prop} {c r0 : Code} (l0 : Nat) (J : Nat → Act → World → Prop) (μ : Nat → Act → World → Nat)
    (hf0 : findLabel c l0 = some (Code.skip.seq r0)) (hQ : ∀ l a w, ¬ Q (.goto l) a w)
    (first0 : Hid (∀ a w, J l0 a w → r0.wp P (Exit.jumps J Q) a w) → c.wp P (Exit.jumps J Q) a w)
    (pass0 : ∀ a w, J l0 a w → r0.wp P (Exit.jumps (fun l' a' w' => J l' a' w' ∧ μ l' a' w' < μ l0 a w) Q) a w)
    (pass : ∀ l, l ≠ l0 → ∀ a w, J l a w → ∃ r, findLabel c l = some r ∧ r.wp P (Exit.jumps (fun l' a' w' => J l' a' w' ∧ μ l' a' w' < μ l a w) Q) a w) : (Code.scope c).wp P Q a w := by
  have first := first0 (Lib.hid fun a w hJ => wp_mono (pass0 a w hJ) (jumps_mono (fun l a w h => h.1)))
  have pass' : ∀ l a w, J l a w → ∃ r, findLabel c l = some r ∧ r.wp P (Exit.jumps (fun l' a' w' => J l' a' w' ∧ μ l' a' w' < μ l a w) Q) a w := by
    intro l a w h
    by_cases hl : l = l0
    · subst hl
      exact ⟨_, hf0, wp_seq (wp_skip (pass0 a w h))⟩
    · exact pass l hl a w h
  intro b k cs
  have key : ∀ n l a w, μ l a w = n → J l a w → ∀ r, findLabel c l = some r → ∃ e a' w', Q e a' w' ∧ Arrives P (lone (b.at a (.code r :: .inScope c :: k)) cs w) b k cs e a' w' := by
    intro n
    induction n using Nat.strongRecOn with
    | _ n ih =>
      intro l a w hn hJ r hr
      obtain ⟨r', hr', hp⟩ := pass' l a w hJ
      rw [hr] at hr'; injection hr' with hr'; subst hr'
      obtain ⟨e, a₁, w₁, hq, harr⟩ := hp b (.inScope c :: k) cs
      cases e with
      | normal => exact ⟨.normal, a₁, w₁, hq, Steps.trans harr (.one step_inScope)⟩
      | exit id => exact ⟨.exit id, a₁, w₁, hq, fun k' hk => harr k' (by simp [exitTo, hk])⟩
      | goto l' =>
        obtain ⟨hJ', hlt⟩ := hq
        obtain ⟨r2, hr2, _⟩ := pass' l' a₁ w₁ hJ'
        obtain ⟨e₂, a₂, w₂, hq₂, harr₂⟩ := ih _ (by omega) l' a₁ w₁ rfl hJ' r2 hr2
        exact ⟨e₂, a₂, w₂, hq₂, .of_steps (harr _ (by simp [gotoIn, hr2])) harr₂⟩
      | ret => exact ⟨_, a₁, w₁, hq, harr⟩
      | panic ch => exact ⟨_, a₁, w₁, hq, harr⟩
      | outgrown => exact ⟨_, a₁, w₁, hq, harr⟩
  obtain ⟨e, a₁, w₁, hq, harr⟩ := first b (.inScope c :: k) cs
  cases e with
  | normal => exact ⟨.normal, a₁, w₁, hq, .head step_scope (Steps.trans harr (.one step_inScope))⟩
  | exit id => exact ⟨.exit id, a₁, w₁, hq, fun k' hk => .head step_scope (harr k' (by simp [exitTo, hk]))⟩
  | goto l' =>
    obtain ⟨r2, hr2, _⟩ := pass' l' a₁ w₁ hq
    obtain ⟨e₂, a₂, w₂, hq₂, harr₂⟩ := key _ l' a₁ w₁ rfl hq r2 hr2
    exact ⟨e₂, a₂, w₂, hq₂, .of_steps (.head step_scope (harr _ (by simp [gotoIn, hr2]))) harr₂⟩
  | ret => exact ⟨_, a₁, w₁, hq, .of_steps (.one step_scope) harr⟩
  | panic ch => exact ⟨_, a₁, w₁, hq, .of_steps (.one step_scope) harr⟩
  | outgrown => exact ⟨_, a₁, w₁, hq, .of_steps (.one step_scope) harr⟩
/-- A number of a packet. -/
def fload (s : List UInt8) (at_ wd : Nat) : Option Nat := if s.length < at_ + wd then none else some (((s.drop at_).take wd).foldl (fun n c => n * 256 + c.toNat) 0)
/-- A program on a packet: the number. -/
def frun (s : List UInt8) (p : List FOp) : Nat → Nat → Nat → Nat
  | 0, _, _ => 0
  | f + 1, i, a => match p[i]? with
    | none => 0
    | some o => if o.c = 0 ∨ o.c = 1 ∨ o.c = 2 then match fload s o.k.toNat (2 ^ o.c.toNat) with
        | none => 0
        | some v => frun s p f (i + 1) v
      else if o.c = 3 then frun s p f (i + 1) (a &&& o.k.toNat)
      else if o.c = 4 then frun s p f (i + 1) (a >>> o.k.toNat)
      else if o.c = 5 then frun s p f (i + 1 + (if (a : Int) = o.k then o.t else o.f).toNat) a
      else if o.c = 6 then frun s p f (i + 1 + (if o.k < a then o.t else o.f).toNat) a
      else if o.c = 7 then o.k.toNat
      else a
def frunP (s : List UInt8) (p : List FOp) : Nat := frun s p p.length 0 0
theorem load_bd (l : List UInt8) (k : Nat) (hk : k ≤ l.length) : (l.take k).foldl (fun n c => n * 256 + c.toNat) 0 < 256 ^ k := by
  induction k with
  | zero => simp
  | succ k ih =>
    have h1 := ih (by omega)
    rw [List.take_succ_eq_append_getElem (by omega), List.foldl_append, Nat.pow_succ]
    have := (l[k]'(by omega)).toNat_lt
    simp only [List.foldl_cons, List.foldl_nil]
    omega
theorem ldv (a : Nat) (c : UInt8) (ha : a < 16777216) : bits .or .u32 ((a : Int) * 256) (c.toNat : Int) = ((a * 256 + c.toNat : Nat) : Int) := by
  have hc := c.toNat_lt
  have e1 : (a : Int) * 256 = ((2 ^ 8 * a : Nat) : Int) := by omega
  rw [e1, u32_or_nat _ _ (by omega) (by omega), ← Nat.two_pow_add_eq_or_of_lt (by omega)]
  omega
section
variable {R : Ending → World → Prop} {w : World}
def ldV : Option Nat → Value
  | none => .tuple #[.int .u32 0, .bool false]
  | some v => .tuple #[.int .u32 v, .bool true]
set_option maxHeartbeats 2000000 in
theorem fload_any {A : Option Addr} {n c : Nat} {s : List UInt8} (hr : Rd w [] A (bts s)) (hl : s.length = n) (hc : n ≤ c) (hn : n ≤ 1000000) (k : Nat) (hk : k ≤ 4294967295) (wd : Nat) (h1 : 1 ≤ wd) (h4 : wd ≤ 4)
    (h : R (.returned (ldV (fload s k wd))) w) : Calls Tryz.prog 118 #[.slice A n c, .int .u32 k, .int .i64 wd] w R := by
  have H := Lib.hid h
  have HR := Lib.hid hr
  have HL := Lib.hid hl
  clear h hr hl
  by_cases hlt : n < k + wd
  · have HF := Lib.hid (show fload s k wd = none by unfold fload; rw [if_pos (by rw [HL.out]; exact hlt)])
    go_enter Tryz.func118, Tryz.ntmps118
    go_wp2
    exact rcast (H.out) (by rw [HF.out]; rfl)
  · obtain ⟨x0, hx0⟩ : ∃ x, s[k]? = some x := ⟨_, List.getElem?_eq_getElem (by rw [HL.out]; omega)⟩
    obtain ⟨b, off, rfl, _, hbl, hcc⟩ := HR.out (by intro e; have := congrArg List.length e; rw [bts_len, HL.out] at this; simp at this; omega)
    have HC := Lib.hid hcc
    clear hcc hx0
    have HF := Lib.hid (show fload s k wd = some (((s.drop k).take wd).foldl (fun n c => n * 256 + c.toNat) 0) by unfold fload; rw [if_neg (by rw [HL.out]; exact hlt)])
    go_enter Tryz.func118, Tryz.ntmps118
    go_wp2
    go_loop [8, 28] (fun av iv => ∃ (i a : Nat), i ≤ wd ∧ iv = .int .i64 i ∧ av = .int .u32 a ∧ Hid ((((s.drop k).take wd).take i).foldl (fun n c => n * 256 + c.toNat) 0 = a)) (fun _ iv => wd - (intOf iv).toNat)
    case atStart => exact ⟨0, 0, Nat.zero_le _, rfl, rfl, Lib.hid rfl⟩
    case round =>
      obtain ⟨i, a, hi, rfl, rfl, ha⟩ := hrel
      by_cases hil : i < wd
      · obtain ⟨x, hx⟩ : ∃ x, s[k + i]? = some x := ⟨_, List.getElem?_eq_getElem (by rw [HL.out]; omega)⟩
        have hx2 : ((s.drop k).take wd)[i]? = some x := by rw [List.getElem?_take, if_pos hil, List.getElem?_drop]; exact hx
        have hab : a < 16777216 := by
          have h1 := load_bd ((s.drop k).take wd) i (by rw [List.length_take, List.length_drop, HL.out]; omega)
          rw [ha.out] at h1
          have h2 : 256 ^ i ≤ 256 ^ 3 := Nat.pow_le_pow_right (by decide) (by omega)
          have h3 : (256 : Nat) ^ 3 = 16777216 := by decide
          omega
        have hc : w.cell? ⟨b, off + (k + i), none⟩ = some (.int .u8 x.toNat) := HC.out (k + i) _ (by rw [bts_get, hx]; rfl)
        have hc2 : w.cell? ⟨b, off + k + i, none⟩ = some (.int .u8 x.toNat) := by rw [← hc, Nat.add_assoc]
        have HA : Hid ((((s.drop k).take wd).take (i + 1)).foldl (fun n c => n * 256 + c.toNat) 0 = a * 256 + x.toNat) := by
          refine Lib.hid ?_
          obtain ⟨hk', he'⟩ := List.getElem?_eq_some_iff.1 hx2
          rw [List.take_succ_eq_append_getElem hk', List.foldl_append, ha.out, he']; rfl
        have hxl := x.toNat_lt
        have HV : Hid (bits .or .u32 ((a : Int) * 256) (x.toNat : Int) = ((a * 256 + x.toNat : Nat) : Int)) := Lib.hid (ldv a x hab)
        clear hx hx2 ha
        go_wp2
        go_round
        case rel => exact ⟨i + 1, a * 256 + x.toNat, by omega, by go_num, congrArg (Value.int .u32) HV.out, HA⟩
        case measure => simp [intOf]; omega
      · obtain rfl : i = wd := by omega
        have e : ((s.drop k).take i).take i = (s.drop k).take i := List.take_of_length_le (by simp; omega)
        have ha' := ha.out
        rw [e] at ha'
        have HA := Lib.hid ha'
        clear e ha' ha
        go_wp2
        exact rcast (H.out) (by rw [HF.out, HA.out]; rfl)
end
end
/-! ### filter.Run walked. -/
section
open Go.RowKit Go.Shelf
set_option linter.unusedVariables false
set_option linter.unusedSimpArgs false
set_option maxRecDepth 100000
theorem chk_at {p : List FOp} (h : fchk p = true) {k : Nat} {o : FOp} (hk : p[k]? = some o) :
    k < p.length ∧ 0 ≤ o.c ∧ o.c ≤ 8 ∧ 0 ≤ o.t ∧ 0 ≤ o.f ∧ ((o.c = 5 ∨ o.c = 6) → o.t ≤ (p.length : Int) - 2 - k ∧ o.f ≤ (p.length : Int) - 2 - k) ∧ (k = p.length - 1 → o.c = 7 ∨ o.c = 8) := by
  have hkl : k < p.length := (List.getElem?_eq_some_iff.1 hk).1
  unfold fchk at h
  simp only [Bool.and_eq_true, decide_eq_true_eq, Bool.not_eq_true'] at h
  obtain ⟨⟨⟨h1, h64⟩, he⟩, hb⟩ := h
  have hb' : fbadAt p k = false := by
    rw [Bool.eq_false_iff]; intro hh
    rw [List.any_eq_true.2 ⟨k, by simp [hkl], hh⟩] at hb
    cases hb
  unfold fbadAt at hb'
  rw [hk] at hb'
  simp only [fbad, Bool.or_eq_false_iff, decide_eq_false_iff_not, Bool.and_eq_false_iff, beq_eq_false_iff_ne] at hb'
  obtain ⟨a1, a2, a3, a4, a5, a6, a7⟩ := hb'
  refine ⟨hkl, by omega, by omega, by omega, by omega, fun hc => ?_, fun hl => ?_⟩
  · rcases a7 with a7 | a7
    · omega
    · omega
  · unfold fends at he
    rw [← hl, hk] at he
    simpa using he
theorem fload_bd {s : List UInt8} {k wd v : Nat} (h : fload s k wd = some v) (h4 : wd ≤ 4) : v ≤ 4294967295 := by
  unfold fload at h
  split at h
  · cases h
  · injection h with h
    have h1 := load_bd ((s.drop k).take wd) ((s.drop k).take wd).length (Nat.le_refl _)
    rw [List.take_length, h] at h1
    have h2 : ((s.drop k).take wd).length ≤ 4 := by rw [List.length_take]; omega
    have h3 : 256 ^ ((s.drop k).take wd).length ≤ 256 ^ 4 := Nat.pow_le_pow_right (by decide) h2
    have h5 : (256 : Nat) ^ 4 = 4294967296 := by decide
    omega
theorem shrv (a k : Nat) (ha : a ≤ 4294967295) : (a : Int) / 2 ^ min (k : Int).toNat 32 = ((a >>> k : Nat) : Int) := by
  rw [Nat.shiftRight_eq_div_pow, Int.toNat_natCast]
  rcases Nat.le_total k 32 with h | h
  · rw [Nat.min_eq_left h]; simp
  · rw [Nat.min_eq_right h]
    have h1 : a / 2 ^ k = 0 := Nat.div_eq_of_lt (Nat.lt_of_lt_of_le (show a < 2 ^ 32 by omega) (Nat.pow_le_pow_right (by decide) h))
    rw [h1]
    have h2 : (2 : Int) ^ 32 = 4294967296 := by decide
    rw [h2]
    omega
def frB (o : FOp) (av : Nat) : Bool := if o.c = 5 then ((av : Int) == o.k) else decide (o.k < av)
def frN (o : FOp) (b : Bool) : Nat := (if b then o.t else o.f).toNat
structure RnI (w w' : World) (bx : Nat) (o : FOp) : Prop where
  kp : Kp [] w w'
  hb : w.heap.size ≤ bx
  bk : Bk w' bx 128 o.vals
def RnJ (w : World) (v0 v1 : Value) (p : List FOp) (s : List UInt8) : Nat → Act → World → Prop
  | 0, a, w' => ∃ (bx k av f : Nat) (isv okv : Value) (o : FOp), Hid (RnI w w' bx o) ∧ k < p.length ∧ av ≤ 4294967295 ∧ p.length ≤ f + k ∧ Hid (frun s p f k av = frunP s p) ∧ (∀ C : Act → Prop, (∀ (u11 u12 u13 u14 u15 u16 u17 u18 u19 u20 u21 u22 u23 u24 u25 u26 u27 u28 u29 u30 u31 u32 u33 u34 u35 u36 u37 u38 u39 u40 u41 u42 u43 u44 u45 u46 u47 u48 u49 u50 u51 u52 u53 u54 u55 u56 u57 u58 u59 u60 u61 u62 u63 u64 u65 u66 u67 u68 u69 u70 u71 u72 u73 u74 u75 u76 u77 u78 : Value), C { tmps := #[v0, v1, undef, undef, .int .u32 0, .int .i64 0, .int .u32 av, .pointer (some ⟨bx, 0, none⟩), isv, okv, .int .i64 k, u11, u12, u13, u14, u15, u16, u17, u18, u19, u20, u21, u22, u23, u24, u25, u26, u27, u28, u29, u30, u31, u32, u33, u34, u35, u36, u37, u38, u39, u40, u41, u42, u43, u44, u45, u46, u47, u48, u49, u50, u51, u52, u53, u54, u55, u56, u57, u58, u59, u60, u61, u62, u63, u64, u65, u66, u67, u68, u69, u70, u71, u72, u73, u74, u75, u76, u77, u78], defers := [] }) → C a)
  | 1, a, w' => ∃ (bx k av f : Nat) (b : Bool) (okv : Value) (o : FOp), Hid (RnI w w' bx o) ∧ av ≤ 4294967295 ∧ 0 ≤ o.t ∧ 0 ≤ o.f ∧ k + 1 + frN o true < p.length ∧ k + 1 + frN o false < p.length ∧ p.length ≤ f + (k + 1) ∧ Hid (frun s p f (k + 1 + frN o b) av = frunP s p) ∧ (∀ C : Act → Prop, (∀ (u11 u12 u13 u14 u15 u16 u17 u18 u19 u20 u21 u22 u23 u24 u25 u26 u27 u28 u29 u30 u31 u32 u33 u34 u35 u36 u37 u38 u39 u40 u41 u42 u43 u44 u45 u46 u47 u48 u49 u50 u51 u52 u53 u54 u55 u56 u57 u58 u59 u60 u61 u62 u63 u64 u65 u66 u67 u68 u69 u70 u71 u72 u73 u74 u75 u76 u77 u78 : Value), C { tmps := #[v0, v1, undef, undef, .int .u32 0, .int .i64 0, .int .u32 av, .pointer (some ⟨bx, 0, none⟩), .bool b, okv, .int .i64 (k + 1 : Nat), u11, u12, u13, u14, u15, u16, u17, u18, u19, u20, u21, u22, u23, u24, u25, u26, u27, u28, u29, u30, u31, u32, u33, u34, u35, u36, u37, u38, u39, u40, u41, u42, u43, u44, u45, u46, u47, u48, u49, u50, u51, u52, u53, u54, u55, u56, u57, u58, u59, u60, u61, u62, u63, u64, u65, u66, u67, u68, u69, u70, u71, u72, u73, u74, u75, u76, u77, u78], defers := [] }) → C a)
  | _, _, _ => False
def RnM (n : Nat) (l : Nat) (a : Act) (w : World) : Nat := 2 * (n - (intOf (a.tmps.getD 10 undef)).toNat) + l
theorem rcast3 {C : Act → Prop} {a b : Act} (h : C a) (e : a = b) : C b := e ▸ h
section
variable {R : Ending → World → Prop} {w : World}
set_option maxHeartbeats 8000000 in
theorem frun_any {A B : Option Addr} {n c m d : Nat} {p : List FOp} {s : List UInt8} (hp : Rd w [] A (p.flatMap FOp.vals)) (hpl : p.length = n) (hok : ∀ o ∈ p, o.ok) (hchk : fchk p = true)
    (hs : Rd w [] B (bts s)) (hsl : s.length = m) (hm : m ≤ 1024) (hd : m ≤ d) (h : ∀ w', Kp [] w w' → R (.returned (.tuple #[.int .u32 (frunP s p), .int .i64 0])) w') :
    Calls Tryz.prog 58 #[.slice A n c, .slice B m d] w R := by
  have H := Lib.hid h
  have HP := Lib.hid hp
  have HPL := Lib.hid hpl
  have HOK := Lib.hid hok
  have HCK := Lib.hid hchk
  have HS := Lib.hid hs
  have HSL := Lib.hid hsl
  have hn : n ≤ 64 ∧ 1 ≤ n := by
    unfold fchk at hchk
    simp only [Bool.and_eq_true, decide_eq_true_eq] at hchk
    omega
  obtain ⟨hn, hn1⟩ := hn
  clear h hp hpl hok hchk hs hsl
  have HC : Hid (∀ (R : Ending → World → Prop) (w1 : World), Kp [] w w1 → (∀ w', Kp [] w1 w' → R (.returned (.int .i64 0)) w') → Calls Tryz.prog 97 #[.slice A n c] w1 R) := Lib.hid (fun R w1 k1 h => fcheck_any (HP.out.kp k1 (by simp)) HPL.out (by omega) HOK.out (fun w' k' => by rw [if_pos HCK.out]; exact h w' k'))
  go_enter Tryz.func58, Tryz.ntmps58
  go_wp2
  refine wp_scope_many 0 (RnJ w (.slice A n c) (.slice B m d) p s) (RnM n) rfl (fun _ _ _ h => h) ?_ ?_ ?_
  · intro core
    go_wp2_with (go_at_call 97; ((refine HC.out _ _ ((Kp.refl _ _).alloc _) ?_); intro w1 k1))
    have b1 : Bk w1 w.heap.size 128 (FOp.vals ⟨0, 0, 0, 0⟩) := (Bk.newAt rfl _ _).kp k1 (by simp)
    go_step3
    rename_i Q1 K1 hK
    refine hK _ _ (core.out _ _ ⟨w.heap.size, 0, 0, p.length, .bool false, .bool false, ⟨0, 0, 0, 0⟩, Lib.hid ⟨((Kp.refl _ _).alloc _).trans k1, Nat.le_refl _, b1⟩, by rw [HPL.out]; omega, by omega, by omega, Lib.hid rfl, fun C h => h _ _ _ _ _ _ _ _ _ _ _ _ _ _ _ _ _ _ _ _ _ _ _ _ _ _ _ _ _ _ _ _ _ _ _ _ _ _ _ _ _ _ _ _ _ _ _ _ _ _ _ _ _ _ _ _ _ _ _ _ _ _ _ _ _ _ _ _⟩)
  · rintro a' w' ⟨bx, k, av, f, isv, okv, z, hI, hk, hav, hf, hr, hfr⟩
    apply hfr
    clear hfr
    intro u11 u12 u13 u14 u15 u16 u17 u18 u19 u20 u21 u22 u23 u24 u25 u26 u27 u28 u29 u30 u31 u32 u33 u34 u35 u36 u37 u38 u39 u40 u41 u42 u43 u44 u45 u46 u47 u48 u49 u50 u51 u52 u53 u54 u55 u56 u57 u58 u59 u60 u61 u62 u63 u64 u65 u66 u67 u68 u69 u70 u71 u72 u73 u74 u75 u76 u77 u78
    obtain ⟨o, ho⟩ : ∃ o, p[k]? = some o := ⟨_, List.getElem?_eq_getElem hk⟩
    obtain ⟨g1, g2, g3, g4, g5, g6, g7⟩ := chk_at HCK.out ho
    obtain ⟨_, ok2, _, _⟩ := HOK.out o (List.mem_of_getElem? ho)
    obtain ⟨b, off, rfl, _, hbl, hc⟩ := rd_at (HP.out.kp hI.out.kp (by simp)) ovals_len (by omega) ho
    have c0 := hc 0 _ rfl
    have c1 := hc 1 _ rfl
    have c2 := hc 2 _ rfl
    have c3 := hc 3 _ rfl
    rw [Nat.add_zero] at c0
    obtain ⟨d0, d1, d2, d3⟩ := bk4 hI.out.bk
    have e0 := hI.out.bk.frozen 0
    have e1 := hI.out.bk.frozen 1
    have e2 := hI.out.bk.frozen 2
    have e3 := hI.out.bk.frozen 3
    have hpl := HPL.out
    obtain ⟨f, rfl⟩ : ∃ f', f = f' + 1 := ⟨f - 1, by omega⟩
    have hru := hr.out
    rw [frun, ho] at hru
    have HRU := Lib.hid hru
    clear hc hru hr ho
    go_upto_region 10 with (fail)
    refine gen_worldK (fun W => Hid (RnI w W bx o)) (Lib.hid ⟨(((hI.out.kp.setCell (.inr hI.out.hb) _).setCell (.inr hI.out.hb) _).setCell (.inr hI.out.hb) _).setCell (.inr hI.out.hb) _, hI.out.hb, ((((hI.out.bk.set_ 0 _).set_ 1 _).set_ 2 _).set_ 3 _).cast rfl⟩) ?_
    intro W hW
    clear c0 c1 c2 c3 d0 d1 d2 d3 e0 e1 e2 e3 hI
    have hbx := hW.out.bk.lt
    obtain ⟨d0, d1, d2, d3⟩ := bk4 hW.out.bk
    obtain ⟨oc, okk, ot, of_⟩ := o
    simp only at g2 g3 g4 g5 g6 g7 ok2 d0 d1 d2 d3
    obtain ⟨kk, rfl⟩ : ∃ kk : Nat, okk = kk := ⟨okk.toNat, by omega⟩
    have hk1 : k + 1 < p.length ∨ oc = 7 ∨ oc = 8 := by
      rcases Nat.lt_or_ge (k + 1) p.length with h | h
      · exact .inl h
      · exact .inr (g7 (by omega))
    have HG0 : Hid (∀ (a2 : Act) (W2 : World) (av2 : Nat) (av3 isv okv iv : Value), iv = .int .i64 (k + 1 : Nat) → av3 = .int .u32 av2 → k + 1 < p.length → Kp [] W W2 → av2 ≤ 4294967295 → frun s p f (k + 1) av2 = frunP s p → (∀ C : Act → Prop, (∀ (u11 u12 u13 u14 u15 u16 u17 u18 u19 u20 u21 u22 u23 u24 u25 u26 u27 u28 u29 u30 u31 u32 u33 u34 u35 u36 u37 u38 u39 u40 u41 u42 u43 u44 u45 u46 u47 u48 u49 u50 u51 u52 u53 u54 u55 u56 u57 u58 u59 u60 u61 u62 u63 u64 u65 u66 u67 u68 u69 u70 u71 u72 u73 u74 u75 u76 u77 u78 : Value), C { tmps := #[.slice (some ⟨b, off, none⟩) n c, .slice B m d, undef, undef, .int .u32 0, .int .i64 0, av3, .pointer (some ⟨bx, 0, none⟩), isv, okv, iv, u11, u12, u13, u14, u15, u16, u17, u18, u19, u20, u21, u22, u23, u24, u25, u26, u27, u28, u29, u30, u31, u32, u33, u34, u35, u36, u37, u38, u39, u40, u41, u42, u43, u44, u45, u46, u47, u48, u49, u50, u51, u52, u53, u54, u55, u56, u57, u58, u59, u60, u61, u62, u63, u64, u65, u66, u67, u68, u69, u70, u71, u72, u73, u74, u75, u76, u77, u78], defers := [] }) → C a2) → RnJ w (.slice (some ⟨b, off, none⟩) n c) (.slice B m d) p s 0 a2 W2) := Lib.hid (fun a2 W2 av2 av3 isv okv iv hiv hav3 h1 h2 h3 h4 h5 => by
      subst hiv; subst hav3
      exact ⟨bx, k + 1, av2, f, isv, okv, ⟨oc, kk, ot, of_⟩, Lib.hid ⟨hW.out.kp.trans h2, hW.out.hb, hW.out.bk.kp h2 (by simp)⟩, h1, h3, by omega, Lib.hid h4, h5⟩)
    have HG1 : Hid (∀ (a2 : Act) (W2 : World) (isb : Bool) (isv okv iv : Value), iv = .int .i64 (k + 1 : Nat) → isv = .bool isb → (oc = 5 ∨ oc = 6) → Kp [] W W2 → frun s p f (k + 1 + frN ⟨oc, kk, ot, of_⟩ isb) av = frunP s p → (∀ C : Act → Prop, (∀ (u11 u12 u13 u14 u15 u16 u17 u18 u19 u20 u21 u22 u23 u24 u25 u26 u27 u28 u29 u30 u31 u32 u33 u34 u35 u36 u37 u38 u39 u40 u41 u42 u43 u44 u45 u46 u47 u48 u49 u50 u51 u52 u53 u54 u55 u56 u57 u58 u59 u60 u61 u62 u63 u64 u65 u66 u67 u68 u69 u70 u71 u72 u73 u74 u75 u76 u77 u78 : Value), C { tmps := #[.slice (some ⟨b, off, none⟩) n c, .slice B m d, undef, undef, .int .u32 0, .int .i64 0, .int .u32 av, .pointer (some ⟨bx, 0, none⟩), isv, okv, iv, u11, u12, u13, u14, u15, u16, u17, u18, u19, u20, u21, u22, u23, u24, u25, u26, u27, u28, u29, u30, u31, u32, u33, u34, u35, u36, u37, u38, u39, u40, u41, u42, u43, u44, u45, u46, u47, u48, u49, u50, u51, u52, u53, u54, u55, u56, u57, u58, u59, u60, u61, u62, u63, u64, u65, u66, u67, u68, u69, u70, u71, u72, u73, u74, u75, u76, u77, u78], defers := [] }) → C a2) → RnJ w (.slice (some ⟨b, off, none⟩) n c) (.slice B m d) p s 1 a2 W2) := Lib.hid (fun a2 W2 isb isv okv iv hiv hisv h1 h2 h4 h5 => by
      subst hiv; subst hisv
      have h8 := g6 h1
      refine ⟨bx, k, av, f, isb, okv, ⟨oc, kk, ot, of_⟩, Lib.hid ⟨hW.out.kp.trans h2, hW.out.hb, hW.out.bk.kp h2 (by simp)⟩, hav, g4, g5, ?_, ?_, by omega, Lib.hid h4, h5⟩
      · show k + 1 + ot.toNat < _; omega
      · show k + 1 + of_.toNat < _; omega)
    have HLD : Hid (∀ (R : Ending → World → Prop) (w1 : World) (wd : Nat), Kp [] w w1 → 1 ≤ wd → wd ≤ 4 → R (.returned (ldV (fload s kk wd))) w1 → Calls Tryz.prog 118 #[.slice B m d, .int .u32 kk, .int .i64 wd] w1 R) := Lib.hid (fun R w1 wd k1 h1 h2 h => fload_any (HS.out.kp k1 (by simp)) HSL.out hd (by omega) kk (by omega) wd h1 h2 h)
    rcases (by omega : oc = 0 ∨ oc = 1 ∨ oc = 2 ∨ oc = 3 ∨ oc = 4 ∨ oc = 5 ∨ oc = 6 ∨ oc = 7 ∨ oc = 8) with rfl | rfl | rfl | rfl | rfl | rfl | rfl | rfl | rfl
    · have hru := HRU.out
      simp at hru
      clear HRU
      cases hld : fload s kk 1 with
      | none =>
        rw [hld] at hru
        have HRU : Hid (0 = frunP s p) := Lib.hid hru
        clear hru
        have HL : Hid (∀ (R : Ending → World → Prop) (w1 : World), Kp [] w w1 → R (.returned (.tuple #[.int .u32 0, .bool false])) w1 → Calls Tryz.prog 118 #[.slice B m d, .int .u32 kk, .int .i64 1] w1 R) := Lib.hid (fun R w1 k1 h => HLD.out R w1 1 k1 (by omega) (by omega) (by rw [hld]; exact h))
        clear HLD hld
        go_wp2
        go_quiet ((go_at_call 118; (exact HL.out _ _ (hW.out.kp.drewN _) ⟨rfl, _, rfl⟩)))
        go_wp2
        exact rcast (H.out _ (hW.out.kp.drewN _)) (by rw [← HRU.out]; rfl)
      | some v =>
        rw [hld] at hru
        have HRU : Hid (frun s p f (k + 1) v = frunP s p) := Lib.hid hru
        have hv := fload_bd hld (by omega)
        clear hru
        have HL : Hid (∀ (R : Ending → World → Prop) (w1 : World), Kp [] w w1 → R (.returned (.tuple #[.int .u32 v, .bool true])) w1 → Calls Tryz.prog 118 #[.slice B m d, .int .u32 kk, .int .i64 1] w1 R) := Lib.hid (fun R w1 k1 h => HLD.out R w1 1 k1 (by omega) (by omega) (by rw [hld]; exact h))
        clear HLD
        go_wp2
        go_quiet ((go_at_call 118; (exact HL.out _ _ (hW.out.kp.drewN _) ⟨rfl, _, rfl⟩)))
        go_wp2
        go_step3
        exact ⟨HG0.out _ _ v _ _ _ _ (by go_num) rfl (by omega) ((Kp.refl _ _).drewN _) hv HRU.out (fun C h => h _ _ _ _ _ _ _ _ _ _ _ _ _ _ _ _ _ _ _ _ _ _ _ _ _ _ _ _ _ _ _ _ _ _ _ _ _ _ _ _ _ _ _ _ _ _ _ _ _ _ _ _ _ _ _ _ _ _ _ _ _ _ _ _ _ _ _ _), by simp [RnM, intOf]; omega⟩
    · have hru := HRU.out
      simp at hru
      clear HRU
      cases hld : fload s kk 2 with
      | none =>
        rw [hld] at hru
        have HRU : Hid (0 = frunP s p) := Lib.hid hru
        clear hru
        have HL : Hid (∀ (R : Ending → World → Prop) (w1 : World), Kp [] w w1 → R (.returned (.tuple #[.int .u32 0, .bool false])) w1 → Calls Tryz.prog 118 #[.slice B m d, .int .u32 kk, .int .i64 2] w1 R) := Lib.hid (fun R w1 k1 h => HLD.out R w1 2 k1 (by omega) (by omega) (by rw [hld]; exact h))
        clear HLD hld
        go_wp2
        go_quiet ((go_at_call 118; (exact HL.out _ _ (hW.out.kp.drewN _) ⟨rfl, _, rfl⟩)))
        go_wp2
        exact rcast (H.out _ (hW.out.kp.drewN _)) (by rw [← HRU.out]; rfl)
      | some v =>
        rw [hld] at hru
        have HRU : Hid (frun s p f (k + 1) v = frunP s p) := Lib.hid hru
        have hv := fload_bd hld (by omega)
        clear hru
        have HL : Hid (∀ (R : Ending → World → Prop) (w1 : World), Kp [] w w1 → R (.returned (.tuple #[.int .u32 v, .bool true])) w1 → Calls Tryz.prog 118 #[.slice B m d, .int .u32 kk, .int .i64 2] w1 R) := Lib.hid (fun R w1 k1 h => HLD.out R w1 2 k1 (by omega) (by omega) (by rw [hld]; exact h))
        clear HLD
        go_wp2
        go_quiet ((go_at_call 118; (exact HL.out _ _ (hW.out.kp.drewN _) ⟨rfl, _, rfl⟩)))
        go_wp2
        go_step3
        exact ⟨HG0.out _ _ v _ _ _ _ (by go_num) rfl (by omega) ((Kp.refl _ _).drewN _) hv HRU.out (fun C h => h _ _ _ _ _ _ _ _ _ _ _ _ _ _ _ _ _ _ _ _ _ _ _ _ _ _ _ _ _ _ _ _ _ _ _ _ _ _ _ _ _ _ _ _ _ _ _ _ _ _ _ _ _ _ _ _ _ _ _ _ _ _ _ _ _ _ _ _), by simp [RnM, intOf]; omega⟩
    · have hru := HRU.out
      simp at hru
      clear HRU
      cases hld : fload s kk 4 with
      | none =>
        rw [hld] at hru
        have HRU : Hid (0 = frunP s p) := Lib.hid hru
        clear hru
        have HL : Hid (∀ (R : Ending → World → Prop) (w1 : World), Kp [] w w1 → R (.returned (.tuple #[.int .u32 0, .bool false])) w1 → Calls Tryz.prog 118 #[.slice B m d, .int .u32 kk, .int .i64 4] w1 R) := Lib.hid (fun R w1 k1 h => HLD.out R w1 4 k1 (by omega) (by omega) (by rw [hld]; exact h))
        clear HLD hld
        go_wp2
        go_quiet ((go_at_call 118; (exact HL.out _ _ (hW.out.kp.drewN _) ⟨rfl, _, rfl⟩)))
        go_wp2
        exact rcast (H.out _ (hW.out.kp.drewN _)) (by rw [← HRU.out]; rfl)
      | some v =>
        rw [hld] at hru
        have HRU : Hid (frun s p f (k + 1) v = frunP s p) := Lib.hid hru
        have hv := fload_bd hld (by omega)
        clear hru
        have HL : Hid (∀ (R : Ending → World → Prop) (w1 : World), Kp [] w w1 → R (.returned (.tuple #[.int .u32 v, .bool true])) w1 → Calls Tryz.prog 118 #[.slice B m d, .int .u32 kk, .int .i64 4] w1 R) := Lib.hid (fun R w1 k1 h => HLD.out R w1 4 k1 (by omega) (by omega) (by rw [hld]; exact h))
        clear HLD
        go_wp2
        go_quiet ((go_at_call 118; (exact HL.out _ _ (hW.out.kp.drewN _) ⟨rfl, _, rfl⟩)))
        go_wp2
        go_step3
        exact ⟨HG0.out _ _ v _ _ _ _ (by go_num) rfl (by omega) ((Kp.refl _ _).drewN _) hv HRU.out (fun C h => h _ _ _ _ _ _ _ _ _ _ _ _ _ _ _ _ _ _ _ _ _ _ _ _ _ _ _ _ _ _ _ _ _ _ _ _ _ _ _ _ _ _ _ _ _ _ _ _ _ _ _ _ _ _ _ _ _ _ _ _ _ _ _ _ _ _ _ _), by simp [RnM, intOf]; omega⟩
    · have hru := HRU.out
      simp at hru
      have HRU : Hid (frun s p f (k + 1) (av &&& kk) = frunP s p) := Lib.hid hru
      have hv : av &&& kk ≤ 4294967295 := Nat.le_trans Nat.and_le_left hav
      clear hru HLD
      go_wp2
      go_step3
      exact ⟨HG0.out _ _ (av &&& kk) _ _ _ _ (by go_num) (congrArg (Value.int .u32) (u32_and_nat av kk (by omega) (by omega))) (by omega) (Kp.refl _ _) hv HRU.out (fun C h => h _ _ _ _ _ _ _ _ _ _ _ _ _ _ _ _ _ _ _ _ _ _ _ _ _ _ _ _ _ _ _ _ _ _ _ _ _ _ _ _ _ _ _ _ _ _ _ _ _ _ _ _ _ _ _ _ _ _ _ _ _ _ _ _ _ _ _ _), by simp [RnM, intOf]; omega⟩
    · have hru := HRU.out
      simp at hru
      have HRU : Hid (frun s p f (k + 1) (av >>> kk) = frunP s p) := Lib.hid hru
      have hv : av >>> kk ≤ 4294967295 := Nat.le_trans (Nat.shiftRight_le _ _) hav
      clear hru HLD
      go_wp2
      go_step3
      exact ⟨HG0.out _ _ (av >>> kk) _ _ _ _ (by go_num) (congrArg (Value.int .u32) (shrv av kk hav)) (by omega) (Kp.refl _ _) hv HRU.out (fun C h => h _ _ _ _ _ _ _ _ _ _ _ _ _ _ _ _ _ _ _ _ _ _ _ _ _ _ _ _ _ _ _ _ _ _ _ _ _ _ _ _ _ _ _ _ _ _ _ _ _ _ _ _ _ _ _ _ _ _ _ _ _ _ _ _ _ _ _ _), by simp [RnM, intOf]; omega⟩
    · have hru := HRU.out
      simp at hru
      have HR5 : Hid (frun s p f (k + 1 + frN ⟨5, kk, ot, of_⟩ (((av : Int) == (kk : Int)))) av = frunP s p) := Lib.hid (by rw [← hru]; unfold frN; congr 3; by_cases h : (av : Int) = kk <;> simp [h])
      clear hru HRU HLD
      go_wp2
      go_step3
      exact ⟨HG1.out _ _ ((av : Int) == (kk : Int)) _ _ _ (by go_num) (by first | rfl | simp) (by simp) (Kp.refl _ _) HR5.out (fun C h => h _ _ _ _ _ _ _ _ _ _ _ _ _ _ _ _ _ _ _ _ _ _ _ _ _ _ _ _ _ _ _ _ _ _ _ _ _ _ _ _ _ _ _ _ _ _ _ _ _ _ _ _ _ _ _ _ _ _ _ _ _ _ _ _ _ _ _ _), by simp [RnM, intOf]; omega⟩
    · have hru := HRU.out
      simp at hru
      have HR5 : Hid (frun s p f (k + 1 + frN ⟨6, kk, ot, of_⟩ (decide ((kk : Int) < (av : Int)))) av = frunP s p) := Lib.hid (by rw [← hru]; unfold frN; congr 3; by_cases h : (kk : Int) < av <;> simp [h] <;> omega)
      clear hru HRU HLD
      go_wp2
      go_step3
      exact ⟨HG1.out _ _ (decide ((kk : Int) < (av : Int))) _ _ _ (by go_num) (by first | rfl | simp) (by simp) (Kp.refl _ _) HR5.out (fun C h => h _ _ _ _ _ _ _ _ _ _ _ _ _ _ _ _ _ _ _ _ _ _ _ _ _ _ _ _ _ _ _ _ _ _ _ _ _ _ _ _ _ _ _ _ _ _ _ _ _ _ _ _ _ _ _ _ _ _ _ _ _ _ _ _ _ _ _ _), by simp [RnM, intOf]; omega⟩
    · have hru := HRU.out
      simp at hru
      have HRU : Hid (kk = frunP s p) := Lib.hid hru
      clear hru HLD
      go_wp2
      exact rcast (H.out _ hW.out.kp) (by rw [← HRU.out]; rfl)
    · have hru := HRU.out
      simp at hru
      have HRU : Hid (av = frunP s p) := Lib.hid hru
      clear hru HLD
      go_wp2
      exact rcast (H.out _ hW.out.kp) (by rw [← HRU.out]; rfl)
  · intro l hl a' w' hJ
    rcases l with _ | _ | l
    · exact absurd rfl hl
    rotate_left
    · exact hJ.elim
    · show ∃ r, findLabel _ 1 = some r ∧ _
      refine ⟨_, rfl, ?_⟩
      obtain ⟨bx, k, av, f, isb, okv, o, hI, hav, g4, g5, h5, h6, hf, hr, hfr⟩ := hJ
      apply hfr
      clear hfr
      intro u11 u12 u13 u14 u15 u16 u17 u18 u19 u20 u21 u22 u23 u24 u25 u26 u27 u28 u29 u30 u31 u32 u33 u34 u35 u36 u37 u38 u39 u40 u41 u42 u43 u44 u45 u46 u47 u48 u49 u50 u51 u52 u53 u54 u55 u56 u57 u58 u59 u60 u61 u62 u63 u64 u65 u66 u67 u68 u69 u70 u71 u72 u73 u74 u75 u76 u77 u78
      obtain ⟨oc, okk, ot, of_⟩ := o
      simp only [frN, if_true, Bool.false_eq_true, if_false] at g4 g5 h5 h6 hr
      have hpl := HPL.out
      obtain ⟨d0, d1, d2, d3⟩ := bk4 hI.out.bk
      have et1 : ((k + 1 + ot.toNat : Nat) : Int) = (k : Int) + 1 + ot := by omega
      have et2 : ((k + 1 + of_.toNat : Nat) : Int) = (k : Int) + 1 + of_ := by omega
      cases isb
      · go_wp2
        go_step3
        exact ⟨⟨bx, k + 1 + of_.toNat, av, f, _, okv, _, hI, h6, hav, by omega, hr, fun C h => rcast3 (h _ _ _ _ _ _ _ _ _ _ _ _ _ _ _ _ _ _ _ _ _ _ _ _ _ _ _ _ _ _ _ _ _ _ _ _ _ _ _ _ _ _ _ _ _ _ _ _ _ _ _ _ _ _ _ _ _ _ _ _ _ _ _ _ _ _ _ _) (by rw [et2])⟩, by simp [RnM, intOf]; omega⟩
      · go_wp2
        go_step3
        exact ⟨⟨bx, k + 1 + ot.toNat, av, f, _, okv, _, hI, h5, hav, by omega, hr, fun C h => rcast3 (h _ _ _ _ _ _ _ _ _ _ _ _ _ _ _ _ _ _ _ _ _ _ _ _ _ _ _ _ _ _ _ _ _ _ _ _ _ _ _ _ _ _ _ _ _ _ _ _ _ _ _ _ _ _ _ _ _ _ _ _ _ _ _ _ _ _ _ _) (by rw [et1])⟩, by simp [RnM, intOf]; omega⟩
end
end
end Go.Proofs.YtedblbpmlbjnhaaGreat
