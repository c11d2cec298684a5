/- lex.Line: a scope with a label behind and one ahead. -/
import Derived.Test.YtjjigngighneeaaDoorLineP
import Derived.Test.YtjjigngighneeaaDoorGoto
import Derived.Test.YtjjigngighneeaaDoorQuiet
import Derived.Test.YtjjigngighneeaaDoorOpen
import Derived.BigQuiet
import Derived.IntWalk
namespace Go.Proofs.YtjjigngighneeaaDoor
open Go.RowKit
set_option linter.unusedVariables false
set_option linter.unusedSimpArgs false
set_option maxRecDepth 100000

/-- As Q; by a goto to l0: J; by a goto to l1: K. -/
def Exit.jump2 (l0 l1 : Nat) (J K : Act → World → Prop) (Q : Exit → Act → World → Prop) : Exit → Act → World → Prop
  | .goto l', a, w => (l' = l0 ∧ J a w) ∨ (l' = l1 ∧ K a w)
  | e, a, w => Q e a w
theorem wp_scope_two {P : Program} {a : Act} {w : World} {Q : Exit → Act → World → Prop} {c r0 r1 : Code} (l0 l1 : Nat) (J : Act → World → Prop) (μ : Act → World → Nat)
    (hf0 : findLabel c l0 = some (Code.skip.seq r0)) (hf1 : findLabel c l1 = some r1) (hQ : ∀ l a w, ¬ Q (.goto l) a w)
    (first0 : Hid (∀ a w, J a w → r0.wp P (Exit.jump2 l0 l1 J (fun a w => r1.wp P Q a w) Q) a w) → c.wp P (Exit.jump2 l0 l1 J (fun a w => r1.wp P Q a w) Q) a w)
    (pass0 : ∀ a w, J a w → r0.wp P (Exit.jump2 l0 l1 (fun a' w' => J a' w' ∧ μ a' w' < μ a w) (fun a w => r1.wp P Q a w) Q) a w) : (Code.scope c).wp P Q a w := by
  have first := first0 (Lib.hid fun a w hJ => wp_mono (pass0 a w hJ) (fun e a' w' hq => by
    cases e with
    | goto l' => exact hq.imp (fun h => ⟨h.1, h.2.1⟩) id
    | normal => exact hq
    | exit id => exact hq
    | ret => exact hq
    | panic ch => exact hq
    | outgrown => exact hq))
  have pass : ∀ a w, J a w → (Code.skip.seq r0).wp P (Exit.jump2 l0 l1 (fun a' w' => J a' w' ∧ μ a' w' < μ a w) (fun a w => r1.wp P Q a w) Q) a w := fun a w hJ => wp_seq (wp_skip (pass0 a w hJ))
  intro b k cs
  have hg0 : gotoIn l0 (.inScope c :: k) = some (.code (Code.skip.seq r0) :: .inScope c :: k) := by simp [gotoIn, hf0]
  have hg1 : gotoIn l1 (.inScope c :: k) = some (.code r1 :: .inScope c :: k) := by simp [gotoIn, hf1]
  have fin : ∀ a w, r1.wp P Q a w → ∃ e a' w', Q e a' w' ∧ Arrives P (lone (b.at a (.code r1 :: .inScope c :: k)) cs w) b k cs e a' w' := by
    intro a w h
    obtain ⟨e, a₁, w₁, hq, harr⟩ := h b (.inScope c :: k) cs
    cases e with
    | normal => exact ⟨.normal, a₁, w₁, hq, Steps.trans harr (.one step_inScope)⟩
    | exit id => exact ⟨.exit id, a₁, w₁, hq, fun k' hk => harr k' (by simp [exitTo, hk])⟩
    | goto l' => exact absurd hq (hQ _ _ _)
    | ret => exact ⟨_, a₁, w₁, hq, harr⟩
    | panic ch => exact ⟨_, a₁, w₁, hq, harr⟩
    | outgrown => exact ⟨_, a₁, w₁, hq, harr⟩
  have key : ∀ n a w, μ a w = n → J a w → ∃ e a' w', Q e a' w' ∧ Arrives P (lone (b.at a (.code (Code.skip.seq r0) :: .inScope c :: k)) cs w) b k cs e a' w' := by
    intro n
    induction n using Nat.strongRecOn with
    | _ n ih =>
      intro a w hn hJ
      obtain ⟨e, a₁, w₁, hq, harr⟩ := pass a w hJ b (.inScope c :: k) cs
      cases e with
      | normal => exact ⟨.normal, a₁, w₁, hq, Steps.trans harr (.one step_inScope)⟩
      | exit id => exact ⟨.exit id, a₁, w₁, hq, fun k' hk => harr k' (by simp [exitTo, hk])⟩
      | goto l' =>
        rcases hq with ⟨rfl, hJ', hlt⟩ | ⟨rfl, hK⟩
        · obtain ⟨e₂, a₂, w₂, hq₂, harr₂⟩ := ih _ (by omega) a₁ w₁ rfl hJ'
          exact ⟨e₂, a₂, w₂, hq₂, .of_steps (harr _ hg0) harr₂⟩
        · obtain ⟨e₂, a₂, w₂, hq₂, harr₂⟩ := fin a₁ w₁ hK
          exact ⟨e₂, a₂, w₂, hq₂, .of_steps (harr _ hg1) harr₂⟩
      | ret => exact ⟨_, a₁, w₁, hq, harr⟩
      | panic ch => exact ⟨_, a₁, w₁, hq, harr⟩
      | outgrown => exact ⟨_, a₁, w₁, hq, harr⟩
  obtain ⟨e, a₁, w₁, hq, harr⟩ := first b (.inScope c :: k) cs
  cases e with
  | normal => exact ⟨.normal, a₁, w₁, hq, .head step_scope (Steps.trans harr (.one step_inScope))⟩
  | exit id => exact ⟨.exit id, a₁, w₁, hq, fun k' hk => .head step_scope (harr k' (by simp [exitTo, hk]))⟩
  | goto l' =>
    rcases hq with ⟨rfl, hJ'⟩ | ⟨rfl, hK⟩
    · obtain ⟨e₂, a₂, w₂, hq₂, harr₂⟩ := key _ a₁ w₁ rfl hJ'
      exact ⟨e₂, a₂, w₂, hq₂, .of_steps (.head step_scope (harr _ hg0)) harr₂⟩
    · obtain ⟨e₂, a₂, w₂, hq₂, harr₂⟩ := fin a₁ w₁ hK
      exact ⟨e₂, a₂, w₂, hq₂, .of_steps (.head step_scope (harr _ hg1)) harr₂⟩
  | ret => exact ⟨_, a₁, w₁, hq, .of_steps (.one step_scope) harr⟩
  | panic ch => exact ⟨_, a₁, w₁, hq, .of_steps (.one step_scope) harr⟩
  | outgrown => exact ⟨_, a₁, w₁, hq, .of_steps (.one step_scope) harr⟩
/-- The frame at the label: the place k, ahead of which neither byte stands. -/
def LineJ (s : List UInt8) (w : World) (a : Act) (w' : World) : Prop :=
  w' = w ∧ ∃ k : Nat, k ≤ s.length ∧ (∀ c ∈ s.take k, c ≠ 10 ∧ c ≠ 13) ∧ ∃ (u7 u8 u9 u10 u11 u12 u13 u14 u15 u16 u17 u18 u19 u20 u21 u22 u23 u24 u25 u26 u27 u28 u29 u30 u31 u32 u33 u34 u35 u36 u37 u38 : Value), a = { tmps := #[.string (S s), undef, .string ⟨#[]⟩, .string ⟨#[]⟩, .bool false, .int .i64 0, .int .i64 k, u7, u8, u9, u10, u11, u12, u13, u14, u15, u16, u17, u18, u19, u20, u21, u22, u23, u24, u25, u26, u27, u28, u29, u30, u31, u32, u33, u34, u35, u36, u37, u38], defers := [] }
theorem line_at {s : List UInt8} {k : Nat} (h : ∀ c ∈ s.take k, c ≠ 10 ∧ c ≠ 13) : lineL s = preR (s.take k) (lineL (s.drop k)) := by
  conv => lhs; rw [← List.take_append_drop k s]
  exact lineL_pre _ _ h
theorem pre_nil {p : List UInt8} {s : List UInt8} {k : Nat} (hp : p = s.take k) (hk : k ≤ s.length) : True := trivial
theorem u8_ne {x : UInt8} {n : Nat} (hn : n < 256) (h : x.toNat ≠ n) : x ≠ UInt8.ofNat n := by
  rintro rfl; simp at h; omega
set_option maxHeartbeats 4000000 in
theorem line_any {R : Ending → World → Prop} (s : List UInt8) (w : World) (hs : s.length ≤ 1000000) (h : ∀ w', Kp [] w w' → R (.returned (lineV s (lineL s))) w') : Calls Tryd.prog 72 #[.string (S s)] w R := by
  have H := Lib.hid h
  clear h
  go_enter Tryd.func72, Tryd.ntmps72
  go_wp2
  refine wp_scope_two 0 1 (LineJ s w) (fun a' _ => s.length - (intOf (a'.tmps.getD 6 undef)).toNat) rfl rfl (fun _ _ _ h => h) ?_ ?_
  · intro core
    go_wp2
    go_step3
    rename_i Q1 K1 hK
    refine hK _ _ (core.out _ _ ⟨rfl, 0, Nat.zero_le _, by simp, ⟨_, _, _, _, _, _, _, _, _, _, _, _, _, _, _, _, _, _, _, _, _, _, _, _, _, _, _, _, _, _, _, _, rfl⟩⟩)
  · rintro a' w' ⟨rfl, k, hk, hq, u7, u8, u9, u10, u11, u12, u13, u14, u15, u16, u17, u18, u19, u20, u21, u22, u23, u24, u25, u26, u27, u28, u29, u30, u31, u32, u33, u34, u35, u36, u37, u38, rfl⟩
    have HQ := Lib.hid hq
    clear hq
    have hsz : (S s).size = s.length := S_size s
    clear hsz
    by_cases hlt : k < s.length
    · obtain ⟨x, hx⟩ : ∃ x, s[k]'hlt = x := ⟨_, rfl⟩
      have hxl := x.toNat_lt
      have hd : s.drop k = x :: s.drop (k + 1) := by rw [List.drop_eq_getElem_cons hlt, hx]
      have HD := Lib.hid hd
      clear hd
      by_cases h10 : x.toNat = 10
      · have e10 : ((x.toNat : Int) == 10) = true := by simp [h10]
        have HL : Hid (lineL s = .wrong) := Lib.hid (by
          rw [line_at HQ.out, HD.out, lineL, if_pos (UInt8.toNat_inj.1 h10)]; rfl)
        clear h10
        go_wp2
        go_step3
        refine .inr ⟨rfl, ?_⟩
        go_wp2
        exact bodyPost_ret (v := lineV s .wrong) (by simp [results, Tryd.results72, go_sem]; rfl) rfl (HL.out ▸ H.out _ (Kp.refl _ _))
      · have e10 : ((x.toNat : Int) == 10) = false := by simp; omega
        by_cases h13 : x.toNat = 13
        · have e13 : ((x.toNat : Int) == 13) = true := by simp [h13]
          have HL0 : Hid (lineL s = preR (s.take k) (crR (s.drop (k + 1)))) := Lib.hid (by
            rw [line_at HQ.out, HD.out, lineL, if_neg (fun h => by subst h; exact h10 rfl), if_pos (UInt8.toNat_inj.1 h13)])
          clear h13 h10
          by_cases hl2 : k + 1 = s.length
          · have HL : Hid (lineL s = .more) := Lib.hid (by
              rw [HL0.out, List.drop_eq_nil_of_le (by omega)]; rfl)
            have e2 : ((k : Int) + 1 == (s.length : Int)) = true := by simp; omega
            clear hl2
            go_wp2
            exact bodyPost_ret (v := lineV s .more) (by simp [results, Tryd.results72, go_sem]; rfl) rfl (HL.out ▸ H.out _ (Kp.refl _ _))
          · have hlt2 : k + 1 < s.length := by omega
            have e2 : ((k : Int) + 1 == (s.length : Int)) = false := by simp; omega
            obtain ⟨y, hy⟩ : ∃ y, s[k + 1]'hlt2 = y := ⟨_, rfl⟩
            have hyl := y.toNat_lt
            have HD2 := Lib.hid (show s.drop (k + 1) = y :: s.drop (k + 2) by rw [List.drop_eq_getElem_cons hlt2, hy])
            have et : ((k : Int) + 1).toNat = k + 1 := by omega
            by_cases hy10 : y.toNat = 10
            · have ey : ((y.toNat : Int) == 10) = true := by simp [hy10]
              have HL : Hid (lineL s = .got (s.take k) (s.drop (k + 2))) := Lib.hid (by
                rw [HL0.out, HD2.out, crR, if_pos (UInt8.toNat_inj.1 hy10), preR, List.append_nil])
              clear hy10 hl2
              have hw2 : IntKind.i64.wrap ((k : Int) + 2) = (k : Int) + 2 := IntWalk.i64_in _ (by omega)
              have ht2 : ((k : Int) + 2).toNat = k + 2 := by omega
              have htk : (s.drop (k + 2)).take (s.length - (k + 2)) = s.drop (k + 2) := List.take_of_length_le (by simp)
              go_wp2
              go_quiet (fail)
              go_wp2
              exact bodyPost_ret (v := lineV s (.got (s.take k) (s.drop (k + 2)))) (by simp [results, Tryd.results72, go_sem, lineV]) rfl (HL.out ▸ H.out _ ((Kp.refl _ _).drewN _))
            · have ey : ((y.toNat : Int) == 10) = false := by simp; omega
              have HL : Hid (lineL s = .wrong) := Lib.hid (by
                rw [HL0.out, HD2.out, crR, if_neg (fun h => by subst h; exact hy10 rfl), preR])
              clear hy10 hl2
              go_wp2
              go_step3
              refine .inr ⟨rfl, ?_⟩
              go_wp2
              exact bodyPost_ret (v := lineV s .wrong) (by simp [results, Tryd.results72, go_sem]; rfl) rfl (HL.out ▸ H.out _ (Kp.refl _ _))
        · have e13 : ((x.toNat : Int) == 13) = false := by simp; omega
          have HQ2 : Hid (∀ c ∈ s.take (k + 1), c ≠ 10 ∧ c ≠ 13) := Lib.hid (fun c hc => by
            rw [List.take_succ_eq_append_getElem hlt, hx] at hc
            rcases List.mem_append.1 hc with hc | hc
            · exact HQ.out c hc
            · simp at hc; subst hc
              exact ⟨fun h => by subst h; exact h10 rfl, fun h => by subst h; exact h13 rfl⟩)
          clear h10 h13
          go_wp2
          go_step3
          exact .inl ⟨rfl, ⟨rfl, k + 1, by omega, HQ2.out, ⟨_, _, _, _, _, _, _, _, _, _, _, _, _, _, _, _, _, _, _, _, _, _, _, _, _, _, _, _, _, _, _, _, rfl⟩⟩, by simp [intOf]; omega⟩
    · have HL : Hid (lineL s = .more) := Lib.hid (by
        rw [line_at HQ.out, List.drop_eq_nil_of_le (by omega)]; rfl)
      have e2 : ((k : Int) == (s.length : Int)) = true := by simp; omega
      go_wp2
      exact bodyPost_ret (v := lineV s .more) (by simp [results, Tryd.results72, go_sem]; rfl) rfl (HL.out ▸ H.out _ (Kp.refl _ _))
end Go.Proofs.YtjjigngighneeaaDoor
