/- inode: the eye of a block, open, same. -/
import Derived.Test.YtnpkfhnhcadgeaaDoorIn4
import Derived.Test.YtnpkfhnhcadgeaaDoorEyeB
namespace Go.Proofs.YtnpkfhnhcadgeaaDoor
open Go.RowKit
set_option linter.unusedVariables false
set_option linter.unusedSimpArgs false
set_option maxRecDepth 100000
/-- The eye in the midst of a block; all that was there at w0 is kept; its bytes lie in blocks ahead of it. -/
structure Ey (w0 w : World) (g : Nat) (l : List UInt8) : Prop where
  k : Kp [] w0 w
  g0 : w0.heap.size ≤ g
  x : ∃ A n c, EyeR w g [] A n c l 0 ∧ ∀ b ∈ bks A, b < g
theorem takeM_ok {l : List UInt8} {k : Nat} (hk : k ≤ l.length) : takeM (l, 0) k true = (l.take k, l.drop k, 0) := by
  unfold takeM
  rw [if_neg (by simp), if_neg (by simp), if_neg (by simp; omega)]
  simp
section
variable {R : Ending → World → Prop} {w w' w0 : World} {g : Nat} {l : List UInt8}
theorem Ey.kp (h : Ey w0 w g l) (hk : Kp [] w w') : Ey w0 w' g l := by
  obtain ⟨A, n, c, he, hA⟩ := h.x
  exact ⟨h.k.trans hk, h.g0, A, n, c, he.kp hk, hA⟩
/-- Blocks behind the eye may turn. -/
theorem Ey.thn {S : List Nat} (h : Ey w0 w g l) (hk : Kp S w w') (hS : ∀ s ∈ S, g < s) : Ey w0 w' g l := by
  obtain ⟨A, n, c, he, hA⟩ := h.x
  refine ⟨h.k.thn hk (fun s hs => .inr (by have := hS s hs; have := h.g0; omega)), h.g0, A, n, c, ⟨he.bk.kp hk (fun hg => by have := hS g hg; omega), ?_, he.len, he.cap, he.max⟩, hA⟩
  intro hx
  obtain ⟨b, off, rfl, hN, hb, hc⟩ := he.rd hx
  have hbg : b < g := hA b (by simp [bks])
  refine ⟨b, off, rfl, hN, Nat.lt_of_lt_of_le hb hk.size, fun j u hu => ?_⟩
  rw [hk.cell (p := ⟨b, off + j, none⟩) hb (fun hs => by have := hS _ hs; simp at this; omega)]
  exact hc j u hu
theorem enum_any (hp : Hid (Ey w0 w g l)) (k : Nat) (hk1 : 1 ≤ k) (hk8 : k ≤ 8) (hl : k ≤ l.length) (h : ∀ w', Kp [g] w w' → Hid (Ey w0 w' g (l.drop k)) → R (.returned (.int .u64 (numB (l.take k)))) w') :
    Calls Tryd.prog 22 #[.pointer (some ⟨g, 0, none⟩), .int .i64 k] w R := by
  obtain ⟨A, n, c, he, hA⟩ := hp.out.x
  have hw : wideB (k : Int) = true := by unfold wideB; rw [decide_eq_true_iff]; omega
  refine num_anyB he k (fun A' n' c' w' hb he' hk => ?_)
  rw [hw, takeM_ok hl] at he' ⊢
  exact h w' hk (Lib.hid ⟨hp.out.k.thn hk (fun s hs => .inr (by simp at hs; subst hs; exact hp.out.g0)), hp.out.g0, A', n', c', he', fun b hb' => hA b (hb b hb')⟩)
theorem ebytes_any (hp : Hid (Ey w0 w g l)) (k : Nat) (hl : k ≤ l.length) (h : ∀ B cB w', Kp [g] w w' → Hid (Ey w0 w' g (l.drop k)) → Rd w' [] B (bts (l.take k)) → R (.returned (.slice B k cB)) w') :
    Calls Tryd.prog 21 #[.pointer (some ⟨g, 0, none⟩), .int .i64 k] w R := by
  obtain ⟨A, n, c, he, hA⟩ := hp.out.x
  have hw : decide (0 ≤ (k : Int)) = true := by simp
  refine bytes_anyB he k (fun A' n' c' B m cB w' hb he' hr hm hk => ?_)
  rw [hw, takeM_ok hl] at he' hr hm
  have hmk : m = k := by rw [← hm]; simp; omega
  subst hmk
  exact h B cB w' hk (Lib.hid ⟨hp.out.k.thn hk (fun s hs => .inr (by simp at hs; subst hs; exact hp.out.g0)), hp.out.g0, A', n', c', he', fun b hb' => hA b (hb b hb')⟩) hr
theorem enew_any {A : Option Addr} {n c : Nat} (hr : Rd w [] A (bts l)) (hl : l.length = n) (hn : n ≤ 1000000) (h : ∀ g w', Hid (Ey w w' g l) → R (.returned (.pointer (some ⟨g, 0, none⟩))) w') : Calls Tryd.prog 36 #[.slice A n c] w R := by
  have H := Lib.hid h
  clear h
  go_enter Tryd.func36, Tryd.ntmps36
  go_wp2_with (go_at_call 37; ((with_reducible refine clone_any hr hl (by omega) ?_); intro A1 c1 w1 hA1 ho1 hk1))
  exact H.out w1.heap.size _ (Lib.hid ⟨hk1.alloc _, hk1.size, A1, n, c1, ⟨Bk.newAt rfl _ _, (ho1.alloc _).rd (fun x hx hm => by have := ho1.lt x hx; simp at hm; omega), hl, ho1.ncap, hn⟩, fun b hb => ho1.lt b hb⟩)
set_option maxHeartbeats 1000000 in
/-- A sealed block. -/
theorem iopen_any {A : Option Addr} {n c : Nat} (hr : Rd w [] A (bts l)) (hl : l.length = n) (hn : n ≤ 65536) (hc : n ≤ c)
    (h0 : ∀ e w', e ≠ 0 → (n ≠ 256 → e = 50) → (n = 256 → e = 51 ∧ goodB l = false) → Kp [] w w' → R (.returned (.tuple #[.pointer none, .int .i64 e])) w')
    (h1 : n = 256 → goodB l = true → ∀ g w', Hid (Ey w w' g (l.take 254)) → R (.returned (.tuple #[.pointer (some ⟨g, 0, none⟩), .int .i64 0])) w') :
    Calls Tryd.prog 20 #[.slice A n c] w R := by
  have H0 := Lib.hid h0
  have H1 := Lib.hid h1
  obtain ⟨tg, htg⟩ : ∃ tg, goodB l = tg := ⟨_, rfl⟩
  have HG : Hid (∀ (R : Ending → World → Prop), (∀ w', Kp [] w w' → R (.returned (.bool tg)) w') → Calls Tryd.prog 35 #[.slice A n c] w R) := Lib.hid (fun R h => good_any hr hl hn (by rw [htg]; exact h))
  have HTG := Lib.hid htg
  have HR := Lib.hid hr
  have HL := Lib.hid hl
  clear h0 h1 htg
  by_cases h256 : n = 256
  · subst h256
    cases tg with
    | false =>
      go_enter Tryd.func20, Tryd.ntmps20
      go_wp2_with (go_at_call 35; ((refine HG.out _ ?_); intro w2 k2))
      exact H0.out 51 _ (by decide) (fun h => absurd rfl h) (fun _ => ⟨rfl, HTG.out⟩) k2
    | true =>
      obtain ⟨A1, hsl, hr1, _⟩ := slice_toB HR.out HL.out hc 254 (by omega)
      have HR1 := Lib.hid hr1
      have hsl2 : ∀ W, (Instr.slice 29 (.slice A 256 c) none (some (.int .i64 254)) none).run Tryd.prog W = .ok (.slice A1 254 c) W := hsl
      clear hr hr1
      go_enter Tryd.func20, Tryd.ntmps20
      go_wp2_with (first | (go_at_call 35; ((refine HG.out _ ?_); intro w2 k2)) | (go_at_call 36; ((refine enew_any (HR1.out.kp k2 (by simp)) (by rw [List.length_take, HL.out]; rfl) (by omega) ?_); intro g w3 h3)))
      exact H1.out (by simp) HTG.out g _ (Lib.hid ⟨k2.trans h3.out.k, Nat.le_trans k2.size h3.out.g0, h3.out.x⟩)
  · have hne : ((n : Int) == 256) = false := by simp; omega
    have hne2 : ((n : Int) != 256) = true := by simp; omega
    go_enter Tryd.func20, Tryd.ntmps20
    go_wp2
    exact H0.out 50 _ (by decide) (fun _ => rfl) (fun h => absurd h h256) (Kp.refl _ _)
set_option maxHeartbeats 1000000 in
theorem bequal_any {A B : Option Addr} {n c m d : Nat} {a b : List UInt8} (ha : Rd w [] A (bts a)) (hb : Rd w [] B (bts b)) (hla : a.length = n) (hlb : b.length = m) (h : R (.returned (.bool (a == b))) w) : Calls Tryd.prog 40 #[.slice A n c, .slice B m d] w R := by
  have H := Lib.hid h
  have h1 := conv_bs (c := c) ha hla
  have h2 := conv_bs (c := d) hb hlb
  clear h ha hb hla hlb
  go_enter Tryd.func40, Tryd.ntmps40
  go_wp2
  exact H.out
set_option maxHeartbeats 1000000 in
theorem same_any {A B : Option Addr} {n c m d : Nat} {a b : List UInt8} {e : Int} (ha : Rd w [] A (bts a)) (hb : Rd w [] B (bts b)) (hla : a.length = n) (hlb : b.length = m) (h : ∀ f, Hid ((f = 0 ∧ e = 0 ∧ a = b) ∨ (f = 50 ∧ ¬ (e = 0 ∧ a = b))) → R (.returned (.int .i64 f)) w) : Calls Tryd.prog 23 #[.slice A n c, .slice B m d, .int .i64 e] w R := by
  have H := Lib.hid h
  have HE : Hid (∀ (R : Ending → World → Prop), R (.returned (.bool (a == b))) w → Calls Tryd.prog 40 #[.slice A n c, .slice B m d] w R) := Lib.hid (fun R h => bequal_any ha hb hla hlb h)
  clear h ha hb hla hlb
  by_cases h0 : e = 0
  · subst h0
    cases hab : (a == b) with
    | true =>
      rw [hab] at HE
      go_enter Tryd.func23, Tryd.ntmps23
      go_wp2_with (go_at_call 40; refine HE.out _ ?_)
      exact H.out 0 (Lib.hid (.inl (by simpa using hab)))
    | false =>
      rw [hab] at HE
      go_enter Tryd.func23, Tryd.ntmps23
      go_wp2_with (go_at_call 40; refine HE.out _ ?_)
      have hne : ¬ a = b := by
        intro h2
        subst h2
        simp at hab
      exact H.out 50 (Lib.hid (.inr (by simpa using hne)))
  · have e1 : (e == 0) = false := by simpa using h0
    have e2 : (e != 0) = true := by simpa using h0
    have HN := Lib.hid h0
    clear h0
    go_enter Tryd.func23, Tryd.ntmps23
    go_wp2
    exact H.out 50 (Lib.hid (.inr ⟨rfl, fun h => HN.out h.1⟩))
end
end Go.Proofs.YtnpkfhnhcadgeaaDoor
