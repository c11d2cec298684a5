/- pantlerlaw05.Do and pantlerref05.Far. -/
import Derived.Test.YthlmfjfkkndboaaLawBlank
import Derived.Test.YthlmfjfkkndboaaOpen
import Derived.Deep.QuietTactic
import Derived.BigQuiet
namespace Go.Proofs.Ythlmfjfkkndboaa
open Go.RowKit
set_option linter.unusedVariables false
set_option linter.unusedSimpArgs false
set_option maxRecDepth 100000

/-- One of the document's calls. -/
structure Ac where
  k : Int
  e : Int
  f : Int
  o : Int
  n : Int
  s : ByteArray
def Ac.vals (a : Ac) : List Value := [.int .i64 a.k, .int .i64 a.e, .int .i64 a.f, .int .i64 a.o, .int .i64 a.n, .string a.s]
def farB (l : List Ac) : Bool := decide (150 < l.length) || l.any fun a => decide (1000 < a.s.size)
structure DoR where
  n : Int
  s : List UInt8
  e : Int
  fs : List Fr
def dDo (fs : List Fr) (a : Ac) : DoR :=
  if a.k = 0 then ⟨(tAlloc fs a.e).1, [], (tAlloc fs a.e).2.1, (tAlloc fs a.e).2.2⟩
  else if a.k = 1 then ⟨0, [], (tFree fs a.e a.f).1, (tFree fs a.e a.f).2⟩
  else if a.k = 2 then ⟨0, [], (tGive fs a.e a.f a.n).1, (tGive fs a.e a.f a.n).2⟩
  else if a.k = 3 then ⟨0, (tRead fs a.e a.f a.o a.n).2, (tRead fs a.e a.f a.o a.n).1, fs⟩
  else if a.k = 4 then ⟨0, [], (tWrite fs a.e a.f a.o a.s.data.toList).1, (tWrite fs a.e a.f a.o a.s.data.toList).2⟩
  else if a.k = 5 then ⟨0, [], (tHold fs a.e a.f).1, (tHold fs a.e a.f).2⟩
  else if a.k = 6 then ⟨0, [], (tDrop fs a.f).1, (tDrop fs a.f).2⟩
  else ⟨0, (tFetch fs a.f a.o a.n).2, (tFetch fs a.f a.o a.n).1, fs⟩

section
variable {R : Ending → World → Prop} {bT bL : Nat} {fs : List Fr} {w : World}

theorem conv_bsN {A : Option Addr} {n c : Nat} {l : List UInt8} (hr : Rd w [] A (bts l)) (hl : l.length = n) : ∀ k, (convert 44 9 (.slice A n c)).run Try.prog (w.drewN k) = .ok (.string ⟨l.toArray⟩) (w.drewN k) :=
  fun k => conv_bs (w := w.drewN k) hr hl

set_option maxHeartbeats 800000 in
theorem do_0 (hT : Tab w bT bL fs) (a : Ac) (hk : a.k = 0)
    (h : ∀ n s e fs' w', Hid (dDo fs a = ⟨n, s, e, fs'⟩) → Kp [bL] w w' → Tab w' bT bL fs' → R (.returned (.tuple #[.int .i64 n, .string ⟨s.toArray⟩, .int .i64 e])) w') :
    Calls Try.prog 12 #[.pointer (some ⟨bT, 0, none⟩), .agg #[.int .i64 a.k, .int .i64 a.e, .int .i64 a.f, .int .i64 a.o, .int .i64 a.n, .string a.s]] w R := by
  have H := Lib.hid h
  obtain ⟨k, ae, af, ao, an, s0⟩ := a
  simp only at hk
  subst hk
  clear h
  have hT1 := fun o => hT.kp (S := []) ((Kp.refl _ _).alloc o) (by simp) (by simp)
  have hK1 := fun o => (Kp.refl [bL] w).alloc o
  go_enter Try.func12, Try.ntmps12
  go_wp2_with (go_at_call 48; refine alloc_any (hT1 _) _ (fun f e fs' w1 q1 k1 t1 => ?_); have hcv := conv_bsN (w := w1) (A := none) (n := 0) (c := 0) (l := []) Rd.nil rfl)
  go_quiet (fail)
  go_wp2
  go_ret3
  exact H.out f [] e fs' _ (by simp [Hid, dDo, q1.out]) (((hK1 _).trans k1).drewN _) (t1.drewN _)


set_option maxHeartbeats 800000 in
theorem do_1 (hT : Tab w bT bL fs) (a : Ac) (hk : a.k = 1)
    (h : ∀ n s e fs' w', Hid (dDo fs a = ⟨n, s, e, fs'⟩) → Kp [bL] w w' → Tab w' bT bL fs' → R (.returned (.tuple #[.int .i64 n, .string ⟨s.toArray⟩, .int .i64 e])) w') :
    Calls Try.prog 12 #[.pointer (some ⟨bT, 0, none⟩), .agg #[.int .i64 a.k, .int .i64 a.e, .int .i64 a.f, .int .i64 a.o, .int .i64 a.n, .string a.s]] w R := by
  have H := Lib.hid h
  obtain ⟨k, ae, af, ao, an, s0⟩ := a
  simp only at hk
  subst hk
  clear h
  have hT1 := fun o => hT.kp (S := []) ((Kp.refl _ _).alloc o) (by simp) (by simp)
  have hK1 := fun o => (Kp.refl [bL] w).alloc o
  go_enter Try.func12, Try.ntmps12
  go_wp2_with (go_at_call 49; refine free_any (hT1 _) _ _ (fun e fs' w1 q1 k1 t1 => ?_); have hcv := conv_bsN (w := w1) (A := none) (n := 0) (c := 0) (l := []) Rd.nil rfl)
  go_quiet (fail)
  go_wp2
  go_ret3
  exact H.out 0 [] e fs' _ (by simp [Hid, dDo, q1.out]) (((hK1 _).trans k1).drewN _) (t1.drewN _)


set_option maxHeartbeats 800000 in
theorem do_2 (hT : Tab w bT bL fs) (a : Ac) (hk : a.k = 2)
    (h : ∀ n s e fs' w', Hid (dDo fs a = ⟨n, s, e, fs'⟩) → Kp [bL] w w' → Tab w' bT bL fs' → R (.returned (.tuple #[.int .i64 n, .string ⟨s.toArray⟩, .int .i64 e])) w') :
    Calls Try.prog 12 #[.pointer (some ⟨bT, 0, none⟩), .agg #[.int .i64 a.k, .int .i64 a.e, .int .i64 a.f, .int .i64 a.o, .int .i64 a.n, .string a.s]] w R := by
  have H := Lib.hid h
  obtain ⟨k, ae, af, ao, an, s0⟩ := a
  simp only at hk
  subst hk
  clear h
  have hT1 := fun o => hT.kp (S := []) ((Kp.refl _ _).alloc o) (by simp) (by simp)
  have hK1 := fun o => (Kp.refl [bL] w).alloc o
  go_enter Try.func12, Try.ntmps12
  go_wp2_with (go_at_call 50; refine give_any (hT1 _) _ _ _ (fun e fs' w1 q1 k1 t1 => ?_); have hcv := conv_bsN (w := w1) (A := none) (n := 0) (c := 0) (l := []) Rd.nil rfl)
  go_quiet (fail)
  go_wp2
  go_ret3
  exact H.out 0 [] e fs' _ (by simp [Hid, dDo, q1.out]) (((hK1 _).trans k1).drewN _) (t1.drewN _)


set_option maxHeartbeats 800000 in
theorem do_3 (hT : Tab w bT bL fs) (a : Ac) (hk : a.k = 3)
    (h : ∀ n s e fs' w', Hid (dDo fs a = ⟨n, s, e, fs'⟩) → Kp [bL] w w' → Tab w' bT bL fs' → R (.returned (.tuple #[.int .i64 n, .string ⟨s.toArray⟩, .int .i64 e])) w') :
    Calls Try.prog 12 #[.pointer (some ⟨bT, 0, none⟩), .agg #[.int .i64 a.k, .int .i64 a.e, .int .i64 a.f, .int .i64 a.o, .int .i64 a.n, .string a.s]] w R := by
  have H := Lib.hid h
  obtain ⟨k, ae, af, ao, an, s0⟩ := a
  simp only at hk
  subst hk
  clear h
  have hT1 := fun o => hT.kp (S := []) ((Kp.refl _ _).alloc o) (by simp) (by simp)
  have hK1 := fun o => (Kp.refl [bL] w).alloc o
  go_enter Try.func12, Try.ntmps12
  go_wp2_with (go_at_call 34; refine read_any (hT1 _) _ _ _ _ (fun e l A c w1 q1 k1 o1 b1 => ?_); have hcv := conv_bsN (w := w1) (A := A) (n := l.length) (c := c) (l := l) (o1.rd (by simp)) rfl)
  go_quiet (fail)
  go_wp2
  go_ret3
  exact H.out 0 l e fs _ (by simp [Hid, dDo, q1.out]) (((hK1 _).trans (k1.mono (by simp))).drewN _) (((hT1 _).kp k1 (by simp) (by simp)).drewN _)


set_option maxHeartbeats 800000 in
theorem do_4 (hT : Tab w bT bL fs) (a : Ac) (hk : a.k = 4) (hsz : a.s.size ≤ 1000)
    (h : ∀ n s e fs' w', Hid (dDo fs a = ⟨n, s, e, fs'⟩) → Kp [bL] w w' → Tab w' bT bL fs' → R (.returned (.tuple #[.int .i64 n, .string ⟨s.toArray⟩, .int .i64 e])) w') :
    Calls Try.prog 12 #[.pointer (some ⟨bT, 0, none⟩), .agg #[.int .i64 a.k, .int .i64 a.e, .int .i64 a.f, .int .i64 a.o, .int .i64 a.n, .string a.s]] w R := by
  have H := Lib.hid h
  obtain ⟨k, ae, af, ao, an, s0⟩ := a
  simp only at hk
  subst hk
  clear h
  have hT1 := fun o => hT.kp (S := []) ((Kp.refl _ _).alloc o) (by simp) (by simp)
  have hK1 := fun o => (Kp.refl [bL] w).alloc o
  have hcs := fun o => conv_sb (w.alloc o) s0
  simp only at hsz
  go_enter Try.func12, Try.ntmps12
  go_wp2_with fail
  refine write_any (l := s0.data.toList) (n := s0.size) ((hT1 _).kp (S := []) ((Kp.refl _ _).bytesWorld _ _) (by simp) (by simp)) _ _ _ (rd_bytesWorld (N := [bL]) (w.alloc _) _ s0 (by simp) (fun hm => by have := hT.l.lt; simp at hm; omega)) (by simp) (by omega) (fun hm => by cases hm) (fun e fs' w1 q1 k1 t1 => ?_)
  clear hcs
  have hcv := conv_bsN (w := w1) (A := none) (n := 0) (c := 0) (l := []) Rd.nil rfl
  go_wp2_with fail
  go_quiet (fail)
  go_wp2
  go_ret3
  exact H.out 0 [] e fs' _ (by simp [Hid, dDo, q1.out]) ((((hK1 _).bytesWorld _ _).trans k1).drewN _) (t1.drewN _)


set_option maxHeartbeats 800000 in
theorem do_5 (hT : Tab w bT bL fs) (a : Ac) (hk : a.k = 5) (hb : ∀ f x, fat fs f = some x → -1000000000 ≤ x.ho ∧ x.ho ≤ 1000000000)
    (h : ∀ n s e fs' w', Hid (dDo fs a = ⟨n, s, e, fs'⟩) → Kp [bL] w w' → Tab w' bT bL fs' → R (.returned (.tuple #[.int .i64 n, .string ⟨s.toArray⟩, .int .i64 e])) w') :
    Calls Try.prog 12 #[.pointer (some ⟨bT, 0, none⟩), .agg #[.int .i64 a.k, .int .i64 a.e, .int .i64 a.f, .int .i64 a.o, .int .i64 a.n, .string a.s]] w R := by
  have H := Lib.hid h
  obtain ⟨k, ae, af, ao, an, s0⟩ := a
  simp only at hk
  subst hk
  clear h
  have hT1 := fun o => hT.kp (S := []) ((Kp.refl _ _).alloc o) (by simp) (by simp)
  have hK1 := fun o => (Kp.refl [bL] w).alloc o
  go_enter Try.func12, Try.ntmps12
  go_wp2_with (go_at_call 52; refine hold_any (hT1 _) _ _ (hb _) (fun e fs' w1 q1 k1 t1 => ?_); have hcv := conv_bsN (w := w1) (A := none) (n := 0) (c := 0) (l := []) Rd.nil rfl)
  go_quiet (fail)
  go_wp2
  go_ret3
  exact H.out 0 [] e fs' _ (by simp [Hid, dDo, q1.out]) (((hK1 _).trans k1).drewN _) (t1.drewN _)


set_option maxHeartbeats 800000 in
theorem do_6 (hT : Tab w bT bL fs) (a : Ac) (hk : a.k = 6) (hb : ∀ f x, fat fs f = some x → -1000000000 ≤ x.ho ∧ x.ho ≤ 1000000000)
    (h : ∀ n s e fs' w', Hid (dDo fs a = ⟨n, s, e, fs'⟩) → Kp [bL] w w' → Tab w' bT bL fs' → R (.returned (.tuple #[.int .i64 n, .string ⟨s.toArray⟩, .int .i64 e])) w') :
    Calls Try.prog 12 #[.pointer (some ⟨bT, 0, none⟩), .agg #[.int .i64 a.k, .int .i64 a.e, .int .i64 a.f, .int .i64 a.o, .int .i64 a.n, .string a.s]] w R := by
  have H := Lib.hid h
  obtain ⟨k, ae, af, ao, an, s0⟩ := a
  simp only at hk
  subst hk
  clear h
  have hT1 := fun o => hT.kp (S := []) ((Kp.refl _ _).alloc o) (by simp) (by simp)
  have hK1 := fun o => (Kp.refl [bL] w).alloc o
  go_enter Try.func12, Try.ntmps12
  go_wp2_with (go_at_call 53; refine drop_any (hT1 _) _ (hb _) (fun e fs' w1 q1 k1 t1 => ?_); have hcv := conv_bsN (w := w1) (A := none) (n := 0) (c := 0) (l := []) Rd.nil rfl)
  go_quiet (fail)
  go_wp2
  go_ret3
  exact H.out 0 [] e fs' _ (by simp [Hid, dDo, q1.out]) (((hK1 _).trans k1).drewN _) (t1.drewN _)


set_option maxHeartbeats 800000 in
theorem do_7 (hT : Tab w bT bL fs) (a : Ac) (hk : a.k < 0 ∨ 6 < a.k)
    (h : ∀ n s e fs' w', Hid (dDo fs a = ⟨n, s, e, fs'⟩) → Kp [bL] w w' → Tab w' bT bL fs' → R (.returned (.tuple #[.int .i64 n, .string ⟨s.toArray⟩, .int .i64 e])) w') :
    Calls Try.prog 12 #[.pointer (some ⟨bT, 0, none⟩), .agg #[.int .i64 a.k, .int .i64 a.e, .int .i64 a.f, .int .i64 a.o, .int .i64 a.n, .string a.s]] w R := by
  have H := Lib.hid h
  obtain ⟨k, ae, af, ao, an, s0⟩ := a
  simp only at hk
  have hk7 := hk
  clear h
  have hT1 := fun o => hT.kp (S := []) ((Kp.refl _ _).alloc o) (by simp) (by simp)
  have hK1 := fun o => (Kp.refl [bL] w).alloc o
  rcases hk with hk | hk
  all_goals
    go_enter Try.func12, Try.ntmps12
    go_wp2_with (go_at_call 54; refine fetch_any (hT1 _) _ _ _ (fun e l A c w1 q1 k1 o1 b1 => ?_); have hcv := conv_bsN (w := w1) (A := A) (n := l.length) (c := c) (l := l) (o1.rd (by simp)) rfl)
    go_quiet (fail)
    go_wp2
    go_ret3
    refine H.out 0 l e fs _ (Lib.hid ?_) (((hK1 _).trans (k1.mono (by simp))).drewN _) (((hT1 _).kp k1 (by simp) (by simp)).drewN _)
    unfold dDo
    simp only [q1.out]
    repeat' rw [if_neg (by omega)]



theorem do_any (hT : Tab w bT bL fs) (a : Ac) (hsz : a.s.size ≤ 1000) (hb : ∀ f x, fat fs f = some x → -1000000000 ≤ x.ho ∧ x.ho ≤ 1000000000)
    (h : ∀ n s e fs' w', Hid (dDo fs a = ⟨n, s, e, fs'⟩) → Kp [bL] w w' → Tab w' bT bL fs' → R (.returned (.tuple #[.int .i64 n, .string ⟨s.toArray⟩, .int .i64 e])) w') :
    Calls Try.prog 12 #[.pointer (some ⟨bT, 0, none⟩), .agg #[.int .i64 a.k, .int .i64 a.e, .int .i64 a.f, .int .i64 a.o, .int .i64 a.n, .string a.s]] w R := by
  by_cases h0 : a.k = 0
  · exact do_0 hT a h0 h
  by_cases h1 : a.k = 1
  · exact do_1 hT a h1 h
  by_cases h2 : a.k = 2
  · exact do_2 hT a h2 h
  by_cases h3 : a.k = 3
  · exact do_3 hT a h3 h
  by_cases h4 : a.k = 4
  · exact do_4 hT a h4 hsz h
  by_cases h5 : a.k = 5
  · exact do_5 hT a h5 hb h
  by_cases h6 : a.k = 6
  · exact do_6 hT a h6 hb h
  exact do_7 hT a (by omega) h
end


/-! ### calls that came in, opened -/
section
open Go.ChangeShapes Go.WideShapes Go.ChangeAt Go.RowKit Go.Deep
variable {H : Type} {enc : TypeId × Value → H} {W : World}
theorem opn_act : Opn enc Try.prog W 33 Ac.vals (fun a => a.s.size ≤ maxLen) := ⟨fun fuel cs x h => by
  obtain ⟨xs, n, _, _, hlen, hxl, hg⟩ := DataW.trod_struct Try.underlying33 h
  have hK : Try.prog.cellsOf 33 = 6 := by kernel_rfl
  have hI : Try.prog.cellsOf 3 = 1 := by kernel_rfl
  have hS : Try.prog.cellsOf 9 = 1 := by kernel_rfl
  rw [hK] at hlen
  match cs, hlen with
  | [c0, c1, c2, c3, c4, c5], _ =>
    obtain ⟨m0, rfl, _⟩ := fld_int hg hxl 0 rfl hI Try.underlying3 rfl
    obtain ⟨m1, rfl, _⟩ := fld_int hg hxl 1 rfl hI Try.underlying3 rfl
    obtain ⟨m2, rfl, _⟩ := fld_int hg hxl 2 rfl hI Try.underlying3 rfl
    obtain ⟨m3, rfl, _⟩ := fld_int hg hxl 3 rfl hI Try.underlying3 rfl
    obtain ⟨m4, rfl, _⟩ := fld_int hg hxl 4 rfl hI Try.underlying3 rfl
    obtain ⟨m5, rfl, hm⟩ := fld_string hg hxl 5 rfl hS Try.underlying9 rfl
    exact ⟨⟨m0, m1, m2, m3, m4, m5⟩, rfl, hm⟩⟩
theorem opn_acts : Opn enc Try.prog W 22 (Sin.vals (α := Ac)) (Sin.ok W Ac.vals fun a => a.s.size ≤ maxLen) :=
  opn_slice (K := 6) Try.underlying22 (by kernel_rfl) (fun _ => rfl) opn_act
theorem acts_ok {s : Sin Ac} (h : s.ok W Ac.vals fun a => a.s.size ≤ maxLen) : s.ok W Ac.vals fun a => a.s.size ≤ 9223372036854775807 :=
  ⟨h.len, h.cap, h.max, fun a ha => by have := h.all a ha; unfold maxLen at this; omega, h.rd, h.nil⟩
end
end Go.Proofs.Ythlmfjfkkndboaa
