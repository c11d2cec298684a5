/- Package gather: pieces, their size, what may be, cuts. -/
import Derived.Test.YthlmfjfkkndboaaOpen
import Derived.Test.YthlmfjfkkndboaaBytes
namespace Go.Proofs.Ythlmfjfkkndboaa
open Go.RowKit
set_option linter.unusedVariables false
set_option linter.unusedSimpArgs false
set_option maxRecDepth 100000

/-- A piece. -/
structure Pc where
  f : Int
  o : Int
  n : Int
def Pc.vals (p : Pc) : List Value := [.int .i64 p.f, .int .i64 p.o, .int .i64 p.n]
theorem pvals_len (p : Pc) : p.vals.length = 3 := rfl
theorem pvals_one (p : Pc) : ∀ u ∈ p.vals, u.oneCell' = true := by intro u hu; simp [Pc.vals] at hu; rcases hu with rfl | rfl | rfl <;> rfl
/-- Numbers that an int has. -/
def Pc.ok (p : Pc) : Prop := (-9223372036854775808 ≤ p.f ∧ p.f ≤ 9223372036854775807) ∧ (-9223372036854775808 ≤ p.o ∧ p.o ≤ 9223372036854775807) ∧ (-9223372036854775808 ≤ p.n ∧ p.n ≤ 9223372036854775807)
def wB (p : Pc) : Bool := decide (0 ≤ p.o ∧ 0 ≤ p.n ∧ p.o + p.n ≤ 256)
def pszF (n : Int) (p : Pc) : Int := if 0 < p.n then n + min p.n (1048576 - n) else n
def psz (l : List Pc) : Int := l.foldl pszF 0
theorem pszF_bd {n : Int} {p : Pc} (h0 : 0 ≤ n) (h1 : n ≤ 1048576) : 0 ≤ pszF n p ∧ pszF n p ≤ 1048576 ∧ n ≤ pszF n p := by
  unfold pszF; split <;> omega
theorem psz_from {l : List Pc} : ∀ {n : Int}, 0 ≤ n → n ≤ 1048576 → 0 ≤ l.foldl pszF n ∧ l.foldl pszF n ≤ 1048576 ∧ n ≤ l.foldl pszF n := by
  induction l with
  | nil => intro n h0 h1; simp; omega
  | cons p l ih => intro n h0 h1; have := @pszF_bd n p h0 h1; have := ih (n := pszF n p) (by omega) (by omega); simp only [List.foldl_cons]; omega
theorem psz_bd (l : List Pc) : 0 ≤ psz l ∧ psz l ≤ 1048576 := by have := @psz_from l 0 (by omega) (by omega); unfold psz; omega
theorem foldl_snoc {α β : Type} {f : β → α → β} {b : β} {l : List α} {k : Nat} {x : α} (hx : l[k]? = some x) : (l.take (k + 1)).foldl f b = f ((l.take k).foldl f b) x := by
  have hk : k < l.length := (List.getElem?_eq_some_iff.1 hx).1
  have e : l[k] = x := (List.getElem?_eq_some_iff.1 hx).2
  rw [List.take_succ_eq_append_getElem hk, e, List.foldl_append]
  rfl
theorem get_lt {α : Type} {l : List α} {k : Nat} (hk : k < l.length) : ∃ x, l[k]? = some x ∧ x ∈ l := ⟨l[k], List.getElem?_eq_getElem hk, List.getElem_mem hk⟩

theorem elt_pc : Elt Try.prog 39 98 (.agg #[.int .i64 0, .int .i64 0, .int .i64 0]) 3 24 := ⟨Try.underlying39, by kernel_rfl, rfl, by decide, by decide⟩

section
variable {R : Ending → World → Prop} {w : World}

set_option maxHeartbeats 400000 in
theorem within_any (p : Pc) (hp : p.ok) (h : ∀ w', Kp [] w w' → R (.returned (.bool (wB p))) w') : Calls Try.prog 56 #[.agg #[.int .i64 p.f, .int .i64 p.o, .int .i64 p.n]] w R := by
  have H := Lib.hid h
  obtain ⟨pf, po, pn⟩ := p
  obtain ⟨_, h1, h2⟩ := hp
  simp only at h1 h2
  clear h
  have hk := fun o => (Kp.refl [] w).alloc o
  go_enter Try.func56, Try.ntmps56
  go_wp2
  all_goals (refine rcast (H.out _ (hk _)) (congrArg Value.bool ?_); rw [Bool.eq_iff_iff]; simp [wB] <;> omega)

set_option maxHeartbeats 400000 in
theorem gsize_any {N : List Nat} {A : Option Addr} {n c : Nat} {l : List Pc} (hr : Rd w N A (l.flatMap Pc.vals)) (hl : l.length = n) (hn : n ≤ 1000000) (hok : ∀ p ∈ l, p.ok)
    (h : ∀ w', Kp [] w w' → R (.returned (.int .i64 (psz l))) w') : Calls Try.prog 17 #[.slice A n c] w R := by
  have H := Lib.hid h
  have HL := Lib.hid hl
  clear h hl
  go_enter Try.func17, Try.ntmps17
  go_wp2
  go_loopw [3, 8] (fun s i wr => ∃ k : Nat, k ≤ n ∧ i = .int .i64 k ∧ s = .int .i64 (psz (l.take k)) ∧ Kp [] w wr) (fun _ i _ => n - (intOf i).toNat)
  case atStart => exact ⟨0, Nat.zero_le _, rfl, rfl, Kp.refl _ _⟩
  case round =>
    obtain ⟨k, hk, rfl, rfl, kr⟩ := hrel
    by_cases hlt : k < n
    · obtain ⟨x, hx, hm⟩ := get_lt (l := l) (k := k) (by rw [HL.out]; exact hlt)
      obtain ⟨b, off, rfl, _, _, hc⟩ := rd_at (hr.kp kr (by simp)) pvals_len (by omega) hx
      have c0 := hc 0 _ rfl
      have c1 := hc 1 _ rfl
      have c2 := hc 2 _ rfl
      rw [Nat.add_zero] at c0
      obtain ⟨_, _, hx1, hx2⟩ := hok x hm
      have hs := foldl_snoc (f := pszF) (b := 0) hx
      obtain ⟨s0, s1⟩ := psz_bd (l.take k)
      have HS := Lib.hid (show psz (l.take (k + 1)) = pszF (psz (l.take k)) x from hs)
      clear hc hx hs
      generalize psz (l.take k) = s at *
      go_wp2
      · have hv : pszF s x = s + min x.n (1048576 - s) := by unfold pszF; rw [if_pos (by omega)]
        exact ⟨⟨k + 1, by omega, by go_num, icast (by rw [HS.out, hv]; split <;> omega), kr.alloc _⟩, by simp [intOf]; omega⟩
      · exact ⟨⟨k + 1, by omega, by go_num, icast (by rw [HS.out]; unfold pszF; rw [if_neg (by omega)]), kr.alloc _⟩, by simp [intOf]; omega⟩
    · have e : l.take k = l := List.take_of_length_le (by have := HL.out; omega)
      rw [e]
      clear e
      go_wp2
      exact H.out _ kr

set_option maxHeartbeats 400000 in
theorem of_any {N : List Nat} {A : Option Addr} {n c : Nat} {l : List Pc} (hr : Rd w N A (l.flatMap Pc.vals)) (hl : l.length = n) (hn : n ≤ 1000000)
    (h : ∀ A' c' w', Kp [] w w' → Ow w' 98 3 A' n c' (l.flatMap Pc.vals) → (∀ b ∈ bks A', w.heap.size ≤ b) → R (.returned (.slice A' n c')) w') : Calls Try.prog 15 #[.slice A n c] w R := by
  have H := Lib.hid h
  have HL := Lib.hid hl
  clear h hl
  go_enter Try.func15, Try.ntmps15
  go_wp2
  go_loopw [3, 4] (fun v i wr => ∃ (k : Nat) (A' : Option Addr) (c' : Nat), k ≤ n ∧ i = .int .i64 k ∧ v = .slice A' k c' ∧ Kp [] w wr ∧ Ow wr 98 3 A' k c' ((l.take k).flatMap Pc.vals) ∧ (∀ b ∈ bks A', w.heap.size ≤ b)) (fun _ i _ => n - (intOf i).toNat)
  case atStart => exact ⟨0, none, 0, Nat.zero_le _, rfl, rfl, Kp.refl _ _, Ow.nil, by simp [bks]⟩
  case round =>
    obtain ⟨k, A', c', hk, rfl, rfl, kr, ho, hA⟩ := hrel
    by_cases hlt : k < n
    · obtain ⟨x, hx, hm⟩ := get_lt (l := l) (k := k) (by rw [HL.out]; exact hlt)
      obtain ⟨b, off, rfl, _, _, hc⟩ := rd_at (hr.kp kr (by simp)) pvals_len (by omega) hx
      have c0 := hc 0 _ rfl
      have c1 := hc 1 _ rfl
      have c2 := hc 2 _ rfl
      rw [Nat.add_zero] at c0
      have HX := Lib.hid hx
      clear hc hx
      go_wp2_with (at_builtin; refine wpList_app _ rfl (.tmp 11) (.tmp 16) _ rfl elt_pc A' k c' _ rfl (ho.alloc _) [] (some ⟨wr.heap.size, 0, none⟩) 1 1 x.vals rfl (Rd.of_bk (Bk.newAt rfl _ _) (by simp)) rfl (pvals_one x) (by omega) ?_; intro A2 c2' w2 ho2 hk2 hA2)
      exact ⟨⟨k + 1, A2, c2', by omega, by go_num, rfl, (kr.alloc _).thn hk2 (fun s hs => .inr (hA s hs)), ho2.cast rfl (flat_snoc HX.out).symm, bks_app hA2 hA (by have := kr.size; simp; omega)⟩, by simp [intOf]; omega⟩
    · have e : l.take k = l := List.take_of_length_le (by have := HL.out; omega)
      obtain rfl : k = n := by omega
      rw [e] at ho
      clear e
      go_wp2
      exact H.out _ _ _ kr ho hA

/-! ### Cut -/
def cbad (p : Pc) : Bool := decide (p.f < 0 ∨ 256 < p.f) || !wB p
def cstep (s : Int × Int × List Pc) (p : Pc) : Int × Int × List Pc :=
  (s.1 - min s.1 p.n, s.2.1 - min s.2.1 (p.n - min s.1 p.n), if 0 < min s.2.1 (p.n - min s.1 p.n) then s.2.2 ++ [⟨p.f, p.o + min s.1 p.n, min s.2.1 (p.n - min s.1 p.n)⟩] else s.2.2)
def cfold (from_ n : Int) (l : List Pc) : Int × Int × List Pc := l.foldl cstep (from_, n, [])
def cutE (l : List Pc) (from_ n : Int) : Bool := l.any cbad || decide (from_ < 0 ∨ n < 0 ∨ psz l < from_ ∨ psz l - from_ < n)
def cutF (l : List Pc) (from_ n : Int) : Int × List Pc := if cutE l from_ n then (1, []) else (0, (cfold from_ n l).2.2)
theorem any_snoc_pc {l : List Pc} {p : Pc → Bool} {k : Nat} {x : Pc} (hx : l[k]? = some x) : (l.take (k + 1)).any p = ((l.take k).any p || p x) := by
  have hk : k < l.length := (List.getElem?_eq_some_iff.1 hx).1
  have e : l[k] = x := (List.getElem?_eq_some_iff.1 hx).2
  rw [List.take_succ_eq_append_getElem hk, e]
  simp
theorem wB_bd {p : Pc} (h : wB p = true) : 0 ≤ p.o ∧ 0 ≤ p.n ∧ p.o + p.n ≤ 256 := by simpa [wB] using h
/-- Once nothing is asked any more, nothing more comes. -/
theorem cfold_rest {l : List Pc} (hw : ∀ p ∈ l, 0 ≤ p.n) : ∀ {s : Int × Int × List Pc}, 0 ≤ s.1 → s.2.1 = 0 → (l.foldl cstep s).2.2 = s.2.2 := by
  induction l with
  | nil => intro s _ _; rfl
  | cons p l ih =>
    intro s h0 h
    have hp := hw p (by simp)
    rw [List.foldl_cons, ih (fun q hq => hw q (by simp [hq]))]
    · simp only [cstep, h]; rw [if_neg (by omega)]
    · simp only [cstep]; omega
    · simp only [cstep, h]; omega

set_option maxHeartbeats 1000000 in
theorem cut_any {N : List Nat} {A : Option Addr} {n c : Nat} {l : List Pc} (hr : Rd w N A (l.flatMap Pc.vals)) (hl : l.length = n) (hn : n ≤ 1000000) (hok : ∀ p ∈ l, p.ok) (fr nn : Int) (hfr : -1000000000 ≤ fr ∧ fr ≤ 1000000000) (hnn : -1000000000 ≤ nn ∧ nn ≤ 1000000000)
    (h : ∀ e o A' c' w', Hid (cutF l fr nn = (e, o)) → Kp [] w w' → Ow w' 98 3 A' o.length c' (o.flatMap Pc.vals) → (∀ b ∈ bks A', w.heap.size ≤ b) → R (.returned (.tuple #[.slice A' o.length c', .int .i64 e])) w') :
    Calls Try.prog 46 #[.slice A n c, .int .i64 fr, .int .i64 nn] w R := by
  have H := Lib.hid h
  have HL := Lib.hid hl
  obtain ⟨f0, f1⟩ := hfr
  obtain ⟨n0, n1⟩ := hnn
  clear h hl
  go_enter Try.func46, Try.ntmps46
  go_wp2
  go_loopw [18] (fun i wr => ∃ (k : Nat), k ≤ n ∧ i = .int .i64 k ∧ Kp [] w wr ∧ Hid ((l.take k).any cbad = false)) (fun i _ => n - (intOf i).toNat)
  case atStart => exact ⟨0, Nat.zero_le _, rfl, Kp.refl _ _, rfl⟩
  case round =>
    obtain ⟨k, hk, rfl, kr, hq⟩ := hrel
    by_cases hlt : k < n
    · obtain ⟨x, hx, hm⟩ := get_lt (l := l) (k := k) (by rw [HL.out]; exact hlt)
      obtain ⟨b, off, rfl, _, _, hc⟩ := rd_at (hr.kp kr (by simp)) pvals_len (by omega) hx
      have c0 := hc 0 _ rfl
      have c1 := hc 1 _ rfl
      have c2 := hc 2 _ rfl
      rw [Nat.add_zero] at c0
      have HX := Lib.hid hx
      have hx1 := hok x hm
      have ko := fun o => kr.alloc o
      clear hc hx
      have hany := any_snoc_pc (p := cbad) HX.out
      rw [hq.out, Bool.false_or] at hany
      have HA := Lib.hid hany
      clear hany
      have hbad : cbad x = true → cutF l fr nn = (1, []) := by
        intro hb
        have : l.any cbad = true := List.any_eq_true.2 ⟨x, hm, hb⟩
        simp [cutF, cutE, this]
      have HB := Lib.hid hbad
      clear hbad
      cases hb : wB x with
      | false =>
        by_cases hf : x.f < 0 ∨ 256 < x.f
        · rcases hf with hf | hf
          all_goals
            go_wp2
            exact H.out 1 [] none 0 _ (HB.out (by simp [cbad, hf])) (ko _) Ow.nil (by simp [bks])
        · go_wp2_with (go_at_call 56; refine within_any x hx1 (fun w3 k3 => ?_); rw [hb])
          exact H.out 1 [] none 0 _ (HB.out (by simp [cbad, hb])) ((ko _).trans k3) Ow.nil (by simp [bks])
      | true =>
        by_cases hf : x.f < 0 ∨ 256 < x.f
        · rcases hf with hf | hf
          all_goals
            go_wp2
            exact H.out 1 [] none 0 _ (HB.out (by simp [cbad, hf])) (ko _) Ow.nil (by simp [bks])
        · go_wp2_with (go_at_call 56; refine within_any x hx1 (fun w3 k3 => ?_); rw [hb])
          exact ⟨⟨k + 1, by omega, by go_num, (ko _).trans k3, Lib.hid (by rw [HA.out]; simp [cbad, hb]; omega)⟩, by simp [intOf]; omega⟩
    · have e : l.take k = l := List.take_of_length_le (by have := HL.out; omega)
      obtain rfl : n = k := by omega
      rw [e] at hq
      clear e
      have hbs := psz_bd l
      by_cases hE : fr < 0 ∨ nn < 0 ∨ psz l < fr ∨ psz l - fr < nn
      · have hc : cutF l fr nn = (1, []) := by simp [cutF, cutE, hE]
        have HC := Lib.hid hc
        clear hc
        have hE2 : fr < 0 ∨ (¬ fr < 0 ∧ nn < 0) ∨ (¬ fr < 0 ∧ ¬ nn < 0 ∧ psz l < fr) ∨ (¬ fr < 0 ∧ ¬ nn < 0 ∧ ¬ psz l < fr ∧ psz l - fr < nn) := by omega
        clear hE
        rcases hE2 with hE | ⟨h1, hE⟩ | ⟨h1, h2, hE⟩ | ⟨h1, h2, h3, hE⟩
        all_goals
          go_wp2_with (go_at_call 17; refine gsize_any (hr.kp kr (by simp)) HL.out hn hok (fun w3 k3 => ?_))
          exact H.out 1 [] none 0 _ HC (kr.trans k3) Ow.nil (by simp [bks])
      · have hc : cutF l fr nn = (0, (cfold fr nn l).2.2) := by simp [cutF, cutE, hq.out]; omega
        have HC := Lib.hid hc
        have g1 : ¬ fr < 0 := by omega
        have g2 : ¬ nn < 0 := by omega
        have g3 : ¬ psz l < fr := by omega
        have g4 : ¬ psz l - fr < nn := by omega
        have hw : ∀ p ∈ l, wB p = true := by
          intro p hp
          have := List.any_eq_false.1 hq.out p hp
          simp [cbad] at this
          exact this.2
        have HW := Lib.hid hw
        clear hc hE hw hq
        go_wp2_with (go_at_call 17; refine gsize_any (hr.kp kr (by simp)) HL.out hn hok (fun w3 k3 => ?_))
        have k4 := kr.trans k3
        have hll : l.length ≤ 1000000 := by rw [HL.out]; exact hn
        clear kr k3
        go_loopw [1, 2, 11, 58] (fun f m v i wr => ∃ (k : Nat) (q : Int × Int × List Pc) (A' : Option Addr) (c' : Nat), k ≤ n ∧ i = .int .i64 k ∧ Hid ((l.take k).foldl cstep (fr, nn, []) = q) ∧ f = .int .i64 q.1 ∧ m = .int .i64 q.2.1 ∧ 0 ≤ q.1 ∧ q.1 ≤ 1048576 ∧ 0 ≤ q.2.1 ∧ q.2.1 ≤ 1048576 ∧ q.2.2.length ≤ k ∧
          v = .slice A' q.2.2.length c' ∧ Kp [] w wr ∧ Ow wr 98 3 A' q.2.2.length c' (q.2.2.flatMap Pc.vals) ∧ (∀ b ∈ bks A', w.heap.size ≤ b)) (fun _ _ _ i _ => n - (intOf i).toNat)
        case atStart => exact ⟨0, (fr, nn, []), none, 0, Nat.zero_le _, rfl, rfl, rfl, rfl, by simp only; omega, by simp only; omega, by simp only; omega, by simp only; omega, Nat.le_refl _, rfl, k4, Ow.nil, by simp [bks]⟩
        case round =>
          obtain ⟨k, ⟨f, m, out⟩, A', c', hk, rfl, hq, rfl, rfl, q0, q1, q2, q3, q4, rfl, kr, ho, hA⟩ := hrel
          simp only at q0 q1 q2 q3 q4 ho
          by_cases hlt : k < n
          · obtain ⟨x, hx, hm⟩ := get_lt (l := l) (k := k) (by rw [HL.out]; exact hlt)
            obtain ⟨b, off, rfl, _, _, hc⟩ := rd_at (hr.kp kr (by simp)) pvals_len (by omega) hx
            have c0 := hc 0 _ rfl
            have c1 := hc 1 _ rfl
            have c2 := hc 2 _ rfl
            rw [Nat.add_zero] at c0
            have hx1 := hok x hm
            obtain ⟨p1, p2, p3⟩ := wB_bd (HW.out x hm)
            have ko := fun o => kr.alloc o
            have hq2 := foldl_snoc (f := cstep) (b := (fr, nn, [])) hx
            rw [hq.out] at hq2
            simp only [cstep] at hq2
            have HQ := Lib.hid hq2
            clear hc hx hq2
            by_cases hm0 : m = 0
            · have hrest := cfold_rest (l := l.drop k) (fun p hp => (wB_bd (HW.out p (List.mem_of_mem_drop hp))).2.1) (s := (f, m, out)) q0 hm0
              have hall : (cfold fr nn l).2.2 = out := by
                unfold cfold
                rw [← List.take_append_drop k l, List.foldl_append, hq.out, hrest]
              have HC2 := Lib.hid hall
              have hm0' : (m == 0) = true := by simp [hm0]
              clear hrest hall hm0
              go_wp2
              exact H.out 0 out A' c' _ (by rw [Hid, HC.out, HC2.out]) (ko _) (ho.alloc _) hA
            · have hm0' : (m == 0) = false := by simp [hm0]
              clear hm0
              have hm1 : 1 ≤ m := by have : m ≠ 0 := by simpa using hm0'
                                     omega
              have hcase : (f ≤ x.n ∧ m ≤ x.n - f) ∨ (f ≤ x.n ∧ x.n - f < m ∧ 0 < x.n - f) ∨ (f ≤ x.n ∧ x.n - f < m ∧ x.n - f ≤ 0) ∨ x.n < f := by omega
              have hq3 := HQ.out
              rcases hcase with ⟨d1, d2⟩ | ⟨d1, d2, d3⟩ | ⟨d1, d2, d3⟩ | d1
              · rw [show min f x.n = f by omega, show min m (x.n - f) = m by omega, if_pos (by omega)] at hq3
                have HQ3 := Lib.hid hq3
                clear hq3
                go_wp2_with (at_builtin; refine wpList_app _ rfl (.tmp 82) (.tmp 91) _ rfl elt_pc A' out.length c' _ rfl ((ho.alloc _).alloc _) [] _ 1 1 (Pc.vals ⟨x.f, x.o + f, m⟩) rfl (Rd.of_bk (Bk.newAt (by simp) _ _) (by simp)) rfl (pvals_one _) (by omega) ?_; intro A2 c2' w2 ho2 hk2 hA2)
                exact ⟨⟨k + 1, _, A2, c2', by omega, by go_num, HQ3, icast (by simp only <;> omega), icast (by simp only <;> omega), by simp only; omega, by simp only; omega, by simp only; omega, by simp only; omega, by simp; omega, by simp, ((ko _).alloc _).thn hk2 (fun s hs => .inr (hA s hs)), ho2.cast (by simp) (by simp), bks_app hA2 hA (by have := kr.size; simp; omega)⟩, by simp [intOf]; omega⟩
              · rw [show min f x.n = f by omega, show min m (x.n - f) = x.n - f by omega, if_pos (by omega)] at hq3
                have HQ3 := Lib.hid hq3
                clear hq3
                go_wp2_with (at_builtin; refine wpList_app _ rfl (.tmp 82) (.tmp 91) _ rfl elt_pc A' out.length c' _ rfl ((ho.alloc _).alloc _) [] _ 1 1 (Pc.vals ⟨x.f, x.o + f, x.n - f⟩) rfl (Rd.of_bk (Bk.newAt (by simp) _ _) (by simp)) rfl (pvals_one _) (by omega) ?_; intro A2 c2' w2 ho2 hk2 hA2)
                exact ⟨⟨k + 1, _, A2, c2', by omega, by go_num, HQ3, icast (by simp only <;> omega), icast (by simp only <;> omega), by simp only; omega, by simp only; omega, by simp only; omega, by simp only; omega, by simp; omega, by simp, ((ko _).alloc _).thn hk2 (fun s hs => .inr (hA s hs)), ho2.cast (by simp) (by simp), bks_app hA2 hA (by have := kr.size; simp; omega)⟩, by simp [intOf]; omega⟩
              · rw [show min f x.n = f by omega, show min m (x.n - f) = x.n - f by omega, if_neg (by omega)] at hq3
                have HQ3 := Lib.hid hq3
                clear hq3
                go_wp2
                exact ⟨⟨k + 1, _, A', c', by omega, by go_num, HQ3, icast (by simp only <;> omega), icast (by simp only <;> omega), by simp only; omega, by simp only; omega, by simp only; omega, by simp only; omega, by simp only; omega, rfl, ko _, ho.alloc _, hA⟩, by simp [intOf]; omega⟩
              · rw [show min f x.n = x.n by omega, show min m (x.n - x.n) = x.n - x.n by omega, if_neg (by omega)] at hq3
                have HQ3 := Lib.hid hq3
                clear hq3
                go_wp2
                exact ⟨⟨k + 1, _, A', c', by omega, by go_num, HQ3, icast (by simp only), icast (by simp only <;> omega), by simp only; omega, by simp only; omega, by simp only; omega, by simp only; omega, by simp only; omega, rfl, ko _, ho.alloc _, hA⟩, by simp [intOf]; omega⟩
          · have e : l.take k = l := List.take_of_length_le (by have := HL.out; omega)
            obtain rfl : n = k := by omega
            rw [e] at hq
            have hall : (cfold fr nn l).2.2 = out := by unfold cfold; rw [hq.out]
            have HC2 := Lib.hid hall
            clear e hall
            go_wp2
            exact H.out 0 out A' c' _ (by rw [Hid, HC.out, HC2.out]) kr ho hA
end

/-! ### pieces that came in, opened -/
section
open Go.ChangeShapes Go.WideShapes Go.ChangeAt Go.RowKit Go.Deep
variable {H : Type} {enc : TypeId × Value → H} {W : World}
theorem i64_bd {m : Int} (h : (Lit.int .i64 m).wf = true) : -9223372036854775808 ≤ m ∧ m ≤ 9223372036854775807 := by have := bounds_i64 h; omega
theorem opn_pc : Opn enc Try.prog W 93 Pc.vals Pc.ok := ⟨fun fuel cs x h => by
  obtain ⟨xs, n, _, _, hlen, hxl, hg⟩ := DataW.trod_struct Try.underlying93 h
  have hK : Try.prog.cellsOf 93 = 3 := by kernel_rfl
  have hI : Try.prog.cellsOf 3 = 1 := by kernel_rfl
  rw [hK] at hlen
  match cs, hlen with
  | [c0, c1, c2], _ =>
    obtain ⟨m0, rfl, h0⟩ := fld_int hg hxl 0 rfl hI Try.underlying3 rfl
    obtain ⟨m1, rfl, h1⟩ := fld_int hg hxl 1 rfl hI Try.underlying3 rfl
    obtain ⟨m2, rfl, h2⟩ := fld_int hg hxl 2 rfl hI Try.underlying3 rfl
    exact ⟨⟨m0, m1, m2⟩, rfl, i64_bd h0, i64_bd h1, i64_bd h2⟩⟩
theorem opn_pcs : Opn enc Try.prog W 37 (Sin.vals (α := Pc)) (Sin.ok W Pc.vals Pc.ok) :=
  opn_slice (K := 3) Try.underlying37 (by kernel_rfl) (fun _ => rfl) opn_pc
end
end Go.Proofs.Ythlmfjfkkndboaa
