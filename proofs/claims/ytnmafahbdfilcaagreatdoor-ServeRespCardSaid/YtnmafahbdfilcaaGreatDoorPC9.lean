/- The head of the answer to what is none, in plain words. A second has one date, and one text. How parts are told: Boundary, Tail, None, Head; the document's. A head in plain words: lines that end rightly. respond in plain words: the parts and the head of any answer. A span's cells. -/
import Derived.Test.YtnmafahbdfilcaaGreatDoorPC8
import Derived.Test.YtnmafahbdfilcaaGreatDoorPC7
import Derived.Test.YtnmafahbdfilcaaGreatDoorPC2
import Derived.Test.YtnmafahbdfilcaaGreatDoorPC5
import Derived.BigRegion
import Derived.Deep.RegionLaw
import Derived.Test.YtnmafahbdfilcaaGreatDoorPC1
namespace Go.Proofs.YtnmafahbdfilcaaGreatDoor
/-! ### The head of the answer to what is none, in plain words. -/
section
open Go.RowKit
set_option linter.unusedVariables false
set_option linter.unusedSimpArgs false
set_option maxRecDepth 100000

def hdr (n v : List UInt8) : List UInt8 := n ++ 58 :: 32 :: (v ++ [13, 10])
def dateN : List UInt8 := [68, 97, 116, 101]
def servN : List UInt8 := [83, 101, 114, 118, 101, 114]
def pantV : List UInt8 := [112, 97, 110, 116, 108, 101, 114]
def ctN : List UInt8 := [67, 111, 110, 116, 101, 110, 116, 45, 84, 121, 112, 101]
def txtV : List UInt8 := [116, 101, 120, 116, 47, 112, 108, 97, 105, 110]
def clN : List UInt8 := [67, 111, 110, 116, 101, 110, 116, 45, 76, 101, 110, 103, 116, 104]
def connN : List UInt8 := [67, 111, 110, 110, 101, 99, 116, 105, 111, 110]
def closV : List UInt8 := [99, 108, 111, 115, 101]
def line1 (ds rs : List UInt8) : List UInt8 := [72, 84, 84, 80, 47, 49, 46, 49, 32] ++ (ds ++ 32 :: (rs ++ [13, 10]))
def headL (st now : Int) (D : List UInt8) : List UInt8 := line1 (decL st.toNat) (rsnL st) ++ ((if mayB now then hdr dateN D else []) ++ (hdr servN pantV ++ (hdr ctN txtV ++ (hdr clN (decL (bodyT st).length) ++ (hdr connN closV ++ [13, 10])))))
end
/-! ### A second has one date, and one text. -/
section
open Go.RowKit
set_option linter.unusedVariables false
set_option linter.unusedSimpArgs false
theorem befY_le {y y' : Int} (h : y + 1 ≤ y') : befY (y + 1) ≤ befY y' := by unfold befY; omega
theorem cumM_le (y : Int) : ∀ (b a : Nat), a ≤ b → cumM y a ≤ cumM y b
  | 0, a, h => by rw [show a = 0 by omega]; exact Int.le_refl _
  | b + 1, a, h => by
    by_cases e : a = b + 1
    · rw [e]; exact Int.le_refl _
    · have h1 := cumM_le y b a (by omega)
      have h2 : cumM y (b + 1) = cumM y b + lenM y (b + 1) := rfl
      have h3 := (lenM_pos y (b + 1)).1
      omega
theorem civ_fit {n : Int} {y m d hh mi s wd : Nat} (c : CivN n y m d hh mi s wd) : befY y ≤ befY 1970 + n / 86400 ∧ befY 1970 + n / 86400 < befY ((y : Int) + 1) ∧ cumM y (m - 1) ≤ befY 1970 + n / 86400 - befY y ∧ befY 1970 + n / 86400 - befY y < cumM y m := by
  have e := c.he
  have m0 := c.m0
  have m1 := c.m1
  have d0 := c.d0
  have d1 := c.d1
  have h1 := cumM_le y 12 m (by omega)
  have h2 : cumM y m = cumM y (m - 1) + lenM y m := by
    obtain ⟨k, rfl⟩ : ∃ k, m = k + 1 := ⟨m - 1, by omega⟩
    rfl
  have h3 := cumM_le y (m - 1) 0 (by omega)
  have h4 : cumM (y : Int) 0 = 0 := rfl
  have h5 := cumM_12 y
  have h6 := befY_succ y
  refine ⟨by omega, by omega, by omega, by omega⟩
theorem civ_uniq {n : Int} {y m d hh mi s wd y' m' d' hh' mi' s' wd' : Nat} (c : CivN n y m d hh mi s wd) (c' : CivN n y' m' d' hh' mi' s' wd') : y = y' ∧ m = m' ∧ d = d' ∧ hh = hh' ∧ mi = mi' ∧ s = s' ∧ wd = wd' := by
  obtain ⟨a1, a2, a3, a4⟩ := civ_fit c
  obtain ⟨b1, b2, b3, b4⟩ := civ_fit c'
  have hy : y = y' := by
    rcases Nat.lt_trichotomy y y' with h | h | h
    · have := befY_le (y := y) (y' := y') (by omega); omega
    · exact h
    · have := befY_le (y := y') (y' := y) (by omega); omega
  subst hy
  have hm : m = m' := by
    rcases Nat.lt_trichotomy m m' with h | h | h
    · have := cumM_le y (m' - 1) m (by have := c'.m0; omega); omega
    · exact h
    · have := cumM_le y (m - 1) m' (by have := c.m0; omega); omega
  subst hm
  have e := c.he
  have e' := c'.he
  have := c.eh
  have := c'.eh
  have := c.emi
  have := c'.emi
  have := c.es
  have := c'.es
  have := c.ew
  have := c'.ew
  refine ⟨rfl, rfl, by omega, by omega, by omega, by omega, by omega⟩
theorem told_uniq {n : Int} {D D' : List UInt8} (h : Told n D) (h' : Told n D') : D = D' := by
  obtain ⟨y, m, d, hh, mi, s, wd, a, b, c, ha, hb, rfl⟩ := h
  obtain ⟨y', m', d', hh', mi', s', wd', a', b', c', ha', hb', rfl⟩ := h'
  obtain ⟨rfl, rfl, rfl, rfl, rfl, rfl, rfl⟩ := civ_uniq c c'
  rw [ha] at ha'; rw [hb] at hb'
  injection ha' with ha'; injection hb' with hb'
  rw [ha', hb']
end
/-! ### How parts are told: Boundary, Tail, None, Head; the document's. -/
section
open Go.RowKit Go.Shelf
set_option linter.unusedVariables false
set_option linter.unusedSimpArgs false
set_option maxRecDepth 100000

def boundL : List UInt8 := [112, 97, 110, 116, 108, 101, 114, 45, 98, 111, 117, 110, 100, 97, 114, 121]
theorem bound_any {R : Ending → World → Prop} (w : World) (h : R (.returned (.string (S boundL))) w) : Calls Tryz.prog 80 #[] w R := by
  go_enter Tryz.func80, Tryz.ntmps80
  go_wp2
  exact h
def tailL : List UInt8 := [13, 10, 45, 45] ++ boundL ++ [45, 45, 13, 10]
theorem tail_any {R : Ending → World → Prop} (w : World) (h : R (.returned (.string (S tailL))) w) : Calls Tryz.prog 76 #[] w R := by
  go_enter Tryz.func76, Tryz.ntmps76
  go_wp2_with (go_at_call 80; (refine bound_any _ ?_))
  exact h
def noneL (n : Int) : List UInt8 := 98 :: 121 :: 116 :: 101 :: 115 :: 32 :: 42 :: 47 :: itoaL n
theorem none_any {R : Ending → World → Prop} (n : Int) (w : World) (hn : 0 ≤ n ∧ n ≤ 35184372088832) (hw : Lw w) (h : ∀ w', Kp [] w w' → R (.returned (.string (S (noneL n)))) w') : Calls Tryz.prog 82 #[.int .i64 n] w R := by
  have H := Lib.hid h
  obtain ⟨n1, n2⟩ := hn
  have e3 := itoaL_len n (by omega) (by omega)
  clear h
  go_enter Tryz.func82, Tryz.ntmps82
  go_wp2_with (go_at_call 77; ((refine itoa_all _ _ (by omega) (by omega) hw ?_); intro w1 k1))
  exact H.out _ k1
theorem rcontent_any {R : Ending → World → Prop} (f l n : Int) (w : World) (hf : 0 ≤ f ∧ f ≤ 35184372088832) (hl : 0 ≤ l ∧ l ≤ 35184372088832) (hn : 0 ≤ n ∧ n ≤ 35184372088832)
    (h : ∀ w', Kp [] w w' → R (.returned (.string (S (contL f l n)))) w') : Calls Tryz.prog 98 #[.agg #[.int .i64 f, .int .i64 l], .int .i64 n] w R := by
  have H := Lib.hid h
  obtain ⟨f1, f2⟩ := hf
  obtain ⟨l1, l2⟩ := hl
  obtain ⟨n1, n2⟩ := hn
  have e1 := itoaL_len f (by omega) (by omega)
  have e2 := itoaL_len (f + l - 1) (by omega) (by omega)
  have e3 := itoaL_len n (by omega) (by omega)
  clear h
  have w1 : IntKind.i64.wrap (f + l) = f + l := wrap_ok (by omega) (by omega)
  have w2 : IntKind.i64.wrap (f + l - 1) = f + l - 1 := wrap_ok (by omega) (by omega)
  go_enter Tryz.func98, Tryz.ntmps98
  go_wp2_with fail
  refine wp_region_kp (by kernel_rfl) (by kernel_rfl) ?_
  repeat (quiet_step (first | (go_at_call 14; ((refine rdigits_sgn _ _ (by omega) (by omega) ?_); intro w' k'; exact kpx_mk k')) | (rw [if_neg (by simp only [List.length_append, List.length_cons, List.length_nil]; omega)]; exact ⟨rfl, rfl⟩) | (rw [if_neg (by omega)]; exact ⟨rfl, rfl⟩)))
  refine wpQuiet_nil ?_
  intro w6 k6
  go_wp2
  exact H.out _ (((Kp.refl _ _).alloc _).trans k6)
theorem contL_len (f l n : Int) (hf : 0 ≤ f ∧ f ≤ 35184372088832) (hl : 0 ≤ l ∧ l ≤ 35184372088832) (hn : 0 ≤ n ∧ n ≤ 35184372088832) : (contL f l n).length ≤ 100 := by
  have e1 := itoaL_len f (by omega) (by omega)
  have e2 := itoaL_len (f + l - 1) (by omega) (by omega)
  have e3 := itoaL_len n (by omega) (by omega)
  unfold contL; simp; omega
def typeL : List UInt8 := [67, 111, 110, 116, 101, 110, 116, 45, 84, 121, 112, 101, 58, 32]
def rangeL : List UInt8 := [67, 111, 110, 116, 101, 110, 116, 45, 82, 97, 110, 103, 101, 58, 32]
def rgheadL (c kind : List UInt8) : List UInt8 := [13, 10, 45, 45] ++ boundL ++ [13, 10] ++ typeL ++ kind ++ [13, 10] ++ rangeL ++ c ++ [13, 10, 13, 10]
theorem head_join (c kind : List UInt8) : Lib.join [[], [45, 45] ++ boundL, typeL ++ kind, rangeL ++ c, [], []] [13, 10] = rgheadL c kind := by
  unfold Lib.join rgheadL
  simp [List.intercalate]
set_option maxHeartbeats 2000000 in
theorem rhead_any {R : Ending → World → Prop} (f l n : Int) (kind : List UInt8) (w : World) (hk : kind.length ≤ 300) (hf : 0 ≤ f ∧ f ≤ 35184372088832) (hl : 0 ≤ l ∧ l ≤ 35184372088832) (hn : 0 ≤ n ∧ n ≤ 35184372088832)
    (h : ∀ w', Kp [] w w' → R (.returned (.string (S (rgheadL (contL f l n) kind)))) w') : Calls Tryz.prog 94 #[.agg #[.int .i64 f, .int .i64 l], .int .i64 n, .string (S kind)] w R := by
  have H := Lib.hid h
  have hcl := contL_len f l n hf hl hn
  have HC := Lib.hid (fun w => rcontent_any (R := R) f l n w hf hl hn)
  clear h
  go_enter Tryz.func94, Tryz.ntmps94
  go_wp2_with (go_at_call 98; ((refine rcontent_any f l n _ hf hl hn ?_); intro w1 k1))
  refine rcast (H.out _ (((Kp.refl _ _).alloc _).trans k1)) (congrArg (fun l => Value.string (S l)) ?_)
  simp [rgheadL, boundL, typeL, rangeL]
set_option maxHeartbeats 2000000 in
theorem rghead_any {R : Ending → World → Prop} (f l n : Int) (kind : List UInt8) (w : World) (hk : kind.length ≤ 300) (hf : 0 ≤ f ∧ f ≤ 35184372088832) (hl : 0 ≤ l ∧ l ≤ 35184372088832) (hn : 0 ≤ n ∧ n ≤ 35184372088832) (hw : Lw w)
    (h : ∀ w', Kp [] w w' → R (.returned (.string (S (rgheadL (contL f l n) kind)))) w') : Calls Tryz.prog 75 #[.agg #[.int .i64 f, .int .i64 l], .int .i64 n, .string (S kind)] w R := by
  have H := Lib.hid h
  have hcl := contL_len f l n hf hl hn
  clear h
  obtain ⟨c, hc⟩ : ∃ c, contL f l n = c := ⟨_, rfl⟩
  have HCC : Hid (∀ (R : Ending → World → Prop) (w1 : World), Lw w1 → (∀ w', Kp [] w1 w' → R (.returned (.string (S c))) w') → Calls Tryz.prog 81 #[.agg #[.int .i64 f, .int .i64 l], .int .i64 n] w1 R) := Lib.hid (fun R w1 h1 h => content_any f l n w1 hf hl hn h1 (by rw [hc]; exact h))
  rw [hc] at H hcl
  clear hc
  have HJ := Lib.hid (head_join c kind)
  have HJL : Hid ((Lib.join [[], [45, 45] ++ boundL, typeL ++ kind, rangeL ++ c, [], []] [13, 10]).length ≤ 2000000) := Lib.hid (by rw [HJ.out]; unfold rgheadL boundL typeL rangeL; simp; omega)
  have hb16 : boundL.length = 16 := rfl
  have n1 : ¬ 9223372036854775807 < 2 + boundL.length := by omega
  have n2 : ¬ 9223372036854775807 < 14 + kind.length := by omega
  have n3 : ¬ 9223372036854775807 < 15 + c.length := by omega
  go_enter Tryz.func75, Tryz.ntmps75
  go_wp2_with fail
  refine gen_world (fun W => Kp [] w W ∧ Bk W w.heap.size 140 [.int .i64 f, .int .i64 l]) ⟨(Kp.refl _ _).alloc _, Bk.newAt rfl _ _⟩ ?_
  rintro W ⟨kW, bW⟩
  have q0 := bW.cell 0
  have q1 := bW.cell 1
  simp only [List.getElem?_cons_zero, List.getElem?_cons_succ] at q0 q1
  have HW := Lib.hid (hw.kp kW)
  have KW := Lib.hid kW
  clear bW kW
  go_region_law (first | (go_simp; go_at_call 80; refine bound_any _ ?_) | (go_simp; go_at_call 81; (refine HCC.out _ _ (HW.out.kp ((Kp.refl [] W).drew)) ?_); intro w5 k5) | (go_simp; go_at_call 73; (refine join_any [[], [45, 45] ++ boundL, typeL ++ kind, rangeL ++ c, [], []] [13, 10] ((Ow.lit _ _ 1 _ 6 (by decide) rfl).cast rfl rfl) (by decide) (by decide) HJL.out ?_); rw [HJ.out]; intro w7 k7))
  all_goals go_wp2
  all_goals have hF := H.out _ (KW.out.trans (((Kp.refl [] W).drew.trans k5).alloc _ |>.trans k7))
  all_goals first
    | (refine bodyPost_ret (results_tmp rfl _ _ _) ?_ ?_; · rfl; · exact hF)
    | (simp [results, Tryz.results75, go_sem, bodyPost, Act.put]; exact hF)
end
/-! ### A head in plain words: lines that end rightly. -/
section
set_option linter.unusedVariables false
set_option linter.unusedSimpArgs false
/-- Lines, each with its end; and an empty one. -/
def joinH : List (List UInt8) → List UInt8
  | [] => [13, 10]
  | l :: ls => l ++ 13 :: 10 :: joinH ls
/-- A line: neither empty nor with an end in it. -/
def lineH (l : List UInt8) : Prop := l ≠ [] ∧ ∀ c ∈ l, c ≠ 13 ∧ c ≠ 10
theorem joinH_app (ls : List (List UInt8)) (r : List (List UInt8)) : joinH (ls ++ r) = ls.flatMap (fun l => l ++ [13, 10]) ++ joinH r := by
  induction ls with
  | nil => rfl
  | cons l ls ih => simp [joinH, ih]
/-- What stands at a place. -/
theorem at_place : ∀ (ls : List (List UInt8)) (h : ∀ l ∈ ls, lineH l) (i : Nat) (c : UInt8), (joinH ls)[i]? = some c →
    (c ≠ 13 ∧ c ≠ 10) ∨ (c = 13 ∧ (joinH ls)[i + 1]? = some 10 ∧ ((joinH ls).drop (i + 2) = [] ∨ ∃ ls', (∀ l ∈ ls', l ∈ ls) ∧ (joinH ls).drop (i + 2) = joinH ls')) ∨ (c = 10 ∧ 0 < i ∧ (joinH ls)[i - 1]? = some 13)
  | [], h, i, c, hc => by
    match i, hc with
    | 0, hc => simp [joinH] at hc; exact .inr (.inl ⟨hc.symm, rfl, .inl rfl⟩)
    | 1, hc => simp [joinH] at hc; exact .inr (.inr ⟨hc.symm, by omega, rfl⟩)
    | i + 2, hc => simp [joinH] at hc
  | l :: ls, h, i, c, hc => by
    have hl := h l (by simp)
    have e : joinH (l :: ls) = l ++ 13 :: 10 :: joinH ls := rfl
    rw [e] at hc ⊢
    rcases (by omega : i < l.length ∨ i = l.length ∨ i = l.length + 1 ∨ l.length + 2 ≤ i) with h1 | h1 | h1 | h1
    · rw [List.getElem?_append_left h1] at hc
      exact .inl (hl.2 c (List.mem_of_getElem? hc))
    · subst h1
      rw [List.getElem?_append_right (Nat.le_refl _), Nat.sub_self] at hc
      injection hc with hc
      refine .inr (.inl ⟨hc.symm, ?_, .inr ⟨ls, fun x hx => by simp [hx], ?_⟩⟩)
      · rw [List.getElem?_append_right (by omega), show l.length + 1 - l.length = 1 by omega]; rfl
      · rw [← List.drop_drop, List.drop_left' rfl]; rfl
    · subst h1
      rw [List.getElem?_append_right (by omega), show l.length + 1 - l.length = 1 by omega] at hc
      injection hc with hc
      refine .inr (.inr ⟨hc.symm, by omega, ?_⟩)
      rw [show l.length + 1 - 1 = l.length by omega, List.getElem?_append_right (Nat.le_refl _), Nat.sub_self]; rfl
    · obtain ⟨j, rfl⟩ : ∃ j, i = l.length + (j + 2) := ⟨i - l.length - 2, by omega⟩
      have hg : ∀ k, (l ++ 13 :: 10 :: joinH ls)[l.length + (k + 2)]? = (joinH ls)[k]? := fun k => by
        rw [List.getElem?_append_right (by omega), show l.length + (k + 2) - l.length = k + 2 by omega]; rfl
      rw [hg] at hc
      have hd : (l ++ 13 :: 10 :: joinH ls).drop (l.length + (j + 2) + 2) = (joinH ls).drop (j + 2) := by
        rw [show l.length + (j + 2) + 2 = l.length + (j + 2 + 2) by omega, ← List.drop_drop, List.drop_left' rfl]; rfl
      rw [hd, show l.length + (j + 2) + 1 = l.length + ((j + 1) + 2) by omega, hg]
      rcases at_place ls (fun x hx => h x (by simp [hx])) j c hc with h2 | ⟨h2, h3, h4⟩ | ⟨h2, h3, h4⟩
      · exact .inl h2
      · refine .inr (.inl ⟨h2, h3, ?_⟩)
        rcases h4 with h4 | ⟨ls', h5, h6⟩
        · exact .inl h4
        · exact .inr ⟨ls', fun x hx => by simp [h5 x hx], h6⟩
      · refine .inr (.inr ⟨h2, by omega, ?_⟩)
        rw [show l.length + (j + 2) - 1 = l.length + ((j - 1) + 2) by omega, hg]; exact h4
/-- An empty line stands at the end alone. -/
theorem empty_end {ls : List (List UInt8)} (h : ∀ l ∈ ls, lineH l) {i : Nat} (hi : ((joinH ls).drop i).take 4 = [13, 10, 13, 10]) : i + 4 = (joinH ls).length := by
  have g : ∀ k, k < 4 → (joinH ls)[i + k]? = [13, 10, 13, 10][k]? := fun k hk => by
    rw [← hi, List.getElem?_take, if_pos hk, List.getElem?_drop]
  have g0 := g 0 (by omega)
  have g2 := g 2 (by omega)
  have g3 := g 3 (by omega)
  rcases at_place ls h i 13 g0 with h1 | ⟨_, _, h2⟩ | ⟨h1, _⟩
  · exact absurd rfl h1.1
  · rcases h2 with h2 | ⟨ls', hs, h2⟩
    · have := congrArg List.length h2
      simp at this
      have g3' := (List.getElem?_eq_some_iff.1 g3).1
      omega
    · have e : (joinH ls')[0]? = some 13 := by rw [← h2, List.getElem?_drop]; exact g2
      cases ls' with
      | nil =>
        have := congrArg List.length h2
        simp [joinH] at this
        have g3' := (List.getElem?_eq_some_iff.1 g3).1
        omega
      | cons l ls' =>
        have hl := h l (hs l (by simp))
        cases l with
        | nil => exact absurd rfl hl.1
        | cons c l =>
          simp [joinH] at e
          exact absurd e (hl.2 c (by simp)).1
  · cases h1
theorem pre_eq : ∀ {a b : List UInt8} {x y : List UInt8}, (∀ c ∈ a, c ≠ 13) → (∀ c ∈ b, c ≠ 13) → a ++ 13 :: x = b ++ 13 :: y → a = b
  | [], [], _, _, _, _, _ => rfl
  | [], c :: b, _, _, _, hb, h => by
    injection h with h1 _
    exact absurd h1.symm (hb c (by simp))
  | c :: a, [], _, _, ha, _, h => by
    injection h with h1 _
    exact absurd h1 (ha c (by simp))
  | c :: a, d :: b, _, _, ha, hb, h => by
    injection h with h1 h2
    rw [h1, pre_eq (fun c hc => ha c (by simp [hc])) (fun c hc => hb c (by simp [hc])) h2]
/-- A line that is found between two ends is one of the lines. -/
theorem found_line {ls : List (List UInt8)} (h : ∀ l ∈ ls, lineH l) {x : List UInt8} (hx : lineH x) {i : Nat} (hi : ((joinH ls).drop i).take (x.length + 4) = 13 :: 10 :: (x ++ [13, 10])) : x ∈ ls := by
  have g : ∀ k, k < x.length + 4 → (joinH ls)[i + k]? = (13 :: 10 :: (x ++ [13, 10]))[k]? := fun k hk => by
    rw [← hi, List.getElem?_take, if_pos hk, List.getElem?_drop]
  have g0 := g 0 (by omega)
  rcases at_place ls h i 13 g0 with h1 | ⟨_, _, h2⟩ | ⟨h1, _⟩
  · exact absurd rfl h1.1
  · have ht : ((joinH ls).drop (i + 2)).take (x.length + 2) = x ++ [13, 10] := by
      have := congrArg (List.drop 2) hi
      rw [List.drop_take, List.drop_drop] at this
      exact this
    rcases h2 with h2 | ⟨ls', hs, h2⟩
    · rw [h2] at ht; simp at ht
    · rw [h2] at ht
      have e2 : joinH ls' = (x ++ [13, 10]) ++ (joinH ls').drop (x.length + 2) := by rw [← ht, List.take_append_drop]
      cases ls' with
      | nil =>
        exfalso
        cases x with
        | nil => exact hx.1 rfl
        | cons c x =>
          simp [joinH] at ht
          exact absurd ht.1.symm (hx.2 c (by simp)).1
      | cons l ls' =>
        have hl := h l (hs l (by simp))
        have e3 : l ++ 13 :: (10 :: joinH ls') = x ++ 13 :: ([10] ++ (joinH (l :: ls')).drop (x.length + 2)) := by
          rw [show l ++ 13 :: (10 :: joinH ls') = joinH (l :: ls') from rfl, e2]
          simp
        rw [← pre_eq (fun c hc => (hl.2 c hc).1) (fun c hc => (hx.2 c hc).1) e3]
        exact hs l (by simp)
  · cases h1
theorem line_found : ∀ {ls : List (List UInt8)} {x : List UInt8}, x ∈ ls → ∃ i, ((joinH ls).drop i).take (x.length + 2) = x ++ [13, 10]
  | l :: ls, x, hx => by
    simp only [List.mem_cons] at hx
    rcases hx with rfl | hx
    · refine ⟨0, ?_⟩
      show (x ++ 13 :: 10 :: joinH ls).take _ = _
      rw [show x ++ 13 :: 10 :: joinH ls = (x ++ [13, 10]) ++ joinH ls by simp, List.take_left' (by simp)]
    · obtain ⟨i, hi⟩ := line_found hx
      refine ⟨l.length + (2 + i), ?_⟩
      show ((l ++ 13 :: 10 :: joinH ls).drop _).take _ = _
      rw [← List.drop_drop, List.drop_left' rfl, ← List.drop_drop]
      exact hi
theorem line_found2 {a : List UInt8} {ls : List (List UInt8)} {x : List UInt8} (hx : x ∈ ls) : ∃ i, ((joinH (a :: ls)).drop i).take (x.length + 4) = 13 :: 10 :: (x ++ [13, 10]) := by
  induction ls generalizing a with
  | nil => cases hx
  | cons l ls ih =>
    simp only [List.mem_cons] at hx
    rcases hx with rfl | hx
    · refine ⟨a.length, ?_⟩
      show ((a ++ 13 :: 10 :: (x ++ 13 :: 10 :: joinH ls)).drop _).take _ = _
      rw [List.drop_left' rfl, show 13 :: 10 :: (x ++ 13 :: 10 :: joinH ls) = (13 :: 10 :: (x ++ [13, 10])) ++ joinH ls by simp, List.take_left' (by simp)]
    · obtain ⟨i, hi⟩ := ih (a := l) hx
      refine ⟨a.length + (2 + i), ?_⟩
      show ((a ++ 13 :: 10 :: joinH (l :: ls)).drop _).take _ = _
      rw [← List.drop_drop, List.drop_left' rfl, ← List.drop_drop]
      exact hi
end
/-! ### respond in plain words: the parts and the head of any answer. -/
section
open Go.RowKit
set_option linter.unusedVariables false
set_option linter.unusedSimpArgs false
set_option maxRecDepth 100000
/-- An answer's block. -/
def ansG (st minor : Int) (cl : Bool) (v mt len : Int) (kd : List UInt8) (now : Int) (A : Option Addr) (n c : Nat) (B : Option Addr) (m d : Nat) : List Value :=
  [.int .i64 st, .int .i64 minor, .bool cl, .int .i64 v, .int .i64 mt, .int .i64 len, .string (S kd), .int .i64 now, .slice A n c, .slice B m d]
/-- The text of a second, if it has one. -/
noncomputable def dateT (n : Int) : List UInt8 := open Classical in if h : ∃ D, Told n D then Classical.choose h else []
theorem dateT_is {n : Int} {D : List UInt8} (h : Told n D) : dateT n = D := by
  have hx : ∃ D, Told n D := ⟨D, h⟩
  unfold dateT
  rw [dif_pos hx]
  exact told_uniq (Classical.choose_spec hx) h
/-- A part: text, from, length. -/
abbrev Pt := List UInt8 × Int × Int
def ptV (p : Pt) : List Value := [.string (S p.1), .int .i64 p.2.1, .int .i64 p.2.2]
theorem ptV_len (p : Pt) : (ptV p).length = 3 := rfl
theorem ptV_one (p : Pt) : ∀ u ∈ ptV p, u.oneCell' = true := by intro u hu; simp [ptV] at hu; rcases hu with rfl | rfl | rfl <;> rfl
def keepP (p : Pt) : Bool := !(p.1 == []) || decide (0 < p.2.2)
/-- The parts of a span; is it one of many? -/
def spP (len : Int) (kd : List UInt8) (b : Bool) (z : Int × Int) : List Pt := if b then [(rgheadL (contL z.1 z.2 len) kd, 0, 0), ([], z.1, z.2)] else [([], z.1, z.2)]
/-- The parts ahead of the look at what is empty. -/
def layG (st len : Int) (kd : List UInt8) (zs : List (Int × Int)) : List Pt :=
  if st = 200 then [([], 0, len)] else
  if st = 206 then zs.flatMap (spP len kd (decide (1 < zs.length))) ++ (if 1 < zs.length then [(tailL, 0, 0)] else []) else
  if st = 304 then [] else [(bodyT st, 0, 0)]
def partsG (st len : Int) (kd : List UInt8) (zs : List (Int × Int)) : List Pt := (layG st len kd zs).filter keepP
def sumG (l : List Pt) : Int := (l.map fun p => (p.1.length : Int) + p.2.2).sum
def hdrB (b : Bool) (n v : List UInt8) : List UInt8 := if b then hdr n v else []
def etagN : List UInt8 := [69, 84, 97, 103]
def lmN : List UInt8 := [76, 97, 115, 116, 45, 77, 111, 100, 105, 102, 105, 101, 100]
def arN : List UInt8 := [65, 99, 99, 101, 112, 116, 45, 82, 97, 110, 103, 101, 115]
def bytV : List UInt8 := [98, 121, 116, 101, 115]
def allowN : List UInt8 := [65, 108, 108, 111, 119]
def ghV : List UInt8 := [71, 69, 84, 44, 32, 72, 69, 65, 68]
def crN : List UInt8 := [67, 111, 110, 116, 101, 110, 116, 45, 82, 97, 110, 103, 101]
def mpV : List UInt8 := [109, 117, 108, 116, 105, 112, 97, 114, 116, 47, 98, 121, 116, 101, 114, 97, 110, 103, 101, 115, 59, 32, 98, 111, 117, 110, 100, 97, 114, 121, 61] ++ boundL
def keepV : List UInt8 := [107, 101, 101, 112, 45, 97, 108, 105, 118, 101]
/-- What a head says: its status's Bools, the minor version, does it close, the file, now, the first span, how many bytes follow. -/
structure HdA where
  st : Int
  minor : Int
  cl : Bool
  v : Int
  mt : Int
  len : Int
  kd : List UInt8
  now : Int
  zs : List (Int × Int)
  n : Int
def HdA.one (a : HdA) : Bool := (a.st == 206) && (a.zs.length == 1)
def HdA.body (a : HdA) : Bool := (a.st == 200) || (a.st == 206)
def HdA.ct (a : HdA) : List UInt8 := if (a.st == 200 || a.one) = true then hdr ctN a.kd else if (a.st == 206) = true then hdr ctN mpV else hdrB (a.st != 304) ctN txtV
def HdA.cr (a : HdA) : List UInt8 := if a.one = true then hdr crN (contL (a.zs.headD (0, 0)).1 (a.zs.headD (0, 0)).2 a.len) else []
noncomputable def headS (a : HdA) : List UInt8 :=
  line1 (decL a.st.toNat) (rsnL a.st) ++ (hdrB (mayB a.now) dateN (dateT a.now) ++ (hdr servN pantV ++ (hdrB (a.body || a.st == 304) etagN (tagL a.v a.mt) ++ (hdrB (a.body && mayB a.mt) lmN (dateT a.mt) ++ (hdrB (a.st == 200) arN bytV ++ (hdrB (a.st == 405) allowN ghV ++
  (a.ct ++ (a.cr ++ (hdrB (a.st == 416) crN (noneL a.len) ++ (hdrB (a.st != 304) clN (itoaL a.n) ++ (hdrB a.cl connN closV ++ (hdrB (!a.cl && a.minor == 0) connN keepV ++ [13, 10]))))))))))))
theorem hdr_len (n v : List UInt8) : (hdr n v).length = n.length + v.length + 4 := by simp [hdr]; omega
theorem hdrB_len (b : Bool) (n v : List UInt8) : (hdrB b n v).length ≤ n.length + v.length + 4 := by cases b <;> simp [hdrB, hdr_len]
end
/-! ### A span's cells. -/
section
open Go.RowKit
def spV (z : Int × Int) : List Value := [.int .i64 z.1, .int .i64 z.2]
theorem spV_len (z : Int × Int) : (spV z).length = 2 := rfl
end
end Go.Proofs.YtnmafahbdfilcaaGreatDoor
