/- respond in plain words: what status and spans are chosen; parts are short. respond in plain words: a head is lines. respond in plain words: no line of a head holds an end. respond in plain words: what lines are found in a head. -/
import Derived.Test.YtnmafahbdfilcaaGreatDoorPC21
import Derived.Test.YtnmafahbdfilcaaGreatDoorPC10
import Derived.Test.YtnmafahbdfilcaaGreatDoorPC9
namespace Go.Proofs.YtnmafahbdfilcaaGreatDoor
/-! ### respond in plain words: what status and spans are chosen; parts are short. -/
section
open Go.RowKit
set_option linter.unusedVariables false
set_option linter.unusedSimpArgs false
set_option maxRecDepth 100000
def okZ (n : Int) (z : Int × Int) : Prop := 1 ≤ z.2 ∧ 0 ≤ z.1 ∧ z.1 + z.2 ≤ n
theorem okZ_span {x : List UInt8} {y : Int × Int} {n : Int} (hn : 0 ≤ n) (h : readM x = some y) (h2 : 0 < (spanM y n).2) : okZ n (spanM y n) := by
  obtain ⟨a, b⟩ := y
  have hb := readM_bd h
  unfold okZ
  unfold spanM at h2 ⊢
  split at h2
  · rename_i h3; rw [if_pos h3]; simp only at *; omega
  · rename_i h3
    rw [if_neg h3]
    split at h2
    · rename_i h4; rw [if_pos h4]; simp only at *; omega
    · rename_i h4; rw [if_neg h4]; simp only at *; omega
theorem fold_ok {n : Int} (hn : 0 ≤ n) : ∀ (l : List (List UInt8)) (acc : Option (List (Int × Int))) (m : Nat), (∀ zs, acc = some zs → (∀ z ∈ zs, okZ n z) ∧ zs.length ≤ m) → ∀ zs, l.foldl (stepS n) acc = some zs → (∀ z ∈ zs, okZ n z) ∧ zs.length ≤ m + l.length
  | [], acc, m, h, zs, e => by have := h zs e; exact ⟨this.1, by simp; exact this.2⟩
  | x :: l, acc, m, h, zs, e => by
    have := fold_ok hn l (stepS n acc x) (m + 1) (fun zs' e' => by
      unfold stepS at e'
      split at e'
      · rename_i zs0 y h1
        injection e' with e'
        have h0 := h zs0 rfl
        subst e'
        split
        · rename_i hp
          refine ⟨fun z hz => ?_, by simp; exact h0.2⟩
          rcases List.mem_append.1 hz with hz | hz
          · exact h0.1 z hz
          · simp at hz; subst hz; exact okZ_span hn h1 hp
        · exact ⟨h0.1, by omega⟩
      · cases e') zs e
    exact ⟨this.1, by simp; omega⟩
theorem parseM_ok {l : List UInt8} {n : Int} {zs : List (Int × Int)} (h : parseM l n = some zs) : (∀ z ∈ zs, okZ n z) ∧ zs.length ≤ 4 := by
  unfold parseM at h
  split at h
  · rename_i hk
    unfold okP at hk
    simp only [Bool.and_eq_true, decide_eq_true_eq] at hk
    have := fold_ok hk.1.1.1.1 _ (some []) 0 (fun zs e => by injection e with e; subst e; simp) zs h
    exact ⟨this.1, by omega⟩
  · cases h
theorem ck_st (r : Req) (v mt : Int) : checkM r v mt = 0 ∨ checkM r v mt = 304 ∨ checkM r v mt = 412 := by
  unfold checkM ckF
  split
  · simp
  · split
    · simp
    · split
      · split <;> simp
      · split <;> simp
theorem choose_ok (r : Req) (there : Bool) (v mt len : Int) : ((chooseM r there v mt len).1 ∈ [200, 206, 304, 400, 404, 405, 412, 416]) ∧ (∀ z ∈ (chooseM r there v mt len).2, okZ len z) ∧ (chooseM r there v mt len).2.length ≤ 4 ∧ ((chooseM r there v mt len).1 = 206 → (chooseM r there v mt len).2 ≠ []) := by
  have hc := ck_st r v mt
  unfold chooseM
  split
  · simp
  · split
    · simp
    · split
      · simp
      · split
        · rcases hc with e | e | e
          · contradiction
          · rw [e]; simp
          · rw [e]; simp
        · split
          · simp
          · cases hp : parseM (allF r.fs rgL) len with
            | none => simp
            | some zs =>
              have hz := parseM_ok hp
              cases zs with
              | nil => simp
              | cons z zs => exact ⟨by simp, hz.1, hz.2, by simp⟩
theorem choose_st (r : Req) (there : Bool) (v mt len : Int) : 0 ≤ (chooseM r there v mt len).1 ∧ (chooseM r there v mt len).1 ≤ 9999 := by
  have := (choose_ok r there v mt len).1
  simp at this
  omega
theorem okZ_sp {len : Int} {z : Int × Int} (hl : len ≤ 35184372088832) (h : okZ len z) : 0 ≤ z.1 ∧ z.1 ≤ 35184372088832 ∧ 0 ≤ z.2 ∧ z.2 ≤ 35184372088832 := by unfold okZ at h; omega
theorem body_len {st : Int} (h0 : 0 ≤ st) (h1 : st ≤ 9999) : (bodyT st).length ≤ 100 := by
  have h2 := dec3 (n := st.toNat) (by omega)
  have h3 := rsn_len st
  unfold bodyT
  simp only [List.length_append, List.length_cons, List.length_nil]
  omega
theorem lay_ok {st len : Int} {kd : List UInt8} {zs : List (Int × Int)} (h0 : 0 ≤ st) (h1 : st ≤ 9999) (hl0 : 0 ≤ len) (hl1 : len ≤ 35184372088832) (hk : kd.length ≤ 300)
    (hz : ∀ z ∈ zs, 0 ≤ z.1 ∧ z.1 ≤ 35184372088832 ∧ 0 ≤ z.2 ∧ z.2 ≤ 35184372088832) : ∀ p ∈ layG st len kd zs, okPt p := by
  intro p hp
  unfold layG at hp
  split at hp
  · simp at hp; subst hp; unfold okPt; simp; omega
  · split at hp
    · rcases List.mem_append.1 hp with hp | hp
      · obtain ⟨z, hzm, hp⟩ := List.mem_flatMap.1 hp
        have hzz := hz z hzm
        have hc := contL_len z.1 z.2 len ⟨hzz.1, hzz.2.1⟩ ⟨hzz.2.2.1, hzz.2.2.2⟩ ⟨hl0, hl1⟩
        have h16 : boundL.length = 16 := rfl
        unfold spP at hp
        split at hp
        · simp at hp
          rcases hp with rfl | rfl
          · unfold okPt rgheadL typeL rangeL; simp; omega
          · unfold okPt; simp; omega
        · simp at hp; subst hp; unfold okPt; simp; omega
      · split at hp
        · simp at hp; subst hp; unfold okPt; refine ⟨by decide, by decide, by decide⟩
        · cases hp
    · split at hp
      · cases hp
      · simp at hp; subst hp
        have := body_len h0 h1
        unfold okPt; simp; omega
theorem parts_ok {st len : Int} {kd : List UInt8} {zs : List (Int × Int)} (h0 : 0 ≤ st) (h1 : st ≤ 9999) (hl0 : 0 ≤ len) (hl1 : len ≤ 35184372088832) (hk : kd.length ≤ 300)
    (hz : ∀ z ∈ zs, 0 ≤ z.1 ∧ z.1 ≤ 35184372088832 ∧ 0 ≤ z.2 ∧ z.2 ≤ 35184372088832) : ∀ p ∈ partsG st len kd zs, okPt p := fun p hp => lay_ok h0 h1 hl0 hl1 hk hz p (List.mem_filter.1 hp).1
end
/-! ### respond in plain words: a head is lines. -/
section
open Go.RowKit
set_option linter.unusedVariables false
set_option linter.unusedSimpArgs false
set_option maxRecDepth 100000
def ln (n v : List UInt8) : List UInt8 := n ++ 58 :: 32 :: v
def optL (b : Bool) (l : List UInt8) : List (List UInt8) := if b then [l] else []
def stL (st : Int) : List UInt8 := [72, 84, 84, 80, 47, 49, 46, 49, 32] ++ (decL st.toNat ++ 32 :: rsnL st)
def HdA.ctl (a : HdA) : List (List UInt8) := if (a.st == 200 || a.one) = true then [ln ctN a.kd] else if (a.st == 206) = true then [ln ctN mpV] else optL (a.st != 304) (ln ctN txtV)
def HdA.crl (a : HdA) : List (List UInt8) := if a.one = true then [ln crN (contL (a.zs.headD (0, 0)).1 (a.zs.headD (0, 0)).2 a.len)] else []
noncomputable def headLs (a : HdA) : List (List UInt8) :=
  optL (mayB a.now) (ln dateN (dateT a.now)) ++ (optL true (ln servN pantV) ++ (optL (a.body || a.st == 304) (ln etagN (tagL a.v a.mt)) ++ (optL (a.body && mayB a.mt) (ln lmN (dateT a.mt)) ++ (optL (a.st == 200) (ln arN bytV) ++ (optL (a.st == 405) (ln allowN ghV) ++
  (a.ctl ++ (a.crl ++ (optL (a.st == 416) (ln crN (noneL a.len)) ++ (optL (a.st != 304) (ln clN (itoaL a.n)) ++ (optL a.cl (ln connN closV) ++ optL (!a.cl && a.minor == 0) (ln connN keepV)))))))))))
theorem joinH_opt (b : Bool) (n v : List UInt8) (r : List (List UInt8)) : joinH (optL b (ln n v) ++ r) = hdrB b n v ++ joinH r := by
  cases b
  · rfl
  · simp [optL, hdrB, hdr, ln, joinH]
theorem joinH_opt0 (b : Bool) (n v : List UInt8) : joinH (optL b (ln n v)) = hdrB b n v ++ [13, 10] := by
  have := joinH_opt b n v []
  rw [List.append_nil] at this
  exact this
theorem head_lines (a : HdA) : headS a = joinH (stL a.st :: headLs a) := by
  have h1 : ∀ r, joinH (a.ctl ++ r) = a.ct ++ joinH r := fun r => by
    unfold HdA.ctl HdA.ct
    split
    · exact joinH_opt true _ _ r
    · split
      · exact joinH_opt true _ _ r
      · exact joinH_opt _ _ _ r
  have h2 : ∀ r, joinH (a.crl ++ r) = a.cr ++ joinH r := fun r => by
    unfold HdA.crl HdA.cr
    split
    · exact joinH_opt true _ _ r
    · rfl
  have h3 : hdr servN pantV = hdrB true servN pantV := rfl
  unfold headS headLs
  rw [h3]
  show _ = stL a.st ++ 13 :: 10 :: joinH _
  rw [joinH_opt, joinH_opt, joinH_opt, joinH_opt, joinH_opt, joinH_opt, h1, h2, joinH_opt, joinH_opt, joinH_opt, joinH_opt0]
  simp [line1, stL]
end
/-! ### respond in plain words: no line of a head holds an end. -/
section
open Go.RowKit
set_option linter.unusedVariables false
set_option linter.unusedSimpArgs false
set_option maxRecDepth 100000
def cleanL (l : List UInt8) : Prop := ∀ c ∈ l, c ≠ 13 ∧ c ≠ 10
theorem cleanL.app {a b : List UInt8} (h : cleanL a) (k : cleanL b) : cleanL (a ++ b) := fun c hc => (List.mem_append.1 hc).elim (h c) (k c)
theorem cleanL.cons {x : UInt8} {b : List UInt8} (h : x ≠ 13 ∧ x ≠ 10) (k : cleanL b) : cleanL (x :: b) := fun c hc => by
  rcases List.mem_cons.1 hc with rfl | hc
  · exact h
  · exact k c hc
theorem cleanL.nil : cleanL [] := fun c hc => by cases hc
theorem cl_dec : ∀ n : Nat, cleanL (decL n) := by
  intro n
  induction n using Nat.strongRecOn with
  | _ n ih =>
    have hd : ∀ k, k < 10 → (UInt8.ofNat (48 + k) ≠ 13 ∧ UInt8.ofNat (48 + k) ≠ 10) := by
      intro k hk
      rcases (by omega : k = 0 ∨ k = 1 ∨ k = 2 ∨ k = 3 ∨ k = 4 ∨ k = 5 ∨ k = 6 ∨ k = 7 ∨ k = 8 ∨ k = 9) with rfl | rfl | rfl | rfl | rfl | rfl | rfl | rfl | rfl | rfl <;> decide
    by_cases h : n < 10
    · rw [decL_small h]
      exact cleanL.cons (hd n h) cleanL.nil
    · rw [decL_big h]
      exact (ih (n / 10) (by omega)).app (cleanL.cons (hd _ (by omega)) cleanL.nil)
theorem cl_itoa (v : Int) : cleanL (itoaL v) := by
  rcases Int.eq_nat_or_neg v with ⟨n, rfl | rfl⟩
  · rw [itoaL_nat]; exact cl_dec n
  · rcases Nat.eq_zero_or_pos n with rfl | h
    · show cleanL (itoaL ((0 : Nat) : Int)); rw [itoaL_nat]; exact cl_dec 0
    · rw [itoaL_neg n h]; exact cleanL.cons (by decide) (cl_dec n)
theorem cl_lit {l : List UInt8} (h : (l.all fun c => c != 13 && c != 10) = true) : cleanL l := fun c hc => by
  have := List.all_eq_true.1 h c hc
  simpa using this
theorem cl_rsn (st : Int) : cleanL (rsnL st) := by
  rcases rsn_cases st with (rfl | rfl | rfl | rfl | rfl | rfl | rfl | rfl | rfl | rfl | rfl | rfl) | ⟨h0, h1, h2, h3, h4, h5, h6, h7, h8, h9, h10, h11⟩
  all_goals first | exact cl_lit (by decide) | (simp only [rsnL, h0, h1, h2, h3, h4, h5, h6, h7, h8, h9, h10, h11, if_false]; exact cl_lit (by decide))
theorem cl_digL (n w : Nat) : cleanL (digL n w) := by
  unfold digL
  refine cleanL.app (fun c hc => ?_) (cl_dec n)
  rw [List.eq_of_mem_replicate hc]
  decide
theorem cl_mem {ls : List (List UInt8)} (h : (ls.all fun l => l.all fun c => c != 13 && c != 10) = true) {i : Nat} {l : List UInt8} (hl : ls[i]? = some l) : cleanL l :=
  cl_lit (List.all_eq_true.1 h l (List.mem_of_getElem? hl))
theorem cl_date (n : Int) : cleanL (dateT n) := by
  unfold dateT
  split
  · rename_i h
    obtain ⟨y, m, d, hh, mi, s, wd, a, b, c, ha, hb, e⟩ := Classical.choose_spec h
    rw [e]
    have h1 := cl_mem (ls := wdN) (by decide) ha
    have h2 := cl_mem (ls := moN) (by decide) hb
    unfold prL
    exact (((((((((h1.app (cl_lit (by decide))).app (cl_digL _ _)).app (cl_lit (by decide))).app h2).app (cl_lit (by decide))).app (cl_digL _ _)).app (cl_lit (by decide))).app (((((cl_digL _ _).app (cl_lit (by decide))).app (cl_digL _ _)).app (cl_lit (by decide))).app (cl_digL _ _))).app (cl_lit (by decide)))
  · exact cleanL.nil
theorem cl_ln {n v : List UInt8} (h : cleanL n) (k : cleanL v) : cleanL (ln n v) := h.app (cleanL.cons (by decide) (cleanL.cons (by decide) k))
theorem cl_tag (v m : Int) : cleanL (tagL v m) := cleanL.cons (by decide) (cleanL.cons (by decide) ((cl_itoa v).app (cleanL.cons (by decide) ((cl_itoa m).app (cl_lit (by decide))))))
theorem cl_cont (f l n : Int) : cleanL (contL f l n) := by
  unfold contL
  exact cleanL.cons (by decide) (cleanL.cons (by decide) (cleanL.cons (by decide) (cleanL.cons (by decide) (cleanL.cons (by decide) (cleanL.cons (by decide) ((cl_itoa f).app (cleanL.cons (by decide) ((cl_itoa _).app (cleanL.cons (by decide) (cl_itoa n))))))))))
theorem cl_none (n : Int) : cleanL (noneL n) := by
  unfold noneL
  exact (cl_lit (l := [98, 121, 116, 101, 115, 32, 42, 47]) (by decide)).app (cl_itoa n)
theorem cl_st (st : Int) : cleanL (stL st) := (cl_lit (by decide)).app ((cl_dec _).app (cleanL.cons (by decide) (cl_rsn st)))
theorem ln_ne (n v : List UInt8) : ln n v ≠ [] := by unfold ln; simp
theorem opt_ok {b : Bool} {n v : List UInt8} (h : cleanL n) (k : cleanL v) : ∀ l ∈ optL b (ln n v), lineH l := fun l hl => by
  cases b
  · cases hl
  · simp [optL] at hl
    subst hl
    exact ⟨ln_ne _ _, cl_ln h k⟩
theorem app_ok {a b : List (List UInt8)} (h : ∀ l ∈ a, lineH l) (k : ∀ l ∈ b, lineH l) : ∀ l ∈ a ++ b, lineH l := fun l hl => (List.mem_append.1 hl).elim (h l) (k l)
theorem ctl_ok (a : HdA) (hk : cleanL a.kd) : ∀ l ∈ a.ctl, lineH l := by
  unfold HdA.ctl
  split
  · exact opt_ok (b := true) (cl_lit (by decide)) hk
  · split
    · exact opt_ok (b := true) (cl_lit (by decide)) (cl_lit (by decide))
    · exact opt_ok (cl_lit (by decide)) (cl_lit (by decide))
theorem crl_ok (a : HdA) : ∀ l ∈ a.crl, lineH l := by
  unfold HdA.crl
  split
  · exact opt_ok (b := true) (cl_lit (by decide)) (cl_cont _ _ _)
  · intro l hl; cases hl
theorem lines_ok (a : HdA) (hk : cleanL a.kd) : ∀ l ∈ stL a.st :: headLs a, lineH l := by
  have hh : ∀ l ∈ headLs a, lineH l := by
    unfold headLs
    exact app_ok (opt_ok (cl_lit (by decide)) (cl_date _)) (app_ok (opt_ok (cl_lit (by decide)) (cl_lit (by decide))) (app_ok (opt_ok (cl_lit (by decide)) (cl_tag _ _)) (app_ok (opt_ok (cl_lit (by decide)) (cl_date _)) (app_ok (opt_ok (cl_lit (by decide)) (cl_lit (by decide))) (app_ok (opt_ok (cl_lit (by decide)) (cl_lit (by decide))) (app_ok (ctl_ok a hk) (app_ok (crl_ok a) (app_ok (opt_ok (cl_lit (by decide)) (cl_none _)) (app_ok (opt_ok (cl_lit (by decide)) (cl_itoa _)) (app_ok (opt_ok (cl_lit (by decide)) (cl_lit (by decide))) (opt_ok (cl_lit (by decide)) (cl_lit (by decide)))))))))))))
  intro l hl
  rcases List.mem_cons.1 hl with rfl | hl
  · exact ⟨by unfold stL; simp, cl_st _⟩
  · exact hh l hl
end
/-! ### respond in plain words: what lines are found in a head. -/
section
open Go.RowKit
set_option linter.unusedVariables false
set_option linter.unusedSimpArgs false
set_option maxRecDepth 100000
theorem mem_opt {b : Bool} {x l : List UInt8} : x ∈ optL b l ↔ b = true ∧ x = l := by cases b <;> simp [optL]
theorem ne_take {n m v u : List UInt8} (h : (ln n v).take 4 ≠ (ln m u).take 4) : ln n v ≠ ln m u := fun e => h (by rw [e])
theorem conn_ne {m u : List UInt8} (h : m ∈ [dateN, servN, etagN, lmN, arN, allowN, crN, clN, ctN]) : ln connN closV ≠ ln m u := by
  refine ne_take ?_
  simp only [List.mem_cons, List.not_mem_nil, or_false] at h
  rcases h with rfl | rfl | rfl | rfl | rfl | rfl | rfl | rfl | rfl <;> simp [ln, connN, dateN, servN, etagN, lmN, arN, allowN, crN, clN, ctN]
theorem conn_mem (a : HdA) : ln connN closV ∈ headLs a ↔ a.cl = true := by
  have hk : ln connN closV ≠ ln connN keepV := by decide
  have h1 : ln connN closV ∉ a.ctl := by
    unfold HdA.ctl
    split
    · simp only [List.mem_cons, List.not_mem_nil, or_false]; exact conn_ne (by simp)
    · split
      · simp only [List.mem_cons, List.not_mem_nil, or_false]; exact conn_ne (by simp)
      · rw [mem_opt]; exact fun h => conn_ne (by simp) h.2
  have h2 : ln connN closV ∉ a.crl := by
    unfold HdA.crl
    split
    · simp only [List.mem_cons, List.not_mem_nil, or_false]; exact conn_ne (by simp)
    · simp
  unfold headLs
  simp only [List.mem_append, mem_opt, h1, h2, false_or]
  constructor
  · rintro (h | h | h | h | h | h | h | h | h | h)
    · exact absurd h.2 (conn_ne (by simp))
    · exact absurd h.2 (conn_ne (by simp))
    · exact absurd h.2 (conn_ne (by simp))
    · exact absurd h.2 (conn_ne (by simp))
    · exact absurd h.2 (conn_ne (by simp))
    · exact absurd h.2 (conn_ne (by simp))
    · exact absurd h.2 (conn_ne (by simp))
    · exact absurd h.2 (conn_ne (by simp))
    · exact h.1
    · exact absurd h.2 hk
  · intro h
    simp [h]
theorem conn_st (st : Int) : ln connN closV ≠ stL st := fun e => by
  have := congrArg (List.take 1) e
  simp [ln, connN, stL] at this
def connLn : List UInt8 := 13 :: 10 :: (ln connN closV ++ [13, 10])
/-- That it closes is told just where it does. -/
theorem closes_iff (a : HdA) (hk : cleanL a.kd) : (∃ i, ((headS a).drop i).take 21 = connLn) ↔ a.cl = true := by
  rw [head_lines]
  constructor
  · rintro ⟨i, hi⟩
    have hx : lineH (ln connN closV) := ⟨ln_ne _ _, cl_lit (by decide)⟩
    have := found_line (lines_ok a hk) hx (i := i) hi
    rcases List.mem_cons.1 this with h | h
    · exact absurd h (conn_st _)
    · exact (conn_mem a).1 h
  · intro h
    exact line_found2 ((conn_mem a).2 h)
theorem end4 : ∀ (ls : List (List UInt8)) (l : List UInt8), ∃ p, joinH (l :: ls) = p ++ [13, 10, 13, 10]
  | [], l => ⟨l, rfl⟩
  | m :: ls, l => by
    obtain ⟨p, hp⟩ := end4 ls m
    exact ⟨l ++ 13 :: 10 :: p, by show l ++ 13 :: 10 :: joinH (m :: ls) = _; rw [hp]; simp⟩
theorem len_ne {m u x : List UInt8} (h : m ∈ [dateN, servN, etagN, lmN, arN, allowN, connN]) : ln clN x ≠ ln m u := by
  refine ne_take ?_
  simp only [List.mem_cons, List.not_mem_nil, or_false] at h
  rcases h with rfl | rfl | rfl | rfl | rfl | rfl | rfl <;> simp [ln, connN, dateN, servN, etagN, lmN, arN, allowN, clN]
/-- A head that is not one of 304 tells the length; one of 304 tells none. -/
theorem len_mem (a : HdA) (h : a.st ≠ 304) : ln clN (itoaL a.n) ∈ headLs a := by
  have hb : (a.st != 304) = true := by simpa using h
  unfold headLs
  simp [List.mem_append, mem_opt, hb]
theorem len_not (a : HdA) (h : a.st = 304) (x : List UInt8) : ln clN x ∉ headLs a := by
  have h1 : a.ctl = [] := by unfold HdA.ctl HdA.one; rw [h]; rfl
  have h2 : a.crl = [] := by unfold HdA.crl HdA.one; rw [h]; rfl
  have h3 : (a.st != 304) = false := by rw [h]; rfl
  have h4 : (a.st == 416) = false := by rw [h]; rfl
  unfold headLs
  rw [h1, h2, h3, h4]
  simp only [List.mem_append, mem_opt, List.not_mem_nil, false_or, Bool.false_eq_true, false_and]
  rintro (h | h | h | h | h | h | h | h) <;> exact absurd h.2 (len_ne (by simp))
theorem len_st (st : Int) (x : List UInt8) : ln clN x ≠ stL st := fun e => by
  have := congrArg (List.take 1) e
  simp [ln, clN, stL] at this
def lenLn (n : Int) : List UInt8 := 13 :: 10 :: (ln clN (itoaL n) ++ [13, 10])
theorem cl_ctl304 (a : HdA) (h : a.st = 304) : headS a = headS { a with kd := [] } := by
  unfold headS HdA.ct HdA.one HdA.body HdA.cr HdA.one
  simp only
  rw [h]
  rfl
theorem length_iff (a : HdA) : (∃ i, ((headS a).drop i).take ((ln clN (itoaL a.n)).length + 4) = lenLn a.n) ↔ a.st ≠ 304 := by
  constructor
  · rintro ⟨i, hi⟩ h
    rw [cl_ctl304 a h, head_lines] at hi
    have hx : lineH (ln clN (itoaL a.n)) := ⟨ln_ne _ _, cl_ln (cl_lit (by decide)) (cl_itoa _)⟩
    have := found_line (lines_ok { a with kd := [] } cleanL.nil) hx (i := i) hi
    rcases List.mem_cons.1 this with h2 | h2
    · exact len_st _ _ h2
    · exact len_not { a with kd := [] } h _ h2
  · intro h
    rw [head_lines]
    exact line_found2 (len_mem a h)
end
end Go.Proofs.YtnmafahbdfilcaaGreatDoor
