/- ServeResp in plain words. The document's Of of a path. pantlerref28.Answer: the document's answer to a request. pantlerref28.Resp: the document's answers to any bytes. A plan's new block. -/
import Derived.Test.YtnmafahbdfilcaaGreatDoorPC35
import Derived.Test.YtnmafahbdfilcaaGreatDoorPC27
import Derived.BigQuiet
import Derived.Deep.Cut
import Derived.Test.YtnmafahbdfilcaaGreatDoorPC28
namespace Go.Proofs.YtnmafahbdfilcaaGreatDoor
/-! ### ServeResp in plain words. -/
section
open Go.RowKit
set_option linter.unusedVariables false
set_option linter.unusedSimpArgs false
set_option maxRecDepth 100000
theorem spl_sum (c : UInt8) (l : List UInt8) : ((spl c l).map fun x => x.length).sum + (spl c l).length = l.length + 1 := by
  induction l with
  | nil => rfl
  | cons x r ih =>
    rw [spl]
    split
    · simp only [List.map_cons, List.sum_cons, List.length_cons, List.length_nil]; omega
    · cases hs : spl c r with
      | nil =>
        rw [hs] at ih
        simp at ih
      | cons a b =>
        rw [hs] at ih
        simp only [List.map_cons, List.sum_cons, List.length_cons, List.headD_cons, List.tail_cons] at ih ⊢
        omega
theorem first_len12 {l m t : List UInt8} {a b : UInt8} (h : firstL l = some (m, t, a, b)) : 12 ≤ l.length := by
  unfold firstL at h
  split at h
  · rename_i m' t' v' e
    have hs := spl_sum 32 l
    rw [e] at hs
    simp only [List.map_cons, List.sum_cons, List.length_cons, List.map_nil, List.sum_nil, List.length_nil] at hs
    unfold firstP at h
    split at h
    · rename_i hh
      obtain ⟨h1, h2, _⟩ := hh
      have hm : 0 < m'.length := by
        cases m' with
        | nil => exact absurd h1 (by decide)
        | cons x y => simp
      have ht : 0 < t'.length := List.length_pos_iff.2 h2
      unfold verL at h
      split at h
      · have h3 : (v'.drop 5).length = 3 := by
          by_cases hh : (v'.drop 5).length = 3
          · exact hh
          · rw [ver3_len hh] at h; cases h
        rw [List.length_drop] at h3
        omega
      · cases h
    · cases h
  · cases h
theorem ofF_len12 {ls : List (List UInt8)} (h : (ofF ls).2 = 0) : ∃ l r, ls = l :: r ∧ 12 ≤ l.length := by
  cases ls with
  | nil => simp [ofF] at h
  | cons l r =>
    refine ⟨l, r, rfl, ?_⟩
    cases hf : firstL l with
    | none => simp [ofF, hf] at h
    | some x =>
      obtain ⟨m, t, a, b⟩ := x
      exact first_len12 hf
theorem headG_suf : ∀ (f : Nat) (ls : List (List UInt8)) (s : List UInt8) {xs : List (List UInt8)} {r : List UInt8}, headG f ls s = (xs, r, 0) → r <:+ s := by
  intro f
  induction f with
  | zero => intro ls s xs r h; simp [headG] at h
  | succ f ih =>
    intro ls s xs r h
    rw [headG] at h
    cases hl : lineL s with
    | wrong => simp [hl] at h
    | more => simp [hl] at h
    | got l a =>
      have hg := lineL_got hl
      have hsuf : a <:+ s := by rw [hg]; exact List.IsSuffix.trans ⟨[13, 10], rfl⟩ (List.suffix_append _ _)
      rw [hl] at h
      simp only at h
      split at h
      · exact (ih _ _ h).trans hsuf
      · split at h
        · injection h with h1 h; injection h with h _; subst h; exact hsuf
        · exact (ih _ _ h).trans hsuf
/-- A request takes 16 bytes at least; what is left stands at the end. -/
theorem next_16 {b rest : List UInt8} {r : Req} (hb : b.length < 1024) (e : nextF b = (r, 0, rest, false)) : rest.length + 16 ≤ b.length ∧ b.drop (b.length - rest.length) = rest := by
  have h := next_G hb (b.length + 1) (by omega)
  rcases headG_st (b.length + 1) [] b with e1 | e1 | ⟨xs, rr, e1⟩
  · rw [e1, e] at h; simp at h
  · rw [e1, e] at h; simp at h
  · have hl := headG_sum _ _ _ e1
    have hs := headG_suf _ _ _ e1
    rw [e1, e] at h
    simp only at h
    rw [if_neg (by decide), if_pos trivial] at h
    by_cases h0 : (ofF xs).2 = 0
    · rw [if_pos h0] at h
      have hr : rest = rr := by simpa using (congrArg (fun p => p.2.2.1) h)
      subst hr
      obtain ⟨l, r', rfl, hl8⟩ := ofF_len12 h0
      simp only [List.map_cons, List.sum_cons, List.map_nil, List.sum_nil] at hl
      exact ⟨by omega, (List.suffix_iff_eq_drop.1 hs).symm⟩
    · rw [if_neg h0] at h
      exact absurd (congrArg (fun p => p.2.2.2) h) (by simp)
theorem choose_400 (r : Req) (there : Bool) (v mt len : Int) : ((chooseM r there v mt len).1 == 400) = (readsM r.m && !(r.t.head? == some 47)) := by
  have hc := ck_st r v mt
  unfold chooseM
  cases h1 : readsM r.m with
  | false => simp
  | true =>
    cases h2 : (r.t.head? == some 47) with
    | false => simp
    | true =>
      simp only [Bool.true_eq_false, if_false, Bool.not_true, Bool.and_false]
      cases there with
      | false => simp
      | true =>
        simp only [Bool.true_eq_false, if_false]
        split
        · rcases hc with e | e | e <;> rw [e] <;> rfl
        · split
          · rfl
          · split <;> rfl
theorem findL_nil (l : List Fl) : findL l [] = (noFl, false) := by
  induction l with
  | nil => rfl
  | cons f l ih =>
    unfold findL flHit
    simp [ih]
theorem findL_there (l : List Fl) (nm : List UInt8) : ((findL l nm).2 && !(nm == [])) = (findL l nm).2 := by
  cases nm with
  | nil => simp [findL_nil]
  | cons x y => simp
/-- The plan's close is the ask's end. -/
theorem plan_ends (l : List Fl) (now : Int) (a : AskP) : (planL l now a).2.2.2 = endsB a := by
  unfold planL planT endsB
  by_cases h : a.2.1 = 0
  · rw [if_pos h]
    simp only [h, choose_400]
    simp
  · rw [if_neg h]
    have : (a.2.1 == 0) = false := by simpa using h
    simp [this]
/-- The document's answer to a request. -/
theorem plan_good (l : List Fl) (now : Int) (nm : List UInt8) (r : Req) : planL l now (nm, 0, r) = ((chooseM r (findL l nm).2 (findL l nm).1.v (findL l nm).1.mt (findL l nm).1.s.length).1, ofH r (findL l nm).2 (findL l nm).1.v (findL l nm).1.mt (findL l nm).1.s.length (kindL nm) now, ofP r (findL l nm).2 (findL l nm).1.v (findL l nm).1.mt (findL l nm).1.s.length (kindL nm), r.close || (chooseM r (findL l nm).2 (findL l nm).1.v (findL l nm).1.mt (findL l nm).1.s.length).1 == 400) := by
  unfold planL planT
  simp only [if_true, findL_there]
theorem ans_bad (l : List Fl) (now st : Int) (r : Req) (h : st ≠ 0) : ansT l now ([], st, r) = txtP (wrH st now) (partsG (wrS st) 0 [] []) [] := by
  unfold ansT planL planT
  simp only [if_neg h, findL_nil]
  rfl
theorem ofL_err {t : List UInt8} (h : ¬ (ofL t).2 = 0) : (ofL t).1 = [] := by
  unfold ofL at h ⊢
  split at h
  · rw [if_pos ‹_›]
  · rw [if_neg ‹_›]
    split at h
    · rw [if_pos ‹_›]
    · rw [if_neg ‹_›]
      split at h
      · exact absurd rfl h
      · rw [if_neg ‹_›]
        split at h
        · rfl
        · split at h
          · exact absurd rfl h
          · rw [if_neg ‹_›]
theorem nxtOp_bad2 {b : List UInt8} {st : Int} (hst : 0 < st) (e : nextF b = (noReq, st, [], true)) : nxtOp b false = some ([], st, noReq) := by
  unfold nxtOp nxt
  simp only [Bool.false_eq_true, if_false, e]
  rw [if_neg (by omega), if_neg (by omega)]
/-- What stands between the bytes that came, x, those that are left, b, and the answers. -/
def Srv (l : List Fl) (now : Int) (x b o : List UInt8) (over : Bool) : Prop :=
  (over = false → ∀ c, x.length + c.length ≤ 900 → b.length ≤ x.length ∧ ansF l now 100 (x ++ c) = (o ++ (ansF l now 100 (b ++ c)).1, (ansF l now 100 (b ++ c)).2)) ∧
  (over = true → ∀ c, x.length + c.length ≤ 900 → ∃ k, ansF l now 100 (x ++ c) = (o, true, k))
theorem srv_start (l : List Fl) (now : Int) : Srv l now [] [] [] false := ⟨fun _ c _ => ⟨Nat.le_refl _, by simp⟩, fun e => by cases e⟩
theorem srv_feed {l : List Fl} {now : Int} {x b o y : List UInt8} (h : Srv l now x b o false) : Srv l now (x ++ y) (b ++ y) o false := by
  refine ⟨fun _ c hc => ?_, fun e => by cases e⟩
  rw [List.length_append] at hc
  obtain ⟨h1, h2⟩ := h.1 rfl (y ++ c) (by rw [List.length_append]; omega)
  refine ⟨by rw [List.length_append, List.length_append]; omega, ?_⟩
  rw [List.append_assoc, List.append_assoc, h2]
theorem srv_fed {l : List Fl} {now : Int} {x b o y b' : List UInt8} (h : Srv l now x b o true) : Srv l now (x ++ y) b' o true := by
  refine ⟨fun e => (by cases e), fun _ c hc => ?_⟩
  rw [List.length_append] at hc
  obtain ⟨k, h2⟩ := h.2 rfl (y ++ c) (by rw [List.length_append]; omega)
  exact ⟨k, by rw [List.append_assoc, h2]⟩
theorem srv_none {l : List Fl} {now : Int} {x b o : List UInt8} (h : Srv l now x b o false) (hx : x.length ≤ 900) (hn : nxtOp b false = none) : nextF b = (noReq, -1, b, false) ∧ ansF l now 100 x = (o, false, b.length) := by
  obtain ⟨h1, h2⟩ := h.1 rfl [] (by simpa using hx)
  obtain ⟨e1, e2⟩ := rnd_none l now (b := b) (by omega) hn
  rw [List.append_nil, List.append_nil, e2] at h2
  exact ⟨e1, by simpa using h2⟩
theorem srv_over {l : List Fl} {now : Int} {x b o : List UInt8} (h : Srv l now x b o true) (hx : x.length ≤ 900) : ∃ k, ansF l now 100 x = (o, true, k) := by
  obtain ⟨k, h2⟩ := h.2 rfl [] (by simpa using hx)
  rw [List.append_nil] at h2
  exact ⟨k, h2⟩
/-- One round. -/
theorem srv_some {l : List Fl} {now : Int} {x b o : List UInt8} {a : AskP} (h : Srv l now x b o false) (hx : x.length ≤ 900) (hn : nxtOp b false = some a) :
    b.length ≤ x.length ∧ (nextF b).2.2.1.length ≤ b.length ∧ Srv l now x (nextF b).2.2.1 (o ++ ansT l now a) (endsB a) ∧ (endsB a = false → (nextF b).2.2.2 = false ∧ (nextF b).2.2.1.length + 16 ≤ b.length) := by
  have hbx := (h.1 rfl [] (by simpa using hx)).1
  have hb : b.length ≤ 900 := by omega
  rcases next_cases (b := b) (by omega) with ⟨e, _⟩ | ⟨st, hst, e⟩ | ⟨r, rest, e, hl⟩
  · rw [nxtOp_more e] at hn; cases hn
  · rw [nxtOp_bad2 hst e] at hn
    injection hn with hn
    subst hn
    have he : endsB ([], st, noReq) = true := by
      unfold endsB
      have : (st == 0) = false := by simpa using (by omega : st ≠ 0)
      simp [this]
    refine ⟨hbx, by rw [e]; simp, ?_, fun h2 => by rw [he] at h2; cases h2⟩
    rw [he]
    refine ⟨fun e => (by cases e), fun _ c hc => ?_⟩
    have e2 := (next_app (b := b) (c := c) (by omega)).2 st hst e
    refine ⟨(nextF (b ++ c)).2.2.1.length, ?_⟩
    rw [(h.1 rfl c hc).2]
    have E : ansF l now 100 (b ++ c) = (ansT l now ([], st, noReq), true, (nextF (b ++ c)).2.2.1.length) := by
      rw [ansF, nxtOp_bad2 hst e2]; simp only; rw [if_pos he]
    rw [E]
  · have h16 := next_16 (by omega) e
    rw [nxtOp_good e] at hn
    injection hn with hn
    subst hn
    rw [e]
    refine ⟨hbx, (by simp only; omega), ?_, fun _ => ⟨rfl, h16.1⟩⟩
    have E2 : ∀ c, b.length + c.length ≤ 900 → ansF l now 100 (b ++ c) = if endsB ((ofL r.t).1, 0, r) = true then (ansT l now ((ofL r.t).1, 0, r), true, (rest ++ c).length) else (ansT l now ((ofL r.t).1, 0, r) ++ (ansF l now 99 (rest ++ c)).1, (ansF l now 99 (rest ++ c)).2) := by
      intro c hc
      have e2 := (next_app (b := b) (c := c) (by omega)).1 r rest e
      rw [ansF, nxtOp_good e2, e2]
    cases hee : endsB ((ofL r.t).1, 0, r) with
    | true =>
      refine ⟨fun e => (by cases e), fun _ c hc => ⟨(rest ++ c).length, ?_⟩⟩
      rw [(h.1 rfl c hc).2, E2 c (by omega), if_pos hee]
    | false =>
      refine ⟨fun _ c hc => ⟨by simp only; omega, ?_⟩, fun e => by cases e⟩
      rw [(h.1 rfl c hc).2, E2 c (by omega), if_neg (by simp [hee]), ansF_fuel l now 99 100 (rest ++ c) (by simp; omega) (by simp; omega) (by simp; omega)]
      simp
end
/-! ### The document's Of of a path. -/
section
open Go.RowKit
set_option linter.unusedVariables false
set_option maxRecDepth 100000
theorem plainB_not {c : UInt8} (h : plainB c = true) : ¬ c.toNat = 37 ∧ ¬ c.toNat = 63 ∧ ¬ c.toNat = 47 := by
  unfold plainB at h
  simp at h
  omega
theorem segB_plain {l : List UInt8} (h : segB l = true) : l.all plainB = true ∧ l ≠ [] := by
  unfold segB at h
  simp only [Bool.and_eq_true] at h
  refine ⟨h.2, ?_⟩
  rintro rfl
  simp at h
theorem spl_all {c : UInt8} {p : UInt8 → Bool} (l : List UInt8) (h : (spl c l).all (fun x => x.all p) = true) : ∀ x ∈ l, x = c ∨ p x = true := by
  induction l with
  | nil => simp
  | cons y r ih =>
    intro x hx
    rw [spl] at h
    split at h
    · rename_i hy
      rw [List.all_cons, Bool.and_eq_true] at h
      rcases List.mem_cons.1 hx with rfl | hx
      · exact .inl hy
      · exact ih h.2 x hx
    · rw [List.all_cons, Bool.and_eq_true, List.all_cons, Bool.and_eq_true] at h
      rcases List.mem_cons.1 hx with rfl | hx
      · exact .inr h.1.1
      · refine ih ?_ x hx
        cases hs : spl c r with
        | nil => exact absurd hs (spl_ne c r)
        | cons q qs =>
          rw [hs] at h
          rw [List.all_cons, Bool.and_eq_true]
          exact ⟨h.1.2, h.2⟩
theorem bef_app {c : UInt8} {a b : List UInt8} (h : a.contains c = false) : bef c (a ++ c :: b) = a := by
  induction a with
  | nil => simp [bef]
  | cons x r ih =>
    rw [List.contains_cons, Bool.or_eq_false_iff] at h
    have e : ¬ x = c := by have := h.1; simp at this; exact Ne.symm this
    rw [List.cons_append, bef, if_neg e, ih h.2]
theorem spl_mem_plain {l : List UInt8} (h : nameB l = true) {x : UInt8} (hx : x ∈ l) (h47 : x ≠ 47) : plainB x = true := by
  unfold nameB at h
  rw [Bool.and_eq_true, decide_eq_true_iff] at h
  have ha : (spl 47 l).all (fun x => x.all plainB) = true := by
    rw [List.all_eq_true] at h ⊢
    exact fun x hx => (segB_plain (h.2 x hx)).1
  rcases spl_all l ha x hx with rfl | hp
  · exact absurd rfl h47
  · exact hp


def plainK : List UInt8 := [97, 98, 99, 100, 101, 102, 103, 104, 105, 106, 107, 108, 109, 110, 111, 112, 113, 114, 115, 116, 117, 118, 119, 120, 121, 122, 65, 66, 67, 68, 69, 70, 71, 72, 73, 74, 75, 76, 77, 78, 79, 80, 81, 82, 83, 84, 85, 86, 87, 88, 89, 90, 48, 49, 50, 51, 52, 53, 54, 55, 56, 57, 46, 45, 95]
def digK : List UInt8 := [48, 49, 50, 51, 52, 53, 54, 55, 56, 57, 97, 98, 99, 100, 101, 102, 48, 49, 50, 51, 52, 53, 54, 55, 56, 57, 65, 66, 67, 68, 69, 70]
theorem plainK_is (c : UInt8) : plainK.contains c = plainB c := by
  have : ∀ n : Fin 256, plainK.contains (UInt8.ofNat n.1) = plainB (UInt8.ofNat n.1) := by decide +kernel
  have h := this ⟨c.toNat, c.toNat_lt⟩
  simpa using h
theorem digK_none (c : UInt8) (h : digK.contains c = false) : digI c = -1 := by
  have : ∀ n : Fin 256, digK.contains (UInt8.ofNat n.1) = false → digI (UInt8.ofNat n.1) = -1 := by decide +kernel
  have h' := this ⟨c.toNat, c.toNat_lt⟩
  simp only [UInt8.ofNat_toNat] at h'
  exact h' h
theorem digK_at (k : Nat) (h : k < 32) (c : UInt8) (hc : digK[k]? = some c) : digI c = ((k % 16 : Nat) : Int) := by
  have : ∀ n : Fin 32, ∀ c, digK[n.1]? = some c → digI c = ((n.1 % 16 : Nat) : Int) := by
    intro n c h
    have h2 : ∀ n : Fin 32, (digK[n.1]?).map digI = some ((n.1 % 16 : Nat) : Int) := by decide +kernel
    have := h2 n
    rw [h] at this
    simpa using this
  exact this ⟨k, h⟩ c hc
theorem cont_snoc {α : Type} [BEq α] [LawfulBEq α] (l : List α) (c : α) (k : Nat) (h : k < l.length) : (l.take (k + 1)).contains c = ((l.take k).contains c || (l[k] == c)) := by
  rw [List.take_succ_eq_append_getElem h, List.contains_eq_any_beq, List.contains_eq_any_beq, List.any_append]
  simp [Bool.beq_comm]
theorem cont_hit {l : List UInt8} {c : UInt8} {k : Nat} (h : k < l.length) (e : l[k] = c) : l.contains c = true := by
  rw [List.contains_iff_mem]; rw [← e]; exact List.getElem_mem h
theorem plainK_lit : (⟨(List.append [97, 98, 99, 100, 101, 102, 103, 104, 105, 106, 107, 108, 109, 110, 111, 112, 113, 114, 115, 116, 117, 118, 119, 120, 121, 122, 65, 66, 67, 68, 69, 70] [71, 72, 73, 74, 75, 76, 77, 78, 79, 80, 81, 82, 83, 84, 85, 86, 87, 88, 89, 90, 48, 49, 50, 51, 52, 53, 54, 55, 56, 57, 46, 45, 95]).toArray⟩ : ByteArray) = S plainK := rfl
set_option maxHeartbeats 1000000 in
theorem rplain_any {R : Ending → World → Prop} (c : UInt8) (w : World) (h : R (.returned (.bool (plainB c))) w) : Calls Tryz.prog 128 #[.int .u8 c.toNat] w R := by
  have H := Lib.hid h
  clear h
  go_enter Tryz.func128, Tryz.ntmps128
  go_wp2
  rw [plainK_lit]
  have HK := Lib.hid (plainK_is c)
  have hl : plainK.length = 65 := rfl
  generalize plainK = K at *
  go_loop [4] (fun i => ∃ k : Nat, k ≤ K.length ∧ i = .int .i64 k ∧ Hid ((K.take k).contains c = false)) (fun i => K.length - (intOf i).toNat)
  case atStart => exact ⟨0, Nat.zero_le _, rfl, Lib.hid rfl⟩
  case round =>
    obtain ⟨k, hk, rfl, ha⟩ := hrel
    by_cases hlt : k < K.length
    · obtain ⟨x, hx⟩ : ∃ x, K[k]'hlt = x := ⟨_, rfl⟩
      by_cases hc : x = c
      · have b : ((x.toNat : Int) == (c.toNat : Int)) = true := (u8_beq x c).trans (by simpa using hc)
        have hh : plainB c = true := by rw [← HK.out]; exact cont_hit hlt (hx.trans hc)
        have HH := Lib.hid hh
        clear hc hh
        go_wp2
        exact rcast H.out (by rw [HH.out])
      · have b : ((x.toNat : Int) == (c.toNat : Int)) = false := (u8_beq x c).trans (by simpa using hc)
        have HX : Hid ((K.take (k + 1)).contains c = false) := by
          refine Lib.hid ?_
          rw [cont_snoc K c k hlt, ha.out, hx]; simpa using hc
        clear hc
        go_wp2
        go_round
        case rel => exact ⟨k + 1, by omega, by go_num, HX⟩
        case measure => simp [intOf]; omega
    · go_wp2
      refine rcast H.out (congrArg Value.bool ?_)
      have := ha.out
      rw [List.take_of_length_le (by omega), HK.out] at this
      exact this
theorem digK_lit : (⟨#[48, 49, 50, 51, 52, 53, 54, 55, 56, 57, 97, 98, 99, 100, 101, 102, 48, 49, 50, 51, 52, 53, 54, 55, 56, 57, 65, 66, 67, 68, 69, 70]⟩ : ByteArray) = S digK := rfl
set_option maxHeartbeats 1000000 in
theorem pfdig_any {R : Ending → World → Prop} (c : UInt8) (w : World) (h : R (.returned (.int .i64 (digI c))) w) : Calls Tryz.prog 100 #[.int .u8 c.toNat] w R := by
  have H := Lib.hid h
  clear h
  go_enter Tryz.func100, Tryz.ntmps100
  go_wp2
  rw [digK_lit]
  have HK := Lib.hid (digK_none c)
  have HA := Lib.hid (fun k h => digK_at k h c)
  have hl : digK.length = 32 := rfl
  generalize digK = K at *
  go_loop [4] (fun i => ∃ k : Nat, k ≤ K.length ∧ i = .int .i64 k ∧ Hid ((K.take k).contains c = false)) (fun i => K.length - (intOf i).toNat)
  case atStart => exact ⟨0, Nat.zero_le _, rfl, Lib.hid rfl⟩
  case round =>
    obtain ⟨k, hk, rfl, ha⟩ := hrel
    by_cases hlt : k < K.length
    · obtain ⟨x, hx⟩ : ∃ x, K[k]'hlt = x := ⟨_, rfl⟩
      by_cases hc : x = c
      · have b : ((x.toNat : Int) == (c.toNat : Int)) = true := (u8_beq x c).trans (by simpa using hc)
        have hh := HA.out k (by omega) (by rw [List.getElem?_eq_getElem hlt, hx, hc])
        have HH := Lib.hid hh
        clear hc hh
        go_wp2
        exact ricast H.out (by rw [HH.out]; omega)
      · have b : ((x.toNat : Int) == (c.toNat : Int)) = false := (u8_beq x c).trans (by simpa using hc)
        have HX : Hid ((K.take (k + 1)).contains c = false) := by
          refine Lib.hid ?_
          rw [cont_snoc K c k hlt, ha.out, hx]; simpa using hc
        clear hc
        go_wp2
        go_round
        case rel => exact ⟨k + 1, by omega, by go_num, HX⟩
        case measure => simp [intOf]; omega
    · go_wp2
      refine ricast H.out ?_
      have := ha.out
      rw [List.take_of_length_le (by omega)] at this
      exact HK.out this
theorem take_drop_one {l : List UInt8} {k : Nat} (h : k < l.length) : (l.take (k + 1)).drop k = [l[k]] := by
  rw [List.drop_take, Nat.add_sub_cancel_left, List.drop_eq_getElem_cons h]; rfl
theorem spl_app {c : UInt8} {p r : List UInt8} (h : p.contains c = false) : spl c (p ++ c :: r) = p :: spl c r := by
  rw [spl_eq, if_pos (by simp), bef_app h]
  congr 1
  congr 1
  induction p with
  | nil => simp [aft]
  | cons x p ih =>
    rw [List.contains_cons, Bool.or_eq_false_iff] at h
    have e : ¬ x = c := by have := h.1; simp at this; exact Ne.symm this
    rw [List.cons_append, aft, if_neg e, ih h.2]
theorem spl_none {c : UInt8} {p : List UInt8} (h : p.contains c = false) : spl c p = [p] := by
  rw [spl_eq, h]; rfl
theorem plain_not47 {p : List UInt8} (h : p.all plainB = true) : p.contains 47 = false := by
  rw [List.contains_eq_any_beq, List.any_eq_false]
  intro x hx
  rw [List.all_eq_true] at h
  have := (plainB_not (h x hx)).2.2
  simp only [beq_iff_eq]
  rintro rfl
  exact this rfl
theorem segB_of {p : List UInt8} (h : p.all plainB = true) : segB p = (!(p == []) && !(p == [46]) && !(p == [46, 46])) := by
  unfold segB; rw [h, Bool.and_true]
set_option maxHeartbeats 2000000 in
theorem rname_any {R : Ending → World → Prop} (l : List UInt8) (w : World) (h : R (.returned (.bool (nameB l))) w) : Calls Tryz.prog 101 #[.string (S l)] w R := by
  have H := Lib.hid h
  clear h
  by_cases hl : l.length < 1 ∨ 24 < l.length
  · have hf : nameB l = false := by
      rcases hl with h | h
      · have : l = [] := by cases l with | nil => rfl | cons => simp at h
        subst this; decide +kernel
      · unfold nameB; rw [decide_eq_false (by omega)]; rfl
    have HF := Lib.hid hf
    clear hf
    rcases hl with hl | hl
    all_goals
      go_enter Tryz.func101, Tryz.ntmps101
      go_wp2
      exact rcast H.out (congrArg Value.bool HF.out)
  · have h1 : 1 ≤ l.length := by omega
    have h24 : l.length ≤ 24 := by omega
    have HN : Hid (nameB l = (spl 47 l).all segB) := by
      refine Lib.hid ?_
      unfold nameB; rw [decide_eq_true h24, Bool.true_and]
    clear hl
    go_enter Tryz.func101, Tryz.ntmps101
    go_wp2
    go_loop [3, 4] (fun part i => ∃ (k : Nat) (p : List UInt8), part = .string (S p) ∧ i = .int .i64 k ∧ p.length ≤ k ∧ Hid (p.all plainB = true) ∧ ((k ≤ l.length ∧ Hid (nameB l = (spl 47 (p ++ l.drop k)).all segB)) ∨ (k = l.length + 1 ∧ Hid (nameB l = true)))) (fun _ i => l.length + 1 - (intOf i).toNat)
    case atStart => exact ⟨0, [], rfl, rfl, Nat.le_refl _, Lib.hid rfl, .inl ⟨Nat.zero_le _, by simpa using HN⟩⟩
    case round =>
      obtain ⟨k, p, rfl, rfl, hpk, hp, hor⟩ := hrel
      rcases hor with ⟨hk, hi⟩ | ⟨rfl, hi⟩
      · by_cases hlt : k < l.length
        · obtain ⟨x, hx⟩ : ∃ x, l[k]'hlt = x := ⟨_, rfl⟩
          have n1 : ((k : Int) == (l.length : Int)) = false := by simp; omega
          have n2 : (k == l.length) = false := by simp; omega
          have n3 : ¬ k = l.length := by omega
          have hdr : l.drop k = x :: l.drop (k + 1) := by rw [List.drop_eq_getElem_cons hlt, hx]
          by_cases h47 : x = 47
          · have b : ((x.toNat : Int) == 47) = true := (u8_beq x 47).trans (by simpa using h47)
            have HJ : Hid (nameB l = (segB p && (spl 47 (l.drop (k + 1))).all segB)) := by
              refine Lib.hid ?_
              rw [hi.out, hdr, h47, spl_app (plain_not47 hp.out), List.all_cons]
            clear h47 hdr hi
            by_cases c0 : p = []
            · subst c0
              have HS := Lib.hid (show nameB l = false by rw [HJ.out]; rfl)
              go_wp2
              exact rcast H.out (congrArg Value.bool HS.out)
            by_cases c1 : p = [46]
            · subst c1
              have HS := Lib.hid (show nameB l = false by rw [HJ.out]; rfl)
              go_wp2
              exact rcast H.out (congrArg Value.bool HS.out)
            by_cases c2 : p = [46, 46]
            · subst c2
              have HS := Lib.hid (show nameB l = false by rw [HJ.out]; rfl)
              go_wp2
              exact rcast H.out (congrArg Value.bool HS.out)
            have d0 : p.isEmpty = false := by simpa using c0
            have d1 : (p == [46]) = false := by simpa using c1
            have d2 : (p == [46, 46]) = false := by simpa using c2
            have d3 : (p == []) = false := by simpa using c0
            have HI : Hid (nameB l = (spl 47 ([] ++ l.drop (k + 1))).all segB) := by
              refine Lib.hid ?_
              rw [HJ.out, segB_of hp.out, d1, d2, d3]; rfl
            clear c0 c1 c2
            go_wp2
            go_round
            case rel => exact ⟨k + 1, [], rfl, by go_num, Nat.zero_le _, Lib.hid rfl, .inl ⟨by omega, HI⟩⟩
            case measure => simp [intOf]; omega
          · have b : ((x.toNat : Int) == 47) = false := (u8_beq x 47).trans (by simpa using h47)
            cases hpl : plainB x
            · have HS : Hid (nameB l = false) := by
                refine Lib.hid ?_
                cases hq : nameB l
                · rfl
                · exfalso
                  have hm : x ∈ l := by rw [← hx]; exact List.getElem_mem hlt
                  have := spl_mem_plain hq hm h47
                  rw [hpl] at this; cases this
              have HP := Lib.hid hpl
              clear h47 hdr hi hpl
              go_wp2_with (go_at_call 128; refine rplain_any _ _ ?_; rw [HP.out])
              exact rcast H.out (congrArg Value.bool HS.out)
            · have hdt : (l.take (k + 1)).drop k = [x] := by rw [take_drop_one hlt, hx]
              have HI : Hid (nameB l = (spl 47 ((p ++ [x]) ++ l.drop (k + 1))).all segB) := by
                refine Lib.hid ?_
                rw [hi.out, hdr]; simp
              have HQ : Hid ((p ++ [x]).all plainB = true) := by
                refine Lib.hid ?_
                rw [List.all_append, hp.out]; simp [hpl]
              have HP := Lib.hid hpl
              clear h47 hdr hi hpl
              go_wp2_with (go_at_call 128; refine rplain_any _ _ ?_; rw [HP.out])
              go_round
              case rel => exact ⟨k + 1, p ++ [x], rfl, by go_num, by simp; omega, HQ, .inl ⟨by omega, HI⟩⟩
              case measure => simp [intOf]; omega
        · obtain rfl : k = l.length := by omega
          have HJ : Hid (nameB l = segB p) := by
            refine Lib.hid ?_
            rw [hi.out, List.drop_length, List.append_nil, spl_none (plain_not47 hp.out)]; simp
          clear hi
          by_cases c0 : p = []
          · subst c0
            have HS := Lib.hid (show nameB l = false by rw [HJ.out]; rfl)
            go_wp2
            exact rcast H.out (congrArg Value.bool HS.out)
          by_cases c1 : p = [46]
          · subst c1
            have HS := Lib.hid (show nameB l = false by rw [HJ.out]; rfl)
            go_wp2
            exact rcast H.out (congrArg Value.bool HS.out)
          by_cases c2 : p = [46, 46]
          · subst c2
            have HS := Lib.hid (show nameB l = false by rw [HJ.out]; rfl)
            go_wp2
            exact rcast H.out (congrArg Value.bool HS.out)
          have d0 : p.isEmpty = false := by simpa using c0
          have d1 : (p == [46]) = false := by simpa using c1
          have d2 : (p == [46, 46]) = false := by simpa using c2
          have d3 : (p == []) = false := by simpa using c0
          have HI : Hid (nameB l = true) := by
            refine Lib.hid ?_
            rw [HJ.out, segB_of hp.out, d1, d2, d3]; rfl
          clear c0 c1 c2
          go_wp2
          go_round
          case rel => exact ⟨l.length + 1, [], rfl, by go_num, Nat.zero_le _, Lib.hid rfl, .inr ⟨rfl, HI⟩⟩
          case measure => simp [intOf]
      · go_wp2
        exact rcast H.out (congrArg Value.bool hi.out)


def badR (a b : UInt8) : Bool := decide (digI a < 0) || decide (digI b < 0) || (hexB a b == 47)
def decR : List UInt8 → Option (List UInt8)
  | [] => some []
  | [c] => if c.toNat = 37 then none else some [c]
  | [c, d] => if c.toNat = 37 then none else (decR [d]).map (c :: ·)
  | c :: a :: b :: r => if c.toNat = 37 then (if badR a b then none else (decR r).map (hexB a b :: ·)) else (decR (a :: b :: r)).map (c :: ·)
theorem decR_ne {c : UInt8} (r : List UInt8) (h : ¬ c.toNat = 37) : decR (c :: r) = (decR r).map (c :: ·) := by
  match r with
  | [] => simp [decR, h]
  | [d] => simp [decR, h]
  | a :: b :: r => simp [decR, h]
theorem decR_short {c : UInt8} {r : List UInt8} (h : c.toNat = 37) (hr : r.length < 2) : decR (c :: r) = none := by
  match r with
  | [] => rw [decR, if_pos h]
  | [d] => rw [decR, if_pos h]
  | a :: b :: r => simp at hr; omega
theorem decR_hex {c a b : UInt8} (r : List UInt8) (h : c.toNat = 37) : decR (c :: a :: b :: r) = if badR a b then none else (decR r).map (hexB a b :: ·) := by rw [decR, if_pos h]
def DD (l : List UInt8) : Prop := (∃ n, dec l = some n ∧ decR l = some n) ∨ (dec l = none ∧ (decR l = none ∨ ∃ n x, decR l = some n ∧ x ∈ n ∧ x ≠ 47 ∧ plainB x = false))
theorem DD_cons {c : UInt8} {r : List UInt8} (h : ¬ c.toNat = 37) (hr : DD r) : DD (c :: r) := by
  unfold DD
  rw [dec_ne _ h, decR_ne _ h]
  rcases hr with ⟨n, h1, h2⟩ | ⟨h1, h2 | ⟨n, x, h2, h3, h4, h5⟩⟩
  · exact .inl ⟨c :: n, by rw [h1]; rfl, by rw [h2]; rfl⟩
  · exact .inr ⟨by rw [h1]; rfl, .inl (by rw [h2]; rfl)⟩
  · exact .inr ⟨by rw [h1]; rfl, .inr ⟨c :: n, x, by rw [h2]; rfl, by simp [h3], h4, h5⟩⟩
theorem bad_cases (a b : UInt8) : (badB a b = false ∧ badR a b = false) ∨ (badB a b = true ∧ badR a b = true) ∨ (badB a b = true ∧ badR a b = false ∧ hexB a b ≠ 47 ∧ plainB (hexB a b) = false) := by
  unfold badB badR
  cases decide (digI a < 0)
  · cases decide (digI b < 0)
    · by_cases h : hexB a b = 47
      · right; left; rw [h]; exact ⟨by decide, by decide⟩
      · have h' : (hexB a b == 47) = false := by simpa using h
        cases hp : plainB (hexB a b)
        · right; right; exact ⟨rfl, by rw [h']; rfl, h, rfl⟩
        · left; exact ⟨rfl, by rw [h']; rfl⟩
    · right; left; exact ⟨rfl, rfl⟩
  · right; left; exact ⟨rfl, rfl⟩
theorem dec_decR : ∀ l, DD l
  | [] => .inl ⟨[], rfl, rfl⟩
  | [c] => by
    by_cases h : c.toNat = 37
    · exact .inr ⟨dec_short h (by simp), .inl (decR_short h (by simp))⟩
    · exact DD_cons h (.inl ⟨[], rfl, rfl⟩)
  | [c, d] => by
    by_cases h : c.toNat = 37
    · exact .inr ⟨dec_short h (by simp), .inl (decR_short h (by simp))⟩
    · exact DD_cons h (dec_decR [d])
  | c :: a :: b :: r => by
    by_cases h : c.toNat = 37
    · unfold DD
      rw [dec_hex _ h, decR_hex _ h]
      have hr := dec_decR r
      rcases bad_cases a b with ⟨b1, b2⟩ | ⟨b1, b2⟩ | ⟨b1, b2, b3, b4⟩
      · rw [b1, b2]
        simp only [Bool.false_eq_true, if_false]
        rcases hr with ⟨n, h1, h2⟩ | ⟨h1, h2 | ⟨n, x, h2, h3, h4, h5⟩⟩
        · exact .inl ⟨hexB a b :: n, by rw [h1]; rfl, by rw [h2]; rfl⟩
        · exact .inr ⟨by rw [h1]; rfl, .inl (by rw [h2]; rfl)⟩
        · exact .inr ⟨by rw [h1]; rfl, .inr ⟨hexB a b :: n, x, by rw [h2]; rfl, by simp [h3], h4, h5⟩⟩
      · rw [b1, b2]
        exact .inr ⟨rfl, .inl rfl⟩
      · rw [b1, b2]
        refine .inr ⟨rfl, ?_⟩
        simp only [Bool.false_eq_true, if_false]
        rcases hr with ⟨n, h1, h2⟩ | ⟨h1, h2 | ⟨n, x, h2, h3, h4, h5⟩⟩
        · exact .inr ⟨hexB a b :: n, hexB a b, by rw [h2]; rfl, by simp, b3, b4⟩
        · exact .inl (by rw [h2]; rfl)
        · exact .inr ⟨hexB a b :: n, x, by rw [h2]; rfl, by simp [h3], h4, h5⟩
    · exact DD_cons h (dec_decR (a :: b :: r))
theorem nameB_bad {n : List UInt8} {x : UInt8} (hx : x ∈ n) (h47 : x ≠ 47) (hp : plainB x = false) : nameB n = false := by
  cases h : nameB n
  · rfl
  · have := spl_mem_plain h hx h47
    rw [hp] at this; cases this
def decV : Option (List UInt8) → List UInt8 × Int
  | none => ([], 70)
  | some n => if nameB n then (n, 0) else ([], 70)
theorem decV_eq (l : List UInt8) : decV (dec l) = decV (decR l) := by
  rcases dec_decR l with ⟨n, h1, h2⟩ | ⟨h1, h2 | ⟨n, x, h2, h3, h4, h5⟩⟩
  · rw [h1, h2]
  · rw [h1, h2]
  · rw [h1, h2]
    show ([], 70) = if nameB n then (n, 0) else ([], 70)
    rw [nameB_bad h3 h4 h5]; rfl
theorem ofL_R (l : List UInt8) : ofL l = if 128 < l.length then ([], 2) else if ((bef 63 l).head? == some 47) = false then ([], 70) else if bef 63 l = [47] then (indexS, 0) else decV (decR ((bef 63 l).drop 1)) := by
  rw [← decV_eq]; rfl
def strLen : Value → Nat
  | .string s => s.size
  | _ => 0
set_option maxHeartbeats 4000000 in
theorem pfof_any {R : Ending → World → Prop} (l : List UInt8) (w : World) (h : ∀ w', Kp [] w w' → R (.returned (ofV (ofL l))) w') : Calls Tryz.prog 58 #[.string (S l)] w R := by
  have H := Lib.hid h
  clear h
  by_cases hl : l.length ≤ 128
  · go_enter Tryz.func58, Tryz.ntmps58
    go_upto_block 0 with (fail)
    go_cut [0] from 5 (fun s w' => s = .string (S (bef 63 l)) ∧ w' = w)
    case rest =>
      obtain ⟨rfl, rfl⟩ := hcut
      have hb := bef_len 63 l
      have HO := ofL_R l
      rw [if_neg (by omega)] at HO
      generalize ofL l = res at *
      generalize bef 63 l = t at *
      match t with
      | [] =>
        have HR := Lib.hid (show res = ([], 70) from HO)
        clear HO
        go_wp2
        exact rcast (H.out _ (Kp.refl _ _)) (by rw [HR.out]; rfl)
      | x :: r =>
        by_cases h47 : x = 47
        · subst h47
          rw [if_neg (by simp)] at HO
          by_cases hr0 : r = []
          · subst hr0
            have HR := Lib.hid (show res = (indexS, 0) from HO)
            clear HO
            go_wp2
            exact rcast (H.out _ (Kp.refl _ _)) (by rw [HR.out]; rfl)
          · have b1 : r.isEmpty = false := by simpa using hr0
            rw [if_neg (by simpa using hr0)] at HO
            have HR := Lib.hid (show res = decV (decR r) from HO)
            have hrl : r.length ≤ 127 := by simp at hb; omega
            clear HO hr0 hb
            go_wp2
            go_loopw [0, 5] (fun s nm wr => ∃ rest out : List UInt8, s = .string (S rest) ∧ nm = .string (S out) ∧ rest.length ≤ 127 ∧ out.length + rest.length ≤ 127 ∧ Hid (decR r = (decR rest).map (out ++ ·)) ∧ Kp [] wc wr) (fun s _ _ => strLen s)
            case atStart => exact ⟨r, [], rfl, rfl, hrl, by simpa using hrl, Lib.hid (by simp), Kp.refl _ _⟩
            case round =>
              obtain ⟨rest, out, rfl, rfl, h1, h2, hd, kr⟩ := hrel
              match rest with
              | [] =>
                have HR2 : Hid (res = if nameB out then (out, 0) else ([], 70)) := by
                  refine Lib.hid ?_
                  rw [HR.out, hd.out]; simp [decR, decV]
                clear hd
                cases hn : nameB out
                · have HN := Lib.hid hn
                  have HR3 := Lib.hid (show res = ([], 70) by rw [HR2.out, hn]; rfl)
                  clear hn
                  go_wp2_with (go_at_call 101; (with_reducible refine rname_any out _ ?_); rw [HN.out])
                  exact rcast (H.out _ kr) (by rw [HR3.out]; rfl)
                · have HN := Lib.hid hn
                  have HR3 := Lib.hid (show res = (out, 0) by rw [HR2.out, hn]; rfl)
                  clear hn
                  go_wp2_with (go_at_call 101; (with_reducible refine rname_any out _ ?_); rw [HN.out])
                  exact rcast (H.out _ kr) (by rw [HR3.out]; rfl)
              | c :: rs =>
                have h1' : rs.length ≤ 126 := by simp at h1; omega
                have h2' : out.length + rs.length ≤ 126 := by simp at h2; omega
                by_cases h37 : c.toNat = 37
                · have b37 : ((c.toNat : Int) != 37) = false := by simp [h37]
                  by_cases hsh : rs.length < 2
                  · have HR3 := Lib.hid (show res = ([], 70) by rw [HR.out, hd.out, decR_short h37 hsh]; rfl)
                    clear hd h37
                    go_wp2
                    exact rcast (H.out _ kr) (by rw [HR3.out]; rfl)
                  · match rs with
                    | [] => simp at hsh
                    | [_] => simp at hsh
                    | p :: q :: rs =>
                      obtain ⟨pa, pb⟩ := digI_bd p
                      obtain ⟨qa, qb⟩ := digI_bd q
                      have hl3 : rs.length ≤ 124 := by simp at h1'; omega
                      have hl4 : out.length + rs.length ≤ 124 := by simp at h2'; omega
                      have HX : Hid (0 ≤ digI p → 0 ≤ digI q → 16 * digI p + digI q = ((hexB p q).toNat : Int)) := by
                        refine Lib.hid fun h1 h2 => ?_
                        unfold hexB
                        rw [UInt8.toNat_ofNat']
                        omega
                      have HBad : Hid (badR p q = (decide (digI p < 0) || decide (digI q < 0) || (hexB p q == 47))) := Lib.hid rfl
                      have HD2 : Hid (decR r = if badR p q then none else (decR rs).map (fun y => out ++ hexB p q :: y)) := by
                        refine Lib.hid ?_
                        rw [hd.out, decR_hex _ h37]
                        split
                        · rfl
                        · cases decR rs <;> simp
                      clear hd h37 hsh
                      have HB1 : Hid (badR p q = true → res = ([], 70)) := Lib.hid (fun hb1 => by rw [HR.out, HD2.out, if_pos hb1]; rfl)
                      have ED : Hid (∀ w R, R (.returned (.int .i64 (digI p))) w → Calls Tryz.prog 100 #[.int .u8 p.toNat] w R) := Lib.hid fun w R h => pfdig_any p w h
                      have EQ : Hid (∀ w R, R (.returned (.int .i64 (digI q))) w → Calls Tryz.prog 100 #[.int .u8 q.toNat] w R) := Lib.hid fun w R h => pfdig_any q w h
                      generalize hexB p q = h at *
                      generalize badR p q = bad at *
                      generalize digI p = di at *
                      generalize digI q = dj at *
                      by_cases hi : di < 0
                      · have g1 : decide (di < 0) = true := by simpa using hi
                        go_wp2_with (go_at_call 100; first | with_reducible refine ED.out _ _ ?_ | with_reducible refine EQ.out _ _ ?_)
                        exact rcast (H.out _ kr) (by rw [HB1.out (by rw [HBad.out, g1]; rfl)]; rfl)
                      have g1 : decide (di < 0) = false := by simpa using hi
                      by_cases hj : dj < 0
                      · have g2 : decide (dj < 0) = true := by simpa using hj
                        go_wp2_with (go_at_call 100; first | with_reducible refine ED.out _ _ ?_ | with_reducible refine EQ.out _ _ ?_)
                        exact rcast (H.out _ kr) (by rw [HB1.out (by rw [HBad.out, g1, g2]; rfl)]; rfl)
                      have g2 : decide (dj < 0) = false := by simpa using hj
                      have hv := HX.out (by omega) (by omega)
                      have hb255 := h.toNat_lt
                      have q1 : 0 ≤ 16 * di + dj := by omega
                      have q2 : 16 * di + dj ≤ 255 := by omega
                      have HV := Lib.hid hv
                      clear hv hb255
                      go_wp2_with (go_at_call 100; first | with_reducible refine ED.out _ _ ?_ | with_reducible refine EQ.out _ _ ?_)
                      have hE : di * 16 + dj = (h.toNat : Int) := by have := HV.out; omega
                      have s1 : IntKind.i64.wrap (di * 16) = di * 16 := IntWalk.i64_in _ (by omega)
                      have s2 : IntKind.i64.wrap (h.toNat : Int) = (h.toNat : Int) := IntWalk.i64_in _ (by have := h.toNat_lt; omega)
                      have s3 : IntKind.u8.wrap (h.toNat : Int) = (h.toNat : Int) := IntWalk.u8_in _ (by have := h.toNat_lt; omega)
                      clear q1 q2
                      refine wp_region_kp (by kernel_rfl) (by kernel_rfl) ?_
                      repeat (quiet_step (((go_at_call 100; first | with_reducible refine ED.out _ _ ?_ | with_reducible refine EQ.out _ _ ?_); exact ⟨rfl, _, rfl⟩)))
                      refine wpQuiet_nil ?_
                      intro w4 k4
                      have kr4 := kr.trans k4
                      clear hE s1 s2 s3 kr k4
                      by_cases h47 : h = 47
                      · have b47 : ((h.toNat : Int) == 47) = true := (u8_beq h 47).trans (by simpa using h47)
                        have HR3 := Lib.hid (HB1.out (by rw [HBad.out, g1, g2, h47]; rfl))
                        clear h47
                        go_wp2
                        exact rcast (H.out _ kr4) (by rw [HR3.out]; rfl)
                      · have b47 : ((h.toNat : Int) == 47) = false := (u8_beq h 47).trans (by simpa using h47)
                        have b47' : (h == 47) = false := by simpa using h47
                        have HD : Hid (decR r = (decR rs).map ((out ++ [h]) ++ ·)) := by
                          refine Lib.hid ?_
                          rw [HD2.out, if_neg (by rw [HBad.out, g1, g2, b47']; decide)]
                          cases decR rs <;> simp
                        have hcv : (convert 52 9 (.slice (some ⟨w4.heap.size, 0, none⟩) 1 1)).run Tryz.prog (w4.alloc (.cells #[.int .u8 h.toNat] 5)) = .ok (.string (S [h])) (w4.alloc (.cells #[.int .u8 h.toNat] 5)) :=
                          conv_bS (N := []) (l := [h]) (Rd.of_bk (Bk.newAt rfl _ _) (by simp)) rfl
                        clear h47 b47'
                        go_wp2
                        exact ⟨⟨rs, out ++ [h], rfl, rfl, by omega, by simp; omega, HD, kr4.alloc _⟩, by simp [strLen, S_size]; omega⟩
                · have b37 : ((c.toNat : Int) != 37) = true := by simp; omega
                  have HD : Hid (decR r = (decR rs).map ((out ++ [c]) ++ ·)) := by
                    refine Lib.hid ?_
                    rw [hd.out, decR_ne _ h37]
                    cases decR rs <;> simp
                  clear hd h37
                  go_wp2
                  exact ⟨⟨rs, out ++ [c], rfl, rfl, by omega, by simp; omega, HD, kr⟩, by simp [strLen, S_size]⟩
        · have b0 : ((x.toNat : Int) == 47) = false := (u8_beq x 47).trans (by simpa using h47)
          have b1 : ((x.toNat : Int) != 47) = true := (u8_bne x 47).trans (by simpa using h47)
          have b2 : (x :: r == [47]) = false := by simp [h47]
          have b3 : (x == 47) = false := by simpa using h47
          rw [if_pos (by simpa using h47)] at HO
          have HR := Lib.hid HO
          clear HO h47
          go_wp2
          exact rcast (H.out _ (Kp.refl _ _)) (by rw [HR.out]; rfl)
    case first =>
      go_wp2
      go_loop [0, 4] (fun s i => s = .string (S l) ∧ ∃ k : Nat, k ≤ l.length ∧ i = .int .i64 k ∧ Hid ((l.take k).contains 63 = false)) (fun _ i => l.length - (intOf i).toNat)
      case atStart => exact ⟨rfl, 0, Nat.zero_le _, rfl, Lib.hid rfl⟩
      case round =>
        obtain ⟨rfl, k, hk, rfl, ha⟩ := hrel
        by_cases hlt : k < l.length
        · obtain ⟨x, hx⟩ : ∃ x, l[k]'hlt = x := ⟨_, rfl⟩
          by_cases hc : x = 63
          · have b : ((x.toNat : Int) == 63) = true := (u8_beq x 63).trans (by simpa using hc)
            have hh : bef 63 l = l.take k := by
              have e : l = l.take k ++ 63 :: l.drop (k + 1) := by
                rw [← hc, ← hx, ← List.drop_eq_getElem_cons hlt, List.take_append_drop]
              conv => lhs; rw [e]
              exact bef_app ha.out
            have HH := Lib.hid hh
            clear hc hh
            go_wp2
            go_meet
            case rel => exact ⟨by rw [HH.out], rfl⟩
          · have b : ((x.toNat : Int) == 63) = false := (u8_beq x 63).trans (by simpa using hc)
            have HX : Hid ((l.take (k + 1)).contains 63 = false) := by
              refine Lib.hid ?_
              rw [cont_snoc l 63 k hlt, ha.out, hx]; simpa using hc
            clear hc
            go_wp2
            go_round
            case rel => exact ⟨rfl, k + 1, by omega, by go_num, HX⟩
            case measure => simp [intOf]; omega
        · have hh : bef 63 l = l := by
            have := ha.out
            rw [List.take_of_length_le (by omega)] at this
            exact (bef_self this).1
          have HH := Lib.hid hh
          clear hh
          go_wp2
          go_meet
          case rel => exact ⟨by rw [HH.out], rfl⟩
  · have HO : Hid (ofL l = ([], 2)) := by
      refine Lib.hid ?_
      unfold ofL; rw [if_pos (by omega)]
    go_enter Tryz.func58, Tryz.ntmps58
    go_wp2
    exact rcast (H.out w (Kp.refl _ _)) (by rw [HO.out]; rfl)
end
/-! ### pantlerref28.Answer: the document's answer to a request. -/
section
open Go.RowKit Go.Shelf
set_option linter.unusedVariables false
set_option linter.unusedSimpArgs false
set_option maxRecDepth 100000
theorem ofP_in (r : Req) (there : Bool) (v mt len : Int) (kd : List UInt8) (hkd : kd.length ≤ 300) (hlen : 0 ≤ len ∧ len ≤ 35184372088832) : ∀ p ∈ ofP r there v mt len kd, inP len p ∧ okPt p := by
  intro p hp
  unfold ofP at hp
  split at hp
  · cases hp
  · have hcc := choose_ok r there v mt len
    have hst := choose_st r there v mt len
    exact ⟨parts_in hlen.1 hcc.2.1 p hp, parts_ok hst.1 hst.2 hlen.1 hlen.2 hkd (fun z hz => okZ_sp hlen.2 (hcc.2.1 z hz)) p hp⟩
section
variable {R : Ending → World → Prop} {w : World}
set_option maxHeartbeats 8000000 in
theorem answer28_any (r : Req) (l : List Fl) (now : Int) {A B : Option Addr} {c n d : Nat} (hr : Rd w [] A (r.fs.flatMap fldC)) (hfn : r.fs.length ≤ 2000) (hsz : ∀ nm, (allF r.fs nm).length ≤ 100000) (hvl : ∀ x ∈ r.fs, x.2.length ≤ 2000000)
    (hb : Rd w [] B (l.flatMap flC)) (hl : l.length = n) (hn : n ≤ 20) (ht : tblOk l)
    (h : ∀ T w', Kp [] w w' → Hid (T = ansT l now ((ofL r.t).1, 0, r)) → T.length ≤ 250000 → R (.returned (.tuple #[.string (S T), .bool (endsB ((ofL r.t).1, 0, r))])) w') :
    Calls Tryz.prog 39 #[.agg #[.string (S r.m), .string (S r.t), .int .i64 r.minor, .slice A r.fs.length c, .bool r.close], .slice B n d, .int .i64 now] w R := by
  have H := Lib.hid h
  have HR := Lib.hid hr
  have HB := Lib.hid hb
  have HL := Lib.hid hl
  have hpg := plan_good l now (ofL r.t).1 r
  have hen := plan_ends l now ((ofL r.t).1, 0, r)
  have hat : ansT l now ((ofL r.t).1, 0, r) = txtP (planL l now ((ofL r.t).1, 0, r)).2.1 (planL l now ((ofL r.t).1, 0, r)).2.2.1 (findL l (ofL r.t).1).1.s := rfl
  rw [hpg] at hen hat
  simp only at hen hat
  have hfo := tbl_find ht (ofL r.t).1
  have hkd := kindL_len (ofL r.t).1
  have hol := @ofL_err r.t
  have hnl := ofL_len r.t
  have hst9 := choose_st r (findL l (ofL r.t).1).2 (findL l (ofL r.t).1).1.v (findL l (ofL r.t).1).1.mt (findL l (ofL r.t).1).1.s.length
  have hpi := ofP_in r (findL l (ofL r.t).1).2 (findL l (ofL r.t).1).1.v (findL l (ofL r.t).1).1.mt (findL l (ofL r.t).1).1.s.length (kindL (ofL r.t).1) hkd ⟨by omega, by omega⟩
  have hhl := ofH_len r (findL l (ofL r.t).1).2 (findL l (ofL r.t).1).1.v (findL l (ofL r.t).1).1.mt (findL l (ofL r.t).1).1.s.length (kindL (ofL r.t).1) now hkd hfo.2.1 hfo.2.2 ⟨by omega, by omega⟩
  have HOf : Hid (∀ (R : Ending → World → Prop) (w1 : World), Kp [] w w1 → (∀ A' m c' w', Kp [] w1 w' → Hid (Rd w' [] A' ((ofP r (findL l (ofL r.t).1).2 (findL l (ofL r.t).1).1.v (findL l (ofL r.t).1).1.mt (findL l (ofL r.t).1).1.s.length (kindL (ofL r.t).1)).flatMap ptV) ∧ (ofP r (findL l (ofL r.t).1).2 (findL l (ofL r.t).1).1.v (findL l (ofL r.t).1).1.mt (findL l (ofL r.t).1).1.s.length (kindL (ofL r.t).1)).length = m ∧ m ≤ 21) → R (.returned (.agg #[.int .i64 (chooseM r (findL l (ofL r.t).1).2 (findL l (ofL r.t).1).1.v (findL l (ofL r.t).1).1.mt (findL l (ofL r.t).1).1.s.length).1, .string (S (ofH r (findL l (ofL r.t).1).2 (findL l (ofL r.t).1).1.v (findL l (ofL r.t).1).1.mt (findL l (ofL r.t).1).1.s.length (kindL (ofL r.t).1) now)), .slice A' m c', .bool (r.close || (chooseM r (findL l (ofL r.t).1).2 (findL l (ofL r.t).1).1.v (findL l (ofL r.t).1).1.mt (findL l (ofL r.t).1).1.s.length).1 == 400)])) w') → Calls Tryz.prog 59 #[.agg #[.string (S r.m), .string (S r.t), .int .i64 r.minor, .slice A r.fs.length c, .bool r.close], .bool (findL l (ofL r.t).1).2, .agg #[.int .i64 (findL l (ofL r.t).1).1.v, .int .i64 (findL l (ofL r.t).1).1.mt, .int .i64 (findL l (ofL r.t).1).1.s.length, .string (S (kindL (ofL r.t).1))], .int .i64 now] w1 R) := Lib.hid (fun R w1 k h => rof27_any r _ _ _ _ _ now (HR.out.kp k (by simp)) hfn hfo.2.1 hfo.2.2 ⟨by omega, by omega⟩ hkd hsz hvl h)
  have HFi : Hid (∀ (R : Ending → World → Prop) (w1 : World), Kp [] w w1 → (∀ w', Kp [] w1 w' → R (.returned (.tuple #[.agg #[.string (S (findL l (ofL r.t).1).1.nm), .string (S (findL l (ofL r.t).1).1.s), .int .i64 (findL l (ofL r.t).1).1.v, .int .i64 (findL l (ofL r.t).1).1.mt], .bool (findL l (ofL r.t).1).2])) w') → Calls Tryz.prog 22 #[.slice B n d, .string (S (ofL r.t).1)] w1 R) := Lib.hid (fun R w1 k h => find28_any l (ofL r.t).1 (HB.out.kp k (by simp)) HL.out hn h)
  have HKd : Hid (∀ (R : Ending → World → Prop) (w1 : World), R (.returned (.string (S (kindL (ofL r.t).1)))) w1 → Calls Tryz.prog 24 #[.string (S (ofL r.t).1)] w1 R) := Lib.hid (fun R w1 h => rkind_any _ w1 (by omega) h)
  have HPf : Hid (∀ (R : Ending → World → Prop) (w1 : World), (∀ w', Kp [] w1 w' → R (.returned (.tuple #[.string (S (ofL r.t).1), .int .i64 (ofL r.t).2])) w') → Calls Tryz.prog 58 #[.string (S r.t)] w1 R) := Lib.hid (fun R w1 h => pfof_any r.t w1 h)
  rw [hat, ← hen] at H
  clear h hr hb hl hat hen hpg hsz hvl hkd hnl hst9 ht
  have hs9 := hfo.1
  obtain ⟨cl, hcl⟩ : ∃ cl, (r.close || (chooseM r (findL l (ofL r.t).1).2 (findL l (ofL r.t).1).1.v (findL l (ofL r.t).1).1.mt (findL l (ofL r.t).1).1.s.length).1 == 400) = cl := ⟨_, rfl⟩
  rw [hcl] at H HOf
  clear hcl
  generalize (chooseM r (findL l (ofL r.t).1).2 (findL l (ofL r.t).1).1.v (findL l (ofL r.t).1).1.mt (findL l (ofL r.t).1).1.s.length).1 = st at H HOf
  generalize ofH r (findL l (ofL r.t).1).2 (findL l (ofL r.t).1).1.v (findL l (ofL r.t).1).1.mt (findL l (ofL r.t).1).1.s.length (kindL (ofL r.t).1) now = hd at H HOf hhl
  generalize ofP r (findL l (ofL r.t).1).2 (findL l (ofL r.t).1).1.v (findL l (ofL r.t).1).1.mt (findL l (ofL r.t).1).1.s.length (kindL (ofL r.t).1) = ps at H HOf hpi
  generalize kindL (ofL r.t).1 = kd at HOf HKd
  clear hfo
  generalize (findL l (ofL r.t).1).2 = th at HOf HFi
  generalize (findL l (ofL r.t).1).1 = f at H HOf HFi hs9 hpi
  generalize (ofL r.t).1 = nm at HFi HKd HPf hol
  generalize (ofL r.t).2 = er at HPf hol
  obtain ⟨fn, fs, fv, fm⟩ := f
  simp only at H HOf HFi hs9 hpi
  have HPI := Lib.hid hpi
  have HTx : Hid (∀ (R : Ending → World → Prop) (w1 : World) (A : Option Addr) (m c : Nat), (Rd w1 [] A (ps.flatMap ptV) ∧ ps.length = m ∧ m ≤ 21) → (∀ w', Kp [] w1 w' → R (.returned (.string (S (txtP hd ps fs)))) w') → Calls Tryz.prog 38 #[.agg #[.int .i64 st, .string (S hd), .slice A m c, .bool cl], .string (S fs)] w1 R) := Lib.hid (fun R w1 A m c ha h => rtext27_any st hd ps cl fs ha.1 ha.2.1 ha.2.2 HPI.out hhl hs9 h)
  have HTl : Hid (∀ m, ps.length = m → m ≤ 21 → (txtP hd ps fs).length ≤ 250000) := Lib.hid (fun m e1 e2 => by
    have h1 := pcs_len hs9 ps (fun p hp => (HPI.out p hp).2.1)
    unfold txtP
    rw [List.length_append]
    omega)
  have H2 : Hid (∀ w', Kp [] w w' → (txtP hd ps fs).length ≤ 250000 → R (.returned (.tuple #[.string (S (txtP hd ps fs)), .bool cl])) w') := Lib.hid (fun w' k e => H.out _ w' k (Lib.hid rfl) e)
  clear H hpi HPI hhl hs9
  obtain ⟨T, hT⟩ : ∃ T, txtP hd ps fs = T := ⟨_, rfl⟩
  rw [hT] at HTx HTl H2
  clear hT
  obtain ⟨rt, hrt⟩ : ∃ rt, r.t = rt := ⟨_, rfl⟩
  rw [hrt] at HOf HPf ⊢
  have HNm := Lib.hid hol
  clear hrt hol
  obtain ⟨ez, hez⟩ : ∃ ez, (er != 0) = ez := ⟨_, rfl⟩
  go_enter Tryz.func39, Tryz.ntmps39
  go_upto_region 2 with (go_at_call 58; ((refine HPf.out _ _ ?_); intro w1 k1))
  refine gen_worldC (fun W => ∃ g1, w.heap.size = g1 ∧ Hid (Kp [] w W ∧ Bk W g1 24 [.string (S r.m), .string (S rt), .int .i64 r.minor, .slice A r.fs.length c, .bool r.close])) ⟨_, rfl, Lib.hid ⟨((Kp.refl _ _).alloc _).trans k1, ((Bk.new' _ _ _).kp k1 (by simp)).cast rfl⟩⟩ ?_
  rintro W ⟨g1, hg1, hW⟩
  rw [hg1]
  clear hg1 k1 HPf
  go_upto_if 21 with (fail)
  go_cut [8] (fun x W' => W' = W ∧ x = .string (S nm))
  case first =>
    cases ez with
    | true =>
      go_wp2
      go_meet
      exact ⟨rfl, by rw [HNm.out (by simpa using hez)]; rfl⟩
    | false =>
      go_wp2
      go_meet
      exact ⟨rfl, rfl⟩
  case rest =>
    obtain ⟨hw9, hx9⟩ := hcut
    rw [hw9, hx9]
    clear hw9 hx9 hez HNm
    go_upto_region 5 with (go_at_call 22; ((refine HFi.out _ _ hW.out.1 ?_); intro w2 k2))
    refine gen_worldC (fun W2 => ∃ gl, w2.heap.size = gl ∧ Hid (g1 < gl) ∧ Hid (Kp [] w W2 ∧ Bk W2 g1 24 [.string (S r.m), .string (S rt), .int .i64 r.minor, .slice A r.fs.length c, .bool r.close] ∧ Bk W2 gl 58 [.string (S fn), .string (S fs), .int .i64 fv, .int .i64 fm])) ⟨_, rfl, Lib.hid (by have := hW.out.2.lt; have := k2.size; omega), Lib.hid ⟨(hW.out.1.trans k2).alloc _, (hW.out.2.kp k2 (by simp)).alloc _, (Bk.new' _ _ _).cast rfl⟩⟩ ?_
    rintro W2 ⟨gl, hgl, hn2, hW2⟩
    rw [hgl]
    clear k2 hgl HFi hW
    have HC : Hid (∀ W', Kp [] W2 W' → (W'.cell? ⟨gl, 1, none⟩ = some (.string (S fs)) ∧ W'.cell? ⟨gl, 2, none⟩ = some (.int .i64 fv) ∧ W'.cell? ⟨gl, 3, none⟩ = some (.int .i64 fm))) := Lib.hid (fun W' k => ⟨(hW2.out.2.2.kp k (by simp)).cell 1, (hW2.out.2.2.kp k (by simp)).cell 2, (hW2.out.2.2.kp k (by simp)).cell 3⟩)
    have HD : Hid (Kp [] W2 W2.drew) := Lib.hid (Kp.refl _ _).drew
    obtain ⟨y1, y2, y3⟩ := HC.out W2 (Kp.refl _ _)
    go_cut [12] (fun x W' => ∃ gf, x = .pointer (some ⟨gf, 0, none⟩) ∧ Hid (Kp [] W2 W' ∧ Bk W' gf 26 [.int .i64 fv, .int .i64 fm, .int .i64 fs.length, .string (S kd)] ∧ W2.heap.size ≤ gf))
    case first =>
      go_region_held_law (fun W' => (W'.cell? ⟨gl, 1, none⟩ = some (.string (S fs)) ∧ W'.cell? ⟨gl, 2, none⟩ = some (.int .i64 fv) ∧ W'.cell? ⟨gl, 3, none⟩ = some (.int .i64 fm))) (first | with_reducible exact HC.out _ HD.out | with_reducible exact HC.out _ (Kp.drew (Kp.alloc (Kp.refl [] W2) _)) | with_reducible exact HC.out _ (Kp.alloc HD.out _)) ((go_simp; go_at_call 24; (with_reducible refine HKd.out _ _ ?_)))
      all_goals
        go_wp2
        go_meet
        exact ⟨_, rfl, Lib.hid ⟨((Kp.refl _ _).alloc _).drew, ((Bk.new' W2 _ _).drew).cast rfl, Nat.le_refl _⟩⟩
    case rest =>
      obtain ⟨gf, hx9, hC⟩ := hcut
      rw [hx9]
      clear hx9 y1 y2 y3 HKd HD
      obtain ⟨⟨x0, x1, x2, x3⟩, _⟩ := bk4r hC.out.2.1
      have HW3 : Hid (Kp [] w wc ∧ Bk wc g1 24 [.string (S r.m), .string (S rt), .int .i64 r.minor, .slice A r.fs.length c, .bool r.close] ∧ Bk wc gl 58 [.string (S fn), .string (S fs), .int .i64 fv, .int .i64 fm]) := Lib.hid ⟨hW2.out.1.trans hC.out.1, hW2.out.2.1.kp hC.out.1 (by simp), hW2.out.2.2.kp hC.out.1 (by simp)⟩
      clear hC hW2 HC
      have z0 : wc.cell? ⟨g1, 0, none⟩ = some (.string (S r.m)) := HW3.out.2.1.cell 0
      have z1 : wc.cell? ⟨g1, 1, none⟩ = some (.string (S rt)) := HW3.out.2.1.cell 1
      have z2 : wc.cell? ⟨g1, 2, none⟩ = some (.int .i64 r.minor) := HW3.out.2.1.cell 2
      have z3 : wc.cell? ⟨g1, 3, none⟩ = some (.slice A r.fs.length c) := HW3.out.2.1.cell 3
      have z4 : wc.cell? ⟨g1, 4, none⟩ = some (.bool r.close) := HW3.out.2.1.cell 4
      go_upto_region 7 with (go_at_call 59; ((refine HOf.out _ _ HW3.out.1 ?_); intro A4 m4 c4 w4 k4 h4))
      clear HOf x0 x1 x2 x3 z0 z1 z2 z3 z4
      refine gen_worldC (fun W5 => ∃ gp, w4.heap.size = gp ∧ Hid (Kp [] w W5 ∧ Bk W5 gp 91 [.int .i64 st, .string (S hd), .slice A4 m4 c4, .bool cl] ∧ Bk W5 gl 58 [.string (S fn), .string (S fs), .int .i64 fv, .int .i64 fm] ∧ (Rd W5 [] A4 (ps.flatMap ptV) ∧ ps.length = m4 ∧ m4 ≤ 21))) ⟨_, rfl, Lib.hid ⟨(HW3.out.1.trans k4).alloc _, (Bk.new' _ _ _).cast rfl, (HW3.out.2.2.kp k4 (by simp)).alloc _, h4.out.1.kp (S := []) ((Kp.refl _ _).alloc _) (by simp), h4.out.2⟩⟩ ?_
      rintro W5 ⟨gp, hgp, hW5⟩
      rw [hgp]
      clear k4 h4 hgp HW3
      have hT2 := HTl.out m4 hW5.out.2.2.2.2.1 hW5.out.2.2.2.2.2
      have HTx9 : Hid (∀ (R : Ending → World → Prop) (w1 : World), Kp [] W5 w1 → (∀ w', Kp [] w1 w' → Kp [] W5 w' → R (.returned (.string (S T))) w') → Calls Tryz.prog 38 #[.agg #[.int .i64 st, .string (S hd), .slice A4 m4 c4, .bool cl], .string (S fs)] w1 R) := Lib.hid (fun R w1 k h => HTx.out R w1 A4 m4 c4 ⟨hW5.out.2.2.2.1.kp k (by simp), hW5.out.2.2.2.2⟩ (fun w' k' => h w' k' (k.trans k')))
      have HC : Hid (∀ W', Kp [] W5 W' → (W'.cell? ⟨gp, 0, none⟩ = some (.int .i64 st) ∧ W'.cell? ⟨gp, 1, none⟩ = some (.string (S hd)) ∧ W'.cell? ⟨gp, 2, none⟩ = some (.slice A4 m4 c4) ∧ W'.cell? ⟨gp, 3, none⟩ = some (.bool cl) ∧ W'.cell? ⟨gl, 1, none⟩ = some (.string (S fs)))) := Lib.hid (fun W' k => ⟨(hW5.out.2.1.kp k (by simp)).cell 0, (hW5.out.2.1.kp k (by simp)).cell 1, (hW5.out.2.1.kp k (by simp)).cell 2, (hW5.out.2.1.kp k (by simp)).cell 3, (hW5.out.2.2.1.kp k (by simp)).cell 1⟩)
      have HD : Hid (Kp [] W5 W5.drew) := Lib.hid (Kp.refl _ _).drew
      obtain ⟨y0, y1, y2, y3, y4⟩ := HC.out W5 (Kp.refl _ _)
      clear HTx HTl
      go_region_held_law (fun W' => (W'.cell? ⟨gp, 0, none⟩ = some (.int .i64 st) ∧ W'.cell? ⟨gp, 1, none⟩ = some (.string (S hd)) ∧ W'.cell? ⟨gp, 2, none⟩ = some (.slice A4 m4 c4) ∧ W'.cell? ⟨gp, 3, none⟩ = some (.bool cl) ∧ W'.cell? ⟨gl, 1, none⟩ = some (.string (S fs)))) (first | with_reducible exact HC.out _ j9 | with_reducible exact HC.out _ HD.out) ((go_simp; go_at_call 38; (with_reducible refine HTx9.out _ _ (by first | with_reducible exact HD.out | with_reducible exact Kp.refl [] W5) ?_); intro w9 k9 j9))
      all_goals
        go_wp2
        exact H2.out _ (hW5.out.1.trans j9) hT2
end
end
/-! ### pantlerref28.Resp: the document's answers to any bytes. -/
section
open Go.RowKit Go.Shelf
set_option linter.unusedVariables false
set_option linter.unusedSimpArgs false
set_option maxRecDepth 100000
theorem sum_mem {l : List (List UInt8)} {x : List UInt8} (h : x ∈ l) : x.length ≤ (l.map List.length).sum := by
  induction l with
  | nil => cases h
  | cons y l ih =>
    simp only [List.map_cons, List.sum_cons]
    rcases List.mem_cons.1 h with rfl | h
    · omega
    · have := ih h; omega
theorem good_ok {b rest : List UInt8} {r : Req} (hb : b.length ≤ 900) (e : nextF b = (r, 0, rest, false)) : r.fs.length ≤ 2000 ∧ (∀ nm, (allF r.fs nm).length ≤ 100000) ∧ ∀ x ∈ r.fs, x.2.length ≤ 2000000 := by
  have h := next_fsB b
  rw [e] at h
  simp only at h
  refine ⟨by omega, fun nm => Nat.le_trans (allF_len _ nm) (Nat.le_trans (Nat.add_le_add (Nat.mul_le_mul_left 2 h.1) h.2) (by omega)), fun x hx => ?_⟩
  have h2 := sum_mem (l := r.fs.map (fun f => f.2)) (x := x.2) (List.mem_map.2 ⟨x, hx, rfl⟩)
  rw [List.map_map] at h2
  have h3 : (r.fs.map (List.length ∘ fun f => f.2)).sum = (r.fs.map (fun f => f.2.length)).sum := rfl
  omega
theorem endsB_bad {st : Int} (hst : 0 < st) : endsB ([], st, noReq) = true := by
  unfold endsB
  have : (st == 0) = false := by simpa using (by omega : st ≠ 0)
  simp [this]
theorem bk5r {w : World} {g tt : Nat} {a b c d e : Value} (h : Bk w g tt [a, b, c, d, e]) : (w.cell? ⟨g, 0, none⟩ = some a ∧ w.cell? ⟨g, 1, none⟩ = some b ∧ w.cell? ⟨g, 2, none⟩ = some c ∧ w.cell? ⟨g, 3, none⟩ = some d ∧ w.cell? ⟨g, 4, none⟩ = some e) ∧ (w.frozen? ⟨g, 0, none⟩ = false ∧ w.frozen? ⟨g, 1, none⟩ = false ∧ w.frozen? ⟨g, 2, none⟩ = false ∧ w.frozen? ⟨g, 3, none⟩ = false ∧ w.frozen? ⟨g, 4, none⟩ = false) :=
  ⟨⟨h.cell 0, h.cell 1, h.cell 2, h.cell 3, h.cell 4⟩, h.frozen 0, h.frozen 1, h.frozen 2, h.frozen 3, h.frozen 4⟩
section
variable {R : Ending → World → Prop} {w : World}
set_option maxHeartbeats 8000000 in
theorem resp28_any (x : List UInt8) (l : List Fl) (now : Int) {A : Option Addr} {n c : Nat} (hr : Rd w [] A (l.flatMap flC)) (hl : l.length = n) (hn : n ≤ 20) (ht : tblOk l) (hx : x.length ≤ 900)
    (h : ∀ (T : List UInt8) (ov : Bool) (k : Nat) (w' : World), Kp [] w w' → Hid (ansF l now 100 x = (T, ov, k)) → T.length ≤ 300000000 → R (.returned (.tuple #[.string (S T), .bool ov])) w') :
    Calls Tryz.prog 28 #[.string (S x), .slice A n c, .int .i64 now] w R := by
  have H := Lib.hid h
  have HR := Lib.hid hr
  have HL := Lib.hid hl
  have HT := Lib.hid ht
  clear h hr hl ht
  go_enter Tryz.func28, Tryz.ntmps28
  go_wp2
  go_loopw [0, 8] (fun sv ov wr => ∃ (b o : List UInt8), sv = .string (S b) ∧ ov = .string (S o) ∧ b.length ≤ 900 ∧ o.length + 250000 * b.length ≤ 225000000 ∧ Hid (Kp [] w wr) ∧ Hid (ansF l now 100 x = (o ++ (ansF l now 100 b).1, (ansF l now 100 b).2))) (fun sv _ _ => strLen sv)
  case atStart => exact ⟨x, [], rfl, rfl, hx, by simp; omega, Lib.hid (Kp.refl _ _), Lib.hid (by simp)⟩
  case round =>
    obtain ⟨b, o, rfl, rfl, hb, ho, hK, hE⟩ := hrel
    rcases next_cases (b := b) (by omega) with ⟨e, _⟩ | ⟨st, hst, e⟩ | ⟨r, rest, e, _⟩
    · have HNx : Hid (∀ (R : Ending → World → Prop), (∀ w', Kp [] wr w' → R (.returned (.tuple #[.agg #[.string ⟨#[]⟩, .string ⟨#[]⟩, .int .i64 0, .slice none 0 0, .bool false], .int .i64 0, .int .i64 (-1)])) w') → Calls Tryz.prog 36 #[.string (S b)] wr R) := Lib.hid (fun R h => rnext_any b (by omega) (fun st hs h0 w' k => by rw [e] at hs; simp only at hs; subst hs; exact h w' k) (fun r rest e' => by rw [e] at e'; simp at e'))
      have HF : Hid (ansF l now 100 x = (o, false, b.length)) := Lib.hid (by rw [hE.out, (rnd_none l now hb (nxtOp_more e)).2]; simp)
      clear e hE
      go_wp2_with (go_at_call 36; ((refine HNx.out _ ?_); intro w1 k1))
      exact H.out o false b.length _ ((hK.out.trans k1).alloc _) HF (by omega)
    · have HNx : Hid (∀ (R : Ending → World → Prop), (∀ w', Kp [] wr w' → R (.returned (.tuple #[.agg #[.string ⟨#[]⟩, .string ⟨#[]⟩, .int .i64 0, .slice none 0 0, .bool false], .int .i64 0, .int .i64 st])) w') → Calls Tryz.prog 36 #[.string (S b)] wr R) := Lib.hid (fun R h => rnext_any b (by omega) (fun st' hs h0 w' k => by rw [e] at hs; simp only at hs; subst hs; exact h w' k) (fun r rest e' => by rw [e] at e'; simp at e'))
      have hop := nxtOp_bad2 hst e
      have hab := ans_bad l now st noReq (by omega)
      obtain ⟨ps, hps⟩ : ∃ ps, partsG (wrS st) 0 [] [] = ps := ⟨_, rfl⟩
      obtain ⟨hd, hhd⟩ : ∃ hd, wrH st now = hd := ⟨_, rfl⟩
      have hwl := wrH_len st now
      have hwp := (wr_parts st).1
      rw [hhd] at hwl
      rw [hps] at hwp
      rw [hps, hhd] at hab
      have HWr : Hid (∀ (R : Ending → World → Prop) (w1 : World), (∀ A n c w', Kp [] w1 w' → Hid (Rd w' [] A (ps.flatMap ptV) ∧ ps.length = n ∧ n ≤ 21) → R (.returned (.agg #[.int .i64 (wrS st), .string (S hd), .slice A n c, .bool true])) w') → Calls Tryz.prog 37 #[.int .i64 st, .int .i64 now] w1 R) := Lib.hid (fun R w1 h => rwrong27_any st now (fun A n c w' k hh => by rw [hps] at hh; rw [hhd]; exact h A n c w' k hh))
      have hF : ansF l now 100 x = (o ++ txtP hd ps [], true, (nextF b).2.2.1.length) := by
        rw [hE.out, (rnd_some l now hb hop).2.1 (endsB_bad hst), hab]
      have HTx : Hid (∀ (R : Ending → World → Prop) (w1 : World) (A : Option Addr) (m c : Nat) (z : Int), (Rd w1 [] A (ps.flatMap ptV) ∧ ps.length = m ∧ m ≤ 21) → (∀ w', Kp [] w1 w' → R (.returned (.string (S (txtP hd ps [])))) w') → Calls Tryz.prog 38 #[.agg #[.int .i64 z, .string (S hd), .slice A m c, .bool true], .string ⟨#[]⟩] w1 R) := Lib.hid (fun R w1 A m c z ha h => rtext27_any z hd ps true [] ha.1 ha.2.1 ha.2.2 (by simpa using hwp) hwl (by simp) h)
      have HTl : Hid (∀ m, ps.length = m → m ≤ 21 → (txtP hd ps []).length ≤ 250000) := Lib.hid (fun m e1 e2 => by
        have h1 := pcs_len (s := []) (by simp) ps (fun p hp => (hwp p hp).2.1)
        unfold txtP
        rw [List.length_append]
        omega)
      have HF := Lib.hid hF
      clear e hE hop hab hps hhd hwl hwp hF
      obtain ⟨T, hT⟩ : ∃ T, txtP hd ps [] = T := ⟨_, rfl⟩
      rw [hT] at HTx HTl HF
      clear hT
      go_upto_region 6 with (go_at_call 36; ((refine HNx.out _ ?_); intro w1 k1))
      have K1 : Hid (Kp [] w (w1.alloc (.cells #[.string ⟨#[]⟩, .string ⟨#[]⟩, .int .i64 0, .slice none 0 0, .bool false] 24))) := Lib.hid ((hK.out.trans k1).alloc _)
      clear k1
      go_upto_region 7 with (go_at_call 37; ((refine HWr.out _ _ ?_); intro B m d w2 k2 h2))
      refine gen_worldC (fun W => ∃ g, w2.heap.size = g ∧ Hid (Kp [] w W ∧ Bk W g 91 [.int .i64 (wrS st), .string (S hd), .slice B m d, .bool true] ∧ (Rd W [] B (ps.flatMap ptV) ∧ ps.length = m ∧ m ≤ 21))) ⟨_, rfl, Lib.hid ⟨(K1.out.trans k2).alloc _, (Bk.new' _ _ _).cast rfl, h2.out.1.kp (S := []) ((Kp.refl _ _).alloc _) (by simp), h2.out.2⟩⟩ ?_
      rintro W ⟨g, hg, hW⟩
      rw [hg]
      clear hg k2 h2 K1
      obtain ⟨⟨z0, z1, z2, z3⟩, _⟩ := bk4r hW.out.2.1
      have hT2 := HTl.out m hW.out.2.2.2.1 hW.out.2.2.2.2
      go_wp2_with (go_at_call 38; ((refine HTx.out _ _ _ _ _ _ hW.out.2.2 ?_); intro w3 k3))
      exact H.out (o ++ T) true _ _ (hW.out.1.trans k3) HF (by rw [List.length_append]; omega)
    · have hop := nxtOp_good e
      obtain ⟨h16, hdr⟩ := next_16 (by omega) e
      obtain ⟨k, hk⟩ : ∃ k, b.length - rest.length = k := ⟨_, rfl⟩
      rw [hk] at hdr
      have HNx : Hid (∀ (R : Ending → World → Prop), (∀ A c w', Kp [] wr w' → Hid (Rd w' [] A (r.fs.flatMap fldC)) → R (.returned (.tuple #[.agg #[.string (S r.m), .string (S r.t), .int .i64 r.minor, .slice A r.fs.length c, .bool r.close], .int .i64 k, .int .i64 0])) w') → Calls Tryz.prog 36 #[.string (S b)] wr R) := Lib.hid (fun R h => rnext_any b (by omega) (fun st hs h0 w' k => by rw [e] at hs; simp only at hs; exact absurd hs.symm h0) (fun r' rest' e' hl A c w' k' rd hc => by
        rw [e] at e'
        simp only [Prod.mk.injEq] at e'
        obtain ⟨rfl, _, rfl, _⟩ := e'
        have : (b.length : Int) - rest.length = k := by omega
        rw [this]
        exact h A c w' k' (Lib.hid rd)))
      obtain ⟨q1, q2, q3⟩ := rnd_some l now hb hop
      obtain ⟨o1, o2, o3⟩ := good_ok hb e
      have HAn : Hid (∀ (R : Ending → World → Prop) (w1 : World) (B : Option Addr) (c9 : Nat), Kp [] w w1 → Rd w1 [] B (r.fs.flatMap fldC) → (∀ T w', Kp [] w1 w' → Hid (T = ansT l now ((ofL r.t).1, 0, r)) → T.length ≤ 250000 → R (.returned (.tuple #[.string (S T), .bool (endsB ((ofL r.t).1, 0, r))])) w') → Calls Tryz.prog 39 #[.agg #[.string (S r.m), .string (S r.t), .int .i64 r.minor, .slice B r.fs.length c9, .bool r.close], .slice A n c, .int .i64 now] w1 R) := Lib.hid (fun R w1 B c9 k hb h => answer28_any r l now hb o1 o2 o3 (HR.out.kp k (by simp)) HL.out hn HT.out h)
      have hlen2 : (b.drop k).length = b.length - k := List.length_drop ..
      rw [e] at q1 q2 q3
      simp only at q1 q2 q3
      obtain ⟨cl, hcl⟩ : ∃ cl, endsB ((ofL r.t).1, 0, r) = cl := ⟨_, rfl⟩
      rw [hcl] at HAn q2 q3
      have HE1 : Hid (∀ T, Hid (T = ansT l now ((ofL r.t).1, 0, r)) → cl = true → ansF l now 100 x = (o ++ T, true, rest.length)) := Lib.hid (fun T hT hc => by rw [hE.out, q2 hc, hT.out])
      have HE2 : Hid (∀ T, Hid (T = ansT l now ((ofL r.t).1, 0, r)) → cl = false → ansF l now 100 x = ((o ++ T) ++ (ansF l now 100 rest).1, (ansF l now 100 rest).2)) := Lib.hid (fun T hT hc => by rw [hE.out, (q3 hc).2.2, hT.out]; simp)
      clear e hE hop q1 q2 q3 o1 o2 o3 hcl
      have hkb : k ≤ b.length := by omega
      go_upto_region 8 with (go_at_call 36; ((refine HNx.out _ ?_); intro B c9 w1 k1 h1))
      refine gen_worldC (fun W => ∃ g, w1.heap.size = g ∧ Hid (Kp [] w W ∧ Bk W g 24 [.string (S r.m), .string (S r.t), .int .i64 r.minor, .slice B r.fs.length c9, .bool r.close] ∧ Rd W [] B (r.fs.flatMap fldC))) ⟨_, rfl, Lib.hid ⟨(hK.out.trans k1).alloc _, (Bk.new' _ _ _).cast rfl, h1.out.kp (S := []) ((Kp.refl _ _).alloc _) (by simp)⟩⟩ ?_
      rintro W ⟨g, hg, hW⟩
      rw [hg]
      clear hg k1 h1 hK
      obtain ⟨⟨z0, z1, z2, z3, z4⟩, _⟩ := bk5r hW.out.2.1
      cases cl with
      | true =>
        go_wp2_with (go_at_call 39; ((refine HAn.out _ _ _ _ hW.out.1 hW.out.2.2 ?_); intro T w3 k3 hT hl3))
        exact H.out (o ++ T) true _ _ (hW.out.1.trans k3) (Lib.hid (HE1.out T hT (by trivial))) (by rw [List.length_append]; omega)
      | false =>
        go_wp2_with (go_at_call 39; ((refine HAn.out _ _ _ _ hW.out.1 hW.out.2.2 ?_); intro T w3 k3 hT hl3))
        refine ⟨⟨rest, o ++ T, rfl, rfl, by omega, by rw [List.length_append]; omega, Lib.hid (hW.out.1.trans k3), Lib.hid (HE2.out T hT (by trivial))⟩, ?_⟩
        simp only [strLen, S_size]
        omega
end
end
/-! ### A plan's new block. -/
section
open Go.RowKit Go.Shelf
set_option linter.unusedVariables false
set_option maxRecDepth 100000
theorem nwP (w : World) : Bk (w.alloc (.cells #[.int .i64 0, .string ⟨#[]⟩, .slice none 0 0, .bool false] 31)) w.heap.size 31 [.int .i64 0, .string ⟨#[]⟩, .slice none 0 0, .bool false] := (Bk.new' _ _ _).cast rfl
theorem nwPd (w : World) : Bk (w.drew.alloc (.cells #[.int .i64 0, .string ⟨#[]⟩, .slice none 0 0, .bool false] 31)) w.heap.size 31 [.int .i64 0, .string ⟨#[]⟩, .slice none 0 0, .bool false] := (Bk.newAt rfl _ _).cast rfl
end
end Go.Proofs.YtnmafahbdfilcaaGreatDoor
