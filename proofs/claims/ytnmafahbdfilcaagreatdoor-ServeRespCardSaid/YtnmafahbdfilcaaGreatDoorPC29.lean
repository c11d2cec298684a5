/- respond in plain words: a head is short. ServePipes in plain words: how much a request takes; the answers to bytes. -/
import Derived.Test.YtnmafahbdfilcaaGreatDoorPC24
import Derived.Test.YtnmafahbdfilcaaGreatDoorPC25
import Derived.Test.YtnmafahbdfilcaaGreatDoorPC28
namespace Go.Proofs.YtnmafahbdfilcaaGreatDoor
/-! ### respond in plain words: a head is short. -/
section
open Go.RowKit
set_option linter.unusedVariables false
set_option linter.unusedSimpArgs false
set_option maxRecDepth 100000
def spOkN (z : Int × Int) : Prop := 0 ≤ z.1 ∧ z.1 ≤ 35184372088832 ∧ 0 ≤ z.2 ∧ z.2 ≤ 35184372088832
theorem dateT_len {n : Int} (h : mayB n = true) : (dateT n).length ≤ 200 := by
  unfold mayB at h
  simp only [Bool.and_eq_true, decide_eq_true_eq] at h
  by_cases hx : ∃ D, Told n D
  · obtain ⟨D, hD⟩ := hx
    rw [dateT_is hD]
    exact told_len hD h.1 h.2
  · unfold dateT
    rw [dif_neg hx]
    simp
theorem date_hdr (b : Bool) (n : Int) (nm : List UInt8) (h : nm.length ≤ 30) : (hdrB (b && mayB n) nm (dateT n)).length ≤ 300 := by
  cases hb : (b && mayB n) with
  | false => simp [hdrB]
  | true =>
    have hm : mayB n = true := by cases b <;> simp_all
    have := dateT_len hm
    have h2 := hdrB_len true nm (dateT n)
    omega
theorem hdr_le (b : Bool) {nm v : List UInt8} {k : Nat} (h : nm.length + v.length + 4 ≤ k) : (hdrB b nm v).length ≤ k := Nat.le_trans (hdrB_len b nm v) h
theorem headS_len (a : HdA) (hst : 0 ≤ a.st ∧ a.st ≤ 9999) (hkd : a.kd.length ≤ 300) (hv : 0 ≤ a.v ∧ a.v ≤ 9223372036854775807) (hmt : 0 ≤ a.mt ∧ a.mt ≤ 9223372036854775807) (hlen : 0 ≤ a.len ∧ a.len ≤ 35184372088832) (hn : 0 ≤ a.n ∧ a.n ≤ 9223372036854775807) (hz : ∀ z ∈ a.zs, spOkN z) : (headS a).length ≤ 4000 := by
  have h1 : (line1 (decL a.st.toNat) (rsnL a.st)).length ≤ 100 := by
    have e1 := dec3 (n := a.st.toNat) (by omega)
    have e2 := rsn_len a.st
    unfold line1
    simp only [List.length_append, List.length_cons, List.length_nil]
    omega
  have h2 : (hdrB (mayB a.now) dateN (dateT a.now)).length ≤ 300 := date_hdr true a.now dateN (by decide)
  have h3 : (hdr servN pantV).length ≤ 100 := by decide
  have h4 : (hdrB (a.body || a.st == 304) etagN (tagL a.v a.mt)).length ≤ 100 := hdr_le _ (by
    have e1 := itoaL_len a.v (by omega) (by omega)
    have e2 := itoaL_len a.mt (by omega) (by omega)
    have e3 : etagN.length = 4 := rfl
    unfold tagL
    simp only [List.length_append, List.length_cons, List.length_nil]
    omega)
  have h5 : (hdrB (a.body && mayB a.mt) lmN (dateT a.mt)).length ≤ 300 := date_hdr a.body a.mt lmN (by decide)
  have h6 : (hdrB (a.st == 200) arN bytV).length ≤ 100 := hdr_le _ (by decide)
  have h7 : (hdrB (a.st == 405) allowN ghV).length ≤ 100 := hdr_le _ (by decide)
  have h8 : a.ct.length ≤ 400 := by
    unfold HdA.ct
    split
    · rw [hdr_len]; have : ctN.length = 12 := rfl; omega
    · split
      · decide
      · exact hdr_le _ (by decide)
  have h9 : a.cr.length ≤ 200 := by
    unfold HdA.cr
    split
    · rw [hdr_len]
      have hzz : spOkN (a.zs.headD (0, 0)) := by
        cases hq : a.zs with
        | nil => unfold spOkN; decide
        | cons z zs => exact hz z (by rw [hq]; simp)
      have := contL_len (a.zs.headD (0, 0)).1 (a.zs.headD (0, 0)).2 a.len ⟨hzz.1, hzz.2.1⟩ ⟨hzz.2.2.1, hzz.2.2.2⟩ hlen
      have : crN.length = 13 := rfl
      omega
    · simp
  have h10 : (hdrB (a.st == 416) crN (noneL a.len)).length ≤ 100 := hdr_le _ (by
    have e1 := itoaL_len a.len (by omega) (by omega)
    have e3 : crN.length = 13 := rfl
    unfold noneL
    simp only [List.length_cons]
    omega)
  have h11 : (hdrB (a.st != 304) clN (itoaL a.n)).length ≤ 100 := hdr_le _ (by
    have e1 := itoaL_len a.n (by omega) (by omega)
    have e3 : clN.length = 14 := rfl
    omega)
  have h12 : (hdrB a.cl connN closV).length ≤ 100 := hdr_le _ (by decide)
  have h13 : (hdrB (!a.cl && a.minor == 0) connN keepV).length ≤ 100 := hdr_le _ (by decide)
  unfold headS
  simp only [List.length_append, List.length_cons, List.length_nil]
  omega
theorem ofH_len (r : Req) (there : Bool) (v mt len : Int) (kd : List UInt8) (now : Int) (hkd : kd.length ≤ 300) (hv : 0 ≤ v ∧ v ≤ 9223372036854775807) (hmt : 0 ≤ mt ∧ mt ≤ 9223372036854775807) (hlen : 0 ≤ len ∧ len ≤ 35184372088832) : (ofH r there v mt len kd now).length ≤ 4000 := by
  have hc := choose_ok r there v mt len
  have hst := choose_st r there v mt len
  have hz : ∀ z ∈ (chooseM r there v mt len).2, spOkN z := fun z hzm => okZ_sp hlen.2 (hc.2.1 z hzm)
  have hp := parts_ok (kd := kd) hst.1 hst.2 hlen.1 hlen.2 hkd hz
  have hs := sum_bd _ hp
  have hn : (partsG (chooseM r there v mt len).1 len kd (chooseM r there v mt len).2).length ≤ 1000 := by
    have h4 := hc.2.2.1
    refine Nat.le_trans (List.length_filter_le _ _) ?_
    unfold layG
    split
    · simp
    · split
      · have : ∀ (zs : List (Int × Int)) (b : Bool), (zs.flatMap (spP len kd b)).length ≤ 2 * zs.length := by
          intro zs b
          induction zs with
          | nil => simp
          | cons z zs ih =>
            have : (spP len kd b z).length ≤ 2 := by unfold spP; split <;> simp
            simp only [List.flatMap_cons, List.length_append, List.length_cons]
            omega
        have := this (chooseM r there v mt len).2 (decide (1 < (chooseM r there v mt len).2.length))
        rw [List.length_append]
        split
        · simp only [List.length_cons, List.length_nil]; omega
        · simp only [List.length_nil]; omega
      · split <;> simp
  unfold ofH
  exact headS_len _ hst hkd hv hmt hlen ⟨hs.1, by have := hs.2; simp only; omega⟩ hz
theorem wr_parts (s : Int) : (∀ p ∈ partsG (wrS s) 0 [] [], inP 0 p ∧ okPt p) ∧ (partsG (wrS s) 0 [] []).length ≤ 21 := by
  have hb := wrS_bd s
  refine ⟨fun p hp => ⟨parts_in (by decide) (fun z hz => by cases hz) p hp, parts_ok (by omega) (by omega) (by decide) (by decide) (by decide) (fun z hz => by cases hz) p hp⟩, ?_⟩
  refine Nat.le_trans (List.length_filter_le _ _) ?_
  unfold layG
  rw [if_neg (by omega), if_neg (by omega), if_neg (by omega)]
  exact Nat.le_of_ble_eq_true rfl
theorem wrH_len (s now : Int) : (wrH s now).length ≤ 4000 := by
  have hb := wrS_bd s
  have hp := wr_parts s
  have hs := sum_bd _ (fun p h => (hp.1 p h).2)
  unfold wrH
  exact headS_len _ (by simp only; omega) (by simp) (by simp only; omega) (by simp only; omega) (by simp only; omega) ⟨hs.1, by have h1 := hs.2; have h2 := hp.2; simp only; omega⟩ (fun z hz => by cases hz)
/-- Does x stand in s at one of the first k places? -/
def srchB (s x : List UInt8) (k : Nat) : Bool := (List.range k).any fun i => (s.drop i).take x.length == x
theorem srchB_succ (s x : List UInt8) (k : Nat) : srchB s x (k + 1) = (srchB s x k || (s.drop k).take x.length == x) := by
  unfold srchB
  rw [List.range_succ, List.any_append]
  simp
theorem srch_fit {s x : List UInt8} {i : Nat} (hx : x ≠ []) (h : (s.drop i).take x.length = x) : i + x.length ≤ s.length := by
  have h1 := congrArg List.length h
  rw [List.length_take, List.length_drop] at h1
  have h2 : 0 < x.length := List.length_pos_iff.2 hx
  omega
theorem srchB_iff {s x : List UInt8} {k : Nat} (hx : x ≠ []) (h : ∀ i, i + x.length ≤ s.length → i < k) : srchB s x k = true ↔ ∃ i, (s.drop i).take x.length = x := by
  unfold srchB
  rw [List.any_eq_true]
  constructor
  · rintro ⟨i, _, hi⟩
    exact ⟨i, by simpa using hi⟩
  · rintro ⟨i, hi⟩
    exact ⟨i, List.mem_range.2 (h i (srch_fit hx hi)), by simpa using hi⟩
theorem srch_no {s x : List UInt8} {i : Nat} (hx : x ≠ []) (h : s.length < i + x.length) : ((s.drop i).take x.length == x) = false := by
  cases hb : ((s.drop i).take x.length == x) with
  | false => rfl
  | true => have := srch_fit hx (by simpa using hb); omega
theorem slc_eq (s : List UInt8) (k n : Nat) : (s.take (k + n)).drop k = (s.drop k).take n := by rw [List.drop_take, Nat.add_sub_cancel_left]
theorem lenLn_len (n : Int) : (lenLn n).length = (ln clN (itoaL n)).length + 4 := by simp [lenLn]
/-- The plain law of RespondLength. -/
theorem rlen_plain (r : Req) (hm : r.m = getM) (there : Bool) (v mt len : Int) (kd : List UInt8) (now : Int) (hkd : kd.length ≤ 300) (hv : 0 ≤ v ∧ v ≤ 9223372036854775807) (hmt : 0 ≤ mt ∧ mt ≤ 9223372036854775807) (hlen : 0 ≤ len ∧ len ≤ 35184372088832) :
    (∀ p ∈ ofP r there v mt len kd, inP len p ∧ okPt p) ∧ (ofH r there v mt len kd now).length ≤ 4000 ∧
    ((∃ i, ((ofH r there v mt len kd now).drop i).take (lenLn (sumG (ofP r there v mt len kd))).length = lenLn (sumG (ofP r there v mt len kd))) ↔ (chooseM r there v mt len).1 ≠ 304) ∧
    ((chooseM r there v mt len).1 = 304 → sumG (ofP r there v mt len kd) = 0) := by
  have hcc := choose_ok r there v mt len
  have hst := choose_st r there v mt len
  have hps := (parts_head hm there v mt len kd).2
  rw [hps]
  refine ⟨fun p hp => ⟨parts_in hlen.1 hcc.2.1 p hp, parts_ok hst.1 hst.2 hlen.1 hlen.2 hkd (fun z hz => okZ_sp hlen.2 (hcc.2.1 z hz)) p hp⟩, ofH_len r there v mt len kd now hkd hv hmt hlen, ?_, ?_⟩
  · rw [lenLn_len]
    exact length_iff ⟨(chooseM r there v mt len).1, r.minor, r.close || (chooseM r there v mt len).1 == 400, v, mt, len, kd, now, (chooseM r there v mt len).2, sumG (partsG (chooseM r there v mt len).1 len kd (chooseM r there v mt len).2)⟩
  · intro e
    rw [e]
    exact sum304 _ _ _
end
/-! ### ServePipes in plain words: how much a request takes; the answers to bytes. -/
section
open Go.RowKit
set_option linter.unusedVariables false
set_option linter.unusedSimpArgs false
set_option maxRecDepth 100000
theorem headG_sum : ∀ (f : Nat) (ls : List (List UInt8)) (s : List UInt8) {xs : List (List UInt8)} {r : List UInt8}, headG f ls s = (xs, r, 0) → r.length + (xs.map fun x => x.length + 2).sum + 2 ≤ s.length + (ls.map fun x => x.length + 2).sum := by
  intro f
  induction f with
  | zero => intro ls s xs r h; simp [headG] at h
  | succ f ih =>
    intro ls s xs r h
    rw [headG] at h
    cases hl : lineL s with
    | wrong => simp [hl] at h
    | more => simp [hl] at h
    | got l a =>
      have := lineL_len hl
      rw [hl] at h
      simp only at h
      split at h
      · have := ih _ _ h
        simp only [List.map_append, List.map_cons, List.map_nil, List.sum_append, List.sum_cons, List.sum_nil] at this
        omega
      · split at h
        · injection h with h1 h; injection h with h _; subst h; subst h1; omega
        · have := ih _ _ h; omega
theorem first_len8 {l m t : List UInt8} {a b : UInt8} (h : firstL l = some (m, t, a, b)) : 8 ≤ l.length := by
  unfold firstL at h
  split at h
  · rename_i m' t' v' e
    have hv' := spl_mem_len 32 l v' (by rw [e]; simp)
    unfold firstP at h
    split at h
    · unfold verL at h
      split at h
      · rename_i h5
        have h3 : (v'.drop 5).length = 3 := by
          by_cases hh : (v'.drop 5).length = 3
          · exact hh
          · rw [ver3_len hh] at h; cases h
        rw [List.length_drop] at h3
        omega
      · cases h
    · cases h
  · cases h
theorem ofF_len {ls : List (List UInt8)} (h : (ofF ls).2 = 0) : ∃ l r, ls = l :: r ∧ 8 ≤ l.length := by
  cases ls with
  | nil => simp [ofF] at h
  | cons l r =>
    refine ⟨l, r, rfl, ?_⟩
    cases hf : firstL l with
    | none => simp [ofF, hf] at h
    | some x =>
      obtain ⟨m, t, a, b⟩ := x
      exact first_len8 hf
theorem next_len12 {b rest : List UInt8} {r : Req} (hb : b.length < 1024) (e : nextF b = (r, 0, rest, false)) : rest.length + 12 ≤ b.length := by
  have h := next_G hb (b.length + 1) (by omega)
  rcases headG_st (b.length + 1) [] b with e1 | e1 | ⟨xs, rr, e1⟩
  · rw [e1, e] at h; simp at h
  · rw [e1, e] at h; simp at h
  · have hl := headG_sum _ _ _ e1
    rw [e1, e] at h
    simp only at h
    rw [if_neg (by decide), if_pos trivial] at h
    by_cases h0 : (ofF xs).2 = 0
    · rw [if_pos h0] at h
      have hr : rest = rr := by simpa using (congrArg (fun p => p.2.2.1) h)
      subst hr
      obtain ⟨l, r', rfl, hl8⟩ := ofF_len h0
      simp only [List.map_cons, List.sum_cons, List.map_nil, List.sum_nil] at hl
      omega
    · rw [if_neg h0] at h
      exact absurd (congrArg (fun p => p.2.2.2) h) (by simp)
/-- A file of a table. -/
structure Fl where
  nm : List UInt8
  s : List UInt8
  v : Int
  mt : Int
def flC (f : Fl) : List Value := [.string (S f.nm), .string (S f.s), .int .i64 f.v, .int .i64 f.mt]
theorem flC_len (f : Fl) : (flC f).length = 4 := rfl
def noFl : Fl := ⟨[], [], 0, 0⟩
def flHit (f : Fl) (nm : List UInt8) : Bool := f.nm == nm && !(nm == [])
def findL : List Fl → List UInt8 → Fl × Bool
  | [], _ => (noFl, false)
  | f :: l, nm => if flHit f nm = true then (f, true) else findL l nm
theorem findL_yes {l : List Fl} {k : Nat} {f : Fl} {nm : List UInt8} (hf : l[k]? = some f) (hd : findL (l.drop k) nm = findL l nm) (h : flHit f nm = true) : findL l nm = (f, true) := by
  rw [← hd, List.drop_eq_getElem?_toList_append, hf]
  simp [findL, h]
theorem findL_no {l : List Fl} {k : Nat} {f : Fl} {nm : List UInt8} (hf : l[k]? = some f) (hd : findL (l.drop k) nm = findL l nm) (h : flHit f nm = false) : findL (l.drop (k + 1)) nm = findL l nm := by
  rw [← hd, List.drop_eq_getElem?_toList_append (i := k), hf]
  simp [findL, h]
theorem findL_in {l : List Fl} {nm : List UInt8} : (findL l nm).1 = noFl ∨ (findL l nm).1 ∈ l := by
  induction l with
  | nil => exact .inl rfl
  | cons f l ih =>
    unfold findL
    split
    · exact .inr (by simp)
    · rcases ih with h | h
      · exact .inl h
      · exact .inr (by simp [h])
/-- The text of a part, of a file of such bytes. -/
def pcP (s : List UInt8) (p : Pt) : List UInt8 := p.1 ++ (if 0 < p.2.2 ∧ 0 ≤ p.2.1 ∧ p.2.1 + p.2.2 ≤ s.length then (s.drop p.2.1.toNat).take p.2.2.toNat else [])
def txtP (h : List UInt8) (ps : List Pt) (s : List UInt8) : List UInt8 := h ++ ps.flatMap (pcP s)
theorem pcP_len {s : List UInt8} {p : Pt} (hs : s.length ≤ 9000) (hp : p.1.length ≤ 1000) : (pcP s p).length ≤ 10000 := by
  unfold pcP
  rw [List.length_append]
  split
  · rw [List.length_take, List.length_drop]; omega
  · simp only [List.length_nil]; omega
theorem pcs_len {s : List UInt8} (hs : s.length ≤ 9000) : ∀ (ps : List Pt), (∀ p ∈ ps, p.1.length ≤ 1000) → (ps.flatMap (pcP s)).length ≤ ps.length * 10000
  | [], _ => by simp
  | p :: ps, h => by
    have h1 := pcs_len hs ps (fun q hq => h q (by simp [hq]))
    have h2 := pcP_len hs (h p (by simp))
    simp only [List.flatMap_cons, List.length_append, List.length_cons]
    omega
noncomputable def planL (l : List Fl) (now : Int) (a : AskP) : Int × List UInt8 × List Pt × Bool :=
  planT a (findL l a.1).2 (findL l a.1).1.v (findL l a.1).1.mt (findL l a.1).1.s.length (kindL a.1) now
/-- The answer to an ask. -/
noncomputable def ansT (l : List Fl) (now : Int) (a : AskP) : List UInt8 := txtP (planL l now a).2.1 (planL l now a).2.2.1 (findL l a.1).1.s
/-- The answers to bytes: the text, is it over, how many bytes are left. -/
noncomputable def ansF (l : List Fl) (now : Int) : Nat → List UInt8 → List UInt8 × Bool × Nat
  | 0, b => ([], false, b.length)
  | k + 1, b => match nxtOp b false with
    | none => ([], false, (nextF b).2.2.1.length)
    | some a => if endsB a = true then (ansT l now a, true, (nextF b).2.2.1.length) else (ansT l now a ++ (ansF l now k (nextF b).2.2.1).1, (ansF l now k (nextF b).2.2.1).2)
theorem nxtOp_more {b : List UInt8} (e : nextF b = (noReq, -1, b, false)) : nxtOp b false = none := by
  unfold nxtOp nxt
  simp [e]
theorem nxtOp_bad {b : List UInt8} {st : Int} (hst : 0 < st) (e : nextF b = (noReq, st, [], true)) : ∃ a, nxtOp b false = some a ∧ endsB a = true := by
  unfold nxtOp nxt
  simp only [Bool.false_eq_true, if_false, e]
  rw [if_neg (by omega)]
  refine ⟨_, rfl, ?_⟩
  unfold endsB
  have : (st == 0) = false := by simpa using (by omega : st ≠ 0)
  simp [this]
theorem nxtOp_good {b rest : List UInt8} {r : Req} (e : nextF b = (r, 0, rest, false)) : nxtOp b false = some ((ofL r.t).1, 0, r) := by
  unfold nxtOp nxt
  simp [e]
theorem ansF_fuel (l : List Fl) (now : Int) : ∀ (k k' : Nat) (b : List UInt8), b.length < 1024 → b.length < 12 * k → b.length < 12 * k' → ansF l now k b = ansF l now k' b := by
  intro k
  induction k with
  | zero => intro k' b _ h; omega
  | succ k ih =>
    intro k' b hb h h'
    obtain ⟨k', rfl⟩ : ∃ g, k' = g + 1 := ⟨k' - 1, by omega⟩
    rw [ansF, ansF]
    rcases next_cases hb with ⟨e, _⟩ | ⟨st, hst, e⟩ | ⟨r, rest, e, hl⟩
    · rw [nxtOp_more e]
    · obtain ⟨a, ha, he⟩ := nxtOp_bad hst e
      rw [ha]; simp only; rw [if_pos he, if_pos he]
    · rw [nxtOp_good e, e]
      have h12 := next_len12 hb e
      simp only
      split
      · rfl
      · by_cases hk : rest.length < 12 * k
        · by_cases hk' : rest.length < 12 * k'
          · rw [ih k' rest (by omega) hk hk']
          · omega
        · omega
theorem ansF_app (l : List Fl) (now : Int) : ∀ (n : Nat) (b c : List UInt8), b.length ≤ n → b.length + c.length ≤ 900 → (ansF l now 100 b).2 = (false, 0) →
    ansF l now 100 (b ++ c) = ((ansF l now 100 b).1 ++ (ansF l now 100 c).1, (ansF l now 100 c).2) := by
  intro n
  induction n with
  | zero =>
    intro b c h _ _
    have : b = [] := List.length_eq_zero_iff.1 (by omega)
    subst this
    have e : (ansF l now 100 []).1 = [] := by rw [ansF, nxtOp_more (b := []) rfl]
    rw [e]; simp
  | succ n ih =>
    intro b c h hb h0
    rcases next_cases (b := b) (by omega) with ⟨e, _⟩ | ⟨st, hst, e⟩ | ⟨r, rest, e, hl⟩
    · have E1 : ansF l now 100 b = ([], false, b.length) := by rw [ansF, nxtOp_more e, e]
      rw [E1] at h0
      simp only [Prod.mk.injEq, true_and] at h0
      have : b = [] := List.length_eq_zero_iff.1 h0
      subst this
      have e0 : (ansF l now 100 []).1 = [] := by rw [E1]
      rw [e0]; simp
    · obtain ⟨a, ha, he⟩ := nxtOp_bad hst e
      rw [ansF, ha] at h0
      simp only at h0
      rw [if_pos he] at h0
      simp at h0
    · have e2 := (next_app (b := b) (c := c) (by omega)).1 r rest e
      have h12 := next_len12 (by omega) e
      have E1 : ansF l now 100 b = if endsB ((ofL r.t).1, 0, r) = true then (ansT l now ((ofL r.t).1, 0, r), true, rest.length) else (ansT l now ((ofL r.t).1, 0, r) ++ (ansF l now 99 rest).1, (ansF l now 99 rest).2) := by
        rw [ansF, nxtOp_good e, e]
      have E2 : ansF l now 100 (b ++ c) = if endsB ((ofL r.t).1, 0, r) = true then (ansT l now ((ofL r.t).1, 0, r), true, (rest ++ c).length) else (ansT l now ((ofL r.t).1, 0, r) ++ (ansF l now 99 (rest ++ c)).1, (ansF l now 99 (rest ++ c)).2) := by
        rw [ansF, nxtOp_good e2, e2]
      rw [E1] at h0
      by_cases hne : endsB ((ofL r.t).1, 0, r) = true
      · rw [if_pos hne] at h0
        simp at h0
      · rw [if_neg hne] at h0
        rw [E2, E1, if_neg hne, if_neg hne]
        rw [ansF_fuel l now 99 100 rest (by omega) (by omega) (by omega)] at h0 ⊢
        rw [ansF_fuel l now 99 100 (rest ++ c) (by simp; omega) (by simp; omega) (by simp; omega)]
        rw [ih rest c (by omega) (by omega) h0]
        simp
end
end Go.Proofs.YtnmafahbdfilcaaGreatDoor
