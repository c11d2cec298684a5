/- RespondForm: what comes in, opened. However bytes are fed the same requests come: the plain law. ServePipes in plain words: how much a request takes; the answers to bytes. pantlerlaw28: the text of a plan; a file of a table; is a table more than is looked at. The document's Kind; how long names and kinds are. ServePipes: what a plan tells is short; a parser beside a talk; one round of the answers in plain words. -/
import Derived.Test.YtnmafahbdfilcaaGreatDoorPB28
import Derived.Test.YtnmafahbdfilcaaGreatDoorPB26
import Derived.Test.YtnmafahbdfilcaaGreatDoorPB10
import Derived.Test.YtnmafahbdfilcaaGreatDoorPB22
import Derived.Deep.CutBlock
import Derived.Deep.DeepCutAuto
import Derived.Test.YtnmafahbdfilcaaGreatDoorPB24
namespace Go.Proofs.YtnmafahbdfilcaaGreatDoor
/-! ### RespondForm: what comes in, opened. -/
section
open Go.RowKit Go.Shelf Go.ChangeShapes Go.WideShapes Go.ChangeAt Go.Deep
set_option linter.unusedVariables false
set_option linter.unusedSimpArgs false
set_option maxRecDepth 100000
theorem rform_top {R : Ending → World → Prop} {W : World} (m t : ByteArray) (mi : Int) (s : Sin (ByteArray × ByteArray)) (cl there : Bool) (f : FileA) (now wrong : Int) (w0 : Sin.ok W (fun s : ByteArray × ByteArray => [Value.string s.1, Value.string s.2]) (fun s => s.1.size ≤ maxLen ∧ s.2.size ≤ maxLen) s) (hz : (s.l.map fun s => s.1.size + s.2.size + 3).sum ≤ 1048576) (wf : i64F f.v ∧ i64F f.mt ∧ i64F f.len) (hw : Lw W) (h : ∀ w', Kp [] W w' → R (.returned (.bool true)) w') :
    Calls Tryz.prog 4 #[.agg #[.string m, .string t, .int .i64 mi, .slice s.A s.n s.c, .bool cl], .bool there, .agg f.vals.toArray, .int .i64 now, .int .i64 wrong] W R := by
  have e : f.kd = S f.kd.data.toList := S_eta _
  unfold FileA.vals
  rw [e, S_eta m, S_eta t]
  have rd0 : Rd W [] s.A ((s.l.map fdB).flatMap fldC) := by have := w0.rd; rwa [flat_fd] at this
  have hl : (s.l.map fdB).length = s.n := by rw [List.length_map]; exact w0.len
  have e2 : s.n = (Req.fs ⟨m.data.toList, t.data.toList, mi, s.l.map fdB, cl⟩).length := hl.symm
  rw [e2]
  exact rform_walk ⟨m.data.toList, t.data.toList, mi, s.l.map fdB, cl⟩ there f.v f.mt f.len f.kd.data.toList now wrong rd0 (by have := w0.cap; simp only; omega) wf.1 wf.2.1 (fun _ nm => by
    have h1 := all_le (s.l.map fdB) nm
    have h2 := fd_sum s.l
    simp only
    omega) hw h
end
/-! ### However bytes are fed the same requests come: the plain law. -/
section
open Go.RowKit Go.Shelf
set_option linter.unusedVariables false
set_option linter.unusedSimpArgs false
set_option maxRecDepth 100000

theorem next_G {b : List UInt8} (hb : b.length < 1024) (f : Nat) (hf : b.length < f) :
    nextF b = match headG f [] b with | (ls, rest, st) => if st < 0 then (noReq, st, b, false) else if st = 0 then (if (ofF ls).2 = 0 then ((ofF ls).1, 0, rest, false) else (noReq, (ofF ls).2, [], true)) else (noReq, st, [], true) := by
  unfold nextF
  rw [headF_G _ _ _ _ hb, headG_fuel (b.length + 1) f [] b (by omega) hf]
/-- What Next may hand back. -/
theorem next_cases {b : List UInt8} (hb : b.length < 1024) :
    (nextF b = (noReq, -1, b, false) ∧ True) ∨ (∃ st, 0 < st ∧ nextF b = (noReq, st, [], true)) ∨ (∃ r rest, nextF b = (r, 0, rest, false) ∧ rest.length + 2 ≤ b.length) := by
  have h := next_G hb (b.length + 1) (by omega)
  rcases headG_st (b.length + 1) [] b with e | e | ⟨xs, rr, e⟩
  · rw [e] at h; exact .inl ⟨h, trivial⟩
  · rw [e] at h; exact .inr (.inl ⟨400, by decide, h⟩)
  · have hl := headG_len _ _ _ e
    rw [e] at h
    simp only at h
    rw [if_neg (by decide), if_pos trivial] at h
    by_cases h0 : (ofF xs).2 = 0
    · rw [if_pos h0] at h
      exact .inr (.inr ⟨_, _, h, hl⟩)
    · rw [if_neg h0] at h
      have := (ofF_st xs).1
      exact .inr (.inl ⟨_, by omega, h⟩)
theorem next_app {b c : List UInt8} (hb : b.length + c.length < 1024) :
    (∀ r rest, nextF b = (r, 0, rest, false) → nextF (b ++ c) = (r, 0, rest ++ c, false)) ∧ (∀ st, 0 < st → nextF b = (noReq, st, [], true) → nextF (b ++ c) = (noReq, st, [], true)) := by
  have h1 := next_G (b := b) (by omega) ((b ++ c).length + 1) (by simp; omega)
  have h2 := next_G (b := b ++ c) (by simp; omega) ((b ++ c).length + 1) (by omega)
  obtain ⟨a1, a2⟩ := headG_app ((b ++ c).length + 1) [] b c
  rcases headG_st ((b ++ c).length + 1) [] b with e | e | ⟨xs, rr, e⟩
  · rw [e] at h1
    constructor
    · intro r rest h; rw [h1] at h; simp at h
    · intro st hst h; rw [h1] at h; simp at h
  · rw [e] at h1
    rw [a2 _ _ e] at h2
    constructor
    · intro r rest h; rw [h1] at h; simp at h
    · intro st hst h
      rw [h2, ← h, h1]; rfl
  · rw [e] at h1
    rw [a1 _ _ e] at h2
    simp only at h1 h2
    rw [if_neg (by decide), if_pos trivial] at h1 h2
    by_cases h0 : (ofF xs).2 = 0
    · rw [if_pos h0] at h1 h2
      constructor
      · intro r rest h
        rw [h1] at h
        simp at h
        rw [h2, h.1, h.2]
      · intro st hst h; rw [h1] at h; simp at h
    · rw [if_neg h0] at h1 h2
      constructor
      · intro r rest h; rw [h1] at h; simp at h
      · intro st hst h; rw [h2, ← h, h1]
/-- All that comes of bytes: the requests, the last status, what is left, whether it is over. -/
def runF : Nat → List UInt8 → List Req × Int × List UInt8 × Bool
  | 0, b => ([], 0, b, false)
  | k + 1, b => if (nextF b).2.1 = 0 then ((nextF b).1 :: (runF k (nextF b).2.2.1).1, (runF k (nextF b).2.2.1).2) else ([], (nextF b).2.1, (nextF b).2.2.1, (nextF b).2.2.2)
theorem runF_fuel : ∀ (k k' : Nat) (b : List UInt8), b.length < 1024 → b.length < k → b.length < k' → runF k b = runF k' b := by
  intro k
  induction k with
  | zero => intro k' b _ h; omega
  | succ k ih =>
    intro k' b hb h h'
    obtain ⟨k', rfl⟩ : ∃ g, k' = g + 1 := ⟨k' - 1, by omega⟩
    rw [runF, runF]
    rcases next_cases hb with ⟨e, _⟩ | ⟨st, hst, e⟩ | ⟨r, rest, e, hl⟩
    · rw [e]; rfl
    · rw [e]; simp only; rw [if_neg (by omega), if_neg (by omega)]
    · rw [e]; simp only
      rw [ih k' rest (by omega) (by omega) (by omega)]
def run (b : List UInt8) : List Req × Int × List UInt8 × Bool := runF (b.length + 1) b
theorem run_more {b : List UInt8} (hb : b.length < 1024) (e : nextF b = (noReq, -1, b, false)) : run b = ([], -1, b, false) := by
  unfold run; rw [runF, e]; rfl
theorem run_bad {b : List UInt8} {st : Int} (hst : 0 < st) (e : nextF b = (noReq, st, [], true)) : run b = ([], st, [], true) := by
  unfold run; rw [runF, e]; simp only; rw [if_neg (by omega)]
theorem run_good {b rest : List UInt8} {r : Req} (hb : b.length < 1024) (hl : rest.length + 2 ≤ b.length) (e : nextF b = (r, 0, rest, false)) : run b = (r :: (run rest).1, (run rest).2) := by
  unfold run
  rw [runF, e]
  simp only
  rw [runF_fuel b.length (rest.length + 1) rest (by omega) (by omega) (by omega)]
  rfl
theorem run_st : ∀ (n : Nat) (b : List UInt8), b.length ≤ n → b.length < 1024 → ((run b).2.1 = -1 ∧ (run b).2.2.2 = false ∨ 0 < (run b).2.1 ∧ (run b).2.2.1 = [] ∧ (run b).2.2.2 = true) ∧ (run b).2.2.1.length ≤ b.length := by
  intro n
  induction n with
  | zero =>
    intro b h hb
    rcases next_cases hb with ⟨e, _⟩ | ⟨st, hst, e⟩ | ⟨r, rest, e, hl⟩
    · rw [run_more hb e]; exact ⟨.inl ⟨rfl, rfl⟩, Nat.le_refl _⟩
    · rw [run_bad hst e]; exact ⟨.inr ⟨hst, rfl, rfl⟩, by simp⟩
    · omega
  | succ n ih =>
    intro b h hb
    rcases next_cases hb with ⟨e, _⟩ | ⟨st, hst, e⟩ | ⟨r, rest, e, hl⟩
    · rw [run_more hb e]; exact ⟨.inl ⟨rfl, rfl⟩, Nat.le_refl _⟩
    · rw [run_bad hst e]; exact ⟨.inr ⟨hst, rfl, rfl⟩, by simp⟩
    · rw [run_good hb hl e]
      have := ih rest (by omega) (by omega)
      exact ⟨this.1, by have := this.2; simp only; omega⟩
theorem cruns_app : ∀ (n : Nat) (b c : List UInt8), b.length ≤ n → b.length + c.length < 1024 →
    ((run b).2.2.2 = true → run (b ++ c) = run b) ∧ ((run b).2.2.2 = false → run (b ++ c) = ((run b).1 ++ (run ((run b).2.2.1 ++ c)).1, (run ((run b).2.2.1 ++ c)).2)) := by
  intro n
  induction n with
  | zero =>
    intro b c h hb
    rcases next_cases (b := b) (by omega) with ⟨e, _⟩ | ⟨st, hst, e⟩ | ⟨r, rest, e, hl⟩
    · rw [run_more (by omega) e]
      exact ⟨fun h => (by cases h), fun _ => (by simp)⟩
    · rw [run_bad hst e, run_bad hst ((next_app hb).2 st hst e)]
      exact ⟨fun _ => rfl, fun h => (by cases h)⟩
    · omega
  | succ n ih =>
    intro b c h hb
    rcases next_cases (b := b) (by omega) with ⟨e, _⟩ | ⟨st, hst, e⟩ | ⟨r, rest, e, hl⟩
    · rw [run_more (by omega) e]
      exact ⟨fun h => (by cases h), fun _ => (by simp)⟩
    · rw [run_bad hst e, run_bad hst ((next_app hb).2 st hst e)]
      exact ⟨fun _ => rfl, fun h => (by cases h)⟩
    · have e2 := (next_app hb).1 r rest e
      have h2 := ih rest c (by omega) (by omega)
      rw [run_good (by omega) hl e, run_good (by simp; omega) (by simp; omega) e2]
      constructor
      · intro ho
        rw [h2.1 ho]
      · intro ho
        rw [h2.2 ho]
        simp
end
/-! ### ServePipes in plain words: how much a request takes; the answers to bytes. -/
section
open Go.RowKit
set_option linter.unusedVariables false
set_option linter.unusedSimpArgs false
set_option maxRecDepth 100000
theorem headG_sum : ∀ (f : Nat) (ls : List (List UInt8)) (s : List UInt8) {xs : List (List UInt8)} {r : List UInt8}, headG f ls s = (xs, r, 0) → r.length + (xs.map fun x => x.length + 2).sum + 2 ≤ s.length + (ls.map fun x => x.length + 2).sum := by
  intro f
  induction f with
  | zero => intro ls s xs r h; simp [headG] at h
  | succ f ih =>
    intro ls s xs r h
    rw [headG] at h
    cases hl : lineL s with
    | wrong => simp [hl] at h
    | more => simp [hl] at h
    | got l a =>
      have := lineL_len hl
      rw [hl] at h
      simp only at h
      split at h
      · have := ih _ _ h
        simp only [List.map_append, List.map_cons, List.map_nil, List.sum_append, List.sum_cons, List.sum_nil] at this
        omega
      · split at h
        · injection h with h1 h; injection h with h _; subst h; subst h1; omega
        · have := ih _ _ h; omega
theorem first_len8 {l m t : List UInt8} {a b : UInt8} (h : firstL l = some (m, t, a, b)) : 8 ≤ l.length := by
  unfold firstL at h
  split at h
  · rename_i m' t' v' e
    have hv' := spl_mem_len 32 l v' (by rw [e]; simp)
    unfold firstP at h
    split at h
    · unfold verL at h
      split at h
      · rename_i h5
        have h3 : (v'.drop 5).length = 3 := by
          by_cases hh : (v'.drop 5).length = 3
          · exact hh
          · rw [ver3_len hh] at h; cases h
        rw [List.length_drop] at h3
        omega
      · cases h
    · cases h
  · cases h
theorem ofF_len {ls : List (List UInt8)} (h : (ofF ls).2 = 0) : ∃ l r, ls = l :: r ∧ 8 ≤ l.length := by
  cases ls with
  | nil => simp [ofF] at h
  | cons l r =>
    refine ⟨l, r, rfl, ?_⟩
    cases hf : firstL l with
    | none => simp [ofF, hf] at h
    | some x =>
      obtain ⟨m, t, a, b⟩ := x
      exact first_len8 hf
theorem next_len12 {b rest : List UInt8} {r : Req} (hb : b.length < 1024) (e : nextF b = (r, 0, rest, false)) : rest.length + 12 ≤ b.length := by
  have h := next_G hb (b.length + 1) (by omega)
  rcases headG_st (b.length + 1) [] b with e1 | e1 | ⟨xs, rr, e1⟩
  · rw [e1, e] at h; simp at h
  · rw [e1, e] at h; simp at h
  · have hl := headG_sum _ _ _ e1
    rw [e1, e] at h
    simp only at h
    rw [if_neg (by decide), if_pos trivial] at h
    by_cases h0 : (ofF xs).2 = 0
    · rw [if_pos h0] at h
      have hr : rest = rr := by simpa using (congrArg (fun p => p.2.2.1) h)
      subst hr
      obtain ⟨l, r', rfl, hl8⟩ := ofF_len h0
      simp only [List.map_cons, List.sum_cons, List.map_nil, List.sum_nil] at hl
      omega
    · rw [if_neg h0] at h
      exact absurd (congrArg (fun p => p.2.2.2) h) (by simp)
/-- A file of a table. -/
structure Fl where
  nm : List UInt8
  s : List UInt8
  v : Int
  mt : Int
def flC (f : Fl) : List Value := [.string (S f.nm), .string (S f.s), .int .i64 f.v, .int .i64 f.mt]
theorem flC_len (f : Fl) : (flC f).length = 4 := rfl
def noFl : Fl := ⟨[], [], 0, 0⟩
def flHit (f : Fl) (nm : List UInt8) : Bool := f.nm == nm && !(nm == [])
def findL : List Fl → List UInt8 → Fl × Bool
  | [], _ => (noFl, false)
  | f :: l, nm => if flHit f nm = true then (f, true) else findL l nm
theorem findL_yes {l : List Fl} {k : Nat} {f : Fl} {nm : List UInt8} (hf : l[k]? = some f) (hd : findL (l.drop k) nm = findL l nm) (h : flHit f nm = true) : findL l nm = (f, true) := by
  rw [← hd, List.drop_eq_getElem?_toList_append, hf]
  simp [findL, h]
theorem findL_no {l : List Fl} {k : Nat} {f : Fl} {nm : List UInt8} (hf : l[k]? = some f) (hd : findL (l.drop k) nm = findL l nm) (h : flHit f nm = false) : findL (l.drop (k + 1)) nm = findL l nm := by
  rw [← hd, List.drop_eq_getElem?_toList_append (i := k), hf]
  simp [findL, h]
theorem findL_in {l : List Fl} {nm : List UInt8} : (findL l nm).1 = noFl ∨ (findL l nm).1 ∈ l := by
  induction l with
  | nil => exact .inl rfl
  | cons f l ih =>
    unfold findL
    split
    · exact .inr (by simp)
    · rcases ih with h | h
      · exact .inl h
      · exact .inr (by simp [h])
/-- The text of a part, of a file of such bytes. -/
def pcP (s : List UInt8) (p : Pt) : List UInt8 := p.1 ++ (if 0 < p.2.2 ∧ 0 ≤ p.2.1 ∧ p.2.1 + p.2.2 ≤ s.length then (s.drop p.2.1.toNat).take p.2.2.toNat else [])
def txtP (h : List UInt8) (ps : List Pt) (s : List UInt8) : List UInt8 := h ++ ps.flatMap (pcP s)
theorem pcP_len {s : List UInt8} {p : Pt} (hs : s.length ≤ 9000) (hp : p.1.length ≤ 1000) : (pcP s p).length ≤ 10000 := by
  unfold pcP
  rw [List.length_append]
  split
  · rw [List.length_take, List.length_drop]; omega
  · simp only [List.length_nil]; omega
theorem pcs_len {s : List UInt8} (hs : s.length ≤ 9000) : ∀ (ps : List Pt), (∀ p ∈ ps, p.1.length ≤ 1000) → (ps.flatMap (pcP s)).length ≤ ps.length * 10000
  | [], _ => by simp
  | p :: ps, h => by
    have h1 := pcs_len hs ps (fun q hq => h q (by simp [hq]))
    have h2 := pcP_len hs (h p (by simp))
    simp only [List.flatMap_cons, List.length_append, List.length_cons]
    omega
noncomputable def planL (l : List Fl) (now : Int) (a : AskP) : Int × List UInt8 × List Pt × Bool :=
  planT a (findL l a.1).2 (findL l a.1).1.v (findL l a.1).1.mt (findL l a.1).1.s.length (kindL a.1) now
/-- The answer to an ask. -/
noncomputable def ansT (l : List Fl) (now : Int) (a : AskP) : List UInt8 := txtP (planL l now a).2.1 (planL l now a).2.2.1 (findL l a.1).1.s
/-- The answers to bytes: the text, is it over, how many bytes are left. -/
noncomputable def ansF (l : List Fl) (now : Int) : Nat → List UInt8 → List UInt8 × Bool × Nat
  | 0, b => ([], false, b.length)
  | k + 1, b => match nxtOp b false with
    | none => ([], false, (nextF b).2.2.1.length)
    | some a => if endsB a = true then (ansT l now a, true, (nextF b).2.2.1.length) else (ansT l now a ++ (ansF l now k (nextF b).2.2.1).1, (ansF l now k (nextF b).2.2.1).2)
theorem nxtOp_more {b : List UInt8} (e : nextF b = (noReq, -1, b, false)) : nxtOp b false = none := by
  unfold nxtOp nxt
  simp [e]
theorem nxtOp_bad {b : List UInt8} {st : Int} (hst : 0 < st) (e : nextF b = (noReq, st, [], true)) : ∃ a, nxtOp b false = some a ∧ endsB a = true := by
  unfold nxtOp nxt
  simp only [Bool.false_eq_true, if_false, e]
  rw [if_neg (by omega)]
  refine ⟨_, rfl, ?_⟩
  unfold endsB
  have : (st == 0) = false := by simpa using (by omega : st ≠ 0)
  simp [this]
theorem nxtOp_good {b rest : List UInt8} {r : Req} (e : nextF b = (r, 0, rest, false)) : nxtOp b false = some ((ofL r.t).1, 0, r) := by
  unfold nxtOp nxt
  simp [e]
theorem ansF_fuel (l : List Fl) (now : Int) : ∀ (k k' : Nat) (b : List UInt8), b.length < 1024 → b.length < 12 * k → b.length < 12 * k' → ansF l now k b = ansF l now k' b := by
  intro k
  induction k with
  | zero => intro k' b _ h; omega
  | succ k ih =>
    intro k' b hb h h'
    obtain ⟨k', rfl⟩ : ∃ g, k' = g + 1 := ⟨k' - 1, by omega⟩
    rw [ansF, ansF]
    rcases next_cases hb with ⟨e, _⟩ | ⟨st, hst, e⟩ | ⟨r, rest, e, hl⟩
    · rw [nxtOp_more e]
    · obtain ⟨a, ha, he⟩ := nxtOp_bad hst e
      rw [ha]; simp only; rw [if_pos he, if_pos he]
    · rw [nxtOp_good e, e]
      have h12 := next_len12 hb e
      simp only
      split
      · rfl
      · by_cases hk : rest.length < 12 * k
        · by_cases hk' : rest.length < 12 * k'
          · rw [ih k' rest (by omega) hk hk']
          · omega
        · omega
theorem ansF_app (l : List Fl) (now : Int) : ∀ (n : Nat) (b c : List UInt8), b.length ≤ n → b.length + c.length ≤ 900 → (ansF l now 100 b).2 = (false, 0) →
    ansF l now 100 (b ++ c) = ((ansF l now 100 b).1 ++ (ansF l now 100 c).1, (ansF l now 100 c).2) := by
  intro n
  induction n with
  | zero =>
    intro b c h _ _
    have : b = [] := List.length_eq_zero_iff.1 (by omega)
    subst this
    have e : (ansF l now 100 []).1 = [] := by rw [ansF, nxtOp_more (b := []) rfl]
    rw [e]; simp
  | succ n ih =>
    intro b c h hb h0
    rcases next_cases (b := b) (by omega) with ⟨e, _⟩ | ⟨st, hst, e⟩ | ⟨r, rest, e, hl⟩
    · have E1 : ansF l now 100 b = ([], false, b.length) := by rw [ansF, nxtOp_more e, e]
      rw [E1] at h0
      simp only [Prod.mk.injEq, true_and] at h0
      have : b = [] := List.length_eq_zero_iff.1 h0
      subst this
      have e0 : (ansF l now 100 []).1 = [] := by rw [E1]
      rw [e0]; simp
    · obtain ⟨a, ha, he⟩ := nxtOp_bad hst e
      rw [ansF, ha] at h0
      simp only at h0
      rw [if_pos he] at h0
      simp at h0
    · have e2 := (next_app (b := b) (c := c) (by omega)).1 r rest e
      have h12 := next_len12 (by omega) e
      have E1 : ansF l now 100 b = if endsB ((ofL r.t).1, 0, r) = true then (ansT l now ((ofL r.t).1, 0, r), true, rest.length) else (ansT l now ((ofL r.t).1, 0, r) ++ (ansF l now 99 rest).1, (ansF l now 99 rest).2) := by
        rw [ansF, nxtOp_good e, e]
      have E2 : ansF l now 100 (b ++ c) = if endsB ((ofL r.t).1, 0, r) = true then (ansT l now ((ofL r.t).1, 0, r), true, (rest ++ c).length) else (ansT l now ((ofL r.t).1, 0, r) ++ (ansF l now 99 (rest ++ c)).1, (ansF l now 99 (rest ++ c)).2) := by
        rw [ansF, nxtOp_good e2, e2]
      rw [E1] at h0
      by_cases hne : endsB ((ofL r.t).1, 0, r) = true
      · rw [if_pos hne] at h0
        simp at h0
      · rw [if_neg hne] at h0
        rw [E2, E1, if_neg hne, if_neg hne]
        rw [ansF_fuel l now 99 100 rest (by omega) (by omega) (by omega)] at h0 ⊢
        rw [ansF_fuel l now 99 100 (rest ++ c) (by simp; omega) (by simp; omega) (by simp; omega)]
        rw [ih rest c (by omega) (by omega) h0]
        simp
end
/-! ### pantlerlaw28: the text of a plan; a file of a table; is a table more than is looked at. -/
section
open Go.RowKit Go.Shelf
set_option linter.unusedVariables false
set_option linter.unusedSimpArgs false
set_option maxRecDepth 100000
theorem txt_take {ps : List Pt} {k : Nat} {p : Pt} (hp : ps[k]? = some p) (f : Pt → List UInt8) : (ps.take (k + 1)).flatMap f = (ps.take k).flatMap f ++ f p := by
  rw [List.take_add_one, hp]; simp
section
variable {R : Ending → World → Prop} {w : World}
set_option maxHeartbeats 4000000 in
theorem text28_any (st : Int) (hd : List UInt8) (ps : List Pt) (cl : Bool) (s : List UInt8) {A : Option Addr} {n c : Nat} {len : Int} (hr : Rd w [] A (ps.flatMap ptV)) (hl : ps.length = n) (hn : n ≤ 21)
    (hok : ∀ p ∈ ps, inP len p ∧ okPt p) (hlen : len ≤ 35184372088832) (hh : hd.length ≤ 4000) (hs : s.length ≤ 9000) (h : ∀ w', Kp [] w w' → R (.returned (.string (S (txtP hd ps s)))) w') :
    Calls Tryz.prog 25 #[.agg #[.int .i64 st, .string (S hd), .slice A n c, .bool cl], .string (S s)] w R := by
  have H := Lib.hid h
  have HR := Lib.hid hr
  have HO := Lib.hid hok
  have HL := Lib.hid hl
  clear h hr hok hl
  go_enter Tryz.func25, Tryz.ntmps25
  go_upto_region 1 with (fail)
  refine gen_worldC (fun W => ∃ g, w.heap.size = g ∧ Hid (Kp [] w W ∧ Bk W g 31 [.int .i64 st, .string (S hd), .slice A n c, .bool cl])) ⟨_, rfl, Lib.hid ⟨(Kp.refl _ _).alloc _, (Bk.new' _ _ _).cast rfl⟩⟩ ?_
  rintro W ⟨g, hg, hW⟩
  rw [hg]
  clear hg
  have y1 : W.cell? ⟨g, 1, none⟩ = some (.string (S hd)) := hW.out.2.cell 1
  go_wp2
  clear y1
  go_loopw [5, 6] (fun ov iv wr => ∃ (k : Nat) (o : List UInt8), k ≤ n ∧ iv = .int .i64 k ∧ ov = .string (S o) ∧ o.length ≤ 4000 + k * 10000 ∧ Hid (o = hd ++ (ps.take k).flatMap (pcP s)) ∧ Hid (Kp [] w wr ∧ Bk wr g 31 [.int .i64 st, .string (S hd), .slice A n c, .bool cl])) (fun _ iv _ => n - (intOf iv).toNat)
  case atStart => exact ⟨0, hd, Nat.zero_le _, rfl, rfl, by omega, Lib.hid (by simp), hW⟩
  case round =>
    obtain ⟨k, o, hk, rfl, rfl, ho, heq, hr9⟩ := hrel
    have y2 : wr.cell? ⟨g, 2, none⟩ = some (.slice A n c) := hr9.out.2.cell 2
    by_cases hlt : k < n
    · obtain ⟨⟨pt, pf, pl⟩, hp⟩ : ∃ p, ps[k]? = some p := ⟨_, List.getElem?_eq_getElem (by have := HL.out; omega)⟩
      obtain ⟨b, off, rfl, _, _, hc⟩ := rd_at (HR.out.kp hr9.out.1 (by simp)) ptV_len (by omega) hp
      have z0 : wr.cell? ⟨b, off + k * 3, none⟩ = some (.string (S pt)) := hc 0 _ rfl
      have z1 : wr.cell? ⟨b, off + k * 3 + 1, none⟩ = some (.int .i64 pf) := hc 1 _ rfl
      have z2 : wr.cell? ⟨b, off + k * 3 + 2, none⟩ = some (.int .i64 pl) := hc 2 _ rfl
      obtain ⟨hin, hop⟩ := HO.out _ (List.mem_of_getElem? hp)
      unfold okPt at hop
      unfold inP at hin
      obtain ⟨o1, o2, o3⟩ := hop
      obtain ⟨i1, i2, i3⟩ := hin
      simp only at o1 o2 o3 i1 i2 i3
      have HK : Hid (Kp [] w (wr.alloc (.cells #[.string (S pt), .int .i64 pf, .int .i64 pl] 40)) ∧ Bk (wr.alloc (.cells #[.string (S pt), .int .i64 pf, .int .i64 pl] 40)) g 31 [.int .i64 st, .string (S hd), .slice (some ⟨b, off, none⟩) n c, .bool cl]) := Lib.hid ⟨hr9.out.1.alloc _, hr9.out.2.alloc _⟩
      have HT : Hid ((ps.take (k + 1)).flatMap (pcP s) = (ps.take k).flatMap (pcP s) ++ pcP s (pt, pf, pl)) := Lib.hid (txt_take hp _)
      clear hc hp hr9
      by_cases hpos : 0 < pl
      · obtain ⟨i4, rfl⟩ := i3 hpos
        clear i3
        obtain ⟨a, rfl⟩ : ∃ a : Nat, pf = a := ⟨pf.toNat, by omega⟩
        obtain ⟨e, rfl⟩ : ∃ e : Nat, pl = e := ⟨pl.toNat, by omega⟩
        have g3 : decide ((0 : Int) < e) = true := by simpa using hpos
        have g1 : decide ((0 : Int) ≤ a) = true := by simp
        have g4 : IntKind.i64.wrap ((a : Int) + e) = a + e := wrap_ok (by omega) (by omega)
        by_cases hfit : a + e ≤ s.length
        · have g5 : decide ((a : Int) + e ≤ s.length) = true := by simp; omega
          have HE : Hid (o ++ (s.take (a + e)).drop a = hd ++ (ps.take (k + 1)).flatMap (pcP s)) := Lib.hid (by
            rw [HT.out, heq.out]
            have : pcP s ([], (a : Int), (e : Int)) = (s.take (a + e)).drop a := by
              unfold pcP
              simp only
              rw [if_pos ⟨by omega, by omega, by omega⟩, slc_eq]
              rfl
            rw [this]; simp)
          have hz : ((s.take (a + e)).drop a).length ≤ 9000 := by rw [List.length_drop, List.length_take]; omega
          clear heq HT
          go_wp2
          exact ⟨⟨k + 1, _, by omega, by go_num, rfl, by (try simp only [List.length_append] at *); omega, HE, HK⟩, by simp [intOf]; omega⟩
        · have g5 : decide ((a : Int) + e ≤ s.length) = false := by simp; omega
          have HE : Hid (o = hd ++ (ps.take (k + 1)).flatMap (pcP s)) := Lib.hid (by
            rw [HT.out, heq.out]
            have : pcP s ([], (a : Int), (e : Int)) = [] := by
              unfold pcP
              simp only
              rw [if_neg (by omega)]
              simp
            rw [this]; simp)
          clear heq HT
          go_wp2
          exact ⟨⟨k + 1, _, by omega, by go_num, rfl, by (try simp only [List.length_append] at *); omega, HE, HK⟩, by simp [intOf]; omega⟩
      · have g3 : decide (0 < pl) = false := by simpa using hpos
        have HE : Hid (o ++ pt = hd ++ (ps.take (k + 1)).flatMap (pcP s)) := Lib.hid (by
          rw [HT.out, heq.out]
          have : pcP s (pt, pf, pl) = pt := by
            unfold pcP
            simp only
            rw [if_neg (by omega)]
            simp
          rw [this]; simp)
        clear heq HT
        go_wp2
        exact ⟨⟨k + 1, _, by omega, by go_num, rfl, by (try simp only [List.length_append] at *); omega, HE, HK⟩, by simp [intOf]; omega⟩
    · obtain rfl : k = n := by omega
      have e : o = txtP hd ps s := by rw [heq.out, List.take_of_length_le (by have := HL.out; omega)]; rfl
      rw [← e] at H
      clear heq e
      go_wp2
      exact H.out _ hr9.out.1
set_option maxHeartbeats 4000000 in
theorem find28_any (l : List Fl) (nm : List UInt8) {A : Option Addr} {n c : Nat} (hr : Rd w [] A (l.flatMap flC)) (hl : l.length = n) (hn : n ≤ 20)
    (h : ∀ w', Kp [] w w' → R (.returned (.tuple #[.agg #[.string (S (findL l nm).1.nm), .string (S (findL l nm).1.s), .int .i64 (findL l nm).1.v, .int .i64 (findL l nm).1.mt], .bool (findL l nm).2])) w') :
    Calls Tryz.prog 22 #[.slice A n c, .string (S nm)] w R := by
  have H := Lib.hid h
  have HR := Lib.hid hr
  have HL := Lib.hid hl
  clear h hr hl
  obtain ⟨b2, hb2⟩ : ∃ b2, (!nm.isEmpty) = b2 := ⟨_, rfl⟩
  go_enter Tryz.func22, Tryz.ntmps22
  go_upto_region 1 with (fail)
  refine gen_worldC (fun W => ∃ g, w.heap.size = g ∧ Hid (Kp [] w W ∧ Bk W g 58 [.string ⟨#[]⟩, .string ⟨#[]⟩, .int .i64 0, .int .i64 0])) ⟨_, rfl, Lib.hid ⟨(Kp.refl _ _).alloc _, (Bk.new' _ _ _).cast rfl⟩⟩ ?_
  rintro W ⟨g, hg, hW⟩
  rw [hg]
  have HG : Hid (w.heap.size = g) := Lib.hid hg
  clear hg
  go_wp2
  go_loopw [6] (fun iv wr => ∃ (k : Nat), k ≤ n ∧ iv = .int .i64 k ∧ Hid (findL (l.drop k) nm = findL l nm) ∧ wr = W) (fun iv _ => n - (intOf iv).toNat)
  case atStart => exact ⟨0, Nat.zero_le _, rfl, Lib.hid (by simp), rfl⟩
  case round =>
    obtain ⟨k, hk, rfl, hd, rfl⟩ := hrel
    obtain ⟨⟨x0, x1, x2, x3⟩, ⟨y0, y1, y2, y3⟩⟩ := bk4r hW.out.2
    by_cases hlt : k < n
    · obtain ⟨⟨fn, fs, fv, fm⟩, hp⟩ : ∃ p, l[k]? = some p := ⟨_, List.getElem?_eq_getElem (by have := HL.out; omega)⟩
      obtain ⟨b, off, rfl, _, _, hc⟩ := rd_at (HR.out.kp hW.out.1 (by simp)) flC_len (by omega) hp
      have z0 : wr.cell? ⟨b, off + k * 4, none⟩ = some (.string (S fn)) := hc 0 _ rfl
      have z1 : wr.cell? ⟨b, off + k * 4 + 1, none⟩ = some (.string (S fs)) := hc 1 _ rfl
      have z2 : wr.cell? ⟨b, off + k * 4 + 2, none⟩ = some (.int .i64 fv) := hc 2 _ rfl
      have z3 : wr.cell? ⟨b, off + k * 4 + 3, none⟩ = some (.int .i64 fm) := hc 3 _ rfl
      obtain ⟨b1, hb1⟩ : ∃ b1, (fn == nm) = b1 := ⟨_, rfl⟩
      have hhit : flHit ⟨fn, fs, fv, fm⟩ nm = (b1 && b2) := by unfold flHit; rw [hb1, ← hb2]; cases nm <;> rfl
      have HN : Hid ((b1 && b2) = false → findL (l.drop (k + 1)) nm = findL l nm) := Lib.hid (fun e => findL_no hp hd.out (by rw [hhit, e]))
      have HY : Hid ((b1 && b2) = true → findL l nm = (⟨fn, fs, fv, fm⟩, true)) := Lib.hid (fun e => findL_yes hp hd.out (by rw [hhit, e]))
      clear hc hp hd hhit
      cases b1 with
      | false =>
        go_wp2
        exact ⟨⟨k + 1, by omega, by go_num, Lib.hid (HN.out rfl), by trivial⟩, by simp [intOf]; omega⟩
      | true =>
        cases b2 with
        | false =>
          go_wp2
          exact ⟨⟨k + 1, by omega, by go_num, Lib.hid (HN.out rfl), by trivial⟩, by simp [intOf]; omega⟩
        | true =>
          have e := HY.out rfl
          go_wp2
          obtain ⟨W', hW', kW, bW⟩ := put4 hW.out.2 (.string (S fn)) (.string (S fs)) (.int .i64 fv) (.int .i64 fm)
          obtain ⟨⟨v0, v1, v2, v3⟩, _⟩ := bk4r bW
          rw [e] at H
          have kF : Kp [] w W' := hW.out.1.thn kW (fun s hs => .inr (by have := HG.out; simp at hs; omega))
          first
          | (rw [hW']; exact bodyPost_ret (v := .tuple #[.agg #[.string (S fn), .string (S fs), .int .i64 fv, .int .i64 fm], .bool true]) (by simp [results, Tryz.results22, go_sem, v0, v1, v2, v3]) rfl (H.out _ kF))
          | skip
    · obtain rfl : k = n := by omega
      have e : findL l nm = (noFl, false) := by rw [← hd.out, List.drop_of_length_le (by have := HL.out; omega)]; rfl
      rw [e] at H
      clear hd e
      go_wp2
      obtain ⟨W', hW', kW, bW⟩ := put4 hW.out.2 (.string ⟨#[]⟩) (.string ⟨#[]⟩) (.int .i64 0) (.int .i64 0)
      obtain ⟨⟨v0, v1, v2, v3⟩, _⟩ := bk4r bW
      have kF : Kp [] w W' := hW.out.1.thn kW (fun s hs => .inr (by have := HG.out; simp at hs; omega))
      first
      | (rw [hW']; exact bodyPost_ret (v := .tuple #[.agg #[.string ⟨#[]⟩, .string ⟨#[]⟩, .int .i64 0, .int .i64 0], .bool false]) (by simp [results, Tryz.results22, go_sem, v0, v1, v2, v3]) rfl (H.out _ kF))
      | skip
set_option maxHeartbeats 4000000 in
theorem far28_any (l : List Fl) {A : Option Addr} {n c : Nat} (hr : Rd w [] A (l.flatMap flC)) (hl : l.length = n)
    (h : ∀ b, (b = false → n ≤ 20 ∧ ∀ f ∈ l, f.s.length ≤ 9000 ∧ 0 ≤ f.v ∧ 0 ≤ f.mt) → R (.returned (.bool b)) w) :
    Calls Tryz.prog 18 #[.slice A n c] w R := by
  have H := Lib.hid h
  have HR := Lib.hid hr
  have HL := Lib.hid hl
  clear h hr hl
  go_enter Tryz.func18, Tryz.ntmps18
  by_cases hn : n ≤ 20
  · have f0 : decide ((20 : Int) < n) = false := by simp; omega
    go_wp2
    go_loopw [3] (fun iv wr => ∃ (k : Nat), k ≤ n ∧ iv = .int .i64 k ∧ Hid (∀ f ∈ l.take k, f.s.length ≤ 9000 ∧ 0 ≤ f.v ∧ 0 ≤ f.mt) ∧ wr = w) (fun iv _ => n - (intOf iv).toNat)
    case atStart => exact ⟨0, Nat.zero_le _, rfl, Lib.hid (by simp), rfl⟩
    case round =>
      obtain ⟨k, hk, rfl, hd, rfl⟩ := hrel
      by_cases hlt : k < n
      · obtain ⟨⟨fn, fs, fv, fm⟩, hp⟩ : ∃ p, l[k]? = some p := ⟨_, List.getElem?_eq_getElem (by have := HL.out; omega)⟩
        obtain ⟨b, off, rfl, _, _, hc⟩ := rd_at HR.out flC_len (by omega) hp
        have z1 : wr.cell? ⟨b, off + k * 4 + 1, none⟩ = some (.string (S fs)) := hc 1 _ rfl
        have z2 : wr.cell? ⟨b, off + k * 4 + 2, none⟩ = some (.int .i64 fv) := hc 2 _ rfl
        have z3 : wr.cell? ⟨b, off + k * 4 + 3, none⟩ = some (.int .i64 fm) := hc 3 _ rfl
        obtain ⟨c1, d1⟩ : ∃ c, decide ((9000 : Int) < fs.length) = c := ⟨_, rfl⟩
        obtain ⟨c2, d2⟩ : ∃ c, decide (fv < 0) = c := ⟨_, rfl⟩
        obtain ⟨c3, d3⟩ : ∃ c, decide (fm < 0) = c := ⟨_, rfl⟩
        have HS : Hid (c1 = false → c2 = false → c3 = false → ∀ f ∈ l.take (k + 1), f.s.length ≤ 9000 ∧ 0 ≤ f.v ∧ 0 ≤ f.mt) := Lib.hid (fun e1 e2 e3 f hf => by
          rw [List.take_add_one, hp] at hf
          rcases List.mem_append.1 hf with hf | hf
          · exact hd.out f hf
          · simp at hf
            subst hf
            subst e1; subst e2; subst e3
            simp at d1 d2 d3
            simp only
            omega)
        clear hc hp hd
        cases c1 with
        | true =>
          go_wp2
          exact H.out true (fun e => by cases e)
        | false =>
          cases c2 with
          | true =>
            go_wp2
            exact H.out true (fun e => by cases e)
          | false =>
            cases c3 with
            | true =>
              go_wp2
              exact H.out true (fun e => by cases e)
            | false =>
              go_wp2
              exact ⟨⟨k + 1, by omega, by go_num, Lib.hid (HS.out rfl rfl rfl), by trivial⟩, by simp [intOf]; omega⟩
      · obtain rfl : k = n := by omega
        have hd2 := hd.out
        rw [List.take_of_length_le (by have := HL.out; omega)] at hd2
        have HD := Lib.hid hd2
        clear hd hd2
        go_wp2
        exact H.out false (fun _ => ⟨hn, HD.out⟩)
  · have f0 : decide ((20 : Int) < n) = true := by simp; omega
    go_wp2
    exact H.out true (fun e => by cases e)
end
end
/-! ### The document's Kind; how long names and kinds are. -/
section
open Go.RowKit
set_option linter.unusedVariables false
set_option maxRecDepth 100000

theorem kd_drop {l : List UInt8} {k : Nat} (h : k < l.length) : (l.take (k + 1)).drop k = [l[k]] := by
  rw [List.drop_take, Nat.add_sub_cancel_left, List.drop_eq_getElem_cons h]
  rfl
theorem lst_snoc (c x : UInt8) (l : List UInt8) : lst c (l ++ [x]) = if x = c then [] else lst c l ++ [x] := by
  unfold lst
  rw [List.reverse_append, List.reverse_singleton, List.singleton_append, List.takeWhile_cons]
  by_cases h : x = c
  · subst h; simp
  · have : (x == c) = false := by simpa using h
    simp [this, h]
/-- Behind the last stroke of t: is there a dot, and what stands behind the last one. -/
def kst (t : List UInt8) : Bool × List UInt8 := ((lst 47 t).contains 46, lst 46 (lst 47 t))
theorem kst_snoc (t : List UInt8) (x : UInt8) : kst (t ++ [x]) = if x = 47 then (false, []) else if x = 46 then (true, []) else ((kst t).1, (kst t).2 ++ [x]) := by
  unfold kst
  rw [lst_snoc]
  by_cases h : x = 47
  · subst h; rfl
  · rw [if_neg h, if_neg h, lst_snoc]
    by_cases h2 : x = 46
    · subst h2; simp
    · rw [if_neg h2, if_neg h2]
      have : (x == 46) = false := by simpa using h2
      have h3 : ¬ 46 = x := Ne.symm h2
      simp [h3]
theorem kindL_kst (l : List UInt8) : kindL l = if (kst l).1 then extK (kst l).2 else octS := rfl
theorem kst_len (t : List UInt8) : (kst t).2.length ≤ t.length := Nat.le_trans (lst_len _ _) (lst_len _ _)
set_option maxHeartbeats 2000000 in
theorem rkind_any {R : Ending → World → Prop} (l : List UInt8) (w : World) (h0 : l.length ≤ 1000000) (h : R (.returned (.string (S (kindL l)))) w) : Calls Tryz.prog 24 #[.string (S l)] w R := by
  have H := Lib.hid h
  clear h
  go_enter Tryz.func24, Tryz.ntmps24
  go_wp2
  go_loop [3, 4, 5] (fun end_ dot i => ∃ (k : Nat) (q : Bool × List UInt8), end_ = .string (S q.2) ∧ dot = .bool q.1 ∧ i = .int .i64 k ∧ k ≤ l.length ∧ q.2.length ≤ k ∧ Hid (kst (l.take k) = q)) (fun _ _ i => l.length - (intOf i).toNat)
  case atStart => exact ⟨0, (false, []), rfl, rfl, rfl, Nat.zero_le _, Nat.le_refl _, Lib.hid rfl⟩
  case round =>
    obtain ⟨k, ⟨d, e⟩, rfl, rfl, rfl, hk, he, hq⟩ := hrel
    simp only at he hq
    by_cases hlt : k < l.length
    · obtain ⟨x, hx⟩ : ∃ x, l[k]'hlt = x := ⟨_, rfl⟩
      have hs : kst (l.take (k + 1)) = if x = 47 then (false, []) else if x = 46 then (true, []) else (d, e ++ [x]) := by
        rw [List.take_succ_eq_append_getElem hlt, hx, kst_snoc, hq.out]
      have hdt : (l.take (k + 1)).drop k = [x] := by rw [kd_drop hlt, hx]
      by_cases h47 : x = 47
      · have b : ((x.toNat : Int) == 47) = true := (u8_beq x 47).trans (by simpa using h47)
        rw [if_pos h47] at hs
        have HS := Lib.hid hs
        clear hs h47 hq
        go_wp2
        go_round
        case rel => exact ⟨k + 1, (false, []), rfl, rfl, by go_num, by omega, Nat.zero_le _, HS⟩
        case measure => simp [intOf]; omega
      · have b : ((x.toNat : Int) == 47) = false := (u8_beq x 47).trans (by simpa using h47)
        rw [if_neg h47] at hs
        by_cases h46 : x = 46
        · have b2 : ((x.toNat : Int) == 46) = true := (u8_beq x 46).trans (by simpa using h46)
          rw [if_pos h46] at hs
          have HS := Lib.hid hs
          clear hs h47 h46 hq
          go_wp2
          go_round
          case rel => exact ⟨k + 1, (true, []), rfl, rfl, by go_num, by omega, Nat.zero_le _, HS⟩
          case measure => simp [intOf]; omega
        · have b2 : ((x.toNat : Int) == 46) = false := (u8_beq x 46).trans (by simpa using h46)
          rw [if_neg h46] at hs
          have HS := Lib.hid hs
          clear hs h47 h46 hq
          go_wp2
          go_round
          case rel => exact ⟨k + 1, (d, e ++ [x]), rfl, rfl, by go_num, by omega, by simp; omega, HS⟩
          case measure => simp [intOf]; omega
    · have hl : l.take k = l := List.take_of_length_le (by omega)
      have HK : Hid (kindL l = if d then extK e else octS) := by
        refine Lib.hid ?_
        have := hq.out
        rw [hl] at this
        rw [kindL_kst, this]
      clear hq hl
      cases d
      · go_wp2
        exact rcast H.out (congrArg (fun x => Value.string (S x)) HK.out)
      · generalize kindL l = res at *
        by_cases c0 : e = [104, 116, 109, 108]
        · subst c0
          have := HK.out
          subst this
          go_wp2
          exact H.out
        by_cases c1 : e = [116, 120, 116]
        · subst c1
          have := HK.out
          subst this
          go_wp2
          exact H.out
        by_cases c2 : e = [99, 115, 115]
        · subst c2
          have := HK.out
          subst this
          go_wp2
          exact H.out
        by_cases c3 : e = [106, 115]
        · subst c3
          have := HK.out
          subst this
          go_wp2
          exact H.out
        by_cases c4 : e = [112, 110, 103]
        · subst c4
          have := HK.out
          subst this
          go_wp2
          exact H.out
        by_cases c5 : e = [106, 115, 111, 110]
        · subst c5
          have := HK.out
          subst this
          go_wp2
          exact H.out
        have d0 : (e == [104, 116, 109, 108]) = false := by simpa using c0
        have d1 : (e == [116, 120, 116]) = false := by simpa using c1
        have d2 : (e == [99, 115, 115]) = false := by simpa using c2
        have d3 : (e == [106, 115]) = false := by simpa using c3
        have d4 : (e == [112, 110, 103]) = false := by simpa using c4
        have d5 : (e == [106, 115, 111, 110]) = false := by simpa using c5
        have HX : Hid (res = octS) := by
          have := HK.out
          rw [if_pos rfl] at this
          unfold extK at this
          rw [if_neg c0, if_neg c2, if_neg c1, if_neg c3, if_neg c4, if_neg c5] at this
          exact Lib.hid this
        clear c0 c1 c2 c3 c4 c5
        go_wp2
        have := HX.out
        subst this
        exact H.out
theorem kindL_len (l : List UInt8) : (kindL l).length ≤ 300 := by
  unfold kindL
  split
  · unfold extK
    repeat' split
    all_goals decide
  · decide
theorem dec_len : ∀ (k : Nat) (l n : List UInt8), l.length ≤ k → dec l = some n → n.length ≤ l.length
  | 0, l, n, h, e => by
    have : l = [] := List.length_eq_zero_iff.1 (by omega)
    subst this
    rw [dec] at e
    injection e with e; subst e; simp
  | k + 1, [], n, h, e => by
    rw [dec] at e
    injection e with e; subst e; simp
  | k + 1, c :: r, n, h, e => by
    by_cases hc : c.toNat = 37
    · by_cases hr : r.length < 2
      · rw [dec_short hc hr] at e; cases e
      · match r, h, e, hr with
        | [], _, _, hr => simp at hr
        | [a], _, _, hr => simp at hr
        | a :: b :: r, h, e, _ =>
          rw [dec_hex r hc] at e
          split at e
          · cases e
          · cases hd : dec r with
            | none => rw [hd] at e; cases e
            | some m =>
              rw [hd] at e
              have := dec_len k r m (by simp at h; omega) hd
              simp at e
              subst e
              simp
              omega
    · rw [dec_ne r hc] at e
      cases hd : dec r with
      | none => rw [hd] at e; cases e
      | some m =>
        rw [hd] at e
        have := dec_len k r m (by simp at h; omega) hd
        simp at e
        subst e
        simp
        omega
theorem bef_le (c : UInt8) (l : List UInt8) : (bef c l).length ≤ l.length := by
  induction l with
  | nil => simp [bef]
  | cons x l ih =>
    unfold bef
    split
    · simp
    · simp only [List.length_cons]; omega
theorem ofL_len (l : List UInt8) : (ofL l).1.length ≤ 128 := by
  unfold ofL
  split
  · simp
  · split
    · simp
    · split
      · decide
      · split
        · simp
        · rename_i n hd
          have h1 := dec_len _ _ n (Nat.le_refl _) hd
          have h2 := bef_le 63 l
          rw [List.length_drop] at h1
          split
          · simp only; omega
          · simp
theorem nxtOp_len {b : List UInt8} {ov : Bool} {a : AskP} (h : nxtOp b ov = some a) : a.1.length ≤ 128 := by
  unfold nxtOp at h
  split at h
  · cases h
  · injection h with h
    subst h
    simp only
    split
    · exact ofL_len _
    · simp
end
/-! ### ServePipes: what a plan tells is short; a parser beside a talk; one round of the answers in plain words. -/
section
open Go.RowKit Go.Shelf
set_option linter.unusedVariables false
set_option linter.unusedSimpArgs false
set_option maxRecDepth 100000
theorem plan_short (a : AskP) (there : Bool) (v mt len : Int) (kd : List UInt8) (now : Int) (hkd : kd.length ≤ 300) (hv : 0 ≤ v ∧ v ≤ 9223372036854775807) (hmt : 0 ≤ mt ∧ mt ≤ 9223372036854775807) (hlen : 0 ≤ len ∧ len ≤ 35184372088832) :
    (planT a there v mt len kd now).2.1.length ≤ 4000 ∧ ∃ ln, ln ≤ 35184372088832 ∧ ∀ p ∈ (planT a there v mt len kd now).2.2.1, inP ln p ∧ okPt p := by
  unfold planT
  split
  · refine ⟨ofH_len _ _ v mt len kd now hkd hv hmt hlen, len, hlen.2, ?_⟩
    intro p hp
    simp only at hp
    unfold ofP at hp
    split at hp
    · cases hp
    · have hcc := choose_ok a.2.2 (there && !(a.1 == [])) v mt len
      have hst := choose_st a.2.2 (there && !(a.1 == [])) v mt len
      exact ⟨parts_in hlen.1 hcc.2.1 p hp, parts_ok hst.1 hst.2 hlen.1 hlen.2 hkd (fun z hz => okZ_sp hlen.2 (hcc.2.1 z hz)) p hp⟩
  · exact ⟨wrH_len _ _, 0, by decide, (wr_parts _).1⟩
/-- A table that is looked at. -/
def tblOk (l : List Fl) : Prop := ∀ f ∈ l, f.s.length ≤ 9000 ∧ (0 ≤ f.v ∧ f.v ≤ 9223372036854775807) ∧ (0 ≤ f.mt ∧ f.mt ≤ 9223372036854775807)
theorem tbl_find {l : List Fl} (h : tblOk l) (nm : List UInt8) : (findL l nm).1.s.length ≤ 9000 ∧ (0 ≤ (findL l nm).1.v ∧ (findL l nm).1.v ≤ 9223372036854775807) ∧ (0 ≤ (findL l nm).1.mt ∧ (findL l nm).1.mt ≤ 9223372036854775807) := by
  rcases findL_in (l := l) (nm := nm) with e | e
  · rw [e]; decide
  · exact h _ e
/-- One round: nothing more comes. -/
theorem rnd_none (l : List Fl) (now : Int) {b : List UInt8} (hb : b.length ≤ 900) (h : nxtOp b false = none) : nextF b = (noReq, -1, b, false) ∧ ansF l now 100 b = ([], false, b.length) := by
  rcases next_cases (b := b) (by omega) with ⟨e, _⟩ | ⟨st, hst, e⟩ | ⟨r, rest, e, hl⟩
  · refine ⟨e, ?_⟩
    rw [ansF, nxtOp_more e, e]
  · obtain ⟨a, ha, _⟩ := nxtOp_bad hst e
    rw [ha] at h; cases h
  · rw [nxtOp_good e] at h; cases h
/-- One round: an ask. -/
theorem rnd_some (l : List Fl) (now : Int) {b : List UInt8} {a : AskP} (hb : b.length ≤ 900) (h : nxtOp b false = some a) :
    (nextF b).2.2.1.length ≤ b.length ∧ (endsB a = true → ansF l now 100 b = (ansT l now a, true, (nextF b).2.2.1.length)) ∧
    (endsB a = false → (nextF b).2.2.2 = false ∧ (nextF b).2.2.1.length + 12 ≤ b.length ∧ ansF l now 100 b = (ansT l now a ++ (ansF l now 100 (nextF b).2.2.1).1, (ansF l now 100 (nextF b).2.2.1).2)) := by
  rcases next_cases (b := b) (by omega) with ⟨e, _⟩ | ⟨st, hst, e⟩ | ⟨r, rest, e, hl⟩
  · rw [nxtOp_more e] at h; cases h
  · obtain ⟨a', ha, he⟩ := nxtOp_bad hst e
    rw [ha] at h
    injection h with h
    subst h
    refine ⟨by rw [e]; simp, fun _ => by rw [ansF, ha]; simp only; rw [if_pos he], fun h2 => ?_⟩
    rw [he] at h2; cases h2
  · have h12 := next_len12 (by omega) e
    have ha := nxtOp_good e
    rw [ha] at h
    injection h with h
    subst h
    refine ⟨by rw [e]; simp only; omega, fun he => by rw [ansF, ha]; simp only; rw [if_pos he], fun he => ?_⟩
    rw [e]
    refine ⟨rfl, h12, ?_⟩
    rw [ansF, ha, e]
    simp only
    rw [if_neg (by simp [he]), ansF_fuel l now 99 100 rest (by omega) (by omega) (by omega)]
/-- A block of a parser's is no row of fields. -/
theorem rd_notPs {w : World} {N : List Nat} {A : Option Addr} {l : List Fd} {g tt : Nat} {s : ByteArray} {d : Bool} (r : Rd w N A (l.flatMap fldC)) (b : Bk w g tt [.string s, .bool d]) : Rd w (g :: N) A (l.flatMap fldC) := fun hx => by
  obtain ⟨b0, off, rfl, hN, hb, hc⟩ := r hx
  refine ⟨b0, off, rfl, ?_, hb, hc⟩
  intro hm
  rcases List.mem_cons.1 hm with rfl | hm
  · cases l with
    | nil => exact hx rfl
    | cons p l =>
      have c0 := hc 0 _ rfl
      have c1 := hc 1 _ rfl
      rw [b.cell] at c0 c1
      rcases off with _ | _ | off <;> simp at c0 c1
  · exact hN hm
theorem bk_tt {w : World} {g t t' : Nat} {cs cs' : List Value} (h : Bk w g t cs) (h' : Bk w g t' cs') : cs = cs' := by
  unfold Bk at h h'
  rw [h] at h'
  injection h' with h'
  injection h' with h'
  have := congrArg Array.toList h'
  simpa using this
/-- An open ask's block is no parser's. -/
theorem OpA.par {w : World} {N : List Nat} {op : Option AskP} {oa : Option Addr} {g : Nat} {b : List UInt8} {ov : Bool} (h : OpA w N op oa) (p : Ps w g b ov) : OpA w (g :: N) op oa := by
  unfold OpA at h ⊢
  cases op with
  | none => exact h
  | some a =>
    obtain ⟨ag, A, c, e, hn, hb, hr, hc⟩ := h
    refine ⟨ag, A, c, e, ?_, hb, rd_notPs hr p, hc⟩
    intro hm
    rcases List.mem_cons.1 hm with rfl | hm
    · have := bk_tt hb p
      unfold askC PsC at this
      simp at this
    · exact hn hm
theorem OpA.less {w : World} {N N' : List Nat} {op : Option AskP} {oa : Option Addr} (h : OpA w N op oa) (hs : ∀ x ∈ N', x ∈ N) : OpA w N' op oa := by
  unfold OpA at h ⊢
  cases op with
  | none => exact h
  | some a =>
    obtain ⟨ag, A, c, e, hn, hb, hr, hc⟩ := h
    exact ⟨ag, A, c, e, fun hm => hn (hs _ hm), hb, hr.sub hs, hc⟩
/-- The talk stays where the law's own parser goes on. -/
theorem TB.par {w0 w w' : World} {tg pg qg : Nat} {s : TkS} {b : List UInt8} {ov : Bool} (h : TB w0 w tg pg s) (p : Ps w qg b ov) (hq : w0.heap.size ≤ qg) (n1 : qg ≠ tg) (n2 : qg ≠ pg) (k : Kp [qg] w w') : TB w0 w' tg pg s := by
  obtain ⟨oa, b1, o1⟩ := h.tk.tk
  refine ⟨h.kp.thn k (fun x hx => .inr (by simp at hx; omega)), h.gt, h.gp, ⟨h.tk.ne, Bk.kp h.tk.ps k (by simp; omega), oa, b1.kp k (by simp; omega), ?_⟩⟩
  exact ((o1.par p).kp k (by simp)).less (by simp)
end
end Go.Proofs.YtnmafahbdfilcaaGreatDoor
