/- However bytes are fed the same requests come: the plain law. -/
import Derived.Test.YtbgfcidklofcpaaDoorReqP
namespace Go.Proofs.YtbgfcidklofcpaaDoor
open Go.RowKit Go.Shelf
set_option linter.unusedVariables false
set_option linter.unusedSimpArgs false
set_option maxRecDepth 100000

theorem next_G {b : List UInt8} (hb : b.length < 1024) (f : Nat) (hf : b.length < f) :
    nextF b = match headG f [] b with | (ls, rest, st) => if st < 0 then (noReq, st, b, false) else if st = 0 then (if (ofF ls).2 = 0 then ((ofF ls).1, 0, rest, false) else (noReq, (ofF ls).2, [], true)) else (noReq, st, [], true) := by
  unfold nextF
  rw [headF_G _ _ _ _ hb, headG_fuel (b.length + 1) f [] b (by omega) hf]
/-- What Next may hand back. -/
theorem next_cases {b : List UInt8} (hb : b.length < 1024) :
    (nextF b = (noReq, -1, b, false) ∧ True) ∨ (∃ st, 0 < st ∧ nextF b = (noReq, st, [], true)) ∨ (∃ r rest, nextF b = (r, 0, rest, false) ∧ rest.length + 2 ≤ b.length) := by
  have h := next_G hb (b.length + 1) (by omega)
  rcases headG_st (b.length + 1) [] b with e | e | ⟨xs, rr, e⟩
  · rw [e] at h; exact .inl ⟨h, trivial⟩
  · rw [e] at h; exact .inr (.inl ⟨400, by decide, h⟩)
  · have hl := headG_len _ _ _ e
    rw [e] at h
    simp only at h
    rw [if_neg (by decide), if_pos trivial] at h
    by_cases h0 : (ofF xs).2 = 0
    · rw [if_pos h0] at h
      exact .inr (.inr ⟨_, _, h, hl⟩)
    · rw [if_neg h0] at h
      have := (ofF_st xs).1
      exact .inr (.inl ⟨_, by omega, h⟩)
theorem next_app {b c : List UInt8} (hb : b.length + c.length < 1024) :
    (∀ r rest, nextF b = (r, 0, rest, false) → nextF (b ++ c) = (r, 0, rest ++ c, false)) ∧ (∀ st, 0 < st → nextF b = (noReq, st, [], true) → nextF (b ++ c) = (noReq, st, [], true)) := by
  have h1 := next_G (b := b) (by omega) ((b ++ c).length + 1) (by simp; omega)
  have h2 := next_G (b := b ++ c) (by simp; omega) ((b ++ c).length + 1) (by omega)
  obtain ⟨a1, a2⟩ := headG_app ((b ++ c).length + 1) [] b c
  rcases headG_st ((b ++ c).length + 1) [] b with e | e | ⟨xs, rr, e⟩
  · rw [e] at h1
    constructor
    · intro r rest h; rw [h1] at h; simp at h
    · intro st hst h; rw [h1] at h; simp at h
  · rw [e] at h1
    rw [a2 _ _ e] at h2
    constructor
    · intro r rest h; rw [h1] at h; simp at h
    · intro st hst h
      rw [h2, ← h, h1]; rfl
  · rw [e] at h1
    rw [a1 _ _ e] at h2
    simp only at h1 h2
    rw [if_neg (by decide), if_pos trivial] at h1 h2
    by_cases h0 : (ofF xs).2 = 0
    · rw [if_pos h0] at h1 h2
      constructor
      · intro r rest h
        rw [h1] at h
        simp at h
        rw [h2, h.1, h.2]
      · intro st hst h; rw [h1] at h; simp at h
    · rw [if_neg h0] at h1 h2
      constructor
      · intro r rest h; rw [h1] at h; simp at h
      · intro st hst h; rw [h2, ← h, h1]
/-- All that comes of bytes: the requests, the last status, what is left, whether it is over. -/
def runF : Nat → List UInt8 → List Req × Int × List UInt8 × Bool
  | 0, b => ([], 0, b, false)
  | k + 1, b => if (nextF b).2.1 = 0 then ((nextF b).1 :: (runF k (nextF b).2.2.1).1, (runF k (nextF b).2.2.1).2) else ([], (nextF b).2.1, (nextF b).2.2.1, (nextF b).2.2.2)
theorem runF_fuel : ∀ (k k' : Nat) (b : List UInt8), b.length < 1024 → b.length < k → b.length < k' → runF k b = runF k' b := by
  intro k
  induction k with
  | zero => intro k' b _ h; omega
  | succ k ih =>
    intro k' b hb h h'
    obtain ⟨k', rfl⟩ : ∃ g, k' = g + 1 := ⟨k' - 1, by omega⟩
    rw [runF, runF]
    rcases next_cases hb with ⟨e, _⟩ | ⟨st, hst, e⟩ | ⟨r, rest, e, hl⟩
    · rw [e]; rfl
    · rw [e]; simp only; rw [if_neg (by omega), if_neg (by omega)]
    · rw [e]; simp only
      rw [ih k' rest (by omega) (by omega) (by omega)]
def run (b : List UInt8) : List Req × Int × List UInt8 × Bool := runF (b.length + 1) b
theorem run_more {b : List UInt8} (hb : b.length < 1024) (e : nextF b = (noReq, -1, b, false)) : run b = ([], -1, b, false) := by
  unfold run; rw [runF, e]; rfl
theorem run_bad {b : List UInt8} {st : Int} (hst : 0 < st) (e : nextF b = (noReq, st, [], true)) : run b = ([], st, [], true) := by
  unfold run; rw [runF, e]; simp only; rw [if_neg (by omega)]
theorem run_good {b rest : List UInt8} {r : Req} (hb : b.length < 1024) (hl : rest.length + 2 ≤ b.length) (e : nextF b = (r, 0, rest, false)) : run b = (r :: (run rest).1, (run rest).2) := by
  unfold run
  rw [runF, e]
  simp only
  rw [runF_fuel b.length (rest.length + 1) rest (by omega) (by omega) (by omega)]
  rfl
theorem run_st : ∀ (n : Nat) (b : List UInt8), b.length ≤ n → b.length < 1024 → ((run b).2.1 = -1 ∧ (run b).2.2.2 = false ∨ 0 < (run b).2.1 ∧ (run b).2.2.1 = [] ∧ (run b).2.2.2 = true) ∧ (run b).2.2.1.length ≤ b.length := by
  intro n
  induction n with
  | zero =>
    intro b h hb
    rcases next_cases hb with ⟨e, _⟩ | ⟨st, hst, e⟩ | ⟨r, rest, e, hl⟩
    · rw [run_more hb e]; exact ⟨.inl ⟨rfl, rfl⟩, Nat.le_refl _⟩
    · rw [run_bad hst e]; exact ⟨.inr ⟨hst, rfl, rfl⟩, by simp⟩
    · omega
  | succ n ih =>
    intro b h hb
    rcases next_cases hb with ⟨e, _⟩ | ⟨st, hst, e⟩ | ⟨r, rest, e, hl⟩
    · rw [run_more hb e]; exact ⟨.inl ⟨rfl, rfl⟩, Nat.le_refl _⟩
    · rw [run_bad hst e]; exact ⟨.inr ⟨hst, rfl, rfl⟩, by simp⟩
    · rw [run_good hb hl e]
      have := ih rest (by omega) (by omega)
      exact ⟨this.1, by have := this.2; simp only; omega⟩
theorem cruns_app : ∀ (n : Nat) (b c : List UInt8), b.length ≤ n → b.length + c.length < 1024 →
    ((run b).2.2.2 = true → run (b ++ c) = run b) ∧ ((run b).2.2.2 = false → run (b ++ c) = ((run b).1 ++ (run ((run b).2.2.1 ++ c)).1, (run ((run b).2.2.1 ++ c)).2)) := by
  intro n
  induction n with
  | zero =>
    intro b c h hb
    rcases next_cases (b := b) (by omega) with ⟨e, _⟩ | ⟨st, hst, e⟩ | ⟨r, rest, e, hl⟩
    · rw [run_more (by omega) e]
      exact ⟨fun h => (by cases h), fun _ => (by simp)⟩
    · rw [run_bad hst e, run_bad hst ((next_app hb).2 st hst e)]
      exact ⟨fun _ => rfl, fun h => (by cases h)⟩
    · omega
  | succ n ih =>
    intro b c h hb
    rcases next_cases (b := b) (by omega) with ⟨e, _⟩ | ⟨st, hst, e⟩ | ⟨r, rest, e, hl⟩
    · rw [run_more (by omega) e]
      exact ⟨fun h => (by cases h), fun _ => (by simp)⟩
    · rw [run_bad hst e, run_bad hst ((next_app hb).2 st hst e)]
      exact ⟨fun _ => rfl, fun h => (by cases h)⟩
    · have e2 := (next_app hb).1 r rest e
      have h2 := ih rest c (by omega) (by omega)
      rw [run_good (by omega) hl e, run_good (by simp; omega) (by simp; omega) e2]
      constructor
      · intro ho
        rw [h2.1 ho]
      · intro ho
        rw [h2.2 ho]
        simp
end Go.Proofs.YtbgfcidklofcpaaDoor
