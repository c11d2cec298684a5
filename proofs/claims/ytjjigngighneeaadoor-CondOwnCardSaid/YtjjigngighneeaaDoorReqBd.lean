/- A request that is put together is told as its parts: the plain law. -/
import Derived.Test.YtjjigngighneeaaDoorReqP
namespace Go.Proofs.YtjjigngighneeaaDoor
open Go.RowKit Go.Shelf
set_option linter.unusedVariables false
set_option linter.unusedSimpArgs false
set_option maxRecDepth 100000

def getL : List UInt8 := [71, 69, 84]
def headLL : List UInt8 := [72, 69, 65, 68]
def wantL (head : Bool) : List UInt8 := if head then headLL else getL
def okN (n : List UInt8) : Bool := tokB n && !(lowL n == hostL) && !(lowL n == teL) && !(lowL n == clL) && !(lowL n == connL)
def firstLine (want target : List UInt8) : List UInt8 := want ++ 32 :: (47 :: target ++ 32 :: [72, 84, 84, 80, 47, 49, 46, 49])
def fieldLn (p : List UInt8 × List UInt8) : List UInt8 := p.1 ++ 58 :: p.2
def hostLn : List UInt8 := [72, 111, 115, 116, 58, 32, 120]
def clean (l : List UInt8) : Prop := ∀ c ∈ l, c ≠ 10 ∧ c ≠ 13
instance (l : List UInt8) : Decidable (clean l) := by unfold clean; infer_instance
theorem lineL_clean {l r : List UInt8} (h : clean l) : lineL (l ++ 13 :: 10 :: r) = .got l r := by
  rw [lineL_pre l _ h, lineL, if_neg (by decide), if_pos rfl, crR, if_pos rfl, preR, List.append_nil]
theorem headG_lines : ∀ (ll : List (List UInt8)) (f : Nat) (ls : List (List UInt8)), (∀ l ∈ ll, clean l ∧ l ≠ []) → ls ++ ll ≠ [] → ll.length < f → headG f ls (ll.flatMap (fun l => l ++ [13, 10]) ++ [13, 10]) = (ls ++ ll, [], 0)
  | [], f, ls, _, hne, hf => by
    obtain ⟨f, rfl⟩ : ∃ g, f = g + 1 := ⟨f - 1, by simp at hf; omega⟩
    rw [headG]
    rw [show lineL (([] : List (List UInt8)).flatMap (fun l => l ++ [13, 10]) ++ [13, 10]) = .got [] [] from rfl]
    simp only
    rw [if_neg (by simp), if_pos (by simpa using hne), List.append_nil]
  | l :: ll, f, ls, h, hne, hf => by
    obtain ⟨f, rfl⟩ : ∃ g, f = g + 1 := ⟨f - 1, by simp at hf; omega⟩
    obtain ⟨h1, h2⟩ := h l (by simp)
    rw [headG]
    have e : (l :: ll).flatMap (fun l => l ++ [13, 10]) ++ [13, 10] = l ++ 13 :: 10 :: (ll.flatMap (fun l => l ++ [13, 10]) ++ [13, 10]) := by simp
    rw [e, lineL_clean h1]
    simp only
    rw [if_pos h2, headG_lines ll f (ls ++ [l]) (fun x hx => h x (by simp [hx])) (by simp) (by simp at hf; omega)]
    simp
theorem spl_cut {c : UInt8} {a r : List UInt8} (h : c ∉ a) : spl c (a ++ c :: r) = a :: spl c r := by
  induction a with
  | nil => rw [List.nil_append, spl, if_pos rfl]
  | cons x a ih =>
    have hx : ¬ x = c := fun e => h (by simp [e])
    rw [List.cons_append, spl, if_neg hx, ih (fun hm => h (by simp [hm]))]
    rfl
theorem spl_one {c : UInt8} {a : List UInt8} (h : c ∉ a) : spl c a = [a] := by
  induction a with
  | nil => rfl
  | cons x a ih =>
    have hx : ¬ x = c := fun e => h (by simp [e])
    rw [spl, if_neg hx, ih (fun hm => h (by simp [hm]))]
    rfl
theorem seen_ne {t : List UInt8} (h : t.all seenB = true) {c : UInt8} (hc : seenB c = false) : c ∉ t := fun hm => by
  rw [List.all_eq_true] at h
  rw [h c hm] at hc; cases hc
theorem first_build (head : Bool) {target : List UInt8} (h : target.all seenB = true) : firstL (firstLine (wantL head) target) = some (wantL head, 47 :: target, 49, 49) := by
  have h1 : (32 : UInt8) ∉ wantL head := by cases head <;> decide
  have h2 : (32 : UInt8) ∉ (47 :: target : List UInt8) := by
    have := seen_ne h (c := 32) (by decide)
    simp [this]
  have h3 : (32 : UInt8) ∉ ([72, 84, 84, 80, 47, 49, 46, 49] : List UInt8) := by decide
  unfold firstL firstLine
  rw [spl_cut h1, spl_cut h2, spl_one h3]
  simp only
  unfold firstP
  rw [if_pos ⟨by cases head <;> decide +kernel, by simp, by rw [List.all_cons, h]; decide⟩]
  rfl
theorem bef_cut {c : UInt8} {a r : List UInt8} (h : c ∉ a) : bef c (a ++ c :: r) = a ∧ aft c (a ++ c :: r) = r := by
  induction a with
  | nil => rw [List.nil_append, bef, aft, if_pos rfl, if_pos rfl]; exact ⟨rfl, rfl⟩
  | cons x a ih =>
    have hx : ¬ x = c := fun e => h (by simp [e])
    obtain ⟨i1, i2⟩ := ih (fun hm => h (by simp [hm]))
    rw [List.cons_append, bef, aft, if_neg hx, if_neg hx, i1, i2]; exact ⟨rfl, rfl⟩
theorem tok_ne {t : List UInt8} (h : tokB t = true) {c : UInt8} (hc : wordB c = false) : c ∉ t := fun hm => by
  unfold tokB at h
  rw [Bool.and_eq_true] at h
  rw [List.all_eq_true.1 h.2 c hm] at hc; cases hc
theorem field_build {n v : List UInt8} (hn : tokB n = true) (hv : v.all valB = true) : fieldL (fieldLn (n, v)) = (lowL n, trimL v, 0) := by
  obtain ⟨h1, h2⟩ := bef_cut (c := 58) (a := n) (r := v) (tok_ne hn (by decide))
  unfold fieldL fieldLn
  simp only
  rw [h1, h2, if_pos (by rw [hn, hv]; simp)]
theorem fieldsL_build : ∀ (ps : List (List UInt8 × List UInt8)), (∀ p ∈ ps, okN p.1 = true ∧ p.2.all valB = true) → fieldsL (ps.map fieldLn) = some (ps.map fun p => (lowL p.1, trimL p.2))
  | [], _ => rfl
  | (n, v) :: ps, h => by
    obtain ⟨h1, h2⟩ := h (n, v) (by simp)
    have ht : tokB n = true := by unfold okN at h1; simp only [Bool.and_eq_true] at h1; exact h1.1.1.1.1
    rw [List.map_cons, fieldsL, field_build ht h2, if_pos rfl, fieldsL_build ps (fun p hp => h p (by simp [hp]))]
    rfl
theorem vals_none {ps : List (List UInt8 × List UInt8)} {nm : List UInt8} (h : ∀ p ∈ ps, (lowL p.1 == nm) = false) : valsF (ps.map fun p => (lowL p.1, trimL p.2)) nm = [] := by
  unfold valsF
  rw [List.map_eq_nil_iff, List.filter_eq_nil_iff]
  intro f hf
  obtain ⟨p, hp, rfl⟩ := List.mem_map.1 hf
  simp [h p hp]
theorem vals_cons (a b : List UInt8) (fs : List (List UInt8 × List UInt8)) (nm : List UInt8) : valsF ((a, b) :: fs) nm = (if (a == nm) = true then [b] else []) ++ valsF fs nm := by
  unfold valsF; rw [List.filter_cons]; split <;> simp
theorem okN_ne {n : List UInt8} (h : okN n = true) : (lowL n == hostL) = false ∧ (lowL n == teL) = false ∧ (lowL n == clL) = false ∧ (lowL n == connL) = false := by
  unfold okN at h
  simp only [Bool.and_eq_true, Bool.not_eq_true'] at h
  exact ⟨h.1.1.1.2, h.1.1.2, h.1.2, h.2⟩
theorem of_build (head : Bool) {target : List UInt8} (h : target.all seenB = true) (ht : target.length ≤ 100) (ps : List (List UInt8 × List UInt8)) (hp : ∀ p ∈ ps, okN p.1 = true ∧ p.2.all valB = true) :
    ofF (firstLine (wantL head) target :: hostLn :: ps.map fieldLn) = (⟨wantL head, 47 :: target, 1, (hostL, [120]) :: ps.map (fun p => (lowL p.1, trimL p.2)), false⟩, 0) := by
  have hf : fieldsL (hostLn :: ps.map fieldLn) = some ((hostL, [120]) :: ps.map fun p => (lowL p.1, trimL p.2)) := by
    rw [fieldsL, show fieldL hostLn = (hostL, [120], 0) by decide +kernel, if_pos rfl, fieldsL_build ps hp]
    rfl
  have v1 : valsF ((hostL, [120]) :: ps.map fun p => (lowL p.1, trimL p.2)) hostL = [[120]] := by
    rw [vals_cons, if_pos (by decide), vals_none (fun p h => (okN_ne (hp p h).1).1)]; rfl
  have v2 : valsF ((hostL, [120]) :: ps.map fun p => (lowL p.1, trimL p.2)) teL = [] := by
    rw [vals_cons, if_neg (by decide), vals_none (fun p h => (okN_ne (hp p h).1).2.1)]; rfl
  have v3 : valsF ((hostL, [120]) :: ps.map fun p => (lowL p.1, trimL p.2)) clL = [] := by
    rw [vals_cons, if_neg (by decide), vals_none (fun p h => (okN_ne (hp p h).1).2.2.1)]; rfl
  have v4 : valsF ((hostL, [120]) :: ps.map fun p => (lowL p.1, trimL p.2)) connL = [] := by
    rw [vals_cons, if_neg (by decide), vals_none (fun p h => (okN_ne (hp p h).1).2.2.2)]; rfl
  rw [ofF, first_build head h]
  simp only
  rw [if_neg (by decide), if_neg (by simp; omega), hf]
  simp only
  unfold ofFs getF closesF allF
  rw [v1, v2, v3, v4]
  have hk : methods.contains (wantL head) = true := by cases head <;> decide
  have hc : (itemsL (lowL (Lib.join [] [44, 32]))).contains closeL = false := by decide +kernel
  rw [hk, hc]
  simp
theorem clean_seen {t : List UInt8} (h : t.all seenB = true) : clean t := fun c hc => ⟨fun e => seen_ne h (c := 10) (by decide) (e ▸ hc), fun e => seen_ne h (c := 13) (by decide) (e ▸ hc)⟩
theorem clean_val {t : List UInt8} (h : t.all valB = true) : clean t := fun c hc => by
  have := List.all_eq_true.1 h c hc
  constructor
  · rintro rfl; revert this; decide
  · rintro rfl; revert this; decide
theorem clean_tok {t : List UInt8} (h : tokB t = true) : clean t := fun c hc => ⟨fun e => tok_ne h (c := 10) (by decide) (e ▸ hc), fun e => tok_ne h (c := 13) (by decide) (e ▸ hc)⟩
theorem clean_app {a b : List UInt8} (h : clean a) (k : clean b) : clean (a ++ b) := fun c hc => (List.mem_append.1 hc).elim (h c) (k c)
/-- All bytes. -/
def builtL (head : Bool) (target : List UInt8) (ps : List (List UInt8 × List UInt8)) : List UInt8 :=
  (((wantL head ++ [32, 47]) ++ target) ++ [32, 72, 84, 84, 80, 47, 49, 46, 49, 13, 10, 72, 111, 115, 116, 58, 32, 120, 13, 10]) ++ ps.flatMap (fun p => p.1 ++ 58 :: (p.2 ++ [13, 10]))
theorem built_lines (head : Bool) (target : List UInt8) (ps : List (List UInt8 × List UInt8)) :
    builtL head target ps ++ [13, 10] = (firstLine (wantL head) target :: hostLn :: ps.map fieldLn).flatMap (fun l => l ++ [13, 10]) ++ [13, 10] := by
  unfold builtL firstLine hostLn
  rw [List.flatMap_cons, List.flatMap_cons, List.flatMap_map]
  have e : (ps.flatMap fun a => fieldLn a ++ [13, 10]) = ps.flatMap (fun p => p.1 ++ 58 :: (p.2 ++ [13, 10])) := by
    congr 1; funext p; simp [fieldLn]
  rw [e]
  simp
theorem built_len (ps : List (List UInt8 × List UInt8)) (h : ∀ p ∈ ps, p.1.length ≤ 20 ∧ p.2.length ≤ 60) : (ps.flatMap (fun p => p.1 ++ 58 :: (p.2 ++ [13, 10]))).length ≤ 83 * ps.length := by
  induction ps with
  | nil => simp
  | cons p ps ih =>
    have h1 := h p (by simp)
    have h2 := ih (fun q hq => h q (by simp [hq]))
    rw [List.flatMap_cons, List.length_append]
    simp only [List.length_append, List.length_cons, List.length_nil]
    omega
theorem next_build (head : Bool) {target : List UInt8} (h : target.all seenB = true) (ht : target.length ≤ 100) (ps : List (List UInt8 × List UInt8)) (hp : ∀ p ∈ ps, okN p.1 = true ∧ p.2.all valB = true) (hl : ∀ p ∈ ps, p.1.length ≤ 20 ∧ p.2.length ≤ 60) (hn : ps.length ≤ 6) :
    nextF (builtL head target ps ++ [13, 10]) = (⟨wantL head, 47 :: target, 1, (hostL, [120]) :: ps.map (fun p => (lowL p.1, trimL p.2)), false⟩, 0, [], false) := by
  have hw : (wantL head).length ≤ 4 := by cases head <;> decide
  have hlen : (builtL head target ps ++ [13, 10]).length < 1024 := by
    have := built_len ps hl
    unfold builtL
    simp only [List.length_append, List.length_cons, List.length_nil]
    omega
  have hfl : firstLine (wantL head) target ≠ [] := by unfold firstLine; simp
  have hall : ∀ l ∈ firstLine (wantL head) target :: hostLn :: ps.map fieldLn, clean l ∧ l ≠ [] := by
    intro l hm
    rcases List.mem_cons.1 hm with rfl | hm
    · refine ⟨?_, hfl⟩
      unfold firstLine
      refine clean_app (by cases head <;> decide) ?_
      rw [show (32 :: (47 :: target ++ 32 :: [72, 84, 84, 80, 47, 49, 46, 49]) : List UInt8) = [32, 47] ++ (target ++ [32, 72, 84, 84, 80, 47, 49, 46, 49]) by simp]
      exact clean_app (by decide) (clean_app (clean_seen h) (by decide))
    · rcases List.mem_cons.1 hm with rfl | hm
      · exact ⟨by decide, by decide⟩
      · obtain ⟨p, hpm, rfl⟩ := List.mem_map.1 hm
        obtain ⟨k1, k2⟩ := hp p hpm
        have ht : tokB p.1 = true := by unfold okN at k1; simp only [Bool.and_eq_true] at k1; exact k1.1.1.1.1
        refine ⟨?_, by unfold fieldLn; simp⟩
        unfold fieldLn
        rw [show p.1 ++ 58 :: p.2 = p.1 ++ ([58] ++ p.2) by simp]
        exact clean_app (clean_tok ht) (clean_app (by decide) (clean_val k2))
  have hh : headF ((builtL head target ps ++ [13, 10]).length + 1) (builtL head target ps ++ [13, 10]).length [] (builtL head target ps ++ [13, 10]) = (firstLine (wantL head) target :: hostLn :: ps.map fieldLn, [], 0) := by
    rw [headF_G _ _ _ _ hlen]
    have e := built_lines head target ps
    have hl2 : (firstLine (wantL head) target :: hostLn :: ps.map fieldLn).length < (builtL head target ps ++ [13, 10]).length + 1 := by
      rw [e]
      have : ∀ ll : List (List UInt8), ll.length ≤ (ll.flatMap (fun l => l ++ [13, 10])).length := by
        intro ll
        induction ll with
        | nil => simp
        | cons l ll ih => rw [List.flatMap_cons, List.length_append, List.length_cons]; simp only [List.length_append, List.length_cons, List.length_nil]; omega
      have h3 := this (firstLine (wantL head) target :: hostLn :: ps.map fieldLn)
      rw [List.length_append]
      omega
    generalize (builtL head target ps ++ [13, 10]).length + 1 = f at hl2 ⊢
    rw [e]
    have := headG_lines (firstLine (wantL head) target :: hostLn :: ps.map fieldLn) f [] hall (by simp) hl2
    rw [this]; rfl
  unfold nextF
  rw [hh]
  simp only
  rw [of_build head h ht ps hp]
  rfl
end Go.Proofs.YtjjigngighneeaaDoor
