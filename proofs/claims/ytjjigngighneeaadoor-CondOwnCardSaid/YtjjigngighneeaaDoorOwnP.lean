/- The own tag is a tag that its own list holds: the plain law. -/
import Derived.Test.YtjjigngighneeaaDoorLawStar
import Derived.Test.YtjjigngighneeaaDoorCiv5
namespace Go.Proofs.YtjjigngighneeaaDoor
open Go.RowKit Go.Shelf
set_option linter.unusedVariables false
set_option linter.unusedSimpArgs false
set_option maxRecDepth 100000

def irL : List UInt8 := [105, 102, 45, 114, 97, 110, 103, 101]
def rgL : List UInt8 := [114, 97, 110, 103, 101]
theorem tag_form2 {v m : Int} (hv : 0 ≤ v ∧ v ≤ 4294967295) (hm : 0 ≤ m ∧ m ≤ 4294967295) : ∃ b : List UInt8, tagL v m = 34 :: (b ++ [34]) ∧ (44 : UInt8) ∉ b ∧ ∀ c ∈ b, okC c := by
  refine ⟨118 :: (itoaL v ++ 45 :: itoaL m), by unfold tagL; simp, ?_, ?_⟩
  · intro h
    rcases List.mem_cons.1 h with h | h
    · revert h; decide
    · rcases List.mem_append.1 h with h | h
      · have := itoa_dig hv.1 hv.2 _ h; revert this; decide
      · rcases List.mem_cons.1 h with h | h
        · revert h; decide
        · have := itoa_dig hm.1 hm.2 _ h; revert this; decide
  · intro c h
    unfold okC
    rcases List.mem_cons.1 h with rfl | h
    · decide
    · rcases List.mem_append.1 h with h | h
      · have := itoa_dig hv.1 hv.2 _ h; omega
      · rcases List.mem_cons.1 h with rfl | h
        · decide
        · have := itoa_dig hm.1 hm.2 _ h; omega
theorem tagP_own {b : List UInt8} (hb : ∀ c ∈ b, okC c) : TagP (34 :: (b ++ [34])) := by
  refine ⟨by simp, ?_⟩
  intro i x hx
  unfold Good
  rcases i with _ | i
  · simp at hx; subst hx; simp
  · rw [List.getElem?_cons_succ] at hx
    by_cases hi : i < b.length
    · rw [List.getElem?_append_left hi] at hx
      rw [if_neg (by simp; omega)]
      exact hb _ (List.mem_of_getElem? hx)
    · rw [List.getElem?_append_right (by omega)] at hx
      obtain ⟨hlt, e⟩ := List.getElem?_eq_some_iff.1 hx
      simp at e
      subst e
      simp at hlt
      rw [if_pos (by right; simp; omega)]
      decide
theorem own_items {a z : UInt8} {l : List UInt8} (ha : blkB a = false) (hz : blkB z = false) (h44 : (44 : UInt8) ∉ a :: (l ++ [z])) : itemsL (a :: (l ++ [z])) = [a :: (l ++ [z])] := by
  unfold itemsL
  rw [spl_one h44]
  simp only [List.flatMap_cons, List.flatMap_nil, List.append_nil]
  unfold oneI
  rw [trim_same ha hz, if_neg (by simp)]
theorem own_match {b : List UInt8} (h44 : (44 : UInt8) ∉ b) (hb : ∀ c ∈ b, okC c) : matchM (34 :: (b ++ [34])) (34 :: (b ++ [34])) false = true := by
  unfold matchM
  rw [own_items (by decide) (by decide) (by simp [h44])]
  have ht : tg (34 :: (b ++ [34])) = true := tg_t (by unfold stripW; rw [if_neg (by simp)]; exact tagP_own hb)
  simp [ht, hitB]
theorem own_weak {b : List UInt8} (h44 : (44 : UInt8) ∉ b) (hb : ∀ c ∈ b, okC c) : matchM (87 :: 47 :: 34 :: (b ++ [34])) (34 :: (b ++ [34])) true = true := by
  have e : (87 :: 47 :: 34 :: (b ++ [34]) : List UInt8) = 87 :: ((47 :: 34 :: b) ++ [34]) := by simp
  have hi : itemsL (87 :: 47 :: 34 :: (b ++ [34])) = [87 :: 47 :: 34 :: (b ++ [34])] := by
    rw [e]; exact own_items (by decide) (by decide) (by simp [h44])
  unfold matchM
  rw [hi]
  have ht : tg (87 :: 47 :: 34 :: (b ++ [34])) = true := tg_t (by unfold stripW; rw [if_pos (by simp)]; exact tagP_own hb)
  simp [ht, hitB]
theorem decL_inj : ∀ (a b : Nat), decL a = decL b → a = b := by
  intro a
  induction a using Nat.strongRecOn with
  | _ a ih =>
    intro b h
    by_cases ha : a < 10 <;> by_cases hb : b < 10
    · rw [decL_small ha, decL_small hb] at h
      have := congrArg UInt8.toNat (List.cons.inj h).1
      simp only [UInt8.toNat_ofNat'] at this
      omega
    · rw [decL_small ha, decL_big hb] at h
      have h1 := congrArg List.length h
      have h2 := decL_1 (b / 10)
      simp only [List.length_append, List.length_cons, List.length_nil] at h1; omega
    · rw [decL_big ha, decL_small hb] at h
      have h1 := congrArg List.length h
      have h2 := decL_1 (a / 10)
      simp only [List.length_append, List.length_cons, List.length_nil] at h1; omega
    · rw [decL_big ha, decL_big hb] at h
      obtain ⟨h1, h2⟩ := List.append_inj' h rfl
      have h3 := ih _ (by omega) _ h1
      have h4 := congrArg UInt8.toNat (List.cons.inj h2).1
      simp only [UInt8.toNat_ofNat'] at h4
      omega
theorem tag_next {v m : Int} (hv : 0 ≤ v) : (tagL v m == tagL (v + 1) m) = false := by
  rw [beq_eq_false_iff_ne]
  intro h
  unfold tagL at h
  have h2 := List.append_cancel_right (List.cons.inj (List.cons.inj h).2).2
  obtain ⟨n, rfl⟩ := Int.eq_ofNat_of_zero_le hv
  rw [show ((n : Int) + 1) = ((n + 1 : Nat) : Int) by omega, itoaL_nat, itoaL_nat] at h2
  have := decL_inj _ _ h2
  omega
theorem pr_ne {y m d hh mi s wd : Nat} {a b x : List UInt8} (ha : wdN[wd]? = some a) : ((34 :: x) == prL y m d hh mi s a b) = false := by
  have := List.mem_of_getElem? ha
  simp only [wdN, List.mem_cons, List.not_mem_nil, or_false] at this
  rcases this with rfl | rfl | rfl | rfl | rfl | rfl | rfl <;> (unfold prL; simp)
end Go.Proofs.YtjjigngighneeaaDoor
