/- CondStar walked. -/
import Derived.Test.YtjjigngighneeaaDoorCkr
import Derived.Test.YtjjigngighneeaaDoorLawCond
import Derived.Test.YtjjigngighneeaaDoorReqBd
namespace Go.Proofs.YtjjigngighneeaaDoor
open Go.RowKit Go.Shelf
set_option linter.unusedVariables false
set_option linter.unusedSimpArgs false
set_option maxRecDepth 100000

def rqGet : Req := ⟨[71, 69, 84], [], 1, [(imL, [42])], false⟩
def rqPut : Req := ⟨[80, 85, 84], [], 1, [(inL, [32, 42, 32])], false⟩
def rqHead : Req := ⟨[72, 69, 65, 68], [], 1, [(inL, [32, 42, 32])], false⟩
theorem match_star (t : List UInt8) : matchM [42] t false = true := by
  unfold matchM; rw [show (trimL [42] == [42]) = true by decide +kernel]; rfl
theorem match_star2 (t : List UInt8) : matchM [32, 42, 32] t true = true := by
  unfold matchM; rw [show (trimL [32, 42, 32] == [42]) = true by decide +kernel]; rfl
theorem dec_dig : ∀ (k n : Nat), n < 10 ^ (k + 1) → ∀ c ∈ decL n, 48 ≤ c.toNat ∧ c.toNat ≤ 57 := by
  intro k
  induction k with
  | zero =>
    intro n h c hc
    rw [decL_small (by simpa using h)] at hc
    obtain rfl := List.mem_singleton.1 hc
    rw [UInt8.toNat_ofNat']; omega
  | succ k ih =>
    intro n h c hc
    by_cases h1 : n < 10
    · rw [decL_small h1] at hc
      obtain rfl := List.mem_singleton.1 hc
      rw [UInt8.toNat_ofNat']; omega
    · rw [decL_big h1] at hc
      rcases List.mem_append.1 hc with hc | hc
      · exact ih (n / 10) (by rw [Nat.pow_succ] at h; omega) c hc
      · obtain rfl := List.mem_singleton.1 hc
        rw [UInt8.toNat_ofNat']; omega
theorem itoa_dig {v : Int} (h0 : 0 ≤ v) (h1 : v ≤ 4294967295) : ∀ c ∈ itoaL v, 48 ≤ c.toNat ∧ c.toNat ≤ 57 := by
  obtain ⟨n, rfl⟩ : ∃ n : Nat, v = n := ⟨v.toNat, by omega⟩
  rw [itoaL_nat]
  exact dec_dig 9 n (by omega)
theorem tag_form {v m : Int} (hv : 0 ≤ v ∧ v ≤ 4294967295) (hm : 0 ≤ m ∧ m ≤ 4294967295) : ∃ b : List UInt8, tagL v m = 34 :: (b ++ [34]) ∧ (44 : UInt8) ∉ b := by
  refine ⟨118 :: (itoaL v ++ 45 :: itoaL m), by unfold tagL; simp, ?_⟩
  intro h
  rcases List.mem_cons.1 h with h | h
  · revert h; decide
  · rcases List.mem_append.1 h with h | h
    · have := itoa_dig hv.1 hv.2 _ h; revert this; decide
    · rcases List.mem_cons.1 h with h | h
      · revert h; decide
      · have := itoa_dig hm.1 hm.2 _ h; revert this; decide
theorem trim_same {a z : UInt8} {l : List UInt8} (ha : blkB a = false) (hz : blkB z = false) : trimL (a :: (l ++ [z])) = a :: (l ++ [z]) := by
  rw [trimL_eq]
  rw [List.dropWhile_cons_of_neg (by simp [ha])]
  unfold rdropB
  rw [show (a :: (l ++ [z])).reverse = z :: (l.reverse ++ [a]) by simp, List.dropWhile_cons_of_neg (by simp [hz])]
  simp
theorem trim_lead {z : UInt8} {a : UInt8} {l : List UInt8} (ha : blkB a = false) (hz : blkB z = false) : trimL (32 :: a :: (l ++ [z])) = a :: (l ++ [z]) := by
  rw [trimL_eq]
  rw [List.dropWhile_cons_of_pos (by decide), List.dropWhile_cons_of_neg (by simp [ha])]
  unfold rdropB
  rw [show (a :: (l ++ [z])).reverse = z :: (l.reverse ++ [a]) by simp, List.dropWhile_cons_of_neg (by simp [hz])]
  simp
theorem match_not {b : List UInt8} (hb : (44 : UInt8) ∉ b) (t : List UInt8) : matchM ((34 :: (b ++ [34])) ++ ([44, 32] ++ ((34 :: (b ++ [34])) ++ [120]))) t true = false := by
  have e0 : (34 :: (b ++ [34])) ++ ([44, 32] ++ ((34 :: (b ++ [34])) ++ [120])) = 34 :: ((b ++ [34] ++ [44, 32] ++ 34 :: (b ++ [34])) ++ [120]) := by simp
  have e1 : (34 :: (b ++ [34])) ++ ([44, 32] ++ ((34 :: (b ++ [34])) ++ [120])) = (34 :: (b ++ [34])) ++ 44 :: (32 :: 34 :: ((b ++ [34]) ++ [120])) := by simp
  have h1 : (trimL ((34 :: (b ++ [34])) ++ ([44, 32] ++ ((34 :: (b ++ [34])) ++ [120]))) == [42]) = false := by
    rw [e0, trim_same (by decide) (by decide)]; rfl
  have hs : spl 44 ((34 :: (b ++ [34])) ++ 44 :: (32 :: 34 :: ((b ++ [34]) ++ [120]))) = [34 :: (b ++ [34]), 32 :: 34 :: ((b ++ [34]) ++ [120])] := by
    rw [spl_cut (by simp [hb]), spl_one (by simp [hb])]
  have hx : (34 :: ((b ++ [34]) ++ [120])) ∈ itemsL ((34 :: (b ++ [34])) ++ 44 :: (32 :: 34 :: ((b ++ [34]) ++ [120]))) := by
    unfold itemsL
    rw [hs, List.mem_flatMap]
    refine ⟨32 :: 34 :: ((b ++ [34]) ++ [120]), by simp, ?_⟩
    unfold oneI
    rw [trim_lead (by decide) (by decide), if_neg (by simp)]
    simp
  have ht : tg (34 :: ((b ++ [34]) ++ [120])) = false := by
    refine tg_f (not_tag (i := b.length + 2) (x := 120) ?_ ?_)
    · unfold stripW
      rw [if_neg (by simp)]
      simp [List.getElem?_append]
    · unfold stripW
      rw [if_neg (by simp)]
      unfold Good
      rw [if_pos (by right; simp)]
      decide
  unfold matchM
  rw [h1, Bool.false_or, e1]
  have ha : (itemsL ((34 :: (b ++ [34])) ++ 44 :: (32 :: 34 :: ((b ++ [34]) ++ [120])))).all tg = false := by
    rw [List.all_eq_false]; exact ⟨_, hx, by rw [ht]; exact Bool.false_ne_true⟩
  rw [ha]; rfl
theorem match_mono (l t : List UInt8) (h : matchM l t false = true) : matchM l t true = true := by
  unfold matchM at *
  rcases Bool.or_eq_true _ _ ▸ h with h | h
  · rw [h]; rfl
  · rw [Bool.and_eq_true] at h
    rw [h.1]
    have : (itemsL l).any (hitB t true) = true := by
      rw [List.any_eq_true] at h ⊢
      obtain ⟨x, hx, hh⟩ := h.2
      refine ⟨x, hx, ?_⟩
      unfold hitB at *
      simp at hh ⊢
      exact .inl hh
    rw [this]; simp
end Go.Proofs.YtjjigngighneeaaDoor
