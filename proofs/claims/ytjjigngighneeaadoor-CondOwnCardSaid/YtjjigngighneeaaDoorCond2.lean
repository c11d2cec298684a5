/- Package cond: a tag in a list. -/
import Derived.Test.YtjjigngighneeaaDoorCond1
namespace Go.Proofs.YtjjigngighneeaaDoor
open Go.RowKit Go.Shelf
set_option linter.unusedVariables false
set_option linter.unusedSimpArgs false
set_option maxRecDepth 100000

/-- Is this item what is looked for? -/
def hitB (t : List UInt8) (weak : Bool) (x : List UInt8) : Bool := x == t || (weak && x == 87 :: 47 :: t)
noncomputable def matchM (l t : List UInt8) (weak : Bool) : Bool := trimL l == [42] || ((itemsL l).all tg && (itemsL l).any (hitB t weak))
theorem strs_ne {its : List (List UInt8)} {k : Nat} (h : k < its.length) : strs its ≠ [] := by
  intro e
  have h0 : its.length = 0 := by rw [← strs_len, e]; rfl
  omega
theorem any_take {l : List (List UInt8)} {p : List UInt8 → Bool} {k : Nat} {x : List UInt8} (hx : l[k]? = some x) : (l.take (k + 1)).any p = ((l.take k).any p || p x) := by
  have hk : k < l.length := (List.getElem?_eq_some_iff.1 hx).1
  have e : l[k] = x := (List.getElem?_eq_some_iff.1 hx).2
  rw [List.take_succ_eq_append_getElem hk, e, List.any_append]; simp
theorem all_take {l : List (List UInt8)} {p : List UInt8 → Bool} {k : Nat} {x : List UInt8} (hx : l[k]? = some x) : (l.take (k + 1)).all p = ((l.take k).all p && p x) := by
  have hk : k < l.length := (List.getElem?_eq_some_iff.1 hx).1
  have e : l[k] = x := (List.getElem?_eq_some_iff.1 hx).2
  rw [List.take_succ_eq_append_getElem hk, e, List.all_append]; simp
set_option maxHeartbeats 4000000 in
theorem match_any {R : Ending → World → Prop} (l t : List UInt8) (weak : Bool) (w : World) (hl : l.length ≤ 100000) (ht : t.length ≤ 100000) (hm : Ml w) (h : ∀ w', Kp [] w w' → R (.returned (.bool (matchM l t weak))) w') :
    Calls Tryd.prog 34 #[.string (S l), .string (S t), .bool weak] w R := by
  have H := Lib.hid h
  clear h
  have HM := Lib.hid (show matchM l t weak = (trimL l == [42] || ((itemsL l).all tg && (itemsL l).any (hitB t weak))) from rfl)
  generalize matchM l t weak = b at *
  cases hs : (trimL l == [42])
  · obtain ⟨its, hits⟩ : ∃ its, itemsL l = its := ⟨_, rfl⟩
    have hmem : ∀ x ∈ its, x.length ≤ 1000000 := fun x hx => by
      have := items_mem_len (l := l) (p := x) (by rw [hits]; exact hx)
      omega
    have hil : its.length ≤ 1000001 := by have := itemsL_len l; rw [hits] at this; omega
    have HI : Hid (∀ (R : Ending → World → Prop) (w1 : World), Ml w1 → (∀ A c w', Ow w' 9 1 A its.length c (strs its) → (∀ b ∈ bks A, w1.heap.size ≤ b) → Kp [] w1 w' → R (.returned (.slice A its.length c)) w') → Calls Tryd.prog 54 #[.string (S l)] w1 R) := Lib.hid (by
      intro R w1 hm1 h
      refine items_any l w1 (by omega) hm1 ?_
      rw [hits]; exact h)
    have HMM := Lib.hid hmem
    rw [hs, hits, Bool.false_or] at HM
    have hs2 := Lib.hid hs
    clear hits hmem
    go_enter Tryd.func34, Tryd.ntmps34
    go_wp2_with (first | (go_at_call 53; ((refine trim_any l _ (by omega) ?_); intro w1 k1)) | (go_at_call 54; ((refine HI.out _ _ (hm.kp k1) ?_); intro A c w2 ho hA k2)))
    have HR := Lib.hid (ho.rd (N := []) (by simp))
    have k12 := k1.trans k2
    clear ho hA k1 k2
    go_loopw [7, 16] (fun fv iv wr => ∃ k : Nat, k ≤ its.length ∧ iv = .int .i64 k ∧ fv = .bool ((its.take k).any (hitB t weak)) ∧ Hid ((its.take k).all tg = true) ∧ Kp [] w2 wr) (fun _ iv _ => its.length - (intOf iv).toNat)
    case atStart => exact ⟨0, Nat.zero_le _, rfl, rfl, Lib.hid rfl, Kp.refl _ _⟩
    case round =>
      obtain ⟨k, hk, rfl, rfl, hall, kr⟩ := hrel
      by_cases hlt : k < its.length
      · obtain ⟨x, hx⟩ : ∃ x, its[k]? = some x := ⟨_, List.getElem?_eq_getElem hlt⟩
        have hxl := HMM.out x (List.mem_of_getElem? hx)
        obtain ⟨g, off, rfl, _, hgl, hc⟩ := HR.out (strs_ne hlt)
        have hcx := (kr.cell (p := ⟨g, off + k, none⟩) hgl (by simp)).trans (hc k (.string (S x)) (by rw [strs_get, hx]; rfl))
        have HX := Lib.hid hx
        have HA := Lib.hid (all_take (p := tg) hx)
        have HY := Lib.hid (any_take (p := hitB t weak) hx)
        clear hc hx
        cases ht2 : tg x
        · have HT := Lib.hid ht2
          have hb : b = false := by
            have h1 : its.all tg = false := by rw [List.all_eq_false]; exact ⟨x, List.mem_of_getElem? HX.out, by simp [ht2]⟩
            rw [HM.out, h1]; rfl
          subst hb
          clear ht2
          go_wp2_with (go_at_call 55; ((refine istag_any x _ hxl ?_); intro w3 k3; rw [HT.out]))
          exact H.out _ ((k12.trans kr).trans k3)
        · have HT := Lib.hid ht2
          have HA2 : Hid ((its.take (k + 1)).all tg = true) := Lib.hid (by rw [HA.out, hall.out, ht2]; rfl)
          clear ht2
          have HYB := HY.out
          unfold hitB at HYB
          obtain ⟨f, hf⟩ : ∃ f, (its.take k).any (hitB t weak) = f := ⟨_, rfl⟩
          rw [hf]
          have HF := Lib.hid (show (its.take (k + 1)).any (hitB t weak) = (f || (x == t || (weak && x == 87 :: 47 :: t))) by rw [HY.out, hf]; rfl)
          clear HYB HY hf
          cases f <;> cases weak <;> cases hxt : (x == t) <;> cases hxw : (x == 87 :: 47 :: t)
          all_goals
            have hf2 := HF.out
            rw [hxt, hxw] at hf2
            simp only [Bool.false_or, Bool.true_or, Bool.or_false, Bool.or_true, Bool.false_and, Bool.true_and] at hf2
            have HF2 := Lib.hid hf2
            clear hf2 HF
            go_wp2_with (go_at_call 55; ((refine istag_any x _ hxl ?_); intro w3 k3; rw [HT.out]))
            exact ⟨⟨k + 1, by omega, by go_num, by rw [HF2.out], HA2, kr.trans k3⟩, by simp [intOf]; omega⟩
      · have e : its.take k = its := List.take_of_length_le (by omega)
        rw [e] at hall
        have hb : b = its.any (hitB t weak) := by rw [HM.out, hall.out, Bool.true_and]
        subst hb
        rw [e]
        go_wp2
        exact H.out _ (k12.trans kr)
  · have hb : b = true := by rw [HM.out, hs]; rfl
    subst hb
    have hs2 : (trimL l == [42]) = true := hs
    clear HM hs
    go_enter Tryd.func34, Tryd.ntmps34
    go_wp2_with (go_at_call 53; ((refine trim_any l _ (by omega) ?_); intro w1 k1))
    exact H.out _ k1
end Go.Proofs.YtjjigngighneeaaDoor
