/- inode: the entries of a directory: what may be one. -/
import Derived.Test.YtnpkfhnhcadgeaaDoorIn6
import Derived.Test.YtnpkfhnhcadgeaaDoorAs
import Derived.Test.YtnpkfhnhcadgeaaDoorPath2
namespace Go.Proofs.YtnpkfhnhcadgeaaDoor
open Go.RowKit
set_option linter.unusedVariables false
set_option linter.unusedSimpArgs false
set_option maxRecDepth 100000
def eV (e : List UInt8 × Int) : List Value := [.string (S e.1), .int .i64 e.2]
theorem eV_len (e : List UInt8 × Int) : (eV e).length = 2 := rfl
def entB (e : List UInt8 × Int) : Bool := nameB e.1 && blkB e.2
section
variable {R : Ending → World → Prop} {w w' w0 : World}
set_option maxHeartbeats 2000000 in
theorem entb_any (e : List UInt8 × Int) (hm : Ml w) (h : ∀ w', Kp [] w w' → R (.returned (.bool (entB e))) w') : Calls Tryd.prog 30 #[.agg #[.string (S e.1), .int .i64 e.2]] w R := by
  have H := Lib.hid h
  obtain ⟨a, i⟩ := e
  have HN : Hid (∀ (R : Ending → World → Prop) (w1 : World), Kp [] w w1 → (∀ w', Kp [] w w' → R (.returned (.bool (nameB a))) w') → Calls Tryd.prog 31 #[.string (S a)] w1 R) := Lib.hid (fun R w1 k1 h => name_any a w1 (hm.kp k1) (fun w' k' => h w' (k1.trans k')))
  have HC : Hid (∀ w', Kp [] (w.alloc (.cells #[.string (S a), .int .i64 i] 65)) w' → w'.cell? ⟨w.heap.size, 1, none⟩ = some (.int .i64 i)) := Lib.hid (fun w' k' => ((Bk.new' w 65 #[.string (S a), .int .i64 i]).kp k' (by simp)).cell 1)
  have HE : Hid (entB (a, i) = (nameB a && blkB i)) := Lib.hid rfl
  clear h
  rw [HE.out] at H
  show Calls Tryd.prog 30 #[.agg #[.string (S a), .int .i64 i]] w R
  have HN2 : Hid (∀ (R : Ending → World → Prop), (∀ w', Kp [] (w.alloc (.cells #[.string (S a), .int .i64 i] 65)) w' → R (.returned (.bool (nameB a))) w') → Calls Tryd.prog 31 #[.string (S a)] (w.alloc (.cells #[.string (S a), .int .i64 i] 65)) R) := Lib.hid (fun R h => name_any a _ (hm.kp ((Kp.refl [] w).alloc _)) h)
  clear HE HN
  obtain ⟨t, ht⟩ : ∃ t, nameB a = t := ⟨_, rfl⟩
  rw [ht] at H HN2
  cases t with
  | false =>
    go_enter Tryd.func30, Tryd.ntmps30
    go_wp2_with (go_at_call 31; (refine HN2.out _ ?_; intro w2 k2))
    exact H.out _ (((Kp.refl [] w).alloc _).trans k2)
  | true =>
    rw [Bool.true_and] at H
    go_enter Tryd.func30, Tryd.ntmps30
    go_wp2_with (first | (go_at_call 31; (refine HN2.out _ ?_; intro w2 k2; have c1 := HC.out _ k2)) | (go_at_call 32; (refine block_any _ ?_)))
    exact H.out _ (((Kp.refl [] w).alloc _).trans k2)
set_option maxHeartbeats 2000000 in
theorem alle_any {A : Option Addr} {n c : Nat} {l : List (List UInt8 × Int)} (hr : Rd w [] A (l.flatMap eV)) (hl : l.length = n) (hn : n ≤ 1000000) (hm : Ml w) (h : ∀ w', Kp [] w w' → R (.returned (.bool (l.all entB))) w') :
    Calls Tryd.prog 29 #[.slice A n c, .func (.func 30) #[] #[]] w R := by
  have H := Lib.hid h
  have HL := Lib.hid hl
  have HR := Lib.hid hr
  clear h hl hr
  go_enter Tryd.func29, Tryd.ntmps29
  go_wp2
  go_loopw [9] (fun jv wr => ∃ k : Nat, k ≤ n ∧ jv = .int .i64 k ∧ Hid (Kp [] w wr) ∧ Hid ((l.take k).all entB = true)) (fun jv _ => n - (intOf jv).toNat)
  case atStart => exact ⟨0, Nat.zero_le _, rfl, Lib.hid (Kp.refl _ _), Lib.hid (by simp)⟩
  case round =>
    obtain ⟨k, hk, rfl, kr, hg⟩ := hrel
    by_cases hlt : k < n
    · obtain ⟨x, hx, hmx⟩ := get_ltI (l := l) (k := k) (by have := HL.out; omega)
      obtain ⟨b, off, rfl, _, hbl, hc⟩ := rd_at (F := eV) (K := 2) (HR.out.kp kr.out (by simp)) eV_len (by omega) hx
      have c0 := hc 0 _ rfl
      have c1 := hc 1 _ rfl
      rw [Nat.add_zero] at c0
      have HX := Lib.hid hx
      have HM := Lib.hid hmx
      have HE : Hid (∀ (R : Ending → World → Prop) (w1 : World), Kp [] wr w1 → (∀ w', Kp [] wr w' → R (.returned (.bool (entB x))) w') → Calls Tryd.prog 30 #[.agg #[.string (S x.1), .int .i64 x.2]] w1 R) := Lib.hid (fun R w1 k1 h => entb_any x ((hm.kp kr.out).kp k1) (fun w' k' => h w' (k1.trans k')))
      obtain ⟨t, ht⟩ : ∃ t, entB x = t := ⟨_, rfl⟩
      rw [ht] at HE
      have HT := Lib.hid ht
      obtain ⟨xs, xi⟩ := x
      simp only at HE c0 c1
      clear hc hx hmx ht
      cases t with
      | true =>
        have HN : Hid ((l.take (k + 1)).all entB = true) := Lib.hid (by rw [take_snocI HX.out, List.all_append, hg.out]; simp [HT.out])
        go_wp2_with (go_at_call 30; (refine HE.out _ _ ((Kp.refl _ _).alloc _) ?_; intro w5 k5))
        exact ⟨⟨k + 1, by omega, by go_num, Lib.hid (kr.out.trans k5), HN⟩, by simp [intOf]; omega⟩
      | false =>
        have hv : l.all entB = false := by
          cases h : l.all entB with
          | false => rfl
          | true => have := List.all_eq_true.1 h _ HM.out; rw [HT.out] at this; cases this
        rw [hv] at H
        clear hv
        go_wp2_with (go_at_call 30; (refine HE.out _ _ ((Kp.refl _ _).alloc _) ?_; intro w5 k5))
        exact H.out _ (kr.out.trans k5)
    · obtain rfl : k = n := by omega
      have hv : l.all entB = true := by have := hg.out; rwa [List.take_of_length_le (by have := HL.out; omega)] at this
      rw [hv] at H
      clear hv
      go_wp2
      exact H.out _ kr.out
end
end Go.Proofs.YtnpkfhnhcadgeaaDoor
