/- pantlerref06: settle. pantlerref06: Do, Kinds 1 (Read), 2 (Write), 3 (Sync). pantlerref06: Do at Kind 2 (Write): the ways that write nothing. -/
import Derived.Test.YtedblbpmlbjnhaaGreatPE9
import Derived.Deep.RegionHeldLaw
namespace Go.Proofs.YtedblbpmlbjnhaaGreat
/-! ### pantlerref06: settle. -/
section
open Go.RowKit Go.Shelf
set_option linter.unusedVariables false
set_option linter.unusedSimpArgs false
set_option maxRecDepth 100000
/-- Half-way through settling. -/
structure Ms (w W : World) (bD bB : Nat) (A : Option Addr) (c cb co bO : Nat) (d : DkS) (k : Nat) : Prop where
  kp : Kp [bB] w W
  dd : Bk W bD 74 [.slice (some ⟨bB, 0, none⟩) d.bl.length cb, .slice (some ⟨bO, 0, none⟩) d.bl.length co, .slice A d.ln.length c, .bool d.off, .int .i64 (leftM d)]
  b : Tw W bB 9 (((d.ln.take k).foldl dSet d.bl).map sV)
  o : Tw W bO 3 (ints d.ow)
  ln : Nb W [bD, bB] 225 A (d.ln.flatMap mwV)
section
variable {R : Ending → World → Prop} {w w' : World} {bD bB bO c : Nat} {A : Option Addr} {d : DkS}
end
end
/-! ### pantlerref06: Do, Kinds 1 (Read), 2 (Write), 3 (Sync). -/
section
open Go.RowKit Go.Shelf
set_option linter.unusedVariables false
set_option linter.unusedSimpArgs false
set_option maxRecDepth 100000
section
variable {R : Ending → World → Prop} {w w' : World} {bD bB bO c : Nat} {A : Option Addr} {d : DkS}
set_option maxHeartbeats 4000000 in
theorem mdo1_any (hd : Dm w bD bB bO A c d) (hlm : d.ln.length ≤ 1000000) (env a b : Int) (s : ByteArray) (h : ∀ w', Kp [] w w' → R (.returned (.tuple #[.string (S (dRead d env a).2), .int .i64 (dRead d env a).1])) w') :
    Calls Tryz.prog 55 #[.pointer (some ⟨bD, 0, none⟩), .agg #[.int .i64 1, .int .i64 env, .int .i64 a, .int .i64 b, .string s]] w R := by
  have HM : Hid (∀ (R : Ending → World → Prop) (w1 : World), Kp [] w w1 → R (.returned (.int .i64 (dMay d env a))) w1 → Calls Tryz.prog 114 #[.pointer (some ⟨bD, 0, none⟩), .int .i64 env, .int .i64 a] w1 R) := Lib.hid (fun R w1 k h => mmay_any0 (hd.kp k) env a h)
  by_cases hm : dMay d env a = 0
  · obtain ⟨m0, m1, _, _⟩ := dMay_ok hm
    obtain ⟨k, rfl⟩ : ∃ k : Nat, a = k := ⟨a.toNat, by omega⟩
    have hr : dRead d env k = (0, dSee d k) := by unfold dRead; rw [if_pos hm]
    have HS : Hid (∀ (R : Ending → World → Prop) (w1 : World), Kp [] w w1 → (∀ w', Kp [] w1 w' → R (.returned (.string (S (dSee d k)))) w') → Calls Tryz.prog 115 #[.pointer (some ⟨bD, 0, none⟩), .int .i64 k] w1 R) := Lib.hid (fun R w1 kk h => msee_any (hd.kp kk) k (by omega) hlm h)
    rw [hr] at h
    have H := Lib.hid h
    rw [hm] at HM
    obtain ⟨l, hl⟩ : ∃ l, dSee d k = l := ⟨_, rfl⟩
    rw [hl] at HS H
    clear h hd hr hl hm m0 m1
    have KA : ∀ o, Kp [] w (w.alloc o) := fun o => (Kp.refl _ _).alloc o
    go_enter Tryz.func55, Tryz.ntmps55
    go_wp2_with (first | (go_at_call 114; (refine HM.out _ _ (KA _) ?_)) | (go_at_call 115; ((refine HS.out _ _ (KA _) ?_); intro w1 k1)))
    exact H.out _ ((KA _).trans k1)
  · have hr : dRead d env a = (dMay d env a, []) := by unfold dRead; rw [if_neg hm]
    rw [hr] at h
    have H := Lib.hid h
    obtain ⟨e, he⟩ : ∃ e, dMay d env a = e := ⟨_, rfl⟩
    rw [he] at HM H
    have g1 : (e != 0) = true := by rw [← he]; simpa using hm
    clear h hd hr hm he
    have KA : ∀ o, Kp [] w (w.alloc o) := fun o => (Kp.refl _ _).alloc o
    go_enter Tryz.func55, Tryz.ntmps55
    go_wp2_with (go_at_call 114; (refine HM.out _ _ (KA _) ?_))
    exact H.out _ (KA _)
end
end
/-! ### pantlerref06: Do at Kind 2 (Write): the ways that write nothing. -/
section
open Go.RowKit Go.Shelf
set_option linter.unusedVariables false
set_option linter.unusedSimpArgs false
set_option maxRecDepth 100000
section
variable {R : Ending → World → Prop} {w w' : World} {bD bB bO c : Nat} {A : Option Addr} {d : DkS}
theorem mw_0 (hd : Dm w bD bB bO A c d) (env a b : Int) (l : List UInt8) (hm : dMay d env a ≠ 0) (h : ∀ w', Kp [] w w' → R (.returned (.tuple #[.string ⟨#[]⟩, .int .i64 (dMay d env a)])) w') :
    Calls Tryz.prog 55 #[.pointer (some ⟨bD, 0, none⟩), .agg #[.int .i64 2, .int .i64 env, .int .i64 a, .int .i64 b, .string (S l)]] w R := by
  have HM : Hid (∀ (R : Ending → World → Prop) (w1 : World), Kp [] w w1 → R (.returned (.int .i64 (dMay d env a))) w1 → Calls Tryz.prog 114 #[.pointer (some ⟨bD, 0, none⟩), .int .i64 env, .int .i64 a] w1 R) := Lib.hid (fun R w1 k h => mmay_any0 (hd.kp k) env a h)
  have H := Lib.hid h
  obtain ⟨e, he⟩ : ∃ e, dMay d env a = e := ⟨_, rfl⟩
  rw [he] at HM H
  have g1 : (e != 0) = true := by rw [← he]; simpa using hm
  clear h hd hm he
  have KA : ∀ o, Kp [] w (w.alloc o) := fun o => (Kp.refl _ _).alloc o
  go_enter Tryz.func55, Tryz.ntmps55
  go_wp2_with (go_at_call 114; (refine HM.out _ _ (KA _) ?_))
  exact H.out _ (KA _)
theorem mw_1 (hd : Dm w bD bB bO A c d) (env a b : Int) (l : List UInt8) (hm : dMay d env a = 0) (hl : l.length ≠ 256) (h : ∀ w', Kp [] w w' → R (.returned (.tuple #[.string ⟨#[]⟩, .int .i64 1])) w') :
    Calls Tryz.prog 55 #[.pointer (some ⟨bD, 0, none⟩), .agg #[.int .i64 2, .int .i64 env, .int .i64 a, .int .i64 b, .string (S l)]] w R := by
  have HM : Hid (∀ (R : Ending → World → Prop) (w1 : World), Kp [] w w1 → R (.returned (.int .i64 0)) w1 → Calls Tryz.prog 114 #[.pointer (some ⟨bD, 0, none⟩), .int .i64 env, .int .i64 a] w1 R) := Lib.hid (fun R w1 k h => mmay_any0 (hd.kp k) env a (by rw [hm]; exact h))
  have H := Lib.hid h
  have g1 : ((l.length : Int) != 256) = true := by simp; omega
  clear h hd hm hl
  have KA : ∀ o, Kp [] w (w.alloc o) := fun o => (Kp.refl _ _).alloc o
  go_enter Tryz.func55, Tryz.ntmps55
  go_wp2_with (go_at_call 114; (refine HM.out _ _ (KA _) ?_))
  exact H.out _ (KA _)
theorem mw_2 (hd : Dm w bD bB bO A c d) (env a b : Int) (l : List UInt8) (hm : dMay d env a = 0) (hl : l.length = 256) (hA : d.arm = true ∧ d.left = 0) (hbo : bD ≠ bO) (h : ∀ w', Kp [bD] w w' → Dm w' bD bB bO A c (dCut d) → R (.returned (.tuple #[.string ⟨#[]⟩, .int .i64 30])) w') :
    Calls Tryz.prog 55 #[.pointer (some ⟨bD, 0, none⟩), .agg #[.int .i64 2, .int .i64 env, .int .i64 a, .int .i64 b, .string (S l)]] w R := by
  obtain ⟨cb, co, hbk⟩ := hd.dd
  have HM : Hid (∀ (R : Ending → World → Prop) (w1 : World), Kp [] w w1 → R (.returned (.int .i64 0)) w1 → Calls Tryz.prog 114 #[.pointer (some ⟨bD, 0, none⟩), .int .i64 env, .int .i64 a] w1 R) := Lib.hid (fun R w1 k h => mmay_any0 (hd.kp k) env a (by rw [hm]; exact h))
  have H := Lib.hid h
  have hlm : leftM d = 0 := by unfold leftM; rw [if_pos hA.1]; exact hA.2
  rw [hlm] at hbk
  have g1 : ((l.length : Int) != 256) = false := by simp; omega
  have KA : ∀ o, Kp [] w (w.alloc o) := fun o => (Kp.refl _ _).alloc o
  have HB := Lib.hid hbk
  have hlt := hbk.lt
  have HF : Hid (∀ o, Kp [bD] w (((w.setCell ⟨bD, 3, none⟩ (.bool true)).setCell ⟨bD, 4, none⟩ (.int .i64 (-1))).alloc o) ∧ Dm (((w.setCell ⟨bD, 3, none⟩ (.bool true)).setCell ⟨bD, 4, none⟩ (.int .i64 (-1))).alloc o) bD bB bO A c (dCut d)) := Lib.hid (fun o => by
    have kc : Kp [bD] w (((w.setCell ⟨bD, 3, none⟩ (.bool true)).setCell ⟨bD, 4, none⟩ (.int .i64 (-1))).alloc o) := (((Kp.refl _ _).setCell (p := ⟨bD, 3, none⟩) (.inl (by simp)) _).setCell (p := ⟨bD, 4, none⟩) (.inl (by simp)) _).alloc _
    refine ⟨kc, ⟨⟨cb, co, ((((HB.out.set_ 3 _).set_ 4 _)).alloc o).cast (by simp [dCut, leftM])⟩, hd.b.kp kc (by simpa using Ne.symm hd.ne), hd.o.kp kc (by simpa using Ne.symm hbo), hd.ln.kp kc (fun s hs => .inl (by simp at hs; simp [hs])), hd.ne, hd.ok.cut⟩⟩)
  have c3 := hbk.cell 3
  have c4 := hbk.cell 4
  have f3 := hbk.frozen 3
  have f4 := hbk.frozen 4
  simp only [List.getElem?_cons_zero, List.getElem?_cons_succ] at c3 c4
  clear h hd hm hl hA hlm hbk
  go_enter Tryz.func55, Tryz.ntmps55
  go_wp2_with (go_at_call 114; (refine HM.out _ _ (KA _) ?_))
  exact H.out _ (HF.out _).1 (HF.out _).2
end
end
end Go.Proofs.YtedblbpmlbjnhaaGreat
