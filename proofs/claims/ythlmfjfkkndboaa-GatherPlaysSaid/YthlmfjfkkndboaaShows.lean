/- pantlerlaw05.Shows: a table shows what the document's does. -/
import Derived.Test.YthlmfjfkkndboaaRDo2
namespace Go.Proofs.Ythlmfjfkkndboaa
open Go.RowKit
set_option linter.unusedVariables false
set_option linter.unusedSimpArgs false
set_option maxRecDepth 100000
section
variable {R : Ending → World → Prop} {bT bL bM bO bH bB : Nat} {fs : List Fr} {w : World}
theorem owner_at {i : Nat} {x : Fr} (hT : Tab w bT bL fs) (hx : fs[i]? = some x) (h : R (.returned (.int .i64 x.ow)) w) : Calls Try.prog 58 #[.pointer (some ⟨bT, 0, none⟩), .int .i64 i] w R :=
  owner_any hT i (fun n e => by have : n = x.ow := by rw [← e.out]; unfold tOwner fat; rw [if_pos (by omega), Int.toNat_natCast, hx]
                                rw [this]; exact h)
theorem holds_at {i : Nat} {x : Fr} (hT : Tab w bT bL fs) (hx : fs[i]? = some x) (h : R (.returned (.int .i64 x.ho)) w) : Calls Try.prog 62 #[.pointer (some ⟨bT, 0, none⟩), .int .i64 i] w R :=
  holds_any hT i (fun n e => by have : n = x.ho := by rw [← e.out]; unfold tHolds fat; rw [if_pos (by omega), Int.toNat_natCast, hx]
                                rw [this]; exact h)
theorem owner_out {f : Int} (hT : Tab w bT bL fs) (hf : f < 0 ∨ (fs.length : Int) ≤ f) (h : R (.returned (.int .i64 0)) w) : Calls Try.prog 58 #[.pointer (some ⟨bT, 0, none⟩), .int .i64 f] w R :=
  owner_any hT f (fun n e => by
    have hx : fat fs f = none := by
      unfold fat; split
      · exact List.getElem?_eq_none (by omega)
      · rfl
    have : n = 0 := by rw [← e.out]; unfold tOwner; rw [hx]
    rw [this]; exact h)
theorem holds_out {f : Int} (hT : Tab w bT bL fs) (hf : f < 0 ∨ (fs.length : Int) ≤ f) (h : R (.returned (.int .i64 0)) w) : Calls Try.prog 62 #[.pointer (some ⟨bT, 0, none⟩), .int .i64 f] w R :=
  holds_any hT f (fun n e => by
    have hx : fat fs f = none := by
      unfold fat; split
      · exact List.getElem?_eq_none (by omega)
      · rfl
    have : n = 0 := by rw [← e.out]; unfold tHolds; rw [hx]
    rw [this]; exact h)
theorem read_at {i : Nat} {x : Fr} (hT : Tab w bT bL fs) (hx : fs[i]? = some x) (hn : envB x.ow = true) (h : ∀ A c w', Kp [] w w' → Ow w' 5 1 A 256 c (bts x.bs) → R (.returned (.tuple #[.slice A 256 c, .int .i64 0])) w') :
    Calls Try.prog 34 #[.pointer (some ⟨bT, 0, none⟩), .int .i64 x.ow, .int .i64 i, .int .i64 0, .int .i64 256] w R :=
  read_any hT _ _ _ _ (fun e l A c w' q k ho hb => by
    have hf : fat fs (i : Int) = some x := by unfold fat; rw [if_pos (by omega), Int.toNat_natCast, hx]
    have hpg := hT.pgAt hx
    have hq : ownE fs x.ow i = 0 := by unfold ownE; rw [hn, hf]; simp
    have hs : spanB 0 256 = true := by decide
    have hr : tRead fs x.ow i 0 256 = (0, x.bs) := by
      unfold tRead
      rw [hq, hs, hf]
      simp only [if_true, Bool.true_eq_false, if_false]
      have : cutB x.bs 0 256 = x.bs := by
        unfold cutB
        exact List.take_of_length_le (by simp; omega)
      rw [this]
    rw [hr] at q
    have q1 := congrArg Prod.fst q.out
    have q2 := congrArg Prod.snd q.out
    simp only at q1 q2
    subst q1; subst q2
    rw [hpg] at ho ⊢
    exact h A c w' k ho)
set_option maxHeartbeats 4000000 in
theorem shows_any (hT : Tab w bT bL fs) (hM : RT w bM bO bH bB fs) (hok : ∀ x ∈ fs, x.ow = 0 ∨ envB x.ow = true) (h : ∀ w', Kp [] w w' → R (.returned (.bool true)) w') :
    Calls Try.prog 23 #[.pointer (some ⟨bT, 0, none⟩), .pointer (some ⟨bM, 0, none⟩)] w R := by
  have H := Lib.hid h
  have HT := Lib.hid hT
  have HM := Lib.hid hM
  have HK := Lib.hid hok
  have hn := hT.n1
  obtain ⟨c0, c1, c2, ht⟩ := hM.t
  have HTT := Lib.hid ht
  have q0 := ht.cell 0
  simp only [List.getElem?_cons_zero] at q0
  clear h hT hM hok ht
  go_enter Try.func23, Try.ntmps23
  go_wp2_with fail
  refine wp_region_kp (by kernel_rfl) (by kernel_rfl) ?_
  repeat (quiet_step (first | (go_at_call 57; (refine size_any (HT.out.kp (kpw_kp _ _) (by simp) (by simp)) ?_); exact ⟨rfl, _, rfl⟩) | (go_at_call 60; (refine count_any (HT.out.kp (kpw_kp _ _) (by simp) (by simp)) ?_); exact ⟨rfl, _, rfl⟩) | (go_at_call 61; (refine rcount_any (HM.out.kp (kpw_kp _ _) (by simp) (by simp) (by simp) (by simp)) ?_); exact ⟨rfl, _, rfl⟩)))
  refine wpQuiet_nil ?_
  intro w1 k1
  go_wp2
  clear q0
  go_loopw [5] (fun iv wr => ∃ k : Nat, k ≤ fs.length ∧ iv = .int .i64 k ∧ Kp [] w wr) (fun iv _ => fs.length - (intOf iv).toNat)
  case atStart => exact ⟨0, Nat.zero_le _, rfl, k1⟩
  case round =>
    obtain ⟨k, hk, rfl, kr⟩ := hrel
    have tr := HT.out.kp kr (by simp) (by simp)
    have mr := HM.out.kp kr (by simp) (by simp) (by simp) (by simp)
    have htr := HTT.out.kp kr (by simp)
    have q0 := htr.cell 0
    have q1 := htr.cell 1
    have q2 := htr.cell 2
    simp only [List.getElem?_cons_zero, List.getElem?_cons_succ] at q0 q1 q2
    have TR := Lib.hid tr
    have MR := Lib.hid mr
    clear htr tr mr
    by_cases hlt : k < fs.length
    · obtain ⟨x, hx⟩ : ∃ x, fs[k]? = some x := ⟨_, List.getElem?_eq_getElem hlt⟩
      have x0 := MR.out.ow hx
      have x1 := MR.out.ho hx
      have x2 := MR.out.bs hx
      have HX := Lib.hid hx
      have hox := HK.out x (List.mem_of_getElem? hx)
      clear hx
      go_wp2_with fail
      refine wp_region_kp (by kernel_rfl) (by kernel_rfl) ?_
      repeat (quiet_step (first | (go_at_call 58; (refine owner_at (TR.out.kp (kpw_kp _ _) (by simp) (by simp)) HX.out ?_); exact ⟨rfl, _, rfl⟩) | (go_at_call 62; (refine holds_at (TR.out.kp (kpw_kp _ _) (by simp) (by simp)) HX.out ?_); exact ⟨rfl, _, rfl⟩)))
      refine wpQuiet_nil ?_
      intro w2 k2
      have y0 := (k2.cell (p := ⟨bM, 0, none⟩) (World.block_lt_of_cell? wr _ q0) (by simp)).trans q0
      have y1 := (k2.cell (p := ⟨bO, k, none⟩) (World.block_lt_of_cell? wr _ x0) (by simp)).trans x0
      have t2 := TR.out.kp k2 (by simp) (by simp)
      have T2 := Lib.hid t2
      clear t2
      cases hb : (x.ow == 0)
      · have hen : envB x.ow = true := hox.resolve_left (by simpa using hb)
        go_wp2_with (go_at_call 34; ((refine read_at T2.out HX.out hen ?_); intro A3 c3 w3 k3 ho3; have cv3 := fun k => conv_bsN (c := c3) (ho3.rd (N := []) (by simp)) (T2.out.pgAt HX.out) k))
        have u2 := (k3.cell (p := ⟨bM, 2, none⟩) (World.block_lt_of_cell? w2 _ ((k2.cell (p := ⟨bM, 2, none⟩) (World.block_lt_of_cell? wr _ q2) (by simp)).trans q2)) (by simp)).trans ((k2.cell (p := ⟨bM, 2, none⟩) (World.block_lt_of_cell? wr _ q2) (by simp)).trans q2)
        have u3 := (k3.cell (p := ⟨bB, k, none⟩) (World.block_lt_of_cell? w2 _ ((k2.cell (p := ⟨bB, k, none⟩) (World.block_lt_of_cell? wr _ x2) (by simp)).trans x2)) (by simp)).trans ((k2.cell (p := ⟨bB, k, none⟩) (World.block_lt_of_cell? wr _ x2) (by simp)).trans x2)
        go_quiet (fail)
        go_wp2
        exact ⟨⟨k + 1, by omega, by go_num, ((kr.trans k2).trans k3).drewN _⟩, by simp [intOf]; omega⟩
      · go_wp2
        exact ⟨⟨k + 1, by omega, by go_num, kr.trans k2⟩, by simp [intOf]; omega⟩
    · obtain rfl : k = fs.length := by omega
      go_wp2_with fail
      refine wp_region_kp (by kernel_rfl) (by kernel_rfl) ?_
      repeat (quiet_step (first | (go_at_call 58; (refine owner_out (TR.out.kp (kpw_kp _ _) (by simp) (by simp)) (by omega) ?_); exact ⟨rfl, _, rfl⟩) | (go_at_call 62; (refine holds_out (TR.out.kp (kpw_kp _ _) (by simp) (by simp)) (by omega) ?_); exact ⟨rfl, _, rfl⟩)))
      refine wpQuiet_nil ?_
      intro w2 k2
      go_wp2
      exact H.out _ (kr.trans k2)
end
end Go.Proofs.Ythlmfjfkkndboaa
