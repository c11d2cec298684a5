/- InodeBack answers true whatever root, entries, file, place and turn come in: no condition but that the listed tables of the library's lie as its text lays them. -/
import Derived.Test.YtnpkfhnhcadgeaaDoorIn21
import Derived.Test.YtnpkfhnhcadgeaaDoorOpen
import Derived.Test.YtnpkfhnhcadgeaaDoorCard
import Derived.Test.YtnpkfhnhcadgeaaDoorCards
import Derived.Test.YtnpkfhnhcadgeaaDoorTie
import Derived.SevenTiedAt
namespace Go.Proofs.YtnpkfhnhcadgeaaDoor.inodeBack
open Go.ChangeShapes Go.WideShapes Go.ChangeAt Go.RowKit
open Go.ChangeMaps (open_string shut_string)
set_option linter.unusedVariables false
set_option linter.unusedSimpArgs false

theorem own : ownKnob Tryd.prog.godebug = none := by kernel_rfl
set_option maxRecDepth 100000 in
theorem lifted (os : Os) (started : os.Started) (H : Type) (enc : TypeId × Value → H) :
    ReturnsInHanded {} Tryd.checked os 4 .any (fun w args => (Rows.inodeBackSpec.pre enc Tryd.prog Tryd.f4 Rows.inodeBackRow.domain false w args ∧ laidMetH Tryd.prog Rows.inodeBackRow.laid w) ∧ sizedMet enc Tryd.prog Tryd.f4 (OpenSpec.ofChange Rows.inodeBackSpec) false w args) (Rows.inodeBackSpec.post enc Tryd.prog Tryd.f4 false true false false) := by
  refine handed_cs (C := Tryd.checked) (X := fun w _ => laidMetH Tryd.prog Rows.inodeBackRow.laid w) (fun _ _ _ hh h => h.of_heap hh) own started (by kernel_rfl) Tryd.func4
    (ChangeSpec.witness_shaped (enc := enc) (C := Tryd.checked) (os := os) (X := fun w _ => laidMetH Tryd.prog Rows.inodeBackRow.laid w) false (World.laidAll Tryd.prog os Rows.inodeBackRow.laid) #[.agg #[.int .i64 0, .slice none 0 0], .slice none 0 0, .agg #[.int .i64 0, .int .i64 0, .int .i64 0, .slice none 0 0, .slice none 0 0], .int .u8 0, .int .u8 0] 8 (World.laidAll_os _ _ _)
      (World.shaped_of_ZipB (by kernel_rfl) (by kernel_rfl)) (by kernel_rfl) (by kernel_rfl) (by kernel_rfl)
      (by rw [MakeChecks.laidMetH_plain _ _ _ (by kernel_rfl)]; exact laidMet_laidAll _ (by kernel_rfl) (by kernel_rfl))) ?_
  intro W base args ds gs before hval0 hW hsz hL hsh
  have hval : ∀ (j : Nat) t v, Tryd.f4.params[j]? = some t → args[j]? = some v → Value.okWide Tryd.prog W .any base t v := hval0
  have hW' := hW
  obtain ⟨p, q, hA0, hV, rfl, hfz, hnd⟩ := hW
  have hA : DataW.TrodAll enc Tryd.prog W 0 (fun _ => true) true Tryd.f4.params.toList args.toList ds p := hA0
  rw [Tryd.params4] at hA hval
  obtain ⟨v0, vs0, d0, ds0, p0, q0, hargs, rfl, rfl, h0, r0⟩ := trodAll_cons hA
  obtain ⟨v1, vs1, d1, ds1, p1, q1, rfl, rfl, rfl, h1, r1⟩ := trodAll_cons r0
  obtain ⟨v2, vs2, d2, ds2, p2, q2, rfl, rfl, rfl, h2, r2⟩ := trodAll_cons r1
  obtain ⟨v3, vs3, d3, ds3, p3, q3, rfl, rfl, rfl, h3, r3⟩ := trodAll_cons r2
  obtain ⟨v4, vs4, d4, ds4, p4, q4, rfl, rfl, rfl, h4, r4⟩ := trodAll_cons r3
  obtain ⟨rfl, rfl, rfl⟩ := trodAll_nil r4
  obtain rfl : args = #[v0, v1, v2, v3, v4] := by cases args; simp_all
  obtain ⟨rfl, rfl⟩ := trodVars_none hV
  obtain ⟨a0, rfl, w0⟩ := top_agg Tryd.underlying39 (opn_root11) (hval 0 _ v0 rfl rfl) h0
  obtain ⟨a1, rfl, w1⟩ := top_slice Tryd.underlying40 (opn_dents) (hval 1 _ v1 rfl rfl) h1
  obtain ⟨a2, rfl, w2⟩ := top_agg Tryd.underlying43 (opn_file11) (hval 2 _ v2 rfl rfl) h2
  obtain ⟨a3, rfl, rfl, rfl, w3⟩ := open_int Tryd.underlying5 (hval 3 _ v3 rfl rfl) h3
  have b3 := bounds_u8 w3
  obtain ⟨a4, rfl, rfl, rfl, w4⟩ := open_int Tryd.underlying5 (hval 4 _ v4 rfl rfl) h4
  have b4 := bounds_u8 w4
  clear hA0 hval0
  refine (law_calls fun R hR => iback_top a0 w0 a1 w1 a2 w2 a3 a4 (by omega) (by omega) (ml_of_shape hsh) hR).mono fun e W' ⟨he, hg⟩ => ?_
  subst he
  exact ⟨_, rfl, law_post (tb := 4) (by kernel_rfl) (by rw [Tryd.params4]; decide +kernel) rfl Tryd.underlying4 rfl rfl rfl rfl hW' hg⟩
theorem over : Rows.inodeBackRow.holds Tryd.pinned (OpenSpec.ofChange Rows.inodeBackSpec) :=
  OpenClaim.holds_of_wide 4 Tryd.f4 rfl rfl rfl rfl rfl rfl rfl ⟨rfl, rfl, rfl, rfl, rfl⟩ rfl rfl rfl rfl rfl (by kernel_rfl) Tryd.func4 (by kernel_rfl)
    (of_decide_eq_true (by kernel_rfl)) (by unfold Func.isWrapper; first | (rw [if_pos (by decide +kernel)]; kernel_rfl) | (rw [if_neg (by decide +kernel)]; exact ⟨rfl, rfl⟩))
    (fun os started H enc _ => lifted os started H enc)
theorem proved : Rows.InodeBackCardSaid :=
  Claim7.holds_tied_plain_at .later [] [.data, .pinned] true (true, "739150098d5172cae517de61a65796aed09a2b4257912cab488bbf758b096d51") false over (fun _ h => by cases h) (by kernel_rfl) (fun _ h => by cases h) inodeBack_row_tie rfl ⟨rfl, rfl⟩ (by kernel_rfl) rfl
    (fun f fn hf hfn => by
      obtain rfl : f = 4 := Option.some.inj ((show Tryd.prog.funcNamed Rows.inodeBackRow.func = some 4 by kernel_rfl).symm.trans hf) |>.symm
      obtain rfl : fn = Tryd.f4 := (Option.some.inj (Tryd.func4.symm.trans hfn)).symm
      exact ⟨by kernel_rfl, fun j t ht => by
        rw [Tryd.params4] at ht
        have hm : t ∈ [39, 40, 43, 5, 5] := by simpa using Array.mem_of_getElem? ht
        have hall : ([39, 40, 43, 5, 5].all fun u => !Tryd.prog.wantsStandIn u) = true := by kernel_rfl
        exact (show Tryd.prog.wantsStandIn t = false by simpa using List.all_eq_true.1 hall t hm)⟩)
    (by kernel_rfl)
end Go.Proofs.YtnpkfhnhcadgeaaDoor.inodeBack
