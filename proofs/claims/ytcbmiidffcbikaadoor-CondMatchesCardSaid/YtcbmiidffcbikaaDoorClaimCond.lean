/- CondMatches answers true whatever list and numbers come in: no condition but that the listed tables of the library's lie as its text lays them. -/
import Derived.Test.YtcbmiidffcbikaaDoorLawCond
import Derived.Test.YtcbmiidffcbikaaDoorRngC
import Derived.Test.YtcbmiidffcbikaaDoorOpen
import Derived.Test.YtcbmiidffcbikaaDoorCard
import Derived.Test.YtcbmiidffcbikaaDoorCards
import Derived.Test.YtcbmiidffcbikaaDoorTie
import Derived.SevenTiedAt
namespace Go.Proofs.YtcbmiidffcbikaaDoor.condMatches
open Go.ChangeShapes Go.WideShapes Go.ChangeAt Go.RowKit
open Go.ChangeMaps (open_string shut_string)
set_option linter.unusedVariables false
set_option linter.unusedSimpArgs false

theorem own : ownKnob Tryd.prog.godebug = none := by kernel_rfl
set_option maxRecDepth 100000 in
theorem lifted (os : Os) (started : os.Started) (H : Type) (enc : TypeId × Value → H) :
    ReturnsInHanded {} Tryd.checked os 7 .any (fun w args => (Rows.condMatchesSpec.pre enc Tryd.prog Tryd.f7 Rows.condMatchesRow.domain false w args ∧ laidMetH Tryd.prog Rows.condMatchesRow.laid w) ∧ sizedMet enc Tryd.prog Tryd.f7 (OpenSpec.ofChange Rows.condMatchesSpec) false w args) (Rows.condMatchesSpec.post enc Tryd.prog Tryd.f7 false true false false) := by
  refine handed_cs (C := Tryd.checked) (X := fun w _ => laidMetH Tryd.prog Rows.condMatchesRow.laid w) (fun _ _ _ hh h => h.of_heap hh) own started (by kernel_rfl) Tryd.func7
    (ChangeSpec.witness_shaped (enc := enc) (C := Tryd.checked) (os := os) (X := fun w _ => laidMetH Tryd.prog Rows.condMatchesRow.laid w) false (World.laidAll Tryd.prog os Rows.condMatchesRow.laid) #[.string ByteArray.empty, .int .u32 0, .int .u32 0, .bool false] 8 (World.laidAll_os _ _ _)
      (World.shaped_of_ZipB (by kernel_rfl) (by kernel_rfl)) (by kernel_rfl) (by kernel_rfl) (by kernel_rfl)
      (by rw [MakeChecks.laidMetH_plain _ _ _ (by kernel_rfl)]; exact laidMet_laidAll _ (by kernel_rfl) (by kernel_rfl))) ?_
  intro W base args ds gs before hval0 hW hsz hL hsh
  have hval : ∀ (j : Nat) t v, Tryd.f7.params[j]? = some t → args[j]? = some v → Value.okWide Tryd.prog W .any base t v := hval0
  have hW' := hW
  obtain ⟨p, q, hA0, hV, rfl, hfz, hnd⟩ := hW
  have hA : DataW.TrodAll enc Tryd.prog W 0 (fun _ => true) true Tryd.f7.params.toList args.toList ds p := hA0
  rw [Tryd.params7] at hA hval
  obtain ⟨v0, vs0, d0, ds0, p0, q0, hargs, rfl, rfl, h0, r0⟩ := trodAll_cons hA
  obtain ⟨v1, vs1, d1, ds1, p1, q1, rfl, rfl, rfl, h1, r1⟩ := trodAll_cons r0
  obtain ⟨v2, vs2, d2, ds2, p2, q2, rfl, rfl, rfl, h2, r2⟩ := trodAll_cons r1
  obtain ⟨v3, vs3, d3, ds3, p3, q3, rfl, rfl, rfl, h3, r3⟩ := trodAll_cons r2
  obtain ⟨rfl, rfl, rfl⟩ := trodAll_nil r3
  obtain rfl : args = #[v0, v1, v2, v3] := by cases args; simp_all
  obtain ⟨rfl, rfl⟩ := trodVars_none hV
  obtain ⟨a0, rfl, rfl, rfl, w0⟩ := open_string Tryd.underlying9 (hval 0 _ v0 rfl rfl) h0
  unfold maxLen at w0
  obtain ⟨a1, rfl, rfl, rfl, w1⟩ := open_int Tryd.underlying36 (hval 1 _ v1 rfl rfl) h1
  have b1 := bounds_u32 w1
  obtain ⟨a2, rfl, rfl, rfl, w2⟩ := open_int Tryd.underlying36 (hval 2 _ v2 rfl rfl) h2
  have b2 := bounds_u32 w2
  obtain ⟨a3, rfl, rfl, rfl⟩ := open_bool Tryd.underlying4 (hval 3 _ v3 rfl rfl) h3
  clear hA0 hval0
  have z0 := sized_string hsz (j := 0) (t := 9) (by rw [Tryd.params7]; rfl) rfl
  have zr := reachBytes_lt
  rw [S_eta a0]
  refine (law_calls fun R hR => cond_walk _ _ _ _ _ (by omega) (by omega) (by omega) (by omega) (by omega) (lw_cond hL hsh) hR).mono fun e W' ⟨he, hg⟩ => ?_
  subst he
  exact ⟨_, rfl, law_post (tb := 4) (by kernel_rfl) (by rw [Tryd.params7]; decide +kernel) rfl Tryd.underlying4 rfl rfl rfl rfl hW' hg⟩
theorem over : Rows.condMatchesRow.holds Tryd.pinned (OpenSpec.ofChange Rows.condMatchesSpec) :=
  OpenClaim.holds_of_wide 7 Tryd.f7 rfl rfl rfl rfl rfl rfl rfl ⟨rfl, rfl, rfl, rfl, rfl⟩ rfl rfl rfl rfl rfl (by kernel_rfl) Tryd.func7 (by kernel_rfl)
    (of_decide_eq_true (by kernel_rfl)) (by unfold Func.isWrapper; first | (rw [if_pos (by decide +kernel)]; kernel_rfl) | (rw [if_neg (by decide +kernel)]; exact ⟨rfl, rfl⟩))
    (fun os started H enc _ => lifted os started H enc)
theorem proved : Rows.CondMatchesCardSaid :=
  Claim7.holds_tied_plain_at .later [] [.data, .data, .data, .data, .pinned] true (true, "d031141c55902c0c8b5cca9c55ad911b4090b9a5db1eaf6676daf214a8d5711b") false over (fun _ h => by cases h) (by kernel_rfl) (fun _ h => by cases h) condMatches_row_tie rfl ⟨rfl, rfl⟩ (by kernel_rfl) rfl
    (fun f fn hf hfn => by
      obtain rfl : f = 7 := Option.some.inj ((show Tryd.prog.funcNamed Rows.condMatchesRow.func = some 7 by kernel_rfl).symm.trans hf) |>.symm
      obtain rfl : fn = Tryd.f7 := (Option.some.inj (Tryd.func7.symm.trans hfn)).symm
      exact ⟨by kernel_rfl, fun j t ht => by
        rw [Tryd.params7] at ht
        have hm : t ∈ [9, 36, 36, 4] := by simpa using Array.mem_of_getElem? ht
        have hall : ([9, 36, 36, 4].all fun u => !Tryd.prog.wantsStandIn u) = true := by kernel_rfl
        exact (show Tryd.prog.wantsStandIn t = false by simpa using List.all_eq_true.1 hall t hm)⟩)
    (by kernel_rfl)
end Go.Proofs.YtcbmiidffcbikaaDoor.condMatches
