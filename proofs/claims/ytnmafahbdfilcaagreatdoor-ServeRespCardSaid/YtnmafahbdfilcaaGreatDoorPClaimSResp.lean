/- ServeResp answers true whatever bytes, however cut, table and second come in: no condition but that the listed tables of the library's lie as its text lays them. -/
import Derived.Test.YtnmafahbdfilcaaGreatDoorPC38
import Derived.Test.YtnmafahbdfilcaaGreatDoorPC1
import Derived.Test.YtnmafahbdfilcaaGreatDoorCards
import Derived.Test.YtnmafahbdfilcaaGreatDoorTie
import Derived.SevenTiedAt
namespace Go.Proofs.YtnmafahbdfilcaaGreatDoor.serveResp
open Go.ChangeShapes Go.WideShapes Go.ChangeAt Go.RowKit
open Go.ChangeMaps (open_string shut_string)
set_option linter.unusedVariables false
set_option linter.unusedSimpArgs false

theorem own : ownKnob Tryz.prog.godebug = none := by kernel_rfl
set_option maxRecDepth 100000 in
theorem lifted (os : Os) (started : os.Started) (H : Type) (enc : TypeId × Value → H) :
    ReturnsInHanded {} Tryz.checked os 5 .any (fun w args => (Rows.serveRespSpec.pre enc Tryz.prog Tryz.f5 Rows.serveRespRow.domain false w args ∧ laidMetH Tryz.prog Rows.serveRespRow.laid w) ∧ sizedMet enc Tryz.prog Tryz.f5 (OpenSpec.ofChange Rows.serveRespSpec) false w args) (Rows.serveRespSpec.post enc Tryz.prog Tryz.f5 false true false false) := by
  refine handed_cs (C := Tryz.checked) (X := fun w _ => laidMetH Tryz.prog Rows.serveRespRow.laid w) (fun _ _ _ hh h => h.of_heap hh) own started (by kernel_rfl) Tryz.func5
    (ChangeSpec.witness_shaped (enc := enc) (C := Tryz.checked) (os := os) (X := fun w _ => laidMetH Tryz.prog Rows.serveRespRow.laid w) false (World.laidAll Tryz.prog os Rows.serveRespRow.laid) #[.slice none 0 0, .slice none 0 0, .int .i64 0] 8 (World.laidAll_os _ _ _)
      (World.shaped_of_ZipB (by kernel_rfl) (by kernel_rfl)) (by kernel_rfl) (by kernel_rfl) (by kernel_rfl)
      (by rw [MakeChecks.laidMetH_plain _ _ _ (by kernel_rfl)]; exact laidMet_laidAll _ (by kernel_rfl) (by kernel_rfl))) ?_
  intro W base args ds gs before hval0 hW hsz hL hsh
  have hval : ∀ (j : Nat) t v, Tryz.f5.params[j]? = some t → args[j]? = some v → Value.okWide Tryz.prog W .any base t v := hval0
  have hW' := hW
  obtain ⟨p, q, hA0, hV, rfl, hfz, hnd⟩ := hW
  have hA : DataW.TrodAll enc Tryz.prog W 0 (fun _ => true) true Tryz.f5.params.toList args.toList ds p := hA0
  rw [Tryz.params5] at hA hval
  obtain ⟨v0, vs0, d0, ds0, p0, q0, hargs, rfl, rfl, h0, r0⟩ := trodAll_cons hA
  obtain ⟨v1, vs1, d1, ds1, p1, q1, rfl, rfl, rfl, h1, r1⟩ := trodAll_cons r0
  obtain ⟨v2, vs2, d2, ds2, p2, q2, rfl, rfl, rfl, h2, r2⟩ := trodAll_cons r1
  obtain ⟨rfl, rfl, rfl⟩ := trodAll_nil r2
  obtain rfl : args = #[v0, v1, v2] := by cases args; simp_all
  obtain ⟨rfl, rfl⟩ := trodVars_none hV
  obtain ⟨a0, rfl, w0⟩ := top_sliceW Tryz.underlying46 (opnW_slice (K := 1) (vals := fun s : ByteArray => [Value.string s]) (ok := fun s => s.size ≤ reachBytes) Tryz.underlying46 (by kernel_rfl) (fun _ => rfl) (opnW_string Tryz.underlying9)) (hval 0 _ v0 rfl rfl) h0 (sized_at hsz (j := 0) (t := 46) (by rw [Tryz.params5]; rfl) rfl)
  obtain ⟨a1, rfl, w1⟩ := top_slice Tryz.underlying47 (opn_slice (K := 4) (vals := FlA.vals) (ok := fun x => i64F x.v ∧ i64F x.mt) Tryz.underlying47 (by kernel_rfl) (fun _ => rfl) opn_file28) (hval 1 _ v1 rfl rfl) h1
  obtain ⟨a2, rfl, rfl, rfl, w2⟩ := open_int Tryz.underlying2 (hval 2 _ v2 rfl rfl) h2
  have b2 := bounds_i64 w2
  clear hA0 hval0
  have zr := reachBytes_lt
  refine (law_calls fun R hR => sresp_top a0 a1 _ w0 w1 (lw_sresp hL hsh) hR).mono fun e W' ⟨he, hg⟩ => ?_
  subst he
  exact ⟨_, rfl, law_post (tb := 4) (by kernel_rfl) (by rw [Tryz.params5]; decide +kernel) rfl Tryz.underlying4 rfl rfl rfl rfl hW' hg⟩
theorem over : Rows.serveRespRow.holds Tryz.pinned (OpenSpec.ofChange Rows.serveRespSpec) :=
  OpenClaim.holds_of_wide 5 Tryz.f5 rfl rfl rfl rfl rfl rfl rfl ⟨rfl, rfl, rfl, rfl, rfl⟩ rfl rfl rfl rfl rfl (by kernel_rfl) Tryz.func5 (by kernel_rfl)
    (of_decide_eq_true (by kernel_rfl)) (by unfold Func.isWrapper; first | (rw [if_pos (by decide +kernel)]; kernel_rfl) | (rw [if_neg (by decide +kernel)]; exact ⟨rfl, rfl⟩))
    (fun os started H enc _ => lifted os started H enc)
theorem proved : Rows.ServeRespCardSaid :=
  Claim7.holds_tied_plain_at .later [] [.data, .data, .data, .data, .pinned] true (true, "7d653aaa14e757305a4993a9ba9f808f8cef805df7be0949f6b50116da2d2452") false over (fun _ h => by cases h) (by kernel_rfl) (fun _ h => by cases h) serveResp_row_tie rfl ⟨rfl, rfl⟩ (by kernel_rfl) rfl
    (fun f fn hf hfn => by
      obtain rfl : f = 5 := Option.some.inj ((show Tryz.prog.funcNamed Rows.serveRespRow.func = some 5 by kernel_rfl).symm.trans hf) |>.symm
      obtain rfl : fn = Tryz.f5 := (Option.some.inj (Tryz.func5.symm.trans hfn)).symm
      exact ⟨by kernel_rfl, fun j t ht => by
        rw [Tryz.params5] at ht
        have hm : t ∈ [46, 47, 2] := by simpa using Array.mem_of_getElem? ht
        have hall : ([46, 47, 2].all fun u => !Tryz.prog.wantsStandIn u) = true := by kernel_rfl
        exact (show Tryz.prog.wantsStandIn t = false by simpa using List.all_eq_true.1 hall t hm)⟩)
    (by kernel_rfl)
end Go.Proofs.YtnmafahbdfilcaaGreatDoor.serveResp
