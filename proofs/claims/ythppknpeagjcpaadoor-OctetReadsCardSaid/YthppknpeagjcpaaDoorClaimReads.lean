/- OctetReads answers true whatever bytes and calls come in: no condition but that the listed tables of the library's lie as its text lays them. -/
import Derived.Test.YthppknpeagjcpaaDoorLawReads
import Derived.Test.YthppknpeagjcpaaDoorOctC
import Derived.Test.YthppknpeagjcpaaDoorOctD
import Derived.Test.YthppknpeagjcpaaDoorOpen
import Derived.Test.YthppknpeagjcpaaDoorCard
import Derived.Test.YthppknpeagjcpaaDoorCards
import Derived.Test.YthppknpeagjcpaaDoorTie
import Derived.SevenTiedAt
namespace Go.Proofs.YthppknpeagjcpaaDoor.octetReads
open Go.ChangeShapes Go.WideShapes Go.ChangeAt Go.RowKit
open Go.ChangeMaps (open_string shut_string)
set_option linter.unusedVariables false
set_option linter.unusedSimpArgs false

theorem own : ownKnob Tryd.prog.godebug = none := by kernel_rfl
set_option maxRecDepth 100000 in
theorem lifted (os : Os) (started : os.Started) (H : Type) (enc : TypeId × Value → H) :
    ReturnsInHanded {} Tryd.checked os 12 .any (fun w args => (Rows.octetReadsSpec.pre enc Tryd.prog Tryd.f12 Rows.octetReadsRow.domain false w args ∧ laidMetH Tryd.prog Rows.octetReadsRow.laid w) ∧ sizedMet enc Tryd.prog Tryd.f12 (OpenSpec.ofChange Rows.octetReadsSpec) false w args) (Rows.octetReadsSpec.post enc Tryd.prog Tryd.f12 false true false false) := by
  refine handed_cs (C := Tryd.checked) (X := fun w _ => laidMetH Tryd.prog Rows.octetReadsRow.laid w) (fun _ _ _ hh h => h.of_heap hh) own started (by kernel_rfl) Tryd.func12
    (ChangeSpec.witness_shaped (enc := enc) (C := Tryd.checked) (os := os) (X := fun w _ => laidMetH Tryd.prog Rows.octetReadsRow.laid w) false (World.laidAll Tryd.prog os Rows.octetReadsRow.laid) #[.slice none 0 0, .slice none 0 0] 8 (World.laidAll_os _ _ _)
      (World.shaped_of_ZipB (by kernel_rfl) (by kernel_rfl)) (by kernel_rfl) (by kernel_rfl) (by kernel_rfl)
      (by rw [MakeChecks.laidMetH_plain _ _ _ (by kernel_rfl)]; exact laidMet_laidAll _ (by kernel_rfl) (by kernel_rfl))) ?_
  intro W base args ds gs before hval0 hW hsz hL hsh
  have hval : ∀ (j : Nat) t v, Tryd.f12.params[j]? = some t → args[j]? = some v → Value.okWide Tryd.prog W .any base t v := hval0
  have hW' := hW
  obtain ⟨p, q, hA0, hV, rfl, hfz, hnd⟩ := hW
  have hA : DataW.TrodAll enc Tryd.prog W 0 (fun _ => true) true Tryd.f12.params.toList args.toList ds p := hA0
  rw [Tryd.params12] at hA hval
  obtain ⟨v0, vs0, d0, ds0, p0, q0, hargs, rfl, rfl, h0, r0⟩ := trodAll_cons hA
  obtain ⟨v1, vs1, d1, ds1, p1, q1, rfl, rfl, rfl, h1, r1⟩ := trodAll_cons r0
  obtain ⟨rfl, rfl, rfl⟩ := trodAll_nil r1
  obtain rfl : args = #[v0, v1] := by cases args; simp_all
  obtain ⟨rfl, rfl⟩ := trodVars_none hV
  obtain ⟨a0, rfl, w0⟩ := top_slice Tryd.underlying36 (opn_slice (K := 1) (vals := fun c : UInt8 => [Value.int .u8 c.toNat]) (ok := fun _ => True) Tryd.underlying36 (by kernel_rfl) (fun _ => rfl) (opn_u8 Tryd.underlying5)) (hval 0 _ v0 rfl rfl) h0
  obtain ⟨a1, rfl, w1⟩ := top_slice Tryd.underlying45 (opn_slice (K := 2) (vals := EAct.vals) (ok := fun _ => True) Tryd.underlying45 (by kernel_rfl) (fun _ => rfl) opn_act) (hval 1 _ v1 rfl rfl) h1
  clear hA0 hval0
  have hrd : Rd W [] a0.A (bts a0.l) := by have := w0.rd; rwa [flat_bts] at this
  refine (law_calls fun R hR => reads_walk _ _ _ a0.l _ _ _ a1.l _ hrd w0.len w1.rd w1.len (lw_of hL hsh) hR).mono fun e W' ⟨he, hg⟩ => ?_
  subst he
  exact ⟨_, rfl, law_post (tb := 4) (by kernel_rfl) (by rw [Tryd.params12]; decide +kernel) rfl Tryd.underlying4 rfl rfl rfl rfl hW' hg⟩
theorem over : Rows.octetReadsRow.holds Tryd.pinned (OpenSpec.ofChange Rows.octetReadsSpec) :=
  OpenClaim.holds_of_wide 12 Tryd.f12 rfl rfl rfl rfl rfl rfl rfl ⟨rfl, rfl, rfl, rfl, rfl⟩ rfl rfl rfl rfl rfl (by kernel_rfl) Tryd.func12 (by kernel_rfl)
    (of_decide_eq_true (by kernel_rfl)) (by unfold Func.isWrapper; first | (rw [if_pos (by decide +kernel)]; kernel_rfl) | (rw [if_neg (by decide +kernel)]; exact ⟨rfl, rfl⟩))
    (fun os started H enc _ => lifted os started H enc)
theorem proved : Rows.OctetReadsCardSaid :=
  Claim7.holds_tied_plain_at .later [] [.data, .data, .data, .data, .pinned] true (true, "9a406efe5fc74f9ef15ee5f29a82841a84f56589ba0d2ee56553af274ca774e6") false over (fun _ h => by cases h) (by kernel_rfl) (fun _ h => by cases h) octetReads_row_tie rfl ⟨rfl, rfl⟩ (by kernel_rfl) rfl
    (fun f fn hf hfn => by
      obtain rfl : f = 12 := Option.some.inj ((show Tryd.prog.funcNamed Rows.octetReadsRow.func = some 12 by kernel_rfl).symm.trans hf) |>.symm
      obtain rfl : fn = Tryd.f12 := (Option.some.inj (Tryd.func12.symm.trans hfn)).symm
      exact ⟨by kernel_rfl, fun j t ht => by
        rw [Tryd.params12] at ht
        have hm : t ∈ [36, 45] := by simpa using Array.mem_of_getElem? ht
        have hall : ([36, 45].all fun u => !Tryd.prog.wantsStandIn u) = true := by kernel_rfl
        exact (show Tryd.prog.wantsStandIn t = false by simpa using List.all_eq_true.1 hall t hm)⟩)
    (by kernel_rfl)
end Go.Proofs.YthppknpeagjcpaaDoor.octetReads
