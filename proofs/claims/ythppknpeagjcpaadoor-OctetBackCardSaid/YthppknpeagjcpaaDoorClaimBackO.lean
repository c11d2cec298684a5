/- OctetBack answers true whatever comes in: no condition but that the listed tables of the library's lie as its text lays them. -/
import Derived.Test.YthppknpeagjcpaaDoorLawBackO
import Derived.Test.YthppknpeagjcpaaDoorOctC
import Derived.Test.YthppknpeagjcpaaDoorOctD
import Derived.Test.YthppknpeagjcpaaDoorOpen
import Derived.Test.YthppknpeagjcpaaDoorCard
import Derived.Test.YthppknpeagjcpaaDoorCards
import Derived.Test.YthppknpeagjcpaaDoorTie
import Derived.SevenTiedAt
namespace Go.Proofs.YthppknpeagjcpaaDoor.octetBack
open Go.ChangeShapes Go.WideShapes Go.ChangeAt Go.RowKit
open Go.ChangeMaps (open_string shut_string)
set_option linter.unusedVariables false
set_option linter.unusedSimpArgs false

theorem own : ownKnob Tryd.prog.godebug = none := by kernel_rfl
set_option maxRecDepth 100000 in
theorem lifted (os : Os) (started : os.Started) (H : Type) (enc : TypeId × Value → H) :
    ReturnsInHanded {} Tryd.checked os 13 .any (fun w args => (Rows.octetBackSpec.pre enc Tryd.prog Tryd.f13 Rows.octetBackRow.domain false w args ∧ laidMetH Tryd.prog Rows.octetBackRow.laid w) ∧ sizedMet enc Tryd.prog Tryd.f13 (OpenSpec.ofChange Rows.octetBackSpec) false w args) (Rows.octetBackSpec.post enc Tryd.prog Tryd.f13 false true false false) := by
  refine handed_cs (C := Tryd.checked) (X := fun w _ => laidMetH Tryd.prog Rows.octetBackRow.laid w) (fun _ _ _ hh h => h.of_heap hh) own started (by kernel_rfl) Tryd.func13
    (ChangeSpec.witness_shaped (enc := enc) (C := Tryd.checked) (os := os) (X := fun w _ => laidMetH Tryd.prog Rows.octetBackRow.laid w) false (World.laidAll Tryd.prog os Rows.octetBackRow.laid) #[.int .u64 0, .int .i64 0, .int .u32 0, .slice none 0 0] 8 (World.laidAll_os _ _ _)
      (World.shaped_of_ZipB (by kernel_rfl) (by kernel_rfl)) (by kernel_rfl) (by kernel_rfl) (by kernel_rfl)
      (by rw [MakeChecks.laidMetH_plain _ _ _ (by kernel_rfl)]; exact laidMet_laidAll _ (by kernel_rfl) (by kernel_rfl))) ?_
  intro W base args ds gs before hval0 hW hsz hL hsh
  have hval : ∀ (j : Nat) t v, Tryd.f13.params[j]? = some t → args[j]? = some v → Value.okWide Tryd.prog W .any base t v := hval0
  have hW' := hW
  obtain ⟨p, q, hA0, hV, rfl, hfz, hnd⟩ := hW
  have hA : DataW.TrodAll enc Tryd.prog W 0 (fun _ => true) true Tryd.f13.params.toList args.toList ds p := hA0
  rw [Tryd.params13] at hA hval
  obtain ⟨v0, vs0, d0, ds0, p0, q0, hargs, rfl, rfl, h0, r0⟩ := trodAll_cons hA
  obtain ⟨v1, vs1, d1, ds1, p1, q1, rfl, rfl, rfl, h1, r1⟩ := trodAll_cons r0
  obtain ⟨v2, vs2, d2, ds2, p2, q2, rfl, rfl, rfl, h2, r2⟩ := trodAll_cons r1
  obtain ⟨v3, vs3, d3, ds3, p3, q3, rfl, rfl, rfl, h3, r3⟩ := trodAll_cons r2
  obtain ⟨rfl, rfl, rfl⟩ := trodAll_nil r3
  obtain rfl : args = #[v0, v1, v2, v3] := by cases args; simp_all
  obtain ⟨rfl, rfl⟩ := trodVars_none hV
  obtain ⟨a0, rfl, rfl, rfl, w0⟩ := open_int Tryd.underlying38 (hval 0 _ v0 rfl rfl) h0
  have b0 := bounds_u64 w0
  obtain ⟨a1, rfl, rfl, rfl, w1⟩ := open_int Tryd.underlying3 (hval 1 _ v1 rfl rfl) h1
  have b1 := bounds_i64 w1
  obtain ⟨a2, rfl, rfl, rfl, w2⟩ := open_int Tryd.underlying35 (hval 2 _ v2 rfl rfl) h2
  have b2 := bounds_u32 w2
  obtain ⟨a3, rfl, w3⟩ := top_slice Tryd.underlying36 (opn_slice (K := 1) (vals := fun c : UInt8 => [Value.int .u8 c.toNat]) (ok := fun _ => True) Tryd.underlying36 (by kernel_rfl) (fun _ => rfl) (opn_u8 Tryd.underlying5)) (hval 3 _ v3 rfl rfl) h3
  clear hA0 hval0
  have hrd : Rd W [] a3.A (bts a3.l) := by have := w3.rd; rwa [flat_bts] at this
  obtain ⟨N, rfl⟩ : ∃ N : Nat, a0 = N := ⟨a0.toNat, by omega⟩
  obtain ⟨a, rfl⟩ : ∃ a : Nat, a2 = a := ⟨a2.toNat, by omega⟩
  refine (law_calls fun R hR => backo_walk _ _ _ N a3.l a1 a _ hrd w3.len (by omega) (by omega) (lw_of hL hsh) hR).mono fun e W' ⟨he, hg⟩ => ?_
  subst he
  exact ⟨_, rfl, law_post (tb := 4) (by kernel_rfl) (by rw [Tryd.params13]; decide +kernel) rfl Tryd.underlying4 rfl rfl rfl rfl hW' hg⟩
theorem over : Rows.octetBackRow.holds Tryd.pinned (OpenSpec.ofChange Rows.octetBackSpec) :=
  OpenClaim.holds_of_wide 13 Tryd.f13 rfl rfl rfl rfl rfl rfl rfl ⟨rfl, rfl, rfl, rfl, rfl⟩ rfl rfl rfl rfl rfl (by kernel_rfl) Tryd.func13 (by kernel_rfl)
    (of_decide_eq_true (by kernel_rfl)) (by unfold Func.isWrapper; first | (rw [if_pos (by decide +kernel)]; kernel_rfl) | (rw [if_neg (by decide +kernel)]; exact ⟨rfl, rfl⟩))
    (fun os started H enc _ => lifted os started H enc)
theorem proved : Rows.OctetBackCardSaid :=
  Claim7.holds_tied_plain_at .later [] [.data, .data, .data, .data, .pinned] true (true, "9a406efe5fc74f9ef15ee5f29a82841a84f56589ba0d2ee56553af274ca774e6") false over (fun _ h => by cases h) (by kernel_rfl) (fun _ h => by cases h) octetBack_row_tie rfl ⟨rfl, rfl⟩ (by kernel_rfl) rfl
    (fun f fn hf hfn => by
      obtain rfl : f = 13 := Option.some.inj ((show Tryd.prog.funcNamed Rows.octetBackRow.func = some 13 by kernel_rfl).symm.trans hf) |>.symm
      obtain rfl : fn = Tryd.f13 := (Option.some.inj (Tryd.func13.symm.trans hfn)).symm
      exact ⟨by kernel_rfl, fun j t ht => by
        rw [Tryd.params13] at ht
        have hm : t ∈ [38, 3, 35, 36] := by simpa using Array.mem_of_getElem? ht
        have hall : ([38, 3, 35, 36].all fun u => !Tryd.prog.wantsStandIn u) = true := by kernel_rfl
        exact (show Tryd.prog.wantsStandIn t = false by simpa using List.all_eq_true.1 hall t hm)⟩)
    (by kernel_rfl)
end Go.Proofs.YthppknpeagjcpaaDoor.octetBack
