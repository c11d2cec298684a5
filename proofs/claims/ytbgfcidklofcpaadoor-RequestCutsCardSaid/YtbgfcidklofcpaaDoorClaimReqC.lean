/- RequestCuts answers true whatever bytes and cuts come in: no condition but that the listed tables of the library's lie as its text lays them. -/
import Derived.Test.YtbgfcidklofcpaaDoorLawReqC2
import Derived.Test.YtbgfcidklofcpaaDoorOpen
import Derived.Test.YtbgfcidklofcpaaDoorCard
import Derived.Test.YtbgfcidklofcpaaDoorCards
import Derived.Test.YtbgfcidklofcpaaDoorTie
import Derived.SevenTiedAt
namespace Go.Proofs.YtbgfcidklofcpaaDoor.requestCuts
open Go.ChangeShapes Go.WideShapes Go.ChangeAt Go.RowKit
open Go.ChangeMaps (open_string shut_string)
set_option linter.unusedVariables false
set_option linter.unusedSimpArgs false

theorem own : ownKnob Tryd.prog.godebug = none := by kernel_rfl
set_option maxRecDepth 100000 in
theorem lifted (os : Os) (started : os.Started) (H : Type) (enc : TypeId × Value → H) :
    ReturnsInHanded {} Tryd.checked os 4 .any (fun w args => (Rows.requestCutsSpec.pre enc Tryd.prog Tryd.f4 Rows.requestCutsRow.domain false w args ∧ laidMetH Tryd.prog Rows.requestCutsRow.laid w) ∧ sizedMet enc Tryd.prog Tryd.f4 (OpenSpec.ofChange Rows.requestCutsSpec) false w args) (Rows.requestCutsSpec.post enc Tryd.prog Tryd.f4 false true false false) := by
  refine handed_cs (C := Tryd.checked) (X := fun w _ => laidMetH Tryd.prog Rows.requestCutsRow.laid w) (fun _ _ _ hh h => h.of_heap hh) own started (by kernel_rfl) Tryd.func4
    (ChangeSpec.witness_shaped (enc := enc) (C := Tryd.checked) (os := os) (X := fun w _ => laidMetH Tryd.prog Rows.requestCutsRow.laid w) false (World.laidAll Tryd.prog os Rows.requestCutsRow.laid) #[.string ByteArray.empty, .slice none 0 0] 8 (World.laidAll_os _ _ _)
      (World.shaped_of_ZipB (by kernel_rfl) (by kernel_rfl)) (by kernel_rfl) (by kernel_rfl) (by kernel_rfl)
      (by rw [MakeChecks.laidMetH_plain _ _ _ (by kernel_rfl)]; exact laidMet_laidAll _ (by kernel_rfl) (by kernel_rfl))) ?_
  intro W base args ds gs before hval0 hW hsz hL hsh
  have hval : ∀ (j : Nat) t v, Tryd.f4.params[j]? = some t → args[j]? = some v → Value.okWide Tryd.prog W .any base t v := hval0
  have hW' := hW
  obtain ⟨p, q, hA0, hV, rfl, hfz, hnd⟩ := hW
  have hA : DataW.TrodAll enc Tryd.prog W 0 (fun _ => true) true Tryd.f4.params.toList args.toList ds p := hA0
  rw [Tryd.params4] at hA hval
  obtain ⟨v0, vs0, d0, ds0, p0, q0, hargs, rfl, rfl, h0, r0⟩ := trodAll_cons hA
  obtain ⟨v1, vs1, d1, ds1, p1, q1, rfl, rfl, rfl, h1, r1⟩ := trodAll_cons r0
  obtain ⟨rfl, rfl, rfl⟩ := trodAll_nil r1
  obtain rfl : args = #[v0, v1] := by cases args; simp_all
  obtain ⟨rfl, rfl⟩ := trodVars_none hV
  obtain ⟨a0, rfl, rfl, rfl, w0⟩ := open_string Tryd.underlying9 (hval 0 _ v0 rfl rfl) h0
  unfold maxLen at w0
  obtain ⟨a1, rfl, w1⟩ := top_slice Tryd.underlying36 (opn_slice (K := 1) (vals := fun n : Int => [Value.int .u16 n]) (ok := fun n => (Lit.int .u16 n).wf = true) Tryd.underlying36 (by kernel_rfl) (fun _ => rfl) (opn_int Tryd.underlying44)) (hval 1 _ v1 rfl rfl) h1
  clear hA0 hval0
  have rd1 : Rd W [] a1.A (a1.l.map fun n => Value.int .u16 n) := by have := w1.rd; rwa [flat_u16] at this
  have m1 : a1.n ≤ 9223372036854775807 := by have h1 := w1.cap; have h2 := w1.max; unfold maxLen at h2; omega
  have ea : a0.data.toList.length = a0.size := by rw [Array.length_toList]; rfl
  rw [S_eta a0]
  refine (law_calls fun R hR => cuts_walk2 a0.data.toList a1.l _ (ml_of_shape hsh) rd1 w1.len (fun n hn => by have := bounds_u16 (w1.all n hn); omega) (by omega) m1 hR).mono fun e W' ⟨he, hg⟩ => ?_
  subst he
  exact ⟨_, rfl, law_post (tb := 4) (by kernel_rfl) (by rw [Tryd.params4]; decide +kernel) rfl Tryd.underlying4 rfl rfl rfl rfl hW' hg⟩
theorem over : Rows.requestCutsRow.holds Tryd.pinned (OpenSpec.ofChange Rows.requestCutsSpec) :=
  OpenClaim.holds_of_wide 4 Tryd.f4 rfl rfl rfl rfl rfl rfl rfl ⟨rfl, rfl, rfl, rfl, rfl⟩ rfl rfl rfl rfl rfl (by kernel_rfl) Tryd.func4 (by kernel_rfl)
    (of_decide_eq_true (by kernel_rfl)) (by unfold Func.isWrapper; first | (rw [if_pos (by decide +kernel)]; kernel_rfl) | (rw [if_neg (by decide +kernel)]; exact ⟨rfl, rfl⟩))
    (fun os started H enc _ => lifted os started H enc)
theorem proved : Rows.RequestCutsCardSaid :=
  Claim7.holds_tied_plain_at .later [] [.data, .pinned] true (true, "bb46c35818c6e4cf66af4a7eff3c0bdd4c9913d6c3deef28966ca2639a955066") false over (fun _ h => by cases h) (by kernel_rfl) (fun _ h => by cases h) requestCuts_row_tie rfl ⟨rfl, rfl⟩ (by kernel_rfl) rfl
    (fun f fn hf hfn => by
      obtain rfl : f = 4 := Option.some.inj ((show Tryd.prog.funcNamed Rows.requestCutsRow.func = some 4 by kernel_rfl).symm.trans hf) |>.symm
      obtain rfl : fn = Tryd.f4 := (Option.some.inj (Tryd.func4.symm.trans hfn)).symm
      exact ⟨by kernel_rfl, fun j t ht => by
        rw [Tryd.params4] at ht
        have hm : t ∈ [9, 36] := by simpa using Array.mem_of_getElem? ht
        have hall : ([9, 36].all fun u => !Tryd.prog.wantsStandIn u) = true := by kernel_rfl
        exact (show Tryd.prog.wantsStandIn t = false by simpa using List.all_eq_true.1 hall t hm)⟩)
    (by kernel_rfl)
end Go.Proofs.YtbgfcidklofcpaaDoor.requestCuts
