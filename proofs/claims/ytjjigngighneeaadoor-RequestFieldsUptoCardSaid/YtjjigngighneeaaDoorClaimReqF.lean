/- RequestFields answers true whatever request and name come in, where they hold together at most 1048576 values and letters, and the listed tables of the library's lie as its text lays them. -/
import Derived.Test.YtjjigngighneeaaDoorLawReqF
import Derived.Test.YtjjigngighneeaaDoorReqFB
import Derived.Test.YtjjigngighneeaaDoorOpen
import Derived.Test.YtjjigngighneeaaDoorCard
import Derived.Test.YtjjigngighneeaaDoorCards
import Derived.Test.YtjjigngighneeaaDoorTie
import Derived.SevenTiedAt
import Derived.Deep.DeepHandedRow
namespace Go.Proofs.YtjjigngighneeaaDoor.requestFields
open Go.ChangeShapes Go.WideShapes Go.ChangeAt Go.RowKit
open Go.ChangeMaps (open_string shut_string)
set_option linter.unusedVariables false
set_option linter.unusedSimpArgs false

theorem own : ownKnob Tryd.prog.godebug = none := by kernel_rfl
def witArgs : Array Value := #[.agg #[.string ByteArray.empty, .string ByteArray.empty, .int .i64 0, .slice none 0 0, .bool false], .string ByteArray.empty]
theorem reads (os : Os) {H : Type} (enc : TypeId × Value → H) : ∃ places, DataW.whole enc Tryd.prog ((World.laidAll Tryd.prog os Rows.requestFieldsUptoRow.laid).forCall (fun _ _ => 0) ⟨#[], witArgs, []⟩).memory Tryd.f4.params.toList Rows.requestFieldsSpec.vars false witArgs.toList 8 =
    some ([.agg [.lit (.string []), .lit (.string []), .lit (.int .i64 0), .nil, .lit (.bool false)], .lit (.string [])], [], places) := ⟨[], by kernel_rfl⟩
set_option maxRecDepth 100000 in
theorem lifted (os : Os) (started : os.Started) (H : Type) (enc : TypeId × Value → H) (F : Stop.Interp) :
    ReturnsInHanded {} Tryd.checked os 4 .any ((Rows.OpenSpec.upto Rows.requestFieldsSpec).preRow enc Tryd.prog Tryd.f4 Rows.requestFieldsUptoRow.domain false Rows.requestFieldsUptoRow.laid) (((Rows.OpenSpec.upto Rows.requestFieldsSpec).at F).post enc Tryd.prog Tryd.f4 false true false false) := by
  obtain ⟨places, hx⟩ := reads os enc
  refine returnsInHanded_of_row (C := Tryd.checked) (s := Rows.OpenSpec.upto Rows.requestFieldsSpec) own started (by kernel_rfl) Tryd.func4
    (witness_row_at (enc := enc) (C := Tryd.checked) false (World.laidAll Tryd.prog os Rows.requestFieldsUptoRow.laid) witArgs (World.laidAll_os _ _ _) (by kernel_rfl) (by kernel_rfl) (by kernel_rfl)
      (OpenSpec.preRow_of_cond 8 hx (by kernel_rfl) (fun k hk => by cases hk; kernel_rfl) (by kernel_rfl) (by rw [MakeChecks.laidMetH_plain _ _ _ (by kernel_rfl)]; exact laidMet_laidAll _ (by kernel_rfl) (by kernel_rfl)))) ?_
  intro W base args ds gs before hval0 hW _ hcond _ hL hsh _
  have hk := hcond _ rfl
  have hval : ∀ (j : Nat) t v, Tryd.f4.params[j]? = some t → args[j]? = some v → Value.okWide Tryd.prog W .any base t v := hval0
  have hW' := hW
  obtain ⟨p, q, hA0, hV, rfl, hfz, hnd⟩ := hW
  have hA : DataW.TrodAll enc Tryd.prog W 0 (fun _ => true) true Tryd.f4.params.toList args.toList ds p := hA0
  rw [Tryd.params4] at hA hval
  obtain ⟨v0, vs0, d0, ds0, p0, q0, hargs, rfl, rfl, h0, r0⟩ := trodAll_cons hA
  obtain ⟨v1, vs1, d1, ds1, p1, q1, rfl, rfl, rfl, h1, r1⟩ := trodAll_cons r0
  obtain ⟨rfl, rfl, rfl⟩ := trodAll_nil r1
  obtain rfl : args = #[v0, v1] := by cases args; simp_all
  obtain ⟨rfl, rfl⟩ := trodVars_none hV
  have hb : Rows.uptoBulkAll [d0, d1] ≤ 1048576 := by
    have := of_decide_eq_true hk
    simpa using this
  obtain ⟨m, t, mi, s, cl, rfl, w0, z0⟩ := top_request (hval 0 _ v0 rfl rfl) h0
  obtain ⟨a1, rfl, rfl, rfl, w1⟩ := open_string Tryd.underlying9 (hval 1 _ v1 rfl rfl) h1
  clear hA0 hval0
  have hz : (s.l.map fun s => s.1.size + s.2.size + 3).sum ≤ 1048576 := by
    simp only [Rows.uptoBulkAll] at hb; omega
  have rd0 : Rd W [] s.A ((s.l.map fdB).flatMap fldC) := by have := w0.rd; rwa [flat_fd] at this
  have hn : s.n ≤ 9223372036854775807 := by have h1 := w0.cap; have h2 := w0.max; unfold maxLen at h2; omega
  have hal : (allF (s.l.map fdB) a1.data.toList).length ≤ 100000000 := by
    have h1 := all_le (s.l.map fdB) a1.data.toList
    have h2 := fd_sum s.l
    omega
  have hvl : ∀ x ∈ s.l.map fdB, x.2.length ≤ 100000000 := by
    intro x hx
    have h1 := sum_at (fun f : Fd => f.2.length + 2) _ x hx
    have h2 := fd_sum s.l
    omega
  rw [S_eta a1, S_eta m, S_eta t]
  refine (law_calls fun R hR => fields_walk ⟨m.data.toList, t.data.toList, mi, s.l.map fdB, cl⟩ a1.data.toList W (ml_of_shape hsh) rd0 (by simp [w0.len]) hn hal hvl hR).mono fun e W' ⟨he, hg⟩ => ?_
  subst he
  rw [S_eta a1, S_eta m, S_eta t] at hW'
  exact ⟨_, rfl, law_post (tb := 4) (by kernel_rfl) (by rw [Tryd.params4]; decide +kernel) rfl Tryd.underlying4 rfl rfl rfl rfl hW' hg⟩
theorem over : Rows.requestFieldsUptoRow.holds Tryd.pinned (Rows.OpenSpec.upto Rows.requestFieldsSpec) :=
  OpenClaim.holds_of_cond 4 Tryd.f4 rfl rfl rfl rfl rfl rfl rfl ⟨rfl, rfl, rfl, rfl, rfl⟩ rfl rfl rfl rfl rfl (by kernel_rfl) Tryd.func4 (by kernel_rfl)
    (of_decide_eq_true (by kernel_rfl)) (by unfold Func.isWrapper; first | (rw [if_pos (by decide +kernel)]; kernel_rfl) | (rw [if_neg (by decide +kernel)]; exact ⟨rfl, rfl⟩))
    (fun os started H enc _ F => by rw [OpenClaim.pre_eq_preRow]; exact lifted os started H enc F)
theorem proved : Rows.RequestFieldsUptoCardSaid :=
  Claim7.holds_tied_plain_at .later [] _ _ _ _ over (fun _ h => by cases h) (by kernel_rfl) (fun _ h => by cases h) requestFieldsUpto_row_tie rfl ⟨rfl, rfl⟩ (by kernel_rfl) rfl
    (fun f fn hf hfn => by
      obtain rfl : f = 4 := Option.some.inj ((show Tryd.prog.funcNamed Rows.requestFieldsUptoRow.func = some 4 by kernel_rfl).symm.trans hf) |>.symm
      obtain rfl : fn = Tryd.f4 := (Option.some.inj (Tryd.func4.symm.trans hfn)).symm
      exact ⟨by kernel_rfl, fun j t ht => by
        rw [Tryd.params4] at ht
        have hm : t ∈ [37, 9] := by simpa using Array.mem_of_getElem? ht
        have hall : ([37, 9].all fun u => !Tryd.prog.wantsStandIn u) = true := by kernel_rfl
        exact (show Tryd.prog.wantsStandIn t = false by simpa using List.all_eq_true.1 hall t hm)⟩)
    (by kernel_rfl)
end Go.Proofs.YtjjigngighneeaaDoor.requestFields
