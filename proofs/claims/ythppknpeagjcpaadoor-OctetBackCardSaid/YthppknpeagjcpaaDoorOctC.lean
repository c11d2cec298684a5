/- What octet's rows list, in the walks' words; bytes that come in. -/
import Derived.Test.YthppknpeagjcpaaDoorOct2
import Derived.Test.YthppknpeagjcpaaDoorCard
import Derived.Test.YthppknpeagjcpaaDoorRows
import Derived.Stop.LaidErr
import Derived.Lib.LaidTab
namespace Go.Proofs.YthppknpeagjcpaaDoor
open Go Go.ChangeShapes Go.WideShapes Go.ChangeAt Go.RowKit Go.Proofs
set_option linter.unusedVariables false

theorem lw_of {W : World} (hL : laidMetH Tryd.prog Rows.octetPutsRow.laid W) (hsh : W.ShapedOpen Tryd.prog) : Lw W := by
  refine ⟨ml_of_shape hsh, ?_⟩
  rw [MakeChecks.laidMetH_plain _ _ _ (by kernel_rfl)] at hL
  have h2 := (laidMet.tail (laidMet.tail hL))
  exact Lib.tabIs_of_head (g := 3) (by kernel_rfl) (by kernel_rfl) Tryd.underlying129 Tryd.underlying38 (by kernel_rfl) (by kernel_rfl) h2
section
variable {H : Type} {enc : TypeId × Value → H} {P : Program} {W : World}
theorem opn_u8 {t : Nat} (ht : P.underlying t = some (.int .u8)) : Opn enc P W t (fun c : UInt8 => [.int .u8 c.toNat]) (fun _ => True) :=
  ⟨fun fuel cs x h => by
    obtain ⟨n, hc, _, hw⟩ := DataW.trod_int ht h
    have b := bounds_u8 hw
    refine ⟨UInt8.ofNat n.toNat, ?_, trivial⟩
    rw [hc, UInt8.toNat_ofNat', show ((n.toNat % 2 ^ 8 : Nat) : Int) = n by omega]⟩
theorem flat_bts (l : List UInt8) : l.flatMap (fun c : UInt8 => [Value.int .u8 c.toNat]) = bts l := by
  induction l with
  | nil => rfl
  | cons c l ih => rw [List.flatMap_cons, ih]; rfl
end
end Go.Proofs.YthppknpeagjcpaaDoor
