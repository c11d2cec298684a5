/-
  DERIVED. GIVEN WITH THE SEED: THE CARDS: each row of YtcbmiidffcbikaaDoorRows.lean that lists a variable, with what it lists TIED to the program's text (the seventh form; the later family's looks); each row that meets fmt, with fmt's text TOLD by the authors' own Lean function (tested against real Go, not proved from fmt's source: count such statements apart). THE CARD IS WHAT COUNTS. Prove the row's statement (the work); the ties are given (YtcbmiidffcbikaaDoorTie.lean); close each card by the builder's one call (the guide's Derived/Test/ToyasCard.lean, 'card_holds'). Laid BY PROGRAM, IN A SANDBOX (cutbox-door.mjs). By AI agents, Wed Nov 11 2026. No macro, syntax, notation, axiom, sorry.
-/
import Derived.Test.YtcbmiidffcbikaaDoorRows
import GoSem.ClaimSeven
namespace Go.Proofs.YtcbmiidffcbikaaDoor
namespace Rows

/-- THE TIED CARD OF 'pantlerlaw25.RangesParses'. -/
def rangesParsesCard : Claim7 := { stood := { row := rangesParsesRow, standIns := [], harness := (true, "d031141c55902c0c8b5cca9c55ad911b4090b9a5db1eaf6676daf214a8d5711b"), looks := false }, kinds := [], alts := [], laidByText := true, laidKinds := [.data, .pinned], laidTests := true, laidLooks := .later }
def RangesParsesCardSaid : Prop := Claim7.holds Tryd.pinned (.plain (OpenSpec.ofChange rangesParsesSpec)) rangesParsesCard

/-- THE TIED CARD OF 'pantlerlaw25.RangesAll'. -/
def rangesAllCard : Claim7 := { stood := { row := rangesAllRow, standIns := [], harness := (true, "d031141c55902c0c8b5cca9c55ad911b4090b9a5db1eaf6676daf214a8d5711b"), looks := false }, kinds := [], alts := [], laidByText := true, laidKinds := [.data, .pinned], laidTests := true, laidLooks := .later }
def RangesAllCardSaid : Prop := Claim7.holds Tryd.pinned (.plain (OpenSpec.ofChange rangesAllSpec)) rangesAllCard

/-- THE TIED CARD OF 'pantlerlaw25.RangesTells'. -/
def rangesTellsCard : Claim7 := { stood := { row := rangesTellsRow, standIns := [], harness := (true, "d031141c55902c0c8b5cca9c55ad911b4090b9a5db1eaf6676daf214a8d5711b"), looks := false }, kinds := [], alts := [], laidByText := true, laidKinds := [.data, .data, .data, .data, .pinned], laidTests := true, laidLooks := .later }
def RangesTellsCardSaid : Prop := Claim7.holds Tryd.pinned (.plain (OpenSpec.ofChange rangesTellsSpec)) rangesTellsCard

/-- THE TIED CARD OF 'pantlerlaw25.RangesWithin'. -/
def rangesWithinCard : Claim7 := { stood := { row := rangesWithinRow, standIns := [], harness := (true, "d031141c55902c0c8b5cca9c55ad911b4090b9a5db1eaf6676daf214a8d5711b"), looks := false }, kinds := [], alts := [], laidByText := true, laidKinds := [.data, .data, .data, .data, .pinned], laidTests := true, laidLooks := .later }
def RangesWithinCardSaid : Prop := Claim7.holds Tryd.pinned (.plain (OpenSpec.ofChange rangesWithinSpec)) rangesWithinCard

/-- THE TIED CARD OF 'pantlerlaw26.CondMatches'. -/
def condMatchesCard : Claim7 := { stood := { row := condMatchesRow, standIns := [], harness := (true, "d031141c55902c0c8b5cca9c55ad911b4090b9a5db1eaf6676daf214a8d5711b"), looks := false }, kinds := [], alts := [], laidByText := true, laidKinds := [.data, .data, .data, .data, .pinned], laidTests := true, laidLooks := .later }
def CondMatchesCardSaid : Prop := Claim7.holds Tryd.pinned (.plain (OpenSpec.ofChange condMatchesSpec)) condMatchesCard

/-- THE TIED CARD OF 'pantlerlaw24.RequestFields'. -/
def requestFieldsCard : Claim7 := { stood := { row := requestFieldsRow, standIns := [], harness := (true, "d031141c55902c0c8b5cca9c55ad911b4090b9a5db1eaf6676daf214a8d5711b"), looks := false }, kinds := [], alts := [], laidByText := true, laidKinds := [.data, .pinned], laidTests := true, laidLooks := .later }
def RequestFieldsCardSaid : Prop := Claim7.holds Tryd.pinned (.plain (OpenSpec.ofChange requestFieldsSpec)) requestFieldsCard

/-- THE TIED CARD OF 'pantlerlaw24.RequestCuts'. -/
def requestCutsCard : Claim7 := { stood := { row := requestCutsRow, standIns := [], harness := (true, "d031141c55902c0c8b5cca9c55ad911b4090b9a5db1eaf6676daf214a8d5711b"), looks := false }, kinds := [], alts := [], laidByText := true, laidKinds := [.data, .pinned], laidTests := true, laidLooks := .later }
def RequestCutsCardSaid : Prop := Claim7.holds Tryd.pinned (.plain (OpenSpec.ofChange requestCutsSpec)) requestCutsCard

/-- THE TIED CARD OF 'pantlerlaw24.RequestBuilds'. -/
def requestBuildsCard : Claim7 := { stood := { row := requestBuildsRow, standIns := [], harness := (true, "d031141c55902c0c8b5cca9c55ad911b4090b9a5db1eaf6676daf214a8d5711b"), looks := false }, kinds := [], alts := [], laidByText := true, laidKinds := [.data, .pinned], laidTests := true, laidLooks := .later }
def RequestBuildsCardSaid : Prop := Claim7.holds Tryd.pinned (.plain (OpenSpec.ofChange requestBuildsSpec)) requestBuildsCard

/-- THE SECOND FORM's CARD OF 'pantlerlaw25.RangesParses'. -/
def rangesParsesUptoCard : Claim7 := { stood := { row := rangesParsesUptoRow, standIns := [], harness := (true, "d031141c55902c0c8b5cca9c55ad911b4090b9a5db1eaf6676daf214a8d5711b"), looks := false }, kinds := [], alts := [], laidByText := true, laidKinds := [.data, .pinned], laidTests := true, laidLooks := .later }
def RangesParsesUptoCardSaid : Prop := Claim7.holds Tryd.pinned (.plain (OpenSpec.upto rangesParsesSpec)) rangesParsesUptoCard

/-- THE SECOND FORM's CARD OF 'pantlerlaw25.RangesAll'. -/
def rangesAllUptoCard : Claim7 := { stood := { row := rangesAllUptoRow, standIns := [], harness := (true, "d031141c55902c0c8b5cca9c55ad911b4090b9a5db1eaf6676daf214a8d5711b"), looks := false }, kinds := [], alts := [], laidByText := true, laidKinds := [.data, .pinned], laidTests := true, laidLooks := .later }
def RangesAllUptoCardSaid : Prop := Claim7.holds Tryd.pinned (.plain (OpenSpec.upto rangesAllSpec)) rangesAllUptoCard

/-- THE SECOND FORM's CARD OF 'pantlerlaw25.RangesTells'. -/
def rangesTellsUptoCard : Claim7 := { stood := { row := rangesTellsUptoRow, standIns := [], harness := (true, "d031141c55902c0c8b5cca9c55ad911b4090b9a5db1eaf6676daf214a8d5711b"), looks := false }, kinds := [], alts := [], laidByText := true, laidKinds := [.data, .data, .data, .data, .pinned], laidTests := true, laidLooks := .later }
def RangesTellsUptoCardSaid : Prop := Claim7.holds Tryd.pinned (.plain (OpenSpec.upto rangesTellsSpec)) rangesTellsUptoCard

/-- THE SECOND FORM's CARD OF 'pantlerlaw25.RangesWithin'. -/
def rangesWithinUptoCard : Claim7 := { stood := { row := rangesWithinUptoRow, standIns := [], harness := (true, "d031141c55902c0c8b5cca9c55ad911b4090b9a5db1eaf6676daf214a8d5711b"), looks := false }, kinds := [], alts := [], laidByText := true, laidKinds := [.data, .data, .data, .data, .pinned], laidTests := true, laidLooks := .later }
def RangesWithinUptoCardSaid : Prop := Claim7.holds Tryd.pinned (.plain (OpenSpec.upto rangesWithinSpec)) rangesWithinUptoCard

/-- THE SECOND FORM's CARD OF 'pantlerlaw26.CondMatches'. -/
def condMatchesUptoCard : Claim7 := { stood := { row := condMatchesUptoRow, standIns := [], harness := (true, "d031141c55902c0c8b5cca9c55ad911b4090b9a5db1eaf6676daf214a8d5711b"), looks := false }, kinds := [], alts := [], laidByText := true, laidKinds := [.data, .data, .data, .data, .pinned], laidTests := true, laidLooks := .later }
def CondMatchesUptoCardSaid : Prop := Claim7.holds Tryd.pinned (.plain (OpenSpec.upto condMatchesSpec)) condMatchesUptoCard

/-- THE SECOND FORM's CARD OF 'pantlerlaw24.RequestFields'. -/
def requestFieldsUptoCard : Claim7 := { stood := { row := requestFieldsUptoRow, standIns := [], harness := (true, "d031141c55902c0c8b5cca9c55ad911b4090b9a5db1eaf6676daf214a8d5711b"), looks := false }, kinds := [], alts := [], laidByText := true, laidKinds := [.data, .pinned], laidTests := true, laidLooks := .later }
def RequestFieldsUptoCardSaid : Prop := Claim7.holds Tryd.pinned (.plain (OpenSpec.upto requestFieldsSpec)) requestFieldsUptoCard

/-- THE SECOND FORM's CARD OF 'pantlerlaw24.RequestCuts'. -/
def requestCutsUptoCard : Claim7 := { stood := { row := requestCutsUptoRow, standIns := [], harness := (true, "d031141c55902c0c8b5cca9c55ad911b4090b9a5db1eaf6676daf214a8d5711b"), looks := false }, kinds := [], alts := [], laidByText := true, laidKinds := [.data, .pinned], laidTests := true, laidLooks := .later }
def RequestCutsUptoCardSaid : Prop := Claim7.holds Tryd.pinned (.plain (OpenSpec.upto requestCutsSpec)) requestCutsUptoCard

/-- THE SECOND FORM's CARD OF 'pantlerlaw24.RequestBuilds'. -/
def requestBuildsUptoCard : Claim7 := { stood := { row := requestBuildsUptoRow, standIns := [], harness := (true, "d031141c55902c0c8b5cca9c55ad911b4090b9a5db1eaf6676daf214a8d5711b"), looks := false }, kinds := [], alts := [], laidByText := true, laidKinds := [.data, .pinned], laidTests := true, laidLooks := .later }
def RequestBuildsUptoCardSaid : Prop := Claim7.holds Tryd.pinned (.plain (OpenSpec.upto requestBuildsSpec)) requestBuildsUptoCard
end Rows
end Go.Proofs.YtcbmiidffcbikaaDoor
