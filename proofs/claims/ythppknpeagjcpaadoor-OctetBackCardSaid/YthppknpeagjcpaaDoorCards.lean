/-
  DERIVED. GIVEN WITH THE SEED: THE CARDS: each row of YthppknpeagjcpaaDoorRows.lean that lists a variable, with what it lists TIED to the program's text (the seventh form; the later family's looks); each row that meets fmt, with fmt's text TOLD by the authors' own Lean function (tested against real Go, not proved from fmt's source: count such statements apart). THE CARD IS WHAT COUNTS. Prove the row's statement (the work); the ties are given (YthppknpeagjcpaaDoorTie.lean); close each card by the builder's one call (the guide's Derived/Test/ToyasCard.lean, 'card_holds'). Laid BY PROGRAM, IN A SANDBOX (cutbox-door.mjs). By AI agents, Wed Nov 11 2026. No macro, syntax, notation, axiom, sorry.
-/
import Derived.Test.YthppknpeagjcpaaDoorRows
import GoSem.ClaimSeven
namespace Go.Proofs.YthppknpeagjcpaaDoor
namespace Rows

/-- THE TIED CARD OF 'pantlerlaw10.PathTargets'. -/
def pathTargetsCard : Claim7 := { stood := { row := pathTargetsRow, standIns := [], harness := (true, "9a406efe5fc74f9ef15ee5f29a82841a84f56589ba0d2ee56553af274ca774e6"), looks := false }, kinds := [], alts := [], laidByText := true, laidKinds := [.data, .pinned], laidTests := true, laidLooks := .later }
def PathTargetsCardSaid : Prop := Claim7.holds Tryd.pinned (.plain (OpenSpec.ofChange pathTargetsSpec)) pathTargetsCard

/-- THE TIED CARD OF 'pantlerlaw10.PathHex'. -/
def pathHexCard : Claim7 := { stood := { row := pathHexRow, standIns := [], harness := (true, "9a406efe5fc74f9ef15ee5f29a82841a84f56589ba0d2ee56553af274ca774e6"), looks := false }, kinds := [], alts := [], laidByText := true, laidKinds := [.data, .pinned], laidTests := true, laidLooks := .later }
def PathHexCardSaid : Prop := Claim7.holds Tryd.pinned (.plain (OpenSpec.ofChange pathHexSpec)) pathHexCard

/-- THE TIED CARD OF 'pantlerlaw10.PathBack'. -/
def pathBackCard : Claim7 := { stood := { row := pathBackRow, standIns := [], harness := (true, "9a406efe5fc74f9ef15ee5f29a82841a84f56589ba0d2ee56553af274ca774e6"), looks := false }, kinds := [], alts := [], laidByText := true, laidKinds := [.data, .pinned], laidTests := true, laidLooks := .later }
def PathBackCardSaid : Prop := Claim7.holds Tryd.pinned (.plain (OpenSpec.ofChange pathBackSpec)) pathBackCard

/-- THE TIED CARD OF 'pantlerlaw10.PathKinds'. -/
def pathKindsCard : Claim7 := { stood := { row := pathKindsRow, standIns := [], harness := (true, "9a406efe5fc74f9ef15ee5f29a82841a84f56589ba0d2ee56553af274ca774e6"), looks := false }, kinds := [], alts := [], laidByText := true, laidKinds := [.data, .pinned], laidTests := true, laidLooks := .later }
def PathKindsCardSaid : Prop := Claim7.holds Tryd.pinned (.plain (OpenSpec.ofChange pathKindsSpec)) pathKindsCard

/-- THE TIED CARD OF 'pantlerlaw10.PathNames'. -/
def pathNamesCard : Claim7 := { stood := { row := pathNamesRow, standIns := [], harness := (true, "9a406efe5fc74f9ef15ee5f29a82841a84f56589ba0d2ee56553af274ca774e6"), looks := false }, kinds := [], alts := [], laidByText := true, laidKinds := [.data, .pinned], laidTests := true, laidLooks := .later }
def PathNamesCardSaid : Prop := Claim7.holds Tryd.pinned (.plain (OpenSpec.ofChange pathNamesSpec)) pathNamesCard

/-- THE TIED CARD OF 'pantlerlaw23.LexTells'. -/
def lexTellsCard : Claim7 := { stood := { row := lexTellsRow, standIns := [], harness := (true, "9a406efe5fc74f9ef15ee5f29a82841a84f56589ba0d2ee56553af274ca774e6"), looks := false }, kinds := [], alts := [], laidByText := true, laidKinds := [.data, .pinned], laidTests := true, laidLooks := .later }
def LexTellsCardSaid : Prop := Claim7.holds Tryd.pinned (.plain (OpenSpec.ofChange lexTellsSpec)) lexTellsCard

/-- THE TIED CARD OF 'pantlerlaw23.LexDigits'. -/
def lexDigitsCard : Claim7 := { stood := { row := lexDigitsRow, standIns := [], harness := (true, "9a406efe5fc74f9ef15ee5f29a82841a84f56589ba0d2ee56553af274ca774e6"), looks := false }, kinds := [], alts := [], laidByText := true, laidKinds := [.data, .pinned], laidTests := true, laidLooks := .later }
def LexDigitsCardSaid : Prop := Claim7.holds Tryd.pinned (.plain (OpenSpec.ofChange lexDigitsSpec)) lexDigitsCard

/-- THE TIED CARD OF 'pantlerlaw02.OctetPuts'. -/
def octetPutsCard : Claim7 := { stood := { row := octetPutsRow, standIns := [], harness := (true, "9a406efe5fc74f9ef15ee5f29a82841a84f56589ba0d2ee56553af274ca774e6"), looks := false }, kinds := [], alts := [], laidByText := true, laidKinds := [.data, .data, .data, .data, .pinned], laidTests := true, laidLooks := .later }
def OctetPutsCardSaid : Prop := Claim7.holds Tryd.pinned (.plain (OpenSpec.ofChange octetPutsSpec)) octetPutsCard

/-- THE TIED CARD OF 'pantlerlaw02.OctetOrder'. -/
def octetOrderCard : Claim7 := { stood := { row := octetOrderRow, standIns := [], harness := (true, "9a406efe5fc74f9ef15ee5f29a82841a84f56589ba0d2ee56553af274ca774e6"), looks := false }, kinds := [], alts := [], laidByText := true, laidKinds := [.data, .data, .data, .data, .pinned], laidTests := true, laidLooks := .later }
def OctetOrderCardSaid : Prop := Claim7.holds Tryd.pinned (.plain (OpenSpec.ofChange octetOrderSpec)) octetOrderCard

/-- THE TIED CARD OF 'pantlerlaw02.OctetReads'. -/
def octetReadsCard : Claim7 := { stood := { row := octetReadsRow, standIns := [], harness := (true, "9a406efe5fc74f9ef15ee5f29a82841a84f56589ba0d2ee56553af274ca774e6"), looks := false }, kinds := [], alts := [], laidByText := true, laidKinds := [.data, .data, .data, .data, .pinned], laidTests := true, laidLooks := .later }
def OctetReadsCardSaid : Prop := Claim7.holds Tryd.pinned (.plain (OpenSpec.ofChange octetReadsSpec)) octetReadsCard

/-- THE TIED CARD OF 'pantlerlaw02.OctetBack'. -/
def octetBackCard : Claim7 := { stood := { row := octetBackRow, standIns := [], harness := (true, "9a406efe5fc74f9ef15ee5f29a82841a84f56589ba0d2ee56553af274ca774e6"), looks := false }, kinds := [], alts := [], laidByText := true, laidKinds := [.data, .data, .data, .data, .pinned], laidTests := true, laidLooks := .later }
def OctetBackCardSaid : Prop := Claim7.holds Tryd.pinned (.plain (OpenSpec.ofChange octetBackSpec)) octetBackCard

/-- THE SECOND FORM's CARD OF 'pantlerlaw10.PathTargets'. -/
def pathTargetsUptoCard : Claim7 := { stood := { row := pathTargetsUptoRow, standIns := [], harness := (true, "9a406efe5fc74f9ef15ee5f29a82841a84f56589ba0d2ee56553af274ca774e6"), looks := false }, kinds := [], alts := [], laidByText := true, laidKinds := [.data, .pinned], laidTests := true, laidLooks := .later }
def PathTargetsUptoCardSaid : Prop := Claim7.holds Tryd.pinned (.plain (OpenSpec.upto pathTargetsSpec)) pathTargetsUptoCard

/-- THE SECOND FORM's CARD OF 'pantlerlaw10.PathHex'. -/
def pathHexUptoCard : Claim7 := { stood := { row := pathHexUptoRow, standIns := [], harness := (true, "9a406efe5fc74f9ef15ee5f29a82841a84f56589ba0d2ee56553af274ca774e6"), looks := false }, kinds := [], alts := [], laidByText := true, laidKinds := [.data, .pinned], laidTests := true, laidLooks := .later }
def PathHexUptoCardSaid : Prop := Claim7.holds Tryd.pinned (.plain (OpenSpec.upto pathHexSpec)) pathHexUptoCard

/-- THE SECOND FORM's CARD OF 'pantlerlaw10.PathBack'. -/
def pathBackUptoCard : Claim7 := { stood := { row := pathBackUptoRow, standIns := [], harness := (true, "9a406efe5fc74f9ef15ee5f29a82841a84f56589ba0d2ee56553af274ca774e6"), looks := false }, kinds := [], alts := [], laidByText := true, laidKinds := [.data, .pinned], laidTests := true, laidLooks := .later }
def PathBackUptoCardSaid : Prop := Claim7.holds Tryd.pinned (.plain (OpenSpec.upto pathBackSpec)) pathBackUptoCard

/-- THE SECOND FORM's CARD OF 'pantlerlaw10.PathKinds'. -/
def pathKindsUptoCard : Claim7 := { stood := { row := pathKindsUptoRow, standIns := [], harness := (true, "9a406efe5fc74f9ef15ee5f29a82841a84f56589ba0d2ee56553af274ca774e6"), looks := false }, kinds := [], alts := [], laidByText := true, laidKinds := [.data, .pinned], laidTests := true, laidLooks := .later }
def PathKindsUptoCardSaid : Prop := Claim7.holds Tryd.pinned (.plain (OpenSpec.upto pathKindsSpec)) pathKindsUptoCard

/-- THE SECOND FORM's CARD OF 'pantlerlaw10.PathNames'. -/
def pathNamesUptoCard : Claim7 := { stood := { row := pathNamesUptoRow, standIns := [], harness := (true, "9a406efe5fc74f9ef15ee5f29a82841a84f56589ba0d2ee56553af274ca774e6"), looks := false }, kinds := [], alts := [], laidByText := true, laidKinds := [.data, .pinned], laidTests := true, laidLooks := .later }
def PathNamesUptoCardSaid : Prop := Claim7.holds Tryd.pinned (.plain (OpenSpec.upto pathNamesSpec)) pathNamesUptoCard

/-- THE SECOND FORM's CARD OF 'pantlerlaw23.LexTells'. -/
def lexTellsUptoCard : Claim7 := { stood := { row := lexTellsUptoRow, standIns := [], harness := (true, "9a406efe5fc74f9ef15ee5f29a82841a84f56589ba0d2ee56553af274ca774e6"), looks := false }, kinds := [], alts := [], laidByText := true, laidKinds := [.data, .pinned], laidTests := true, laidLooks := .later }
def LexTellsUptoCardSaid : Prop := Claim7.holds Tryd.pinned (.plain (OpenSpec.upto lexTellsSpec)) lexTellsUptoCard

/-- THE SECOND FORM's CARD OF 'pantlerlaw23.LexDigits'. -/
def lexDigitsUptoCard : Claim7 := { stood := { row := lexDigitsUptoRow, standIns := [], harness := (true, "9a406efe5fc74f9ef15ee5f29a82841a84f56589ba0d2ee56553af274ca774e6"), looks := false }, kinds := [], alts := [], laidByText := true, laidKinds := [.data, .pinned], laidTests := true, laidLooks := .later }
def LexDigitsUptoCardSaid : Prop := Claim7.holds Tryd.pinned (.plain (OpenSpec.upto lexDigitsSpec)) lexDigitsUptoCard

/-- THE SECOND FORM's CARD OF 'pantlerlaw02.OctetPuts'. -/
def octetPutsUptoCard : Claim7 := { stood := { row := octetPutsUptoRow, standIns := [], harness := (true, "9a406efe5fc74f9ef15ee5f29a82841a84f56589ba0d2ee56553af274ca774e6"), looks := false }, kinds := [], alts := [], laidByText := true, laidKinds := [.data, .data, .data, .data, .pinned], laidTests := true, laidLooks := .later }
def OctetPutsUptoCardSaid : Prop := Claim7.holds Tryd.pinned (.plain (OpenSpec.upto octetPutsSpec)) octetPutsUptoCard

/-- THE SECOND FORM's CARD OF 'pantlerlaw02.OctetOrder'. -/
def octetOrderUptoCard : Claim7 := { stood := { row := octetOrderUptoRow, standIns := [], harness := (true, "9a406efe5fc74f9ef15ee5f29a82841a84f56589ba0d2ee56553af274ca774e6"), looks := false }, kinds := [], alts := [], laidByText := true, laidKinds := [.data, .data, .data, .data, .pinned], laidTests := true, laidLooks := .later }
def OctetOrderUptoCardSaid : Prop := Claim7.holds Tryd.pinned (.plain (OpenSpec.upto octetOrderSpec)) octetOrderUptoCard

/-- THE SECOND FORM's CARD OF 'pantlerlaw02.OctetReads'. -/
def octetReadsUptoCard : Claim7 := { stood := { row := octetReadsUptoRow, standIns := [], harness := (true, "9a406efe5fc74f9ef15ee5f29a82841a84f56589ba0d2ee56553af274ca774e6"), looks := false }, kinds := [], alts := [], laidByText := true, laidKinds := [.data, .data, .data, .data, .pinned], laidTests := true, laidLooks := .later }
def OctetReadsUptoCardSaid : Prop := Claim7.holds Tryd.pinned (.plain (OpenSpec.upto octetReadsSpec)) octetReadsUptoCard

/-- THE SECOND FORM's CARD OF 'pantlerlaw02.OctetBack'. -/
def octetBackUptoCard : Claim7 := { stood := { row := octetBackUptoRow, standIns := [], harness := (true, "9a406efe5fc74f9ef15ee5f29a82841a84f56589ba0d2ee56553af274ca774e6"), looks := false }, kinds := [], alts := [], laidByText := true, laidKinds := [.data, .data, .data, .data, .pinned], laidTests := true, laidLooks := .later }
def OctetBackUptoCardSaid : Prop := Claim7.holds Tryd.pinned (.plain (OpenSpec.upto octetBackSpec)) octetBackUptoCard
end Rows
end Go.Proofs.YthppknpeagjcpaaDoor
