/-
  DERIVED. GIVEN WITH THE SEED: THE CARDS: each row of YtbgfcidklofcpaaDoorRows.lean that lists a variable, with what it lists TIED to the program's text (the seventh form; the later family's looks); each row that meets fmt, with fmt's text TOLD by the authors' own Lean function (tested against real Go, not proved from fmt's source: count such statements apart). THE CARD IS WHAT COUNTS. Prove the row's statement (the work); the ties are given (YtbgfcidklofcpaaDoorTie.lean); close each card by the builder's one call (the guide's Derived/Test/ToyasCard.lean, 'card_holds'). Laid BY PROGRAM, IN A SANDBOX (cutbox-door.mjs). By AI agents, Wed Nov 11 2026. No macro, syntax, notation, axiom, sorry.
-/
import Derived.Test.YtbgfcidklofcpaaDoorRows
import GoSem.ClaimSeven
namespace Go.Proofs.YtbgfcidklofcpaaDoor
namespace Rows

/-- THE TIED CARD OF 'pantlerlaw24.RequestFields'. -/
def requestFieldsCard : Claim7 := { stood := { row := requestFieldsRow, standIns := [], harness := (true, "bb46c35818c6e4cf66af4a7eff3c0bdd4c9913d6c3deef28966ca2639a955066"), looks := false }, kinds := [], alts := [], laidByText := true, laidKinds := [.data, .pinned], laidTests := true, laidLooks := .later }
def RequestFieldsCardSaid : Prop := Claim7.holds Tryd.pinned (.plain (OpenSpec.ofChange requestFieldsSpec)) requestFieldsCard

/-- THE TIED CARD OF 'pantlerlaw24.RequestCuts'. -/
def requestCutsCard : Claim7 := { stood := { row := requestCutsRow, standIns := [], harness := (true, "bb46c35818c6e4cf66af4a7eff3c0bdd4c9913d6c3deef28966ca2639a955066"), looks := false }, kinds := [], alts := [], laidByText := true, laidKinds := [.data, .pinned], laidTests := true, laidLooks := .later }
def RequestCutsCardSaid : Prop := Claim7.holds Tryd.pinned (.plain (OpenSpec.ofChange requestCutsSpec)) requestCutsCard

/-- THE TIED CARD OF 'pantlerlaw24.RequestBuilds'. -/
def requestBuildsCard : Claim7 := { stood := { row := requestBuildsRow, standIns := [], harness := (true, "bb46c35818c6e4cf66af4a7eff3c0bdd4c9913d6c3deef28966ca2639a955066"), looks := false }, kinds := [], alts := [], laidByText := true, laidKinds := [.data, .pinned], laidTests := true, laidLooks := .later }
def RequestBuildsCardSaid : Prop := Claim7.holds Tryd.pinned (.plain (OpenSpec.ofChange requestBuildsSpec)) requestBuildsCard

/-- THE TIED CARD OF 'pantlerlaw26.CondStar'. -/
def condStarCard : Claim7 := { stood := { row := condStarRow, standIns := [], harness := (true, "bb46c35818c6e4cf66af4a7eff3c0bdd4c9913d6c3deef28966ca2639a955066"), looks := false }, kinds := [], alts := [], laidByText := true, laidKinds := [.data, .data, .data, .data, .pinned], laidTests := true, laidLooks := .later }
def CondStarCardSaid : Prop := Claim7.holds Tryd.pinned (.plain (OpenSpec.ofChange condStarSpec)) condStarCard

/-- THE TIED CARD OF 'pantlerlaw26.CondOwn'. -/
def condOwnCard : Claim7 := { stood := { row := condOwnRow, standIns := [], harness := (true, "bb46c35818c6e4cf66af4a7eff3c0bdd4c9913d6c3deef28966ca2639a955066"), looks := false }, kinds := [], alts := [], laidByText := true, laidKinds := [.data, .data, .data, .data, .pinned], laidTests := true, laidLooks := .later }
def CondOwnCardSaid : Prop := Claim7.holds Tryd.pinned (.plain (OpenSpec.ofChange condOwnSpec)) condOwnCard

/-- THE SECOND FORM's CARD OF 'pantlerlaw24.RequestFields'. -/
def requestFieldsUptoCard : Claim7 := { stood := { row := requestFieldsUptoRow, standIns := [], harness := (true, "bb46c35818c6e4cf66af4a7eff3c0bdd4c9913d6c3deef28966ca2639a955066"), looks := false }, kinds := [], alts := [], laidByText := true, laidKinds := [.data, .pinned], laidTests := true, laidLooks := .later }
def RequestFieldsUptoCardSaid : Prop := Claim7.holds Tryd.pinned (.plain (OpenSpec.upto requestFieldsSpec)) requestFieldsUptoCard

/-- THE SECOND FORM's CARD OF 'pantlerlaw24.RequestCuts'. -/
def requestCutsUptoCard : Claim7 := { stood := { row := requestCutsUptoRow, standIns := [], harness := (true, "bb46c35818c6e4cf66af4a7eff3c0bdd4c9913d6c3deef28966ca2639a955066"), looks := false }, kinds := [], alts := [], laidByText := true, laidKinds := [.data, .pinned], laidTests := true, laidLooks := .later }
def RequestCutsUptoCardSaid : Prop := Claim7.holds Tryd.pinned (.plain (OpenSpec.upto requestCutsSpec)) requestCutsUptoCard

/-- THE SECOND FORM's CARD OF 'pantlerlaw24.RequestBuilds'. -/
def requestBuildsUptoCard : Claim7 := { stood := { row := requestBuildsUptoRow, standIns := [], harness := (true, "bb46c35818c6e4cf66af4a7eff3c0bdd4c9913d6c3deef28966ca2639a955066"), looks := false }, kinds := [], alts := [], laidByText := true, laidKinds := [.data, .pinned], laidTests := true, laidLooks := .later }
def RequestBuildsUptoCardSaid : Prop := Claim7.holds Tryd.pinned (.plain (OpenSpec.upto requestBuildsSpec)) requestBuildsUptoCard

/-- THE SECOND FORM's CARD OF 'pantlerlaw26.CondStar'. -/
def condStarUptoCard : Claim7 := { stood := { row := condStarUptoRow, standIns := [], harness := (true, "bb46c35818c6e4cf66af4a7eff3c0bdd4c9913d6c3deef28966ca2639a955066"), looks := false }, kinds := [], alts := [], laidByText := true, laidKinds := [.data, .data, .data, .data, .pinned], laidTests := true, laidLooks := .later }
def CondStarUptoCardSaid : Prop := Claim7.holds Tryd.pinned (.plain (OpenSpec.upto condStarSpec)) condStarUptoCard

/-- THE SECOND FORM's CARD OF 'pantlerlaw26.CondOwn'. -/
def condOwnUptoCard : Claim7 := { stood := { row := condOwnUptoRow, standIns := [], harness := (true, "bb46c35818c6e4cf66af4a7eff3c0bdd4c9913d6c3deef28966ca2639a955066"), looks := false }, kinds := [], alts := [], laidByText := true, laidKinds := [.data, .data, .data, .data, .pinned], laidTests := true, laidLooks := .later }
def CondOwnUptoCardSaid : Prop := Claim7.holds Tryd.pinned (.plain (OpenSpec.upto condOwnSpec)) condOwnUptoCard
end Rows
end Go.Proofs.YtbgfcidklofcpaaDoor
