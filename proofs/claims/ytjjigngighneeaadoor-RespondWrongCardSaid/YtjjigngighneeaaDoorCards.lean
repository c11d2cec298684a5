/-
  DERIVED. GIVEN WITH THE SEED: THE CARDS: each row of YtjjigngighneeaaDoorRows.lean that lists a variable, with what it lists TIED to the program's text (the seventh form; the later family's looks); each row that meets fmt, with fmt's text TOLD by the authors' own Lean function (tested against real Go, not proved from fmt's source: count such statements apart). THE CARD IS WHAT COUNTS. Prove the row's statement (the work); the ties are given (YtjjigngighneeaaDoorTie.lean); close each card by the builder's one call (the guide's Derived/Test/ToyasCard.lean, 'card_holds'). Laid BY PROGRAM, IN A SANDBOX (cutbox-door.mjs). By AI agents, Wed Nov 11 2026. No macro, syntax, notation, axiom, sorry.
-/
import Derived.Test.YtjjigngighneeaaDoorRows
import GoSem.ClaimSeven
namespace Go.Proofs.YtjjigngighneeaaDoor
namespace Rows

/-- THE TIED CARD OF 'pantlerlaw27.RespondWrong'. -/
def respondWrongCard : Claim7 := { stood := { row := respondWrongRow, standIns := [], harness := (true, "1a065f1bf1ce6d122fa63e3aa3e7b2d2499ccf883338aca5ef51c6d5757558d4"), looks := false }, kinds := [], alts := [], laidByText := true, laidKinds := [.data, .data, .data], laidTests := true, laidLooks := .later }
def RespondWrongCardSaid : Prop := Claim7.holds Tryd.pinned (.plain (OpenSpec.ofChange respondWrongSpec)) respondWrongCard

/-- THE TIED CARD OF 'pantlerlaw24.RequestFields'. -/
def requestFieldsCard : Claim7 := { stood := { row := requestFieldsRow, standIns := [], harness := (true, "1a065f1bf1ce6d122fa63e3aa3e7b2d2499ccf883338aca5ef51c6d5757558d4"), looks := false }, kinds := [], alts := [], laidByText := true, laidKinds := [.data, .pinned], laidTests := true, laidLooks := .later }
def RequestFieldsCardSaid : Prop := Claim7.holds Tryd.pinned (.plain (OpenSpec.ofChange requestFieldsSpec)) requestFieldsCard

/-- THE TIED CARD OF 'pantlerlaw26.CondOwn'. -/
def condOwnCard : Claim7 := { stood := { row := condOwnRow, standIns := [], harness := (true, "1a065f1bf1ce6d122fa63e3aa3e7b2d2499ccf883338aca5ef51c6d5757558d4"), looks := false }, kinds := [], alts := [], laidByText := true, laidKinds := [.data, .data, .data, .data, .pinned], laidTests := true, laidLooks := .later }
def CondOwnCardSaid : Prop := Claim7.holds Tryd.pinned (.plain (OpenSpec.ofChange condOwnSpec)) condOwnCard

/-- THE SECOND FORM's CARD OF 'pantlerlaw27.RespondWrong'. -/
def respondWrongUptoCard : Claim7 := { stood := { row := respondWrongUptoRow, standIns := [], harness := (true, "1a065f1bf1ce6d122fa63e3aa3e7b2d2499ccf883338aca5ef51c6d5757558d4"), looks := false }, kinds := [], alts := [], laidByText := true, laidKinds := [.data, .data, .data], laidTests := true, laidLooks := .later }
def RespondWrongUptoCardSaid : Prop := Claim7.holds Tryd.pinned (.plain (OpenSpec.upto respondWrongSpec)) respondWrongUptoCard

/-- THE SECOND FORM's CARD OF 'pantlerlaw24.RequestFields'. -/
def requestFieldsUptoCard : Claim7 := { stood := { row := requestFieldsUptoRow, standIns := [], harness := (true, "1a065f1bf1ce6d122fa63e3aa3e7b2d2499ccf883338aca5ef51c6d5757558d4"), looks := false }, kinds := [], alts := [], laidByText := true, laidKinds := [.data, .pinned], laidTests := true, laidLooks := .later }
def RequestFieldsUptoCardSaid : Prop := Claim7.holds Tryd.pinned (.plain (OpenSpec.upto requestFieldsSpec)) requestFieldsUptoCard

/-- THE SECOND FORM's CARD OF 'pantlerlaw26.CondOwn'. -/
def condOwnUptoCard : Claim7 := { stood := { row := condOwnUptoRow, standIns := [], harness := (true, "1a065f1bf1ce6d122fa63e3aa3e7b2d2499ccf883338aca5ef51c6d5757558d4"), looks := false }, kinds := [], alts := [], laidByText := true, laidKinds := [.data, .data, .data, .data, .pinned], laidTests := true, laidLooks := .later }
def CondOwnUptoCardSaid : Prop := Claim7.holds Tryd.pinned (.plain (OpenSpec.upto condOwnSpec)) condOwnUptoCard
end Rows
end Go.Proofs.YtjjigngighneeaaDoor
