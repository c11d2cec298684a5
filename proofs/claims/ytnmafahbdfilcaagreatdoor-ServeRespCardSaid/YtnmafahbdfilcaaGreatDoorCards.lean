/-
  DERIVED. GIVEN WITH THE SEED: THE CARDS: each row of YtnmafahbdfilcaaGreatDoorRows.lean that lists a variable, with what it lists TIED to the program's text (the seventh form; the later family's looks); each row that meets fmt, with fmt's text TOLD by the authors' own Lean function (tested against real Go, not proved from fmt's source: count such statements apart). THE CARD IS WHAT COUNTS. Prove the row's statement (the work); the ties are given (YtnmafahbdfilcaaGreatDoorTie.lean); close each card by the builder's one call (the guide's Derived/Test/ToyasCard.lean, 'card_holds'). Laid BY PROGRAM, IN A SANDBOX (cutbox-door.mjs). By AI agents, Wed Nov 11 2026. No macro, syntax, notation, axiom, sorry.
-/
import Derived.Test.YtnmafahbdfilcaaGreatDoorRows
import GoSem.ClaimSeven
namespace Go.Proofs.YtnmafahbdfilcaaGreatDoor
namespace Rows

/-- THE TIED CARD OF 'pantlerlaw27.RespondLength'. -/
def respondLengthCard : Claim7 := { stood := { row := respondLengthRow, standIns := [], harness := (true, "7d653aaa14e757305a4993a9ba9f808f8cef805df7be0949f6b50116da2d2452"), looks := false }, kinds := [], alts := [], laidByText := true, laidKinds := [.data, .data, .data, .data, .pinned], laidTests := true, laidLooks := .later }
def RespondLengthCardSaid : Prop := Claim7.holds Tryz.pinned (.plain (OpenSpec.ofChange respondLengthSpec)) respondLengthCard

/-- THE TIED CARD OF 'pantlerlaw27.RespondForm'. -/
def respondFormCard : Claim7 := { stood := { row := respondFormRow, standIns := [], harness := (true, "7d653aaa14e757305a4993a9ba9f808f8cef805df7be0949f6b50116da2d2452"), looks := false }, kinds := [], alts := [], laidByText := true, laidKinds := [.data, .data, .data, .data, .pinned], laidTests := true, laidLooks := .later }
def RespondFormCardSaid : Prop := Claim7.holds Tryz.pinned (.plain (OpenSpec.ofChange respondFormSpec)) respondFormCard

/-- THE TIED CARD OF 'pantlerlaw28.ServeResp'. -/
def serveRespCard : Claim7 := { stood := { row := serveRespRow, standIns := [], harness := (true, "7d653aaa14e757305a4993a9ba9f808f8cef805df7be0949f6b50116da2d2452"), looks := false }, kinds := [], alts := [], laidByText := true, laidKinds := [.data, .data, .data, .data, .pinned], laidTests := true, laidLooks := .later }
def ServeRespCardSaid : Prop := Claim7.holds Tryz.pinned (.plain (OpenSpec.ofChange serveRespSpec)) serveRespCard

/-- THE TIED CARD OF 'pantlerlaw28.ServeStays'. -/
def serveStaysCard : Claim7 := { stood := { row := serveStaysRow, standIns := [], harness := (true, "7d653aaa14e757305a4993a9ba9f808f8cef805df7be0949f6b50116da2d2452"), looks := false }, kinds := [], alts := [], laidByText := true, laidKinds := [.data, .data, .data, .data, .pinned], laidTests := true, laidLooks := .later }
def ServeStaysCardSaid : Prop := Claim7.holds Tryz.pinned (.plain (OpenSpec.ofChange serveStaysSpec)) serveStaysCard

/-- THE TIED CARD OF 'pantlerlaw28.ServeNil'. -/
def serveNilCard : Claim7 := { stood := { row := serveNilRow, standIns := [], harness := (true, "7d653aaa14e757305a4993a9ba9f808f8cef805df7be0949f6b50116da2d2452"), looks := false }, kinds := [], alts := [], laidByText := true, laidKinds := [.data, .data, .data, .data, .pinned], laidTests := true, laidLooks := .later }
def ServeNilCardSaid : Prop := Claim7.holds Tryz.pinned (.plain (OpenSpec.ofChange serveNilSpec)) serveNilCard

/-- THE TIED CARD OF 'pantlerlaw28.ServePipes'. -/
def servePipesCard : Claim7 := { stood := { row := servePipesRow, standIns := [], harness := (true, "7d653aaa14e757305a4993a9ba9f808f8cef805df7be0949f6b50116da2d2452"), looks := false }, kinds := [], alts := [], laidByText := true, laidKinds := [.data, .data, .data, .data, .pinned], laidTests := true, laidLooks := .later }
def ServePipesCardSaid : Prop := Claim7.holds Tryz.pinned (.plain (OpenSpec.ofChange servePipesSpec)) servePipesCard

/-- THE SECOND FORM's CARD OF 'pantlerlaw27.RespondLength'. -/
def respondLengthUptoCard : Claim7 := { stood := { row := respondLengthUptoRow, standIns := [], harness := (true, "7d653aaa14e757305a4993a9ba9f808f8cef805df7be0949f6b50116da2d2452"), looks := false }, kinds := [], alts := [], laidByText := true, laidKinds := [.data, .data, .data, .data, .pinned], laidTests := true, laidLooks := .later }
def RespondLengthUptoCardSaid : Prop := Claim7.holds Tryz.pinned (.plain (OpenSpec.upto respondLengthSpec)) respondLengthUptoCard

/-- THE SECOND FORM's CARD OF 'pantlerlaw27.RespondForm'. -/
def respondFormUptoCard : Claim7 := { stood := { row := respondFormUptoRow, standIns := [], harness := (true, "7d653aaa14e757305a4993a9ba9f808f8cef805df7be0949f6b50116da2d2452"), looks := false }, kinds := [], alts := [], laidByText := true, laidKinds := [.data, .data, .data, .data, .pinned], laidTests := true, laidLooks := .later }
def RespondFormUptoCardSaid : Prop := Claim7.holds Tryz.pinned (.plain (OpenSpec.upto respondFormSpec)) respondFormUptoCard

/-- THE SECOND FORM's CARD OF 'pantlerlaw28.ServeResp'. -/
def serveRespUptoCard : Claim7 := { stood := { row := serveRespUptoRow, standIns := [], harness := (true, "7d653aaa14e757305a4993a9ba9f808f8cef805df7be0949f6b50116da2d2452"), looks := false }, kinds := [], alts := [], laidByText := true, laidKinds := [.data, .data, .data, .data, .pinned], laidTests := true, laidLooks := .later }
def ServeRespUptoCardSaid : Prop := Claim7.holds Tryz.pinned (.plain (OpenSpec.upto serveRespSpec)) serveRespUptoCard

/-- THE SECOND FORM's CARD OF 'pantlerlaw28.ServeStays'. -/
def serveStaysUptoCard : Claim7 := { stood := { row := serveStaysUptoRow, standIns := [], harness := (true, "7d653aaa14e757305a4993a9ba9f808f8cef805df7be0949f6b50116da2d2452"), looks := false }, kinds := [], alts := [], laidByText := true, laidKinds := [.data, .data, .data, .data, .pinned], laidTests := true, laidLooks := .later }
def ServeStaysUptoCardSaid : Prop := Claim7.holds Tryz.pinned (.plain (OpenSpec.upto serveStaysSpec)) serveStaysUptoCard

/-- THE SECOND FORM's CARD OF 'pantlerlaw28.ServeNil'. -/
def serveNilUptoCard : Claim7 := { stood := { row := serveNilUptoRow, standIns := [], harness := (true, "7d653aaa14e757305a4993a9ba9f808f8cef805df7be0949f6b50116da2d2452"), looks := false }, kinds := [], alts := [], laidByText := true, laidKinds := [.data, .data, .data, .data, .pinned], laidTests := true, laidLooks := .later }
def ServeNilUptoCardSaid : Prop := Claim7.holds Tryz.pinned (.plain (OpenSpec.upto serveNilSpec)) serveNilUptoCard

/-- THE SECOND FORM's CARD OF 'pantlerlaw28.ServePipes'. -/
def servePipesUptoCard : Claim7 := { stood := { row := servePipesUptoRow, standIns := [], harness := (true, "7d653aaa14e757305a4993a9ba9f808f8cef805df7be0949f6b50116da2d2452"), looks := false }, kinds := [], alts := [], laidByText := true, laidKinds := [.data, .data, .data, .data, .pinned], laidTests := true, laidLooks := .later }
def ServePipesUptoCardSaid : Prop := Claim7.holds Tryz.pinned (.plain (OpenSpec.upto servePipesSpec)) servePipesUptoCard
end Rows
end Go.Proofs.YtnmafahbdfilcaaGreatDoor
