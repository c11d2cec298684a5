/-
  DERIVED. GIVEN WITH THE SEED: THE CARDS: each row of YtnpkfhnhcadgeaaDoorRows.lean that lists a variable, with what it lists TIED to the program's text (the seventh form; the later family's looks); each row that meets fmt, with fmt's text TOLD by the authors' own Lean function (tested against real Go, not proved from fmt's source: count such statements apart). THE CARD IS WHAT COUNTS. Prove the row's statement (the work); the ties are given (YtnpkfhnhcadgeaaDoorTie.lean); close each card by the builder's one call (the guide's Derived/Test/ToyasCard.lean, 'card_holds'). Laid BY PROGRAM, IN A SANDBOX (cutbox-door.mjs). By AI agents, Wed Nov 11 2026. No macro, syntax, notation, axiom, sorry.
-/
import Derived.Test.YtnpkfhnhcadgeaaDoorRows
import GoSem.ClaimSeven
namespace Go.Proofs.YtnpkfhnhcadgeaaDoor
namespace Rows

/-- THE TIED CARD OF 'pantlerlaw11.InodeKinds'. -/
def inodeKindsCard : Claim7 := { stood := { row := inodeKindsRow, standIns := [], harness := (true, "739150098d5172cae517de61a65796aed09a2b4257912cab488bbf758b096d51"), looks := false }, kinds := [], alts := [], laidByText := true, laidKinds := [.data, .pinned], laidTests := true, laidLooks := .later }
def InodeKindsCardSaid : Prop := Claim7.holds Tryd.pinned (.plain (OpenSpec.ofChange inodeKindsSpec)) inodeKindsCard

/-- THE TIED CARD OF 'pantlerlaw11.InodeBack'. -/
def inodeBackCard : Claim7 := { stood := { row := inodeBackRow, standIns := [], harness := (true, "739150098d5172cae517de61a65796aed09a2b4257912cab488bbf758b096d51"), looks := false }, kinds := [], alts := [], laidByText := true, laidKinds := [.data, .pinned], laidTests := true, laidLooks := .later }
def InodeBackCardSaid : Prop := Claim7.holds Tryd.pinned (.plain (OpenSpec.ofChange inodeBackSpec)) inodeBackCard

/-- THE SECOND FORM's CARD OF 'pantlerlaw11.InodeKinds'. -/
def inodeKindsUptoCard : Claim7 := { stood := { row := inodeKindsUptoRow, standIns := [], harness := (true, "739150098d5172cae517de61a65796aed09a2b4257912cab488bbf758b096d51"), looks := false }, kinds := [], alts := [], laidByText := true, laidKinds := [.data, .pinned], laidTests := true, laidLooks := .later }
def InodeKindsUptoCardSaid : Prop := Claim7.holds Tryd.pinned (.plain (OpenSpec.upto inodeKindsSpec)) inodeKindsUptoCard

/-- THE SECOND FORM's CARD OF 'pantlerlaw11.InodeBack'. -/
def inodeBackUptoCard : Claim7 := { stood := { row := inodeBackUptoRow, standIns := [], harness := (true, "739150098d5172cae517de61a65796aed09a2b4257912cab488bbf758b096d51"), looks := false }, kinds := [], alts := [], laidByText := true, laidKinds := [.data, .pinned], laidTests := true, laidLooks := .later }
def InodeBackUptoCardSaid : Prop := Claim7.holds Tryd.pinned (.plain (OpenSpec.upto inodeBackSpec)) inodeBackUptoCard
end Rows
end Go.Proofs.YtnpkfhnhcadgeaaDoor
