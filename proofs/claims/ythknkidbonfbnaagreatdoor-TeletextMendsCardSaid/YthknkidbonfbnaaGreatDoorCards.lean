/-
  DERIVED. GIVEN WITH THE SEED: THE CARDS: each row of YthknkidbonfbnaaGreatDoorRows.lean that lists a variable, with what it lists TIED to the program's text (the seventh form; the later family's looks); each row that meets fmt, with fmt's text TOLD by the authors' own Lean function (tested against real Go, not proved from fmt's source: count such statements apart). THE CARD IS WHAT COUNTS. Prove the row's statement (the work); the ties are given (YthknkidbonfbnaaGreatDoorTie.lean); close each card by the builder's one call (the guide's Derived/Test/ToyasCard.lean, 'card_holds'). Laid BY PROGRAM, IN A SANDBOX (cutbox-door.mjs). By AI agents, Wed Nov 11 2026. No macro, syntax, notation, axiom, sorry.
-/
import Derived.Test.YthknkidbonfbnaaGreatDoorRows
import GoSem.ClaimSeven
namespace Go.Proofs.YthknkidbonfbnaaGreatDoor
namespace Rows

/-- THE TIED CARD OF 'ceefaxlaw14.AcquireMends'. -/
def acquireMendsCard : Claim7 := { stood := { row := acquireMendsRow, standIns := [], harness := (true, "d049739de6b1b1ab13a3764ce819784aab451d76973f3844fff3c1e5da5a02b6"), looks := true }, kinds := [], alts := [], laidByText := true, laidKinds := [.sentinel, .sentinel, .sentinel, .sentinel, .sentinel, .sentinel], laidTests := true, laidLooks := .later }
def AcquireMendsCardSaid : Prop := Claim7.holds Tryz.pinned (.plain (OpenSpec.ofChange acquireMendsSpec)) acquireMendsCard

/-- THE TIED CARD OF 'ceefaxlaw19.TeletextFinds'. -/
def teletextFindsCard : Claim7 := { stood := { row := teletextFindsRow, standIns := [], harness := (true, "d049739de6b1b1ab13a3764ce819784aab451d76973f3844fff3c1e5da5a02b6"), looks := true }, kinds := [], alts := [], laidByText := true, laidKinds := [.sentinel, .sentinel, .sentinel, .sentinel], laidTests := true, laidLooks := .later }
def TeletextFindsCardSaid : Prop := Claim7.holds Tryz.pinned (.plain (OpenSpec.ofChange teletextFindsSpec)) teletextFindsCard

/-- THE TIED CARD OF 'ceefaxlaw19.TeletextHold'. -/
def teletextHoldCard : Claim7 := { stood := { row := teletextHoldRow, standIns := [], harness := (true, "d049739de6b1b1ab13a3764ce819784aab451d76973f3844fff3c1e5da5a02b6"), looks := true }, kinds := [], alts := [], laidByText := true, laidKinds := [.sentinel, .sentinel, .sentinel, .sentinel], laidTests := true, laidLooks := .later }
def TeletextHoldCardSaid : Prop := Claim7.holds Tryz.pinned (.plain (OpenSpec.ofChange teletextHoldSpec)) teletextHoldCard

/-- THE TIED CARD OF 'ceefaxlaw19.TeletextMends'. -/
def teletextMendsCard : Claim7 := { stood := { row := teletextMendsRow, standIns := [], harness := (true, "d049739de6b1b1ab13a3764ce819784aab451d76973f3844fff3c1e5da5a02b6"), looks := true }, kinds := [], alts := [], laidByText := true, laidKinds := [.sentinel, .sentinel, .sentinel, .sentinel], laidTests := true, laidLooks := .later }
def TeletextMendsCardSaid : Prop := Claim7.holds Tryz.pinned (.plain (OpenSpec.ofChange teletextMendsSpec)) teletextMendsCard

/-- THE SECOND FORM's CARD OF 'ceefaxlaw14.AcquireMends'. -/
def acquireMendsUptoCard : Claim7 := { stood := { row := acquireMendsUptoRow, standIns := [], harness := (true, "d049739de6b1b1ab13a3764ce819784aab451d76973f3844fff3c1e5da5a02b6"), looks := true }, kinds := [], alts := [], laidByText := true, laidKinds := [.sentinel, .sentinel, .sentinel, .sentinel, .sentinel, .sentinel], laidTests := true, laidLooks := .later }
def AcquireMendsUptoCardSaid : Prop := Claim7.holds Tryz.pinned (.plain (OpenSpec.upto acquireMendsSpec)) acquireMendsUptoCard

/-- THE SECOND FORM's CARD OF 'ceefaxlaw19.TeletextFinds'. -/
def teletextFindsUptoCard : Claim7 := { stood := { row := teletextFindsUptoRow, standIns := [], harness := (true, "d049739de6b1b1ab13a3764ce819784aab451d76973f3844fff3c1e5da5a02b6"), looks := true }, kinds := [], alts := [], laidByText := true, laidKinds := [.sentinel, .sentinel, .sentinel, .sentinel], laidTests := true, laidLooks := .later }
def TeletextFindsUptoCardSaid : Prop := Claim7.holds Tryz.pinned (.plain (OpenSpec.upto teletextFindsSpec)) teletextFindsUptoCard

/-- THE SECOND FORM's CARD OF 'ceefaxlaw19.TeletextHold'. -/
def teletextHoldUptoCard : Claim7 := { stood := { row := teletextHoldUptoRow, standIns := [], harness := (true, "d049739de6b1b1ab13a3764ce819784aab451d76973f3844fff3c1e5da5a02b6"), looks := true }, kinds := [], alts := [], laidByText := true, laidKinds := [.sentinel, .sentinel, .sentinel, .sentinel], laidTests := true, laidLooks := .later }
def TeletextHoldUptoCardSaid : Prop := Claim7.holds Tryz.pinned (.plain (OpenSpec.upto teletextHoldSpec)) teletextHoldUptoCard

/-- THE SECOND FORM's CARD OF 'ceefaxlaw19.TeletextMends'. -/
def teletextMendsUptoCard : Claim7 := { stood := { row := teletextMendsUptoRow, standIns := [], harness := (true, "d049739de6b1b1ab13a3764ce819784aab451d76973f3844fff3c1e5da5a02b6"), looks := true }, kinds := [], alts := [], laidByText := true, laidKinds := [.sentinel, .sentinel, .sentinel, .sentinel], laidTests := true, laidLooks := .later }
def TeletextMendsUptoCardSaid : Prop := Claim7.holds Tryz.pinned (.plain (OpenSpec.upto teletextMendsSpec)) teletextMendsUptoCard
end Rows
end Go.Proofs.YthknkidbonfbnaaGreatDoor
