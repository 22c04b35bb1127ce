/-
  DERIVED. GIVEN WITH THE SEED: THE CARDS: each row of YtjfgphfdaghilaaGreatDoorRows.lean that lists a variable, with what it lists TIED to the program's text (the seventh form; the later family's looks); each row that meets fmt, with fmt's text TOLD by the authors' own Lean function (tested against real Go, not proved from fmt's source: count such statements apart). THE CARD IS WHAT COUNTS. Prove the row's statement (the work); the ties are given (YtjfgphfdaghilaaGreatDoorTie.lean); close each card by the builder's one call (the guide's Derived/Test/ToyasCard.lean, 'card_holds'). Laid BY PROGRAM, IN A SANDBOX (cutbox-door.mjs). By AI agents, Wed Nov 11 2026. No macro, syntax, notation, axiom, sorry.
-/
import Derived.Test.YtjfgphfdaghilaaGreatDoorRows
import GoSem.ClaimSeven
namespace Go.Proofs.YtjfgphfdaghilaaGreatDoor
namespace Rows

/-- THE TIED CARD OF 'ceefaxtop.WholeMinitel'. -/
def wholeMinitelCard : Claim7 := { stood := { row := wholeMinitelRow, standIns := [], harness := (true, "572b073cd3ce7eb8c9c9da55a4158d1a45a2808f1d931684d425b7c797f90c14"), looks := true }, kinds := [], alts := [], laidByText := true, laidKinds := [.sentinel, .sentinel, .sentinel, .sentinel, .sentinel, .sentinel], laidTests := true, laidLooks := .later }
def WholeMinitelCardSaid : Prop := Claim7.holds Tryz.pinned (.plain (OpenSpec.ofChange wholeMinitelSpec)) wholeMinitelCard

/-- THE TIED CARD OF 'ceefaxtop.WholeQuiet'. -/
def wholeQuietCard : Claim7 := { stood := { row := wholeQuietRow, standIns := [], harness := (true, "572b073cd3ce7eb8c9c9da55a4158d1a45a2808f1d931684d425b7c797f90c14"), looks := true }, kinds := [], alts := [], laidByText := true, laidKinds := [.sentinel, .sentinel, .sentinel, .sentinel, .sentinel, .sentinel], laidTests := true, laidLooks := .later }
def WholeQuietCardSaid : Prop := Claim7.holds Tryz.pinned (.plain (OpenSpec.ofChange wholeQuietSpec)) wholeQuietCard

/-- THE TIED CARD OF 'ceefaxlaw28.VideotexNews'. -/
def videotexNewsCard : Claim7 := { stood := { row := videotexNewsRow, standIns := [], harness := (true, "572b073cd3ce7eb8c9c9da55a4158d1a45a2808f1d931684d425b7c797f90c14"), looks := true }, kinds := [], alts := [], laidByText := true, laidKinds := [.sentinel, .sentinel, .sentinel, .sentinel, .sentinel, .sentinel], laidTests := true, laidLooks := .later }
def VideotexNewsCardSaid : Prop := Claim7.holds Tryz.pinned (.plain (OpenSpec.ofChange videotexNewsSpec)) videotexNewsCard

/-- THE TIED CARD OF 'ceefaxtop.WholeTwo'. -/
def wholeTwoCard : Claim7 := { stood := { row := wholeTwoRow, standIns := [], harness := (true, "572b073cd3ce7eb8c9c9da55a4158d1a45a2808f1d931684d425b7c797f90c14"), looks := true }, kinds := [], alts := [], laidByText := true, laidKinds := [.sentinel, .sentinel, .sentinel, .sentinel, .sentinel, .sentinel], laidTests := true, laidLooks := .later }
def WholeTwoCardSaid : Prop := Claim7.holds Tryz.pinned (.plain (OpenSpec.ofChange wholeTwoSpec)) wholeTwoCard

/-- THE SECOND FORM's CARD OF 'ceefaxtop.WholeMinitel'. -/
def wholeMinitelUptoCard : Claim7 := { stood := { row := wholeMinitelUptoRow, standIns := [], harness := (true, "572b073cd3ce7eb8c9c9da55a4158d1a45a2808f1d931684d425b7c797f90c14"), looks := true }, kinds := [], alts := [], laidByText := true, laidKinds := [.sentinel, .sentinel, .sentinel, .sentinel, .sentinel, .sentinel], laidTests := true, laidLooks := .later }
def WholeMinitelUptoCardSaid : Prop := Claim7.holds Tryz.pinned (.plain (OpenSpec.upto wholeMinitelSpec)) wholeMinitelUptoCard

/-- THE SECOND FORM's CARD OF 'ceefaxtop.WholeQuiet'. -/
def wholeQuietUptoCard : Claim7 := { stood := { row := wholeQuietUptoRow, standIns := [], harness := (true, "572b073cd3ce7eb8c9c9da55a4158d1a45a2808f1d931684d425b7c797f90c14"), looks := true }, kinds := [], alts := [], laidByText := true, laidKinds := [.sentinel, .sentinel, .sentinel, .sentinel, .sentinel, .sentinel], laidTests := true, laidLooks := .later }
def WholeQuietUptoCardSaid : Prop := Claim7.holds Tryz.pinned (.plain (OpenSpec.upto wholeQuietSpec)) wholeQuietUptoCard

/-- THE SECOND FORM's CARD OF 'ceefaxlaw28.VideotexNews'. -/
def videotexNewsUptoCard : Claim7 := { stood := { row := videotexNewsUptoRow, standIns := [], harness := (true, "572b073cd3ce7eb8c9c9da55a4158d1a45a2808f1d931684d425b7c797f90c14"), looks := true }, kinds := [], alts := [], laidByText := true, laidKinds := [.sentinel, .sentinel, .sentinel, .sentinel, .sentinel, .sentinel], laidTests := true, laidLooks := .later }
def VideotexNewsUptoCardSaid : Prop := Claim7.holds Tryz.pinned (.plain (OpenSpec.upto videotexNewsSpec)) videotexNewsUptoCard

/-- THE SECOND FORM's CARD OF 'ceefaxtop.WholeTwo'. -/
def wholeTwoUptoCard : Claim7 := { stood := { row := wholeTwoUptoRow, standIns := [], harness := (true, "572b073cd3ce7eb8c9c9da55a4158d1a45a2808f1d931684d425b7c797f90c14"), looks := true }, kinds := [], alts := [], laidByText := true, laidKinds := [.sentinel, .sentinel, .sentinel, .sentinel, .sentinel, .sentinel], laidTests := true, laidLooks := .later }
def WholeTwoUptoCardSaid : Prop := Claim7.holds Tryz.pinned (.plain (OpenSpec.upto wholeTwoSpec)) wholeTwoUptoCard
end Rows
end Go.Proofs.YtjfgphfdaghilaaGreatDoor
