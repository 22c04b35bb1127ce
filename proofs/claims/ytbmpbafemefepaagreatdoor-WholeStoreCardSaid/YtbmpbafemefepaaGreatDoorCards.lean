/-
  DERIVED. GIVEN WITH THE SEED: THE CARDS: each row of YtbmpbafemefepaaGreatDoorRows.lean that lists a variable, with what it lists TIED to the program's text (the seventh form; the later family's looks); each row that meets fmt, with fmt's text TOLD by the authors' own Lean function (tested against real Go, not proved from fmt's source: count such statements apart). THE CARD IS WHAT COUNTS. Prove the row's statement (the work); the ties are given (YtbmpbafemefepaaGreatDoorTie.lean); close each card by the builder's one call (the guide's Derived/Test/ToyasCard.lean, 'card_holds'). Laid BY PROGRAM, IN A SANDBOX (cutbox-door.mjs). By AI agents, Wed Nov 11 2026. No macro, syntax, notation, axiom, sorry.
-/
import Derived.Test.YtbmpbafemefepaaGreatDoorRows
import GoSem.ClaimSeven
namespace Go.Proofs.YtbmpbafemefepaaGreatDoor
namespace Rows

/-- THE TIED CARD OF 'ceefaxtop.WholeStore'. -/
def wholeStoreCard : Claim7 := { stood := { row := wholeStoreRow, standIns := [], harness := (true, "7e0b9da0fe405078462e2d368a247fce13eba4bb2680747aa95ac2f7b4555550"), looks := true }, kinds := [], alts := [], laidByText := true, laidKinds := [.sentinel, .sentinel, .sentinel, .sentinel, .sentinel, .sentinel], laidTests := true, laidLooks := .later }
def WholeStoreCardSaid : Prop := Claim7.holds Tryz.pinned (.plain (OpenSpec.ofChange wholeStoreSpec)) wholeStoreCard

/-- THE TIED CARD OF 'ceefaxtop.WholeHidden'. -/
def wholeHiddenCard : Claim7 := { stood := { row := wholeHiddenRow, standIns := [], harness := (true, "7e0b9da0fe405078462e2d368a247fce13eba4bb2680747aa95ac2f7b4555550"), looks := true }, kinds := [], alts := [], laidByText := true, laidKinds := [.sentinel, .sentinel, .sentinel, .sentinel, .sentinel, .sentinel], laidTests := true, laidLooks := .later }
def WholeHiddenCardSaid : Prop := Claim7.holds Tryz.pinned (.plain (OpenSpec.ofChange wholeHiddenSpec)) wholeHiddenCard

/-- THE SECOND FORM's CARD OF 'ceefaxtop.WholeStore'. -/
def wholeStoreUptoCard : Claim7 := { stood := { row := wholeStoreUptoRow, standIns := [], harness := (true, "7e0b9da0fe405078462e2d368a247fce13eba4bb2680747aa95ac2f7b4555550"), looks := true }, kinds := [], alts := [], laidByText := true, laidKinds := [.sentinel, .sentinel, .sentinel, .sentinel, .sentinel, .sentinel], laidTests := true, laidLooks := .later }
def WholeStoreUptoCardSaid : Prop := Claim7.holds Tryz.pinned (.plain (OpenSpec.upto wholeStoreSpec)) wholeStoreUptoCard

/-- THE SECOND FORM's CARD OF 'ceefaxtop.WholeHidden'. -/
def wholeHiddenUptoCard : Claim7 := { stood := { row := wholeHiddenUptoRow, standIns := [], harness := (true, "7e0b9da0fe405078462e2d368a247fce13eba4bb2680747aa95ac2f7b4555550"), looks := true }, kinds := [], alts := [], laidByText := true, laidKinds := [.sentinel, .sentinel, .sentinel, .sentinel, .sentinel, .sentinel], laidTests := true, laidLooks := .later }
def WholeHiddenUptoCardSaid : Prop := Claim7.holds Tryz.pinned (.plain (OpenSpec.upto wholeHiddenSpec)) wholeHiddenUptoCard
end Rows
end Go.Proofs.YtbmpbafemefepaaGreatDoor
