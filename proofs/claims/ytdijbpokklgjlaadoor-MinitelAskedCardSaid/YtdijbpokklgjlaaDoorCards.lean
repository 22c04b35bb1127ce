/-
  DERIVED. GIVEN WITH THE SEED: THE CARDS: each row of YtdijbpokklgjlaaDoorRows.lean that lists a variable, with what it lists TIED to the program's text (the seventh form; the later family's looks); each row that meets fmt, with fmt's text TOLD by the authors' own Lean function (tested against real Go, not proved from fmt's source: count such statements apart). THE CARD IS WHAT COUNTS. Prove the row's statement (the work); the ties are given (YtdijbpokklgjlaaDoorTie.lean); close each card by the builder's one call (the guide's Derived/Test/ToyasCard.lean, 'card_holds'). Laid BY PROGRAM, IN A SANDBOX (cutbox-door.mjs). By AI agents, Wed Nov 11 2026. No macro, syntax, notation, axiom, sorry.
-/
import Derived.Test.YtdijbpokklgjlaaDoorRows
import GoSem.ClaimSeven
namespace Go.Proofs.YtdijbpokklgjlaaDoor
namespace Rows

/-- THE TIED CARD OF 'ceefaxlaw27.MinitelAsked'. -/
def minitelAskedCard : Claim7 := { stood := { row := minitelAskedRow, standIns := [], harness := (true, "9d6a270a8335586c50dfba5f8ece8abe6628bea0eda9227a49bc0ed53d51b4ce"), looks := false }, kinds := [], alts := [], laidByText := true, laidKinds := [.sentinel], laidTests := true, laidLooks := .later }
def MinitelAskedCardSaid : Prop := Claim7.holds Tryd.pinned (.plain (OpenSpec.ofChange minitelAskedSpec)) minitelAskedCard

/-- THE SECOND FORM's CARD OF 'ceefaxlaw27.MinitelAsked'. -/
def minitelAskedUptoCard : Claim7 := { stood := { row := minitelAskedUptoRow, standIns := [], harness := (true, "9d6a270a8335586c50dfba5f8ece8abe6628bea0eda9227a49bc0ed53d51b4ce"), looks := false }, kinds := [], alts := [], laidByText := true, laidKinds := [.sentinel], laidTests := true, laidLooks := .later }
def MinitelAskedUptoCardSaid : Prop := Claim7.holds Tryd.pinned (.plain (OpenSpec.upto minitelAskedSpec)) minitelAskedUptoCard
end Rows
end Go.Proofs.YtdijbpokklgjlaaDoor
