/-
  DERIVED. GIVEN WITH THE SEED: THE CARDS: each row of YtdijbpokklgjlaaGreatDoorRows.lean that lists a variable, with what it lists TIED to the program's text (the seventh form; the later family's looks); each row that meets fmt, with fmt's text TOLD by the authors' own Lean function (tested against real Go, not proved from fmt's source: count such statements apart). THE CARD IS WHAT COUNTS. Prove the row's statement (the work); the ties are given (YtdijbpokklgjlaaGreatDoorTie.lean); close each card by the builder's one call (the guide's Derived/Test/ToyasCard.lean, 'card_holds'). Laid BY PROGRAM, IN A SANDBOX (cutbox-door.mjs). By AI agents, Wed Nov 11 2026. No macro, syntax, notation, axiom, sorry.
-/
import Derived.Test.YtdijbpokklgjlaaGreatDoorRows
import GoSem.ClaimSeven
namespace Go.Proofs.YtdijbpokklgjlaaGreatDoor
namespace Rows

/-- THE TIED CARD OF 'ceefaxlaw27.MinitelAnswers'. -/
def minitelAnswersCard : Claim7 := { stood := { row := minitelAnswersRow, standIns := [], harness := (true, "4a33334ff3328f82be4034f0ad898c157e983d9862e5eaee28f9177b331f57c6"), looks := false }, kinds := [], alts := [], laidByText := true, laidKinds := [.sentinel], laidTests := true, laidLooks := .later }
def MinitelAnswersCardSaid : Prop := Claim7.holds Tryz.pinned (.plain (OpenSpec.ofChange minitelAnswersSpec)) minitelAnswersCard

/-- THE TIED CARD OF 'ceefaxlaw27.MinitelLost'. -/
def minitelLostCard : Claim7 := { stood := { row := minitelLostRow, standIns := [], harness := (true, "4a33334ff3328f82be4034f0ad898c157e983d9862e5eaee28f9177b331f57c6"), looks := false }, kinds := [], alts := [], laidByText := true, laidKinds := [.sentinel], laidTests := true, laidLooks := .later }
def MinitelLostCardSaid : Prop := Claim7.holds Tryz.pinned (.plain (OpenSpec.ofChange minitelLostSpec)) minitelLostCard

/-- THE TIED CARD OF 'ceefaxlaw27.MinitelSocket'. -/
def minitelSocketCard : Claim7 := { stood := { row := minitelSocketRow, standIns := [], harness := (true, "4a33334ff3328f82be4034f0ad898c157e983d9862e5eaee28f9177b331f57c6"), looks := false }, kinds := [], alts := [], laidByText := true, laidKinds := [.sentinel], laidTests := true, laidLooks := .later }
def MinitelSocketCardSaid : Prop := Claim7.holds Tryz.pinned (.plain (OpenSpec.ofChange minitelSocketSpec)) minitelSocketCard

/-- THE TIED CARD OF 'ceefaxlaw27.MinitelKeys'. -/
def minitelKeysCard : Claim7 := { stood := { row := minitelKeysRow, standIns := [], harness := (true, "4a33334ff3328f82be4034f0ad898c157e983d9862e5eaee28f9177b331f57c6"), looks := false }, kinds := [], alts := [], laidByText := true, laidKinds := [.sentinel], laidTests := true, laidLooks := .later }
def MinitelKeysCardSaid : Prop := Claim7.holds Tryz.pinned (.plain (OpenSpec.ofChange minitelKeysSpec)) minitelKeysCard

/-- THE SECOND FORM's CARD OF 'ceefaxlaw27.MinitelAnswers'. -/
def minitelAnswersUptoCard : Claim7 := { stood := { row := minitelAnswersUptoRow, standIns := [], harness := (true, "4a33334ff3328f82be4034f0ad898c157e983d9862e5eaee28f9177b331f57c6"), looks := false }, kinds := [], alts := [], laidByText := true, laidKinds := [.sentinel], laidTests := true, laidLooks := .later }
def MinitelAnswersUptoCardSaid : Prop := Claim7.holds Tryz.pinned (.plain (OpenSpec.upto minitelAnswersSpec)) minitelAnswersUptoCard

/-- THE SECOND FORM's CARD OF 'ceefaxlaw27.MinitelLost'. -/
def minitelLostUptoCard : Claim7 := { stood := { row := minitelLostUptoRow, standIns := [], harness := (true, "4a33334ff3328f82be4034f0ad898c157e983d9862e5eaee28f9177b331f57c6"), looks := false }, kinds := [], alts := [], laidByText := true, laidKinds := [.sentinel], laidTests := true, laidLooks := .later }
def MinitelLostUptoCardSaid : Prop := Claim7.holds Tryz.pinned (.plain (OpenSpec.upto minitelLostSpec)) minitelLostUptoCard

/-- THE SECOND FORM's CARD OF 'ceefaxlaw27.MinitelSocket'. -/
def minitelSocketUptoCard : Claim7 := { stood := { row := minitelSocketUptoRow, standIns := [], harness := (true, "4a33334ff3328f82be4034f0ad898c157e983d9862e5eaee28f9177b331f57c6"), looks := false }, kinds := [], alts := [], laidByText := true, laidKinds := [.sentinel], laidTests := true, laidLooks := .later }
def MinitelSocketUptoCardSaid : Prop := Claim7.holds Tryz.pinned (.plain (OpenSpec.upto minitelSocketSpec)) minitelSocketUptoCard

/-- THE SECOND FORM's CARD OF 'ceefaxlaw27.MinitelKeys'. -/
def minitelKeysUptoCard : Claim7 := { stood := { row := minitelKeysUptoRow, standIns := [], harness := (true, "4a33334ff3328f82be4034f0ad898c157e983d9862e5eaee28f9177b331f57c6"), looks := false }, kinds := [], alts := [], laidByText := true, laidKinds := [.sentinel], laidTests := true, laidLooks := .later }
def MinitelKeysUptoCardSaid : Prop := Claim7.holds Tryz.pinned (.plain (OpenSpec.upto minitelKeysSpec)) minitelKeysUptoCard
end Rows
end Go.Proofs.YtdijbpokklgjlaaGreatDoor
