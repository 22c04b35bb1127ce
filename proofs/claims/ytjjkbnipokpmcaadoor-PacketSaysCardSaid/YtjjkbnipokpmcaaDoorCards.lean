/-
  DERIVED. GIVEN WITH THE SEED: THE CARDS: each row of YtjjkbnipokpmcaaDoorRows.lean that lists a variable, with what it lists TIED to the program's text (the seventh form; the later family's looks); each row that meets fmt, with fmt's text TOLD by the authors' own Lean function (tested against real Go, not proved from fmt's source: count such statements apart). THE CARD IS WHAT COUNTS. Prove the row's statement (the work); the ties are given (YtjjkbnipokpmcaaDoorTie.lean); close each card by the builder's one call (the guide's Derived/Test/ToyasCard.lean, 'card_holds'). Laid BY PROGRAM, IN A SANDBOX (cutbox-door.mjs). By AI agents, Wed Nov 11 2026. No macro, syntax, notation, axiom, sorry.
-/
import Derived.Test.YtjjkbnipokpmcaaDoorRows
import GoSem.ClaimSeven
namespace Go.Proofs.YtjjkbnipokpmcaaDoor
namespace Rows

/-- THE TIED CARD OF 'ceefaxlaw7.PacketSays'. -/
def packetSaysCard : Claim7 := { stood := { row := packetSaysRow, standIns := [], harness := (true, "e7ce4f5cc8be3e762357aed64c77bc51b7d5d0161c4cbe31846520439cd709e7"), looks := true }, kinds := [], alts := [], laidByText := true, laidKinds := [.sentinel, .sentinel, .sentinel, .sentinel, .sentinel, .sentinel], laidTests := true, laidLooks := .later }
def PacketSaysCardSaid : Prop := Claim7.holds Tryd.pinned (.plain (OpenSpec.ofChange packetSaysSpec)) packetSaysCard

/-- THE TIED CARD OF 'ceefaxlaw7.PacketBack'. -/
def packetBackCard : Claim7 := { stood := { row := packetBackRow, standIns := [], harness := (true, "e7ce4f5cc8be3e762357aed64c77bc51b7d5d0161c4cbe31846520439cd709e7"), looks := true }, kinds := [], alts := [], laidByText := true, laidKinds := [.sentinel, .sentinel, .sentinel, .sentinel, .sentinel, .sentinel], laidTests := true, laidLooks := .later }
def PacketBackCardSaid : Prop := Claim7.holds Tryd.pinned (.plain (OpenSpec.ofChange packetBackSpec)) packetBackCard

/-- THE TIED CARD OF 'ceefaxlaw7.PacketKinds'. -/
def packetKindsCard : Claim7 := { stood := { row := packetKindsRow, standIns := [], harness := (true, "e7ce4f5cc8be3e762357aed64c77bc51b7d5d0161c4cbe31846520439cd709e7"), looks := true }, kinds := [], alts := [], laidByText := true, laidKinds := [.sentinel, .sentinel, .sentinel, .sentinel, .sentinel, .sentinel], laidTests := true, laidLooks := .later }
def PacketKindsCardSaid : Prop := Claim7.holds Tryd.pinned (.plain (OpenSpec.ofChange packetKindsSpec)) packetKindsCard

/-- THE TIED CARD OF 'ceefaxlaw7.PacketUnlike'. -/
def packetUnlikeCard : Claim7 := { stood := { row := packetUnlikeRow, standIns := [], harness := (true, "e7ce4f5cc8be3e762357aed64c77bc51b7d5d0161c4cbe31846520439cd709e7"), looks := true }, kinds := [], alts := [], laidByText := true, laidKinds := [.sentinel, .sentinel, .sentinel, .sentinel, .sentinel, .sentinel], laidTests := true, laidLooks := .later }
def PacketUnlikeCardSaid : Prop := Claim7.holds Tryd.pinned (.plain (OpenSpec.ofChange packetUnlikeSpec)) packetUnlikeCard

/-- THE SECOND FORM's CARD OF 'ceefaxlaw7.PacketSays'. -/
def packetSaysUptoCard : Claim7 := { stood := { row := packetSaysUptoRow, standIns := [], harness := (true, "e7ce4f5cc8be3e762357aed64c77bc51b7d5d0161c4cbe31846520439cd709e7"), looks := true }, kinds := [], alts := [], laidByText := true, laidKinds := [.sentinel, .sentinel, .sentinel, .sentinel, .sentinel, .sentinel], laidTests := true, laidLooks := .later }
def PacketSaysUptoCardSaid : Prop := Claim7.holds Tryd.pinned (.plain (OpenSpec.upto packetSaysSpec)) packetSaysUptoCard

/-- THE SECOND FORM's CARD OF 'ceefaxlaw7.PacketBack'. -/
def packetBackUptoCard : Claim7 := { stood := { row := packetBackUptoRow, standIns := [], harness := (true, "e7ce4f5cc8be3e762357aed64c77bc51b7d5d0161c4cbe31846520439cd709e7"), looks := true }, kinds := [], alts := [], laidByText := true, laidKinds := [.sentinel, .sentinel, .sentinel, .sentinel, .sentinel, .sentinel], laidTests := true, laidLooks := .later }
def PacketBackUptoCardSaid : Prop := Claim7.holds Tryd.pinned (.plain (OpenSpec.upto packetBackSpec)) packetBackUptoCard

/-- THE SECOND FORM's CARD OF 'ceefaxlaw7.PacketKinds'. -/
def packetKindsUptoCard : Claim7 := { stood := { row := packetKindsUptoRow, standIns := [], harness := (true, "e7ce4f5cc8be3e762357aed64c77bc51b7d5d0161c4cbe31846520439cd709e7"), looks := true }, kinds := [], alts := [], laidByText := true, laidKinds := [.sentinel, .sentinel, .sentinel, .sentinel, .sentinel, .sentinel], laidTests := true, laidLooks := .later }
def PacketKindsUptoCardSaid : Prop := Claim7.holds Tryd.pinned (.plain (OpenSpec.upto packetKindsSpec)) packetKindsUptoCard

/-- THE SECOND FORM's CARD OF 'ceefaxlaw7.PacketUnlike'. -/
def packetUnlikeUptoCard : Claim7 := { stood := { row := packetUnlikeUptoRow, standIns := [], harness := (true, "e7ce4f5cc8be3e762357aed64c77bc51b7d5d0161c4cbe31846520439cd709e7"), looks := true }, kinds := [], alts := [], laidByText := true, laidKinds := [.sentinel, .sentinel, .sentinel, .sentinel, .sentinel, .sentinel], laidTests := true, laidLooks := .later }
def PacketUnlikeUptoCardSaid : Prop := Claim7.holds Tryd.pinned (.plain (OpenSpec.upto packetUnlikeSpec)) packetUnlikeUptoCard
end Rows
end Go.Proofs.YtjjkbnipokpmcaaDoor
