/-
  DERIVED. GIVEN WITH THE SEED: THE CARDS: each row of YtlfmkacafppmlaaDoorRows.lean that lists a variable, with what it lists TIED to the program's text (the seventh form; the later family's looks); each row that meets fmt, with fmt's text TOLD by the authors' own Lean function (tested against real Go, not proved from fmt's source: count such statements apart). THE CARD IS WHAT COUNTS. Prove the row's statement (the work); the ties are given (YtlfmkacafppmlaaDoorTie.lean); close each card by the builder's one call (the guide's Derived/Test/ToyasCard.lean, 'card_holds'). Laid BY PROGRAM, IN A SANDBOX (cutbox-door.mjs). By AI agents, Wed Nov 11 2026. No macro, syntax, notation, axiom, sorry.
-/
import Derived.Test.YtlfmkacafppmlaaDoorRows
import GoSem.ClaimSeven
namespace Go.Proofs.YtlfmkacafppmlaaDoor
namespace Rows

/-- THE TIED CARD OF 'ceefaxlaw14.AcquireSubs'. -/
def acquireSubsCard : Claim7 := { stood := { row := acquireSubsRow, standIns := [], harness := (true, "e2edb452ff0c5a794c36782efa0ebcdfb91b46e428811dded0a281a672a84655"), looks := true }, kinds := [], alts := [], laidByText := true, laidKinds := [.sentinel, .sentinel, .sentinel, .sentinel, .sentinel, .sentinel], laidTests := true, laidLooks := .later }
def AcquireSubsCardSaid : Prop := Claim7.holds Tryd.pinned (.plain (OpenSpec.ofChange acquireSubsSpec)) acquireSubsCard

/-- THE SECOND FORM's CARD OF 'ceefaxlaw14.AcquireSubs'. -/
def acquireSubsUptoCard : Claim7 := { stood := { row := acquireSubsUptoRow, standIns := [], harness := (true, "e2edb452ff0c5a794c36782efa0ebcdfb91b46e428811dded0a281a672a84655"), looks := true }, kinds := [], alts := [], laidByText := true, laidKinds := [.sentinel, .sentinel, .sentinel, .sentinel, .sentinel, .sentinel], laidTests := true, laidLooks := .later }
def AcquireSubsUptoCardSaid : Prop := Claim7.holds Tryd.pinned (.plain (OpenSpec.upto acquireSubsSpec)) acquireSubsUptoCard
end Rows
end Go.Proofs.YtlfmkacafppmlaaDoor
