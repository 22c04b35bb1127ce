/-
  DERIVED. GIVEN WITH THE SEED: THE CARDS: each row of YthjdlanmfiofdaaDoorRows.lean that lists a variable, with what it lists TIED to the program's text (the seventh form; the later family's looks); each row that meets fmt, with fmt's text TOLD by the authors' own Lean function (tested against real Go, not proved from fmt's source: count such statements apart). THE CARD IS WHAT COUNTS. Prove the row's statement (the work); the ties are given (YthjdlanmfiofdaaDoorTie.lean); close each card by the builder's one call (the guide's Derived/Test/ToyasCard.lean, 'card_holds'). Laid BY PROGRAM, IN A SANDBOX (cutbox-door.mjs). By AI agents, Wed Nov 11 2026. No macro, syntax, notation, axiom, sorry.
-/
import Derived.Test.YthjdlanmfiofdaaDoorRows
import GoSem.ClaimSeven
namespace Go.Proofs.YthjdlanmfiofdaaDoor
namespace Rows

/-- THE TIED CARD OF 'ceefaxlaw10.LinksSay'. -/
def linksSayCard : Claim7 := { stood := { row := linksSayRow, standIns := [], harness := (true, "519d3374e1c7354fe0c532520a2a66633234d4fadf9ab84e9c2ebf48f2977744"), looks := true }, kinds := [], alts := [], laidByText := true, laidKinds := [.sentinel, .sentinel, .sentinel, .sentinel, .sentinel, .sentinel], laidTests := true, laidLooks := .later }
def LinksSayCardSaid : Prop := Claim7.holds Tryd.pinned (.plain (OpenSpec.ofChange linksSaySpec)) linksSayCard

/-- THE TIED CARD OF 'ceefaxlaw10.LinksBack'. -/
def linksBackCard : Claim7 := { stood := { row := linksBackRow, standIns := [], harness := (true, "519d3374e1c7354fe0c532520a2a66633234d4fadf9ab84e9c2ebf48f2977744"), looks := true }, kinds := [], alts := [], laidByText := true, laidKinds := [.sentinel, .sentinel, .sentinel, .sentinel], laidTests := true, laidLooks := .later }
def LinksBackCardSaid : Prop := Claim7.holds Tryd.pinned (.plain (OpenSpec.ofChange linksBackSpec)) linksBackCard

/-- THE TIED CARD OF 'ceefaxlaw10.LinksOther'. -/
def linksOtherCard : Claim7 := { stood := { row := linksOtherRow, standIns := [], harness := (true, "519d3374e1c7354fe0c532520a2a66633234d4fadf9ab84e9c2ebf48f2977744"), looks := true }, kinds := [], alts := [], laidByText := true, laidKinds := [.sentinel, .sentinel, .sentinel, .sentinel, .sentinel, .sentinel], laidTests := true, laidLooks := .later }
def LinksOtherCardSaid : Prop := Claim7.holds Tryd.pinned (.plain (OpenSpec.ofChange linksOtherSpec)) linksOtherCard

/-- THE TIED CARD OF 'ceefaxlaw8.HeaderBack'. -/
def headerBackCard : Claim7 := { stood := { row := headerBackRow, standIns := [], harness := (true, "519d3374e1c7354fe0c532520a2a66633234d4fadf9ab84e9c2ebf48f2977744"), looks := true }, kinds := [], alts := [], laidByText := true, laidKinds := [.sentinel, .sentinel, .sentinel, .sentinel], laidTests := true, laidLooks := .later }
def HeaderBackCardSaid : Prop := Claim7.holds Tryd.pinned (.plain (OpenSpec.ofChange headerBackSpec)) headerBackCard

/-- THE TIED CARD OF 'ceefaxlaw8.HeaderFlags'. -/
def headerFlagsCard : Claim7 := { stood := { row := headerFlagsRow, standIns := [], harness := (true, "519d3374e1c7354fe0c532520a2a66633234d4fadf9ab84e9c2ebf48f2977744"), looks := true }, kinds := [], alts := [], laidByText := true, laidKinds := [.sentinel, .sentinel, .sentinel, .sentinel, .sentinel, .sentinel], laidTests := true, laidLooks := .later }
def HeaderFlagsCardSaid : Prop := Claim7.holds Tryd.pinned (.plain (OpenSpec.ofChange headerFlagsSpec)) headerFlagsCard

/-- THE TIED CARD OF 'ceefaxlaw9.TripletRegions'. -/
def tripletRegionsCard : Claim7 := { stood := { row := tripletRegionsRow, standIns := [], harness := (true, "519d3374e1c7354fe0c532520a2a66633234d4fadf9ab84e9c2ebf48f2977744"), looks := true }, kinds := [], alts := [], laidByText := true, laidKinds := [.sentinel, .sentinel, .sentinel, .sentinel], laidTests := true, laidLooks := .later }
def TripletRegionsCardSaid : Prop := Claim7.holds Tryd.pinned (.plain (OpenSpec.ofChange tripletRegionsSpec)) tripletRegionsCard

/-- THE TIED CARD OF 'ceefaxlaw9.TripletBack'. -/
def tripletBackCard : Claim7 := { stood := { row := tripletBackRow, standIns := [], harness := (true, "519d3374e1c7354fe0c532520a2a66633234d4fadf9ab84e9c2ebf48f2977744"), looks := true }, kinds := [], alts := [], laidByText := true, laidKinds := [.sentinel, .sentinel, .sentinel, .sentinel], laidTests := true, laidLooks := .later }
def TripletBackCardSaid : Prop := Claim7.holds Tryd.pinned (.plain (OpenSpec.ofChange tripletBackSpec)) tripletBackCard

/-- THE TIED CARD OF 'ceefaxlaw9.TripletSays'. -/
def tripletSaysCard : Claim7 := { stood := { row := tripletSaysRow, standIns := [], harness := (true, "519d3374e1c7354fe0c532520a2a66633234d4fadf9ab84e9c2ebf48f2977744"), looks := true }, kinds := [], alts := [], laidByText := true, laidKinds := [.sentinel, .sentinel, .sentinel, .sentinel, .sentinel, .sentinel], laidTests := true, laidLooks := .later }
def TripletSaysCardSaid : Prop := Claim7.holds Tryd.pinned (.plain (OpenSpec.ofChange tripletSaysSpec)) tripletSaysCard

/-- THE TIED CARD OF 'ceefaxlaw11.ServiceSays'. -/
def serviceSaysCard : Claim7 := { stood := { row := serviceSaysRow, standIns := [], harness := (true, "519d3374e1c7354fe0c532520a2a66633234d4fadf9ab84e9c2ebf48f2977744"), looks := true }, kinds := [], alts := [], laidByText := true, laidKinds := [.sentinel, .sentinel, .sentinel, .sentinel, .sentinel, .sentinel], laidTests := true, laidLooks := .later }
def ServiceSaysCardSaid : Prop := Claim7.holds Tryd.pinned (.plain (OpenSpec.ofChange serviceSaysSpec)) serviceSaysCard

/-- THE TIED CARD OF 'ceefaxlaw11.ServiceBack'. -/
def serviceBackCard : Claim7 := { stood := { row := serviceBackRow, standIns := [], harness := (true, "519d3374e1c7354fe0c532520a2a66633234d4fadf9ab84e9c2ebf48f2977744"), looks := true }, kinds := [], alts := [], laidByText := true, laidKinds := [.sentinel, .sentinel, .sentinel, .sentinel, .sentinel, .sentinel], laidTests := true, laidLooks := .later }
def ServiceBackCardSaid : Prop := Claim7.holds Tryd.pinned (.plain (OpenSpec.ofChange serviceBackSpec)) serviceBackCard

/-- THE TIED CARD OF 'ceefaxlaw11.ServiceEdges'. -/
def serviceEdgesCard : Claim7 := { stood := { row := serviceEdgesRow, standIns := [], harness := (true, "519d3374e1c7354fe0c532520a2a66633234d4fadf9ab84e9c2ebf48f2977744"), looks := true }, kinds := [], alts := [], laidByText := true, laidKinds := [.sentinel, .sentinel, .sentinel, .sentinel, .sentinel, .sentinel], laidTests := true, laidLooks := .later }
def ServiceEdgesCardSaid : Prop := Claim7.holds Tryd.pinned (.plain (OpenSpec.ofChange serviceEdgesSpec)) serviceEdgesCard

/-- THE SECOND FORM's CARD OF 'ceefaxlaw10.LinksSay'. -/
def linksSayUptoCard : Claim7 := { stood := { row := linksSayUptoRow, standIns := [], harness := (true, "519d3374e1c7354fe0c532520a2a66633234d4fadf9ab84e9c2ebf48f2977744"), looks := true }, kinds := [], alts := [], laidByText := true, laidKinds := [.sentinel, .sentinel, .sentinel, .sentinel, .sentinel, .sentinel], laidTests := true, laidLooks := .later }
def LinksSayUptoCardSaid : Prop := Claim7.holds Tryd.pinned (.plain (OpenSpec.upto linksSaySpec)) linksSayUptoCard

/-- THE SECOND FORM's CARD OF 'ceefaxlaw10.LinksBack'. -/
def linksBackUptoCard : Claim7 := { stood := { row := linksBackUptoRow, standIns := [], harness := (true, "519d3374e1c7354fe0c532520a2a66633234d4fadf9ab84e9c2ebf48f2977744"), looks := true }, kinds := [], alts := [], laidByText := true, laidKinds := [.sentinel, .sentinel, .sentinel, .sentinel], laidTests := true, laidLooks := .later }
def LinksBackUptoCardSaid : Prop := Claim7.holds Tryd.pinned (.plain (OpenSpec.upto linksBackSpec)) linksBackUptoCard

/-- THE SECOND FORM's CARD OF 'ceefaxlaw10.LinksOther'. -/
def linksOtherUptoCard : Claim7 := { stood := { row := linksOtherUptoRow, standIns := [], harness := (true, "519d3374e1c7354fe0c532520a2a66633234d4fadf9ab84e9c2ebf48f2977744"), looks := true }, kinds := [], alts := [], laidByText := true, laidKinds := [.sentinel, .sentinel, .sentinel, .sentinel, .sentinel, .sentinel], laidTests := true, laidLooks := .later }
def LinksOtherUptoCardSaid : Prop := Claim7.holds Tryd.pinned (.plain (OpenSpec.upto linksOtherSpec)) linksOtherUptoCard

/-- THE SECOND FORM's CARD OF 'ceefaxlaw8.HeaderBack'. -/
def headerBackUptoCard : Claim7 := { stood := { row := headerBackUptoRow, standIns := [], harness := (true, "519d3374e1c7354fe0c532520a2a66633234d4fadf9ab84e9c2ebf48f2977744"), looks := true }, kinds := [], alts := [], laidByText := true, laidKinds := [.sentinel, .sentinel, .sentinel, .sentinel], laidTests := true, laidLooks := .later }
def HeaderBackUptoCardSaid : Prop := Claim7.holds Tryd.pinned (.plain (OpenSpec.upto headerBackSpec)) headerBackUptoCard

/-- THE SECOND FORM's CARD OF 'ceefaxlaw8.HeaderFlags'. -/
def headerFlagsUptoCard : Claim7 := { stood := { row := headerFlagsUptoRow, standIns := [], harness := (true, "519d3374e1c7354fe0c532520a2a66633234d4fadf9ab84e9c2ebf48f2977744"), looks := true }, kinds := [], alts := [], laidByText := true, laidKinds := [.sentinel, .sentinel, .sentinel, .sentinel, .sentinel, .sentinel], laidTests := true, laidLooks := .later }
def HeaderFlagsUptoCardSaid : Prop := Claim7.holds Tryd.pinned (.plain (OpenSpec.upto headerFlagsSpec)) headerFlagsUptoCard

/-- THE SECOND FORM's CARD OF 'ceefaxlaw9.TripletRegions'. -/
def tripletRegionsUptoCard : Claim7 := { stood := { row := tripletRegionsUptoRow, standIns := [], harness := (true, "519d3374e1c7354fe0c532520a2a66633234d4fadf9ab84e9c2ebf48f2977744"), looks := true }, kinds := [], alts := [], laidByText := true, laidKinds := [.sentinel, .sentinel, .sentinel, .sentinel], laidTests := true, laidLooks := .later }
def TripletRegionsUptoCardSaid : Prop := Claim7.holds Tryd.pinned (.plain (OpenSpec.upto tripletRegionsSpec)) tripletRegionsUptoCard

/-- THE SECOND FORM's CARD OF 'ceefaxlaw9.TripletBack'. -/
def tripletBackUptoCard : Claim7 := { stood := { row := tripletBackUptoRow, standIns := [], harness := (true, "519d3374e1c7354fe0c532520a2a66633234d4fadf9ab84e9c2ebf48f2977744"), looks := true }, kinds := [], alts := [], laidByText := true, laidKinds := [.sentinel, .sentinel, .sentinel, .sentinel], laidTests := true, laidLooks := .later }
def TripletBackUptoCardSaid : Prop := Claim7.holds Tryd.pinned (.plain (OpenSpec.upto tripletBackSpec)) tripletBackUptoCard

/-- THE SECOND FORM's CARD OF 'ceefaxlaw9.TripletSays'. -/
def tripletSaysUptoCard : Claim7 := { stood := { row := tripletSaysUptoRow, standIns := [], harness := (true, "519d3374e1c7354fe0c532520a2a66633234d4fadf9ab84e9c2ebf48f2977744"), looks := true }, kinds := [], alts := [], laidByText := true, laidKinds := [.sentinel, .sentinel, .sentinel, .sentinel, .sentinel, .sentinel], laidTests := true, laidLooks := .later }
def TripletSaysUptoCardSaid : Prop := Claim7.holds Tryd.pinned (.plain (OpenSpec.upto tripletSaysSpec)) tripletSaysUptoCard

/-- THE SECOND FORM's CARD OF 'ceefaxlaw11.ServiceSays'. -/
def serviceSaysUptoCard : Claim7 := { stood := { row := serviceSaysUptoRow, standIns := [], harness := (true, "519d3374e1c7354fe0c532520a2a66633234d4fadf9ab84e9c2ebf48f2977744"), looks := true }, kinds := [], alts := [], laidByText := true, laidKinds := [.sentinel, .sentinel, .sentinel, .sentinel, .sentinel, .sentinel], laidTests := true, laidLooks := .later }
def ServiceSaysUptoCardSaid : Prop := Claim7.holds Tryd.pinned (.plain (OpenSpec.upto serviceSaysSpec)) serviceSaysUptoCard

/-- THE SECOND FORM's CARD OF 'ceefaxlaw11.ServiceBack'. -/
def serviceBackUptoCard : Claim7 := { stood := { row := serviceBackUptoRow, standIns := [], harness := (true, "519d3374e1c7354fe0c532520a2a66633234d4fadf9ab84e9c2ebf48f2977744"), looks := true }, kinds := [], alts := [], laidByText := true, laidKinds := [.sentinel, .sentinel, .sentinel, .sentinel, .sentinel, .sentinel], laidTests := true, laidLooks := .later }
def ServiceBackUptoCardSaid : Prop := Claim7.holds Tryd.pinned (.plain (OpenSpec.upto serviceBackSpec)) serviceBackUptoCard

/-- THE SECOND FORM's CARD OF 'ceefaxlaw11.ServiceEdges'. -/
def serviceEdgesUptoCard : Claim7 := { stood := { row := serviceEdgesUptoRow, standIns := [], harness := (true, "519d3374e1c7354fe0c532520a2a66633234d4fadf9ab84e9c2ebf48f2977744"), looks := true }, kinds := [], alts := [], laidByText := true, laidKinds := [.sentinel, .sentinel, .sentinel, .sentinel, .sentinel, .sentinel], laidTests := true, laidLooks := .later }
def ServiceEdgesUptoCardSaid : Prop := Claim7.holds Tryd.pinned (.plain (OpenSpec.upto serviceEdgesSpec)) serviceEdgesUptoCard
end Rows
end Go.Proofs.YthjdlanmfiofdaaDoor
