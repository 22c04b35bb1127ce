/-
  DERIVED. GIVEN WITH THE SEED: THE CARDS: each row of YtdhhjgplnmpjcaaGreatDoorRows.lean that lists a variable, with what it lists TIED to the program's text (the seventh form; the later family's looks); each row that meets fmt, with fmt's text TOLD by the authors' own Lean function (tested against real Go, not proved from fmt's source: count such statements apart). THE CARD IS WHAT COUNTS. Prove the row's statement (the work); the ties are given (YtdhhjgplnmpjcaaGreatDoorTie.lean); close each card by the builder's one call (the guide's Derived/Test/ToyasCard.lean, 'card_holds'). Laid BY PROGRAM, IN A SANDBOX (cutbox-door.mjs). By AI agents, Wed Nov 11 2026. No macro, syntax, notation, axiom, sorry.
-/
import Derived.Test.YtdhhjgplnmpjcaaGreatDoorRows
import GoSem.ClaimSeven
namespace Go.Proofs.YtdhhjgplnmpjcaaGreatDoor
namespace Rows

/-- THE TIED CARD OF 'ceefaxlaw14.AcquireMends'. -/
def acquireMendsCard : Claim7 := { stood := { row := acquireMendsRow, standIns := [], harness := (true, "3bcf6830695489b668e0782876824a25e4d6a3f2b4b43c3b10a7665f21a35b2e"), looks := true }, kinds := [], alts := [], laidByText := true, laidKinds := [.sentinel, .sentinel, .sentinel, .sentinel, .sentinel, .sentinel], laidTests := true, laidLooks := .later }
def AcquireMendsCardSaid : Prop := Claim7.holds Tryz.pinned (.plain (OpenSpec.ofChange acquireMendsSpec)) acquireMendsCard

/-- THE TIED CARD OF 'ceefaxlaw14.AcquireCarousel'. -/
def acquireCarouselCard : Claim7 := { stood := { row := acquireCarouselRow, standIns := [], harness := (true, "3bcf6830695489b668e0782876824a25e4d6a3f2b4b43c3b10a7665f21a35b2e"), looks := true }, kinds := [], alts := [], laidByText := true, laidKinds := [.sentinel, .sentinel, .sentinel, .sentinel, .sentinel, .sentinel], laidTests := true, laidLooks := .later }
def AcquireCarouselCardSaid : Prop := Claim7.holds Tryz.pinned (.plain (OpenSpec.ofChange acquireCarouselSpec)) acquireCarouselCard

/-- THE TIED CARD OF 'ceefaxlaw14.AcquireDefault'. -/
def acquireDefaultCard : Claim7 := { stood := { row := acquireDefaultRow, standIns := [], harness := (true, "3bcf6830695489b668e0782876824a25e4d6a3f2b4b43c3b10a7665f21a35b2e"), looks := true }, kinds := [], alts := [], laidByText := true, laidKinds := [.sentinel, .sentinel, .sentinel, .sentinel, .sentinel, .sentinel], laidTests := true, laidLooks := .later }
def AcquireDefaultCardSaid : Prop := Claim7.holds Tryz.pinned (.plain (OpenSpec.ofChange acquireDefaultSpec)) acquireDefaultCard

/-- THE TIED CARD OF 'ceefaxlaw14.AcquireParallel'. -/
def acquireParallelCard : Claim7 := { stood := { row := acquireParallelRow, standIns := [], harness := (true, "3bcf6830695489b668e0782876824a25e4d6a3f2b4b43c3b10a7665f21a35b2e"), looks := true }, kinds := [], alts := [], laidByText := true, laidKinds := [.sentinel, .sentinel, .sentinel, .sentinel, .sentinel, .sentinel], laidTests := true, laidLooks := .later }
def AcquireParallelCardSaid : Prop := Claim7.holds Tryz.pinned (.plain (OpenSpec.ofChange acquireParallelSpec)) acquireParallelCard

/-- THE TIED CARD OF 'ceefaxlaw14.AcquirePlays'. -/
def acquirePlaysCard : Claim7 := { stood := { row := acquirePlaysRow, standIns := [], harness := (true, "3bcf6830695489b668e0782876824a25e4d6a3f2b4b43c3b10a7665f21a35b2e"), looks := true }, kinds := [], alts := [], laidByText := true, laidKinds := [.sentinel, .sentinel, .sentinel, .sentinel, .sentinel, .sentinel], laidTests := true, laidLooks := .later }
def AcquirePlaysCardSaid : Prop := Claim7.holds Tryz.pinned (.plain (OpenSpec.ofChange acquirePlaysSpec)) acquirePlaysCard

/-- THE SECOND FORM's CARD OF 'ceefaxlaw14.AcquireMends'. -/
def acquireMendsUptoCard : Claim7 := { stood := { row := acquireMendsUptoRow, standIns := [], harness := (true, "3bcf6830695489b668e0782876824a25e4d6a3f2b4b43c3b10a7665f21a35b2e"), looks := true }, kinds := [], alts := [], laidByText := true, laidKinds := [.sentinel, .sentinel, .sentinel, .sentinel, .sentinel, .sentinel], laidTests := true, laidLooks := .later }
def AcquireMendsUptoCardSaid : Prop := Claim7.holds Tryz.pinned (.plain (OpenSpec.upto acquireMendsSpec)) acquireMendsUptoCard

/-- THE SECOND FORM's CARD OF 'ceefaxlaw14.AcquireCarousel'. -/
def acquireCarouselUptoCard : Claim7 := { stood := { row := acquireCarouselUptoRow, standIns := [], harness := (true, "3bcf6830695489b668e0782876824a25e4d6a3f2b4b43c3b10a7665f21a35b2e"), looks := true }, kinds := [], alts := [], laidByText := true, laidKinds := [.sentinel, .sentinel, .sentinel, .sentinel, .sentinel, .sentinel], laidTests := true, laidLooks := .later }
def AcquireCarouselUptoCardSaid : Prop := Claim7.holds Tryz.pinned (.plain (OpenSpec.upto acquireCarouselSpec)) acquireCarouselUptoCard

/-- THE SECOND FORM's CARD OF 'ceefaxlaw14.AcquireDefault'. -/
def acquireDefaultUptoCard : Claim7 := { stood := { row := acquireDefaultUptoRow, standIns := [], harness := (true, "3bcf6830695489b668e0782876824a25e4d6a3f2b4b43c3b10a7665f21a35b2e"), looks := true }, kinds := [], alts := [], laidByText := true, laidKinds := [.sentinel, .sentinel, .sentinel, .sentinel, .sentinel, .sentinel], laidTests := true, laidLooks := .later }
def AcquireDefaultUptoCardSaid : Prop := Claim7.holds Tryz.pinned (.plain (OpenSpec.upto acquireDefaultSpec)) acquireDefaultUptoCard

/-- THE SECOND FORM's CARD OF 'ceefaxlaw14.AcquireParallel'. -/
def acquireParallelUptoCard : Claim7 := { stood := { row := acquireParallelUptoRow, standIns := [], harness := (true, "3bcf6830695489b668e0782876824a25e4d6a3f2b4b43c3b10a7665f21a35b2e"), looks := true }, kinds := [], alts := [], laidByText := true, laidKinds := [.sentinel, .sentinel, .sentinel, .sentinel, .sentinel, .sentinel], laidTests := true, laidLooks := .later }
def AcquireParallelUptoCardSaid : Prop := Claim7.holds Tryz.pinned (.plain (OpenSpec.upto acquireParallelSpec)) acquireParallelUptoCard

/-- THE SECOND FORM's CARD OF 'ceefaxlaw14.AcquirePlays'. -/
def acquirePlaysUptoCard : Claim7 := { stood := { row := acquirePlaysUptoRow, standIns := [], harness := (true, "3bcf6830695489b668e0782876824a25e4d6a3f2b4b43c3b10a7665f21a35b2e"), looks := true }, kinds := [], alts := [], laidByText := true, laidKinds := [.sentinel, .sentinel, .sentinel, .sentinel, .sentinel, .sentinel], laidTests := true, laidLooks := .later }
def AcquirePlaysUptoCardSaid : Prop := Claim7.holds Tryz.pinned (.plain (OpenSpec.upto acquirePlaysSpec)) acquirePlaysUptoCard
end Rows
end Go.Proofs.YtdhhjgplnmpjcaaGreatDoor
