/-
  DERIVED. GIVEN WITH THE SEED: THE PROGRAM's TIES (one call each: nine closed facts by the kernel) AND EACH ROW's TIE, after the 31st guide's Derived/Test/Toyas{Tie, Card}.lean. No idea stands in it: it is a product of the set-up. Laid BY PROGRAM, IN A SANDBOX (cutbox-door.mjs). By AI agents, Wed Nov 11 2026. No macro, syntax, notation, axiom, sorry.
-/
import Derived.Test.YtbmpbafemefepaaGreatDoorRows
import Derived.LaidByTextLater
import Derived.SevenTiedAt
import Derived.LaidSub
import Derived.LaidOnce
namespace Go.Proofs.YtbmpbafemefepaaGreatDoor
open Go
set_option maxRecDepth 100000
theorem seatTie1 : Tryz.prog.laidByTextLater [("ceefax/api.ErrRange", Rows.laid_ceefax_api_ErrRange), ("ceefax/api.ErrLength", Rows.laid_ceefax_api_ErrLength), ("ceefax/api.ErrBits", Rows.laid_ceefax_api_ErrBits), ("ceefax/api.ErrKind", Rows.laid_ceefax_api_ErrKind), ("ceefax/api.ErrNone", Rows.laid_ceefax_api_ErrNone), ("ceefax/api.ErrMode", Rows.laid_ceefax_api_ErrMode)] [.sentinel, .sentinel, .sentinel, .sentinel, .sentinel, .sentinel] true :=
  Program.laidByTextLater_by_one 123 8 2 (by kernel_rfl) (by kernel_rfl) (by kernel_rfl) (by kernel_rfl) (by kernel_rfl) (by kernel_rfl) (fun _ _ => by kernel_rfl)
theorem noOwnUnsafe : Tryz.pinned.checked.prog.headLifts.contains "ownunsafe" = false := by kernel_rfl
theorem tie : Tryz.prog.laidByTextLater [("ceefax/api.ErrRange", Rows.laid_ceefax_api_ErrRange), ("ceefax/api.ErrLength", Rows.laid_ceefax_api_ErrLength), ("ceefax/api.ErrBits", Rows.laid_ceefax_api_ErrBits), ("ceefax/api.ErrKind", Rows.laid_ceefax_api_ErrKind), ("ceefax/api.ErrNone", Rows.laid_ceefax_api_ErrNone), ("ceefax/api.ErrMode", Rows.laid_ceefax_api_ErrMode)] [.sentinel, .sentinel, .sentinel, .sentinel, .sentinel, .sentinel] true :=
  Program.laidByTextLater.sub seatTie1 ["ceefax/api.ErrRange", "ceefax/api.ErrLength", "ceefax/api.ErrBits", "ceefax/api.ErrKind", "ceefax/api.ErrNone", "ceefax/api.ErrMode"] (by kernel_rfl) (by kernel_rfl)
theorem wholeStore_row_tie : Rows.wholeStoreRow.laidByTextAt .later Tryz.pinned [.sentinel, .sentinel, .sentinel, .sentinel, .sentinel, .sentinel] true :=
  OpenClaim.laidByTextAt_later rfl rfl tie noOwnUnsafe
theorem wholeHidden_row_tie : Rows.wholeHiddenRow.laidByTextAt .later Tryz.pinned [.sentinel, .sentinel, .sentinel, .sentinel, .sentinel, .sentinel] true :=
  OpenClaim.laidByTextAt_later rfl rfl tie noOwnUnsafe
theorem wholeStoreUpto_row_tie : Rows.wholeStoreUptoRow.laidByTextAt .later Tryz.pinned [.sentinel, .sentinel, .sentinel, .sentinel, .sentinel, .sentinel] true :=
  OpenClaim.laidByTextAt_later rfl rfl tie noOwnUnsafe
theorem wholeHiddenUpto_row_tie : Rows.wholeHiddenUptoRow.laidByTextAt .later Tryz.pinned [.sentinel, .sentinel, .sentinel, .sentinel, .sentinel, .sentinel] true :=
  OpenClaim.laidByTextAt_later rfl rfl tie noOwnUnsafe
end Go.Proofs.YtbmpbafemefepaaGreatDoor
