/-
  NARROWER THAN 'FOR EVERY INPUT', by the rows' own cells (each row's printed sentence says how): WholeStore: laid · WholeHidden: laid.
  DERIVED. THE GIVEN ROWS OF THIS SEAT. 2 by the template 'for every input the law returns true; each argument reads behind the call as it read before'; 0 by the template 'total and deterministic' (their statements: YtbmpbafemefepaaGreatDoorTotals.lean).
  GIVEN WITH THE SEED: the statements are not yours to turn. If you find one false, say at which input.
  Laid BY PROGRAM, IN A SANDBOX (cutbox-rows.mjs): the forced cells as the released guide's own fill.sh prints them over the translation f901bc794ddd5fec… (all of the seat's roots in one cut). By AI agents, Wed Nov 11 2026. No macro, syntax, notation, axiom, sorry.
-/
import Derived.Test.YtbmpbafemefepaaGreatDoorChecked
import GoSem.Claim
import GoSem.ClaimJoined
import GoSem.ClaimMapViews
import Derived.JoinedTies
import Derived.KernelRfl
namespace Go.Proofs.YtbmpbafemefepaaGreatDoor
/- THE CELL 'sum', in the pinned program and in every row, IS THE sha256 OF THE DUMP (.gsa) THAT YtbmpbafemefepaaGreatDoorProg.lean LOADS. Nothing in Lean hashes anything: it is a label: what it is worth is what the hold of that sum in a sandbox is worth. -/
noncomputable def Tryz.pinned : Pinned := { name := "ytbmpbafemefepaagreatdoor", sum := "f901bc794ddd5fec8f0b17c96c706ef8ef62652b3540cb43bba10e09cfcbb57c", checked := Tryz.checked }
namespace Rows
def none {H : Type} : Left H := { results := [], args := [] }

/- WHAT THE LISTED PACKAGE-LEVEL VARIABLES READ AS WHEN THE CALL BEGINS. Each datum BY PROGRAM (the guide's laid-datum.mjs) off the statement by which the dump's own 'gosem.cut.vars' lays the variable. In a bare row this is a premise. The card (YtbmpbafemefepaaGreatDoorCards.lean) ties it to the program's text. -/
def laid_ceefax_api_ErrRange {H : Type} : DataW H := .iface "*errors.errorString" (.ptr (.agg [.lit (.string [97, 32, 110, 117, 109, 98, 101, 114, 32, 111, 117, 116, 32, 111, 102, 32, 105, 116, 115, 32, 114, 97, 110, 103, 101])]))
def laid_ceefax_api_ErrLength {H : Type} : DataW H := .iface "*errors.errorString" (.ptr (.agg [.lit (.string [110, 111, 116, 32, 97, 115, 32, 108, 111, 110, 103, 32, 97, 115, 32, 105, 116, 32, 104, 97, 115, 32, 116, 111, 32, 98, 101])]))
def laid_ceefax_api_ErrBits {H : Type} : DataW H := .iface "*errors.errorString" (.ptr (.agg [.lit (.string [98, 105, 116, 115, 32, 116, 104, 97, 116, 32, 99, 97, 110, 39, 116, 32, 98, 101, 32, 109, 101, 110, 100, 101, 100])]))
def laid_ceefax_api_ErrKind {H : Type} : DataW H := .iface "*errors.errorString" (.ptr (.agg [.lit (.string [111, 102, 32, 97, 110, 111, 116, 104, 101, 114, 32, 107, 105, 110, 100])]))
def laid_ceefax_api_ErrNone {H : Type} : DataW H := .iface "*errors.errorString" (.ptr (.agg [.lit (.string [116, 104, 101, 114, 101, 32, 105, 115, 32, 110, 111, 110, 101])]))
def laid_ceefax_api_ErrMode {H : Type} : DataW H := .iface "*errors.errorString" (.ptr (.agg [.lit (.string [110, 111, 116, 32, 105, 110, 32, 116, 104, 105, 115, 32, 109, 111, 100, 101])]))

/-- 'ceefaxtop.WholeStore': WHATEVER THE INPUT: true; the input reads as it did. -/
def wholeStoreSpec : ChangeSpec := { name := "wholeStore", fn := fun _ => fun
  | [d1, d2] => { results := [.lit (.bool true)], args := [d1, d2] }
  | _ => none }
def wholeStoreRow : OpenClaim := { program := "ytbmpbafemefepaagreatdoor", sum := "f901bc794ddd5fec8f0b17c96c706ef8ef62652b3540cb43bba10e09cfcbb57c", func := "ceefax/ceefaxtop.WholeStore", spec := "wholeStore", inPlace := ["internal/abi.NoEscape", "internal/bytealg.IndexByte"], unfollowed := true, recurses := true, named := ["ceefax/api.ErrRange", "ceefax/api.ErrKind", "ceefax/api.ErrLength", "ceefax/api.ErrBits", "ceefax/api.ErrMode", "ceefax/api.ErrNone"], plainKeys := false, apart := false, laid := [("ceefax/api.ErrRange", laid_ceefax_api_ErrRange), ("ceefax/api.ErrLength", laid_ceefax_api_ErrLength), ("ceefax/api.ErrBits", laid_ceefax_api_ErrBits), ("ceefax/api.ErrKind", laid_ceefax_api_ErrKind), ("ceefax/api.ErrNone", laid_ceefax_api_ErrNone), ("ceefax/api.ErrMode", laid_ceefax_api_ErrMode)] }
def WholeStoreSaid : Prop := wholeStoreRow.holds Tryz.pinned (OpenSpec.ofChange wholeStoreSpec)

/-- ITS FALSE NEIGHBOUR: 'it returns false'. Refute it at one input. -/
def wholeStoreWrong : ChangeSpec := { name := "wholeStore", fn := fun _ => fun
  | [d1, d2] => { results := [.lit (.bool false)], args := [d1, d2] }
  | _ => none }
def WholeStoreWrongFalsely : Prop := wholeStoreRow.holds Tryz.pinned (OpenSpec.ofChange wholeStoreWrong)

/-- 'ceefaxtop.WholeHidden': WHATEVER THE INPUT: true; the input reads as it did. -/
def wholeHiddenSpec : ChangeSpec := { name := "wholeHidden", fn := fun _ => fun
  | [d1, d2] => { results := [.lit (.bool true)], args := [d1, d2] }
  | _ => none }
def wholeHiddenRow : OpenClaim := { program := "ytbmpbafemefepaagreatdoor", sum := "f901bc794ddd5fec8f0b17c96c706ef8ef62652b3540cb43bba10e09cfcbb57c", func := "ceefax/ceefaxtop.WholeHidden", spec := "wholeHidden", inPlace := ["internal/abi.NoEscape", "internal/bytealg.IndexByte"], unfollowed := true, recurses := true, named := ["ceefax/api.ErrRange", "ceefax/api.ErrKind", "ceefax/api.ErrLength", "ceefax/api.ErrBits", "ceefax/api.ErrMode", "ceefax/api.ErrNone"], plainKeys := false, apart := false, laid := [("ceefax/api.ErrRange", laid_ceefax_api_ErrRange), ("ceefax/api.ErrLength", laid_ceefax_api_ErrLength), ("ceefax/api.ErrBits", laid_ceefax_api_ErrBits), ("ceefax/api.ErrKind", laid_ceefax_api_ErrKind), ("ceefax/api.ErrNone", laid_ceefax_api_ErrNone), ("ceefax/api.ErrMode", laid_ceefax_api_ErrMode)] }
def WholeHiddenSaid : Prop := wholeHiddenRow.holds Tryz.pinned (OpenSpec.ofChange wholeHiddenSpec)

/-- ITS FALSE NEIGHBOUR: 'it returns false'. Refute it at one input. -/
def wholeHiddenWrong : ChangeSpec := { name := "wholeHidden", fn := fun _ => fun
  | [d1, d2] => { results := [.lit (.bool false)], args := [d1, d2] }
  | _ => none }
def WholeHiddenWrongFalsely : Prop := wholeHiddenRow.holds Tryz.pinned (OpenSpec.ofChange wholeHiddenWrong)

/- THE SECOND FORM. 'bulk': how many values and letters a reading holds, each counted each time it is reached (what is shared counts as often as it is met; a slice's spare places count too). A statement '..UptoSaid' is the law's where the arguments, and the package variables that the reading takes, are together of bulk at most 1048576: NARROWER than '..Said'. Prove '..Said' where nothing that the law and all that it calls make is longer than what came in: it says more and counts as full. Else prove '..UptoSaid'. A law counts once. -/
mutual
def uptoBulk {H : Type} : DataW H → Nat
  | .lit (.string bytes) => bytes.length + 1
  | .lit _ => 1
  | .nil => 1
  | .ptr d => uptoBulk d + 1
  | .slice elems spare => uptoBulkAll elems + uptoBulkAll spare + 1
  | .agg parts => uptoBulkAll parts + 1
  | .iface _ d => uptoBulk d + 1
  | .map entries => uptoBulkEntries entries + 1
  | .held _ => 1
def uptoBulkAll {H : Type} : List (DataW H) → Nat
  | [] => 0
  | d :: r => uptoBulk d + uptoBulkAll r
def uptoBulkEntries {H : Type} : List (Lit × DataW H) → Nat
  | [] => 0
  | x :: r => uptoBulkEntry x + uptoBulkEntries r
def uptoBulkEntry {H : Type} : Lit × DataW H → Nat
  | (.string bytes, d) => bytes.length + uptoBulk d + 1
  | (_, d) => uptoBulk d + 1
 end
def uptoSmall : (H : Type) → List (DataW H) → Bool := fun _ ds => decide (uptoBulkAll ds ≤ 1048576)
def OpenSpec.upto (s : _root_.Go.ChangeSpec) : _root_.Go.OpenSpec := { _root_.Go.OpenSpec.ofChange s with cond := some uptoSmall }

/-- 'ceefaxtop.WholeStore', WHERE WHAT IT READS IS OF BULK AT MOST 1048576: true; the input reads as it did. -/
def wholeStoreUptoRow : OpenClaim := { program := "ytbmpbafemefepaagreatdoor", sum := "f901bc794ddd5fec8f0b17c96c706ef8ef62652b3540cb43bba10e09cfcbb57c", func := "ceefax/ceefaxtop.WholeStore", spec := "wholeStore", inPlace := ["internal/abi.NoEscape", "internal/bytealg.IndexByte"], unfollowed := true, recurses := true, named := ["ceefax/api.ErrRange", "ceefax/api.ErrKind", "ceefax/api.ErrLength", "ceefax/api.ErrBits", "ceefax/api.ErrMode", "ceefax/api.ErrNone"], plainKeys := false, apart := false, laid := [("ceefax/api.ErrRange", laid_ceefax_api_ErrRange), ("ceefax/api.ErrLength", laid_ceefax_api_ErrLength), ("ceefax/api.ErrBits", laid_ceefax_api_ErrBits), ("ceefax/api.ErrKind", laid_ceefax_api_ErrKind), ("ceefax/api.ErrNone", laid_ceefax_api_ErrNone), ("ceefax/api.ErrMode", laid_ceefax_api_ErrMode)], narrowed := true }
def WholeStoreUptoSaid : Prop := wholeStoreUptoRow.holds Tryz.pinned (OpenSpec.upto wholeStoreSpec)

/-- 'ceefaxtop.WholeHidden', WHERE WHAT IT READS IS OF BULK AT MOST 1048576: true; the input reads as it did. -/
def wholeHiddenUptoRow : OpenClaim := { program := "ytbmpbafemefepaagreatdoor", sum := "f901bc794ddd5fec8f0b17c96c706ef8ef62652b3540cb43bba10e09cfcbb57c", func := "ceefax/ceefaxtop.WholeHidden", spec := "wholeHidden", inPlace := ["internal/abi.NoEscape", "internal/bytealg.IndexByte"], unfollowed := true, recurses := true, named := ["ceefax/api.ErrRange", "ceefax/api.ErrKind", "ceefax/api.ErrLength", "ceefax/api.ErrBits", "ceefax/api.ErrMode", "ceefax/api.ErrNone"], plainKeys := false, apart := false, laid := [("ceefax/api.ErrRange", laid_ceefax_api_ErrRange), ("ceefax/api.ErrLength", laid_ceefax_api_ErrLength), ("ceefax/api.ErrBits", laid_ceefax_api_ErrBits), ("ceefax/api.ErrKind", laid_ceefax_api_ErrKind), ("ceefax/api.ErrNone", laid_ceefax_api_ErrNone), ("ceefax/api.ErrMode", laid_ceefax_api_ErrMode)], narrowed := true }
def WholeHiddenUptoSaid : Prop := wholeHiddenUptoRow.holds Tryz.pinned (OpenSpec.upto wholeHiddenSpec)

end Rows
end Go.Proofs.YtbmpbafemefepaaGreatDoor
