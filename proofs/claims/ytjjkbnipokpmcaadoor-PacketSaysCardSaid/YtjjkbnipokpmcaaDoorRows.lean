/-
  NARROWER THAN 'FOR EVERY INPUT', by the rows' own cells (each row's printed sentence says how): PacketSays: laid · PacketBack: laid · PacketKinds: laid · PacketUnlike: laid.
  DERIVED. THE GIVEN ROWS OF THIS SEAT. 4 by the template 'for every input the law returns true; each argument reads behind the call as it read before'; 0 by the template 'total and deterministic' (their statements: YtjjkbnipokpmcaaDoorTotals.lean).
  GIVEN WITH THE SEED: the statements are not yours to turn. If you find one false, say at which input.
  Laid BY PROGRAM, IN A SANDBOX (cutbox-rows.mjs): the forced cells as the released guide's own fill.sh prints them over the translation 8988b5adbd7fb8c2… (all of the seat's roots in one cut). By AI agents, Wed Nov 11 2026. No macro, syntax, notation, axiom, sorry.
-/
import Derived.Test.YtjjkbnipokpmcaaDoorChecked
import GoSem.Claim
import GoSem.ClaimJoined
import GoSem.ClaimMapViews
import Derived.JoinedTies
import Derived.KernelRfl
namespace Go.Proofs.YtjjkbnipokpmcaaDoor
/- THE CELL 'sum', in the pinned program and in every row, IS THE sha256 OF THE DUMP (.gsa) THAT YtjjkbnipokpmcaaDoorProg.lean LOADS. Nothing in Lean hashes anything: it is a label: what it is worth is what the hold of that sum in a sandbox is worth. -/
noncomputable def Tryd.pinned : Pinned := { name := "ytjjkbnipokpmcaadoor", sum := "8988b5adbd7fb8c219180b210e9753f78ee91de5121ab0236800ae3c4728c29c", checked := Tryd.checked }
namespace Rows
def none {H : Type} : Left H := { results := [], args := [] }

/- WHAT THE LISTED PACKAGE-LEVEL VARIABLES READ AS WHEN THE CALL BEGINS. Each datum BY PROGRAM (the guide's laid-datum.mjs) off the statement by which the dump's own 'gosem.cut.vars' lays the variable. In a bare row this is a premise. The card (YtjjkbnipokpmcaaDoorCards.lean) ties it to the program's text. -/
def laid_ceefax_api_ErrRange {H : Type} : DataW H := .iface "*errors.errorString" (.ptr (.agg [.lit (.string [97, 32, 110, 117, 109, 98, 101, 114, 32, 111, 117, 116, 32, 111, 102, 32, 105, 116, 115, 32, 114, 97, 110, 103, 101])]))
def laid_ceefax_api_ErrLength {H : Type} : DataW H := .iface "*errors.errorString" (.ptr (.agg [.lit (.string [110, 111, 116, 32, 97, 115, 32, 108, 111, 110, 103, 32, 97, 115, 32, 105, 116, 32, 104, 97, 115, 32, 116, 111, 32, 98, 101])]))
def laid_ceefax_api_ErrBits {H : Type} : DataW H := .iface "*errors.errorString" (.ptr (.agg [.lit (.string [98, 105, 116, 115, 32, 116, 104, 97, 116, 32, 99, 97, 110, 39, 116, 32, 98, 101, 32, 109, 101, 110, 100, 101, 100])]))
def laid_ceefax_api_ErrKind {H : Type} : DataW H := .iface "*errors.errorString" (.ptr (.agg [.lit (.string [111, 102, 32, 97, 110, 111, 116, 104, 101, 114, 32, 107, 105, 110, 100])]))
def laid_ceefax_api_ErrNone {H : Type} : DataW H := .iface "*errors.errorString" (.ptr (.agg [.lit (.string [116, 104, 101, 114, 101, 32, 105, 115, 32, 110, 111, 110, 101])]))
def laid_ceefax_api_ErrMode {H : Type} : DataW H := .iface "*errors.errorString" (.ptr (.agg [.lit (.string [110, 111, 116, 32, 105, 110, 32, 116, 104, 105, 115, 32, 109, 111, 100, 101])]))

/-- 'ceefaxlaw7.PacketSays': WHATEVER THE INPUT: true; the input reads as it did. -/
def packetSaysSpec : ChangeSpec := { name := "packetSays", fn := fun _ => fun
  | [d1, d2, d3, d4] => { results := [.lit (.bool true)], args := [d1, d2, d3, d4] }
  | _ => none }
def packetSaysRow : OpenClaim := { program := "ytjjkbnipokpmcaadoor", sum := "8988b5adbd7fb8c219180b210e9753f78ee91de5121ab0236800ae3c4728c29c", func := "ceefax/ceefaxlaw7.PacketSays", spec := "packetSays", unfollowed := true, recurses := true, named := ["ceefax/api.ErrLength", "ceefax/api.ErrBits", "ceefax/api.ErrKind", "ceefax/api.ErrRange", "ceefax/api.ErrNone", "ceefax/api.ErrMode"], apart := false, laid := [("ceefax/api.ErrRange", laid_ceefax_api_ErrRange), ("ceefax/api.ErrLength", laid_ceefax_api_ErrLength), ("ceefax/api.ErrBits", laid_ceefax_api_ErrBits), ("ceefax/api.ErrKind", laid_ceefax_api_ErrKind), ("ceefax/api.ErrNone", laid_ceefax_api_ErrNone), ("ceefax/api.ErrMode", laid_ceefax_api_ErrMode)] }
def PacketSaysSaid : Prop := packetSaysRow.holds Tryd.pinned (OpenSpec.ofChange packetSaysSpec)

/-- ITS FALSE NEIGHBOUR: 'it returns false'. Refute it at one input. -/
def packetSaysWrong : ChangeSpec := { name := "packetSays", fn := fun _ => fun
  | [d1, d2, d3, d4] => { results := [.lit (.bool false)], args := [d1, d2, d3, d4] }
  | _ => none }
def PacketSaysWrongFalsely : Prop := packetSaysRow.holds Tryd.pinned (OpenSpec.ofChange packetSaysWrong)

/-- 'ceefaxlaw7.PacketBack': WHATEVER THE INPUT: true; the input reads as it did. -/
def packetBackSpec : ChangeSpec := { name := "packetBack", fn := fun _ => fun
  | [d1, d2, d3, d4, d5, d6] => { results := [.lit (.bool true)], args := [d1, d2, d3, d4, d5, d6] }
  | _ => none }
def packetBackRow : OpenClaim := { program := "ytjjkbnipokpmcaadoor", sum := "8988b5adbd7fb8c219180b210e9753f78ee91de5121ab0236800ae3c4728c29c", func := "ceefax/ceefaxlaw7.PacketBack", spec := "packetBack", unfollowed := true, recurses := true, named := ["ceefax/api.ErrLength", "ceefax/api.ErrBits", "ceefax/api.ErrKind", "ceefax/api.ErrRange", "ceefax/api.ErrNone", "ceefax/api.ErrMode"], apart := false, laid := [("ceefax/api.ErrRange", laid_ceefax_api_ErrRange), ("ceefax/api.ErrLength", laid_ceefax_api_ErrLength), ("ceefax/api.ErrBits", laid_ceefax_api_ErrBits), ("ceefax/api.ErrKind", laid_ceefax_api_ErrKind), ("ceefax/api.ErrNone", laid_ceefax_api_ErrNone), ("ceefax/api.ErrMode", laid_ceefax_api_ErrMode)] }
def PacketBackSaid : Prop := packetBackRow.holds Tryd.pinned (OpenSpec.ofChange packetBackSpec)

/-- ITS FALSE NEIGHBOUR: 'it returns false'. Refute it at one input. -/
def packetBackWrong : ChangeSpec := { name := "packetBack", fn := fun _ => fun
  | [d1, d2, d3, d4, d5, d6] => { results := [.lit (.bool false)], args := [d1, d2, d3, d4, d5, d6] }
  | _ => none }
def PacketBackWrongFalsely : Prop := packetBackRow.holds Tryd.pinned (OpenSpec.ofChange packetBackWrong)

/-- 'ceefaxlaw7.PacketKinds': WHATEVER THE INPUT: true; the input reads as it did. -/
def packetKindsSpec : ChangeSpec := { name := "packetKinds", fn := fun _ => fun
  | [d1, d2, d3, d4] => { results := [.lit (.bool true)], args := [d1, d2, d3, d4] }
  | _ => none }
def packetKindsRow : OpenClaim := { program := "ytjjkbnipokpmcaadoor", sum := "8988b5adbd7fb8c219180b210e9753f78ee91de5121ab0236800ae3c4728c29c", func := "ceefax/ceefaxlaw7.PacketKinds", spec := "packetKinds", unfollowed := true, recurses := true, named := ["ceefax/api.ErrLength", "ceefax/api.ErrBits", "ceefax/api.ErrKind", "ceefax/api.ErrRange", "ceefax/api.ErrNone", "ceefax/api.ErrMode"], apart := false, laid := [("ceefax/api.ErrRange", laid_ceefax_api_ErrRange), ("ceefax/api.ErrLength", laid_ceefax_api_ErrLength), ("ceefax/api.ErrBits", laid_ceefax_api_ErrBits), ("ceefax/api.ErrKind", laid_ceefax_api_ErrKind), ("ceefax/api.ErrNone", laid_ceefax_api_ErrNone), ("ceefax/api.ErrMode", laid_ceefax_api_ErrMode)] }
def PacketKindsSaid : Prop := packetKindsRow.holds Tryd.pinned (OpenSpec.ofChange packetKindsSpec)

/-- ITS FALSE NEIGHBOUR: 'it returns false'. Refute it at one input. -/
def packetKindsWrong : ChangeSpec := { name := "packetKinds", fn := fun _ => fun
  | [d1, d2, d3, d4] => { results := [.lit (.bool false)], args := [d1, d2, d3, d4] }
  | _ => none }
def PacketKindsWrongFalsely : Prop := packetKindsRow.holds Tryd.pinned (OpenSpec.ofChange packetKindsWrong)

/-- 'ceefaxlaw7.PacketUnlike': WHATEVER THE INPUT: true; the input reads as it did. -/
def packetUnlikeSpec : ChangeSpec := { name := "packetUnlike", fn := fun _ => fun
  | [d1, d2, d3, d4, d5, d6] => { results := [.lit (.bool true)], args := [d1, d2, d3, d4, d5, d6] }
  | _ => none }
def packetUnlikeRow : OpenClaim := { program := "ytjjkbnipokpmcaadoor", sum := "8988b5adbd7fb8c219180b210e9753f78ee91de5121ab0236800ae3c4728c29c", func := "ceefax/ceefaxlaw7.PacketUnlike", spec := "packetUnlike", unfollowed := true, recurses := true, named := ["ceefax/api.ErrLength", "ceefax/api.ErrBits", "ceefax/api.ErrKind", "ceefax/api.ErrRange", "ceefax/api.ErrNone", "ceefax/api.ErrMode"], apart := false, laid := [("ceefax/api.ErrRange", laid_ceefax_api_ErrRange), ("ceefax/api.ErrLength", laid_ceefax_api_ErrLength), ("ceefax/api.ErrBits", laid_ceefax_api_ErrBits), ("ceefax/api.ErrKind", laid_ceefax_api_ErrKind), ("ceefax/api.ErrNone", laid_ceefax_api_ErrNone), ("ceefax/api.ErrMode", laid_ceefax_api_ErrMode)] }
def PacketUnlikeSaid : Prop := packetUnlikeRow.holds Tryd.pinned (OpenSpec.ofChange packetUnlikeSpec)

/-- ITS FALSE NEIGHBOUR: 'it returns false'. Refute it at one input. -/
def packetUnlikeWrong : ChangeSpec := { name := "packetUnlike", fn := fun _ => fun
  | [d1, d2, d3, d4, d5, d6] => { results := [.lit (.bool false)], args := [d1, d2, d3, d4, d5, d6] }
  | _ => none }
def PacketUnlikeWrongFalsely : Prop := packetUnlikeRow.holds Tryd.pinned (OpenSpec.ofChange packetUnlikeWrong)

/- THE SECOND FORM. 'bulk': how many values and letters a reading holds, each counted each time it is reached (what is shared counts as often as it is met; a slice's spare places count too). A statement '..UptoSaid' is the law's where the arguments, and the package variables that the reading takes, are together of bulk at most 1048576: NARROWER than '..Said'. Prove '..Said' where nothing that the law and all that it calls make is longer than what came in: it says more and counts as full. Else prove '..UptoSaid'. A law counts once. -/
mutual
def uptoBulk {H : Type} : DataW H → Nat
  | .lit (.string bytes) => bytes.length + 1
  | .lit _ => 1
  | .nil => 1
  | .ptr d => uptoBulk d + 1
  | .slice elems spare => uptoBulkAll elems + uptoBulkAll spare + 1
  | .agg parts => uptoBulkAll parts + 1
  | .iface _ d => uptoBulk d + 1
  | .map entries => uptoBulkEntries entries + 1
  | .held _ => 1
def uptoBulkAll {H : Type} : List (DataW H) → Nat
  | [] => 0
  | d :: r => uptoBulk d + uptoBulkAll r
def uptoBulkEntries {H : Type} : List (Lit × DataW H) → Nat
  | [] => 0
  | x :: r => uptoBulkEntry x + uptoBulkEntries r
def uptoBulkEntry {H : Type} : Lit × DataW H → Nat
  | (.string bytes, d) => bytes.length + uptoBulk d + 1
  | (_, d) => uptoBulk d + 1
 end
def uptoSmall : (H : Type) → List (DataW H) → Bool := fun _ ds => decide (uptoBulkAll ds ≤ 1048576)
def OpenSpec.upto (s : _root_.Go.ChangeSpec) : _root_.Go.OpenSpec := { _root_.Go.OpenSpec.ofChange s with cond := some uptoSmall }

/-- 'ceefaxlaw7.PacketSays', WHERE WHAT IT READS IS OF BULK AT MOST 1048576: true; the input reads as it did. -/
def packetSaysUptoRow : OpenClaim := { program := "ytjjkbnipokpmcaadoor", sum := "8988b5adbd7fb8c219180b210e9753f78ee91de5121ab0236800ae3c4728c29c", func := "ceefax/ceefaxlaw7.PacketSays", spec := "packetSays", unfollowed := true, recurses := true, named := ["ceefax/api.ErrLength", "ceefax/api.ErrBits", "ceefax/api.ErrKind", "ceefax/api.ErrRange", "ceefax/api.ErrNone", "ceefax/api.ErrMode"], apart := false, laid := [("ceefax/api.ErrRange", laid_ceefax_api_ErrRange), ("ceefax/api.ErrLength", laid_ceefax_api_ErrLength), ("ceefax/api.ErrBits", laid_ceefax_api_ErrBits), ("ceefax/api.ErrKind", laid_ceefax_api_ErrKind), ("ceefax/api.ErrNone", laid_ceefax_api_ErrNone), ("ceefax/api.ErrMode", laid_ceefax_api_ErrMode)], narrowed := true }
def PacketSaysUptoSaid : Prop := packetSaysUptoRow.holds Tryd.pinned (OpenSpec.upto packetSaysSpec)

/-- 'ceefaxlaw7.PacketBack', WHERE WHAT IT READS IS OF BULK AT MOST 1048576: true; the input reads as it did. -/
def packetBackUptoRow : OpenClaim := { program := "ytjjkbnipokpmcaadoor", sum := "8988b5adbd7fb8c219180b210e9753f78ee91de5121ab0236800ae3c4728c29c", func := "ceefax/ceefaxlaw7.PacketBack", spec := "packetBack", unfollowed := true, recurses := true, named := ["ceefax/api.ErrLength", "ceefax/api.ErrBits", "ceefax/api.ErrKind", "ceefax/api.ErrRange", "ceefax/api.ErrNone", "ceefax/api.ErrMode"], apart := false, laid := [("ceefax/api.ErrRange", laid_ceefax_api_ErrRange), ("ceefax/api.ErrLength", laid_ceefax_api_ErrLength), ("ceefax/api.ErrBits", laid_ceefax_api_ErrBits), ("ceefax/api.ErrKind", laid_ceefax_api_ErrKind), ("ceefax/api.ErrNone", laid_ceefax_api_ErrNone), ("ceefax/api.ErrMode", laid_ceefax_api_ErrMode)], narrowed := true }
def PacketBackUptoSaid : Prop := packetBackUptoRow.holds Tryd.pinned (OpenSpec.upto packetBackSpec)

/-- 'ceefaxlaw7.PacketKinds', WHERE WHAT IT READS IS OF BULK AT MOST 1048576: true; the input reads as it did. -/
def packetKindsUptoRow : OpenClaim := { program := "ytjjkbnipokpmcaadoor", sum := "8988b5adbd7fb8c219180b210e9753f78ee91de5121ab0236800ae3c4728c29c", func := "ceefax/ceefaxlaw7.PacketKinds", spec := "packetKinds", unfollowed := true, recurses := true, named := ["ceefax/api.ErrLength", "ceefax/api.ErrBits", "ceefax/api.ErrKind", "ceefax/api.ErrRange", "ceefax/api.ErrNone", "ceefax/api.ErrMode"], apart := false, laid := [("ceefax/api.ErrRange", laid_ceefax_api_ErrRange), ("ceefax/api.ErrLength", laid_ceefax_api_ErrLength), ("ceefax/api.ErrBits", laid_ceefax_api_ErrBits), ("ceefax/api.ErrKind", laid_ceefax_api_ErrKind), ("ceefax/api.ErrNone", laid_ceefax_api_ErrNone), ("ceefax/api.ErrMode", laid_ceefax_api_ErrMode)], narrowed := true }
def PacketKindsUptoSaid : Prop := packetKindsUptoRow.holds Tryd.pinned (OpenSpec.upto packetKindsSpec)

/-- 'ceefaxlaw7.PacketUnlike', WHERE WHAT IT READS IS OF BULK AT MOST 1048576: true; the input reads as it did. -/
def packetUnlikeUptoRow : OpenClaim := { program := "ytjjkbnipokpmcaadoor", sum := "8988b5adbd7fb8c219180b210e9753f78ee91de5121ab0236800ae3c4728c29c", func := "ceefax/ceefaxlaw7.PacketUnlike", spec := "packetUnlike", unfollowed := true, recurses := true, named := ["ceefax/api.ErrLength", "ceefax/api.ErrBits", "ceefax/api.ErrKind", "ceefax/api.ErrRange", "ceefax/api.ErrNone", "ceefax/api.ErrMode"], apart := false, laid := [("ceefax/api.ErrRange", laid_ceefax_api_ErrRange), ("ceefax/api.ErrLength", laid_ceefax_api_ErrLength), ("ceefax/api.ErrBits", laid_ceefax_api_ErrBits), ("ceefax/api.ErrKind", laid_ceefax_api_ErrKind), ("ceefax/api.ErrNone", laid_ceefax_api_ErrNone), ("ceefax/api.ErrMode", laid_ceefax_api_ErrMode)], narrowed := true }
def PacketUnlikeUptoSaid : Prop := packetUnlikeUptoRow.holds Tryd.pinned (OpenSpec.upto packetUnlikeSpec)

end Rows
end Go.Proofs.YtjjkbnipokpmcaaDoor
