/-
  NARROWER THAN 'FOR EVERY INPUT', by the rows' own cells (each row's printed sentence says how): LinksSay: laid · LinksBack: laid · LinksOther: laid · HeaderBack: laid · HeaderFlags: laid · TripletRegions: laid · TripletBack: laid · TripletSays: laid · ServiceSays: laid · ServiceBack: laid · ServiceEdges: laid.
  DERIVED. THE GIVEN ROWS OF THIS SEAT. 11 by the template 'for every input the law returns true; each argument reads behind the call as it read before'; 0 by the template 'total and deterministic' (their statements: YthjdlanmfiofdaaDoorTotals.lean).
  GIVEN WITH THE SEED: the statements are not yours to turn. If you find one false, say at which input.
  Laid BY PROGRAM, IN A SANDBOX (cutbox-rows.mjs): the forced cells as the released guide's own fill.sh prints them over the translation 1338f81facd3d6e1… (all of the seat's roots in one cut). By AI agents, Wed Nov 11 2026. No macro, syntax, notation, axiom, sorry.
-/
import Derived.Test.YthjdlanmfiofdaaDoorChecked
import GoSem.Claim
import GoSem.ClaimJoined
import GoSem.ClaimMapViews
import Derived.JoinedTies
import Derived.KernelRfl
namespace Go.Proofs.YthjdlanmfiofdaaDoor
/- THE CELL 'sum', in the pinned program and in every row, IS THE sha256 OF THE DUMP (.gsa) THAT YthjdlanmfiofdaaDoorProg.lean LOADS. Nothing in Lean hashes anything: it is a label: what it is worth is what the hold of that sum in a sandbox is worth. -/
noncomputable def Tryd.pinned : Pinned := { name := "ythjdlanmfiofdaadoor", sum := "1338f81facd3d6e101519456b017992c14f16414b4d0b9ec78a150b3b4251649", checked := Tryd.checked }
namespace Rows
def none {H : Type} : Left H := { results := [], args := [] }

/- WHAT THE LISTED PACKAGE-LEVEL VARIABLES READ AS WHEN THE CALL BEGINS. Each datum BY PROGRAM (the guide's laid-datum.mjs) off the statement by which the dump's own 'gosem.cut.vars' lays the variable. In a bare row this is a premise. The card (YthjdlanmfiofdaaDoorCards.lean) ties it to the program's text. -/
def laid_ceefax_api_ErrRange {H : Type} : DataW H := .iface "*errors.errorString" (.ptr (.agg [.lit (.string [97, 32, 110, 117, 109, 98, 101, 114, 32, 111, 117, 116, 32, 111, 102, 32, 105, 116, 115, 32, 114, 97, 110, 103, 101])]))
def laid_ceefax_api_ErrLength {H : Type} : DataW H := .iface "*errors.errorString" (.ptr (.agg [.lit (.string [110, 111, 116, 32, 97, 115, 32, 108, 111, 110, 103, 32, 97, 115, 32, 105, 116, 32, 104, 97, 115, 32, 116, 111, 32, 98, 101])]))
def laid_ceefax_api_ErrBits {H : Type} : DataW H := .iface "*errors.errorString" (.ptr (.agg [.lit (.string [98, 105, 116, 115, 32, 116, 104, 97, 116, 32, 99, 97, 110, 39, 116, 32, 98, 101, 32, 109, 101, 110, 100, 101, 100])]))
def laid_ceefax_api_ErrKind {H : Type} : DataW H := .iface "*errors.errorString" (.ptr (.agg [.lit (.string [111, 102, 32, 97, 110, 111, 116, 104, 101, 114, 32, 107, 105, 110, 100])]))
def laid_ceefax_api_ErrNone {H : Type} : DataW H := .iface "*errors.errorString" (.ptr (.agg [.lit (.string [116, 104, 101, 114, 101, 32, 105, 115, 32, 110, 111, 110, 101])]))
def laid_ceefax_api_ErrMode {H : Type} : DataW H := .iface "*errors.errorString" (.ptr (.agg [.lit (.string [110, 111, 116, 32, 105, 110, 32, 116, 104, 105, 115, 32, 109, 111, 100, 101])]))

/-- 'ceefaxlaw10.LinksSay': WHATEVER THE INPUT: true; the input reads as it did. -/
def linksSaySpec : ChangeSpec := { name := "linksSay", fn := fun _ => fun
  | [d1, d2, d3, d4, d5] => { results := [.lit (.bool true)], args := [d1, d2, d3, d4, d5] }
  | _ => none }
def linksSayRow : OpenClaim := { program := "ythjdlanmfiofdaadoor", sum := "1338f81facd3d6e101519456b017992c14f16414b4d0b9ec78a150b3b4251649", func := "ceefax/ceefaxlaw10.LinksSay", spec := "linksSay", unfollowed := true, recurses := true, named := ["ceefax/api.ErrLength", "ceefax/api.ErrBits", "ceefax/api.ErrKind", "ceefax/api.ErrRange", "ceefax/api.ErrNone", "ceefax/api.ErrMode"], apart := false, laid := [("ceefax/api.ErrRange", laid_ceefax_api_ErrRange), ("ceefax/api.ErrLength", laid_ceefax_api_ErrLength), ("ceefax/api.ErrBits", laid_ceefax_api_ErrBits), ("ceefax/api.ErrKind", laid_ceefax_api_ErrKind), ("ceefax/api.ErrNone", laid_ceefax_api_ErrNone), ("ceefax/api.ErrMode", laid_ceefax_api_ErrMode)] }
def LinksSaySaid : Prop := linksSayRow.holds Tryd.pinned (OpenSpec.ofChange linksSaySpec)

/-- ITS FALSE NEIGHBOUR: 'it returns false'. Refute it at one input. -/
def linksSayWrong : ChangeSpec := { name := "linksSay", fn := fun _ => fun
  | [d1, d2, d3, d4, d5] => { results := [.lit (.bool false)], args := [d1, d2, d3, d4, d5] }
  | _ => none }
def LinksSayWrongFalsely : Prop := linksSayRow.holds Tryd.pinned (OpenSpec.ofChange linksSayWrong)

/-- 'ceefaxlaw10.LinksBack': WHATEVER THE INPUT: true; the input reads as it did. -/
def linksBackSpec : ChangeSpec := { name := "linksBack", fn := fun _ => fun
  | [d1, d2, d3, d4] => { results := [.lit (.bool true)], args := [d1, d2, d3, d4] }
  | _ => none }
def linksBackRow : OpenClaim := { program := "ythjdlanmfiofdaadoor", sum := "1338f81facd3d6e101519456b017992c14f16414b4d0b9ec78a150b3b4251649", func := "ceefax/ceefaxlaw10.LinksBack", spec := "linksBack", unfollowed := true, recurses := true, named := ["ceefax/api.ErrRange", "ceefax/api.ErrLength", "ceefax/api.ErrBits", "ceefax/api.ErrKind"], apart := false, laid := [("ceefax/api.ErrRange", laid_ceefax_api_ErrRange), ("ceefax/api.ErrLength", laid_ceefax_api_ErrLength), ("ceefax/api.ErrBits", laid_ceefax_api_ErrBits), ("ceefax/api.ErrKind", laid_ceefax_api_ErrKind)] }
def LinksBackSaid : Prop := linksBackRow.holds Tryd.pinned (OpenSpec.ofChange linksBackSpec)

/-- ITS FALSE NEIGHBOUR: 'it returns false'. Refute it at one input. -/
def linksBackWrong : ChangeSpec := { name := "linksBack", fn := fun _ => fun
  | [d1, d2, d3, d4] => { results := [.lit (.bool false)], args := [d1, d2, d3, d4] }
  | _ => none }
def LinksBackWrongFalsely : Prop := linksBackRow.holds Tryd.pinned (OpenSpec.ofChange linksBackWrong)

/-- 'ceefaxlaw10.LinksOther': WHATEVER THE INPUT: true; the input reads as it did. -/
def linksOtherSpec : ChangeSpec := { name := "linksOther", fn := fun _ => fun
  | [d1, d2, d3] => { results := [.lit (.bool true)], args := [d1, d2, d3] }
  | _ => none }
def linksOtherRow : OpenClaim := { program := "ythjdlanmfiofdaadoor", sum := "1338f81facd3d6e101519456b017992c14f16414b4d0b9ec78a150b3b4251649", func := "ceefax/ceefaxlaw10.LinksOther", spec := "linksOther", unfollowed := true, recurses := true, named := ["ceefax/api.ErrRange", "ceefax/api.ErrLength", "ceefax/api.ErrBits", "ceefax/api.ErrKind", "ceefax/api.ErrNone", "ceefax/api.ErrMode"], apart := false, laid := [("ceefax/api.ErrRange", laid_ceefax_api_ErrRange), ("ceefax/api.ErrLength", laid_ceefax_api_ErrLength), ("ceefax/api.ErrBits", laid_ceefax_api_ErrBits), ("ceefax/api.ErrKind", laid_ceefax_api_ErrKind), ("ceefax/api.ErrNone", laid_ceefax_api_ErrNone), ("ceefax/api.ErrMode", laid_ceefax_api_ErrMode)] }
def LinksOtherSaid : Prop := linksOtherRow.holds Tryd.pinned (OpenSpec.ofChange linksOtherSpec)

/-- ITS FALSE NEIGHBOUR: 'it returns false'. Refute it at one input. -/
def linksOtherWrong : ChangeSpec := { name := "linksOther", fn := fun _ => fun
  | [d1, d2, d3] => { results := [.lit (.bool false)], args := [d1, d2, d3] }
  | _ => none }
def LinksOtherWrongFalsely : Prop := linksOtherRow.holds Tryd.pinned (OpenSpec.ofChange linksOtherWrong)

/-- 'ceefaxlaw8.HeaderBack': WHATEVER THE INPUT: true; the input reads as it did. -/
def headerBackSpec : ChangeSpec := { name := "headerBack", fn := fun _ => fun
  | [d1, d2, d3, d4, d5, d6] => { results := [.lit (.bool true)], args := [d1, d2, d3, d4, d5, d6] }
  | _ => none }
def headerBackRow : OpenClaim := { program := "ythjdlanmfiofdaadoor", sum := "1338f81facd3d6e101519456b017992c14f16414b4d0b9ec78a150b3b4251649", func := "ceefax/ceefaxlaw8.HeaderBack", spec := "headerBack", unfollowed := true, recurses := true, named := ["ceefax/api.ErrRange", "ceefax/api.ErrLength", "ceefax/api.ErrBits", "ceefax/api.ErrKind"], apart := false, laid := [("ceefax/api.ErrRange", laid_ceefax_api_ErrRange), ("ceefax/api.ErrLength", laid_ceefax_api_ErrLength), ("ceefax/api.ErrBits", laid_ceefax_api_ErrBits), ("ceefax/api.ErrKind", laid_ceefax_api_ErrKind)] }
def HeaderBackSaid : Prop := headerBackRow.holds Tryd.pinned (OpenSpec.ofChange headerBackSpec)

/-- ITS FALSE NEIGHBOUR: 'it returns false'. Refute it at one input. -/
def headerBackWrong : ChangeSpec := { name := "headerBack", fn := fun _ => fun
  | [d1, d2, d3, d4, d5, d6] => { results := [.lit (.bool false)], args := [d1, d2, d3, d4, d5, d6] }
  | _ => none }
def HeaderBackWrongFalsely : Prop := headerBackRow.holds Tryd.pinned (OpenSpec.ofChange headerBackWrong)

/-- 'ceefaxlaw8.HeaderFlags': WHATEVER THE INPUT: true; the input reads as it did. -/
def headerFlagsSpec : ChangeSpec := { name := "headerFlags", fn := fun _ => fun
  | [d1, d2, d3] => { results := [.lit (.bool true)], args := [d1, d2, d3] }
  | _ => none }
def headerFlagsRow : OpenClaim := { program := "ythjdlanmfiofdaadoor", sum := "1338f81facd3d6e101519456b017992c14f16414b4d0b9ec78a150b3b4251649", func := "ceefax/ceefaxlaw8.HeaderFlags", spec := "headerFlags", unfollowed := true, recurses := true, named := ["ceefax/api.ErrRange", "ceefax/api.ErrLength", "ceefax/api.ErrBits", "ceefax/api.ErrKind", "ceefax/api.ErrNone", "ceefax/api.ErrMode"], apart := false, laid := [("ceefax/api.ErrRange", laid_ceefax_api_ErrRange), ("ceefax/api.ErrLength", laid_ceefax_api_ErrLength), ("ceefax/api.ErrBits", laid_ceefax_api_ErrBits), ("ceefax/api.ErrKind", laid_ceefax_api_ErrKind), ("ceefax/api.ErrNone", laid_ceefax_api_ErrNone), ("ceefax/api.ErrMode", laid_ceefax_api_ErrMode)] }
def HeaderFlagsSaid : Prop := headerFlagsRow.holds Tryd.pinned (OpenSpec.ofChange headerFlagsSpec)

/-- ITS FALSE NEIGHBOUR: 'it returns false'. Refute it at one input. -/
def headerFlagsWrong : ChangeSpec := { name := "headerFlags", fn := fun _ => fun
  | [d1, d2, d3] => { results := [.lit (.bool false)], args := [d1, d2, d3] }
  | _ => none }
def HeaderFlagsWrongFalsely : Prop := headerFlagsRow.holds Tryd.pinned (OpenSpec.ofChange headerFlagsWrong)

/-- 'ceefaxlaw9.TripletRegions': WHATEVER THE INPUT: true; the input reads as it did. -/
def tripletRegionsSpec : ChangeSpec := { name := "tripletRegions", fn := fun _ => fun
  | [d1, d2, d3, d4, d5, d6] => { results := [.lit (.bool true)], args := [d1, d2, d3, d4, d5, d6] }
  | _ => none }
def tripletRegionsRow : OpenClaim := { program := "ythjdlanmfiofdaadoor", sum := "1338f81facd3d6e101519456b017992c14f16414b4d0b9ec78a150b3b4251649", func := "ceefax/ceefaxlaw9.TripletRegions", spec := "tripletRegions", unfollowed := true, recurses := true, named := ["ceefax/api.ErrRange", "ceefax/api.ErrLength", "ceefax/api.ErrBits", "ceefax/api.ErrKind"], apart := false, laid := [("ceefax/api.ErrRange", laid_ceefax_api_ErrRange), ("ceefax/api.ErrLength", laid_ceefax_api_ErrLength), ("ceefax/api.ErrBits", laid_ceefax_api_ErrBits), ("ceefax/api.ErrKind", laid_ceefax_api_ErrKind)] }
def TripletRegionsSaid : Prop := tripletRegionsRow.holds Tryd.pinned (OpenSpec.ofChange tripletRegionsSpec)

/-- ITS FALSE NEIGHBOUR: 'it returns false'. Refute it at one input. -/
def tripletRegionsWrong : ChangeSpec := { name := "tripletRegions", fn := fun _ => fun
  | [d1, d2, d3, d4, d5, d6] => { results := [.lit (.bool false)], args := [d1, d2, d3, d4, d5, d6] }
  | _ => none }
def TripletRegionsWrongFalsely : Prop := tripletRegionsRow.holds Tryd.pinned (OpenSpec.ofChange tripletRegionsWrong)

/-- 'ceefaxlaw9.TripletBack': WHATEVER THE INPUT: true; the input reads as it did. -/
def tripletBackSpec : ChangeSpec := { name := "tripletBack", fn := fun _ => fun
  | [d1, d2, d3, d4, d5] => { results := [.lit (.bool true)], args := [d1, d2, d3, d4, d5] }
  | _ => none }
def tripletBackRow : OpenClaim := { program := "ythjdlanmfiofdaadoor", sum := "1338f81facd3d6e101519456b017992c14f16414b4d0b9ec78a150b3b4251649", func := "ceefax/ceefaxlaw9.TripletBack", spec := "tripletBack", unfollowed := true, recurses := true, named := ["ceefax/api.ErrRange", "ceefax/api.ErrLength", "ceefax/api.ErrBits", "ceefax/api.ErrKind"], apart := false, laid := [("ceefax/api.ErrRange", laid_ceefax_api_ErrRange), ("ceefax/api.ErrLength", laid_ceefax_api_ErrLength), ("ceefax/api.ErrBits", laid_ceefax_api_ErrBits), ("ceefax/api.ErrKind", laid_ceefax_api_ErrKind)] }
def TripletBackSaid : Prop := tripletBackRow.holds Tryd.pinned (OpenSpec.ofChange tripletBackSpec)

/-- ITS FALSE NEIGHBOUR: 'it returns false'. Refute it at one input. -/
def tripletBackWrong : ChangeSpec := { name := "tripletBack", fn := fun _ => fun
  | [d1, d2, d3, d4, d5] => { results := [.lit (.bool false)], args := [d1, d2, d3, d4, d5] }
  | _ => none }
def TripletBackWrongFalsely : Prop := tripletBackRow.holds Tryd.pinned (OpenSpec.ofChange tripletBackWrong)

/-- 'ceefaxlaw9.TripletSays': WHATEVER THE INPUT: true; the input reads as it did. -/
def tripletSaysSpec : ChangeSpec := { name := "tripletSays", fn := fun _ => fun
  | [d1, d2, d3, d4, d5, d6, d7] => { results := [.lit (.bool true)], args := [d1, d2, d3, d4, d5, d6, d7] }
  | _ => none }
def tripletSaysRow : OpenClaim := { program := "ythjdlanmfiofdaadoor", sum := "1338f81facd3d6e101519456b017992c14f16414b4d0b9ec78a150b3b4251649", func := "ceefax/ceefaxlaw9.TripletSays", spec := "tripletSays", unfollowed := true, recurses := true, named := ["ceefax/api.ErrLength", "ceefax/api.ErrBits", "ceefax/api.ErrKind", "ceefax/api.ErrRange", "ceefax/api.ErrNone", "ceefax/api.ErrMode"], apart := false, laid := [("ceefax/api.ErrRange", laid_ceefax_api_ErrRange), ("ceefax/api.ErrLength", laid_ceefax_api_ErrLength), ("ceefax/api.ErrBits", laid_ceefax_api_ErrBits), ("ceefax/api.ErrKind", laid_ceefax_api_ErrKind), ("ceefax/api.ErrNone", laid_ceefax_api_ErrNone), ("ceefax/api.ErrMode", laid_ceefax_api_ErrMode)] }
def TripletSaysSaid : Prop := tripletSaysRow.holds Tryd.pinned (OpenSpec.ofChange tripletSaysSpec)

/-- ITS FALSE NEIGHBOUR: 'it returns false'. Refute it at one input. -/
def tripletSaysWrong : ChangeSpec := { name := "tripletSays", fn := fun _ => fun
  | [d1, d2, d3, d4, d5, d6, d7] => { results := [.lit (.bool false)], args := [d1, d2, d3, d4, d5, d6, d7] }
  | _ => none }
def TripletSaysWrongFalsely : Prop := tripletSaysRow.holds Tryd.pinned (OpenSpec.ofChange tripletSaysWrong)

/-- 'ceefaxlaw11.ServiceSays': WHATEVER THE INPUT: true; the input reads as it did. -/
def serviceSaysSpec : ChangeSpec := { name := "serviceSays", fn := fun _ => fun
  | [d1, d2] => { results := [.lit (.bool true)], args := [d1, d2] }
  | _ => none }
def serviceSaysRow : OpenClaim := { program := "ythjdlanmfiofdaadoor", sum := "1338f81facd3d6e101519456b017992c14f16414b4d0b9ec78a150b3b4251649", func := "ceefax/ceefaxlaw11.ServiceSays", spec := "serviceSays", unfollowed := true, recurses := true, named := ["ceefax/api.ErrRange", "ceefax/api.ErrLength", "ceefax/api.ErrBits", "ceefax/api.ErrKind", "ceefax/api.ErrNone", "ceefax/api.ErrMode"], apart := false, laid := [("ceefax/api.ErrRange", laid_ceefax_api_ErrRange), ("ceefax/api.ErrLength", laid_ceefax_api_ErrLength), ("ceefax/api.ErrBits", laid_ceefax_api_ErrBits), ("ceefax/api.ErrKind", laid_ceefax_api_ErrKind), ("ceefax/api.ErrNone", laid_ceefax_api_ErrNone), ("ceefax/api.ErrMode", laid_ceefax_api_ErrMode)] }
def ServiceSaysSaid : Prop := serviceSaysRow.holds Tryd.pinned (OpenSpec.ofChange serviceSaysSpec)

/-- ITS FALSE NEIGHBOUR: 'it returns false'. Refute it at one input. -/
def serviceSaysWrong : ChangeSpec := { name := "serviceSays", fn := fun _ => fun
  | [d1, d2] => { results := [.lit (.bool false)], args := [d1, d2] }
  | _ => none }
def ServiceSaysWrongFalsely : Prop := serviceSaysRow.holds Tryd.pinned (OpenSpec.ofChange serviceSaysWrong)

/-- 'ceefaxlaw11.ServiceBack': WHATEVER THE INPUT: true; the input reads as it did. -/
def serviceBackSpec : ChangeSpec := { name := "serviceBack", fn := fun _ => fun
  | [d1, d2, d3, d4, d5, d6] => { results := [.lit (.bool true)], args := [d1, d2, d3, d4, d5, d6] }
  | _ => none }
def serviceBackRow : OpenClaim := { program := "ythjdlanmfiofdaadoor", sum := "1338f81facd3d6e101519456b017992c14f16414b4d0b9ec78a150b3b4251649", func := "ceefax/ceefaxlaw11.ServiceBack", spec := "serviceBack", unfollowed := true, recurses := true, named := ["ceefax/api.ErrRange", "ceefax/api.ErrLength", "ceefax/api.ErrBits", "ceefax/api.ErrKind", "ceefax/api.ErrNone", "ceefax/api.ErrMode"], apart := false, laid := [("ceefax/api.ErrRange", laid_ceefax_api_ErrRange), ("ceefax/api.ErrLength", laid_ceefax_api_ErrLength), ("ceefax/api.ErrBits", laid_ceefax_api_ErrBits), ("ceefax/api.ErrKind", laid_ceefax_api_ErrKind), ("ceefax/api.ErrNone", laid_ceefax_api_ErrNone), ("ceefax/api.ErrMode", laid_ceefax_api_ErrMode)] }
def ServiceBackSaid : Prop := serviceBackRow.holds Tryd.pinned (OpenSpec.ofChange serviceBackSpec)

/-- ITS FALSE NEIGHBOUR: 'it returns false'. Refute it at one input. -/
def serviceBackWrong : ChangeSpec := { name := "serviceBack", fn := fun _ => fun
  | [d1, d2, d3, d4, d5, d6] => { results := [.lit (.bool false)], args := [d1, d2, d3, d4, d5, d6] }
  | _ => none }
def ServiceBackWrongFalsely : Prop := serviceBackRow.holds Tryd.pinned (OpenSpec.ofChange serviceBackWrong)

/-- 'ceefaxlaw11.ServiceEdges': WHATEVER THE INPUT: true; the input reads as it did. -/
def serviceEdgesSpec : ChangeSpec := { name := "serviceEdges", fn := fun _ => fun
  | [d1, d2] => { results := [.lit (.bool true)], args := [d1, d2] }
  | _ => none }
def serviceEdgesRow : OpenClaim := { program := "ythjdlanmfiofdaadoor", sum := "1338f81facd3d6e101519456b017992c14f16414b4d0b9ec78a150b3b4251649", func := "ceefax/ceefaxlaw11.ServiceEdges", spec := "serviceEdges", unfollowed := true, recurses := true, named := ["ceefax/api.ErrRange", "ceefax/api.ErrLength", "ceefax/api.ErrBits", "ceefax/api.ErrKind", "ceefax/api.ErrNone", "ceefax/api.ErrMode"], apart := false, laid := [("ceefax/api.ErrRange", laid_ceefax_api_ErrRange), ("ceefax/api.ErrLength", laid_ceefax_api_ErrLength), ("ceefax/api.ErrBits", laid_ceefax_api_ErrBits), ("ceefax/api.ErrKind", laid_ceefax_api_ErrKind), ("ceefax/api.ErrNone", laid_ceefax_api_ErrNone), ("ceefax/api.ErrMode", laid_ceefax_api_ErrMode)] }
def ServiceEdgesSaid : Prop := serviceEdgesRow.holds Tryd.pinned (OpenSpec.ofChange serviceEdgesSpec)

/-- ITS FALSE NEIGHBOUR: 'it returns false'. Refute it at one input. -/
def serviceEdgesWrong : ChangeSpec := { name := "serviceEdges", fn := fun _ => fun
  | [d1, d2] => { results := [.lit (.bool false)], args := [d1, d2] }
  | _ => none }
def ServiceEdgesWrongFalsely : Prop := serviceEdgesRow.holds Tryd.pinned (OpenSpec.ofChange serviceEdgesWrong)

/- THE SECOND FORM. 'bulk': how many values and letters a reading holds, each counted each time it is reached (what is shared counts as often as it is met; a slice's spare places count too). A statement '..UptoSaid' is the law's where the arguments, and the package variables that the reading takes, are together of bulk at most 1048576: NARROWER than '..Said'. Prove '..Said' where nothing that the law and all that it calls make is longer than what came in: it says more and counts as full. Else prove '..UptoSaid'. A law counts once. -/
mutual
def uptoBulk {H : Type} : DataW H → Nat
  | .lit (.string bytes) => bytes.length + 1
  | .lit _ => 1
  | .nil => 1
  | .ptr d => uptoBulk d + 1
  | .slice elems spare => uptoBulkAll elems + uptoBulkAll spare + 1
  | .agg parts => uptoBulkAll parts + 1
  | .iface _ d => uptoBulk d + 1
  | .map entries => uptoBulkEntries entries + 1
  | .held _ => 1
def uptoBulkAll {H : Type} : List (DataW H) → Nat
  | [] => 0
  | d :: r => uptoBulk d + uptoBulkAll r
def uptoBulkEntries {H : Type} : List (Lit × DataW H) → Nat
  | [] => 0
  | x :: r => uptoBulkEntry x + uptoBulkEntries r
def uptoBulkEntry {H : Type} : Lit × DataW H → Nat
  | (.string bytes, d) => bytes.length + uptoBulk d + 1
  | (_, d) => uptoBulk d + 1
 end
def uptoSmall : (H : Type) → List (DataW H) → Bool := fun _ ds => decide (uptoBulkAll ds ≤ 1048576)
def OpenSpec.upto (s : _root_.Go.ChangeSpec) : _root_.Go.OpenSpec := { _root_.Go.OpenSpec.ofChange s with cond := some uptoSmall }

/-- 'ceefaxlaw10.LinksSay', WHERE WHAT IT READS IS OF BULK AT MOST 1048576: true; the input reads as it did. -/
def linksSayUptoRow : OpenClaim := { program := "ythjdlanmfiofdaadoor", sum := "1338f81facd3d6e101519456b017992c14f16414b4d0b9ec78a150b3b4251649", func := "ceefax/ceefaxlaw10.LinksSay", spec := "linksSay", unfollowed := true, recurses := true, named := ["ceefax/api.ErrLength", "ceefax/api.ErrBits", "ceefax/api.ErrKind", "ceefax/api.ErrRange", "ceefax/api.ErrNone", "ceefax/api.ErrMode"], apart := false, laid := [("ceefax/api.ErrRange", laid_ceefax_api_ErrRange), ("ceefax/api.ErrLength", laid_ceefax_api_ErrLength), ("ceefax/api.ErrBits", laid_ceefax_api_ErrBits), ("ceefax/api.ErrKind", laid_ceefax_api_ErrKind), ("ceefax/api.ErrNone", laid_ceefax_api_ErrNone), ("ceefax/api.ErrMode", laid_ceefax_api_ErrMode)], narrowed := true }
def LinksSayUptoSaid : Prop := linksSayUptoRow.holds Tryd.pinned (OpenSpec.upto linksSaySpec)

/-- 'ceefaxlaw10.LinksBack', WHERE WHAT IT READS IS OF BULK AT MOST 1048576: true; the input reads as it did. -/
def linksBackUptoRow : OpenClaim := { program := "ythjdlanmfiofdaadoor", sum := "1338f81facd3d6e101519456b017992c14f16414b4d0b9ec78a150b3b4251649", func := "ceefax/ceefaxlaw10.LinksBack", spec := "linksBack", unfollowed := true, recurses := true, named := ["ceefax/api.ErrRange", "ceefax/api.ErrLength", "ceefax/api.ErrBits", "ceefax/api.ErrKind"], apart := false, laid := [("ceefax/api.ErrRange", laid_ceefax_api_ErrRange), ("ceefax/api.ErrLength", laid_ceefax_api_ErrLength), ("ceefax/api.ErrBits", laid_ceefax_api_ErrBits), ("ceefax/api.ErrKind", laid_ceefax_api_ErrKind)], narrowed := true }
def LinksBackUptoSaid : Prop := linksBackUptoRow.holds Tryd.pinned (OpenSpec.upto linksBackSpec)

/-- 'ceefaxlaw10.LinksOther', WHERE WHAT IT READS IS OF BULK AT MOST 1048576: true; the input reads as it did. -/
def linksOtherUptoRow : OpenClaim := { program := "ythjdlanmfiofdaadoor", sum := "1338f81facd3d6e101519456b017992c14f16414b4d0b9ec78a150b3b4251649", func := "ceefax/ceefaxlaw10.LinksOther", spec := "linksOther", unfollowed := true, recurses := true, named := ["ceefax/api.ErrRange", "ceefax/api.ErrLength", "ceefax/api.ErrBits", "ceefax/api.ErrKind", "ceefax/api.ErrNone", "ceefax/api.ErrMode"], apart := false, laid := [("ceefax/api.ErrRange", laid_ceefax_api_ErrRange), ("ceefax/api.ErrLength", laid_ceefax_api_ErrLength), ("ceefax/api.ErrBits", laid_ceefax_api_ErrBits), ("ceefax/api.ErrKind", laid_ceefax_api_ErrKind), ("ceefax/api.ErrNone", laid_ceefax_api_ErrNone), ("ceefax/api.ErrMode", laid_ceefax_api_ErrMode)], narrowed := true }
def LinksOtherUptoSaid : Prop := linksOtherUptoRow.holds Tryd.pinned (OpenSpec.upto linksOtherSpec)

/-- 'ceefaxlaw8.HeaderBack', WHERE WHAT IT READS IS OF BULK AT MOST 1048576: true; the input reads as it did. -/
def headerBackUptoRow : OpenClaim := { program := "ythjdlanmfiofdaadoor", sum := "1338f81facd3d6e101519456b017992c14f16414b4d0b9ec78a150b3b4251649", func := "ceefax/ceefaxlaw8.HeaderBack", spec := "headerBack", unfollowed := true, recurses := true, named := ["ceefax/api.ErrRange", "ceefax/api.ErrLength", "ceefax/api.ErrBits", "ceefax/api.ErrKind"], apart := false, laid := [("ceefax/api.ErrRange", laid_ceefax_api_ErrRange), ("ceefax/api.ErrLength", laid_ceefax_api_ErrLength), ("ceefax/api.ErrBits", laid_ceefax_api_ErrBits), ("ceefax/api.ErrKind", laid_ceefax_api_ErrKind)], narrowed := true }
def HeaderBackUptoSaid : Prop := headerBackUptoRow.holds Tryd.pinned (OpenSpec.upto headerBackSpec)

/-- 'ceefaxlaw8.HeaderFlags', WHERE WHAT IT READS IS OF BULK AT MOST 1048576: true; the input reads as it did. -/
def headerFlagsUptoRow : OpenClaim := { program := "ythjdlanmfiofdaadoor", sum := "1338f81facd3d6e101519456b017992c14f16414b4d0b9ec78a150b3b4251649", func := "ceefax/ceefaxlaw8.HeaderFlags", spec := "headerFlags", unfollowed := true, recurses := true, named := ["ceefax/api.ErrRange", "ceefax/api.ErrLength", "ceefax/api.ErrBits", "ceefax/api.ErrKind", "ceefax/api.ErrNone", "ceefax/api.ErrMode"], apart := false, laid := [("ceefax/api.ErrRange", laid_ceefax_api_ErrRange), ("ceefax/api.ErrLength", laid_ceefax_api_ErrLength), ("ceefax/api.ErrBits", laid_ceefax_api_ErrBits), ("ceefax/api.ErrKind", laid_ceefax_api_ErrKind), ("ceefax/api.ErrNone", laid_ceefax_api_ErrNone), ("ceefax/api.ErrMode", laid_ceefax_api_ErrMode)], narrowed := true }
def HeaderFlagsUptoSaid : Prop := headerFlagsUptoRow.holds Tryd.pinned (OpenSpec.upto headerFlagsSpec)

/-- 'ceefaxlaw9.TripletRegions', WHERE WHAT IT READS IS OF BULK AT MOST 1048576: true; the input reads as it did. -/
def tripletRegionsUptoRow : OpenClaim := { program := "ythjdlanmfiofdaadoor", sum := "1338f81facd3d6e101519456b017992c14f16414b4d0b9ec78a150b3b4251649", func := "ceefax/ceefaxlaw9.TripletRegions", spec := "tripletRegions", unfollowed := true, recurses := true, named := ["ceefax/api.ErrRange", "ceefax/api.ErrLength", "ceefax/api.ErrBits", "ceefax/api.ErrKind"], apart := false, laid := [("ceefax/api.ErrRange", laid_ceefax_api_ErrRange), ("ceefax/api.ErrLength", laid_ceefax_api_ErrLength), ("ceefax/api.ErrBits", laid_ceefax_api_ErrBits), ("ceefax/api.ErrKind", laid_ceefax_api_ErrKind)], narrowed := true }
def TripletRegionsUptoSaid : Prop := tripletRegionsUptoRow.holds Tryd.pinned (OpenSpec.upto tripletRegionsSpec)

/-- 'ceefaxlaw9.TripletBack', WHERE WHAT IT READS IS OF BULK AT MOST 1048576: true; the input reads as it did. -/
def tripletBackUptoRow : OpenClaim := { program := "ythjdlanmfiofdaadoor", sum := "1338f81facd3d6e101519456b017992c14f16414b4d0b9ec78a150b3b4251649", func := "ceefax/ceefaxlaw9.TripletBack", spec := "tripletBack", unfollowed := true, recurses := true, named := ["ceefax/api.ErrRange", "ceefax/api.ErrLength", "ceefax/api.ErrBits", "ceefax/api.ErrKind"], apart := false, laid := [("ceefax/api.ErrRange", laid_ceefax_api_ErrRange), ("ceefax/api.ErrLength", laid_ceefax_api_ErrLength), ("ceefax/api.ErrBits", laid_ceefax_api_ErrBits), ("ceefax/api.ErrKind", laid_ceefax_api_ErrKind)], narrowed := true }
def TripletBackUptoSaid : Prop := tripletBackUptoRow.holds Tryd.pinned (OpenSpec.upto tripletBackSpec)

/-- 'ceefaxlaw9.TripletSays', WHERE WHAT IT READS IS OF BULK AT MOST 1048576: true; the input reads as it did. -/
def tripletSaysUptoRow : OpenClaim := { program := "ythjdlanmfiofdaadoor", sum := "1338f81facd3d6e101519456b017992c14f16414b4d0b9ec78a150b3b4251649", func := "ceefax/ceefaxlaw9.TripletSays", spec := "tripletSays", unfollowed := true, recurses := true, named := ["ceefax/api.ErrLength", "ceefax/api.ErrBits", "ceefax/api.ErrKind", "ceefax/api.ErrRange", "ceefax/api.ErrNone", "ceefax/api.ErrMode"], apart := false, laid := [("ceefax/api.ErrRange", laid_ceefax_api_ErrRange), ("ceefax/api.ErrLength", laid_ceefax_api_ErrLength), ("ceefax/api.ErrBits", laid_ceefax_api_ErrBits), ("ceefax/api.ErrKind", laid_ceefax_api_ErrKind), ("ceefax/api.ErrNone", laid_ceefax_api_ErrNone), ("ceefax/api.ErrMode", laid_ceefax_api_ErrMode)], narrowed := true }
def TripletSaysUptoSaid : Prop := tripletSaysUptoRow.holds Tryd.pinned (OpenSpec.upto tripletSaysSpec)

/-- 'ceefaxlaw11.ServiceSays', WHERE WHAT IT READS IS OF BULK AT MOST 1048576: true; the input reads as it did. -/
def serviceSaysUptoRow : OpenClaim := { program := "ythjdlanmfiofdaadoor", sum := "1338f81facd3d6e101519456b017992c14f16414b4d0b9ec78a150b3b4251649", func := "ceefax/ceefaxlaw11.ServiceSays", spec := "serviceSays", unfollowed := true, recurses := true, named := ["ceefax/api.ErrRange", "ceefax/api.ErrLength", "ceefax/api.ErrBits", "ceefax/api.ErrKind", "ceefax/api.ErrNone", "ceefax/api.ErrMode"], apart := false, laid := [("ceefax/api.ErrRange", laid_ceefax_api_ErrRange), ("ceefax/api.ErrLength", laid_ceefax_api_ErrLength), ("ceefax/api.ErrBits", laid_ceefax_api_ErrBits), ("ceefax/api.ErrKind", laid_ceefax_api_ErrKind), ("ceefax/api.ErrNone", laid_ceefax_api_ErrNone), ("ceefax/api.ErrMode", laid_ceefax_api_ErrMode)], narrowed := true }
def ServiceSaysUptoSaid : Prop := serviceSaysUptoRow.holds Tryd.pinned (OpenSpec.upto serviceSaysSpec)

/-- 'ceefaxlaw11.ServiceBack', WHERE WHAT IT READS IS OF BULK AT MOST 1048576: true; the input reads as it did. -/
def serviceBackUptoRow : OpenClaim := { program := "ythjdlanmfiofdaadoor", sum := "1338f81facd3d6e101519456b017992c14f16414b4d0b9ec78a150b3b4251649", func := "ceefax/ceefaxlaw11.ServiceBack", spec := "serviceBack", unfollowed := true, recurses := true, named := ["ceefax/api.ErrRange", "ceefax/api.ErrLength", "ceefax/api.ErrBits", "ceefax/api.ErrKind", "ceefax/api.ErrNone", "ceefax/api.ErrMode"], apart := false, laid := [("ceefax/api.ErrRange", laid_ceefax_api_ErrRange), ("ceefax/api.ErrLength", laid_ceefax_api_ErrLength), ("ceefax/api.ErrBits", laid_ceefax_api_ErrBits), ("ceefax/api.ErrKind", laid_ceefax_api_ErrKind), ("ceefax/api.ErrNone", laid_ceefax_api_ErrNone), ("ceefax/api.ErrMode", laid_ceefax_api_ErrMode)], narrowed := true }
def ServiceBackUptoSaid : Prop := serviceBackUptoRow.holds Tryd.pinned (OpenSpec.upto serviceBackSpec)

/-- 'ceefaxlaw11.ServiceEdges', WHERE WHAT IT READS IS OF BULK AT MOST 1048576: true; the input reads as it did. -/
def serviceEdgesUptoRow : OpenClaim := { program := "ythjdlanmfiofdaadoor", sum := "1338f81facd3d6e101519456b017992c14f16414b4d0b9ec78a150b3b4251649", func := "ceefax/ceefaxlaw11.ServiceEdges", spec := "serviceEdges", unfollowed := true, recurses := true, named := ["ceefax/api.ErrRange", "ceefax/api.ErrLength", "ceefax/api.ErrBits", "ceefax/api.ErrKind", "ceefax/api.ErrNone", "ceefax/api.ErrMode"], apart := false, laid := [("ceefax/api.ErrRange", laid_ceefax_api_ErrRange), ("ceefax/api.ErrLength", laid_ceefax_api_ErrLength), ("ceefax/api.ErrBits", laid_ceefax_api_ErrBits), ("ceefax/api.ErrKind", laid_ceefax_api_ErrKind), ("ceefax/api.ErrNone", laid_ceefax_api_ErrNone), ("ceefax/api.ErrMode", laid_ceefax_api_ErrMode)], narrowed := true }
def ServiceEdgesUptoSaid : Prop := serviceEdgesUptoRow.holds Tryd.pinned (OpenSpec.upto serviceEdgesSpec)

end Rows
end Go.Proofs.YthjdlanmfiofdaaDoor
