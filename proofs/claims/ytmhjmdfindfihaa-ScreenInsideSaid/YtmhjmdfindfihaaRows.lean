/-
  No cell of these rows narrows 'for every input' (looked for: loops, veiled, ifaces, maps, wideKeys, modest, calm, conditions, laid).
  DERIVED. THE GIVEN ROWS OF THIS SEAT. 9 by the template 'for every input the law returns true; each argument reads behind the call as it read before'; 0 by the template 'total and deterministic' (their statements: YtmhjmdfindfihaaTotals.lean).
  GIVEN WITH THE SEED: the statements are not yours to turn. If you find one false, say at which input.
  Laid BY PROGRAM, IN A SANDBOX (cutbox-rows.mjs): the forced cells as the released guide's own fill.sh prints them over the translation ebdf18015567c14a… (all of the seat's roots in one cut). By AI agents, Wed Nov 11 2026. No macro, syntax, notation, axiom, sorry.
-/
import Derived.Test.YtmhjmdfindfihaaChecked
import GoSem.Claim
import GoSem.ClaimJoined
import GoSem.ClaimMapViews
import Derived.JoinedTies
import Derived.KernelRfl
namespace Go.Proofs.Ytmhjmdfindfihaa
/- THE CELL 'sum', in the pinned program and in every row, IS THE sha256 OF THE DUMP (.gsa) THAT YtmhjmdfindfihaaProg.lean LOADS. Nothing in Lean hashes anything: it is a label: what it is worth is what the hold of that sum in a sandbox is worth. -/
noncomputable def Try.pinned : Pinned := { name := "ytmhjmdfindfihaa", sum := "ebdf18015567c14aefc166fb4e8f991a88680fe454835fa0166df1a1f7fec6b0", checked := Try.checked }
namespace Rows
def none {H : Type} : Left H := { results := [], args := [] }

/-- 'ceefaxlaw23.ScreenMoves': WHATEVER THE INPUT: true; the input reads as it did. -/
def screenMovesSpec : ChangeSpec := { name := "screenMoves", fn := fun _ => fun
  | [d1, d2, d3, d4] => { results := [.lit (.bool true)], args := [d1, d2, d3, d4] }
  | _ => none }
def screenMovesRow : OpenClaim := { program := "ytmhjmdfindfihaa", sum := "ebdf18015567c14aefc166fb4e8f991a88680fe454835fa0166df1a1f7fec6b0", func := "ceefax/ceefaxlaw23.ScreenMoves", spec := "screenMoves", apart := false }
def ScreenMovesSaid : Prop := screenMovesRow.holds Try.pinned (OpenSpec.ofChange screenMovesSpec)

/-- ITS FALSE NEIGHBOUR: 'it returns false'. Refute it at one input. -/
def screenMovesWrong : ChangeSpec := { name := "screenMoves", fn := fun _ => fun
  | [d1, d2, d3, d4] => { results := [.lit (.bool false)], args := [d1, d2, d3, d4] }
  | _ => none }
def ScreenMovesWrongFalsely : Prop := screenMovesRow.holds Try.pinned (OpenSpec.ofChange screenMovesWrong)

/-- 'ceefaxlaw23.ScreenErases': WHATEVER THE INPUT: true; the input reads as it did. -/
def screenErasesSpec : ChangeSpec := { name := "screenErases", fn := fun _ => fun
  | [d1, d2, d3, d4] => { results := [.lit (.bool true)], args := [d1, d2, d3, d4] }
  | _ => none }
def screenErasesRow : OpenClaim := { program := "ytmhjmdfindfihaa", sum := "ebdf18015567c14aefc166fb4e8f991a88680fe454835fa0166df1a1f7fec6b0", func := "ceefax/ceefaxlaw23.ScreenErases", spec := "screenErases", apart := false }
def ScreenErasesSaid : Prop := screenErasesRow.holds Try.pinned (OpenSpec.ofChange screenErasesSpec)

/-- ITS FALSE NEIGHBOUR: 'it returns false'. Refute it at one input. -/
def screenErasesWrong : ChangeSpec := { name := "screenErases", fn := fun _ => fun
  | [d1, d2, d3, d4] => { results := [.lit (.bool false)], args := [d1, d2, d3, d4] }
  | _ => none }
def ScreenErasesWrongFalsely : Prop := screenErasesRow.holds Try.pinned (OpenSpec.ofChange screenErasesWrong)

/-- 'ceefaxlaw23.ScreenSizes': WHATEVER THE INPUT: true; the input reads as it did. -/
def screenSizesSpec : ChangeSpec := { name := "screenSizes", fn := fun _ => fun
  | [d1, d2, d3, d4, d5] => { results := [.lit (.bool true)], args := [d1, d2, d3, d4, d5] }
  | _ => none }
def screenSizesRow : OpenClaim := { program := "ytmhjmdfindfihaa", sum := "ebdf18015567c14aefc166fb4e8f991a88680fe454835fa0166df1a1f7fec6b0", func := "ceefax/ceefaxlaw23.ScreenSizes", spec := "screenSizes", apart := false }
def ScreenSizesSaid : Prop := screenSizesRow.holds Try.pinned (OpenSpec.ofChange screenSizesSpec)

/-- ITS FALSE NEIGHBOUR: 'it returns false'. Refute it at one input. -/
def screenSizesWrong : ChangeSpec := { name := "screenSizes", fn := fun _ => fun
  | [d1, d2, d3, d4, d5] => { results := [.lit (.bool false)], args := [d1, d2, d3, d4, d5] }
  | _ => none }
def ScreenSizesWrongFalsely : Prop := screenSizesRow.holds Try.pinned (OpenSpec.ofChange screenSizesWrong)

/-- 'ceefaxlaw23.ScreenRepeats': WHATEVER THE INPUT: true; the input reads as it did. -/
def screenRepeatsSpec : ChangeSpec := { name := "screenRepeats", fn := fun _ => fun
  | [d1, d2, d3, d4] => { results := [.lit (.bool true)], args := [d1, d2, d3, d4] }
  | _ => none }
def screenRepeatsRow : OpenClaim := { program := "ytmhjmdfindfihaa", sum := "ebdf18015567c14aefc166fb4e8f991a88680fe454835fa0166df1a1f7fec6b0", func := "ceefax/ceefaxlaw23.ScreenRepeats", spec := "screenRepeats", apart := false }
def ScreenRepeatsSaid : Prop := screenRepeatsRow.holds Try.pinned (OpenSpec.ofChange screenRepeatsSpec)

/-- ITS FALSE NEIGHBOUR: 'it returns false'. Refute it at one input. -/
def screenRepeatsWrong : ChangeSpec := { name := "screenRepeats", fn := fun _ => fun
  | [d1, d2, d3, d4] => { results := [.lit (.bool false)], args := [d1, d2, d3, d4] }
  | _ => none }
def ScreenRepeatsWrongFalsely : Prop := screenRepeatsRow.holds Try.pinned (OpenSpec.ofChange screenRepeatsWrong)

/-- 'ceefaxlaw23.ScreenTop': WHATEVER THE INPUT: true; the input reads as it did. -/
def screenTopSpec : ChangeSpec := { name := "screenTop", fn := fun _ => fun
  | [d1, d2, d3] => { results := [.lit (.bool true)], args := [d1, d2, d3] }
  | _ => none }
def screenTopRow : OpenClaim := { program := "ytmhjmdfindfihaa", sum := "ebdf18015567c14aefc166fb4e8f991a88680fe454835fa0166df1a1f7fec6b0", func := "ceefax/ceefaxlaw23.ScreenTop", spec := "screenTop", apart := false }
def ScreenTopSaid : Prop := screenTopRow.holds Try.pinned (OpenSpec.ofChange screenTopSpec)

/-- ITS FALSE NEIGHBOUR: 'it returns false'. Refute it at one input. -/
def screenTopWrong : ChangeSpec := { name := "screenTop", fn := fun _ => fun
  | [d1, d2, d3] => { results := [.lit (.bool false)], args := [d1, d2, d3] }
  | _ => none }
def ScreenTopWrongFalsely : Prop := screenTopRow.holds Try.pinned (OpenSpec.ofChange screenTopWrong)

/-- 'ceefaxlaw23.ScreenZones': WHATEVER THE INPUT: true; the input reads as it did. -/
def screenZonesSpec : ChangeSpec := { name := "screenZones", fn := fun _ => fun
  | [d1, d2, d3, d4] => { results := [.lit (.bool true)], args := [d1, d2, d3, d4] }
  | _ => none }
def screenZonesRow : OpenClaim := { program := "ytmhjmdfindfihaa", sum := "ebdf18015567c14aefc166fb4e8f991a88680fe454835fa0166df1a1f7fec6b0", func := "ceefax/ceefaxlaw23.ScreenZones", spec := "screenZones", apart := false }
def ScreenZonesSaid : Prop := screenZonesRow.holds Try.pinned (OpenSpec.ofChange screenZonesSpec)

/-- ITS FALSE NEIGHBOUR: 'it returns false'. Refute it at one input. -/
def screenZonesWrong : ChangeSpec := { name := "screenZones", fn := fun _ => fun
  | [d1, d2, d3, d4] => { results := [.lit (.bool false)], args := [d1, d2, d3, d4] }
  | _ => none }
def ScreenZonesWrongFalsely : Prop := screenZonesRow.holds Try.pinned (OpenSpec.ofChange screenZonesWrong)

/-- 'ceefaxlaw23.ScreenInside': WHATEVER THE INPUT: true; the input reads as it did. -/
def screenInsideSpec : ChangeSpec := { name := "screenInside", fn := fun _ => fun
  | [d1, d2] => { results := [.lit (.bool true)], args := [d1, d2] }
  | _ => none }
def screenInsideRow : OpenClaim := { program := "ytmhjmdfindfihaa", sum := "ebdf18015567c14aefc166fb4e8f991a88680fe454835fa0166df1a1f7fec6b0", func := "ceefax/ceefaxlaw23.ScreenInside", spec := "screenInside", apart := false }
def ScreenInsideSaid : Prop := screenInsideRow.holds Try.pinned (OpenSpec.ofChange screenInsideSpec)

/-- ITS FALSE NEIGHBOUR: 'it returns false'. Refute it at one input. -/
def screenInsideWrong : ChangeSpec := { name := "screenInside", fn := fun _ => fun
  | [d1, d2] => { results := [.lit (.bool false)], args := [d1, d2] }
  | _ => none }
def ScreenInsideWrongFalsely : Prop := screenInsideRow.holds Try.pinned (OpenSpec.ofChange screenInsideWrong)

/-- 'ceefaxlaw23.ScreenText': WHATEVER THE INPUT: true; the input reads as it did. -/
def screenTextSpec : ChangeSpec := { name := "screenText", fn := fun _ => fun
  | [d1, d2, d3, d4] => { results := [.lit (.bool true)], args := [d1, d2, d3, d4] }
  | _ => none }
def screenTextRow : OpenClaim := { program := "ytmhjmdfindfihaa", sum := "ebdf18015567c14aefc166fb4e8f991a88680fe454835fa0166df1a1f7fec6b0", func := "ceefax/ceefaxlaw23.ScreenText", spec := "screenText", apart := false }
def ScreenTextSaid : Prop := screenTextRow.holds Try.pinned (OpenSpec.ofChange screenTextSpec)

/-- ITS FALSE NEIGHBOUR: 'it returns false'. Refute it at one input. -/
def screenTextWrong : ChangeSpec := { name := "screenText", fn := fun _ => fun
  | [d1, d2, d3, d4] => { results := [.lit (.bool false)], args := [d1, d2, d3, d4] }
  | _ => none }
def ScreenTextWrongFalsely : Prop := screenTextRow.holds Try.pinned (OpenSpec.ofChange screenTextWrong)

/-- 'ceefaxlaw23.ScreenRolls': WHATEVER THE INPUT: true; the input reads as it did. -/
def screenRollsSpec : ChangeSpec := { name := "screenRolls", fn := fun _ => fun
  | [d1, d2] => { results := [.lit (.bool true)], args := [d1, d2] }
  | _ => none }
def screenRollsRow : OpenClaim := { program := "ytmhjmdfindfihaa", sum := "ebdf18015567c14aefc166fb4e8f991a88680fe454835fa0166df1a1f7fec6b0", func := "ceefax/ceefaxlaw23.ScreenRolls", spec := "screenRolls", apart := false }
def ScreenRollsSaid : Prop := screenRollsRow.holds Try.pinned (OpenSpec.ofChange screenRollsSpec)

/-- ITS FALSE NEIGHBOUR: 'it returns false'. Refute it at one input. -/
def screenRollsWrong : ChangeSpec := { name := "screenRolls", fn := fun _ => fun
  | [d1, d2] => { results := [.lit (.bool false)], args := [d1, d2] }
  | _ => none }
def ScreenRollsWrongFalsely : Prop := screenRollsRow.holds Try.pinned (OpenSpec.ofChange screenRollsWrong)

/- THE SECOND FORM. 'bulk': how many values and letters a reading holds, each counted each time it is reached (what is shared counts as often as it is met; a slice's spare places count too). A statement '..UptoSaid' is the law's where the arguments, and the package variables that the reading takes, are together of bulk at most 1048576: NARROWER than '..Said'. Prove '..Said' where nothing that the law and all that it calls make is longer than what came in: it says more and counts as full. Else prove '..UptoSaid'. A law counts once. -/
mutual
def uptoBulk {H : Type} : DataW H → Nat
  | .lit (.string bytes) => bytes.length + 1
  | .lit _ => 1
  | .nil => 1
  | .ptr d => uptoBulk d + 1
  | .slice elems spare => uptoBulkAll elems + uptoBulkAll spare + 1
  | .agg parts => uptoBulkAll parts + 1
  | .iface _ d => uptoBulk d + 1
  | .map entries => uptoBulkEntries entries + 1
  | .held _ => 1
def uptoBulkAll {H : Type} : List (DataW H) → Nat
  | [] => 0
  | d :: r => uptoBulk d + uptoBulkAll r
def uptoBulkEntries {H : Type} : List (Lit × DataW H) → Nat
  | [] => 0
  | x :: r => uptoBulkEntry x + uptoBulkEntries r
def uptoBulkEntry {H : Type} : Lit × DataW H → Nat
  | (.string bytes, d) => bytes.length + uptoBulk d + 1
  | (_, d) => uptoBulk d + 1
 end
def uptoSmall : (H : Type) → List (DataW H) → Bool := fun _ ds => decide (uptoBulkAll ds ≤ 1048576)
def OpenSpec.upto (s : _root_.Go.ChangeSpec) : _root_.Go.OpenSpec := { _root_.Go.OpenSpec.ofChange s with cond := some uptoSmall }

/-- 'ceefaxlaw23.ScreenMoves', WHERE WHAT IT READS IS OF BULK AT MOST 1048576: true; the input reads as it did. -/
def screenMovesUptoRow : OpenClaim := { program := "ytmhjmdfindfihaa", sum := "ebdf18015567c14aefc166fb4e8f991a88680fe454835fa0166df1a1f7fec6b0", func := "ceefax/ceefaxlaw23.ScreenMoves", spec := "screenMoves", apart := false, narrowed := true }
def ScreenMovesUptoSaid : Prop := screenMovesUptoRow.holds Try.pinned (OpenSpec.upto screenMovesSpec)

/-- 'ceefaxlaw23.ScreenErases', WHERE WHAT IT READS IS OF BULK AT MOST 1048576: true; the input reads as it did. -/
def screenErasesUptoRow : OpenClaim := { program := "ytmhjmdfindfihaa", sum := "ebdf18015567c14aefc166fb4e8f991a88680fe454835fa0166df1a1f7fec6b0", func := "ceefax/ceefaxlaw23.ScreenErases", spec := "screenErases", apart := false, narrowed := true }
def ScreenErasesUptoSaid : Prop := screenErasesUptoRow.holds Try.pinned (OpenSpec.upto screenErasesSpec)

/-- 'ceefaxlaw23.ScreenSizes', WHERE WHAT IT READS IS OF BULK AT MOST 1048576: true; the input reads as it did. -/
def screenSizesUptoRow : OpenClaim := { program := "ytmhjmdfindfihaa", sum := "ebdf18015567c14aefc166fb4e8f991a88680fe454835fa0166df1a1f7fec6b0", func := "ceefax/ceefaxlaw23.ScreenSizes", spec := "screenSizes", apart := false, narrowed := true }
def ScreenSizesUptoSaid : Prop := screenSizesUptoRow.holds Try.pinned (OpenSpec.upto screenSizesSpec)

/-- 'ceefaxlaw23.ScreenRepeats', WHERE WHAT IT READS IS OF BULK AT MOST 1048576: true; the input reads as it did. -/
def screenRepeatsUptoRow : OpenClaim := { program := "ytmhjmdfindfihaa", sum := "ebdf18015567c14aefc166fb4e8f991a88680fe454835fa0166df1a1f7fec6b0", func := "ceefax/ceefaxlaw23.ScreenRepeats", spec := "screenRepeats", apart := false, narrowed := true }
def ScreenRepeatsUptoSaid : Prop := screenRepeatsUptoRow.holds Try.pinned (OpenSpec.upto screenRepeatsSpec)

/-- 'ceefaxlaw23.ScreenTop', WHERE WHAT IT READS IS OF BULK AT MOST 1048576: true; the input reads as it did. -/
def screenTopUptoRow : OpenClaim := { program := "ytmhjmdfindfihaa", sum := "ebdf18015567c14aefc166fb4e8f991a88680fe454835fa0166df1a1f7fec6b0", func := "ceefax/ceefaxlaw23.ScreenTop", spec := "screenTop", apart := false, narrowed := true }
def ScreenTopUptoSaid : Prop := screenTopUptoRow.holds Try.pinned (OpenSpec.upto screenTopSpec)

/-- 'ceefaxlaw23.ScreenZones', WHERE WHAT IT READS IS OF BULK AT MOST 1048576: true; the input reads as it did. -/
def screenZonesUptoRow : OpenClaim := { program := "ytmhjmdfindfihaa", sum := "ebdf18015567c14aefc166fb4e8f991a88680fe454835fa0166df1a1f7fec6b0", func := "ceefax/ceefaxlaw23.ScreenZones", spec := "screenZones", apart := false, narrowed := true }
def ScreenZonesUptoSaid : Prop := screenZonesUptoRow.holds Try.pinned (OpenSpec.upto screenZonesSpec)

/-- 'ceefaxlaw23.ScreenInside', WHERE WHAT IT READS IS OF BULK AT MOST 1048576: true; the input reads as it did. -/
def screenInsideUptoRow : OpenClaim := { program := "ytmhjmdfindfihaa", sum := "ebdf18015567c14aefc166fb4e8f991a88680fe454835fa0166df1a1f7fec6b0", func := "ceefax/ceefaxlaw23.ScreenInside", spec := "screenInside", apart := false, narrowed := true }
def ScreenInsideUptoSaid : Prop := screenInsideUptoRow.holds Try.pinned (OpenSpec.upto screenInsideSpec)

/-- 'ceefaxlaw23.ScreenText', WHERE WHAT IT READS IS OF BULK AT MOST 1048576: true; the input reads as it did. -/
def screenTextUptoRow : OpenClaim := { program := "ytmhjmdfindfihaa", sum := "ebdf18015567c14aefc166fb4e8f991a88680fe454835fa0166df1a1f7fec6b0", func := "ceefax/ceefaxlaw23.ScreenText", spec := "screenText", apart := false, narrowed := true }
def ScreenTextUptoSaid : Prop := screenTextUptoRow.holds Try.pinned (OpenSpec.upto screenTextSpec)

/-- 'ceefaxlaw23.ScreenRolls', WHERE WHAT IT READS IS OF BULK AT MOST 1048576: true; the input reads as it did. -/
def screenRollsUptoRow : OpenClaim := { program := "ytmhjmdfindfihaa", sum := "ebdf18015567c14aefc166fb4e8f991a88680fe454835fa0166df1a1f7fec6b0", func := "ceefax/ceefaxlaw23.ScreenRolls", spec := "screenRolls", apart := false, narrowed := true }
def ScreenRollsUptoSaid : Prop := screenRollsUptoRow.holds Try.pinned (OpenSpec.upto screenRollsSpec)

end Rows
end Go.Proofs.Ytmhjmdfindfihaa
