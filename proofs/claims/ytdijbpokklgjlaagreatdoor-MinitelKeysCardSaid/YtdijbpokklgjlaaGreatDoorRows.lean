/-
  NARROWER THAN 'FOR EVERY INPUT', by the rows' own cells (each row's printed sentence says how): MinitelAnswers: laid · MinitelLost: laid · MinitelSocket: laid · MinitelKeys: laid.
  DERIVED. THE GIVEN ROWS OF THIS SEAT. 4 by the template 'for every input the law returns true; each argument reads behind the call as it read before'; 0 by the template 'total and deterministic' (their statements: YtdijbpokklgjlaaGreatDoorTotals.lean).
  GIVEN WITH THE SEED: the statements are not yours to turn. If you find one false, say at which input.
  Laid BY PROGRAM, IN A SANDBOX (cutbox-rows.mjs): the forced cells as the released guide's own fill.sh prints them over the translation 5e312d4a9f50e799… (all of the seat's roots in one cut). By AI agents, Wed Nov 11 2026. No macro, syntax, notation, axiom, sorry.
-/
import Derived.Test.YtdijbpokklgjlaaGreatDoorChecked
import GoSem.Claim
import GoSem.ClaimJoined
import GoSem.ClaimMapViews
import Derived.JoinedTies
import Derived.KernelRfl
namespace Go.Proofs.YtdijbpokklgjlaaGreatDoor
/- THE CELL 'sum', in the pinned program and in every row, IS THE sha256 OF THE DUMP (.gsa) THAT YtdijbpokklgjlaaGreatDoorProg.lean LOADS. Nothing in Lean hashes anything: it is a label: what it is worth is what the hold of that sum in a sandbox is worth. -/
noncomputable def Tryz.pinned : Pinned := { name := "ytdijbpokklgjlaagreatdoor", sum := "5e312d4a9f50e7995090396c41417082c97806460b7756832c22aa49c7b092a0", checked := Tryz.checked }
namespace Rows
def none {H : Type} : Left H := { results := [], args := [] }

/- WHAT THE LISTED PACKAGE-LEVEL VARIABLES READ AS WHEN THE CALL BEGINS. Each datum BY PROGRAM (the guide's laid-datum.mjs) off the statement by which the dump's own 'gosem.cut.vars' lays the variable. In a bare row this is a premise. The card (YtdijbpokklgjlaaGreatDoorCards.lean) ties it to the program's text. -/
def laid_ceefax_api_ErrRange {H : Type} : DataW H := .iface "*errors.errorString" (.ptr (.agg [.lit (.string [97, 32, 110, 117, 109, 98, 101, 114, 32, 111, 117, 116, 32, 111, 102, 32, 105, 116, 115, 32, 114, 97, 110, 103, 101])]))

/-- 'ceefaxlaw27.MinitelAnswers': WHATEVER THE INPUT: true; the input reads as it did. -/
def minitelAnswersSpec : ChangeSpec := { name := "minitelAnswers", fn := fun _ => fun
  | [d1, d2, d3] => { results := [.lit (.bool true)], args := [d1, d2, d3] }
  | _ => none }
def minitelAnswersRow : OpenClaim := { program := "ytdijbpokklgjlaagreatdoor", sum := "5e312d4a9f50e7995090396c41417082c97806460b7756832c22aa49c7b092a0", func := "ceefax/ceefaxlaw27.MinitelAnswers", spec := "minitelAnswers", unfollowed := true, recurses := true, named := ["ceefax/api.ErrRange"], apart := false, laid := [("ceefax/api.ErrRange", laid_ceefax_api_ErrRange)] }
def MinitelAnswersSaid : Prop := minitelAnswersRow.holds Tryz.pinned (OpenSpec.ofChange minitelAnswersSpec)

/-- ITS FALSE NEIGHBOUR: 'it returns false'. Refute it at one input. -/
def minitelAnswersWrong : ChangeSpec := { name := "minitelAnswers", fn := fun _ => fun
  | [d1, d2, d3] => { results := [.lit (.bool false)], args := [d1, d2, d3] }
  | _ => none }
def MinitelAnswersWrongFalsely : Prop := minitelAnswersRow.holds Tryz.pinned (OpenSpec.ofChange minitelAnswersWrong)

/-- 'ceefaxlaw27.MinitelLost': WHATEVER THE INPUT: true; the input reads as it did. -/
def minitelLostSpec : ChangeSpec := { name := "minitelLost", fn := fun _ => fun
  | [d1, d2] => { results := [.lit (.bool true)], args := [d1, d2] }
  | _ => none }
def minitelLostRow : OpenClaim := { program := "ytdijbpokklgjlaagreatdoor", sum := "5e312d4a9f50e7995090396c41417082c97806460b7756832c22aa49c7b092a0", func := "ceefax/ceefaxlaw27.MinitelLost", spec := "minitelLost", unfollowed := true, recurses := true, named := ["ceefax/api.ErrRange"], apart := false, laid := [("ceefax/api.ErrRange", laid_ceefax_api_ErrRange)] }
def MinitelLostSaid : Prop := minitelLostRow.holds Tryz.pinned (OpenSpec.ofChange minitelLostSpec)

/-- ITS FALSE NEIGHBOUR: 'it returns false'. Refute it at one input. -/
def minitelLostWrong : ChangeSpec := { name := "minitelLost", fn := fun _ => fun
  | [d1, d2] => { results := [.lit (.bool false)], args := [d1, d2] }
  | _ => none }
def MinitelLostWrongFalsely : Prop := minitelLostRow.holds Tryz.pinned (OpenSpec.ofChange minitelLostWrong)

/-- 'ceefaxlaw27.MinitelSocket': WHATEVER THE INPUT: true; the input reads as it did. -/
def minitelSocketSpec : ChangeSpec := { name := "minitelSocket", fn := fun _ => fun
  | [d1, d2, d3] => { results := [.lit (.bool true)], args := [d1, d2, d3] }
  | _ => none }
def minitelSocketRow : OpenClaim := { program := "ytdijbpokklgjlaagreatdoor", sum := "5e312d4a9f50e7995090396c41417082c97806460b7756832c22aa49c7b092a0", func := "ceefax/ceefaxlaw27.MinitelSocket", spec := "minitelSocket", unfollowed := true, recurses := true, named := ["ceefax/api.ErrRange"], apart := false, laid := [("ceefax/api.ErrRange", laid_ceefax_api_ErrRange)] }
def MinitelSocketSaid : Prop := minitelSocketRow.holds Tryz.pinned (OpenSpec.ofChange minitelSocketSpec)

/-- ITS FALSE NEIGHBOUR: 'it returns false'. Refute it at one input. -/
def minitelSocketWrong : ChangeSpec := { name := "minitelSocket", fn := fun _ => fun
  | [d1, d2, d3] => { results := [.lit (.bool false)], args := [d1, d2, d3] }
  | _ => none }
def MinitelSocketWrongFalsely : Prop := minitelSocketRow.holds Tryz.pinned (OpenSpec.ofChange minitelSocketWrong)

/-- 'ceefaxlaw27.MinitelKeys': WHATEVER THE INPUT: true; the input reads as it did. -/
def minitelKeysSpec : ChangeSpec := { name := "minitelKeys", fn := fun _ => fun
  | [d1, d2, d3] => { results := [.lit (.bool true)], args := [d1, d2, d3] }
  | _ => none }
def minitelKeysRow : OpenClaim := { program := "ytdijbpokklgjlaagreatdoor", sum := "5e312d4a9f50e7995090396c41417082c97806460b7756832c22aa49c7b092a0", func := "ceefax/ceefaxlaw27.MinitelKeys", spec := "minitelKeys", unfollowed := true, recurses := true, named := ["ceefax/api.ErrRange"], apart := false, laid := [("ceefax/api.ErrRange", laid_ceefax_api_ErrRange)] }
def MinitelKeysSaid : Prop := minitelKeysRow.holds Tryz.pinned (OpenSpec.ofChange minitelKeysSpec)

/-- ITS FALSE NEIGHBOUR: 'it returns false'. Refute it at one input. -/
def minitelKeysWrong : ChangeSpec := { name := "minitelKeys", fn := fun _ => fun
  | [d1, d2, d3] => { results := [.lit (.bool false)], args := [d1, d2, d3] }
  | _ => none }
def MinitelKeysWrongFalsely : Prop := minitelKeysRow.holds Tryz.pinned (OpenSpec.ofChange minitelKeysWrong)

/- THE SECOND FORM. 'bulk': how many values and letters a reading holds, each counted each time it is reached (what is shared counts as often as it is met; a slice's spare places count too). A statement '..UptoSaid' is the law's where the arguments, and the package variables that the reading takes, are together of bulk at most 1048576: NARROWER than '..Said'. Prove '..Said' where nothing that the law and all that it calls make is longer than what came in: it says more and counts as full. Else prove '..UptoSaid'. A law counts once. -/
mutual
def uptoBulk {H : Type} : DataW H → Nat
  | .lit (.string bytes) => bytes.length + 1
  | .lit _ => 1
  | .nil => 1
  | .ptr d => uptoBulk d + 1
  | .slice elems spare => uptoBulkAll elems + uptoBulkAll spare + 1
  | .agg parts => uptoBulkAll parts + 1
  | .iface _ d => uptoBulk d + 1
  | .map entries => uptoBulkEntries entries + 1
  | .held _ => 1
def uptoBulkAll {H : Type} : List (DataW H) → Nat
  | [] => 0
  | d :: r => uptoBulk d + uptoBulkAll r
def uptoBulkEntries {H : Type} : List (Lit × DataW H) → Nat
  | [] => 0
  | x :: r => uptoBulkEntry x + uptoBulkEntries r
def uptoBulkEntry {H : Type} : Lit × DataW H → Nat
  | (.string bytes, d) => bytes.length + uptoBulk d + 1
  | (_, d) => uptoBulk d + 1
 end
def uptoSmall : (H : Type) → List (DataW H) → Bool := fun _ ds => decide (uptoBulkAll ds ≤ 1048576)
def OpenSpec.upto (s : _root_.Go.ChangeSpec) : _root_.Go.OpenSpec := { _root_.Go.OpenSpec.ofChange s with cond := some uptoSmall }

/-- 'ceefaxlaw27.MinitelAnswers', WHERE WHAT IT READS IS OF BULK AT MOST 1048576: true; the input reads as it did. -/
def minitelAnswersUptoRow : OpenClaim := { program := "ytdijbpokklgjlaagreatdoor", sum := "5e312d4a9f50e7995090396c41417082c97806460b7756832c22aa49c7b092a0", func := "ceefax/ceefaxlaw27.MinitelAnswers", spec := "minitelAnswers", unfollowed := true, recurses := true, named := ["ceefax/api.ErrRange"], apart := false, laid := [("ceefax/api.ErrRange", laid_ceefax_api_ErrRange)], narrowed := true }
def MinitelAnswersUptoSaid : Prop := minitelAnswersUptoRow.holds Tryz.pinned (OpenSpec.upto minitelAnswersSpec)

/-- 'ceefaxlaw27.MinitelLost', WHERE WHAT IT READS IS OF BULK AT MOST 1048576: true; the input reads as it did. -/
def minitelLostUptoRow : OpenClaim := { program := "ytdijbpokklgjlaagreatdoor", sum := "5e312d4a9f50e7995090396c41417082c97806460b7756832c22aa49c7b092a0", func := "ceefax/ceefaxlaw27.MinitelLost", spec := "minitelLost", unfollowed := true, recurses := true, named := ["ceefax/api.ErrRange"], apart := false, laid := [("ceefax/api.ErrRange", laid_ceefax_api_ErrRange)], narrowed := true }
def MinitelLostUptoSaid : Prop := minitelLostUptoRow.holds Tryz.pinned (OpenSpec.upto minitelLostSpec)

/-- 'ceefaxlaw27.MinitelSocket', WHERE WHAT IT READS IS OF BULK AT MOST 1048576: true; the input reads as it did. -/
def minitelSocketUptoRow : OpenClaim := { program := "ytdijbpokklgjlaagreatdoor", sum := "5e312d4a9f50e7995090396c41417082c97806460b7756832c22aa49c7b092a0", func := "ceefax/ceefaxlaw27.MinitelSocket", spec := "minitelSocket", unfollowed := true, recurses := true, named := ["ceefax/api.ErrRange"], apart := false, laid := [("ceefax/api.ErrRange", laid_ceefax_api_ErrRange)], narrowed := true }
def MinitelSocketUptoSaid : Prop := minitelSocketUptoRow.holds Tryz.pinned (OpenSpec.upto minitelSocketSpec)

/-- 'ceefaxlaw27.MinitelKeys', WHERE WHAT IT READS IS OF BULK AT MOST 1048576: true; the input reads as it did. -/
def minitelKeysUptoRow : OpenClaim := { program := "ytdijbpokklgjlaagreatdoor", sum := "5e312d4a9f50e7995090396c41417082c97806460b7756832c22aa49c7b092a0", func := "ceefax/ceefaxlaw27.MinitelKeys", spec := "minitelKeys", unfollowed := true, recurses := true, named := ["ceefax/api.ErrRange"], apart := false, laid := [("ceefax/api.ErrRange", laid_ceefax_api_ErrRange)], narrowed := true }
def MinitelKeysUptoSaid : Prop := minitelKeysUptoRow.holds Tryz.pinned (OpenSpec.upto minitelKeysSpec)

end Rows
end Go.Proofs.YtdijbpokklgjlaaGreatDoor
