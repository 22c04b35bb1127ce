/-
  No cell of these rows narrows 'for every input' (looked for: loops, veiled, ifaces, maps, wideKeys, modest, calm, conditions, laid).
  DERIVED. THE GIVEN ROWS OF THIS SEAT. 12 by the template 'for every input the law returns true; each argument reads behind the call as it read before'; 0 by the template 'total and deterministic' (their statements: YtnhadghddkgjdaaTotals.lean).
  GIVEN WITH THE SEED: the statements are not yours to turn. If you find one false, say at which input.
  Laid BY PROGRAM, IN A SANDBOX (cutbox-rows.mjs): the forced cells as the released guide's own fill.sh prints them over the translation 520d549927d54709… (all of the seat's roots in one cut). By AI agents, Wed Nov 11 2026. No macro, syntax, notation, axiom, sorry.
-/
import Derived.Test.YtnhadghddkgjdaaChecked
import GoSem.Claim
import GoSem.ClaimJoined
import GoSem.ClaimMapViews
import Derived.JoinedTies
import Derived.KernelRfl
namespace Go.Proofs.Ytnhadghddkgjdaa
/- THE CELL 'sum', in the pinned program and in every row, IS THE sha256 OF THE DUMP (.gsa) THAT YtnhadghddkgjdaaProg.lean LOADS. Nothing in Lean hashes anything: it is a label: what it is worth is what the hold of that sum in a sandbox is worth. -/
noncomputable def Try.pinned : Pinned := { name := "ytnhadghddkgjdaa", sum := "520d549927d54709b73c0b43485a0f846ad8900c668f5978aa2399abc17fad2a", checked := Try.checked }
namespace Rows
def none {H : Type} : Left H := { results := [], args := [] }

/-- 'ceefaxlaw18.RemoteDigits': WHATEVER THE INPUT: true; the input reads as it did. -/
def remoteDigitsSpec : ChangeSpec := { name := "remoteDigits", fn := fun _ => fun
  | [d1, d2, d3, d4] => { results := [.lit (.bool true)], args := [d1, d2, d3, d4] }
  | _ => none }
def remoteDigitsRow : OpenClaim := { program := "ytnhadghddkgjdaa", sum := "520d549927d54709b73c0b43485a0f846ad8900c668f5978aa2399abc17fad2a", func := "ceefax/ceefaxlaw18.RemoteDigits", spec := "remoteDigits", inPlace := ["internal/abi.NoEscape"], apart := false }
def RemoteDigitsSaid : Prop := remoteDigitsRow.holds Try.pinned (OpenSpec.ofChange remoteDigitsSpec)

/-- ITS FALSE NEIGHBOUR: 'it returns false'. Refute it at one input. -/
def remoteDigitsWrong : ChangeSpec := { name := "remoteDigits", fn := fun _ => fun
  | [d1, d2, d3, d4] => { results := [.lit (.bool false)], args := [d1, d2, d3, d4] }
  | _ => none }
def RemoteDigitsWrongFalsely : Prop := remoteDigitsRow.holds Try.pinned (OpenSpec.ofChange remoteDigitsWrong)

/-- 'ceefaxlaw18.RemoteRounds': WHATEVER THE INPUT: true; the input reads as it did. -/
def remoteRoundsSpec : ChangeSpec := { name := "remoteRounds", fn := fun _ => fun
  | [d1, d2, d3, d4] => { results := [.lit (.bool true)], args := [d1, d2, d3, d4] }
  | _ => none }
def remoteRoundsRow : OpenClaim := { program := "ytnhadghddkgjdaa", sum := "520d549927d54709b73c0b43485a0f846ad8900c668f5978aa2399abc17fad2a", func := "ceefax/ceefaxlaw18.RemoteRounds", spec := "remoteRounds", inPlace := ["internal/abi.NoEscape"], apart := false }
def RemoteRoundsSaid : Prop := remoteRoundsRow.holds Try.pinned (OpenSpec.ofChange remoteRoundsSpec)

/-- ITS FALSE NEIGHBOUR: 'it returns false'. Refute it at one input. -/
def remoteRoundsWrong : ChangeSpec := { name := "remoteRounds", fn := fun _ => fun
  | [d1, d2, d3, d4] => { results := [.lit (.bool false)], args := [d1, d2, d3, d4] }
  | _ => none }
def RemoteRoundsWrongFalsely : Prop := remoteRoundsRow.holds Try.pinned (OpenSpec.ofChange remoteRoundsWrong)

/-- 'ceefaxlaw18.RemoteLinks': WHATEVER THE INPUT: true; the input reads as it did. -/
def remoteLinksSpec : ChangeSpec := { name := "remoteLinks", fn := fun _ => fun
  | [d1, d2, d3] => { results := [.lit (.bool true)], args := [d1, d2, d3] }
  | _ => none }
def remoteLinksRow : OpenClaim := { program := "ytnhadghddkgjdaa", sum := "520d549927d54709b73c0b43485a0f846ad8900c668f5978aa2399abc17fad2a", func := "ceefax/ceefaxlaw18.RemoteLinks", spec := "remoteLinks", inPlace := ["internal/abi.NoEscape"], apart := false }
def RemoteLinksSaid : Prop := remoteLinksRow.holds Try.pinned (OpenSpec.ofChange remoteLinksSpec)

/-- ITS FALSE NEIGHBOUR: 'it returns false'. Refute it at one input. -/
def remoteLinksWrong : ChangeSpec := { name := "remoteLinks", fn := fun _ => fun
  | [d1, d2, d3] => { results := [.lit (.bool false)], args := [d1, d2, d3] }
  | _ => none }
def RemoteLinksWrongFalsely : Prop := remoteLinksRow.holds Try.pinned (OpenSpec.ofChange remoteLinksWrong)

/-- 'ceefaxlaw18.RemoteSubs': WHATEVER THE INPUT: true; the input reads as it did. -/
def remoteSubsSpec : ChangeSpec := { name := "remoteSubs", fn := fun _ => fun
  | [d1, d2, d3, d4, d5] => { results := [.lit (.bool true)], args := [d1, d2, d3, d4, d5] }
  | _ => none }
def remoteSubsRow : OpenClaim := { program := "ytnhadghddkgjdaa", sum := "520d549927d54709b73c0b43485a0f846ad8900c668f5978aa2399abc17fad2a", func := "ceefax/ceefaxlaw18.RemoteSubs", spec := "remoteSubs", inPlace := ["internal/abi.NoEscape"], apart := false }
def RemoteSubsSaid : Prop := remoteSubsRow.holds Try.pinned (OpenSpec.ofChange remoteSubsSpec)

/-- ITS FALSE NEIGHBOUR: 'it returns false'. Refute it at one input. -/
def remoteSubsWrong : ChangeSpec := { name := "remoteSubs", fn := fun _ => fun
  | [d1, d2, d3, d4, d5] => { results := [.lit (.bool false)], args := [d1, d2, d3, d4, d5] }
  | _ => none }
def RemoteSubsWrongFalsely : Prop := remoteSubsRow.holds Try.pinned (OpenSpec.ofChange remoteSubsWrong)

/-- 'ceefaxlaw18.RemoteTurns': WHATEVER THE INPUT: true; the input reads as it did. -/
def remoteTurnsSpec : ChangeSpec := { name := "remoteTurns", fn := fun _ => fun
  | [d] => { results := [.lit (.bool true)], args := [d] }
  | _ => none }
def remoteTurnsRow : OpenClaim := { program := "ytnhadghddkgjdaa", sum := "520d549927d54709b73c0b43485a0f846ad8900c668f5978aa2399abc17fad2a", func := "ceefax/ceefaxlaw18.RemoteTurns", spec := "remoteTurns", inPlace := ["internal/abi.NoEscape"], apart := false }
def RemoteTurnsSaid : Prop := remoteTurnsRow.holds Try.pinned (OpenSpec.ofChange remoteTurnsSpec)

/-- ITS FALSE NEIGHBOUR: 'it returns false'. Refute it at one input. -/
def remoteTurnsWrong : ChangeSpec := { name := "remoteTurns", fn := fun _ => fun
  | [d] => { results := [.lit (.bool false)], args := [d] }
  | _ => none }
def RemoteTurnsWrongFalsely : Prop := remoteTurnsRow.holds Try.pinned (OpenSpec.ofChange remoteTurnsWrong)

/-- 'ceefaxlaw21.LexBounds': WHATEVER THE INPUT: true; the input reads as it did. -/
def lexBoundsSpec : ChangeSpec := { name := "lexBounds", fn := fun _ => fun
  | [d] => { results := [.lit (.bool true)], args := [d] }
  | _ => none }
def lexBoundsRow : OpenClaim := { program := "ytnhadghddkgjdaa", sum := "520d549927d54709b73c0b43485a0f846ad8900c668f5978aa2399abc17fad2a", func := "ceefax/ceefaxlaw21.LexBounds", spec := "lexBounds", apart := false }
def LexBoundsSaid : Prop := lexBoundsRow.holds Try.pinned (OpenSpec.ofChange lexBoundsSpec)

/-- ITS FALSE NEIGHBOUR: 'it returns false'. Refute it at one input. -/
def lexBoundsWrong : ChangeSpec := { name := "lexBounds", fn := fun _ => fun
  | [d] => { results := [.lit (.bool false)], args := [d] }
  | _ => none }
def LexBoundsWrongFalsely : Prop := lexBoundsRow.holds Try.pinned (OpenSpec.ofChange lexBoundsWrong)

/-- 'ceefaxlaw21.LexSequences': WHATEVER THE INPUT: true; the input reads as it did. -/
def lexSequencesSpec : ChangeSpec := { name := "lexSequences", fn := fun _ => fun
  | [d1, d2, d3, d4] => { results := [.lit (.bool true)], args := [d1, d2, d3, d4] }
  | _ => none }
def lexSequencesRow : OpenClaim := { program := "ytnhadghddkgjdaa", sum := "520d549927d54709b73c0b43485a0f846ad8900c668f5978aa2399abc17fad2a", func := "ceefax/ceefaxlaw21.LexSequences", spec := "lexSequences", apart := false }
def LexSequencesSaid : Prop := lexSequencesRow.holds Try.pinned (OpenSpec.ofChange lexSequencesSpec)

/-- ITS FALSE NEIGHBOUR: 'it returns false'. Refute it at one input. -/
def lexSequencesWrong : ChangeSpec := { name := "lexSequences", fn := fun _ => fun
  | [d1, d2, d3, d4] => { results := [.lit (.bool false)], args := [d1, d2, d3, d4] }
  | _ => none }
def LexSequencesWrongFalsely : Prop := lexSequencesRow.holds Try.pinned (OpenSpec.ofChange lexSequencesWrong)

/-- 'ceefaxlaw21.LexIgnored': WHATEVER THE INPUT: true; the input reads as it did. -/
def lexIgnoredSpec : ChangeSpec := { name := "lexIgnored", fn := fun _ => fun
  | [d1, d2, d3] => { results := [.lit (.bool true)], args := [d1, d2, d3] }
  | _ => none }
def lexIgnoredRow : OpenClaim := { program := "ytnhadghddkgjdaa", sum := "520d549927d54709b73c0b43485a0f846ad8900c668f5978aa2399abc17fad2a", func := "ceefax/ceefaxlaw21.LexIgnored", spec := "lexIgnored", apart := false }
def LexIgnoredSaid : Prop := lexIgnoredRow.holds Try.pinned (OpenSpec.ofChange lexIgnoredSpec)

/-- ITS FALSE NEIGHBOUR: 'it returns false'. Refute it at one input. -/
def lexIgnoredWrong : ChangeSpec := { name := "lexIgnored", fn := fun _ => fun
  | [d1, d2, d3] => { results := [.lit (.bool false)], args := [d1, d2, d3] }
  | _ => none }
def LexIgnoredWrongFalsely : Prop := lexIgnoredRow.holds Try.pinned (OpenSpec.ofChange lexIgnoredWrong)

/-- 'ceefaxlaw21.LexText': WHATEVER THE INPUT: true; the input reads as it did. -/
def lexTextSpec : ChangeSpec := { name := "lexText", fn := fun _ => fun
  | [d1, d2, d3] => { results := [.lit (.bool true)], args := [d1, d2, d3] }
  | _ => none }
def lexTextRow : OpenClaim := { program := "ytnhadghddkgjdaa", sum := "520d549927d54709b73c0b43485a0f846ad8900c668f5978aa2399abc17fad2a", func := "ceefax/ceefaxlaw21.LexText", spec := "lexText", apart := false }
def LexTextSaid : Prop := lexTextRow.holds Try.pinned (OpenSpec.ofChange lexTextSpec)

/-- ITS FALSE NEIGHBOUR: 'it returns false'. Refute it at one input. -/
def lexTextWrong : ChangeSpec := { name := "lexText", fn := fun _ => fun
  | [d1, d2, d3] => { results := [.lit (.bool false)], args := [d1, d2, d3] }
  | _ => none }
def LexTextWrongFalsely : Prop := lexTextRow.holds Try.pinned (OpenSpec.ofChange lexTextWrong)

/-- 'ceefaxlaw21.LexShift': WHATEVER THE INPUT: true; the input reads as it did. -/
def lexShiftSpec : ChangeSpec := { name := "lexShift", fn := fun _ => fun
  | [d] => { results := [.lit (.bool true)], args := [d] }
  | _ => none }
def lexShiftRow : OpenClaim := { program := "ytnhadghddkgjdaa", sum := "520d549927d54709b73c0b43485a0f846ad8900c668f5978aa2399abc17fad2a", func := "ceefax/ceefaxlaw21.LexShift", spec := "lexShift", apart := false }
def LexShiftSaid : Prop := lexShiftRow.holds Try.pinned (OpenSpec.ofChange lexShiftSpec)

/-- ITS FALSE NEIGHBOUR: 'it returns false'. Refute it at one input. -/
def lexShiftWrong : ChangeSpec := { name := "lexShift", fn := fun _ => fun
  | [d] => { results := [.lit (.bool false)], args := [d] }
  | _ => none }
def LexShiftWrongFalsely : Prop := lexShiftRow.holds Try.pinned (OpenSpec.ofChange lexShiftWrong)

/-- 'ceefaxlaw21.LexLeft': WHATEVER THE INPUT: true; the input reads as it did. -/
def lexLeftSpec : ChangeSpec := { name := "lexLeft", fn := fun _ => fun
  | [d1, d2] => { results := [.lit (.bool true)], args := [d1, d2] }
  | _ => none }
def lexLeftRow : OpenClaim := { program := "ytnhadghddkgjdaa", sum := "520d549927d54709b73c0b43485a0f846ad8900c668f5978aa2399abc17fad2a", func := "ceefax/ceefaxlaw21.LexLeft", spec := "lexLeft", unfollowed := true, recurses := true, apart := false }
def LexLeftSaid : Prop := lexLeftRow.holds Try.pinned (OpenSpec.ofChange lexLeftSpec)

/-- ITS FALSE NEIGHBOUR: 'it returns false'. Refute it at one input. -/
def lexLeftWrong : ChangeSpec := { name := "lexLeft", fn := fun _ => fun
  | [d1, d2] => { results := [.lit (.bool false)], args := [d1, d2] }
  | _ => none }
def LexLeftWrongFalsely : Prop := lexLeftRow.holds Try.pinned (OpenSpec.ofChange lexLeftWrong)

/-- 'ceefaxlaw21.LexSays': WHATEVER THE INPUT: true; the input reads as it did. -/
def lexSaysSpec : ChangeSpec := { name := "lexSays", fn := fun _ => fun
  | [d] => { results := [.lit (.bool true)], args := [d] }
  | _ => none }
def lexSaysRow : OpenClaim := { program := "ytnhadghddkgjdaa", sum := "520d549927d54709b73c0b43485a0f846ad8900c668f5978aa2399abc17fad2a", func := "ceefax/ceefaxlaw21.LexSays", spec := "lexSays", unfollowed := true, recurses := true, apart := false }
def LexSaysSaid : Prop := lexSaysRow.holds Try.pinned (OpenSpec.ofChange lexSaysSpec)

/-- ITS FALSE NEIGHBOUR: 'it returns false'. Refute it at one input. -/
def lexSaysWrong : ChangeSpec := { name := "lexSays", fn := fun _ => fun
  | [d] => { results := [.lit (.bool false)], args := [d] }
  | _ => none }
def LexSaysWrongFalsely : Prop := lexSaysRow.holds Try.pinned (OpenSpec.ofChange lexSaysWrong)

/- THE SECOND FORM. 'bulk': how many values and letters a reading holds, each counted each time it is reached (what is shared counts as often as it is met; a slice's spare places count too). A statement '..UptoSaid' is the law's where the arguments, and the package variables that the reading takes, are together of bulk at most 1048576: NARROWER than '..Said'. Prove '..Said' where nothing that the law and all that it calls make is longer than what came in: it says more and counts as full. Else prove '..UptoSaid'. A law counts once. -/
mutual
def uptoBulk {H : Type} : DataW H → Nat
  | .lit (.string bytes) => bytes.length + 1
  | .lit _ => 1
  | .nil => 1
  | .ptr d => uptoBulk d + 1
  | .slice elems spare => uptoBulkAll elems + uptoBulkAll spare + 1
  | .agg parts => uptoBulkAll parts + 1
  | .iface _ d => uptoBulk d + 1
  | .map entries => uptoBulkEntries entries + 1
  | .held _ => 1
def uptoBulkAll {H : Type} : List (DataW H) → Nat
  | [] => 0
  | d :: r => uptoBulk d + uptoBulkAll r
def uptoBulkEntries {H : Type} : List (Lit × DataW H) → Nat
  | [] => 0
  | x :: r => uptoBulkEntry x + uptoBulkEntries r
def uptoBulkEntry {H : Type} : Lit × DataW H → Nat
  | (.string bytes, d) => bytes.length + uptoBulk d + 1
  | (_, d) => uptoBulk d + 1
 end
def uptoSmall : (H : Type) → List (DataW H) → Bool := fun _ ds => decide (uptoBulkAll ds ≤ 1048576)
def OpenSpec.upto (s : _root_.Go.ChangeSpec) : _root_.Go.OpenSpec := { _root_.Go.OpenSpec.ofChange s with cond := some uptoSmall }

/-- 'ceefaxlaw18.RemoteDigits', WHERE WHAT IT READS IS OF BULK AT MOST 1048576: true; the input reads as it did. -/
def remoteDigitsUptoRow : OpenClaim := { program := "ytnhadghddkgjdaa", sum := "520d549927d54709b73c0b43485a0f846ad8900c668f5978aa2399abc17fad2a", func := "ceefax/ceefaxlaw18.RemoteDigits", spec := "remoteDigits", inPlace := ["internal/abi.NoEscape"], apart := false, narrowed := true }
def RemoteDigitsUptoSaid : Prop := remoteDigitsUptoRow.holds Try.pinned (OpenSpec.upto remoteDigitsSpec)

/-- 'ceefaxlaw18.RemoteRounds', WHERE WHAT IT READS IS OF BULK AT MOST 1048576: true; the input reads as it did. -/
def remoteRoundsUptoRow : OpenClaim := { program := "ytnhadghddkgjdaa", sum := "520d549927d54709b73c0b43485a0f846ad8900c668f5978aa2399abc17fad2a", func := "ceefax/ceefaxlaw18.RemoteRounds", spec := "remoteRounds", inPlace := ["internal/abi.NoEscape"], apart := false, narrowed := true }
def RemoteRoundsUptoSaid : Prop := remoteRoundsUptoRow.holds Try.pinned (OpenSpec.upto remoteRoundsSpec)

/-- 'ceefaxlaw18.RemoteLinks', WHERE WHAT IT READS IS OF BULK AT MOST 1048576: true; the input reads as it did. -/
def remoteLinksUptoRow : OpenClaim := { program := "ytnhadghddkgjdaa", sum := "520d549927d54709b73c0b43485a0f846ad8900c668f5978aa2399abc17fad2a", func := "ceefax/ceefaxlaw18.RemoteLinks", spec := "remoteLinks", inPlace := ["internal/abi.NoEscape"], apart := false, narrowed := true }
def RemoteLinksUptoSaid : Prop := remoteLinksUptoRow.holds Try.pinned (OpenSpec.upto remoteLinksSpec)

/-- 'ceefaxlaw18.RemoteSubs', WHERE WHAT IT READS IS OF BULK AT MOST 1048576: true; the input reads as it did. -/
def remoteSubsUptoRow : OpenClaim := { program := "ytnhadghddkgjdaa", sum := "520d549927d54709b73c0b43485a0f846ad8900c668f5978aa2399abc17fad2a", func := "ceefax/ceefaxlaw18.RemoteSubs", spec := "remoteSubs", inPlace := ["internal/abi.NoEscape"], apart := false, narrowed := true }
def RemoteSubsUptoSaid : Prop := remoteSubsUptoRow.holds Try.pinned (OpenSpec.upto remoteSubsSpec)

/-- 'ceefaxlaw18.RemoteTurns', WHERE WHAT IT READS IS OF BULK AT MOST 1048576: true; the input reads as it did. -/
def remoteTurnsUptoRow : OpenClaim := { program := "ytnhadghddkgjdaa", sum := "520d549927d54709b73c0b43485a0f846ad8900c668f5978aa2399abc17fad2a", func := "ceefax/ceefaxlaw18.RemoteTurns", spec := "remoteTurns", inPlace := ["internal/abi.NoEscape"], apart := false, narrowed := true }
def RemoteTurnsUptoSaid : Prop := remoteTurnsUptoRow.holds Try.pinned (OpenSpec.upto remoteTurnsSpec)

/-- 'ceefaxlaw21.LexBounds', WHERE WHAT IT READS IS OF BULK AT MOST 1048576: true; the input reads as it did. -/
def lexBoundsUptoRow : OpenClaim := { program := "ytnhadghddkgjdaa", sum := "520d549927d54709b73c0b43485a0f846ad8900c668f5978aa2399abc17fad2a", func := "ceefax/ceefaxlaw21.LexBounds", spec := "lexBounds", apart := false, narrowed := true }
def LexBoundsUptoSaid : Prop := lexBoundsUptoRow.holds Try.pinned (OpenSpec.upto lexBoundsSpec)

/-- 'ceefaxlaw21.LexSequences', WHERE WHAT IT READS IS OF BULK AT MOST 1048576: true; the input reads as it did. -/
def lexSequencesUptoRow : OpenClaim := { program := "ytnhadghddkgjdaa", sum := "520d549927d54709b73c0b43485a0f846ad8900c668f5978aa2399abc17fad2a", func := "ceefax/ceefaxlaw21.LexSequences", spec := "lexSequences", apart := false, narrowed := true }
def LexSequencesUptoSaid : Prop := lexSequencesUptoRow.holds Try.pinned (OpenSpec.upto lexSequencesSpec)

/-- 'ceefaxlaw21.LexIgnored', WHERE WHAT IT READS IS OF BULK AT MOST 1048576: true; the input reads as it did. -/
def lexIgnoredUptoRow : OpenClaim := { program := "ytnhadghddkgjdaa", sum := "520d549927d54709b73c0b43485a0f846ad8900c668f5978aa2399abc17fad2a", func := "ceefax/ceefaxlaw21.LexIgnored", spec := "lexIgnored", apart := false, narrowed := true }
def LexIgnoredUptoSaid : Prop := lexIgnoredUptoRow.holds Try.pinned (OpenSpec.upto lexIgnoredSpec)

/-- 'ceefaxlaw21.LexText', WHERE WHAT IT READS IS OF BULK AT MOST 1048576: true; the input reads as it did. -/
def lexTextUptoRow : OpenClaim := { program := "ytnhadghddkgjdaa", sum := "520d549927d54709b73c0b43485a0f846ad8900c668f5978aa2399abc17fad2a", func := "ceefax/ceefaxlaw21.LexText", spec := "lexText", apart := false, narrowed := true }
def LexTextUptoSaid : Prop := lexTextUptoRow.holds Try.pinned (OpenSpec.upto lexTextSpec)

/-- 'ceefaxlaw21.LexShift', WHERE WHAT IT READS IS OF BULK AT MOST 1048576: true; the input reads as it did. -/
def lexShiftUptoRow : OpenClaim := { program := "ytnhadghddkgjdaa", sum := "520d549927d54709b73c0b43485a0f846ad8900c668f5978aa2399abc17fad2a", func := "ceefax/ceefaxlaw21.LexShift", spec := "lexShift", apart := false, narrowed := true }
def LexShiftUptoSaid : Prop := lexShiftUptoRow.holds Try.pinned (OpenSpec.upto lexShiftSpec)

/-- 'ceefaxlaw21.LexLeft', WHERE WHAT IT READS IS OF BULK AT MOST 1048576: true; the input reads as it did. -/
def lexLeftUptoRow : OpenClaim := { program := "ytnhadghddkgjdaa", sum := "520d549927d54709b73c0b43485a0f846ad8900c668f5978aa2399abc17fad2a", func := "ceefax/ceefaxlaw21.LexLeft", spec := "lexLeft", unfollowed := true, recurses := true, apart := false, narrowed := true }
def LexLeftUptoSaid : Prop := lexLeftUptoRow.holds Try.pinned (OpenSpec.upto lexLeftSpec)

/-- 'ceefaxlaw21.LexSays', WHERE WHAT IT READS IS OF BULK AT MOST 1048576: true; the input reads as it did. -/
def lexSaysUptoRow : OpenClaim := { program := "ytnhadghddkgjdaa", sum := "520d549927d54709b73c0b43485a0f846ad8900c668f5978aa2399abc17fad2a", func := "ceefax/ceefaxlaw21.LexSays", spec := "lexSays", unfollowed := true, recurses := true, apart := false, narrowed := true }
def LexSaysUptoSaid : Prop := lexSaysUptoRow.holds Try.pinned (OpenSpec.upto lexSaysSpec)

end Rows
end Go.Proofs.Ytnhadghddkgjdaa
