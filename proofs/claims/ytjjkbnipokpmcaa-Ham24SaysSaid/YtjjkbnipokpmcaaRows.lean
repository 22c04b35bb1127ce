/-
  No cell of these rows narrows 'for every input' (looked for: loops, veiled, ifaces, maps, wideKeys, modest, calm, conditions, laid).
  DERIVED. THE GIVEN ROWS OF THIS SEAT. 5 by the template 'for every input the law returns true; each argument reads behind the call as it read before'; 0 by the template 'total and deterministic' (their statements: YtjjkbnipokpmcaaTotals.lean).
  GIVEN WITH THE SEED: the statements are not yours to turn. If you find one false, say at which input.
  Laid BY PROGRAM, IN A SANDBOX (cutbox-rows.mjs): the forced cells as the released guide's own fill.sh prints them over the translation 916e839875e37845… (all of the seat's roots in one cut). By AI agents, Wed Nov 11 2026. No macro, syntax, notation, axiom, sorry.
-/
import Derived.Test.YtjjkbnipokpmcaaChecked
import GoSem.Claim
import GoSem.ClaimJoined
import GoSem.ClaimMapViews
import Derived.JoinedTies
import Derived.KernelRfl
namespace Go.Proofs.Ytjjkbnipokpmcaa
/- THE CELL 'sum', in the pinned program and in every row, IS THE sha256 OF THE DUMP (.gsa) THAT YtjjkbnipokpmcaaProg.lean LOADS. Nothing in Lean hashes anything: it is a label: what it is worth is what the hold of that sum in a sandbox is worth. -/
noncomputable def Try.pinned : Pinned := { name := "ytjjkbnipokpmcaa", sum := "916e839875e37845baf7d178967555dad5a64af153b9ed7c3a8affd42085772d", checked := Try.checked }
namespace Rows
def none {H : Type} : Left H := { results := [], args := [] }

/-- 'ceefaxlaw9.TripletNumbers': WHATEVER THE INPUT: true; the input reads as it did. -/
def tripletNumbersSpec : ChangeSpec := { name := "tripletNumbers", fn := fun _ => fun
  | [d1, d2] => { results := [.lit (.bool true)], args := [d1, d2] }
  | _ => none }
def tripletNumbersRow : OpenClaim := { program := "ytjjkbnipokpmcaa", sum := "916e839875e37845baf7d178967555dad5a64af153b9ed7c3a8affd42085772d", func := "ceefax/ceefaxlaw9.TripletNumbers", spec := "tripletNumbers", apart := false }
def TripletNumbersSaid : Prop := tripletNumbersRow.holds Try.pinned (OpenSpec.ofChange tripletNumbersSpec)

/-- ITS FALSE NEIGHBOUR: 'it returns false'. Refute it at one input. -/
def tripletNumbersWrong : ChangeSpec := { name := "tripletNumbers", fn := fun _ => fun
  | [d1, d2] => { results := [.lit (.bool false)], args := [d1, d2] }
  | _ => none }
def TripletNumbersWrongFalsely : Prop := tripletNumbersRow.holds Try.pinned (OpenSpec.ofChange tripletNumbersWrong)

/-- 'ceefaxlaw3.Ham24Says': WHATEVER THE INPUT: true; the input reads as it did. -/
def ham24SaysSpec : ChangeSpec := { name := "ham24Says", fn := fun _ => fun
  | [d1, d2] => { results := [.lit (.bool true)], args := [d1, d2] }
  | _ => none }
def ham24SaysRow : OpenClaim := { program := "ytjjkbnipokpmcaa", sum := "916e839875e37845baf7d178967555dad5a64af153b9ed7c3a8affd42085772d", func := "ceefax/ceefaxlaw3.Ham24Says", spec := "ham24Says", apart := false }
def Ham24SaysSaid : Prop := ham24SaysRow.holds Try.pinned (OpenSpec.ofChange ham24SaysSpec)

/-- ITS FALSE NEIGHBOUR: 'it returns false'. Refute it at one input. -/
def ham24SaysWrong : ChangeSpec := { name := "ham24Says", fn := fun _ => fun
  | [d1, d2] => { results := [.lit (.bool false)], args := [d1, d2] }
  | _ => none }
def Ham24SaysWrongFalsely : Prop := ham24SaysRow.holds Try.pinned (OpenSpec.ofChange ham24SaysWrong)

/-- 'ceefaxlaw3.Ham24Mends': WHATEVER THE INPUT: true; the input reads as it did. -/
def ham24MendsSpec : ChangeSpec := { name := "ham24Mends", fn := fun _ => fun
  | [d1, d2, d3] => { results := [.lit (.bool true)], args := [d1, d2, d3] }
  | _ => none }
def ham24MendsRow : OpenClaim := { program := "ytjjkbnipokpmcaa", sum := "916e839875e37845baf7d178967555dad5a64af153b9ed7c3a8affd42085772d", func := "ceefax/ceefaxlaw3.Ham24Mends", spec := "ham24Mends", apart := false }
def Ham24MendsSaid : Prop := ham24MendsRow.holds Try.pinned (OpenSpec.ofChange ham24MendsSpec)

/-- ITS FALSE NEIGHBOUR: 'it returns false'. Refute it at one input. -/
def ham24MendsWrong : ChangeSpec := { name := "ham24Mends", fn := fun _ => fun
  | [d1, d2, d3] => { results := [.lit (.bool false)], args := [d1, d2, d3] }
  | _ => none }
def Ham24MendsWrongFalsely : Prop := ham24MendsRow.holds Try.pinned (OpenSpec.ofChange ham24MendsWrong)

/-- 'ceefaxlaw3.Ham24Far': WHATEVER THE INPUT: true; the input reads as it did. -/
def ham24FarSpec : ChangeSpec := { name := "ham24Far", fn := fun _ => fun
  | [d1, d2] => { results := [.lit (.bool true)], args := [d1, d2] }
  | _ => none }
def ham24FarRow : OpenClaim := { program := "ytjjkbnipokpmcaa", sum := "916e839875e37845baf7d178967555dad5a64af153b9ed7c3a8affd42085772d", func := "ceefax/ceefaxlaw3.Ham24Far", spec := "ham24Far", apart := false }
def Ham24FarSaid : Prop := ham24FarRow.holds Try.pinned (OpenSpec.ofChange ham24FarSpec)

/-- ITS FALSE NEIGHBOUR: 'it returns false'. Refute it at one input. -/
def ham24FarWrong : ChangeSpec := { name := "ham24Far", fn := fun _ => fun
  | [d1, d2] => { results := [.lit (.bool false)], args := [d1, d2] }
  | _ => none }
def Ham24FarWrongFalsely : Prop := ham24FarRow.holds Try.pinned (OpenSpec.ofChange ham24FarWrong)

/-- 'ceefaxlaw3.Ham24Adds': WHATEVER THE INPUT: true; the input reads as it did. -/
def ham24AddsSpec : ChangeSpec := { name := "ham24Adds", fn := fun _ => fun
  | [d1, d2] => { results := [.lit (.bool true)], args := [d1, d2] }
  | _ => none }
def ham24AddsRow : OpenClaim := { program := "ytjjkbnipokpmcaa", sum := "916e839875e37845baf7d178967555dad5a64af153b9ed7c3a8affd42085772d", func := "ceefax/ceefaxlaw3.Ham24Adds", spec := "ham24Adds", apart := false }
def Ham24AddsSaid : Prop := ham24AddsRow.holds Try.pinned (OpenSpec.ofChange ham24AddsSpec)

/-- ITS FALSE NEIGHBOUR: 'it returns false'. Refute it at one input. -/
def ham24AddsWrong : ChangeSpec := { name := "ham24Adds", fn := fun _ => fun
  | [d1, d2] => { results := [.lit (.bool false)], args := [d1, d2] }
  | _ => none }
def Ham24AddsWrongFalsely : Prop := ham24AddsRow.holds Try.pinned (OpenSpec.ofChange ham24AddsWrong)

/- THE SECOND FORM. 'bulk': how many values and letters a reading holds, each counted each time it is reached (what is shared counts as often as it is met; a slice's spare places count too). A statement '..UptoSaid' is the law's where the arguments, and the package variables that the reading takes, are together of bulk at most 1048576: NARROWER than '..Said'. Prove '..Said' where nothing that the law and all that it calls make is longer than what came in: it says more and counts as full. Else prove '..UptoSaid'. A law counts once. -/
mutual
def uptoBulk {H : Type} : DataW H → Nat
  | .lit (.string bytes) => bytes.length + 1
  | .lit _ => 1
  | .nil => 1
  | .ptr d => uptoBulk d + 1
  | .slice elems spare => uptoBulkAll elems + uptoBulkAll spare + 1
  | .agg parts => uptoBulkAll parts + 1
  | .iface _ d => uptoBulk d + 1
  | .map entries => uptoBulkEntries entries + 1
  | .held _ => 1
def uptoBulkAll {H : Type} : List (DataW H) → Nat
  | [] => 0
  | d :: r => uptoBulk d + uptoBulkAll r
def uptoBulkEntries {H : Type} : List (Lit × DataW H) → Nat
  | [] => 0
  | x :: r => uptoBulkEntry x + uptoBulkEntries r
def uptoBulkEntry {H : Type} : Lit × DataW H → Nat
  | (.string bytes, d) => bytes.length + uptoBulk d + 1
  | (_, d) => uptoBulk d + 1
 end
def uptoSmall : (H : Type) → List (DataW H) → Bool := fun _ ds => decide (uptoBulkAll ds ≤ 1048576)
def OpenSpec.upto (s : _root_.Go.ChangeSpec) : _root_.Go.OpenSpec := { _root_.Go.OpenSpec.ofChange s with cond := some uptoSmall }

/-- 'ceefaxlaw9.TripletNumbers', WHERE WHAT IT READS IS OF BULK AT MOST 1048576: true; the input reads as it did. -/
def tripletNumbersUptoRow : OpenClaim := { program := "ytjjkbnipokpmcaa", sum := "916e839875e37845baf7d178967555dad5a64af153b9ed7c3a8affd42085772d", func := "ceefax/ceefaxlaw9.TripletNumbers", spec := "tripletNumbers", apart := false, narrowed := true }
def TripletNumbersUptoSaid : Prop := tripletNumbersUptoRow.holds Try.pinned (OpenSpec.upto tripletNumbersSpec)

/-- 'ceefaxlaw3.Ham24Says', WHERE WHAT IT READS IS OF BULK AT MOST 1048576: true; the input reads as it did. -/
def ham24SaysUptoRow : OpenClaim := { program := "ytjjkbnipokpmcaa", sum := "916e839875e37845baf7d178967555dad5a64af153b9ed7c3a8affd42085772d", func := "ceefax/ceefaxlaw3.Ham24Says", spec := "ham24Says", apart := false, narrowed := true }
def Ham24SaysUptoSaid : Prop := ham24SaysUptoRow.holds Try.pinned (OpenSpec.upto ham24SaysSpec)

/-- 'ceefaxlaw3.Ham24Mends', WHERE WHAT IT READS IS OF BULK AT MOST 1048576: true; the input reads as it did. -/
def ham24MendsUptoRow : OpenClaim := { program := "ytjjkbnipokpmcaa", sum := "916e839875e37845baf7d178967555dad5a64af153b9ed7c3a8affd42085772d", func := "ceefax/ceefaxlaw3.Ham24Mends", spec := "ham24Mends", apart := false, narrowed := true }
def Ham24MendsUptoSaid : Prop := ham24MendsUptoRow.holds Try.pinned (OpenSpec.upto ham24MendsSpec)

/-- 'ceefaxlaw3.Ham24Far', WHERE WHAT IT READS IS OF BULK AT MOST 1048576: true; the input reads as it did. -/
def ham24FarUptoRow : OpenClaim := { program := "ytjjkbnipokpmcaa", sum := "916e839875e37845baf7d178967555dad5a64af153b9ed7c3a8affd42085772d", func := "ceefax/ceefaxlaw3.Ham24Far", spec := "ham24Far", apart := false, narrowed := true }
def Ham24FarUptoSaid : Prop := ham24FarUptoRow.holds Try.pinned (OpenSpec.upto ham24FarSpec)

/-- 'ceefaxlaw3.Ham24Adds', WHERE WHAT IT READS IS OF BULK AT MOST 1048576: true; the input reads as it did. -/
def ham24AddsUptoRow : OpenClaim := { program := "ytjjkbnipokpmcaa", sum := "916e839875e37845baf7d178967555dad5a64af153b9ed7c3a8affd42085772d", func := "ceefax/ceefaxlaw3.Ham24Adds", spec := "ham24Adds", apart := false, narrowed := true }
def Ham24AddsUptoSaid : Prop := ham24AddsUptoRow.holds Try.pinned (OpenSpec.upto ham24AddsSpec)

end Rows
end Go.Proofs.Ytjjkbnipokpmcaa
