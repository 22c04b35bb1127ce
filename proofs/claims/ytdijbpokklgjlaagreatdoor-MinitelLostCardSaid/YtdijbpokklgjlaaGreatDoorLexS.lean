/-
  The lexer: the law LexShift.
-/
import Derived.Test.YtdijbpokklgjlaaGreatDoorLexA
import Derived.Test.YtdijbpokklgjlaaGreatDoorNum
import Derived.Test.YtdijbpokklgjlaaGreatDoorEngC
namespace Go.Proofs.YtdijbpokklgjlaaGreatDoor.lex
open Go Go.Nx Go.RowKit

noncomputable def tYes : Con := fun args regs => match args, regs with
  | [], [] => .ret ⟨.v (.c (.b true)), []⟩
  | _, _ => .fail
noncomputable def sShift (xs : List Int) (ok : Bool) (s i : Int) : St := { fr := frame 86 [(0, .v (.c (.l .i64 xs))), (3, .v (.c (.b ok))), (4, .v (.c (.p 0 0 0))), (5, .v (.c (.i .i64 s))), (6, .v (.c (.i .i64 i)))], rg := [some ⟨2, 58, .cells [.sn, .i .i64 s]⟩] }
noncomputable def dShift (ok : Bool) : St := { fr := frame 86 [(3, .v (.c (.b ok)))], rg := [] }
noncomputable def nShift (ok : Bool) : RO := RO.done NExit.ret { fr := frame 86 [(2, .v (.c (.b false))), (3, .v (.c (.b ok)))], rg := [] }
noncomputable def lShift : List Leaf × List (List Leaf) → Tr (NExit × St) := fun x => match x with
  | ([.l xs, .b ok, .i s, .i i], [[.i s']]) => .must (s = s' ∧ 0 ≤ i ∧ i ≤ xs.length ∧ xs.length ≤ 40) (.ret (.normal, dShift ok))
  | _ => .fail
noncomputable def pShift : List Pat := pats 86 [(0, .l .i64), (3, .b), (4, .p 0 0 0), (5, .i .i64), (6, .i .i64)]
def yes : Out := ⟨.v (.c (.b true)), []⟩
end Go.Proofs.YtdijbpokklgjlaaGreatDoor.lex
