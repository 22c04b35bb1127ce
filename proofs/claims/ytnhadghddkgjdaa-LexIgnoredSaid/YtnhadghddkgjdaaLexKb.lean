/-
  The lexer: the law LexIgnored: its tree, by how many bytes there are between.
-/
import Derived.Test.YtnhadghddkgjdaaLexK
namespace Go.Proofs.Ytnhadghddkgjdaa.lex
open Go Go.Nx Go.RowKit

theorem tree4 (w n a : Int) (R : Out → Prop) : (tIgn 4 [.c (.i .i64 w), .c (.i .i64 n), .c (.i .u8 a)] []).run R = (n % 13 = ((4 : Nat) : Int) ∧ pickR (w % 5) (fun v => gAll a R 4 v) (List.range 5)) := by kernel_rfl
theorem tree5 (w n a : Int) (R : Out → Prop) : (tIgn 5 [.c (.i .i64 w), .c (.i .i64 n), .c (.i .u8 a)] []).run R = (n % 13 = ((5 : Nat) : Int) ∧ pickR (w % 5) (fun v => gAll a R 5 v) (List.range 5)) := by kernel_rfl
theorem tree6 (w n a : Int) (R : Out → Prop) : (tIgn 6 [.c (.i .i64 w), .c (.i .i64 n), .c (.i .u8 a)] []).run R = (n % 13 = ((6 : Nat) : Int) ∧ pickR (w % 5) (fun v => gAll a R 6 v) (List.range 5)) := by kernel_rfl
end Go.Proofs.Ytnhadghddkgjdaa.lex
