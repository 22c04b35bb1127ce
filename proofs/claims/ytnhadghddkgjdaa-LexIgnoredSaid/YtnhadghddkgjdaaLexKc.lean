/-
  The lexer: the law LexIgnored: its tree, by how many bytes there are between.
-/
import Derived.Test.YtnhadghddkgjdaaLexK
namespace Go.Proofs.Ytnhadghddkgjdaa.lex
open Go Go.Nx Go.RowKit

theorem tree7 (w n a : Int) (R : Out → Prop) : (tIgn 7 [.c (.i .i64 w), .c (.i .i64 n), .c (.i .u8 a)] []).run R = (n % 13 = ((7 : Nat) : Int) ∧ pickR (w % 5) (fun v => gAll a R 7 v) (List.range 5)) := by kernel_rfl
theorem tree8 (w n a : Int) (R : Out → Prop) : (tIgn 8 [.c (.i .i64 w), .c (.i .i64 n), .c (.i .u8 a)] []).run R = (n % 13 = ((8 : Nat) : Int) ∧ pickR (w % 5) (fun v => gAll a R 8 v) (List.range 5)) := by kernel_rfl
theorem tree9 (w n a : Int) (R : Out → Prop) : (tIgn 9 [.c (.i .i64 w), .c (.i .i64 n), .c (.i .u8 a)] []).run R = (n % 13 = ((9 : Nat) : Int) ∧ pickR (w % 5) (fun v => gAll a R 9 v) (List.range 5)) := by kernel_rfl
end Go.Proofs.Ytnhadghddkgjdaa.lex
