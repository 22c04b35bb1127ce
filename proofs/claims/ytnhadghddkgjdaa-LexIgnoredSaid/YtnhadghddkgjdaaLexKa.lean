/-
  The lexer: the law LexIgnored: its tree, by how many bytes there are between.
-/
import Derived.Test.YtnhadghddkgjdaaLexK
namespace Go.Proofs.Ytnhadghddkgjdaa.lex
open Go Go.Nx Go.RowKit

theorem tree0 (w n a : Int) (R : Out → Prop) : (tIgn 0 [.c (.i .i64 w), .c (.i .i64 n), .c (.i .u8 a)] []).run R = (n % 13 = ((0 : Nat) : Int) ∧ pickR (w % 5) (fun v => gAll a R 0 v) (List.range 5)) := by kernel_rfl
theorem tree1 (w n a : Int) (R : Out → Prop) : (tIgn 1 [.c (.i .i64 w), .c (.i .i64 n), .c (.i .u8 a)] []).run R = (n % 13 = ((1 : Nat) : Int) ∧ pickR (w % 5) (fun v => gAll a R 1 v) (List.range 5)) := by kernel_rfl
theorem tree2 (w n a : Int) (R : Out → Prop) : (tIgn 2 [.c (.i .i64 w), .c (.i .i64 n), .c (.i .u8 a)] []).run R = (n % 13 = ((2 : Nat) : Int) ∧ pickR (w % 5) (fun v => gAll a R 2 v) (List.range 5)) := by kernel_rfl
theorem tree3 (w n a : Int) (R : Out → Prop) : (tIgn 3 [.c (.i .i64 w), .c (.i .i64 n), .c (.i .u8 a)] []).run R = (n % 13 = ((3 : Nat) : Int) ∧ pickR (w % 5) (fun v => gAll a R 3 v) (List.range 5)) := by kernel_rfl
end Go.Proofs.Ytnhadghddkgjdaa.lex
