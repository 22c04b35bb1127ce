/-
  The lexer: the law LexIgnored: its tree, by how many bytes there are between.
-/
import Derived.Test.YtnhadghddkgjdaaLexK
namespace Go.Proofs.Ytnhadghddkgjdaa.lex
open Go Go.Nx Go.RowKit

theorem tree10 (w n a : Int) (R : Out → Prop) : (tIgn 10 [.c (.i .i64 w), .c (.i .i64 n), .c (.i .u8 a)] []).run R = (n % 13 = ((10 : Nat) : Int) ∧ pickR (w % 5) (fun v => gAll a R 10 v) (List.range 5)) := by kernel_rfl
theorem tree11 (w n a : Int) (R : Out → Prop) : (tIgn 11 [.c (.i .i64 w), .c (.i .i64 n), .c (.i .u8 a)] []).run R = (n % 13 = ((11 : Nat) : Int) ∧ pickR (w % 5) (fun v => gAll a R 11 v) (List.range 5)) := by kernel_rfl
theorem tree12 (w n a : Int) (R : Out → Prop) : (tIgn 12 [.c (.i .i64 w), .c (.i .i64 n), .c (.i .u8 a)] []).run R = (n % 13 = ((12 : Nat) : Int) ∧ pickR (w % 5) (fun v => gAll a R 12 v) (List.range 5)) := by kernel_rfl
end Go.Proofs.Ytnhadghddkgjdaa.lex
