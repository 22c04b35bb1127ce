/-
  The lexer: the law LexSequences: its tree.
-/
import Derived.Test.YtnhadghddkgjdaaLexG
namespace Go.Proofs.Ytnhadghddkgjdaa.lex
open Go Go.Nx Go.RowKit

theorem seq_tree (n a b d : Int) (R : Out → Prop) : (tSeq [.c (.i .i64 n), .c (.i .i64 a), .c (.i .i64 b), .c (.i .i64 d)] []).run R = (InN 64 ∧ (InN 64 ∧ (InN 64 ∧
    sel (decide (n % 8 = 0)) (q0 a b R) (sel (decide (n % 8 = 1)) (q1 a R) (sel (decide (n % 8 = 2)) (q2 a R) (sel (decide (n % 8 = 3)) (q3 a R) (sel (decide (n % 8 = 4)) (q4 a R)
     (sel (decide (n % 8 = 5)) (q5 a b R) (sel (decide (n % 8 = 6)) (q6 a b d R) (q7 a b d R)))))))))) := by kernel_rfl
end Go.Proofs.Ytnhadghddkgjdaa.lex
