/-
  ServiceEdges: the law's tree for some of the numbers.
-/
import Derived.Test.YthjdlanmfiofdaaDoorSvE
namespace Go.Proofs.YthjdlanmfiofdaaDoor.sv
open Go Go.Nx Go.Proofs.YthjdlanmfiofdaaDoor.pk

theorem edges_3_true (n : Int) (R : Out → Prop) : (t_edges 3 [.c (.i .i64 n), .c (.b true)] []).run R = ((6 = (6 : Int) ∧ 0 < (6 : Int) ∧ (6 : Int) < 4611686018427387904 ∧ n % 6 = 3) ∧ R (oB true)) := by kernel_rfl
theorem edges_3_false (n : Int) (R : Out → Prop) : (t_edges 3 [.c (.i .i64 n), .c (.b false)] []).run R = ((6 = (6 : Int) ∧ 0 < (6 : Int) ∧ (6 : Int) < 4611686018427387904 ∧ n % 6 = 3) ∧ R (oB true)) := by kernel_rfl
theorem edges_4_true (n : Int) (R : Out → Prop) : (t_edges 4 [.c (.i .i64 n), .c (.b true)] []).run R = ((6 = (6 : Int) ∧ 0 < (6 : Int) ∧ (6 : Int) < 4611686018427387904 ∧ n % 6 = 4) ∧ R (oB true)) := by kernel_rfl
end Go.Proofs.YthjdlanmfiofdaaDoor.sv
