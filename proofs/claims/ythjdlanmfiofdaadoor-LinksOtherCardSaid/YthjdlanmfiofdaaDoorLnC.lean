/-
  Links: the bytes of six places.
-/
import Derived.Test.YthjdlanmfiofdaaDoorLnB
namespace Go.Proofs.YthjdlanmfiofdaaDoor.ln
open Go Go.Nx Go.Proofs.YthjdlanmfiofdaaDoor.pk

noncomputable def mOf (mag i : Int) : Int := bits .and .i64 (bits .xor .i64 mag i) 7
noncomputable def grp (mag i : Int) : List Int := [put 3, put 3, put 0, put (bits .or .i64 0 (shlv .i64 (bits .and .i64 (mOf mag i) 1) 3)), put 0, put (bits .or .i64 0 (shlv .i64 (shrv .i64 (mOf mag i) 1) 2))]
noncomputable def LB (mag code : Int) : List Int := put code :: (grp mag 1 ++ (grp mag 2 ++ (grp mag 3 ++ (grp mag 4 ++ (grp mag 5 ++ (grp mag 6 ++ [put 0, 0, 0]))))))
def six : List NC := [.i .i64 1, .i .i64 51, .i .i64 0, .i .i64 2, .i .i64 51, .i .i64 0, .i .i64 3, .i .i64 51, .i .i64 0, .i .i64 4, .i .i64 51, .i .i64 0, .i .i64 5, .i .i64 51, .i .i64 0, .i .i64 6, .i .i64 51, .i .i64 0]
theorem lb_tree (mag code : Int) (R : Out → Prop) : (t_lbytes [.c (.i .i64 mag), .c (.i .i64 code), .ag six, .c (.i .i64 0)] []).run R =
    sel (decide (mag ≥ 1)) (sel (!decide (mag ≤ 8)) (R (oEr 3)) (sel (decide (code < 0)) (R (oEr 3)) (sel (decide (code > 3)) (R (oEr 3)) (sel (okMR mag 27) (R (oBy mag 27 (LB mag code))) (R (oEr 3)))))) (R (oEr 3)) := by kernel_rfl
end Go.Proofs.YthjdlanmfiofdaaDoor.ln
