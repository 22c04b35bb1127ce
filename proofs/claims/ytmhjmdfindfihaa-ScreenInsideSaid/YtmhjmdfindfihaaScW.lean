/-
  The screen's laws: ScreenSizes: its loops, the law as a tree.
-/
import Derived.Test.YtmhjmdfindfihaaScV
set_option linter.unusedVariables false
namespace Go.Proofs.Ytmhjmdfindfihaa.scr
open Go Go.Nx

noncomputable def p_sz2 : List Pat := pats 167 [(0, .i .i64), (1, .i .i64), (4, .i .u8), (11, .b), (12, .p 0 0 0), (14, .p 1 0 0), (15, .b), (16, .b), (17, .i .i64), (18, .i .i64), (19, .i .i64)]
noncomputable def b_sz2 : Code := bodyLoop Try.f5 2
noncomputable def s_sz2 (row col c : Int) (ok up on : Bool) (n r k : Int) (s : Scr) (G : List (List Sc)) : St := stG p_sz2 [.i row, .i col, .i c, .b ok, .b up, .b on, .i n, .i r, .i k] s G
noncomputable def e_sz2 (row col c : Int) (ok up on : Bool) (n r : Int) (s : Scr) (G : List (List Sc)) : St := { fr := frame 167 [(0, .v (.c (.i .i64 row))), (1, .v (.c (.i .i64 col))), (4, .v (.c (.i .u8 c))), (11, .v (.c (.b ok))), (12, .v (.c (.p 0 0 0))), (14, .v (.c (.p 1 0 0))), (15, .v (.c (.b up))), (16, .v (.c (.b on))), (17, .v (.c (.i .i64 n))), (18, .v (.c (.i .i64 r)))], rg := [some (scr s), some (grd G)] }
noncomputable def f_sz2 (row col c : Int) (ok up on : Bool) (n r : Int) (s : Scr) (G : List (List Sc)) : St := { fr := frame 167 [(0, .v (.c (.i .i64 row))), (1, .v (.c (.i .i64 col))), (4, .v (.c (.i .u8 c))), (10, .v (.c (.b false))), (11, .v (.c (.b ok))), (12, .v (.c (.p 0 0 0))), (14, .v (.c (.p 1 0 0))), (15, .v (.c (.b up))), (16, .v (.c (.b on))), (17, .v (.c (.i .i64 n))), (18, .v (.c (.i .i64 r)))], rg := [some (scr s), some (grd G)] }
def wC (c : Int) : Int := w64 (65 + Int.tmod (w64 c) 26)
theorem round_sz2 (row col c : Int) (ok up on : Bool) (n r k : Int) (s : Scr) (G : List (List Sc)) (R : RO → Prop) : (roundT X_rol 2 [0, 1, 4, 11, 12, 14, 15, 16, 17, 18, 19] [0, 1, 4, 10, 11, 12, 14, 15, 16, 17, 18] b_sz2 (s_sz2 row col c ok up on n r k s G)).run R =
    sel (decide (k < 40))
      (let F := fun (n : Int) => R (.done .ret (f_sz2 row col c ok up on n r s G))
       let N := fun (n : Int) => R (.next (s_sz2 row col c ok up on n r (w64 (k + 1)) s G))
       let x := cellQ G r k
       let S := fun (h w : Int) => sel (xI x 8 != h) (F (w64 (n + 1))) (sel (xI x 9 != w) (F (w64 (n + 1))) (N (w64 (n + 1))))
       let T := fun (h : Int) => sel on (S h (w64 (w64 (1 + k) - col))) (S h 0)
       let J := fun (b : Bool) => sel ((xI x 0 == wC c) != b) (F n) (sel (!b) (N n) (sel up (T (w64 (2 - w64 (row - r)))) (T 0)))
       let C := sel (k == col) (J true) (sel on (J (k == w64 (col + 1))) (J false))
       chkC r k (sel (r == row) C (sel up (sel (r == w64 (row - 1)) C (J false)) (J false))))
      (R (.done .normal (e_sz2 row col c ok up on n r s G))) := by kernel_rfl
end Go.Proofs.Ytmhjmdfindfihaa.scr
