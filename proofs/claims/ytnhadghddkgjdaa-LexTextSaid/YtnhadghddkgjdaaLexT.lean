/-
  The lexer: the law LexText: its trees.
-/
import Derived.Test.YtnhadghddkgjdaaLexN
namespace Go.Proofs.Ytnhadghddkgjdaa.lex
open Go Go.Nx Go.RowKit

noncomputable abbrev fText := Try.f11
noncomputable def cText : FuncId → Option Con := conOf [(23, tByteT), (25, t_evens), (28, t_shift), (22, t_pending), (21, tYes)]
theorem kcText : ∀ f T, cText f = some T → Known Try.prog [] f T := (Knowns.cons kByteT (.cons k_evens (.cons k_shift (.cons k_pending (.cons kYes .nil))))).get
noncomputable def XText : Cx := { P := Try.prog, con := cText, glob := [], m := 0, loops := [] }
noncomputable def sText (bs : List Int) (ys : List (List Sc)) (ok : Bool) (s t i : Int) : St := { fr := frame 119 [(0, .v (.c (.l .u8 bs))), (1, .v (.c (.lr [.b] ys))), (7, .v (.c (.b ok))), (8, .v (.c (.p 0 0 0))), (9, .v (.c (.i .i64 t))), (10, .v (.c (.i .i64 i)))], rg := [some (lx .sn s)] }
noncomputable def dText (ok : Bool) (s t : Int) : St := { fr := frame 119 [(7, .v (.c (.b ok))), (8, .v (.c (.p 0 0 0))), (9, .v (.c (.i .i64 t)))], rg := [some (lx .sn s)] }
noncomputable def nText (ok : Bool) (s t : Int) : RO := RO.done NExit.ret { fr := frame 119 [(6, .v (.c (.b false))), (7, .v (.c (.b ok))), (8, .v (.c (.p 0 0 0))), (9, .v (.c (.i .i64 t)))], rg := [some (lx .sn s)] }
noncomputable def letter (x : Int) : Int := bits .or .u8 (bits .and .u8 x 95) 32
noncomputable def right (ok : Bool) (s t x : Int) (R : RO → Prop) (nx : RO) : Prop :=
  sel (decide (mkEv (letter x) = 142)) (R (nText ok 1 t)) (sel (isEv (mkEv (letter x)))
    (((0 ≤ mkEv (letter x) ∧ mkEv (letter x) < 256) ∧ 32 ≤ cB (mkEv (letter x))) ∧ sel (w64 (cB (mkEv (letter x))) != w64 (letter x)) (R (nText ok s t)) (sel (s != t) (R (nText ok s t)) (R nx)))
    ((0 ≤ mkEv (letter x) ∧ mkEv (letter x) < 256) ∧ sel (127 != w64 (letter x)) (R (nText ok s t)) (sel (0 != t) (R (nText ok s t)) (R nx))))
noncomputable def bad4 (x : Int) : Int := bits .xor .u8 (mkEv (letter x)) 4
noncomputable def wrong (ok : Bool) (s t x : Int) (R : RO → Prop) (nx : RO) : Prop :=
  sel (decide (bad4 x = 142)) (R (nText ok 1 t)) (sel (isEv (bad4 x))
    (((0 ≤ bad4 x ∧ bad4 x < 256) ∧ 32 ≤ cB (bad4 x)) ∧ sel (w64 (cB (bad4 x)) != 127) (R (nText ok s t)) (sel (s != 0) (R (nText ok s t)) (R nx)))
    ((0 ≤ bad4 x ∧ bad4 x < 256) ∧ R nx))
def isBad (ys : List (List Sc)) (i : Int) : Bool := ((ys.getD i.toNat []).getD 0 (Sc.i 0)).t
/-- What is asked of the event of a byte that is well, and of one that is wrong, where it is not plain whether it was turned. -/
noncomputable def both (y ok : Bool) (s t x z : Int) (R : RO → Prop) (nx : RO) : Prop :=
  sel (decide (z = 142)) (R (nText ok 1 t)) (sel (isEv z)
    (((0 ≤ z ∧ z < 256) ∧ 32 ≤ cB z) ∧
      sel (!y) (sel (w64 (cB z) != w64 (letter x)) (R (nText ok s t)) (sel (s != t) (R (nText ok s t)) (sel y (sel (w64 (cB z) != 127) (R (nText ok s t)) (sel (s != 0) (R (nText ok s t)) (R nx))) (R nx))))
       (sel y (sel (w64 (cB z) != 127) (R (nText ok s t)) (sel (s != 0) (R (nText ok s t)) (R nx))) (R nx)))
    ((0 ≤ z ∧ z < 256) ∧ sel (!y) (sel (127 != w64 (letter x)) (R (nText ok s t)) (sel (0 != t) (R (nText ok s t)) (sel y (R nx) (R nx)))) (sel y (R nx) (R nx))))
theorem round_text (bs : List Int) (ys : List (List Sc)) (ok : Bool) (s t i : Int) (R : RO → Prop) : (roundT XText 0 [0, 1, 7, 8, 9, 10] [6, 7, 8, 9] (bodyLoop fText 0) (sText bs ys ok s t i)).run R =
    sel (decide (i < (bs.length : Int))) (sel (decide (0 ≤ i)) (sel (decide (i < (bs.length : Int))) (sel (decide (i.toNat < bs.length)) (in8 (letter (bs.getD i.toNat 0)) ∧
      sel (decide (i < (ys.length : Int)))
       (sel (decide (0 ≤ i)) (sel (decide (i < (ys.length : Int))) (sel (decide (i.toNat < ys.length))
         (sel (isBad ys i) (both (isBad ys i) ok s t (bs.getD i.toNat 0) (bad4 (bs.getD i.toNat 0)) R (RO.next (sText bs ys ok s t (IntKind.i64.wrap (i + 1)))))
          (both (isBad ys i) ok s t (bs.getD i.toNat 0) (mkEv (letter (bs.getD i.toNat 0))) R (RO.next (sText bs ys ok s t (IntKind.i64.wrap (i + 1)))))) False) False) False)
       (right ok s t (bs.getD i.toNat 0) R (RO.next (sText bs ys ok s t (IntKind.i64.wrap (i + 1)))))) False) False) False)
     (R (RO.done NExit.normal (dText ok s t))) := by kernel_rfl
end Go.Proofs.Ytnhadghddkgjdaa.lex
