/-
  HeaderBack: the law's tree.
-/
import Derived.Test.YthjdlanmfiofdaaDoorHdK
namespace Go.Proofs.YthjdlanmfiofdaaDoor.hd
open Go Go.Nx Go.Proofs.YthjdlanmfiofdaaDoor.pk Go.Proofs.YthjdlanmfiofdaaDoor.ln

noncomputable def qB (pg sb f : Int) (T : List Int) : Nat := 2 + (hb pg sb (flF f) ++ T).length
noncomputable def rdB (mg pg sb f : Int) (T bs : List Int) : List Int := List.take (qB pg sb f T) (List.drop 0 (trnB mg pg sb f T bs))
noncomputable def dsB (L : List Int) : List Int := List.take (L.drop 2).length (List.drop 0 (L.drop 2))
noncomputable def leafB (mg pg sb f : Int) (T : List Int) (L : List Int) (R : Out → Prop) (o : Int) : Prop :=
  (hdC (magOf (getN (L.getD 0 0))) (dsB L) = [.i .i64 mg, .i .i64 pg, .i .i64 sb, .b (ckOf f 0), .b (ckOf f 1), .b (ckOf f 2), .b (ckOf f 3), .b (ckOf f 4), .b (ckOf f 5), .b (ckOf f 6), .b (ckOf f 7), .b (ckOf f 8), .b (ckOf f 9), .b (ckOf f 10), .i .i64 o]) ∧
  ((List.take 32 (List.drop 0 (T32 (dsB L))) = T ∧ (List.take 32 (List.drop 0 (T32 (dsB L)))).length ≤ 1000000) ∧ R (oB true))
def optE (c : Bool) (o : Int) (K : Int → Prop) : Prop := sel c (K (IntKind.i64.wrap (IntKind.i64.wrap (2 * o) + 1))) (K (IntKind.i64.wrap (2 * o)))
def mustRd (L : List Int) : Prop := L.length = 42 ∧ getB (L.getD 0 0) = true ∧ getB (L.getD 1 0) = true ∧ rowOf (getN (L.getD 0 0)) (getN (L.getD 1 0)) = 0
noncomputable def bodyB (mg pg sb f : Int) (T bs : List Int) (R : Out → Prop) : Prop :=
  ((fairB mg pg sb = true ∧ T.length = 32) ∧ sel (((qB pg sb f T : Nat) : Int) != 42) (R (oB false))
    (((lstB mg pg sb f T).length = 42 ∧ qB pg sb f T = 42 ∧ 0 ≤ (0 : Int) ∧ (0 : Int) ≤ 10) ∧ sel (decide (0 + qB pg sb f T ≤ (trnB mg pg sb f T bs).length))
      (mustRd (rdB mg pg sb f T bs) ∧ sel (decide (0 + ((rdB mg pg sb f T bs).drop 2).length ≤ ((rdB mg pg sb f T bs).drop 2).length)) ((1 = (1 : Int) ∧ (dsB (rdB mg pg sb f T bs)).length = 40 ∧ (B8 (dsB (rdB mg pg sb f T bs))).all getB = true) ∧
        optE (ckOf f 8) 0 fun o => optE (ckOf f 9) o fun o => optE (ckOf f 10) o fun o => leafB mg pg sb f T (rdB mg pg sb f T bs) R o) False) False))
theorem hback_tree (n1 n2 n3 f : Int) (T bs : List Int) (R : Out → Prop) : (t_hback [.c (.i .i64 n1), .c (.i .i64 n2), .c (.i .i64 n3), .c (.i .i64 f), .c (.l .u8 T), .c (.l .i64 bs)] []).run R =
    sel ((T.length : Int) != 32) (R (oB true)) ((0 < (8 : Int) ∧ (8 : Int) < 4611686018427387904) ∧ ((0 < (256 : Int) ∧ (256 : Int) < 4611686018427387904) ∧ bodyB (mgN n1) (n2 % 256) (aI n3 16255) f T bs R)) := by kernel_rfl
end Go.Proofs.YthjdlanmfiofdaaDoor.hd
