/-
  Packets: the law PacketBack.
-/
import Derived.Test.YtjjkbnipokpmcaaDoorPkL
namespace Go.Proofs.YtjjkbnipokpmcaaDoor.pk
open Go Go.Nx

noncomputable def ix (n : Int) : Int := IntKind.u64.wrap (bits .and .i64 n 7)
noncomputable def one (j : Int) : Int := shlv .u8 1 j
noncomputable def B0 (M r : Int) (ds : List Int) : List Int := adr0 M r :: adr1 r :: ds
noncomputable def S1 (M r i : Int) (ds : List Int) : List Int := setI (B0 M r ds) (0 + (0 : Int).toNat) (x8 ((B0 M r ds).getD (0 + (0 : Int).toNat) 0) (one (ix i))) 0
noncomputable def S2 (M r i k : Int) (ds : List Int) : List Int := setI (S1 M r i ds) (0 + (1 : Int).toNat) (x8 ((S1 M r i ds).getD (0 + (1 : Int).toNat) 0) (one (ix k))) 0
noncomputable def T2 (M r i k : Int) (ds : List Int) : List Int := List.take (2 + ds.length) (List.drop 0 (S2 M r i k ds))
noncomputable def atI (two : Int) : Int := bits .and .i64 two 1
noncomputable def S3 (M r i k a W : Int) (ds : List Int) : List Int := setI (S2 M r i k ds) (0 + a.toNat) (x8 ((S2 M r i k ds).getD (0 + a.toNat) 0) (one (ix (IntKind.i64.wrap (W + 1))))) 0
noncomputable def T3 (M r i k a W : Int) (ds : List Int) : List Int := List.take (2 + ds.length) (List.drop 0 (S3 M r i k a W ds))
noncomputable def gB (l : List Int) : Bool := getB (l.getD 0 0) && getB (l.getD 1 0)
noncomputable def mK (l : List Int) : Prop := kindF (rowOf (getN (l.getD 0 0)) (getN (l.getD 1 0))) ≠ 0 ∧ rowOf (getN (l.getD 0 0)) (getN (l.getD 1 0)) < 26
noncomputable def finE (M r : Int) (l ds : List Int) (b : Bool) (R : Out → Prop) : Prop :=
  sel (magOf (getN (l.getD 0 0)) == M) (sel (rowOf (getN (l.getD 0 0)) (getN (l.getD 1 0)) == r) (sel (decide (0 + (List.drop 2 l).length ≤ (List.drop 2 l).length))
    ((List.take (List.drop 2 l).length (List.drop 0 (List.drop 2 l))).length ≤ 1000000 ∧ sel (List.take (List.drop 2 l).length (List.drop 0 (List.drop 2 l)) == ds) (R (oB b)) (R (oB false))) False) (R (oB false))) (R (oB false))
noncomputable def secE (M r i k a W : Int) (ds : List Int) (A B : Prop) : Prop :=
  sel (decide (0 ≤ a)) (sel (decide (a < ((2 + ds.length : Nat) : Int))) (sel (decide (0 + a.toNat < (S2 M r i k ds).length)) (sel (decide (0 ≤ ix (IntKind.i64.wrap (W + 1)))) (sel (decide (0 ≤ a)) (sel (decide (a < ((2 + ds.length : Nat) : Int))) (sel (decide (0 + a.toNat < (S2 M r i k ds).length)) (sel (decide (0 + (2 + ds.length) ≤ (S3 M r i k a W ds).length))
    ((T3 M r i k a W ds).length = 42 ∧ sel (gB (T3 M r i k a W ds)) (mK (T3 M r i k a W ds) ∧ A) B) False) False) False) False) False) False) False) False
noncomputable def bothE (M r i k a : Int) (ds : List Int) (A B : Prop) : Prop := sel (a == 0) (secE M r i k a (bits .and .i64 i 7) ds A B) (secE M r i k a (bits .and .i64 k 7) ds A B)
noncomputable def backE (M r i k a : Int) (ds : List Int) (R : Out → Prop) : Prop :=
  sel (((2 + ds.length : Nat) : Int) != 42) (R (oB false)) (sel (decide (0 < ((2 + ds.length : Nat) : Int))) (sel (decide (0 ≤ ix i)) (sel (decide (0 < ((2 + ds.length : Nat) : Int))) (sel (decide (1 < ((2 + ds.length : Nat) : Int))) (sel (decide (0 ≤ ix k)) (sel (decide (1 < ((2 + ds.length : Nat) : Int)))
    (sel (decide (0 + (2 + ds.length) ≤ (S2 M r i k ds).length)) ((T2 M r i k ds).length = 42 ∧ sel (gB (T2 M r i k ds)) (mK (T2 M r i k ds) ∧ bothE M r i k a ds (finE M r (T2 M r i k ds) ds false R) (finE M r (T2 M r i k ds) ds true R)) (bothE M r i k a ds (R (oB false)) (R (oB false)))) False) False) False) False) False) False) False)
def must25 : Prop := 0 < (25 : Int) ∧ (25 : Int) < 4611686018427387904
theorem back_tree (mag row i k two : Int) (ds : List Int) (R : Out → Prop) : (t_back [.c (.i .i64 mag), .c (.i .i64 row), .c (.l .u8 ds), .c (.i .i64 i), .c (.i .i64 k), .c (.i .i64 two)] []).run R =
    sel ((ds.length : Int) != 40) (R (oB true)) (must8 ∧ (must25 ∧ (((1 ≤ mM mag ∧ mM mag ≤ 8 ∧ 0 ≤ row % 25 ∧ row % 25 ≤ 31) ∧ ds.length = 40) ∧ backE (mM mag) (row % 25) i k (atI two) ds R))) := by kernel_rfl
end Go.Proofs.YtjjkbnipokpmcaaDoor.pk
