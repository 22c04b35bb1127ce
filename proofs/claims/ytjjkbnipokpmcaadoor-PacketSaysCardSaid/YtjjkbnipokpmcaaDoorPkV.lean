/-
  Packets: the law PacketSays: its trees.
-/
import Derived.Test.YtjjkbnipokpmcaaDoorPkU
namespace Go.Proofs.YtjjkbnipokpmcaaDoor.pk
open Go Go.Nx

noncomputable def LL (l : List Int) : List Int := List.take l.length (List.drop 0 l)
noncomputable def sameE (bs l : List Int) (code : Option Int) (X : Prop) (R : Out → Prop) : Prop :=
  sel (decide (0 + l.length ≤ l.length)) (sel (decide (0 + l.length ≤ l.length)) (sel (mW bs == mW bs) (sel (rW bs == rW bs) (sel (kindF (rW bs) == kindF (rW bs))
    (match code with
     | some c => sel (c == c) ((LL l).length ≤ 1000000 ∧ sel (!(LL l == LL l)) (R (oB false)) X) (R (oB false))
     | none => (LL l).length ≤ 1000000 ∧ sel (!(LL l == LL l)) (R (oB false)) X)
    (R (oB false))) (R (oB false))) (R (oB false))) False) False
noncomputable def SE (bs : List Int) (X : Prop) (R : Out → Prop) : Nat → Prop
  | 0 => (0 : Nat) ≤ 1000000 ∧ X
  | 1 => (0 : Nat) ≤ 1000000 ∧ X
  | 2 => (0 : Nat) ≤ 1000000 ∧ X
  | 3 => sameE bs ((bs.drop 2).drop 1) (some (getN ((bs.drop 2).getD 0 0))) X R
  | 4 => (0 : Nat) ≤ 1000000 ∧ X
  | _ => sameE bs (bs.drop 2) none X R
noncomputable def q0 (mag row : Int) : Int := bits .or .i64 (mag.tmod 8) (shlv .i64 (bits .and .i64 row 1) 3)
noncomputable def q1 (row : Int) : Int := shrv .i64 row 1
noncomputable def PA (mag row : Int) (ds : List Int) : List Int := List.take (2 + ds.length) (List.drop 0 (adr0 mag row :: adr1 row :: ds))
noncomputable def PQ (mag row : Int) (ds : List Int) : List Int := List.take (2 + ds.length) (List.drop 0 (put (q0 mag row) :: put (q1 row) :: ds))
noncomputable def packE (mag row : Int) (ds : List Int) (R : Out → Prop) : Prop :=
  (0 ≤ q0 mag row ∧ q0 mag row < 16) ∧ ((0 ≤ q1 row ∧ q1 row < 16) ∧ sel (decide ((2 + ds.length) * bytesT Tryd.prog 5 ≤ 140737488355328)) (sel (decide (2 + ds.length ≤ 9223372036854775807)) (sel (decide (0 + (2 + ds.length) ≤ (adr0 mag row :: adr1 row :: ds).length)) (sel (decide (0 + (2 + ds.length) ≤ (put (q0 mag row) :: put (q1 row) :: ds).length))
    ((PA mag row ds).length ≤ 1000000 ∧ R (oB (PA mag row ds == PQ mag row ds))) False) False) False) False)
noncomputable def okE (row : Int) (X : Prop) (R : Out → Prop) : Prop := sel (kindF row != kindF row) (R (oB false)) X
noncomputable def FE (mag row : Int) (ds : List Int) (R : Out → Prop) : Nat → Nat → Prop
  | 0, 0 => okE row (R (oB true)) R
  | 1, 1 => okE row (R (oB true)) R
  | 2, 2 => okE row (packE mag row ds R) R
  | _, _ => R (oB false)
noncomputable def wantE (bs : List Int) (mag row : Int) (ds : List Int) (R : Out → Prop) (j c : Nat) : Prop :=
  sel (decide (mag < 1)) (SE bs (FE mag row ds R c 0) R j) (sel (decide (mag > 8)) (SE bs (FE mag row ds R c 0) R j) (sel (decide (row < 0)) (SE bs (FE mag row ds R c 0) R j) (sel (decide (row > 31)) (SE bs (FE mag row ds R c 0) R j)
    (sel ((ds.length : Int) != 40) (SE bs (FE mag row ds R c 1) R j) (SE bs (FE mag row ds R c 2) R j)))))
noncomputable def saysE (bs : List Int) (mag row : Int) (ds : List Int) (R : Out → Prop) (j c : Nat) : Prop :=
  sel (decide ((bs.length : Int) > 60)) (R (oB true)) (sel (decide ((ds.length : Int) > 60)) (R (oB true)) (cls bs = j ∧ (cls bs = j ∧ (cb mag row ds = c ∧ wantE bs mag row ds R j c))))
section
variable (bs ds : List Int) (mag row : Int) (R : Out → Prop)
theorem says_0_0 : (t_says 0 0 [.c (.l .u8 bs), .c (.i .i64 mag), .c (.i .i64 row), .c (.l .u8 ds)] []).run R = saysE bs mag row ds R 0 0 := by kernel_rfl
theorem says_0_1 : (t_says 0 1 [.c (.l .u8 bs), .c (.i .i64 mag), .c (.i .i64 row), .c (.l .u8 ds)] []).run R = saysE bs mag row ds R 0 1 := by kernel_rfl
theorem says_0_2 : (t_says 0 2 [.c (.l .u8 bs), .c (.i .i64 mag), .c (.i .i64 row), .c (.l .u8 ds)] []).run R = saysE bs mag row ds R 0 2 := by kernel_rfl
theorem says_1_0 : (t_says 1 0 [.c (.l .u8 bs), .c (.i .i64 mag), .c (.i .i64 row), .c (.l .u8 ds)] []).run R = saysE bs mag row ds R 1 0 := by kernel_rfl
theorem says_1_1 : (t_says 1 1 [.c (.l .u8 bs), .c (.i .i64 mag), .c (.i .i64 row), .c (.l .u8 ds)] []).run R = saysE bs mag row ds R 1 1 := by kernel_rfl
theorem says_1_2 : (t_says 1 2 [.c (.l .u8 bs), .c (.i .i64 mag), .c (.i .i64 row), .c (.l .u8 ds)] []).run R = saysE bs mag row ds R 1 2 := by kernel_rfl
theorem says_2_0 : (t_says 2 0 [.c (.l .u8 bs), .c (.i .i64 mag), .c (.i .i64 row), .c (.l .u8 ds)] []).run R = saysE bs mag row ds R 2 0 := by kernel_rfl
theorem says_2_1 : (t_says 2 1 [.c (.l .u8 bs), .c (.i .i64 mag), .c (.i .i64 row), .c (.l .u8 ds)] []).run R = saysE bs mag row ds R 2 1 := by kernel_rfl
theorem says_2_2 : (t_says 2 2 [.c (.l .u8 bs), .c (.i .i64 mag), .c (.i .i64 row), .c (.l .u8 ds)] []).run R = saysE bs mag row ds R 2 2 := by kernel_rfl
theorem says_3_0 : (t_says 3 0 [.c (.l .u8 bs), .c (.i .i64 mag), .c (.i .i64 row), .c (.l .u8 ds)] []).run R = saysE bs mag row ds R 3 0 := by kernel_rfl
theorem says_3_1 : (t_says 3 1 [.c (.l .u8 bs), .c (.i .i64 mag), .c (.i .i64 row), .c (.l .u8 ds)] []).run R = saysE bs mag row ds R 3 1 := by kernel_rfl
theorem says_3_2 : (t_says 3 2 [.c (.l .u8 bs), .c (.i .i64 mag), .c (.i .i64 row), .c (.l .u8 ds)] []).run R = saysE bs mag row ds R 3 2 := by kernel_rfl
theorem says_4_0 : (t_says 4 0 [.c (.l .u8 bs), .c (.i .i64 mag), .c (.i .i64 row), .c (.l .u8 ds)] []).run R = saysE bs mag row ds R 4 0 := by kernel_rfl
theorem says_4_1 : (t_says 4 1 [.c (.l .u8 bs), .c (.i .i64 mag), .c (.i .i64 row), .c (.l .u8 ds)] []).run R = saysE bs mag row ds R 4 1 := by kernel_rfl
theorem says_4_2 : (t_says 4 2 [.c (.l .u8 bs), .c (.i .i64 mag), .c (.i .i64 row), .c (.l .u8 ds)] []).run R = saysE bs mag row ds R 4 2 := by kernel_rfl
theorem says_5_0 : (t_says 5 0 [.c (.l .u8 bs), .c (.i .i64 mag), .c (.i .i64 row), .c (.l .u8 ds)] []).run R = saysE bs mag row ds R 5 0 := by kernel_rfl
theorem says_5_1 : (t_says 5 1 [.c (.l .u8 bs), .c (.i .i64 mag), .c (.i .i64 row), .c (.l .u8 ds)] []).run R = saysE bs mag row ds R 5 1 := by kernel_rfl
theorem says_5_2 : (t_says 5 2 [.c (.l .u8 bs), .c (.i .i64 mag), .c (.i .i64 row), .c (.l .u8 ds)] []).run R = saysE bs mag row ds R 5 2 := by kernel_rfl
end
end Go.Proofs.YtjjkbnipokpmcaaDoor.pk
