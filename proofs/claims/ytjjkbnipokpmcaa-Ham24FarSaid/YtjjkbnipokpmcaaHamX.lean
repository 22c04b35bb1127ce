/-
  ham24: the law Ham24Far: how many bits are set.
-/
import Derived.Test.YtjjkbnipokpmcaaHamW
namespace Go.Proofs.Ytjjkbnipokpmcaa.ham
open Go Go.Nx

noncomputable abbrev fFar := Try.f6
noncomputable def XFar : Cx := { P := Try.prog, con := cLaw, glob := [], m := 0, loops := [] }
noncomputable def tFar : Con := fun args regs => if regs.length = 0 then nfun Try.prog [] cLaw [(0, [0, 1, 5, 6, 7, 8, 9, 10], unroll XFar 0 [0, 1, 5, 6, 7, 8, 9, 10] [0, 1, 5, 8, 9] (bodyLoop fFar 0) 30)] fFar args regs else .fail
theorem kFar : Known Try.prog [] 6 tFar := known_loops 0 Try.func6 rfl (by kernel_rfl) mixed kcLaw
  (LAll.one (id := 0) (body := bodyLoop fFar 0) (by kernel_rfl) rfl (unroll_ok (X := XFar) kcLaw mixed (LAll.none (by kernel_rfl)) [0, 1, 5, 6, 7, 8, 9, 10] [0, 1, 5, 8, 9] 30))
/-- The bits of some bytes, counted on. -/
noncomputable def cnt : List (Int × Nat) → Int → Int
  | [], n => n
  | x :: l, n => cnt l (IntKind.i64.wrap (n + IntKind.i64.wrap (bits .and .u8 (shrv .u8 x.1 (Int.ofNat x.2)) 1)))
def r8 : List Nat := [0, 1, 2, 3, 4, 5, 6, 7]
noncomputable def of3 (x y z : Int) : List (Int × Nat) := r8.map (fun j => (x, j)) ++ (r8.map (fun j => (y, j)) ++ r8.map fun j => (z, j))
noncomputable def xb (x y : BitVec 8) : Int := bits .xor .u8 (u8 x) (u8 y)
noncomputable def cntD (v w : BitVec 32) : Int := cnt (of3 (xb (b0 v) (b0 w)) (xb (b1 v) (b1 w)) (xb (b2 v) (b2 w))) 0
noncomputable def cntA (v : BitVec 32) : Int := cnt (of3 (u8 (b0 v)) (u8 (b1 v)) (u8 (b2 v))) 0
theorem far_tree (a b : Int) (R : Out → Prop) : (tFar [.c (.i .i64 a), .c (.i .i64 b)] []).run R =
    (InNum 262144 ∧ (InNum 262144 ∧ (In64 (a % 262144) ∧ (In64 (b % 262144) ∧
      sel ((a % 262144 == b % 262144) == (cntD (wn a) (wn b) == 0))
       (sel (cntD (wn a) (wn b) == 0) (R ⟨.v (.c (.b ((cntA (wn a)).tmod 2 == 1))), []⟩)
        (sel (decide (cntD (wn a) (wn b) ≥ 4)) (R ⟨.v (.c (.b ((cntA (wn a)).tmod 2 == 1))), []⟩) (R no)))
       False)))) := by kernel_rfl
end Go.Proofs.Ytjjkbnipokpmcaa.ham
