/-
  A terminal of nothing: what its makers come to.
-/
import Derived.Test.YtjfgphfdaghilaaGreatDoorVnA
import Derived.Test.YtjfgphfdaghilaaGreatDoorAcA
set_option linter.unusedVariables false
namespace Go.Proofs.YtjfgphfdaghilaaGreatDoor.vn
open Go Go.Nx Go.Proofs.YtjfgphfdaghilaaGreatDoor.pk Go.Proofs.YtjfgphfdaghilaaGreatDoor.ac

def eR : Out := ⟨.tu [.c .pn, .c (.e 0)], []⟩
noncomputable def oSt (n : Int) : Out := ⟨.tu [.c (.p 0 0 0), .c .en], [some (stReg n 1 .sn 0 0 0 false), some (mpReg [])]⟩
theorem st_tree (n : Int) (R : Out → Prop) : (t_stNew [.c (.i .i64 n)] []).run R = sel (decide (n < 1)) (R eR) (sel (decide (n > 800)) (R eR) (R (oSt n))) := by kernel_rfl
noncomputable def oAc (n : Int) : Out := ⟨.tu [.c (.p 0 0 0), .c .en], [some (mcReg 1 (fun _ => mgZ) infZ), some (stReg n 2 .sn 0 0 0 false), some (mpReg [])]⟩
theorem ac_tree (n : Int) (R : Out → Prop) : (t_acNew [.c (.i .i64 n)] []).run R = sel (decide (n < 1)) (R eR) (sel (decide (n > 800)) (R eR) (R (oAc n))) := by kernel_rfl
/-- The remote control's beginning. -/
def rmZ : List NC := [.i .i64 1, .i .i64 0, .i .i64 16255, .sn, .sn, .b false, .b false, .b false, .b false]
/-- A receiver; its machine is region number r. -/
noncomputable def rcReg (r : Nat) (rm : List NC) (p : Pg) (x : NC) (found : Bool) (ticks : Int) : Reg := ⟨1073, 179, .sg (pgSegs p x (.p r 0 0 :: rm) fun q => [.cells (q ++ [.b found, .i .i64 ticks])])⟩
noncomputable def rgTl (b : Nat) (n : Int) : List (Option Reg) := [some (rcReg (b + 1) rmZ pgZ .sn false 0), some (mcReg (b + 2) (fun _ => mgZ) infZ), some (stReg n (b + 3) .sn 0 0 0 false), some (mpReg [])]
noncomputable def oTl (n : Int) : Out := ⟨.tu [.c (.p 0 0 0), .c .en], rgTl 0 n⟩
theorem tl_tree (n : Int) (R : Out → Prop) : (t_tlNew [.c (.i .i64 n)] []).run R = sel (decide (n < 1)) (R eR) (sel (decide (n > 800)) (R eR) (R (oTl n))) := by kernel_rfl
end Go.Proofs.YtjfgphfdaghilaaGreatDoor.vn
