/-
  The lexer: the law LexLeft: events that are alike; the loops' states.
-/
import Derived.Test.YtdijbpokklgjlaaGreatDoorLexQ
import Derived.Test.YtdijbpokklgjlaaGreatDoorNum
set_option linter.unusedVariables false
namespace Go.Proofs.YtdijbpokklgjlaaGreatDoor.lxv
open Go Go.Nx Go.Proofs.YtdijbpokklgjlaaGreatDoor.lex

/-! ### the function that is ranged over: its loops -/
noncomputable abbrev fIt := Tryz.f51
noncomputable def cIt : FuncId → Option Con := conOf [(52, tByteD)]
theorem kcIt : ∀ f T, cIt f = some T → Known Tryz.prog [] f T := (Knowns.cons kByteD Knowns.nil).get
noncomputable def XIt (m : Nat) : Cx := { P := Tryz.prog, con := cIt, glob := [], m := m, loops := [] }
def KI : Nat := 1000
def liveO : List Nat := [0, 2, 8, 9, 10]
def liveN : List Nat := [0, 2, 8, 9, 10, 16, 17, 18]
noncomputable def innerC : Code := bodyLoop fIt 2
noncomputable def outerC : Code := bodyLoop fIt 0
noncomputable def lsN (m : Nat) (Y : Yh) : LI := [(2, liveN, unrollI (XIt m) Y KI [] 2 liveN liveO innerC 4)]
noncomputable def rndO (m : Nat) (Y : Yh) (s : St) : Tr ROI := roundI (XIt m) Y KI (lsN m Y) 0 liveO [] outerC s none
/-- The frame of that function at its loop's head. -/
noncomputable def frIt (box : Nat) (bs : List Int) (i : Int) : List NS := frame 28 [(0, .v (.c (.e KI))), (2, .v (.c (.p box 0 0))), (8, .v (.c (.l .u8 bs))), (9, .v (.c (.i .i64 bs.length))), (10, .v (.c (.i .i64 i)))]

/-- An event as it is laid into a box and read again. -/
def nr (r : List Sc) : List Sc := [.i (r.getD 0 (.i 0)).n, .i (r.getD 1 (.i 0)).n, .i (r.getD 2 (.i 0)).n, .i (r.getD 3 (.i 0)).n, .i (r.getD 4 (.i 0)).n, .i (r.getD 5 (.i 0)).n, .i (r.getD 6 (.i 0)).n]
def tk (E : List (List Sc)) : List (List Sc) := List.take E.length (List.drop 0 E)

/-! ### the law -/
noncomputable def cNone : FuncId → Option Con := fun _ => Option.none
noncomputable def XBody : Cx := { P := Tryz.prog, con := cNone, glob := [], m := 0, loops := [] }
def psOf : Code → Array Tmp
  | .rangeFunc _ ps _ _ => ps
  | _ => #[]
def asOf : Code → Code
  | .rangeFunc _ _ a _ => a
  | _ => .skip
def bdOf : Code → Code
  | .rangeFunc _ _ _ b => b
  | _ => .skip
noncomputable def fr1 (bs : List Int) : List NS := frame 56 [(0, .v (.c (.l .u8 bs))), (3, .v (.c (.p 0 0 0))), (5, .v (.c (.b true))), (6, .v (.c (.p 1 0 0))), (8, .v (.c (.p 2 0 0))), (20, .v (.c (.cl 51 [(3, 0, 0), (4, 0, 0)])))]
def cel (e : TypeId) (st : Nat) (x : List NC) : Option Reg := some ⟨st, e, .cells x⟩
def regs1 (bs : List Int) (n s : Int) (all pnd : NC) : List (Option Reg) := [cel 3 1 [.i .i64 n], some (lx .sn 0), cel 100 1 [all], cel 22 1 [.l .u8 bs], cel 98 1 [.p 5 0 0], some (lx pnd s)]
noncomputable def st1A (bs : List Int) (n s i : Int) : St := { fr := frIt 4 bs i, rg := regs1 bs n s .sn .sn }
noncomputable def st1B (bs : List Int) (n : Int) (P : List Int) (s i : Int) : St := { fr := frIt 4 bs i, rg := regs1 bs n s .sn (.h 6 0 P.length) ++ [some (arr P)] }
noncomputable def st1C (bs : List Int) (n : Int) (E : List (List Sc)) (k : Nat) (s i : Int) : St := { fr := frIt 4 bs i, rg := regs1 bs n s (.h 6 0 k) .sn ++ [some (evR E)] }
noncomputable def st1D (bs : List Int) (n : Int) (E : List (List Sc)) (k : Nat) (P : List Int) (s i : Int) : St := { fr := frIt 4 bs i, rg := regs1 bs n s (.h 6 0 k) (.h 7 0 P.length) ++ [some (evR E), some (arr P)] }
noncomputable def dn1 (bs : List Int) (n s : Int) (all pnd : NC) (l : List (Option Reg)) : ROI := ROI.done NExit.normal { fr := frame 28 [], rg := regs1 bs n s all pnd ++ l } none
end Go.Proofs.YtdijbpokklgjlaaGreatDoor.lxv
