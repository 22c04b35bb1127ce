/-
  The lexer: the law LexLeft: its second loop.
-/
import Derived.Test.YtnhadghddkgjdaaLexLc
set_option linter.unusedVariables false
namespace Go.Proofs.Ytnhadghddkgjdaa.lxv
open Go Go.Nx Go.Proofs.Ytnhadghddkgjdaa.lex

noncomputable def ls1 (m : Nat) (fr : List NS) : LI := [(0, liveO, L1 m fr)]
noncomputable def R1L : St → Tr (NExit × St) := rangeT XBody KI cIt ls1 0 [0, 3, 5, 6, 8] 50 fIt rg0
noncomputable def cLeft : FuncId → Option Con := conOf [(29, t_all), (16, Go.Proofs.Ytnhadghddkgjdaa.num.tNumV), (21, tYes), (30, tSame)]
theorem kcLeft : ∀ f T, cLeft f = some T → Known Try.prog [] f T := (Knowns.cons k_all (.cons Go.Proofs.Ytnhadghddkgjdaa.num.kNumV (.cons kYes (.cons kSame .nil)))).get

/-! ### the second loop's states -/
noncomputable def fr2 : List NS := frame 56 [(3, .v (.c (.p 0 0 0))), (5, .v (.c (.b true))), (8, .v (.c (.p 1 0 0))), (10, .v (.c (.p 3 0 0))), (32, .v (.c (.cl 50 [(4, 0, 0), (5, 0, 0)])))]
noncomputable def fr3 : List NS := frame 56 [(3, .v (.c (.p 0 0 0))), (5, .v (.c (.b true))), (8, .v (.c (.p 1 0 0))), (10, .v (.c (.p 2 0 0))), (32, .v (.c (.cl 50 [(3, 0, 0), (4, 0, 0)])))]
noncomputable def Y2 (fr : List NS) : Yh := bodyY XBody (psOf rg2) (asOf rg2) (bdOf rg2) fr
def regs2 (bs : List Int) (n : Int) (El : List (List Sc)) (s : Int) (got pnd : NC) : List (Option Reg) := [cel 3 1 [.i .i64 n], cel 45 1 [.h 2 0 El.length], some (evR El), cel 45 1 [got], cel 36 1 [.l .u8 bs], cel 71 1 [.p 6 0 0], some (lx pnd s)]
def regs3 (bs : List Int) (n s : Int) (pnd : NC) : List (Option Reg) := [cel 3 1 [.i .i64 n], cel 45 1 [.sn], cel 45 1 [.sn], cel 36 1 [.l .u8 bs], cel 71 1 [.p 5 0 0], some (lx pnd s)]
noncomputable def st2 (bs : List Int) (n : Int) (El : List (List Sc)) (got pnd : NC) (l : List (Option Reg)) (s i : Int) : St := { fr := frIt 5 bs i, rg := regs2 bs n El s got pnd ++ l }
noncomputable def st3 (bs : List Int) (n : Int) (pnd : NC) (l : List (Option Reg)) (s i : Int) : St := { fr := frIt 4 bs i, rg := regs3 bs n s pnd ++ l }
noncomputable def rnd2 (s : St) : Tr ROI := rndO 7 (Y2 fr2) s
noncomputable def rnd3 (s : St) : Tr ROI := rndO 6 (Y2 fr3) s
noncomputable def dn2 (e : NExit) (bs : List Int) (n : Int) (El : List (List Sc)) (got pnd : NC) (l : List (Option Reg)) (s : Int) (p : Option NExit) : ROI := ROI.done e { fr := frame 28 [], rg := regs2 bs n El s got pnd ++ l } p
noncomputable def dn3 (bs : List Int) (n : Int) (pnd : NC) (l : List (Option Reg)) (s : Int) : ROI := ROI.done NExit.normal { fr := frame 28 [], rg := regs3 bs n s pnd ++ l } none
end Go.Proofs.Ytnhadghddkgjdaa.lxv
