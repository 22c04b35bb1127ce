/-
  The Minitel: what is read of a module: the states of its loops.
-/
import Derived.Test.YtdijbpokklgjlaaGreatDoorMnB
import Derived.Test.YtdijbpokklgjlaaGreatDoorLexL
import Derived.Test.YtdijbpokklgjlaaGreatDoorLexQ
set_option linter.unusedVariables false
namespace Go.Proofs.YtdijbpokklgjlaaGreatDoor.mtl
open Go Go.Nx Go.Proofs.YtdijbpokklgjlaaGreatDoor.prt
open Go.Proofs.YtdijbpokklgjlaaGreatDoor.lex (arr lx InBytes mkEv K7)
open Go.Proofs.YtdijbpokklgjlaaGreatDoor.lxv (fIt KI liveO liveN innerC outerC frIt cel evR psOf asOf bdOf nr t_all tByteH kByteH evts pend shft cc okP)
open Go.Proofs.YtdijbpokklgjlaaGreatDoor.scr (Scr rdS rdS_in Ev eventS tEvent kEvent tRolls kRolls rollsS PreE)

noncomputable abbrev f_reads := Tryz.f32
noncomputable def rgR : Code := theRange f_reads 0
noncomputable def c_rd : FuncId → Option Con := conOf [(42, tEvent), (43, tAsk), (44, tRolls), (28, tLine), (31, tSend)]
theorem kc_rd : ∀ f T, c_rd f = some T → Known Tryz.prog [] f T := (Knowns.cons kEvent (.cons kAsk (.cons kRolls (.cons kLine (.cons kSend.known .nil))))).get
noncomputable def X_rd : Cx := { P := Tryz.prog, con := c_rd, glob := [], m := 7, loops := [] }
noncomputable def c_itR : FuncId → Option Con := conOf [(52, tByteH)]
theorem kc_itR : ∀ f T, c_itR f = some T → Known Tryz.prog [] f T := (Knowns.cons kByteH.known Knowns.nil).get
noncomputable def X_itR : Cx := { P := Tryz.prog, con := c_itR, glob := [], m := 13, loops := [] }
/-- What stays as it is: the module, its lexer's place, what is to be done, the bytes. -/
structure RK where
  j : Int
  c : Nat
  hd : Bool
  an : Bool
  bs : List Int
noncomputable def frR : List NS := frame 58 [(5, .v (.c (.p 7 0 0))), (6, .v (.c (.p 8 0 0))), (8, .v (.c (.p 9 0 0))), (9, .v (.c (.p 10 0 0))), (18, .v (.c (.cl 51 [(11, 0, 0), (12, 0, 0)])))]
noncomputable def YR : Yh := bodyY X_rd (psOf rgR) (asOf rgR) (bdOf rgR) frR
def boxR (k : RK) : List (Option Reg) := [cel 24 1 [.p 0 0 0], cel 3 1 [.i .i64 k.j], cel 4 1 [.b k.hd], cel 4 1 [.b k.an], cel 22 1 [.l .u8 k.bs], cel 98 1 [.p 0 0 k.c]]
def rowsM (M : Mn) : List (Option Reg) := [some (arr M.l1.P), some (arr M.l2.P), some (arr M.l3.P), some (arr M.o2), some (arr M.o3)]
def rgI (k : RK) (M : Mn) : List (Option Reg) := [some (mnR M 13 14 15 16 17), some (scr.scr M.sc), none, none, none, none, none] ++ boxR k ++ rowsM M
noncomputable def frI (k : RK) (i : Int) (Y : List (List Sc)) (n : Int) : List NS := frame 28 [(0, .v (.c (.e KI))), (2, .v (.c (.p 12 0 0))), (8, .v (.c (.l .u8 k.bs))), (9, .v (.c (.i .i64 k.bs.length))), (10, .v (.c (.i .i64 i))), (16, .v (.c (.lr K7 Y))), (17, .v (.c (.i .i64 Y.length))), (18, .v (.c (.i .i64 n)))]
noncomputable def sI (k : RK) (M : Mn) (i : Int) (Y : List (List Sc)) (n : Int) : St := { fr := frI k i Y n, rg := rgI k M }
noncomputable def eI (k : RK) (M : Mn) (i : Int) : St := { fr := frIt 12 k.bs i, rg := rgI k M }
noncomputable def rndI (k : RK) (s : St) : Tr ROI := roundI X_itR YR KI [] 2 liveN liveO innerC s Option.none
/-! ### an event -/
def x7 (r : List Sc) (i : Nat) : Int := (r.getD i (.i 0)).n
def evX (r : List Sc) : Ev := ⟨x7 r 0, x7 r 1, x7 r 2, x7 r 3, x7 r 4, x7 r 5, x7 r 6⟩
noncomputable def heardM (r : List Sc) (M : Mn) : Mn := { M with sc := eventS (evX r) M.sc }
noncomputable def askedM (q : PS) (r : List Sc) (M : Mn) : Mn := { M with p := (askV q (x7 r 0) (x7 r 1) (x7 r 2) (x7 r 3) (x7 r 4)).1, sc := rollsS (askV q (x7 r 0) (x7 r 1) (x7 r 2) (x7 r 3) (x7 r 4)).1.ro M.sc }
noncomputable def ansM (q : PS) (r : List Sc) : List Int := (askV q (x7 r 0) (x7 r 1) (x7 r 2) (x7 r 3) (x7 r 4)).2
def ixR (i : Int) (Q : List (List Sc)) (A : Prop) : Prop := sel (decide (0 ≤ i)) (sel (decide (i < (Q.length : Int))) (sel (decide (i.toNat < Q.length)) A False) False) False
def lensR (M : Mn) : Prop := lensM 0 M.l1.P.length M.l2.P.length M.l3.P.length M.o2.length M.o3.length M.l1.P M.l2.P M.l3.P M.o2 M.o3
def nrm (M : Mn) : Mn := { M with p := pOf (pC M.p) }
noncomputable def evR1 (k : RK) (M : Mn) (r : List Sc) (N : Mn → Prop) : Prop :=
  sel (x7 r 0 != 10) (sel k.hd (PreE (evX r) M.sc ∧ N (heardM r M)) (N M))
    (sel k.an ((((ansM (pOf (pC M.p)) r).length ≤ 1000 ∧ InBytes (ansM (pOf (pC M.p)) r)) ∧ sel (decide ((ansM (pOf (pC M.p)) r).length ≤ ((ansM (pOf (pC M.p)) r).map mkEv).length))
      (lensR M ∧ ((k.j = 2 ∨ k.j = 3) ∧ smallM M ∧ (List.take (ansM (pOf (pC M.p)) r).length ((ansM (pOf (pC M.p)) r).map mkEv)).length ≤ 100000) ∧ N (sendM k.j (List.take (ansM (pOf (pC M.p)) r).length ((ansM (pOf (pC M.p)) r).map mkEv)) (nrm (askedM (pOf (pC M.p)) r M)))) False))
      (N (askedM (pOf (pC M.p)) r M)))
theorem round_I (k : RK) (M : Mn) (i : Int) (Y : List (List Sc)) (n : Int) (R : ROI → Prop) : (rndI k (sI k M i Y n)).run R =
    sel (decide (n < (Y.length : Int))) (ixR n Y (evR1 k M (Y.getD n.toNat []) fun M' => R (.next (sI k M' i Y (w64 (n + 1))) Option.none))) (R (.done .normal (eI k M i) Option.none)) := by kernel_rfl
end Go.Proofs.YtdijbpokklgjlaaGreatDoor.mtl
