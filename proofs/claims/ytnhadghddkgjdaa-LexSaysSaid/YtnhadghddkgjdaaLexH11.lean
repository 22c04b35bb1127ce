/-
  The law LexSays: the range over all bytes: its states.
-/
import Derived.Test.YtnhadghddkgjdaaLexH10
set_option linter.unusedVariables false
namespace Go.Proofs.Ytnhadghddkgjdaa.lxr
open Go Go.Nx Go.Proofs.Ytnhadghddkgjdaa.lex Go.Proofs.Ytnhadghddkgjdaa.lxv

noncomputable def rgS : Code := theRange fSay 2
noncomputable def cItH : FuncId → Option Con := conOf [(23, tByteH)]
theorem kcItH : ∀ f T, cItH f = some T → Known Try.prog [] f T := (Knowns.cons kByteH.known Knowns.nil).get
noncomputable def XItH : Cx := { P := Try.prog, con := cItH, glob := [], m := 9, loops := [] }
noncomputable def frG (n : Nat) (bs : List Int) : List NS := frame 84 [(3, .v (.c (.b true))), (5, .v (.c (.p 0 0 0))), (6, .v (.c (.p 2 0 0))), (7, .v (.c (.hz 4 n))), (8, .v (.c (.p 5 0 0))), (64, .v (.c (.cl 50 [(7, 0, 0), (8, 0, 0)])))]
noncomputable def YG (n : Nat) (bs : List Int) : Yh := bodyY XBody (psOf rgS) (asOf rgS) (bdOf rgS) (frG n bs)
/-- What the range leaves as it is: the document's lexer, all events. -/
structure Kp where
  bs : List Int
  P : List Int
  s : Int
  E : List (List Sc)
noncomputable def rgG (k : Kp) (p g : NC) (s : Int) (a1 a6 : Option Reg) (l : List (Option Reg)) : List (Option Reg) := [some (lx p s), a1, some (rx (.hz 3 k.P.length) k.s), some (arr k.P), some (evR k.E), cel 45 1 [g], a6, cel 36 1 [.l .u8 k.bs], cel 71 1 [.p 0 0 0]] ++ l
noncomputable def rg0G (k : Kp) : List (Option Reg) := rgG k (.hz 1 0) (.hz 6 0) 0 (some (arr [])) (some (evR [])) []
noncomputable def rg1G (k : Kp) (P : List Int) (s : Int) : List (Option Reg) := rgG k (.hz 9 P.length) (.hz 6 0) s Option.none (some (evR [])) [some (arr P)]
noncomputable def rg2G (k : Kp) (P : List Int) (s : Int) (G : List (List Sc)) (n : Nat) : List (Option Reg) := rgG k (.hz 9 P.length) (.hz 10 n) s Option.none Option.none [some (arr P), some (evR G)]
noncomputable def lsG (n : Nat) (bs : List Int) : LI := [(2, liveN, unrollI XItH (YG n bs) KI [] 2 liveN liveO innerC 3)]
noncomputable def rndG (n : Nat) (bs : List Int) (s : St) : Tr ROI := roundI XItH (YG n bs) KI (lsG n bs) 0 liveO [] outerC s Option.none
noncomputable def s0G (k : Kp) (i : Int) : St := { fr := frIt 8 k.bs i, rg := rg0G k }
noncomputable def s1G (k : Kp) (P : List Int) (s i : Int) : St := { fr := frIt 8 k.bs i, rg := rg1G k P s }
noncomputable def s2G (k : Kp) (P : List Int) (s : Int) (G : List (List Sc)) (n : Nat) (i : Int) : St := { fr := frIt 8 k.bs i, rg := rg2G k P s G n }
noncomputable def d0G (k : Kp) : ROI := .done .normal { fr := frame 28 [], rg := rg0G k } Option.none
noncomputable def d1G (k : Kp) (P : List Int) (s : Int) : ROI := .done .normal { fr := frame 28 [], rg := rg1G k P s } Option.none
noncomputable def d2G (k : Kp) (P : List Int) (s : Int) (G : List (List Sc)) (n : Nat) : ROI := .done .normal { fr := frame 28 [], rg := rg2G k P s G n } Option.none
def ixR (i : Int) (Q : List (List Sc)) (A : Prop) : Prop := sel (decide (0 ≤ i)) (sel (decide (i < (Q.length : Int))) (sel (decide (i.toNat < Q.length)) A False) False) False
def evsG (Y : List (List Sc)) (k1 k2 k3 : Prop → Prop) (A0 A1 A2 : Prop) : Prop := sel (decide ((0 : Int) < (Y.length : Int))) (ixR 0 Y (k1 (sel (decide ((1 : Int) < (Y.length : Int))) (ixR 1 Y (k2 (sel (decide ((2 : Int) < (Y.length : Int))) (ixR 2 Y (k3 False)) A2))) A1))) A0
def apG (n m : Nat) (A : Prop) : Prop := sel (decide (n ≤ m)) (sel (decide ((n + 1) * 56 ≤ 140737488355328)) (sel (decide (n + 1 ≤ 9223372036854775807)) A False) False) False
def h1G (Y : List (List Sc)) : List Sc := nr (Y.getD 0 [])
def h2G (Y : List (List Sc)) : List Sc := nr (Y.getD 1 [])
noncomputable def in0G (k : Kp) (b i : Int) (R : ROI → Prop) : Prop := (0 = 0 ∧ (0 ≤ b ∧ b < 256) ∧ (([] : List Int) = [] ∨ okP [])) ∧ evsG (evts [] 0 (cc b)) id id id
  (R (.next (s1G k (pend [] (cc b)) (shft 0 (cc b)) (w64 (i + 1))) Option.none))
  (R (.next (s2G k (pend [] (cc b)) (shft 0 (cc b)) [h1G (evts [] 0 (cc b))] 1 (w64 (i + 1))) Option.none))
  (R (.next (s2G k (pend [] (cc b)) (shft 0 (cc b)) [h1G (evts [] 0 (cc b)), h2G (evts [] 0 (cc b))] 2 (w64 (i + 1))) Option.none))
noncomputable def in1G (k : Kp) (P : List Int) (s b i : Int) (R : ROI → Prop) : Prop := (P.length = P.length ∧ (0 ≤ b ∧ b < 256) ∧ (P = [] ∨ okP P)) ∧ evsG (evts P s (cc b)) id id id
  (R (.next (s1G k (pend P (cc b)) (shft s (cc b)) (w64 (i + 1))) Option.none))
  (R (.next (s2G k (pend P (cc b)) (shft s (cc b)) [h1G (evts P s (cc b))] 1 (w64 (i + 1))) Option.none))
  (R (.next (s2G k (pend P (cc b)) (shft s (cc b)) [h1G (evts P s (cc b)), h2G (evts P s (cc b))] 2 (w64 (i + 1))) Option.none))
noncomputable def in2G (k : Kp) (P : List Int) (s : Int) (G : List (List Sc)) (b i : Int) (R : ROI → Prop) : Prop := (P.length = P.length ∧ (0 ≤ b ∧ b < 256) ∧ (P = [] ∨ okP P)) ∧ evsG (evts P s (cc b)) (apG G.length G.length) (apG (G.length + 1) (List.take G.length G ++ [h1G (evts P s (cc b))]).length) (apG (G.length + 1 + 1) (List.take (G.length + 1) (List.take G.length G ++ [h1G (evts P s (cc b))]) ++ [h2G (evts P s (cc b))]).length)
  (R (.next (s2G k (pend P (cc b)) (shft s (cc b)) G G.length (w64 (i + 1))) Option.none))
  (R (.next (s2G k (pend P (cc b)) (shft s (cc b)) (List.take G.length G ++ [h1G (evts P s (cc b))]) (G.length + 1) (w64 (i + 1))) Option.none))
  (R (.next (s2G k (pend P (cc b)) (shft s (cc b)) (List.take (G.length + 1) (List.take G.length G ++ [h1G (evts P s (cc b))]) ++ [h2G (evts P s (cc b))]) (G.length + 1 + 1) (w64 (i + 1))) Option.none))
theorem round_0G (k : Kp) (i : Int) (R : ROI → Prop) : (rndG k.E.length k.bs (s0G k i)).run R =
    sel (decide (i < (k.bs.length : Int))) (ix i k.bs (in0G k (k.bs.getD i.toNat 0) i R)) (R (d0G k)) := by kernel_rfl
theorem round_1G (k : Kp) (P : List Int) (s i : Int) (R : ROI → Prop) : (rndG k.E.length k.bs (s1G k P s i)).run R =
    sel (decide (i < (k.bs.length : Int))) (ix i k.bs (in1G k P s (k.bs.getD i.toNat 0) i R)) (R (d1G k P s)) := by kernel_rfl
theorem round_2G (k : Kp) (P : List Int) (s : Int) (G : List (List Sc)) (i : Int) (R : ROI → Prop) : (rndG k.E.length k.bs (s2G k P s G G.length i)).run R =
    sel (decide (i < (k.bs.length : Int))) (ix i k.bs (in2G k P s G (k.bs.getD i.toNat 0) i R)) (R (d2G k P s G G.length)) := by kernel_rfl
end Go.Proofs.Ytnhadghddkgjdaa.lxr
