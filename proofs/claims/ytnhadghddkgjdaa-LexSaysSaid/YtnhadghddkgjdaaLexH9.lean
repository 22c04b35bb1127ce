/-
  The law LexSays: its first loop.
-/
import Derived.Test.YtnhadghddkgjdaaLexH8
set_option linter.unusedVariables false
namespace Go.Proofs.Ytnhadghddkgjdaa.lxr
open Go Go.Nx Go.Proofs.Ytnhadghddkgjdaa.lex Go.Proofs.Ytnhadghddkgjdaa.lxv

noncomputable abbrev fSay := Try.f14
noncomputable def cSay : FuncId → Option Con := conOf [(23, tByteH), (31, tByteR), (30, tSame), (22, tPndZ), (32, tSmB), (28, t_shift), (29, t_all), (21, tYes)]
theorem kcSay : ∀ f T, cSay f = some T → Known Try.prog [] f T := (Knowns.cons kByteH.known (.cons kByteR.known (.cons kSame (.cons kPndZ (.cons kSmB (.cons k_shift (.cons k_all (.cons kYes .nil)))))))).get
noncomputable def XSay : Cx := { P := Try.prog, con := cSay, glob := [], m := 0, loops := [] }
noncomputable def sSay (bs P : List Int) (s : Int) (E : List (List Sc)) (i : Int) : St := { fr := frame 84 [(0, .v (.c (.l .u8 bs))), (3, .v (.c (.b true))), (4, .v (.c (.p 0 0 0))), (5, .v (.c (.p 2 0 0))), (6, .v (.c (.p 4 0 0))), (7, .v (.c (.hz 6 E.length))), (8, .v (.c (.p 7 0 0))), (9, .v (.c (.i .i64 i)))], rg := [some (lx (.hz 1 P.length) s), some (arr P), some (lx (.hz 3 0) 0), some (arr []), some (rx (.hz 5 P.length) s), some (arr P), some (evR E), cel 45 1 [.hz 8 0], some (evR [])] }
noncomputable def rndSay (st : St) : Tr RO := roundT XSay 0 [0, 3, 4, 5, 6, 7, 8, 9] [0, 2, 3, 5, 6, 7, 8] (bodyLoop fSay 0) st
noncomputable def dSay (bs P : List Int) (s : Int) (E : List (List Sc)) : St := { fr := frame 84 [(0, .v (.c (.l .u8 bs))), (3, .v (.c (.b true))), (5, .v (.c (.p 0 0 0))), (6, .v (.c (.p 2 0 0))), (7, .v (.c (.hz 4 E.length))), (8, .v (.c (.p 5 0 0)))], rg := [some (lx (.hz 1 0) 0), some (arr []), some (rx (.hz 3 P.length) s), some (arr P), some (evR E), cel 45 1 [.hz 6 0], some (evR [])] }
noncomputable def xSay (bs P : List Int) (s : Int) (E : List (List Sc)) : St := { fr := frame 84 [(0, .v (.c (.l .u8 bs))), (2, .v (.c (.b false))), (3, .v (.c (.b true))), (5, .v (.c (.p 0 0 0))), (6, .v (.c (.p 2 0 0))), (7, .v (.c (.hz 4 E.length))), (8, .v (.c (.p 5 0 0)))], rg := (dSay bs P s E).rg }
noncomputable def nSay (bs P : List Int) (s : Int) (E Y : List (List Sc)) (i : Int) : St := { fr := frame 84 [(0, .v (.c (.l .u8 bs))), (3, .v (.c (.b true))), (4, .v (.c (.p 0 0 0))), (5, .v (.c (.p 2 0 0))), (6, .v (.c (.p 4 0 0))), (7, .v (.c (.hz 6 (E.length + Y.length)))), (8, .v (.c (.p 7 0 0))), (9, .v (.c (.i .i64 i)))], rg := [some (lx (.hz 1 P.length) s), some (arr P), some (lx (.hz 3 0) 0), some (arr []), some (rx (.hz 5 P.length) s), some (arr P), some (evR (List.take E.length E ++ Y)), cel 45 1 [.hz 8 0], some (evR [])] }
def sameRg (P : List Int) (s : Int) (A : Prop) : Prop := some (lx (.hz 12 P.length) s) = some (lx (.hz 12 P.length) s) ∧ (some (arr P) = some (arr P) ∧ A)
/-- What is asked of a byte's events, of what is begun, of the shift. -/
noncomputable def askSay (bs P' : List Int) (s' : Int) (E Y : List (List Sc)) (i : Int) (R : RO → Prop) : Prop :=
  (K7 = K7 ∧ K7 = K7 ∧ Y = Y ∧ Y.length ≤ 1000) ∧ ((P'.length = P'.length ∧ P'.length ≤ 1000) ∧ sameRg P' s' (sel (decide (P'.length ≤ P'.length)) (sel (decide (P'.length ≤ P'.length))
    ((List.take P'.length P' = List.take P'.length P' ∧ (List.take P'.length P').length ≤ 1000) ∧ sameRg P' s' (sel (s' != s') (R (RO.done NExit.ret (xSay bs P' s' E)))
     (sel (decide (E.length ≤ E.length)) (sel (decide ((E.length + Y.length) * 56 ≤ 140737488355328)) (sel (decide (E.length + Y.length ≤ 9223372036854775807)) (R (RO.next (nSay bs P' s' E Y (w64 (i + 1))))) False) False) False))) False) False))
noncomputable def byteSay (bs P : List Int) (s : Int) (E : List (List Sc)) (i b : Int) (R : RO → Prop) : Prop :=
  (P.length = P.length ∧ (0 ≤ b ∧ b < 256) ∧ (P = [] ∨ okP P)) ∧ ix i bs ((P.length = P.length ∧ (0 ≤ b ∧ b < 256) ∧ (P = [] ∨ okR P)) ∧ askSay bs (pend P (cc b)) (shft s (cc b)) E (evts P s (cc b)) i R)
theorem round_say (bs P : List Int) (s : Int) (E : List (List Sc)) (i : Int) (R : RO → Prop) : (rndSay (sSay bs P s E i)).run R =
    sel (decide (i < (bs.length : Int))) (ix i bs (byteSay bs P s E i (bs.getD i.toNat 0) R)) (R (RO.done NExit.normal (dSay bs P s E))) := by kernel_rfl
end Go.Proofs.Ytnhadghddkgjdaa.lxr
