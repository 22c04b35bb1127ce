/-
  The lexer: the law LexBounds: its rounds by their roads; what is begun stays short.
-/
import Derived.Test.YtnhadghddkgjdaaLexZ
import Derived.Test.YtnhadghddkgjdaaEng27
set_option linter.unusedVariables false
namespace Go.Proofs.Ytnhadghddkgjdaa.lxv
open Go Go.Nx Go.Proofs.Ytnhadghddkgjdaa.lex

noncomputable def dBnd (ok : Bool) : St := { fr := frame 111 [(3, .v (.c (.b ok)))], rg := [] }
noncomputable def w_aOdd (bs : List Int) (ok : Bool) (s i : Int) : List RC := [.t (decide (i < ↑bs.length)), .t (decide (0 ≤ i)), .t (decide (i < ↑bs.length)), .t (decide (i.toNat < bs.length)), .m ((0 ≤ bs.getD i.toNat 0 ∧ bs.getD i.toNat 0 < 256)), .t (decide (cc (bs.getD i.toNat 0) < 32)), .f (beg (cc (bs.getD i.toNat 0))), .f (shf (cc (bs.getD i.toNat 0))), .t (decide (0 ≤ i)), .t (decide (i < ↑bs.length)), .t (decide (i.toNat < bs.length)), .t (decide (0 ≤ i)), .t (decide (i < ↑bs.length)), .t (decide (i.toNat < bs.length)), .m ((0 ≤ bs.getD i.toNat 0 ∧ bs.getD i.toNat 0 < 256)), .t (!isEv (bs.getD i.toNat 0)), .F 13, .T 3, .F 1, .T 1, .F 4, .T 2, .F 1, .T 1, .F 12, .T 2, .F 1, .T 1, .F 12]
theorem r_aOdd (bs : List Int) (ok : Bool) (s i : Int) (R : RO → Prop) : ((rndBnd (sBndA bs ok s i)).fol (scr (w_aOdd bs ok s i))).run R = road (w_aOdd bs ok s i) (R (RO.next (sBndA bs ok s (w64 (i + 1))))) := by kernel_rfl
noncomputable def w_aBeg (bs : List Int) (ok : Bool) (s i : Int) : List RC := [.t (decide (i < ↑bs.length)), .t (decide (0 ≤ i)), .t (decide (i < ↑bs.length)), .t (decide (i.toNat < bs.length)), .m ((0 ≤ bs.getD i.toNat 0 ∧ bs.getD i.toNat 0 < 256)), .t (decide (cc (bs.getD i.toNat 0) < 32)), .t (beg (cc (bs.getD i.toNat 0))), .t (decide (0 ≤ i)), .t (decide (i < ↑bs.length)), .t (decide (i.toNat < bs.length)), .t (decide (0 ≤ i)), .t (decide (i < ↑bs.length)), .t (decide (i.toNat < bs.length)), .m ((0 ≤ bs.getD i.toNat 0 ∧ bs.getD i.toNat 0 < 256)), .f (!isEv (bs.getD i.toNat 0)), .m ((1 = [cc (bs.getD i.toNat 0)].length ∧ [cc (bs.getD i.toNat 0)] ≠ [] ∧ [cc (bs.getD i.toNat 0)].length ≤ 100)), .F 13, .t (decide (cB (bs.getD i.toNat 0) < 32)), .T 2, .F 1, .T 1, .F 4, .t (decide (cB (bs.getD i.toNat 0) < 32)), .T 1, .F 1, .T 1, .F 12, .T 2, .F 1, .T 1, .F 1, .f (decide (cB (bs.getD i.toNat 0) ≥ 32)), .F 10]
theorem r_aBeg (bs : List Int) (ok : Bool) (s i : Int) (R : RO → Prop) : ((rndBnd (sBndA bs ok s i)).fol (scr (w_aBeg bs ok s i))).run R = road (w_aBeg bs ok s i) (R (RO.next (sBndB bs ok ([cc (bs.getD i.toNat 0)]) s (w64 (i + 1))))) := by kernel_rfl
noncomputable def w_aShf (bs : List Int) (ok : Bool) (s i : Int) : List RC := [.t (decide (i < ↑bs.length)), .t (decide (0 ≤ i)), .t (decide (i < ↑bs.length)), .t (decide (i.toNat < bs.length)), .m ((0 ≤ bs.getD i.toNat 0 ∧ bs.getD i.toNat 0 < 256)), .t (decide (cc (bs.getD i.toNat 0) < 32)), .f (beg (cc (bs.getD i.toNat 0))), .t (shf (cc (bs.getD i.toNat 0))), .t (decide (0 ≤ i)), .t (decide (i < ↑bs.length)), .t (decide (i.toNat < bs.length)), .t (decide (0 ≤ i)), .t (decide (i < ↑bs.length)), .t (decide (i.toNat < bs.length)), .m ((0 ≤ bs.getD i.toNat 0 ∧ bs.getD i.toNat 0 < 256)), .f (!isEv (bs.getD i.toNat 0)), .F 13, .t (decide (cB (bs.getD i.toNat 0) < 32)), .T 2, .F 1, .T 1, .F 4, .t (decide (cB (bs.getD i.toNat 0) < 32)), .T 1, .F 1, .T 1, .F 12, .T 2, .F 1, .T 1, .F 1, .f (decide (cB (bs.getD i.toNat 0) ≥ 32)), .F 10]
theorem r_aShf (bs : List Int) (ok : Bool) (s i : Int) (R : RO → Prop) : ((rndBnd (sBndA bs ok s i)).fol (scr (w_aShf bs ok s i))).run R = road (w_aShf bs ok s i) (R (RO.next (sBndA bs ok (shC (cc (bs.getD i.toNat 0))) (w64 (i + 1))))) := by kernel_rfl
noncomputable def w_aCtl (bs : List Int) (ok : Bool) (s i : Int) : List RC := [.t (decide (i < ↑bs.length)), .t (decide (0 ≤ i)), .t (decide (i < ↑bs.length)), .t (decide (i.toNat < bs.length)), .m ((0 ≤ bs.getD i.toNat 0 ∧ bs.getD i.toNat 0 < 256)), .t (decide (cc (bs.getD i.toNat 0) < 32)), .f (beg (cc (bs.getD i.toNat 0))), .f (shf (cc (bs.getD i.toNat 0))), .t (decide (0 ≤ i)), .t (decide (i < ↑bs.length)), .t (decide (i.toNat < bs.length)), .t (decide (0 ≤ i)), .t (decide (i < ↑bs.length)), .t (decide (i.toNat < bs.length)), .m ((0 ≤ bs.getD i.toNat 0 ∧ bs.getD i.toNat 0 < 256)), .f (!isEv (bs.getD i.toNat 0)), .F 13, .t (decide (cB (bs.getD i.toNat 0) < 32)), .T 2, .F 1, .T 1, .F 4, .t (decide (cB (bs.getD i.toNat 0) < 32)), .T 1, .F 1, .T 1, .F 12, .T 2, .F 1, .T 1, .F 1, .f (decide (cB (bs.getD i.toNat 0) ≥ 32)), .F 10]
theorem r_aCtl (bs : List Int) (ok : Bool) (s i : Int) (R : RO → Prop) : ((rndBnd (sBndA bs ok s i)).fol (scr (w_aCtl bs ok s i))).run R = road (w_aCtl bs ok s i) (R (RO.next (sBndA bs ok s (w64 (i + 1))))) := by kernel_rfl
noncomputable def w_aChr (bs : List Int) (ok : Bool) (s i : Int) : List RC := [.t (decide (i < ↑bs.length)), .t (decide (0 ≤ i)), .t (decide (i < ↑bs.length)), .t (decide (i.toNat < bs.length)), .m ((0 ≤ bs.getD i.toNat 0 ∧ bs.getD i.toNat 0 < 256)), .f (decide (cc (bs.getD i.toNat 0) < 32)), .t (decide (0 ≤ i)), .t (decide (i < ↑bs.length)), .t (decide (i.toNat < bs.length)), .t (decide (0 ≤ i)), .t (decide (i < ↑bs.length)), .t (decide (i.toNat < bs.length)), .m ((0 ≤ bs.getD i.toNat 0 ∧ bs.getD i.toNat 0 < 256)), .f (!isEv (bs.getD i.toNat 0)), .F 13, .f (decide (cB (bs.getD i.toNat 0) < 32)), .F 8, .f (decide (cB (bs.getD i.toNat 0) < 32)), .F 15, .T 2, .F 1, .T 1, .F 1, .t (decide (cB (bs.getD i.toNat 0) ≥ 32)), .T 3, .F 2, .T 2, .F 2, .T 1, .F 1, .T 1, .F 1, .T 1, .F 3, .T 1, .F 2, .T 1, .F 2]
theorem r_aChr (bs : List Int) (ok : Bool) (s i : Int) (R : RO → Prop) : ((rndBnd (sBndA bs ok s i)).fol (scr (w_aChr bs ok s i))).run R = road (w_aChr bs ok s i) (R (RO.next (sBndA bs ok s (w64 (i + 1))))) := by kernel_rfl
noncomputable def w_aEnd (bs : List Int) (ok : Bool) (s i : Int) : List RC := [.f (decide (i < ↑bs.length))]
theorem r_aEnd (bs : List Int) (ok : Bool) (s i : Int) (R : RO → Prop) : ((rndBnd (sBndA bs ok s i)).fol (scr (w_aEnd bs ok s i))).run R = road (w_aEnd bs ok s i) (R (RO.done NExit.normal (dBnd ok))) := by kernel_rfl
noncomputable def w_bOdd (bs P : List Int) (ok : Bool) (s i : Int) : List RC := [.t (decide (i < ↑bs.length)), .m ((P.length = P.length ∧ P ≠ [] ∧ P.length ≤ 100)), .t (decide (0 ≤ i)), .t (decide (i < ↑bs.length)), .t (decide (i.toNat < bs.length)), .m ((P.length = P.length ∧ (0 ≤ bs.getD i.toNat 0 ∧ bs.getD i.toNat 0 < 256) ∧ okP P)), .t (decide (cc (bs.getD i.toNat 0) < 32)), .f (beg (cc (bs.getD i.toNat 0))), .f (shf (cc (bs.getD i.toNat 0))), .t (decide (0 ≤ i)), .t (decide (i < ↑bs.length)), .t (decide (i.toNat < bs.length)), .t (decide (0 ≤ i)), .t (decide (i < ↑bs.length)), .t (decide (i.toNat < bs.length)), .m ((0 ≤ bs.getD i.toNat 0 ∧ bs.getD i.toNat 0 < 256)), .t (!isEv (bs.getD i.toNat 0)), .F 10, .f (decide (0 > IntKind.i64.wrap ((P.length : Int) + 1))), .F 2, .T 3, .F 1, .T 1, .F 4, .T 2, .F 1, .T 1, .F 1, .t (decide ((P.length : Int) > 0)), .T 3, .F 2, .T 2, .F 2, .T 1, .F 1, .T 1, .F 2, .T 1, .F 4, .f ((P.length : Int) == 0), .F 15]
theorem r_bOdd (bs P : List Int) (ok : Bool) (s i : Int) (R : RO → Prop) : ((rndBnd (sBndB bs ok P s i)).fol (scr (w_bOdd bs P ok s i))).run R = road (w_bOdd bs P ok s i) (R (RO.next (sBndA bs ok s (w64 (i + 1))))) := by kernel_rfl
noncomputable def w_bBeg (bs P : List Int) (ok : Bool) (s i : Int) : List RC := [.t (decide (i < ↑bs.length)), .m ((P.length = P.length ∧ P ≠ [] ∧ P.length ≤ 100)), .t (decide (0 ≤ i)), .t (decide (i < ↑bs.length)), .t (decide (i.toNat < bs.length)), .m ((P.length = P.length ∧ (0 ≤ bs.getD i.toNat 0 ∧ bs.getD i.toNat 0 < 256) ∧ okP P)), .t (decide (cc (bs.getD i.toNat 0) < 32)), .t (beg (cc (bs.getD i.toNat 0))), .t (decide (0 ≤ i)), .t (decide (i < ↑bs.length)), .t (decide (i.toNat < bs.length)), .t (decide (0 ≤ i)), .t (decide (i < ↑bs.length)), .t (decide (i.toNat < bs.length)), .m ((0 ≤ bs.getD i.toNat 0 ∧ bs.getD i.toNat 0 < 256)), .f (!isEv (bs.getD i.toNat 0)), .m ((1 = [cc (bs.getD i.toNat 0)].length ∧ [cc (bs.getD i.toNat 0)] ≠ [] ∧ [cc (bs.getD i.toNat 0)].length ≤ 100)), .F 10, .f (decide (([cc (bs.getD i.toNat 0)].length : Int) > IntKind.i64.wrap ((P.length : Int) + 1))), .F 2, .t (decide (cB (bs.getD i.toNat 0) < 32)), .T 2, .F 1, .T 1, .F 4, .t (decide (cB (bs.getD i.toNat 0) < 32)), .T 1, .F 1, .T 1, .F 1, .t (decide ((P.length : Int) > 0)), .T 3, .F 2, .T 2, .F 2, .T 1, .F 1, .T 1, .F 2, .T 1, .F 4, .f ((P.length : Int) == 0), .F 15]
theorem r_bBeg (bs P : List Int) (ok : Bool) (s i : Int) (R : RO → Prop) : ((rndBnd (sBndB bs ok P s i)).fol (scr (w_bBeg bs P ok s i))).run R = road (w_bBeg bs P ok s i) (R (RO.next (sBndB bs ok ([cc (bs.getD i.toNat 0)]) s (w64 (i + 1))))) := by kernel_rfl
noncomputable def w_bShf (bs P : List Int) (ok : Bool) (s i : Int) : List RC := [.t (decide (i < ↑bs.length)), .m ((P.length = P.length ∧ P ≠ [] ∧ P.length ≤ 100)), .t (decide (0 ≤ i)), .t (decide (i < ↑bs.length)), .t (decide (i.toNat < bs.length)), .m ((P.length = P.length ∧ (0 ≤ bs.getD i.toNat 0 ∧ bs.getD i.toNat 0 < 256) ∧ okP P)), .t (decide (cc (bs.getD i.toNat 0) < 32)), .f (beg (cc (bs.getD i.toNat 0))), .t (shf (cc (bs.getD i.toNat 0))), .t (decide (0 ≤ i)), .t (decide (i < ↑bs.length)), .t (decide (i.toNat < bs.length)), .t (decide (0 ≤ i)), .t (decide (i < ↑bs.length)), .t (decide (i.toNat < bs.length)), .m ((0 ≤ bs.getD i.toNat 0 ∧ bs.getD i.toNat 0 < 256)), .f (!isEv (bs.getD i.toNat 0)), .F 10, .f (decide (0 > IntKind.i64.wrap ((P.length : Int) + 1))), .F 2, .t (decide (cB (bs.getD i.toNat 0) < 32)), .T 2, .F 1, .T 1, .F 4, .t (decide (cB (bs.getD i.toNat 0) < 32)), .T 1, .F 1, .T 1, .F 1, .t (decide ((P.length : Int) > 0)), .T 3, .F 2, .T 2, .F 2, .T 1, .F 1, .T 1, .F 2, .T 1, .F 4, .f ((P.length : Int) == 0), .F 15]
theorem r_bShf (bs P : List Int) (ok : Bool) (s i : Int) (R : RO → Prop) : ((rndBnd (sBndB bs ok P s i)).fol (scr (w_bShf bs P ok s i))).run R = road (w_bShf bs P ok s i) (R (RO.next (sBndA bs ok (shC (cc (bs.getD i.toNat 0))) (w64 (i + 1))))) := by kernel_rfl
noncomputable def w_bCtl (bs P : List Int) (ok : Bool) (s i : Int) : List RC := [.t (decide (i < ↑bs.length)), .m ((P.length = P.length ∧ P ≠ [] ∧ P.length ≤ 100)), .t (decide (0 ≤ i)), .t (decide (i < ↑bs.length)), .t (decide (i.toNat < bs.length)), .m ((P.length = P.length ∧ (0 ≤ bs.getD i.toNat 0 ∧ bs.getD i.toNat 0 < 256) ∧ okP P)), .t (decide (cc (bs.getD i.toNat 0) < 32)), .f (beg (cc (bs.getD i.toNat 0))), .f (shf (cc (bs.getD i.toNat 0))), .t (decide (0 ≤ i)), .t (decide (i < ↑bs.length)), .t (decide (i.toNat < bs.length)), .t (decide (0 ≤ i)), .t (decide (i < ↑bs.length)), .t (decide (i.toNat < bs.length)), .m ((0 ≤ bs.getD i.toNat 0 ∧ bs.getD i.toNat 0 < 256)), .f (!isEv (bs.getD i.toNat 0)), .F 10, .f (decide (0 > IntKind.i64.wrap ((P.length : Int) + 1))), .F 2, .t (decide (cB (bs.getD i.toNat 0) < 32)), .T 2, .F 1, .T 1, .F 4, .t (decide (cB (bs.getD i.toNat 0) < 32)), .T 1, .F 1, .T 1, .F 1, .t (decide ((P.length : Int) > 0)), .T 3, .F 2, .T 2, .F 2, .T 1, .F 1, .T 1, .F 2, .T 1, .F 4, .f ((P.length : Int) == 0), .F 15]
theorem r_bCtl (bs P : List Int) (ok : Bool) (s i : Int) (R : RO → Prop) : ((rndBnd (sBndB bs ok P s i)).fol (scr (w_bCtl bs P ok s i))).run R = road (w_bCtl bs P ok s i) (R (RO.next (sBndA bs ok s (w64 (i + 1))))) := by kernel_rfl
noncomputable def w_bGo (bs P : List Int) (ok : Bool) (s i : Int) : List RC := [.t (decide (i < ↑bs.length)), .m ((P.length = P.length ∧ P ≠ [] ∧ P.length ≤ 100)), .t (decide (0 ≤ i)), .t (decide (i < ↑bs.length)), .t (decide (i.toNat < bs.length)), .m ((P.length = P.length ∧ (0 ≤ bs.getD i.toNat 0 ∧ bs.getD i.toNat 0 < 256) ∧ okP P)), .f (decide (cc (bs.getD i.toNat 0) < 32)), .t (goOn P (cc (bs.getD i.toNat 0))), .t (decide (0 ≤ i)), .t (decide (i < ↑bs.length)), .t (decide (i.toNat < bs.length)), .t (decide (0 ≤ i)), .t (decide (i < ↑bs.length)), .t (decide (i.toNat < bs.length)), .m ((0 ≤ bs.getD i.toNat 0 ∧ bs.getD i.toNat 0 < 256)), .f (!isEv (bs.getD i.toNat 0)), .m (((P ++ [cc (bs.getD i.toNat 0)]).length = (P ++ [cc (bs.getD i.toNat 0)]).length ∧ P ++ [cc (bs.getD i.toNat 0)] ≠ [] ∧ (P ++ [cc (bs.getD i.toNat 0)]).length ≤ 100)), .f (decide (((P ++ [cc (bs.getD i.toNat 0)]).length : Int) > 15)), .F 9, .f (decide (((P ++ [cc (bs.getD i.toNat 0)]).length : Int) > IntKind.i64.wrap ((P.length : Int) + 1))), .F 2, .f (decide (cB (bs.getD i.toNat 0) < 32)), .F 8, .f (decide (cB (bs.getD i.toNat 0) < 32)), .F 15, .f ((P.length : Int) == 0), .F 15]
theorem r_bGo (bs P : List Int) (ok : Bool) (s i : Int) (R : RO → Prop) : ((rndBnd (sBndB bs ok P s i)).fol (scr (w_bGo bs P ok s i))).run R = road (w_bGo bs P ok s i) (R (RO.next (sBndB bs ok (P ++ [cc (bs.getD i.toNat 0)]) s (w64 (i + 1))))) := by kernel_rfl
noncomputable def w_bEnds (bs P : List Int) (ok : Bool) (s i : Int) : List RC := [.t (decide (i < ↑bs.length)), .m ((P.length = P.length ∧ P ≠ [] ∧ P.length ≤ 100)), .t (decide (0 ≤ i)), .t (decide (i < ↑bs.length)), .t (decide (i.toNat < bs.length)), .m ((P.length = P.length ∧ (0 ≤ bs.getD i.toNat 0 ∧ bs.getD i.toNat 0 < 256) ∧ okP P)), .f (decide (cc (bs.getD i.toNat 0) < 32)), .f (goOn P (cc (bs.getD i.toNat 0))), .t (decide (0 ≤ i)), .t (decide (i < ↑bs.length)), .t (decide (i.toNat < bs.length)), .t (decide (0 ≤ i)), .t (decide (i < ↑bs.length)), .t (decide (i.toNat < bs.length)), .m ((0 ≤ bs.getD i.toNat 0 ∧ bs.getD i.toNat 0 < 256)), .f (!isEv (bs.getD i.toNat 0)), .F 10, .f (decide (0 > IntKind.i64.wrap ((P.length : Int) + 1))), .F 2, .f (decide (cB (bs.getD i.toNat 0) < 32)), .F 8, .f (decide (cB (bs.getD i.toNat 0) < 32)), .F 15, .f ((P.length : Int) == 0), .F 15]
theorem r_bEnds (bs P : List Int) (ok : Bool) (s i : Int) (R : RO → Prop) : ((rndBnd (sBndB bs ok P s i)).fol (scr (w_bEnds bs P ok s i))).run R = road (w_bEnds bs P ok s i) (R (RO.next (sBndA bs ok s (w64 (i + 1))))) := by kernel_rfl
noncomputable def w_bEnd (bs P : List Int) (ok : Bool) (s i : Int) : List RC := [.f (decide (i < ↑bs.length))]
theorem r_bEnd (bs P : List Int) (ok : Bool) (s i : Int) (R : RO → Prop) : ((rndBnd (sBndB bs ok P s i)).fol (scr (w_bEnd bs P ok s i))).run R = road (w_bEnd bs P ok s i) (R (RO.done NExit.normal (dBnd ok))) := by kernel_rfl

theorem getD_app0 {P : List Int} {c : Int} (h : P ≠ []) : (P ++ [c]).getD 0 0 = P.getD 0 0 := by
  cases P with
  | nil => exact (h rfl).elim
  | cons a t => rfl
theorem getD_app1 {P : List Int} {c : Int} (h : 1 < P.length) : (P ++ [c]).getD 1 0 = P.getD 1 0 := by
  match P, h with
  | _ :: _ :: _, _ => rfl
theorem escGo_len {P : List Int} {c : Int} (hl : P.length ≤ 15) (hask : 1 < P.length → 57 ≤ P.getD 1 0 → P.getD 1 0 ≤ 59 → askOk P) (h : escGo P c = true) : P.length < 15 := by
  unfold escGo at h
  by_cases h91 : 1 < P.length ∧ P.getD 1 0 = 91
  · rw [dT h91] at h
    have h : seqGo P c = true := h
    unfold seqGo at h
    have := of_decide_eq_true h
    omega
  · rw [dF h91] at h
    by_cases ha : 1 < P.length ∧ 57 ≤ P.getD 1 0 ∧ P.getD 1 0 ≤ 59
    · obtain ⟨p, r, t, hP⟩ := hask ha.1 ha.2.1 ha.2.2
      rcases hP with rfl | rfl | rfl | rfl | rfl | rfl <;> simp
    · rw [dF ha] at h
      have := of_decide_eq_true h
      omega
theorem go_ok {P : List Int} {c : Int} (hP : okP P) (hl : P.length ≤ 15) (hc : 0 ≤ c ∧ c < 256) (h : goOn P c = true) : okP (P ++ [c]) ∧ (P ++ [c]).length ≤ 15 := by
  obtain ⟨hne, h50, hin, hask⟩ := hP
  have hpos := List.length_pos_iff.2 hne
  have h18 : P.getD 0 0 ≠ 18 := fun e => by unfold goOn at h; rw [if_pos e] at h; cases h
  have hlen : P.length < 15 := by
    unfold goOn at h
    rw [if_neg h18] at h
    by_cases h25 : P.getD 0 0 = 25
    · rw [if_pos h25] at h
      unfold signGo at h
      simp only [Bool.and_eq_true, decide_eq_true_eq] at h
      omega
    rw [if_neg h25] at h
    by_cases h31 : P.getD 0 0 = 31
    · rw [if_pos h31] at h
      unfold placeGo at h
      simp only [decide_eq_true_eq] at h
      omega
    rw [if_neg h31] at h
    exact escGo_len hl (fun a b c => hask a h18 h25 h31 b c) h
  refine ⟨⟨by simp, by simp; omega, ?_, ?_⟩, by simp; omega⟩
  · intro x hx
    rcases List.mem_append.1 hx with hx | hx
    · exact hin x hx
    · rw [List.mem_singleton] at hx; subst hx; exact hc
  · rw [getD_app0 hne]
    intro h1 _ h25 h31 ha hb
    by_cases h1l : 1 < P.length
    · rw [getD_app1 h1l] at ha hb
      have hg : escGo P c = true := by unfold goOn at h; rw [if_neg h18, if_neg h25, if_neg h31] at h; exact h
      unfold escGo at hg
      rw [dF (fun e => by have := e.2; omega), dT ⟨h1l, ha, hb⟩] at hg
      have hg : askGo P = true := hg
      unfold askGo at hg
      have hg := of_decide_eq_true hg
      obtain ⟨p, r, t, hP⟩ := hask h1l h18 h25 h31 ha hb
      rcases hP with rfl | rfl | rfl | rfl | rfl | rfl
      · exact absurd hg (show ¬ ((2 : Nat) : Int) - 1 < 57 - 56 by decide)
      · exact ⟨p, c, 0, .inr (.inr (.inl rfl))⟩
      · exact absurd hg (show ¬ ((3 : Nat) : Int) - 1 < 58 - 56 by decide)
      · exact ⟨p, c, 0, .inr (.inr (.inr (.inr (.inl rfl))))⟩
      · exact ⟨p, r, c, .inr (.inr (.inr (.inr (.inr rfl))))⟩
      · exact absurd hg (show ¬ ((4 : Nat) : Int) - 1 < 59 - 56 by decide)
    · match P, hpos, h1l with
      | [p], _, _ =>
        have ha : 57 ≤ c := ha
        have hb : c ≤ 59 := hb
        have : c = 57 ∨ c = 58 ∨ c = 59 := by omega
        rcases this with rfl | rfl | rfl
        · exact ⟨p, 0, 0, .inl rfl⟩
        · exact ⟨p, 0, 0, .inr (.inl rfl)⟩
        · exact ⟨p, 0, 0, .inr (.inr (.inr (.inl rfl)))⟩
      | _ :: _ :: _, _, h => exact absurd h (by simp)
theorem beg_ok {c : Int} (hc : 0 ≤ c ∧ c < 256) : okP [c] := ⟨by simp, by simp, fun x hx => by rw [List.mem_singleton] at hx; subst hx; exact hc, fun h => by simp at h⟩

/-! ### the loop -/
structure AB where
  bs : List Int
  ok : Bool
  P : List Int
  s : Int
  i : Int
noncomputable def hBnd (a : AB) : St := match a.P with
  | [] => sBndA a.bs a.ok a.s a.i
  | _ :: _ => sBndB a.bs a.ok a.P a.s a.i
def inBnd (a : AB) : Prop := 0 ≤ a.i ∧ a.i ≤ (a.bs.length : Int) ∧ a.bs.length ≤ 200 ∧ InBytes a.bs ∧ a.P.length ≤ 15 ∧ (a.P = [] ∨ okP a.P)
def preBnd (a : AB) (R : NExit × St → Prop) : Prop := inBnd a ∧ R (.normal, dBnd a.ok)
theorem hBnd_nil {bs : List Int} {ok : Bool} {s i : Int} : hBnd ⟨bs, ok, [], s, i⟩ = sBndA bs ok s i := rfl
theorem hBnd_cons {bs : List Int} {ok : Bool} {P : List Int} {s i : Int} (h : P ≠ []) : hBnd ⟨bs, ok, P, s, i⟩ = sBndB bs ok P s i := by
  cases P with
  | nil => exact (h rfl).elim
  | cons a t => rfl
noncomputable def lBnd : List Leaf × List (List Leaf) → Tr (NExit × St) := fun x => match x with
  | ([.l bs, .b ok, .i i], [[.i s]]) => .must (inBnd ⟨bs, ok, [], s, i⟩) (.ret (.normal, dBnd ok))
  | _ => .fail
noncomputable def pBnd : List Pat := pats 111 [(0, .l .u8), (3, .b), (4, .p 0 0 0), (5, .i .i64)]
def rBnd : List RPat := [.cells 2 43 [.sn, .i .i64]]
def nxt (a : AB) (R : NExit × St → Prop) (o : RO) : Prop := match o with
  | .next s => ∃ y, s = hBnd y ∧ ((y.bs.length : Int) - y.i).toNat < ((a.bs.length : Int) - a.i).toNat ∧ preBnd y R
  | .done e s => R (e, s)
theorem nxt_in {a : AB} {R : NExit × St → Prop} {P : List Int} {s : Int} (h : preBnd a R) (hlt : a.i < (a.bs.length : Int)) (hP : P.length ≤ 15) (hok : P = [] ∨ okP P) : nxt a R (RO.next (hBnd ⟨a.bs, a.ok, P, s, w64 (a.i + 1)⟩)) := by
  obtain ⟨⟨h0, hle, h200, hb, -, -⟩, hR⟩ := h
  have hw : w64 (a.i + 1) = a.i + 1 := by unfold w64; rw [IntKind.wrap_i64]; omega
  refine ⟨_, rfl, ?_, ⟨?_, ?_, h200, hb, hP, hok⟩, hR⟩
  · simp only [hw]; omega
  · show 0 ≤ w64 (a.i + 1); rw [hw]; omega
  · show w64 (a.i + 1) ≤ (a.bs.length : Int); rw [hw]; omega
theorem cc_odd {b : Int} (h : isEv b = false) : cc b = 26 := by unfold cc; rw [h]; rfl
theorem cc_ev {b : Int} (h : isEv b = true) : cc b = cB b := by unfold cc; rw [h]; rfl
theorem nT {b : Bool} (h : b = false) : (!b) = true := by rw [h]; rfl
theorem nF' {b : Bool} (h : b = true) : (!b) = false := by rw [h]; rfl
set_option maxRecDepth 100000 in
theorem round_bnd (a : AB) (R : NExit × St → Prop) (h : preBnd a R) : (rndBnd (hBnd a)).run (nxt a R) := by
  obtain ⟨bs, ok, P, s, i⟩ := a
  have hpre := h
  obtain ⟨⟨h0, hle, h200, hb, h15, hP⟩, hR⟩ := h
  simp only at h0 hle h200 hb h15 hP
  by_cases hlt : i < (bs.length : Int)
  · have hj : i.toNat < bs.length := by omega
    have hX : 0 ≤ bs.getD i.toNat 0 ∧ bs.getD i.toNat 0 < 256 := by
      rw [List.getD_eq_getElem?_getD, List.getElem?_eq_getElem hj]
      exact hb _ (List.getElem_mem hj)
    have hcc := cc_of hX
    have n1 : ∀ {P' : List Int} {s' : Int}, P'.length ≤ 15 → (P' = [] ∨ okP P') → nxt ⟨bs, ok, P, s, i⟩ R (RO.next (hBnd ⟨bs, ok, P', s', w64 (i + 1)⟩)) := fun h1 h2 => nxt_in hpre hlt h1 h2
    have nA : ∀ s', nxt ⟨bs, ok, P, s, i⟩ R (RO.next (sBndA bs ok s' (w64 (i + 1)))) := fun s' => n1 (P' := []) (by simp) (.inl rfl)
    have nB : ∀ {P' : List Int}, P'.length ≤ 15 → okP P' → nxt ⟨bs, ok, P, s, i⟩ R (RO.next (sBndB bs ok P' s (w64 (i + 1)))) := fun {P'} h1 h2 => by
      have := n1 (s' := s) h1 (.inr h2)
      rw [hBnd_cons h2.1] at this
      exact this
    have dlt := dT hlt
    have d0 := dT h0
    have dj := dT hj
    have bc : ∀ c, okP [c] → ([c].length = [c].length ∧ [c] ≠ [] ∧ [c].length ≤ 100) := fun c h => ⟨rfl, h.1, by simp⟩
    cases hev : isEv (bs.getD i.toNat 0) with
    | false =>
      have ec := cc_odd hev
      have e32 : decide (cc (bs.getD i.toNat 0) < 32) = true := by rw [ec]; rfl
      have eb : beg (cc (bs.getD i.toNat 0)) = false := by rw [ec]; rfl
      have es : shf (cc (bs.getD i.toNat 0)) = false := by rw [ec]; rfl
      have en := nT hev
      rcases hP with rfl | hP
      · refine by_road (r_aOdd bs ok s i _) ?_ (nA s)
        exact ⟨dlt, d0, dlt, dj, hX, e32, eb, es, d0, dlt, dj, d0, dlt, dj, hX, en, trivial⟩
      · rw [hBnd_cons hP.1]
        have hw : IntKind.i64.wrap ((P.length : Int) + 1) = P.length + 1 := by rw [IntKind.wrap_i64]; omega
        have hpos := List.length_pos_iff.2 hP.1
        have c1 : P.length = P.length ∧ P ≠ [] ∧ P.length ≤ 100 := ⟨rfl, hP.1, by omega⟩
        have c2 : P.length = P.length ∧ (0 ≤ bs.getD i.toNat 0 ∧ bs.getD i.toNat 0 < 256) ∧ okP P := ⟨rfl, hX, hP⟩
        have c3 : decide (0 > IntKind.i64.wrap ((P.length : Int) + 1)) = false := dF (by omega)
        have c4 : ((P.length : Int) == 0) = false := bF (by omega)
        have c5 : decide ((P.length : Int) > 0) = true := dT (by omega)
        refine by_road (r_bOdd bs P ok s i _) ?_ (nA s)
        exact ⟨dlt, c1, d0, dlt, dj, c2, e32, eb, es, d0, dlt, dj, d0, dlt, dj, hX, en, c3, c5, c4, trivial⟩
    | true =>
      have ec := cc_ev hev
      have en := nF' hev
      have hcB := cB_of hX
      rcases hP with rfl | hP
      · by_cases h32 : cc (bs.getD i.toNat 0) < 32
        · have e32 := dT h32
          have k32 : decide (cB (bs.getD i.toNat 0) < 32) = true := by rw [← ec]; exact e32
          have k33 : decide (cB (bs.getD i.toNat 0) ≥ 32) = false := dF (by rw [← ec]; omega)
          cases eb : beg (cc (bs.getD i.toNat 0)) with
          | true =>
            have ho := beg_ok (c := cc (bs.getD i.toNat 0)) (by omega)
            have c6 := bc _ ho
            refine by_road (r_aBeg bs ok s i _) ?_ (nB (by simp) ho)
            exact ⟨dlt, d0, dlt, dj, hX, e32, eb, d0, dlt, dj, d0, dlt, dj, hX, en, c6, k32, k32, k33, trivial⟩
          | false =>
            cases es : shf (cc (bs.getD i.toNat 0)) with
            | true =>
              refine by_road (r_aShf bs ok s i _) ?_ (nA _)
              exact ⟨dlt, d0, dlt, dj, hX, e32, eb, es, d0, dlt, dj, d0, dlt, dj, hX, en, k32, k32, k33, trivial⟩
            | false =>
              refine by_road (r_aCtl bs ok s i _) ?_ (nA s)
              exact ⟨dlt, d0, dlt, dj, hX, e32, eb, es, d0, dlt, dj, d0, dlt, dj, hX, en, k32, k32, k33, trivial⟩
        · have e32 := dF h32
          have k32 : decide (cB (bs.getD i.toNat 0) < 32) = false := by rw [← ec]; exact e32
          have k33 : decide (cB (bs.getD i.toNat 0) ≥ 32) = true := dT (by rw [← ec]; omega)
          refine by_road (r_aChr bs ok s i _) ?_ (nA s)
          exact ⟨dlt, d0, dlt, dj, hX, e32, d0, dlt, dj, d0, dlt, dj, hX, en, k32, k32, k33, trivial⟩
      · rw [hBnd_cons hP.1]
        have hw : IntKind.i64.wrap ((P.length : Int) + 1) = P.length + 1 := by rw [IntKind.wrap_i64]; omega
        have hpos := List.length_pos_iff.2 hP.1
        have c1 : P.length = P.length ∧ P ≠ [] ∧ P.length ≤ 100 := ⟨rfl, hP.1, by omega⟩
        have c2 : P.length = P.length ∧ (0 ≤ bs.getD i.toNat 0 ∧ bs.getD i.toNat 0 < 256) ∧ okP P := ⟨rfl, hX, hP⟩
        have c3 : decide (0 > IntKind.i64.wrap ((P.length : Int) + 1)) = false := dF (by omega)
        have c4 : ((P.length : Int) == 0) = false := bF (by omega)
        have c5 : decide ((P.length : Int) > 0) = true := dT (by omega)
        by_cases h32 : cc (bs.getD i.toNat 0) < 32
        · have e32 := dT h32
          have k32 : decide (cB (bs.getD i.toNat 0) < 32) = true := by rw [← ec]; exact e32
          have k33 : decide (cB (bs.getD i.toNat 0) ≥ 32) = false := dF (by rw [← ec]; omega)
          cases eb : beg (cc (bs.getD i.toNat 0)) with
          | true =>
            have ho := beg_ok (c := cc (bs.getD i.toNat 0)) (by omega)
            have c6 := bc _ ho
            have c7 : decide (([cc (bs.getD i.toNat 0)].length : Int) > IntKind.i64.wrap ((P.length : Int) + 1)) = false := dF (by simp only [List.length_singleton]; omega)
            refine by_road (r_bBeg bs P ok s i _) ?_ (nB (by simp) ho)
            exact ⟨dlt, c1, d0, dlt, dj, c2, e32, eb, d0, dlt, dj, d0, dlt, dj, hX, en, c6, c7, k32, k32, c5, c4, trivial⟩
          | false =>
            cases es : shf (cc (bs.getD i.toNat 0)) with
            | true =>
              refine by_road (r_bShf bs P ok s i _) ?_ (nA _)
              exact ⟨dlt, c1, d0, dlt, dj, c2, e32, eb, es, d0, dlt, dj, d0, dlt, dj, hX, en, c3, k32, k32, c5, c4, trivial⟩
            | false =>
              refine by_road (r_bCtl bs P ok s i _) ?_ (nA s)
              exact ⟨dlt, c1, d0, dlt, dj, c2, e32, eb, es, d0, dlt, dj, d0, dlt, dj, hX, en, c3, k32, k32, c5, c4, trivial⟩
        · have e32 := dF h32
          have k32 : decide (cB (bs.getD i.toNat 0) < 32) = false := by rw [← ec]; exact e32
          have k33 : decide (cB (bs.getD i.toNat 0) ≥ 32) = true := dT (by rw [← ec]; omega)
          cases eg : goOn P (cc (bs.getD i.toNat 0)) with
          | true =>
            obtain ⟨ho, hl⟩ := go_ok hP h15 (c := cc (bs.getD i.toNat 0)) (by omega) eg
            have c6 : (P ++ [cc (bs.getD i.toNat 0)]).length = (P ++ [cc (bs.getD i.toNat 0)]).length ∧ P ++ [cc (bs.getD i.toNat 0)] ≠ [] ∧ (P ++ [cc (bs.getD i.toNat 0)]).length ≤ 100 := ⟨rfl, by simp, by omega⟩
            have c7 : decide (((P ++ [cc (bs.getD i.toNat 0)]).length : Int) > 15) = false := dF (by omega)
            have c8 : decide (((P ++ [cc (bs.getD i.toNat 0)]).length : Int) > IntKind.i64.wrap ((P.length : Int) + 1)) = false := dF (by rw [hw, List.length_append]; simp)
            refine by_road (r_bGo bs P ok s i _) ?_ (nB hl ho)
            exact ⟨dlt, c1, d0, dlt, dj, c2, e32, eg, d0, dlt, dj, d0, dlt, dj, hX, en, c6, c7, c8, k32, k32, c4, trivial⟩
          | false =>
            refine by_road (r_bEnds bs P ok s i _) ?_ (nA s)
            exact ⟨dlt, c1, d0, dlt, dj, c2, e32, eg, d0, dlt, dj, d0, dlt, dj, hX, en, c3, k32, k32, c4, trivial⟩
  · have hlt' := dF hlt
    rcases hP with rfl | hP
    · exact by_road (r_aEnd bs ok s i _) ⟨hlt', trivial⟩ hR
    · rw [hBnd_cons hP.1]
      exact by_road (r_bEnd bs P ok s i _) ⟨hlt', trivial⟩ hR
end Go.Proofs.Ytnhadghddkgjdaa.lxv
