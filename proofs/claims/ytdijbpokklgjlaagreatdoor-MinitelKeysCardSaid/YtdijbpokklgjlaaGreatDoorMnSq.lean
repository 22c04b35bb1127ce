/-
  The law MinitelSocket.
-/
import Derived.Test.YtdijbpokklgjlaaGreatDoorMnSp
import Derived.Test.YtdijbpokklgjlaaGreatDoorMnAo
set_option linter.unusedVariables false
namespace Go.Proofs.YtdijbpokklgjlaaGreatDoor.mtl
open Go Go.Nx Go.Proofs.YtdijbpokklgjlaaGreatDoor.prt
open Go.Proofs.YtdijbpokklgjlaaGreatDoor.lex (arr lx InBytes mkEv K7 kMake)
open Go.Proofs.YtdijbpokklgjlaaGreatDoor.scr (Scr Ev eventS rollsS Ins newS gridG)

theorem LAll_two {X : Cx} {c : Code} {i1 i2 : Nat} {b1 b2 : Code} {l1 l2 : List Nat} {L1 L2 : St → Tr (NExit × St)} (hl : loopsIn c = [(i1, b1), (i2, b2)]) (hx : X.loops = [(i1, l1, L1), (i2, l2, L2)]) (hne : i1 ≠ i2)
    (h1 : LOk X.P X.glob X.m i1 b1 L1) (h2 : LOk X.P X.glob X.m i2 b2 L2) (hr : rangesIn c = [] := by kernel_rfl) : LAll X c :=
  LAll.list hl (hr := hr) fun p hp x hf => by
    rw [hx] at hf
    simp only [List.mem_cons, List.not_mem_nil, or_false] at hp
    rcases hp with rfl | rfl
    · simp at hf; subst hf; exact h1
    · simp [hne] at hf; subst hf; exact h2
noncomputable def t_so : Con := fun args regs => if regs.length = 0 then nfun Tryz.prog [] c_so [(0, [0, 1, 2, 7, 8, 11, 12], canonL [(11, arr [])] [] 0 [0, 1, 2, 7, 8, 11, 12] l_so), (2, [0, 1, 2, 7, 8, 11, 14, 15], l_sg)] f_so args regs else .fail
theorem k_so : Known Tryz.prog [] 5 t_so := known_loops 0 Tryz.func5 rfl (by kernel_rfl) mixed kc_so
  (LAll_two (by kernel_rfl) rfl (by decide) (loop_so.canon [(11, arr [])] [] [0, 1, 2, 7, 8, 11, 12]) loop_sg)
def bytesN (O : List Int) (N : Prop) : Prop := sel (decide (O.length ≤ O.length)) (List.take O.length O = [] ∧ N) False
noncomputable def tailT (M : Mn) (w : List Int) (R : Out → Prop) : Prop := qJ 2 M (bytesR M.o2 w (qJ 3 M (R (bO1 ((M.o3.length : Int) == 0)))))
noncomputable def tailF (M : Mn) (R : Out → Prop) : Prop := qJ 2 M (bytesN M.o2 (qJ 3 M (R (bO1 ((M.o3.length : Int) == 0)))))
noncomputable def gridR (x y : Bool) (text : List Int) (M : Mn) (N : Prop) : Prop := lensR M ∧ (s_sg (nrm M) text x y (wS text) (gridM M) 0 = s_sg (endM x y text) text x y (wS text) (gridM (endM x y text)) 0 ∧ tx30 text ∧ gridOk x text (gridM (endM x y text))) ∧ N
noncomputable def loopsR (x y : Bool) (text : List Int) (M : Mn) (N : Prop) : Prop := (s_so M text x y [] 0 0 = s_so (SM (pXY x y) newS []) text x y [] 0 0 ∧ tx30 text) ∧ gridR x y text (endM x y text) N
def capR (N : Prop) : Prop := ((1 : Int) ≤ 1000 ∧ (1000 : Int) ≤ 4096) ∧ N
theorem so_FF (text : List Int) (R : Out → Prop) : (t_so [.c (.l .u8 text), .c (.b false), .c (.b false)] []).run R =
    sel (decide ((text.length : Int) > 30)) (R yesO) (capR (qJ 2 (newM 1000) (loopsR false false text (takeM 2 (nrm (newM 1000))) (tailF (endM false false text) R)))) := by kernel_rfl
theorem so_TF (text : List Int) (R : Out → Prop) : (t_so [.c (.l .u8 text), .c (.b true), .c (.b false)] []).run R =
    sel (decide ((text.length : Int) > 30)) (R yesO) (capR (mdRs (askS 88) (newM 1000) fun M => qJ 2 M (loopsR true false text (takeM 2 (nrm M)) (tailF (endM true false text) R)))) := by kernel_rfl
theorem so_FT (text : List Int) (R : Out → Prop) : (t_so [.c (.l .u8 text), .c (.b false), .c (.b true)] []).run R =
    sel (decide ((text.length : Int) > 30)) (R yesO) (capR (mdRs (askS 90) (newM 1000) fun M => qJ 2 M (loopsR false true text (takeM 2 (nrm M)) (tailT (endM false true text) (wS text) R)))) := by kernel_rfl
theorem so_TT (text : List Int) (R : Out → Prop) : (t_so [.c (.l .u8 text), .c (.b true), .c (.b true)] []).run R =
    sel (decide ((text.length : Int) > 30)) (R yesO) (capR (mdRs (askS 88) (newM 1000) fun M1 => mdRs (askS 90) M1 fun M => qJ 2 M (loopsR true true text (takeM 2 (nrm M)) (tailT (endM true true text) (wS text) R)))) := by kernel_rfl
end Go.Proofs.YtdijbpokklgjlaaGreatDoor.mtl
