/-
  The law MinitelKeys.
-/
import Derived.Test.YtdijbpokklgjlaaGreatDoorMnKb
import Derived.Test.YtdijbpokklgjlaaGreatDoorMnSr
set_option linter.unusedVariables false
namespace Go.Proofs.YtdijbpokklgjlaaGreatDoor.mtl
open Go Go.Nx Go.Proofs.YtdijbpokklgjlaaGreatDoor.prt
open Go.Proofs.YtdijbpokklgjlaaGreatDoor.lex (arr lx InBytes mkEv K7 kMake)
open Go.Proofs.YtdijbpokklgjlaaGreatDoor.scr (Scr Ev eventS rollsS Ins newS gridG)

noncomputable def t_ky : Con := fun args regs => if regs.length = 0 then nfun Tryz.prog [] c_ky [(0, [0, 1, 2, 7, 8, 11, 12], canonL [(11, arr [])] [] 0 [0, 1, 2, 7, 8, 11, 12] l_ky), (2, [0, 1, 7, 8, 11, 14, 15], canonL [(11, arr [])] [] 0 [0, 1, 7, 8, 11, 14, 15] l_kg)] f_ky args regs else .fail
theorem k_ky : Known Tryz.prog [] 6 t_ky := known_loops 0 Tryz.func6 rfl (by kernel_rfl) mixed kc_ky
  (LAll_two (by kernel_rfl) rfl (by decide) (loop_ky.canon [(11, arr [])] [] [0, 1, 2, 7, 8, 11, 12]) (loop_kg.canon [(11, arr [])] [] [0, 1, 7, 8, 11, 14, 15]))
noncomputable def tailK (M : Mn) (w : List Int) (R : Out → Prop) : Prop := qJ 2 M (bytesR M.o2 w (lensR M ∧ R (bO1 (M.lost == 0))))
noncomputable def gridK (x : Bool) (text : List Int) (M : Mn) (w : List Int) (N : Prop) : Prop := lensR M ∧ (isKg (s_kg (nrm M) text x w (gridM M) 0) text x w.length ∧ tx30 text) ∧ N
noncomputable def loopsK (x y : Bool) (text : List Int) (M : Mn) (N : Prop) : Prop := (s_ky M text x y [] 0 0 = s_ky (SM (qXY x y) newS []) text x y [] 0 0 ∧ tx30 text) ∧ N
noncomputable def endR2 (x y : Bool) (text : List Int) (w : List Int) (R : Out → Prop) : Prop := gridK x text (endK x y text) w (tailK (endK x y text) w R)
theorem ky_FF (text : List Int) (R : Out → Prop) : (t_ky [.c (.l .u8 text), .c (.b false), .c (.b false)] []).run R =
    sel (decide ((text.length : Int) > 20)) (R yesO) (capR (qJ 2 (newM 1000) (loopsK false false text (takeM 2 (nrm (newM 1000))) (endR2 false false text (wS text) R)))) := by kernel_rfl
theorem ky_TF (text : List Int) (R : Out → Prop) : (t_ky [.c (.l .u8 text), .c (.b true), .c (.b false)] []).run R =
    sel (decide ((text.length : Int) > 20)) (R yesO) (capR (mdRs (ask3 97 88) (newM 1000) fun M => qJ 2 M (loopsK true false text (takeM 2 (nrm M)) (endR2 true false text (wS text) R)))) := by kernel_rfl
theorem ky_FT (text : List Int) (R : Out → Prop) : (t_ky [.c (.l .u8 text), .c (.b false), .c (.b true)] []).run R =
    sel (decide ((text.length : Int) > 20)) (R yesO) (capR (mdRs (ask3 96 90) (newM 1000) fun M => qJ 2 M (loopsK false true text (takeM 2 (nrm M)) (endR2 false true text [] R)))) := by kernel_rfl
theorem ky_TT (text : List Int) (R : Out → Prop) : (t_ky [.c (.l .u8 text), .c (.b true), .c (.b true)] []).run R =
    sel (decide ((text.length : Int) > 20)) (R yesO) (capR (mdRs (ask3 97 88) (newM 1000) fun M1 => mdRs (ask3 96 90) M1 fun M => qJ 2 M (loopsK true true text (takeM 2 (nrm M)) (endR2 true true text [] R)))) := by kernel_rfl
end Go.Proofs.YtdijbpokklgjlaaGreatDoor.mtl
