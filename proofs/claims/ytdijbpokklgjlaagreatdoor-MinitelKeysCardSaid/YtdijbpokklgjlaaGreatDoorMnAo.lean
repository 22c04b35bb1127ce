/-
  The law MinitelAnswers: its trees.
-/
import Derived.Test.YtdijbpokklgjlaaGreatDoorMnAn
set_option linter.unusedVariables false
namespace Go.Proofs.YtdijbpokklgjlaaGreatDoor.mtl
open Go Go.Nx Go.Proofs.YtdijbpokklgjlaaGreatDoor.prt
open Go.Proofs.YtdijbpokklgjlaaGreatDoor.lex (arr lx InBytes mkEv K7 kMake)
open Go.Proofs.YtdijbpokklgjlaaGreatDoor.scr (Scr Ev eventS rollsS Ins newS)

theorem LAll_three {X : Cx} {c : Code} {i1 i2 i3 : Nat} {b1 b2 b3 : Code} {l1 l2 l3 : List Nat} {L1 L2 L3 : St → Tr (NExit × St)} (hl : loopsIn c = [(i1, b1), (i2, b2), (i3, b3)]) (hx : X.loops = [(i1, l1, L1), (i2, l2, L2), (i3, l3, L3)]) (hne : i1 ≠ i2 ∧ i1 ≠ i3 ∧ i2 ≠ i3)
    (h1 : LOk X.P X.glob X.m i1 b1 L1) (h2 : LOk X.P X.glob X.m i2 b2 L2) (h3 : LOk X.P X.glob X.m i3 b3 L3) (hr : rangesIn c = [] := by kernel_rfl) : LAll X c :=
  LAll.list hl (hr := hr) fun p hp x hf => by
    rw [hx] at hf
    simp only [List.mem_cons, List.not_mem_nil, or_false] at hp
    rcases hp with rfl | rfl | rfl
    · simp at hf; subst hf; exact h1
    · simp [hne.1] at hf; subst hf; exact h2
    · simp [hne.2.1, hne.2.2] at hf; subst hf; exact h3
noncomputable def t_an (j n : Int) : Con := fun args regs => if regs.length = 0 then nfun Tryz.prog [] (c_an j n) [(0, [0, 1, 2, 7, 8, 10], l_an), (2, [7, 8, 12, 13, 14, 15, 16], unroll (X_an j n) 2 [7, 8, 12, 13, 14, 15, 16] [7, 8, 12, 13, 14] (bodyLoop f_an 2) 6),
  (4, [7, 8, 12, 13, 14, 17, 18], unroll (X_an j n) 4 [7, 8, 12, 13, 14, 17, 18] [7, 8, 12, 13, 17] (bodyLoop f_an 4) 6)] f_an args regs else .fail
theorem k_an (j n : Int) : Known Tryz.prog [] 3 (t_an j n) := known_loops 0 Tryz.func3 rfl (by kernel_rfl) mixed (kc_an j n)
  (LAll_three (by kernel_rfl) rfl ⟨by decide, by decide, by decide⟩ (loop_an j n) (unroll_ok (X := X_an j n) (kc_an j n) mixed (LAll.none (by kernel_rfl)) [7, 8, 12, 13, 14, 15, 16] [7, 8, 12, 13, 14] 6) (unroll_ok (X := X_an j n) (kc_an j n) mixed (LAll.none (by kernel_rfl)) [7, 8, 12, 13, 14, 17, 18] [7, 8, 12, 13, 17] 6))
def noO : Out := ⟨.v (.c (.b false)), []⟩
def bO1 (x : Bool) : Out := ⟨.v (.c (.b x)), []⟩
def bytes1 (O w : List Int) (N : Prop) : Prop := sel (decide (O.length ≤ O.length)) ((List.take O.length O = w ∧ (List.take O.length O).length ≤ 1000) ∧ N) False
def qJ (j : Int) (M : Mn) (N : Prop) : Prop := lensR M ∧ ((j = 2 ∨ j = 3) ∧ smallM (nrm M)) ∧ N
noncomputable def tailR (O1 O2 : List Int) (M : Mn) (ans : List Int) (R : Out → Prop) : Prop :=
  sel ((O1.length : Int) == 0) ((ans.length ≤ 1000 ∧ InBytes ans) ∧ bytes1 O2 (ans.map mkEv) (qJ 2 M (sel ((M.o2.length : Int) == 0) (qJ 3 M (sel ((M.o3.length : Int) == 0) (lensR M ∧ R (bO1 (M.lost == 0))) (R noO))) (R noO)))) (R noO)
noncomputable def anR (A : Mn) (pre full ans : List Int) (R : Out → Prop) : Prop := mdRs pre A fun M1 => mdR 10 M1 fun M2 => qJ 2 M2 (mdRs full (takeM 2 (nrm M2)) fun M4 => qJ 2 M4 (tailR M2.o2 M4.o2 (takeM 2 (nrm M4)) ans R))
noncomputable def startR (w u : Int) (ah : List Int) (j n m : Int) (N : Prop) : Prop := ((1 : Int) ≤ 1000 ∧ (1000 : Int) ≤ 4096) ∧ (s_an (AM newS) w u ah 0 = s_an (AM newS) w u ah 0 ∧ ah.length ≤ 30 ∧ InBytes ah) ∧ w % 7 = j ∧ ((0 < m ∧ m < 4611686018427387904) ∧ u % m = n) ∧ N
end Go.Proofs.YtdijbpokklgjlaaGreatDoor.mtl
