/-
  The Minitel: its keys, as far as capital letters go.
-/
import Derived.Test.YtdijbpokklgjlaaGreatDoorMnSp
set_option linter.unusedVariables false
namespace Go.Proofs.YtdijbpokklgjlaaGreatDoor.mtl
open Go Go.Nx Go.Proofs.YtdijbpokklgjlaaGreatDoor.prt
open Go.Proofs.YtdijbpokklgjlaaGreatDoor.lex (arr lx InBytes mkEv K7 kMake)
open Go.Proofs.YtdijbpokklgjlaaGreatDoor.lxv (wf cel pend shft cc evts okP ev ignR)
open Go.Proofs.YtdijbpokklgjlaaGreatDoor.scr (Scr Ev eventS rollsS Ins newS)

/-! ### a capital letter's byte -/
noncomputable def t_letter : Con := fun args regs => nfun Tryz.prog [] (fun _ => Option.none) [] Tryz.f38 args regs
theorem k_letter : Known Tryz.prog [] 38 t_letter := known_inl Tryz.func38 rfl (by kernel_rfl) mixed con_none (by kernel_rfl)
noncomputable def c_kby : FuncId → Option Con := conOf [(38, t_letter)]
theorem kc_kby : ∀ f T, c_kby f = some T → Known Tryz.prog [] f T := (Knowns.cons k_letter Knowns.nil).get
noncomputable def t_kby : Con := fun args regs => nfun Tryz.prog [] c_kby [] Tryz.f29 args regs
theorem k_kby : Known Tryz.prog [] 29 t_kby := known_inl Tryz.func29 rfl (by kernel_rfl) mixed kc_kby (by kernel_rfl)
def oneB (k : Int) : Out := ⟨.v (.c (.h 0 0 1)), [some (arr [k])]⟩
theorem kb_65 (p : PS) (R : Out → Prop) : (t_kby [.ag (pC p), .c (.i .i64 65)] []).run R = R (oneB 65) := by kernel_rfl
theorem kb_66 (p : PS) (R : Out → Prop) : (t_kby [.ag (pC p), .c (.i .i64 66)] []).run R = R (oneB 66) := by kernel_rfl
theorem kb_67 (p : PS) (R : Out → Prop) : (t_kby [.ag (pC p), .c (.i .i64 67)] []).run R = R (oneB 67) := by kernel_rfl
theorem kb_68 (p : PS) (R : Out → Prop) : (t_kby [.ag (pC p), .c (.i .i64 68)] []).run R = R (oneB 68) := by kernel_rfl
theorem kb_69 (p : PS) (R : Out → Prop) : (t_kby [.ag (pC p), .c (.i .i64 69)] []).run R = R (oneB 69) := by kernel_rfl
theorem kb_70 (p : PS) (R : Out → Prop) : (t_kby [.ag (pC p), .c (.i .i64 70)] []).run R = R (oneB 70) := by kernel_rfl
theorem kb_71 (p : PS) (R : Out → Prop) : (t_kby [.ag (pC p), .c (.i .i64 71)] []).run R = R (oneB 71) := by kernel_rfl
theorem kb_72 (p : PS) (R : Out → Prop) : (t_kby [.ag (pC p), .c (.i .i64 72)] []).run R = R (oneB 72) := by kernel_rfl
theorem kb_73 (p : PS) (R : Out → Prop) : (t_kby [.ag (pC p), .c (.i .i64 73)] []).run R = R (oneB 73) := by kernel_rfl
theorem kb_74 (p : PS) (R : Out → Prop) : (t_kby [.ag (pC p), .c (.i .i64 74)] []).run R = R (oneB 74) := by kernel_rfl
theorem kb_75 (p : PS) (R : Out → Prop) : (t_kby [.ag (pC p), .c (.i .i64 75)] []).run R = R (oneB 75) := by kernel_rfl
theorem kb_76 (p : PS) (R : Out → Prop) : (t_kby [.ag (pC p), .c (.i .i64 76)] []).run R = R (oneB 76) := by kernel_rfl
theorem kb_77 (p : PS) (R : Out → Prop) : (t_kby [.ag (pC p), .c (.i .i64 77)] []).run R = R (oneB 77) := by kernel_rfl
theorem kb_78 (p : PS) (R : Out → Prop) : (t_kby [.ag (pC p), .c (.i .i64 78)] []).run R = R (oneB 78) := by kernel_rfl
theorem kb_79 (p : PS) (R : Out → Prop) : (t_kby [.ag (pC p), .c (.i .i64 79)] []).run R = R (oneB 79) := by kernel_rfl
theorem kb_80 (p : PS) (R : Out → Prop) : (t_kby [.ag (pC p), .c (.i .i64 80)] []).run R = R (oneB 80) := by kernel_rfl
theorem kb_81 (p : PS) (R : Out → Prop) : (t_kby [.ag (pC p), .c (.i .i64 81)] []).run R = R (oneB 81) := by kernel_rfl
theorem kb_82 (p : PS) (R : Out → Prop) : (t_kby [.ag (pC p), .c (.i .i64 82)] []).run R = R (oneB 82) := by kernel_rfl
theorem kb_83 (p : PS) (R : Out → Prop) : (t_kby [.ag (pC p), .c (.i .i64 83)] []).run R = R (oneB 83) := by kernel_rfl
theorem kb_84 (p : PS) (R : Out → Prop) : (t_kby [.ag (pC p), .c (.i .i64 84)] []).run R = R (oneB 84) := by kernel_rfl
theorem kb_85 (p : PS) (R : Out → Prop) : (t_kby [.ag (pC p), .c (.i .i64 85)] []).run R = R (oneB 85) := by kernel_rfl
theorem kb_86 (p : PS) (R : Out → Prop) : (t_kby [.ag (pC p), .c (.i .i64 86)] []).run R = R (oneB 86) := by kernel_rfl
theorem kb_87 (p : PS) (R : Out → Prop) : (t_kby [.ag (pC p), .c (.i .i64 87)] []).run R = R (oneB 87) := by kernel_rfl
theorem kb_88 (p : PS) (R : Out → Prop) : (t_kby [.ag (pC p), .c (.i .i64 88)] []).run R = R (oneB 88) := by kernel_rfl
theorem kb_89 (p : PS) (R : Out → Prop) : (t_kby [.ag (pC p), .c (.i .i64 89)] []).run R = R (oneB 89) := by kernel_rfl
theorem kb_90 (p : PS) (R : Out → Prop) : (t_kby [.ag (pC p), .c (.i .i64 90)] []).run R = R (oneB 90) := by kernel_rfl
noncomputable def tKBy : Con := fun args regs => match args, regs with
  | [.ag l, .c (.i .i64 k)], [] => (match rdP l with
    | some p => .must (65 ≤ k ∧ k ≤ 90) (.ret (oneB k))
    | none => .fail)
  | _, _ => .fail
set_option maxRecDepth 100000 in
theorem kKBy : Known Tryz.prog [] 29 tKBy := by
  refine k_kby.less fun args regs R h => Box.out ?_
  unfold tKBy at h
  split at h
  case h_2 => exact h.elim
  rename_i l k
  split at h
  case h_2 => exact h.elim
  rename_i p hp
  obtain ⟨hk, h⟩ := h
  have h : R (oneB k) := h
  obtain ⟨e, e2⟩ := rdP_in hp
  clear hp
  rw [e]
  have hs : k = 65 ∨ k = 66 ∨ k = 67 ∨ k = 68 ∨ k = 69 ∨ k = 70 ∨ k = 71 ∨ k = 72 ∨ k = 73 ∨ k = 74 ∨ k = 75 ∨ k = 76 ∨ k = 77 ∨ k = 78 ∨ k = 79 ∨ k = 80 ∨ k = 81 ∨ k = 82 ∨ k = 83 ∨ k = 84 ∨ k = 85 ∨ k = 86 ∨ k = 87 ∨ k = 88 ∨ k = 89 ∨ k = 90 := by omega
  rcases hs with rfl | rfl | rfl | rfl | rfl | rfl | rfl | rfl | rfl | rfl | rfl | rfl | rfl | rfl | rfl | rfl | rfl | rfl | rfl | rfl | rfl | rfl | rfl | rfl | rfl | rfl
  · exact Box.of_eq (kb_65 p R) h
  · exact Box.of_eq (kb_66 p R) h
  · exact Box.of_eq (kb_67 p R) h
  · exact Box.of_eq (kb_68 p R) h
  · exact Box.of_eq (kb_69 p R) h
  · exact Box.of_eq (kb_70 p R) h
  · exact Box.of_eq (kb_71 p R) h
  · exact Box.of_eq (kb_72 p R) h
  · exact Box.of_eq (kb_73 p R) h
  · exact Box.of_eq (kb_74 p R) h
  · exact Box.of_eq (kb_75 p R) h
  · exact Box.of_eq (kb_76 p R) h
  · exact Box.of_eq (kb_77 p R) h
  · exact Box.of_eq (kb_78 p R) h
  · exact Box.of_eq (kb_79 p R) h
  · exact Box.of_eq (kb_80 p R) h
  · exact Box.of_eq (kb_81 p R) h
  · exact Box.of_eq (kb_82 p R) h
  · exact Box.of_eq (kb_83 p R) h
  · exact Box.of_eq (kb_84 p R) h
  · exact Box.of_eq (kb_85 p R) h
  · exact Box.of_eq (kb_86 p R) h
  · exact Box.of_eq (kb_87 p R) h
  · exact Box.of_eq (kb_88 p R) h
  · exact Box.of_eq (kb_89 p R) h
  · exact Box.of_eq (kb_90 p R) h
/-! ### a key -/
noncomputable abbrev f_key := Tryz.f21
noncomputable def c_key : FuncId → Option Con := conOf [(29, tKBy), (28, tLine), (30, tHears), (31, tSend), (32, tReads)]
theorem kc_key : ∀ f T, c_key f = some T → Known Tryz.prog [] f T := (Knowns.cons kKBy (.cons kLine (.cons kHears (.cons kSend.known (.cons kReads.known .nil))))).get
noncomputable def X_key : Cx := { P := Tryz.prog, con := c_key, glob := [], m := 7, loops := [] }
noncomputable def t_key : Con := canonU 7 csM (fun args regs => if regs.length = 7 then nfun Tryz.prog [] c_key [(0, [0, 4, 5, 20, 21, 22], unroll X_key 0 [0, 4, 5, 20, 21, 22] [0, 4, 5] (bodyLoop f_key 0) 3)] f_key args regs else .fail)
theorem k_key : KnownF Tryz.prog [] 21 t_key := (known_loopsF 7 Tryz.func21 rfl (by kernel_rfl) mixed kc_key (LAll.one (id := 0) (body := bodyLoop f_key 0) (by kernel_rfl) rfl (unroll_ok (X := X_key) kc_key mixed (LAll.none (by kernel_rfl)) [0, 4, 5, 20, 21, 22] [0, 4, 5] 3))).canonU 7 csM
noncomputable def kE (hd : Bool) (k : Int) (M : Mn) (R : Out → Prop) : Prop := sel hd (lensR M ∧ (OkM (nrm M) ∧ okJ ⟨1, plc 1, true, false, [mkEv k]⟩) ∧ R (done7 (readsM true false 1 [mkEv k] (nrm M)))) (R (done7 M))
theorem key_tree (M : Mn) (k : Int) (R : Out → Prop) : (t_key [.c (.p 0 0 0), .c (.i .i64 k)] (mnIn M)).run R = ((65 ≤ k ∧ k ≤ 90) ∧ (([k] : List Int).length ≤ 1000 ∧ InBytes [k]) ∧
    sel (M.p.M 9) (sndR 2 [mkEv k] M fun M1 => sel (M1.p.M 13) (sndR 3 [mkEv k] M1 fun M2 => kE (M.p.M 1) k M2 R) (kE (M.p.M 1) k M1 R)) (sel (M.p.M 13) (sndR 3 [mkEv k] M fun M2 => kE (M.p.M 1) k M2 R) (kE (M.p.M 1) k M R))) := by kernel_rfl
end Go.Proofs.YtdijbpokklgjlaaGreatDoor.mtl
