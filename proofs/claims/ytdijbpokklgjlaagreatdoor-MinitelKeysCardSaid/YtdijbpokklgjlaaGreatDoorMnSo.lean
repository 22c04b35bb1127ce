/-
  The law MinitelSocket: its loops.
-/
import Derived.Test.YtdijbpokklgjlaaGreatDoorMnAn
import Derived.Test.YtdijbpokklgjlaaGreatDoorScLm
set_option linter.unusedVariables false
namespace Go.Proofs.YtdijbpokklgjlaaGreatDoor.mtl
open Go Go.Nx Go.Proofs.YtdijbpokklgjlaaGreatDoor.prt
open Go.Proofs.YtdijbpokklgjlaaGreatDoor.lex (arr lx InBytes mkEv K7 kMake)
open Go.Proofs.YtdijbpokklgjlaaGreatDoor.lxv (wf cel pend shft cc evts okP ev ignR)
open Go.Proofs.YtdijbpokklgjlaaGreatDoor.scr (Scr Ev eventS rollsS Ins newS grd rdG rdG_in KC gridG cell1 xI chkC chkC_in)

/-! ### the grid -/
theorem gridM_tree (M : Mn) (R : Out → Prop) : (t_gridM [.c (.p 0 0 0)] (mnIn M)).run R = R ⟨.v (.sg [.recs KC 1000 (gridG M.sc.ma M.sc.sl)]), (mnIn M).map some⟩ := by kernel_rfl
noncomputable def tGridM : Con := fun args regs => match args with
  | [.c (.p 0 0 0)] => onM regs fun M => .ret ⟨.v (.sg [.recs KC 1000 (gridG M.sc.ma M.sc.sl)]), (mnIn M).map some⟩
  | _ => .fail
set_option maxRecDepth 100000 in
theorem kGridM : KnownF Tryz.prog [] 19 tGridM := by
  refine k_gridM.weak fun args regs R h => Box.out ?_
  unfold tGridM at h
  split at h
  case h_2 => exact h.elim
  obtain ⟨M, rfl, hp, h⟩ := onM_in h
  exact Box.of_eq (gridM_tree M _) ⟨_, WeakF.refl _, h⟩

/-! ### bytes against nil -/
noncomputable def t_smbN : Con := fun args regs => if regs.length = 0 then nfun Tryz.prog [] (fun _ => Option.none) [(0, [0, 1, 5], unroll XSmB 0 [0, 1, 5] [4] (bodyLoop fSmB 0) 1)] fSmB args regs else .fail
theorem k_smbN : Known Tryz.prog [] 13 t_smbN := known_loops 0 Tryz.func13 rfl (by kernel_rfl) mixed con_none (LAll.one (id := 0) (body := bodyLoop fSmB 0) (by kernel_rfl) rfl (unroll_ok (X := XSmB) con_none mixed (LAll.none (by kernel_rfl)) [0, 1, 5] [4] 1))
theorem smb_nil (R : Out → Prop) : (t_smbN [.c (.l .u8 []), .c .sn] []).run R = R yesO := by kernel_rfl
noncomputable def tSmN : Con := fun args regs => match args, regs with
  | [.c (.l .u8 a), .c (.l .u8 b)], [] => .must (a = b ∧ a.length ≤ 1000) (.ret yesO)
  | [.c (.l .u8 a), .c .sn], [] => .must (a = []) (.ret yesO)
  | _, _ => .fail
theorem known_orM {P : Program} {gl : List Nat} {f : FuncId} {T T1 T2 : Con} (k1 : Known P gl f T1) (k2 : Known P gl f T2) (h : ∀ args regs R, (T args regs).run R → (T1 args regs).run R ∨ (T2 args regs).run R) : Known P gl f T := by
  refine ⟨k1.goes, fun args regs R hR => ?_⟩
  rcases h args regs R hR with h1 | h2
  · exact k1.sound args regs R h1
  · exact k2.sound args regs R h2
set_option maxRecDepth 100000 in
theorem kSmN : Known Tryz.prog [] 13 tSmN := by
  refine known_orM kSmB k_smbN fun args regs R h => ?_
  unfold tSmN at h
  split at h
  · left
    exact h
  · rename_i a
    right
    obtain ⟨rfl, h⟩ := h
    rw [smb_nil]
    exact h
  · exact h.elim

/-! ### the question, as a closure -/
noncomputable abbrev f_clo := Tryz.f17
noncomputable def c_clo : FuncId → Option Con := conOf [(10, lex.tMake), (9, tByM 2)]
theorem kc_clo : ∀ f T, c_clo f = some T → Known Tryz.prog [] f T := (Knowns.cons kMake (.cons kModem.known .nil)).get
noncomputable def X_clo : Cx := { P := Tryz.prog, con := c_clo, glob := [], m := 8, loops := [] }
noncomputable def t_clo : Con := fun args regs => if regs.length = 8 then nfun Tryz.prog [] c_clo [(0, [2, 9, 10, 11], unroll X_clo 0 [2, 9, 10, 11] [] (bodyLoop f_clo 0) 6)] f_clo args regs else .fail
theorem k_clo : Known Tryz.prog [] 17 t_clo := known_loops 8 Tryz.func17 rfl (by kernel_rfl) mixed kc_clo (LAll.one (id := 0) (body := bodyLoop f_clo 0) (by kernel_rfl) rfl (unroll_ok (X := X_clo) kc_clo mixed (LAll.none (by kernel_rfl)) [2, 9, 10, 11] [] 6))

/-! ### the law's loops -/
noncomputable abbrev f_so := Tryz.f5
noncomputable def c_so : FuncId → Option Con := conOf [(7, tFst), (8, tNewM), (17, t_clo), (10, lex.tMake), (18, tByM 3), (19, tGridM),
  (15, tOut), (12, tTake), (13, tSmN)]
theorem kc_so : ∀ f T, c_so f = some T → Known Tryz.prog [] f T := (Knowns.cons kFst (.cons kNewM (.cons k_clo (.cons kMake (.cons kSocket.known (.cons kGridM.known (.cons kOut.known (.cons kTake.known (.cons kSmN .nil))))))))).get
noncomputable def X_so : Cx := { P := Tryz.prog, con := c_so, glob := [], m := 0, loops := [] }
/-- A Minitel behind a variable's box. -/
def mnX (M : Mn) : Reg := ⟨37, 62, .cells ([.i .i64 M.most, .p 2 0 0] ++ pC M.p ++ [.sn, .i .i64 0, .hz 3 M.l1.P.length, .i .i64 M.l1.s, .hz 4 M.l2.P.length, .i .i64 M.l2.s, .hz 5 M.l3.P.length, .i .i64 M.l3.s, .sn, .sn, .hz 6 M.o2.length, .hz 7 M.o3.length, .i .i64 M.lost])⟩
def rgX (M : Mn) : List (Option Reg) := [cel 24 1 [.p 1 0 0], some (mnX M), some (scr.scr M.sc), some (arr M.l1.P), some (arr M.l2.P), some (arr M.l3.P), some (arr M.o2), some (arr M.o3)]
noncomputable def s_so (M : Mn) (text : List Int) (x y : Bool) (w : List Int) (k : Nat) (i : Int) : St := { fr := frame 101 [(0, .v (.c (.l .u8 text))), (1, .v (.c (.b x))), (2, .v (.c (.b y))), (7, .v (.c (.b true))), (8, .v (.c (.p 0 0 0))), (11, .v (.c (.hz 8 k))), (12, .v (.c (.i .i64 i)))], rg := rgX M ++ [some (arr w)] }
noncomputable def e_so (M : Mn) (text : List Int) (x y : Bool) (w : List Int) (k : Nat) : St := { fr := frame 101 [(0, .v (.c (.l .u8 text))), (1, .v (.c (.b x))), (2, .v (.c (.b y))), (7, .v (.c (.b true))), (8, .v (.c (.p 0 0 0))), (11, .v (.c (.hz 8 k)))], rg := rgX M ++ [some (arr w)] }
def ltS (b : Int) : Int := IntKind.u8.wrap (65 + b.tmod 26)
noncomputable def skR (c : Int) (M : Mn) (N : Mn → Prop) : Prop := (0 ≤ c ∧ c < 256) ∧ lensR M ∧ (OkM (nrm M) ∧ byte (mkEv c)) ∧ N (comesM 3 (mkEv c) (nrm M))
theorem round_so (M : Mn) (text : List Int) (x y : Bool) (w : List Int) (i : Int) (R : RO → Prop) : (roundT X_so 0 [0, 1, 2, 7, 8, 11, 12] [0, 1, 2, 7, 8, 11] (bodyLoop f_so 0) (s_so M text x y w w.length i)).run R =
    sel (decide (i < (text.length : Int))) (ix i text (skR (ltS (text.getD i.toNat 0)) M fun M1 => ap8 w.length w.length (R (.next (s_so M1 text x y (List.take w.length w ++ [mkEv (ltS (text.getD i.toNat 0))]) (w.length + 1) (w64 (i + 1)))))))
      (R (.done .normal (e_so M text x y w w.length))) := by kernel_rfl
noncomputable def s_sg (M : Mn) (text : List Int) (x y : Bool) (w : List Int) (G : List (List Sc)) (i : Int) : St := { fr := frame 101 [(0, .v (.c (.l .u8 text))), (1, .v (.c (.b x))), (2, .v (.c (.b y))), (7, .v (.c (.b true))), (8, .v (.c (.p 0 0 0))), (11, .v (.c (.hz 8 w.length))), (14, .v (.c (.p 9 0 0))), (15, .v (.c (.i .i64 i)))], rg := rgX M ++ [some (arr w), some (grd G)] }
noncomputable def e_sg (M : Mn) (y : Bool) (w : List Int) : St := { fr := frame 101 [(2, .v (.c (.b y))), (7, .v (.c (.b true))), (8, .v (.c (.p 0 0 0))), (11, .v (.c (.hz 8 w.length)))], rg := rgX M ++ [some (arr w)] }
noncomputable def f_sg (M : Mn) (y : Bool) (w : List Int) : St := { fr := frame 101 [(2, .v (.c (.b y))), (6, .v (.c (.b false))), (7, .v (.c (.b true))), (8, .v (.c (.p 0 0 0))), (11, .v (.c (.hz 8 w.length)))], rg := rgX M ++ [some (arr w)] }
noncomputable def cellR (M : Mn) (text : List Int) (x y : Bool) (w : List Int) (G : List (List Sc)) (i g : Int) (R : RO → Prop) : Prop := chkC 1 i (sel (xI (cell1 G i) 0 != g) (R (.done .ret (f_sg M y w))) (R (.next (s_sg M text x y w G (w64 (i + 1))))))
theorem round_sg (M : Mn) (text : List Int) (x y : Bool) (w : List Int) (G : List (List Sc)) (i : Int) (R : RO → Prop) : (roundT X_so 2 [0, 1, 2, 7, 8, 11, 14, 15] [2, 6, 7, 8, 11] (bodyLoop f_so 2) (s_sg M text x y w G i)).run R =
    sel (decide (i < (text.length : Int))) (sel x (ix i text (cellR M text x y w G i (w64 (65 + w64 ((text.getD i.toNat 0).tmod 26))) R)) (cellR M text x y w G i 32 R)) (R (.done .normal (e_sg M y w))) := by kernel_rfl
end Go.Proofs.YtdijbpokklgjlaaGreatDoor.mtl
