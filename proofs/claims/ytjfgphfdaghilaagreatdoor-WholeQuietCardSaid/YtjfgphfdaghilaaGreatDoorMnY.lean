/-
  Joined: MnG, MnH, MnI, MnLo.
-/
import Derived.Test.YtjfgphfdaghilaaGreatDoorMnX
import Derived.Test.YtjfgphfdaghilaaGreatDoorScYY
set_option linter.unusedVariables false
namespace Go.Proofs.YtjfgphfdaghilaaGreatDoor.mtl
open Go Go.Nx Go.Proofs.YtjfgphfdaghilaaGreatDoor.prt
open Go.Proofs.YtjfgphfdaghilaaGreatDoor.lex (arr lx InBytes mkEv K7)
open Go.Proofs.YtjfgphfdaghilaaGreatDoor.lxv (wf clo clone_tree cel pend shft cc evts okP)
open Go.Proofs.YtjfgphfdaghilaaGreatDoor.scr (Scr rdS rdS_in Ev eventS tEvent kEvent tRolls kRolls rollsS PreE Ins newS tNew kNew)

/-! ### the beginning -/
noncomputable def c_newM : FuncId → Option Con := conOf [(34, tNew), (35, tPStart)]
theorem kc_newM : ∀ f T, c_newM f = some T → Known Tryz.prog [] f T := (Knowns.cons kNew (.cons kPStart .nil)).get
noncomputable def t_newM : Con := canonT 2 csM none (fun args regs => nfun Tryz.prog [] c_newM [] Tryz.f10 args regs)
theorem k_newM : KnownF Tryz.prog [] 10 t_newM := (known_inlF Tryz.func10 rfl (by kernel_rfl) mixed kc_newM (by kernel_rfl)).canon 2 csM none
def newM (most : Int) : Mn := { most := most, sc := newS, p := startP, l1 := ⟨[], 0⟩, l2 := ⟨[], 0⟩, l3 := ⟨[], 0⟩, o2 := [], o3 := [], lost := 0 }
def newO (most : Int) : Out := ⟨.tu [.c (.p 0 0 0), .c .en], (mnIn (newM most)).map some⟩
theorem newM_tree (most : Int) (R : Out → Prop) : (t_newM [.c (.i .i64 most)] []).run R = sel (decide (most < 1)) False (sel (decide (most > 4096)) False (R (newO most))) := by kernel_rfl
noncomputable def tNewM : Con := fun args regs => match args, regs with
  | [.c (.i .i64 most)], [] => .must (1 ≤ most ∧ most ≤ 4096) (.ret (newO most))
  | _, _ => .fail
set_option maxRecDepth 100000 in
theorem kNewM : Known Tryz.prog [] 10 tNewM := by
  refine k_newM.known.less fun args regs R h => Box.out ?_
  unfold tNewM at h
  split at h
  case h_2 => exact h.elim
  rename_i most
  obtain ⟨⟨h1, h2⟩, h⟩ := h
  exact Box.of_eq (newM_tree most R) (selF (dF (by omega)) (selF (dF (by omega)) h))
theorem ins_newS : ∃ r, Ins r newS := ⟨_, scr.ins_new false⟩
theorem OkL.nil : OkL ⟨[], 0⟩ := ⟨by simp, .inl rfl⟩
theorem newM_ok {most : Int} (h : most ≤ 5000) : OkM (newM most) := ⟨ins_newS, startP_ok, h, by simp [newM], by simp [newM], OkL.nil, OkL.nil, OkL.nil⟩

/-! ### copies -/
theorem k_cloneM : KnownF Tryz.prog [] 45 lex.t_clone := known_inlF Tryz.func45 rfl (by kernel_rfl) mixed con_none (by kernel_rfl)
noncomputable def tCloneM : Con := fun args regs => match args, regs with
  | [.c (.l .u8 P)], [] => .must (P.length ≤ 1000000) (.ret ⟨.v (.c (.hz 0 P.length)), [some (arr P)]⟩)
  | _, _ => .fail
set_option maxRecDepth 100000 in
theorem kCloneM : KnownF Tryz.prog [] 45 tCloneM := by
  refine k_cloneM.weak fun args regs R h => Box.out ?_
  unfold tCloneM at h
  split at h
  case h_2 => exact h.elim
  rename_i P
  have h1 := h.1
  have h2 : R ⟨.v (.c (.hz 0 P.length)), [some (arr P)]⟩ := h.2
  clear h
  show Box ((lex.t_clone [.c (.l .u8 P)] []).run (wf R))
  have hc : clo P (wf R) := by
    refine selT (dT (by omega)) (selT (dT (by omega)) ?_)
    rw [Nat.zero_add]
    exact ⟨_, WeakF.res (y := .v (.c (.hz 0 P.length))) fun Γ v hv => hz_of_h Γ v hv, h2⟩
  refine Box.of_eq (clone_tree P (wf R)) ?_
  cases hP : P.isEmpty with
  | false => exact selF rfl hc
  | true =>
    refine selT rfl fun y _ => ?_
    cases y with
    | false => exact selF rfl hc
    | true =>
      have : P = [] := by simpa using hP
      subst this
      exact selT rfl ⟨_, WeakF.nilRes (g := arr []) (.inl ⟨_, rfl⟩), h2⟩

/-! ### what waits -/
noncomputable def c_out : FuncId → Option Con := conOf [(45, tCloneM)]
theorem kc_out : ∀ f T, c_out f = some T → Known Tryz.prog [] f T := (Knowns.cons kCloneM.known Knowns.nil).get
noncomputable def t_out : Con := fun args regs => nfun Tryz.prog [] c_out [] Tryz.f19 args regs
theorem k_out : KnownF Tryz.prog [] 19 t_out := known_inlF Tryz.func19 rfl (by kernel_rfl) mixed kc_out (by kernel_rfl)
def outO (M : Mn) (O : List Int) : Out := ⟨.v (.c (.hz 7 O.length)), (mnIn M).map some ++ [some (arr O)]⟩
def outR (M : Mn) (O : List Int) (R : Out → Prop) : Prop := sel (decide (O.length ≤ O.length)) ((List.take O.length O).length ≤ 1000000 ∧ R (outO M (List.take O.length O))) False
theorem out_2 (M : Mn) (R : Out → Prop) : (t_out [.c (.p 0 0 0), .c (.i .i64 2)] (mnIn M)).run R = outR M M.o2 R := by kernel_rfl
theorem out_3 (M : Mn) (R : Out → Prop) : (t_out [.c (.p 0 0 0), .c (.i .i64 3)] (mnIn M)).run R = outR M M.o3 R := by kernel_rfl
noncomputable def tOut : Con := fun args regs => match args with
  | [.c (.p 0 0 0), .c (.i .i64 j)] => onM regs fun M => .must ((j = 2 ∨ j = 3) ∧ smallM M) (.ret (outO M (outW M j)))
  | _ => .fail
theorem outR_in {M : Mn} {O : List Int} {R : Out → Prop} (hl : O.length ≤ 100000) (h : R (outO M O)) : outR M O R := by
  refine selT (dT (Nat.le_refl _)) ?_
  rw [List.take_length]
  exact ⟨by omega, h⟩
set_option maxRecDepth 100000 in
theorem kOut : KnownF Tryz.prog [] 19 tOut := by
  refine k_out.weak fun args regs R h => Box.out ?_
  unfold tOut at h
  split at h
  case h_2 => exact h.elim
  rename_i j
  obtain ⟨M, rfl, hp, h⟩ := onM_in h
  obtain ⟨⟨hj, h2, h3⟩, h⟩ := h
  have h : R (outO M (outW M j)) := h
  have hR : ∀ o, R o → ∃ o', WeakF o o' ∧ R o' := fun o ho => ⟨o, WeakF.refl _, ho⟩
  rcases hj with rfl | rfl
  · exact Box.of_eq (out_2 M _) (outR_in h2 (hR _ h))
  · exact Box.of_eq (out_3 M _) (outR_in h3 (hR _ h))
noncomputable def c_take : FuncId → Option Con := conOf [(19, tOut)]
theorem kc_take : ∀ f T, c_take f = some T → Known Tryz.prog [] f T := (Knowns.cons kOut.known Knowns.nil).get
noncomputable def t_take : Con := canonT 10 csM none (fun args regs => nfun Tryz.prog [] c_take [] Tryz.f103 args regs)
theorem k_take : KnownF Tryz.prog [] 103 t_take := (known_inlF Tryz.func103 rfl (by kernel_rfl) mixed kc_take (by kernel_rfl)).canon 10 csM none
def takeX (M : Mn) (O : List Int) (a b : Option Reg) : Out := ⟨.v (.c (.hz 7 O.length)), [some (mnR M 10 11 12 13 14), some (scr.scr M.sc), none, none, none, a, b, some (arr O), none, none, some (arr M.l1.P), some (arr M.l2.P), some (arr M.l3.P), some (arr M.o2), some (arr M.o3)]⟩
def takeO (M : Mn) (O : List Int) : Out := takeX M O none none
theorem take_2 (M : Mn) (R : Out → Prop) : (t_take [.c (.p 0 0 0), .c (.i .i64 2)] (mnIn M)).run R = (lensR M ∧ (((2 : Int) = 2 ∨ (2 : Int) = 3) ∧ smallM (nrm M)) ∧
    sel (decide ((M.o2.length : Int) > 0)) (R (takeX { M with o2 := [] } M.o2 (some (arr M.o2)) none)) (R (takeO M M.o2))) := by kernel_rfl
theorem take_3 (M : Mn) (R : Out → Prop) : (t_take [.c (.p 0 0 0), .c (.i .i64 3)] (mnIn M)).run R = (lensR M ∧ (((3 : Int) = 2 ∨ (3 : Int) = 3) ∧ smallM (nrm M)) ∧
    sel (decide ((M.o3.length : Int) > 0)) (R (takeX { M with o3 := [] } M.o3 none (some (arr M.o3)))) (R (takeO M M.o3))) := by kernel_rfl
def takeM (j : Int) (M : Mn) : Mn := if j = 2 then { M with o2 := [] } else { M with o3 := [] }
noncomputable def tTake : Con := fun args regs => match args with
  | [.c (.p 0 0 0), .c (.i .i64 j)] => onM regs fun M => .must ((j = 2 ∨ j = 3) ∧ smallM M) (.ret (takeO (takeM j M) (outW M j)))
  | _ => .fail
theorem take_drop {M : Mn} {O : List Int} {a b : Option Reg} : WeakF (takeX M O a b) (takeO M O) := by
  refine WeakF.drop (Nat.le_refl _) fun n g hn => ?_
  match n, hn with
  | 0, hn | 1, hn | 7, hn | 10, hn | 11, hn | 12, hn | 13, hn | 14, hn => exact hn
  | 2, hn | 3, hn | 4, hn | 5, hn | 6, hn | 8, hn | 9, hn => cases hn
  | n + 15, hn => cases hn
set_option maxRecDepth 100000 in
theorem kTake : KnownF Tryz.prog [] 103 tTake := by
  refine k_take.weak fun args regs R h => Box.out ?_
  unfold tTake at h
  split at h
  case h_2 => exact h.elim
  rename_i j
  obtain ⟨M, rfl, hp, h⟩ := onM_in h
  obtain ⟨⟨hj, hs⟩, h⟩ := h
  have h : R (takeO (takeM j M) (outW M j)) := h
  have hn : ∀ O : List Int, ¬ (O.length : Int) > 0 → O = [] := fun O ho => List.length_eq_zero_iff.1 (by omega)
  rcases hj with rfl | rfl
  · refine Box.of_eq (take_2 M _) ⟨⟨rfl, rfl, rfl, rfl, rfl, rfl⟩, ⟨.inl rfl, hs⟩, sel_by (fun _ => ⟨_, take_drop, h⟩) fun e => ⟨_, WeakF.refl _, ?_⟩⟩
    have e1 := hn _ e
    have e2 : takeM 2 M = M := by
      show { M with o2 := [] } = M
      rw [← e1]
    rw [e2] at h
    exact h
  · refine Box.of_eq (take_3 M _) ⟨⟨rfl, rfl, rfl, rfl, rfl, rfl⟩, ⟨.inr rfl, hs⟩, sel_by (fun _ => ⟨_, take_drop, h⟩) fun e => ⟨_, WeakF.refl _, ?_⟩⟩
    have e1 := hn _ e
    have e2 : takeM 3 M = M := by
      show { M with o3 := [] } = M
      rw [← e1]
    rw [e2] at h
    exact h

/-! ### what was lost, what is on the screen -/
noncomputable def t_lost : Con := fun args regs => nfun Tryz.prog [] (fun _ => Option.none) [] Tryz.f20 args regs
theorem k_lost : KnownF Tryz.prog [] 20 t_lost := known_inlF Tryz.func20 rfl (by kernel_rfl) mixed con_none (by kernel_rfl)
def lostO (M : Mn) : Out := ⟨.v (.c (.i .i64 M.lost)), (mnIn M).map some⟩
theorem lost_tree (M : Mn) (R : Out → Prop) : (t_lost [.c (.p 0 0 0)] (mnIn M)).run R = R (lostO M) := by kernel_rfl
noncomputable def tLost : Con := fun args regs => match args with
  | [.c (.p 0 0 0)] => onM regs fun M => .ret (lostO M)
  | _ => .fail
set_option maxRecDepth 100000 in
theorem kLost : KnownF Tryz.prog [] 20 tLost := by
  refine k_lost.weak fun args regs R h => Box.out ?_
  unfold tLost at h
  split at h
  case h_2 => exact h.elim
  obtain ⟨M, rfl, hp, h⟩ := onM_in h
  exact Box.of_eq (lost_tree M _) ⟨_, WeakF.refl _, h⟩
noncomputable def c_gridM : FuncId → Option Con := conOf [(43, scr.tGrid)]
theorem kc_gridM : ∀ f T, c_gridM f = some T → Known Tryz.prog [] f T := (Knowns.cons scr.kGrid Knowns.nil).get
noncomputable def t_gridM : Con := fun args regs => nfun Tryz.prog [] c_gridM [] Tryz.f16 args regs
theorem k_gridM : KnownF Tryz.prog [] 16 t_gridM := known_inlF Tryz.func16 rfl (by kernel_rfl) mixed kc_gridM (by kernel_rfl)

/-! ### a byte of a module -/
noncomputable abbrev f_comes := Tryz.f46
noncomputable def c_comes : FuncId → Option Con := conOf [(71, tHears), (72, tSend), (73, tReads)]
theorem kc_comes : ∀ f T, c_comes f = some T → Known Tryz.prog [] f T := (Knowns.cons kHears (.cons kSend.known (.cons kReads.known .nil))).get
noncomputable def X_comes : Cx := { P := Tryz.prog, con := c_comes, glob := [], m := 7, loops := [] }
noncomputable def t_comes : Con := fun args regs => if regs.length = 7 then nfun Tryz.prog [] c_comes [(0, [0, 1, 2, 6, 15, 16, 17], unroll X_comes 0 [0, 1, 2, 6, 15, 16, 17] [0, 1, 2, 6] (bodyLoop f_comes 0) 3)] f_comes args regs else .fail
theorem k_comes : KnownF Tryz.prog [] 46 t_comes := known_loopsF 7 Tryz.func46 rfl (by kernel_rfl) mixed kc_comes (LAll.one (id := 0) (body := bodyLoop f_comes 0) (by kernel_rfl) rfl (unroll_ok (X := X_comes) kc_comes mixed (LAll.none (by kernel_rfl)) [0, 1, 2, 6, 15, 16, 17] [0, 1, 2, 6] 3))
/-- What a byte that is sent to a module wants. -/
noncomputable def sndR (k : Int) (b : List Int) (M : Mn) (N : Mn → Prop) : Prop := lensR M ∧ ((k = 2 ∨ k = 3) ∧ smallM (nrm M) ∧ b.length ≤ 100000) ∧ N (sendM k b (nrm M))
noncomputable def endR (k : RK) (M : Mn) (R : Out → Prop) : Prop := lensR M ∧ (OkM (nrm M) ∧ okJ k) ∧ R (done7 (readsM k.hd k.an k.j k.bs (nrm M)))
theorem comes_2 (M : Mn) (b : Int) (R : Out → Prop) : (t_comes [.c (.p 0 0 0), .c (.i .i64 2), .c (.i .u8 b)] (mnIn M)).run R =
    sel (M.p.M 10) (sndR 2 [b] M fun M1 => sel (M1.p.M 14) (sndR 3 [b] M1 fun M2 => endR ⟨2, plc 2, M.p.M 2, true, [b]⟩ M2 R) (endR ⟨2, plc 2, M.p.M 2, true, [b]⟩ M1 R))
      (sel (M.p.M 14) (sndR 3 [b] M fun M2 => endR ⟨2, plc 2, M.p.M 2, true, [b]⟩ M2 R) (endR ⟨2, plc 2, M.p.M 2, true, [b]⟩ M R)) := by kernel_rfl
theorem comes_3 (M : Mn) (b : Int) (R : Out → Prop) : (t_comes [.c (.p 0 0 0), .c (.i .i64 3), .c (.i .u8 b)] (mnIn M)).run R =
    sel (M.p.M 11) (sndR 2 [b] M fun M1 => sel (M1.p.M 15) (sndR 3 [b] M1 fun M2 => endR ⟨3, plc 3, M.p.M 3, true, [b]⟩ M2 R) (endR ⟨3, plc 3, M.p.M 3, true, [b]⟩ M1 R))
      (sel (M.p.M 15) (sndR 3 [b] M fun M2 => endR ⟨3, plc 3, M.p.M 3, true, [b]⟩ M2 R) (endR ⟨3, plc 3, M.p.M 3, true, [b]⟩ M R)) := by kernel_rfl
/-- Sent to those that hear. -/
noncomputable def toAll (j : Int) (b : List Int) (M : Mn) : Mn := let M1 := if hrs M.p.M 2 j then sendM 2 b M else M; if hrs M.p.M 3 j then sendM 3 b M1 else M1
noncomputable def comesM (j : Int) (b : Int) (M : Mn) : Mn := readsM (hrs M.p.M 0 j) true j [b] (toAll j [b] M)
theorem sendM_p (k : Int) (b : List Int) (M : Mn) : (sendM k b M).p = M.p := by
  unfold sendM
  split
  · rfl
  split
  · rfl
  · unfold putW; split <;> rfl
theorem sndR_in {k : Int} {b : List Int} {M : Mn} {N : Mn → Prop} (hM : OkM M) (hk : k = 2 ∨ k = 3) (hb : b.length ≤ 100000) (hN : N (sendM k b M)) : sndR k b M N := by
  unfold sndR
  rw [nrm_eq hM.p]
  exact ⟨⟨rfl, rfl, rfl, rfl, rfl, rfl⟩, ⟨hk, ⟨by have := hM.o2; omega, by have := hM.o3; omega⟩, hb⟩, hN⟩
theorem endR_in {k : RK} {M : Mn} {R : Out → Prop} (hM : OkM M) (hk : okJ k) (h : R (done7 (readsM k.hd k.an k.j k.bs M))) : endR k M R := by
  unfold endR
  rw [nrm_eq hM.p]
  exact ⟨⟨rfl, rfl, rfl, rfl, rfl, rfl⟩, ⟨hM, hk⟩, h⟩
noncomputable def tComes : Con := fun args regs => match args with
  | [.c (.p 0 0 0), .c (.i .i64 j), .c (.i .u8 b)] => onM regs fun M => .must (OkM M ∧ (j = 2 ∨ j = 3) ∧ byte b) (.ret (done7 (comesM j b M)))
  | _ => .fail
theorem OkM.toAll {M : Mn} (h : OkM M) (j : Int) (b : List Int) : OkM (toAll j b M) := by
  unfold mtl.toAll
  simp only []
  split
  · split
    · exact (h.send _ _).send _ _
    · exact h.send _ _
  · split
    · exact h.send _ _
    · exact h
/-- The tree of both sends, for those that hear as they do. -/
theorem toAll_in {M : Mn} {j : Int} {b : List Int} {c1 c2 : Bool} {E : Mn → Prop} (hM : OkM M) (hb : b.length ≤ 100000) (h1 : hrs M.p.M 2 j = c1) (h2 : hrs M.p.M 3 j = c2) (hc : ∀ M1 : Mn, M1.p = M.p → hrs M1.p.M 3 j = c2) (h : E (toAll j b M)) :
    sel c1 (sndR 2 b M fun M1 => sel (hrs M1.p.M 3 j) (sndR 3 b M1 fun M2 => E M2) (E M1)) (sel c2 (sndR 3 b M fun M2 => E M2) (E M)) := by
  unfold toAll at h
  simp only [h1, h2] at h
  cases c1 with
  | true =>
    refine selT rfl (sndR_in hM (.inl rfl) hb ?_)
    have e := hc _ (sendM_p 2 b M)
    rw [e]
    cases c2 with
    | true => exact selT rfl (sndR_in (hM.send _ _) (.inr rfl) hb h)
    | false => exact selF rfl h
  | false =>
    refine selF rfl ?_
    cases c2 with
    | true => exact selT rfl (sndR_in hM (.inr rfl) hb h)
    | false => exact selF rfl h
set_option maxRecDepth 100000 in
theorem kComes : KnownF Tryz.prog [] 46 tComes := by
  refine k_comes.weak fun args regs R h => Box.out ?_
  unfold tComes at h
  split at h
  case h_2 => exact h.elim
  rename_i j b
  obtain ⟨M, rfl, hp, h⟩ := onM_in h
  obtain ⟨⟨hM, hj, hb⟩, h⟩ := h
  have h : R (done7 (comesM j b M)) := h
  have hR : ∀ o, R o → ∃ o', WeakF o o' ∧ R o' := fun o ho => ⟨o, WeakF.refl _, ho⟩
  have hin : InBytes [b] := inB_cons hb inB_nil
  rcases hj with rfl | rfl
  · exact Box.of_eq (comes_2 M b _) (toAll_in (E := fun M2 => endR ⟨2, plc 2, M.p.M 2, true, [b]⟩ M2 _) hM (by simp) rfl rfl (fun M1 e => by rw [e])
      (endR_in (hM.toAll 2 [b]) ⟨.inr (.inl rfl), rfl, fun _ => .inl rfl, hin, by simp⟩ (hR _ h)))
  · exact Box.of_eq (comes_3 M b _) (toAll_in (E := fun M2 => endR ⟨3, plc 3, M.p.M 3, true, [b]⟩ M2 _) hM (by simp) rfl rfl (fun M1 e => by rw [e])
      (endR_in (hM.toAll 3 [b]) ⟨.inr (.inr rfl), rfl, fun _ => .inr rfl, hin, by simp⟩ (hR _ h)))
theorem OkM.comes {M : Mn} (h : OkM M) (j : Int) {b : Int} (hb : mtl.byte b) : OkM (comesM j b M) := OkM.reads _ (h.toAll j [b]) (inB_cons hb inB_nil)
end Go.Proofs.YtjfgphfdaghilaaGreatDoor.mtl
namespace Go.Proofs.YtjfgphfdaghilaaGreatDoor.mtl
open Go Go.Nx Go.Proofs.YtjfgphfdaghilaaGreatDoor.prt
open Go.Proofs.YtjfgphfdaghilaaGreatDoor.lex (arr lx InBytes mkEv K7 kMake)
open Go.Proofs.YtjfgphfdaghilaaGreatDoor.lxv (wf cel pend shft cc evts okP)
open Go.Proofs.YtjfgphfdaghilaaGreatDoor.scr (Scr Ev eventS rollsS Ins newS)

def yesO : Out := ⟨.v (.c (.b true)), []⟩
/-! ### bytes that are alike -/
noncomputable abbrev fSmB := Tryz.f18
noncomputable def XSmB : Cx := { P := Tryz.prog, con := (fun _ => Option.none), glob := [], m := 0, loops := [] }
noncomputable def sSmB (l : List Int) (i : Int) : St := { fr := frame 29 [(0, .v (.c (.l .u8 l))), (1, .v (.c (.l .u8 l))), (5, .v (.c (.i .i64 i)))], rg := [] }
def dSmB : St := { fr := frame 29 [], rg := [] }
theorem round_smb (l : List Int) (i : Int) (R : RO → Prop) : (roundT XSmB 0 [0, 1, 5] [4] (bodyLoop fSmB 0) (sSmB l i)).run R =
    sel (decide (i < (l.length : Int))) (ix i l (ix i l (sel (!(l.getD i.toNat 0 == l.getD i.toNat 0)) (R (RO.done NExit.ret { fr := frame 29 [(4, .v (.c (.b false)))], rg := [] })) (R (RO.next (sSmB l (w64 (i + 1))))))))
     (R (RO.done NExit.normal dSmB)) := by kernel_rfl
noncomputable def lSmB : List Leaf × List (List Leaf) → Tr (NExit × St) := fun x => match x with
  | ([.l l, .l l', .i i], []) => .must (l = l' ∧ 0 ≤ i ∧ i ≤ (l.length : Int) ∧ l.length ≤ 1000) (.ret (.normal, dSmB))
  | _ => .fail
noncomputable def pSmB : List Pat := pats 29 [(0, .l .u8), (1, .l .u8), (5, .i .i64)]
set_option maxRecDepth 100000 in
theorem loop_smb : LOk Tryz.prog [] 0 0 (bodyLoop fSmB 0) (sumP pSmB [] lSmB) := by
  refine sumP_ok (X := XSmB) con_none mixed (LAll.none (by kernel_rfl)) [0, 1, 5] [4] _ _ _ (fun x => match x with
    | ([.l l, .l _, .i i], []) => ((l.length : Int) - i).toNat
    | _ => 0) ?_
  rintro ⟨p, q⟩ R h
  unfold lSmB at h
  split at h
  case h_2 => exact h.elim
  rename_i l l' i he
  cases he
  have h1 := h.1
  have h2 : R (.normal, dSmB) := h.2
  clear h
  obtain ⟨rfl, h0, hle, h1000⟩ := h1
  show (roundT XSmB 0 [0, 1, 5] [4] (bodyLoop fSmB 0) (sSmB l i)).run _
  rw [round_smb]
  have hw : w64 (i + 1) = i + 1 := by unfold w64; rw [IntKind.wrap_i64]; omega
  refine sel_by (fun hlt => ix_in ⟨h0, hlt⟩ (ix_in ⟨h0, hlt⟩ (selF (by rw [bT rfl]; rfl) ?_))) fun hlt => h2
  rw [hw]
  exact ⟨([.l l, .l l, .i (i + 1)], []), rfl, by simp only; omega, ⟨rfl, by omega, by omega, h1000⟩, h2⟩
noncomputable def t_smb : Con := fun args regs => if regs.length = 0 then nfun Tryz.prog [] (fun _ => Option.none) [(0, [0, 1, 5], sumP pSmB [] lSmB)] fSmB args regs else .fail
theorem k_smb : Known Tryz.prog [] 18 t_smb := known_loops 0 Tryz.func18 rfl (by kernel_rfl) mixed con_none (LAll.one (id := 0) (body := bodyLoop fSmB 0) (by kernel_rfl) rfl loop_smb)
theorem smb_tree (l : List Int) (R : Out → Prop) : (t_smb [.c (.l .u8 l), .c (.l .u8 l)] []).run R = sel ((l.length : Int) != (l.length : Int)) (R ⟨.v (.c (.b false)), []⟩) ((l = l ∧ 0 ≤ (0 : Int) ∧ 0 ≤ (l.length : Int) ∧ l.length ≤ 1000) ∧ R yesO) := by kernel_rfl
noncomputable def tSmB : Con := fun args regs => match args, regs with
  | [.c (.l .u8 a), .c (.l .u8 b)], [] => .must (a = b ∧ a.length ≤ 1000) (.ret yesO)
  | _, _ => .fail
set_option maxRecDepth 100000 in
theorem kSmB : Known Tryz.prog [] 18 tSmB := by
  refine k_smb.less fun args regs R h => Box.out ?_
  unfold tSmB at h
  split at h
  case h_2 => exact h.elim
  rename_i a b
  have h1 := h.1
  have h2 : R yesO := h.2
  clear h
  obtain ⟨rfl, hl⟩ := h1
  exact Box.of_eq (smb_tree a R) (selF (by simp) ⟨⟨rfl, Int.le_refl _, by omega, hl⟩, h2⟩)

/-! ### the line, the socket -/
noncomputable def c_modem : FuncId → Option Con := conOf [(46, tComes)]
theorem kc_modem : ∀ f T, c_modem f = some T → Known Tryz.prog [] f T := (Knowns.cons kComes.known Knowns.nil).get
noncomputable def t_modem : Con := fun args regs => nfun Tryz.prog [] c_modem [] Tryz.f23 args regs
theorem k_modem : KnownF Tryz.prog [] 23 t_modem := known_inlF Tryz.func23 rfl (by kernel_rfl) mixed kc_modem (by kernel_rfl)
theorem modem_tree (M : Mn) (b : Int) (R : Out → Prop) : (t_modem [.c (.p 0 0 0), .c (.i .u8 b)] (mnIn M)).run R = (lensR M ∧ (OkM (nrm M) ∧ ((2 : Int) = 2 ∨ (2 : Int) = 3) ∧ byte b) ∧ R (done7 (comesM 2 b (nrm M)))) := by kernel_rfl
noncomputable def tByM (j : Int) : Con := fun args regs => match args with
  | [.c (.p 0 0 0), .c (.i .u8 b)] => onM regs fun M => .must (OkM M ∧ byte b) (.ret (done7 (comesM j b M)))
  | _ => .fail
theorem lensR_in (M : Mn) : lensR M := ⟨rfl, rfl, rfl, rfl, rfl, rfl⟩
set_option maxRecDepth 100000 in
theorem kModem : KnownF Tryz.prog [] 23 (tByM 2) := by
  refine k_modem.weak fun args regs R h => Box.out ?_
  unfold tByM at h
  split at h
  case h_2 => exact h.elim
  rename_i b
  obtain ⟨M, rfl, hp, h⟩ := onM_in h
  obtain ⟨⟨hM, hb⟩, h⟩ := h
  refine Box.of_eq (modem_tree M b _) ?_
  rw [nrm_eq hM.p]
  exact ⟨lensR_in M, ⟨hM, .inl rfl, hb⟩, _, WeakF.refl _, h⟩
noncomputable def t_socket : Con := fun args regs => nfun Tryz.prog [] c_modem [] Tryz.f21 args regs
theorem k_socket : KnownF Tryz.prog [] 21 t_socket := known_inlF Tryz.func21 rfl (by kernel_rfl) mixed kc_modem (by kernel_rfl)
theorem socket_tree (M : Mn) (b : Int) (R : Out → Prop) : (t_socket [.c (.p 0 0 0), .c (.i .u8 b)] (mnIn M)).run R = (lensR M ∧ (OkM (nrm M) ∧ ((3 : Int) = 2 ∨ (3 : Int) = 3) ∧ byte b) ∧ R (done7 (comesM 3 b (nrm M)))) := by kernel_rfl
set_option maxRecDepth 100000 in
theorem kSocket : KnownF Tryz.prog [] 21 (tByM 3) := by
  refine k_socket.weak fun args regs R h => Box.out ?_
  unfold tByM at h
  split at h
  case h_2 => exact h.elim
  rename_i b
  obtain ⟨M, rfl, hp, h⟩ := onM_in h
  obtain ⟨⟨hM, hb⟩, h⟩ := h
  refine Box.of_eq (socket_tree M b _) ?_
  rw [nrm_eq hM.p]
  exact ⟨lensR_in M, ⟨hM, .inr rfl, hb⟩, _, WeakF.refl _, h⟩

/-! ### the document's bytes as they go out -/
noncomputable def c_ln2 : FuncId → Option Con := conOf [(22, lex.tMake)]
theorem kc_ln2 : ∀ f T, c_ln2 f = some T → Known Tryz.prog [] f T := (Knowns.cons kMake Knowns.nil).get
noncomputable abbrev f_ln2 := Tryz.f78
noncomputable def X_ln2 : Cx := { P := Tryz.prog, con := c_ln2, glob := [], m := 0, loops := [] }
noncomputable def s_ln2 (xs out : List Int) (n : Nat) (i : Int) : St := { fr := frame 20 [(0, .v (.c (.l .u8 xs))), (3, .v (.c (.hz 0 n))), (4, .v (.c (.i .i64 i)))], rg := [some (arr out)] }
noncomputable def e_ln2 (out : List Int) (n : Nat) : St := { fr := frame 20 [(3, .v (.c (.hz 0 n)))], rg := [some (arr out)] }
theorem round_ln2 (xs out : List Int) (i : Int) (R : RO → Prop) : (roundT X_ln2 0 [0, 3, 4] [3] (bodyLoop f_ln2 0) (s_ln2 xs out out.length i)).run R =
    sel (decide (i < (xs.length : Int))) (ix i xs ((0 ≤ xs.getD i.toNat 0 ∧ xs.getD i.toNat 0 < 256) ∧ ap8 out.length out.length (R (.next (s_ln2 xs (List.take out.length out ++ [mkEv (xs.getD i.toNat 0)]) (out.length + 1) (w64 (i + 1)))))))
      (R (.done .normal (e_ln2 out out.length))) := by kernel_rfl
noncomputable def hL2 (a : AL) : St := s_ln2 a.xs a.out a.out.length a.i
def preL2 (a : AL) (R : NExit × St → Prop) : Prop := (0 ≤ a.i ∧ a.i ≤ (a.xs.length : Int)) ∧ a.xs.length ≤ 1000 ∧ a.out.length ≤ 1000 + a.i ∧ InBytes a.xs ∧
  R (.normal, e_ln2 (a.out ++ (a.xs.drop a.i.toNat).map mkEv) (a.out ++ (a.xs.drop a.i.toNat).map mkEv).length)
def rdL2 (s : St) : Option (List Int) := match s.fr[(0 : Nat)]? with
  | some (.v (.c (.l _ xs))) => some xs
  | _ => none
noncomputable def l_ln2 (s : St) : Tr (NExit × St) := match rdL2 s with
  | some xs => .must (s = s_ln2 xs [] 0 0 ∧ xs.length ≤ 1000 ∧ InBytes xs) (.ret (.normal, e_ln2 (xs.map mkEv) xs.length))
  | none => .fail
set_option maxRecDepth 100000 in
theorem loop_ln2 : LOk Tryz.prog [] 0 0 (bodyLoop f_ln2 0) l_ln2 := by
  refine loop_ok (X := X_ln2) kc_ln2 mixed (LAll.none (by kernel_rfl)) [0, 3, 4] [3] hL2 (fun a => ((a.xs.length : Int) - a.i).toNat) preL2 ?_ ?_
  · intro s R h
    unfold l_ln2 at h
    split at h
    case h_2 => exact h.elim
    rename_i xs hrd
    obtain ⟨⟨hs, hl, hb⟩, hR⟩ := h
    refine ⟨⟨xs, [], 0⟩, hs, ⟨by simp only; omega, by simp only; omega⟩, hl, by simp, hb, ?_⟩
    show R (.normal, e_ln2 ([] ++ (xs.drop 0).map mkEv) ([] ++ (xs.drop 0).map mkEv).length)
    rw [List.drop_zero, List.nil_append, List.length_map]
    exact hR
  · intro a R h
    obtain ⟨xs, out, i⟩ := a
    obtain ⟨hi, hl, ho, hb, hR⟩ := h
    simp only at hi hl ho hb hR
    refine Tr.run_mono _ (fun o ho => ho) (Box.of_eq (round_ln2 xs out i _) (sel_by (fun hlt => ix_in ⟨hi.1, hlt⟩ ⟨get_byte hb ⟨hi.1, hlt⟩, ap8_in (Nat.le_refl _) (by omega) ?_⟩) fun hlt => ?_)).out
    · have hw : w64 (i + 1) = i + 1 := w64_id (by omega)
      rw [List.take_length, hw]
      rw [drop_get ⟨hi.1, hlt⟩, List.map_cons] at hR
      refine ⟨⟨xs, out ++ [mkEv (xs.getD i.toNat 0)], i + 1⟩, ?_, by simp only; omega, ⟨by simp only; omega, by simp only; omega⟩, hl, by simp only [List.length_append, List.length_singleton]; omega, hb, ?_⟩
      · show s_ln2 _ _ (out.length + 1) _ = s_ln2 _ _ (out ++ [mkEv (xs.getD i.toNat 0)]).length _
        rw [List.length_append]; rfl
      · show R (.normal, e_ln2 ((out ++ [mkEv (xs.getD i.toNat 0)]) ++ (xs.drop (i + 1).toNat).map mkEv) _)
        rw [List.append_assoc]
        exact hR
    · rw [List.drop_eq_nil_iff.2 (by omega), List.map_nil, List.append_nil] at hR
      exact hR
noncomputable def t_ln2 : Con := fun args regs => if regs.length = 0 then nfun Tryz.prog [] c_ln2 [(0, [0, 3, 4], canonL [(3, arr [])] [] 0 [0, 3, 4] l_ln2)] f_ln2 args regs else .fail
theorem k_ln2 : KnownF Tryz.prog [] 78 t_ln2 := known_loopsF 0 Tryz.func78 rfl (by kernel_rfl) mixed kc_ln2 (LAll.one (id := 0) (body := bodyLoop f_ln2 0) (by kernel_rfl) rfl (loop_ln2.canon [(3, arr [])] [] [0, 3, 4]))
theorem ln2_tree (xs : List Int) (R : Out → Prop) : (t_ln2 [.c (.l .u8 xs)] []).run R = ((s_ln2 xs [] 0 0 = s_ln2 xs [] 0 0 ∧ xs.length ≤ 1000 ∧ InBytes xs) ∧ R ⟨.v (.c (.hz 0 xs.length)), [some (arr (xs.map mkEv))]⟩) := by kernel_rfl
noncomputable def tLn2 : Con := fun args regs => match args, regs with
  | [.c (.l .u8 xs)], [] => .must (xs.length ≤ 1000 ∧ InBytes xs) (.ret ⟨.v (.c (.l .u8 (xs.map mkEv))), []⟩)
  | _, _ => .fail
theorem hz_list (xs : List Int) (n : Nat) (hn : n = xs.length) : Weak ⟨.v (.c (.hz 0 n)), [some (arr xs)]⟩ ⟨.v (.c (.l .u8 xs)), []⟩ := fun Γ0 Γ w0 w v h1 h2 h3 => by
  subst hn
  rcases h2 with ⟨e | e, e2⟩
  · obtain ⟨hn, hv, -⟩ := e
    have : xs = [] := List.length_eq_zero_iff.1 hn
    subst this
    have hv' : v = Value.slice none 0 0 := hv
    exact ⟨Γ, h1, ⟨⟨none, 0, hv', Nat.le_refl _, .inl rfl⟩, e2⟩, h3.fewer fun n g hg => by simp at hg⟩
  · exact ((Weak.ints (k := 0) (xs := xs) rfl).trans (Weak.drop (rg' := []) fun n g hg => by simp at hg)) Γ0 Γ w0 w v h1 ⟨e, e2⟩ h3
set_option maxRecDepth 100000 in
theorem kLn2 : Known Tryz.prog [] 78 tLn2 := by
  refine k_ln2.known.weak fun args regs R h => Box.out ?_
  unfold tLn2 at h
  split at h
  case h_2 => exact h.elim
  rename_i xs
  obtain ⟨h1, h2⟩ : (xs.length ≤ 1000 ∧ InBytes xs) ∧ R ⟨.v (.c (.l .u8 (xs.map mkEv))), []⟩ := h
  exact Box.of_eq (ln2_tree xs _) ⟨⟨rfl, h1⟩, _, hz_list (xs.map mkEv) xs.length (by simp), h2⟩

/-! ### the chapter's examples -/
noncomputable def c_fst : FuncId → Option Con := conOf [(10, tNewM), (19, tOut)]
theorem kc_fst : ∀ f T, c_fst f = some T → Known Tryz.prog [] f T := (Knowns.cons kNewM (.cons kOut.known .nil)).get
noncomputable def tFst : Con := fun args regs => match args, regs with
  | [], [] => .ret yesO
  | _, _ => .fail
end Go.Proofs.YtjfgphfdaghilaaGreatDoor.mtl
namespace Go.Proofs.YtjfgphfdaghilaaGreatDoor.mtl
open Go Go.Nx Go.Proofs.YtjfgphfdaghilaaGreatDoor.prt
open Go.Proofs.YtjfgphfdaghilaaGreatDoor.lex (arr lx InBytes mkEv K7)
open Go.Proofs.YtjfgphfdaghilaaGreatDoor.lxv (wf cel pend shft cc evts okP ev ignR)
open Go.Proofs.YtjfgphfdaghilaaGreatDoor.scr (Scr Ev eventS rollsS Ins newS)

/-- A byte that no one else hears. -/
theorem comes_own {j : Int} {b : Int} {M : Mn} (h2 : hrs M.p.M 2 j = false) (h3 : hrs M.p.M 3 j = false) : comesM j b M = byteM (hrs M.p.M 0 j) true j M b := by
  unfold comesM toAll
  simp only [h2, h3]
  rfl
theorem cc_27 : cc (mkEv 27) = 27 := by kernel_rfl
theorem cc_57 : cc (mkEv 57) = 57 := by kernel_rfl
theorem cc_123 : cc (mkEv 123) = 123 := by kernel_rfl
theorem ev_a (s : Int) : evts [] s 27 = [] := by kernel_rfl
theorem pe_a : pend [] 27 = [27] := by kernel_rfl
theorem sh_a (s : Int) : shft s 27 = s := by kernel_rfl
theorem ev_b (s : Int) : evts [27] s 57 = [] := by kernel_rfl
theorem pe_b : pend [27] 57 = [27, 57] := by kernel_rfl
theorem sh_b (s : Int) : shft s 57 = s := by kernel_rfl
theorem ev_c (s : Int) : evts [27, 57] s 123 = [ev 10 1 123 0 0 0 0] := by kernel_rfl
theorem pe_c : pend [27, 57] 123 = [] := by kernel_rfl
theorem sh_c (s : Int) : shft s 123 = s := by kernel_rfl

/-! ### who it is, asked by the line -/
def oneV : List Int := [mkEv 1, mkEv 67, mkEv 117, mkEv 60, mkEv 4]
/-- A Minitel of which nothing was set. -/
def LM (most : Int) (o : List Int) (k : Int) : Mn := { newM most with o2 := o, lost := k }
theorem ask_123 (p : PS) : askV p 10 1 123 0 0 = (({ p with ec := p.M 1 } : PS), [1, 67, 117, 60, 4]) := rfl
theorem start_ec : ({ startP with ec := startP.M 1 } : PS) = startP := rfl
theorem rolls_new : rollsS startP.ro newS = newS := rfl
/-- The first two bytes. -/
theorem lm_1 (most : Int) (o : List Int) (k : Int) : comesM 2 (mkEv 27) (LM most o k) = { LM most o k with l2 := ⟨[27], 0⟩ } := by
  rw [comes_own rfl rfl]
  unfold byteM nextL
  rw [cc_27]
  show evsM _ true 2 (evts [] 0 27) (setL (LM most o k) 2 ⟨pend [] 27, shft 0 27⟩) = _
  rw [ev_a, pe_a, sh_a]
  rfl
theorem lm_2 (most : Int) (o : List Int) (k : Int) : comesM 2 (mkEv 57) { LM most o k with l2 := ⟨[27], 0⟩ } = { LM most o k with l2 := ⟨[27, 57], 0⟩ } := by
  rw [comes_own rfl rfl]
  unfold byteM nextL
  rw [cc_57]
  show evsM _ true 2 (evts [27] 0 57) (setL { LM most o k with l2 := ⟨[27], 0⟩ } 2 ⟨pend [27] 57, shft 0 57⟩) = _
  rw [ev_b, pe_b, sh_b]
  rfl
theorem lm_3 (most : Int) (o : List Int) (k : Int) : comesM 2 (mkEv 123) { LM most o k with l2 := ⟨[27, 57], 0⟩ } = sendM 2 oneV (LM most o k) := by
  rw [comes_own rfl rfl]
  unfold byteM nextL
  rw [cc_123]
  show evsM _ true 2 (evts [27, 57] 0 123) (setL { LM most o k with l2 := ⟨[27, 57], 0⟩ } 2 ⟨pend [27, 57] 123, shft 0 123⟩) = _
  rw [ev_c, pe_c, sh_c]
  rfl
theorem lm_send (most : Int) (o : List Int) (k : Int) : sendM 2 oneV (LM most o k) = if (o.length : Int) + 5 ≤ most then LM most (o ++ oneV) k else LM most o (w64 (k + 1)) := by
  unfold sendM
  rw [if_neg (by unfold oneV; simp)]
  show (if ((o.length : Int) + 5 > most) then _ else _) = _
  by_cases h : (o.length : Int) + 5 ≤ most
  · rw [if_pos h, if_neg (by omega)]; rfl
  · rw [if_neg h, if_pos (by omega)]; rfl
end Go.Proofs.YtjfgphfdaghilaaGreatDoor.mtl
namespace Go.Proofs.YtjfgphfdaghilaaGreatDoor.mtl
open Go Go.Nx Go.Proofs.YtjfgphfdaghilaaGreatDoor.prt
open Go.Proofs.YtjfgphfdaghilaaGreatDoor.lex (arr lx InBytes mkEv K7 kMake)
open Go.Proofs.YtjfgphfdaghilaaGreatDoor.lxv (wf cel pend shft cc evts okP ev ignR)
open Go.Proofs.YtjfgphfdaghilaaGreatDoor.scr (Scr Ev eventS rollsS Ins newS)

noncomputable def lvI : List Nat := [0, 1, 5, 6, 8, 9, 10, 11, 40, 41, 42]
noncomputable def lvO : List Nat := [0, 1, 5, 6, 8, 9, 10, 11]
noncomputable def s_lo (M : Mn) (most n : Int) (w : List Int) (k : Nat) (lost i : Int) : St := { fr := frame 86 [(0, .v (.c (.i .i64 most))), (1, .v (.c (.i .i64 n))), (5, .v (.c (.b true))), (6, .v (.c (.p 0 0 0))), (8, .v (.c (.hz 7 k))), (9, .v (.c (.i .i64 lost))), (10, .v (.c (.l .u8 oneV))), (11, .v (.c (.i .i64 i)))], rg := (mnIn M).map some ++ [some (arr w)] }
noncomputable def e_lo (M : Mn) (w : List Int) (k : Nat) (lost : Int) : St := { fr := frame 86 [(5, .v (.c (.b true))), (6, .v (.c (.p 0 0 0))), (8, .v (.c (.hz 7 k))), (9, .v (.c (.i .i64 lost)))], rg := (mnIn M).map some ++ [some (arr w)] }
noncomputable def mdR (c : Int) (M : Mn) (N : Mn → Prop) : Prop := (0 ≤ c ∧ c < 256) ∧ lensR M ∧ (OkM (nrm M) ∧ byte (mkEv c)) ∧ N (comesM 2 (mkEv c) (nrm M))
/-! ### the loop, summed up -/
def goLo (most : Int) : Nat → List Int → Int → List Int × Int
  | 0, o, k => (o, k)
  | n + 1, o, k => if (o.length : Int) + 5 ≤ most then goLo most n (o ++ oneV) k else goLo most n o (w64 (k + 1))
structure ALo where
  most : Int
  n : Int
  o : List Int
  k : Int
  i : Int
noncomputable def h_lo (a : ALo) : St := s_lo (LM a.most a.o a.k) a.most a.n a.o a.o.length a.k a.i
noncomputable def end_lo (most : Int) (r : List Int × Int) : NExit × St := (.normal, e_lo (LM most r.1 r.2) r.1 r.1.length r.2)
def boLo (most n : Int) : Prop := 1 ≤ most ∧ most ≤ 40 ∧ 0 ≤ n ∧ n ≤ 20
def preLo (a : ALo) (R : NExit × St → Prop) : Prop := boLo a.most a.n ∧ 0 ≤ a.i ∧ a.o.length ≤ 40 ∧ R (end_lo a.most (goLo a.most (a.n - a.i).toNat a.o a.k))
theorem lm_ok {most : Int} {o : List Int} {k : Int} (h : most ≤ 5000) (ho : o.length ≤ 5000) : OkM (LM most o k) := ⟨ins_newS, startP_ok, h, ho, by simp [LM, newM], OkL.nil, OkL.nil, OkL.nil⟩
theorem ok_l2 {M : Mn} (h : OkM M) {l : LL} (hl : OkL l) : OkM { M with l2 := l } := ⟨h.sc, h.p, h.most, h.o2, h.o3, h.l1, hl, h.l3⟩
theorem okL_1 : OkL ⟨[27], 0⟩ := OkL.next (l := ⟨[], 0⟩) OkL.nil (b := mkEv 27) (by decide +kernel)
theorem okL_2 : OkL ⟨[27, 57], 0⟩ := OkL.next (l := ⟨[27], 0⟩) okL_1 (b := mkEv 57) (by decide +kernel)
theorem mdR_in {c : Int} {M : Mn} {N : Mn → Prop} (hc : 0 ≤ c ∧ c < 256) (hM : OkM M) (hN : N (comesM 2 (mkEv c) M)) : mdR c M N := by
  unfold mdR
  rw [nrm_eq hM.p]
  exact ⟨hc, lensR_in M, ⟨hM, mkEv_byte hc⟩, hN⟩
theorem ask3_in {most : Int} {o : List Int} {k : Int} {N : Mn → Prop} (h : most ≤ 5000) (ho : o.length ≤ 5000) (hN : N (sendM 2 oneV (LM most o k))) : mdR 27 (LM most o k) fun M1 => mdR 57 M1 fun M2 => mdR 123 M2 N := by
  have hM := lm_ok (k := k) h ho
  refine mdR_in (by decide) hM ?_
  rw [lm_1]
  refine mdR_in (by decide) (ok_l2 hM okL_1) ?_
  rw [lm_2]
  refine mdR_in (by decide) (ok_l2 hM okL_2) ?_
  rw [lm_3]
  exact hN
theorem oneV_len : oneV.length = 5 := rfl
def rdLo (s : St) : Option (Int × Int) := match s.fr[(0 : Nat)]?, s.fr[(1 : Nat)]? with
  | some (.v (.c (.i _ most))), some (.v (.c (.i _ n))) => some (most, n)
  | _, _ => none
noncomputable def l_lo (s : St) : Tr (NExit × St) := match rdLo s with
  | some (most, n) => .must (s = s_lo (LM most [] 0) most n [] 0 0 0 ∧ boLo most n) (.ret (end_lo most (goLo most n.toNat [] 0)))
  | none => .fail
/-! ### the law -/
def bytesR (O w : List Int) (N : Prop) : Prop := sel (decide (O.length ≤ O.length)) (sel (decide (w.length ≤ w.length)) ((List.take O.length O = List.take w.length w ∧ (List.take O.length O).length ≤ 1000) ∧ N) False) False
def outQ (M : Mn) (N : Prop) : Prop := lensR M ∧ (((2 : Int) = 2 ∨ (2 : Int) = 3) ∧ smallM (nrm M)) ∧ N
noncomputable def fin_lo (most : Int) (r : List Int × Int) (R : Out → Prop) : Prop :=
  outQ (LM most r.1 r.2) (bytesR r.1 r.1 (lensR (LM most r.1 r.2) ∧ sel (r.2 == r.2) (outQ (LM most r.1 r.2) (bytesR r.1 r.1 (outQ (LM most [] r.2) (R yesO)))) (R ⟨.v (.c (.b false)), []⟩)))
theorem goLo_len {most : Int} (hm : most ≤ 5000) : ∀ (n : Nat) (o : List Int) (k : Int), o.length ≤ 5000 → (goLo most n o k).1.length ≤ 5000
  | 0, o, k, h => h
  | n + 1, o, k, h => by
    unfold goLo
    split
    · rename_i h1
      exact goLo_len hm n _ _ (by rw [List.length_append, oneV_len]; omega)
    · exact goLo_len hm n _ _ h
theorem goLo_small {most : Int} (hm : most ≤ 1000) : ∀ (n : Nat) (o : List Int) (k : Int), o.length ≤ 1000 → (goLo most n o k).1.length ≤ 1000
  | 0, o, k, h => h
  | n + 1, o, k, h => by
    unfold goLo
    split
    · rename_i h1
      exact goLo_small hm n _ _ (by rw [List.length_append, oneV_len]; omega)
    · exact goLo_small hm n _ _ h
theorem bytesR_in {O w : List Int} {N : Prop} (h : O = w) (hl : O.length ≤ 1000) (hN : N) : bytesR O w N := by
  subst h
  exact selT (dT (Nat.le_refl _)) (selT (dT (Nat.le_refl _)) ⟨⟨rfl, by rw [List.take_length]; exact hl⟩, hN⟩)
theorem outQ_in {M : Mn} {N : Prop} (h2 : M.o2.length ≤ 1000) (h3 : M.o3.length ≤ 1000) (hN : N) : outQ M N :=
  ⟨lensR_in M, ⟨.inl rfl, ⟨by show M.o2.length ≤ 100000; omega, by show M.o3.length ≤ 100000; omega⟩⟩, hN⟩
theorem Gives.holds {t : Tr Out} (h : ∀ R : Out → Prop, R yesO → Box (t.run R)) : Holds t fun o => o.res = .v (.c (.b true)) := ⟨Box.out (h _ rfl)⟩
def shsLo : List Sh := [.i .i64, .i .i64]
theorem known_gl {P : Program} {gl : List Nat} {f : FuncId} {T : Con} (h : Known P [] f T) : Known P gl f T :=
  ⟨h.goes, fun args regs R hR Γ w vs hw _ ha ho => h.sound args regs R hR Γ w vs hw ⟨(fun x hx => by cases hx), (fun x hx => by cases hx)⟩ ha ho⟩
def GL : List Nat := [396, 0]
end Go.Proofs.YtjfgphfdaghilaaGreatDoor.mtl
