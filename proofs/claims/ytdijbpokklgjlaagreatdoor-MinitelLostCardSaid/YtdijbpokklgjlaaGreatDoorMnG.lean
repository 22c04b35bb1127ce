/-
  The Minitel: its functions, by contracts.
-/
import Derived.Test.YtdijbpokklgjlaaGreatDoorMnF
import Derived.Test.YtdijbpokklgjlaaGreatDoorScI
set_option linter.unusedVariables false
namespace Go.Proofs.YtdijbpokklgjlaaGreatDoor.mtl
open Go Go.Nx Go.Proofs.YtdijbpokklgjlaaGreatDoor.prt
open Go.Proofs.YtdijbpokklgjlaaGreatDoor.lex (arr lx InBytes mkEv K7)
open Go.Proofs.YtdijbpokklgjlaaGreatDoor.lxv (wf clo clone_tree cel pend shft cc evts okP)
open Go.Proofs.YtdijbpokklgjlaaGreatDoor.scr (Scr rdS rdS_in Ev eventS tEvent kEvent tRolls kRolls rollsS PreE Ins newS tNew kNew)

/-! ### the beginning -/
noncomputable def c_newM : FuncId → Option Con := conOf [(22, tNew), (23, tPStart)]
theorem kc_newM : ∀ f T, c_newM f = some T → Known Tryz.prog [] f T := (Knowns.cons kNew (.cons kPStart .nil)).get
noncomputable def t_newM : Con := canonT 2 csM none (fun args regs => nfun Tryz.prog [] c_newM [] Tryz.f8 args regs)
theorem k_newM : KnownF Tryz.prog [] 8 t_newM := (known_inlF Tryz.func8 rfl (by kernel_rfl) mixed kc_newM (by kernel_rfl)).canon 2 csM none
def newM (most : Int) : Mn := { most := most, sc := newS, p := startP, l1 := ⟨[], 0⟩, l2 := ⟨[], 0⟩, l3 := ⟨[], 0⟩, o2 := [], o3 := [], lost := 0 }
def newO (most : Int) : Out := ⟨.tu [.c (.p 0 0 0), .c .en], (mnIn (newM most)).map some⟩
theorem newM_tree (most : Int) (R : Out → Prop) : (t_newM [.c (.i .i64 most)] []).run R = sel (decide (most < 1)) False (sel (decide (most > 4096)) False (R (newO most))) := by kernel_rfl
noncomputable def tNewM : Con := fun args regs => match args, regs with
  | [.c (.i .i64 most)], [] => .must (1 ≤ most ∧ most ≤ 4096) (.ret (newO most))
  | _, _ => .fail
set_option maxRecDepth 100000 in
theorem kNewM : Known Tryz.prog [] 8 tNewM := by
  refine k_newM.known.less fun args regs R h => Box.out ?_
  unfold tNewM at h
  split at h
  case h_2 => exact h.elim
  rename_i most
  obtain ⟨⟨h1, h2⟩, h⟩ := h
  exact Box.of_eq (newM_tree most R) (selF (dF (by omega)) (selF (dF (by omega)) h))
theorem ins_newS : ∃ r, Ins r newS := ⟨_, scr.ins_new false⟩
theorem OkL.nil : OkL ⟨[], 0⟩ := ⟨by simp, .inl rfl⟩
theorem newM_ok {most : Int} (h : most ≤ 5000) : OkM (newM most) := ⟨ins_newS, startP_ok, h, by simp [newM], by simp [newM], OkL.nil, OkL.nil, OkL.nil⟩

/-! ### copies -/
theorem k_cloneM : KnownF Tryz.prog [] 26 lex.t_clone := known_inlF Tryz.func26 rfl (by kernel_rfl) mixed con_none (by kernel_rfl)
noncomputable def tCloneM : Con := fun args regs => match args, regs with
  | [.c (.l .u8 P)], [] => .must (P.length ≤ 1000000) (.ret ⟨.v (.c (.hz 0 P.length)), [some (arr P)]⟩)
  | _, _ => .fail
set_option maxRecDepth 100000 in
theorem kCloneM : KnownF Tryz.prog [] 26 tCloneM := by
  refine k_cloneM.weak fun args regs R h => Box.out ?_
  unfold tCloneM at h
  split at h
  case h_2 => exact h.elim
  rename_i P
  have h1 := h.1
  have h2 : R ⟨.v (.c (.hz 0 P.length)), [some (arr P)]⟩ := h.2
  clear h
  show Box ((lex.t_clone [.c (.l .u8 P)] []).run (wf R))
  have hc : clo P (wf R) := by
    refine selT (dT (by omega)) (selT (dT (by omega)) ?_)
    rw [Nat.zero_add]
    exact ⟨_, WeakF.res (y := .v (.c (.hz 0 P.length))) fun Γ v hv => hz_of_h Γ v hv, h2⟩
  refine Box.of_eq (clone_tree P (wf R)) ?_
  cases hP : P.isEmpty with
  | false => exact selF rfl hc
  | true =>
    refine selT rfl fun y _ => ?_
    cases y with
    | false => exact selF rfl hc
    | true =>
      have : P = [] := by simpa using hP
      subst this
      exact selT rfl ⟨_, WeakF.nilRes (g := arr []) (.inl ⟨_, rfl⟩), h2⟩

/-! ### what waits -/
noncomputable def c_out : FuncId → Option Con := conOf [(26, tCloneM)]
theorem kc_out : ∀ f T, c_out f = some T → Known Tryz.prog [] f T := (Knowns.cons kCloneM.known Knowns.nil).get
noncomputable def t_out : Con := fun args regs => nfun Tryz.prog [] c_out [] Tryz.f15 args regs
theorem k_out : KnownF Tryz.prog [] 15 t_out := known_inlF Tryz.func15 rfl (by kernel_rfl) mixed kc_out (by kernel_rfl)
def outO (M : Mn) (O : List Int) : Out := ⟨.v (.c (.hz 7 O.length)), (mnIn M).map some ++ [some (arr O)]⟩
def outR (M : Mn) (O : List Int) (R : Out → Prop) : Prop := sel (decide (O.length ≤ O.length)) ((List.take O.length O).length ≤ 1000000 ∧ R (outO M (List.take O.length O))) False
theorem out_2 (M : Mn) (R : Out → Prop) : (t_out [.c (.p 0 0 0), .c (.i .i64 2)] (mnIn M)).run R = outR M M.o2 R := by kernel_rfl
theorem out_3 (M : Mn) (R : Out → Prop) : (t_out [.c (.p 0 0 0), .c (.i .i64 3)] (mnIn M)).run R = outR M M.o3 R := by kernel_rfl
noncomputable def tOut : Con := fun args regs => match args with
  | [.c (.p 0 0 0), .c (.i .i64 j)] => onM regs fun M => .must ((j = 2 ∨ j = 3) ∧ smallM M) (.ret (outO M (outW M j)))
  | _ => .fail
theorem outR_in {M : Mn} {O : List Int} {R : Out → Prop} (hl : O.length ≤ 100000) (h : R (outO M O)) : outR M O R := by
  refine selT (dT (Nat.le_refl _)) ?_
  rw [List.take_length]
  exact ⟨by omega, h⟩
set_option maxRecDepth 100000 in
theorem kOut : KnownF Tryz.prog [] 15 tOut := by
  refine k_out.weak fun args regs R h => Box.out ?_
  unfold tOut at h
  split at h
  case h_2 => exact h.elim
  rename_i j
  obtain ⟨M, rfl, hp, h⟩ := onM_in h
  obtain ⟨⟨hj, h2, h3⟩, h⟩ := h
  have h : R (outO M (outW M j)) := h
  have hR : ∀ o, R o → ∃ o', WeakF o o' ∧ R o' := fun o ho => ⟨o, WeakF.refl _, ho⟩
  rcases hj with rfl | rfl
  · exact Box.of_eq (out_2 M _) (outR_in h2 (hR _ h))
  · exact Box.of_eq (out_3 M _) (outR_in h3 (hR _ h))
noncomputable def c_take : FuncId → Option Con := conOf [(15, tOut)]
theorem kc_take : ∀ f T, c_take f = some T → Known Tryz.prog [] f T := (Knowns.cons kOut.known Knowns.nil).get
noncomputable def t_take : Con := canonT 10 csM none (fun args regs => nfun Tryz.prog [] c_take [] Tryz.f12 args regs)
theorem k_take : KnownF Tryz.prog [] 12 t_take := (known_inlF Tryz.func12 rfl (by kernel_rfl) mixed kc_take (by kernel_rfl)).canon 10 csM none
def takeX (M : Mn) (O : List Int) (a b : Option Reg) : Out := ⟨.v (.c (.hz 7 O.length)), [some (mnR M 10 11 12 13 14), some (scr.scr M.sc), none, none, none, a, b, some (arr O), none, none, some (arr M.l1.P), some (arr M.l2.P), some (arr M.l3.P), some (arr M.o2), some (arr M.o3)]⟩
def takeO (M : Mn) (O : List Int) : Out := takeX M O none none
theorem take_2 (M : Mn) (R : Out → Prop) : (t_take [.c (.p 0 0 0), .c (.i .i64 2)] (mnIn M)).run R = (lensR M ∧ (((2 : Int) = 2 ∨ (2 : Int) = 3) ∧ smallM (nrm M)) ∧
    sel (decide ((M.o2.length : Int) > 0)) (R (takeX { M with o2 := [] } M.o2 (some (arr M.o2)) none)) (R (takeO M M.o2))) := by kernel_rfl
theorem take_3 (M : Mn) (R : Out → Prop) : (t_take [.c (.p 0 0 0), .c (.i .i64 3)] (mnIn M)).run R = (lensR M ∧ (((3 : Int) = 2 ∨ (3 : Int) = 3) ∧ smallM (nrm M)) ∧
    sel (decide ((M.o3.length : Int) > 0)) (R (takeX { M with o3 := [] } M.o3 none (some (arr M.o3)))) (R (takeO M M.o3))) := by kernel_rfl
def takeM (j : Int) (M : Mn) : Mn := if j = 2 then { M with o2 := [] } else { M with o3 := [] }
noncomputable def tTake : Con := fun args regs => match args with
  | [.c (.p 0 0 0), .c (.i .i64 j)] => onM regs fun M => .must ((j = 2 ∨ j = 3) ∧ smallM M) (.ret (takeO (takeM j M) (outW M j)))
  | _ => .fail
theorem take_drop {M : Mn} {O : List Int} {a b : Option Reg} : WeakF (takeX M O a b) (takeO M O) := by
  refine WeakF.drop (Nat.le_refl _) fun n g hn => ?_
  match n, hn with
  | 0, hn | 1, hn | 7, hn | 10, hn | 11, hn | 12, hn | 13, hn | 14, hn => exact hn
  | 2, hn | 3, hn | 4, hn | 5, hn | 6, hn | 8, hn | 9, hn => cases hn
  | n + 15, hn => cases hn
set_option maxRecDepth 100000 in
theorem kTake : KnownF Tryz.prog [] 12 tTake := by
  refine k_take.weak fun args regs R h => Box.out ?_
  unfold tTake at h
  split at h
  case h_2 => exact h.elim
  rename_i j
  obtain ⟨M, rfl, hp, h⟩ := onM_in h
  obtain ⟨⟨hj, hs⟩, h⟩ := h
  have h : R (takeO (takeM j M) (outW M j)) := h
  have hn : ∀ O : List Int, ¬ (O.length : Int) > 0 → O = [] := fun O ho => List.length_eq_zero_iff.1 (by omega)
  rcases hj with rfl | rfl
  · refine Box.of_eq (take_2 M _) ⟨⟨rfl, rfl, rfl, rfl, rfl, rfl⟩, ⟨.inl rfl, hs⟩, sel_by (fun _ => ⟨_, take_drop, h⟩) fun e => ⟨_, WeakF.refl _, ?_⟩⟩
    have e1 := hn _ e
    have e2 : takeM 2 M = M := by
      show { M with o2 := [] } = M
      rw [← e1]
    rw [e2] at h
    exact h
  · refine Box.of_eq (take_3 M _) ⟨⟨rfl, rfl, rfl, rfl, rfl, rfl⟩, ⟨.inr rfl, hs⟩, sel_by (fun _ => ⟨_, take_drop, h⟩) fun e => ⟨_, WeakF.refl _, ?_⟩⟩
    have e1 := hn _ e
    have e2 : takeM 3 M = M := by
      show { M with o3 := [] } = M
      rw [← e1]
    rw [e2] at h
    exact h

/-! ### what was lost, what is on the screen -/
noncomputable def t_lost : Con := fun args regs => nfun Tryz.prog [] (fun _ => Option.none) [] Tryz.f16 args regs
theorem k_lost : KnownF Tryz.prog [] 16 t_lost := known_inlF Tryz.func16 rfl (by kernel_rfl) mixed con_none (by kernel_rfl)
def lostO (M : Mn) : Out := ⟨.v (.c (.i .i64 M.lost)), (mnIn M).map some⟩
theorem lost_tree (M : Mn) (R : Out → Prop) : (t_lost [.c (.p 0 0 0)] (mnIn M)).run R = R (lostO M) := by kernel_rfl
noncomputable def tLost : Con := fun args regs => match args with
  | [.c (.p 0 0 0)] => onM regs fun M => .ret (lostO M)
  | _ => .fail
set_option maxRecDepth 100000 in
theorem kLost : KnownF Tryz.prog [] 16 tLost := by
  refine k_lost.weak fun args regs R h => Box.out ?_
  unfold tLost at h
  split at h
  case h_2 => exact h.elim
  obtain ⟨M, rfl, hp, h⟩ := onM_in h
  exact Box.of_eq (lost_tree M _) ⟨_, WeakF.refl _, h⟩
noncomputable def c_gridM : FuncId → Option Con := conOf [(27, scr.tGrid)]
theorem kc_gridM : ∀ f T, c_gridM f = some T → Known Tryz.prog [] f T := (Knowns.cons scr.kGrid Knowns.nil).get
noncomputable def t_gridM : Con := fun args regs => nfun Tryz.prog [] c_gridM [] Tryz.f19 args regs
theorem k_gridM : KnownF Tryz.prog [] 19 t_gridM := known_inlF Tryz.func19 rfl (by kernel_rfl) mixed kc_gridM (by kernel_rfl)

/-! ### a byte of a module -/
noncomputable abbrev f_comes := Tryz.f24
noncomputable def c_comes : FuncId → Option Con := conOf [(30, tHears), (31, tSend), (32, tReads)]
theorem kc_comes : ∀ f T, c_comes f = some T → Known Tryz.prog [] f T := (Knowns.cons kHears (.cons kSend.known (.cons kReads.known .nil))).get
noncomputable def X_comes : Cx := { P := Tryz.prog, con := c_comes, glob := [], m := 7, loops := [] }
noncomputable def t_comes : Con := fun args regs => if regs.length = 7 then nfun Tryz.prog [] c_comes [(0, [0, 1, 2, 6, 15, 16, 17], unroll X_comes 0 [0, 1, 2, 6, 15, 16, 17] [0, 1, 2, 6] (bodyLoop f_comes 0) 3)] f_comes args regs else .fail
theorem k_comes : KnownF Tryz.prog [] 24 t_comes := known_loopsF 7 Tryz.func24 rfl (by kernel_rfl) mixed kc_comes (LAll.one (id := 0) (body := bodyLoop f_comes 0) (by kernel_rfl) rfl (unroll_ok (X := X_comes) kc_comes mixed (LAll.none (by kernel_rfl)) [0, 1, 2, 6, 15, 16, 17] [0, 1, 2, 6] 3))
/-- What a byte that is sent to a module wants. -/
noncomputable def sndR (k : Int) (b : List Int) (M : Mn) (N : Mn → Prop) : Prop := lensR M ∧ ((k = 2 ∨ k = 3) ∧ smallM (nrm M) ∧ b.length ≤ 100000) ∧ N (sendM k b (nrm M))
noncomputable def endR (k : RK) (M : Mn) (R : Out → Prop) : Prop := lensR M ∧ (OkM (nrm M) ∧ okJ k) ∧ R (done7 (readsM k.hd k.an k.j k.bs (nrm M)))
theorem comes_2 (M : Mn) (b : Int) (R : Out → Prop) : (t_comes [.c (.p 0 0 0), .c (.i .i64 2), .c (.i .u8 b)] (mnIn M)).run R =
    sel (M.p.M 10) (sndR 2 [b] M fun M1 => sel (M1.p.M 14) (sndR 3 [b] M1 fun M2 => endR ⟨2, plc 2, M.p.M 2, true, [b]⟩ M2 R) (endR ⟨2, plc 2, M.p.M 2, true, [b]⟩ M1 R))
      (sel (M.p.M 14) (sndR 3 [b] M fun M2 => endR ⟨2, plc 2, M.p.M 2, true, [b]⟩ M2 R) (endR ⟨2, plc 2, M.p.M 2, true, [b]⟩ M R)) := by kernel_rfl
theorem comes_3 (M : Mn) (b : Int) (R : Out → Prop) : (t_comes [.c (.p 0 0 0), .c (.i .i64 3), .c (.i .u8 b)] (mnIn M)).run R =
    sel (M.p.M 11) (sndR 2 [b] M fun M1 => sel (M1.p.M 15) (sndR 3 [b] M1 fun M2 => endR ⟨3, plc 3, M.p.M 3, true, [b]⟩ M2 R) (endR ⟨3, plc 3, M.p.M 3, true, [b]⟩ M1 R))
      (sel (M.p.M 15) (sndR 3 [b] M fun M2 => endR ⟨3, plc 3, M.p.M 3, true, [b]⟩ M2 R) (endR ⟨3, plc 3, M.p.M 3, true, [b]⟩ M R)) := by kernel_rfl
/-- Sent to those that hear. -/
noncomputable def toAll (j : Int) (b : List Int) (M : Mn) : Mn := let M1 := if hrs M.p.M 2 j then sendM 2 b M else M; if hrs M.p.M 3 j then sendM 3 b M1 else M1
noncomputable def comesM (j : Int) (b : Int) (M : Mn) : Mn := readsM (hrs M.p.M 0 j) true j [b] (toAll j [b] M)
theorem sendM_p (k : Int) (b : List Int) (M : Mn) : (sendM k b M).p = M.p := by
  unfold sendM
  split
  · rfl
  split
  · rfl
  · unfold putW; split <;> rfl
theorem sndR_in {k : Int} {b : List Int} {M : Mn} {N : Mn → Prop} (hM : OkM M) (hk : k = 2 ∨ k = 3) (hb : b.length ≤ 100000) (hN : N (sendM k b M)) : sndR k b M N := by
  unfold sndR
  rw [nrm_eq hM.p]
  exact ⟨⟨rfl, rfl, rfl, rfl, rfl, rfl⟩, ⟨hk, ⟨by have := hM.o2; omega, by have := hM.o3; omega⟩, hb⟩, hN⟩
theorem endR_in {k : RK} {M : Mn} {R : Out → Prop} (hM : OkM M) (hk : okJ k) (h : R (done7 (readsM k.hd k.an k.j k.bs M))) : endR k M R := by
  unfold endR
  rw [nrm_eq hM.p]
  exact ⟨⟨rfl, rfl, rfl, rfl, rfl, rfl⟩, ⟨hM, hk⟩, h⟩
noncomputable def tComes : Con := fun args regs => match args with
  | [.c (.p 0 0 0), .c (.i .i64 j), .c (.i .u8 b)] => onM regs fun M => .must (OkM M ∧ (j = 2 ∨ j = 3) ∧ byte b) (.ret (done7 (comesM j b M)))
  | _ => .fail
theorem OkM.toAll {M : Mn} (h : OkM M) (j : Int) (b : List Int) : OkM (toAll j b M) := by
  unfold mtl.toAll
  simp only []
  split
  · split
    · exact (h.send _ _).send _ _
    · exact h.send _ _
  · split
    · exact h.send _ _
    · exact h
/-- The tree of both sends, for those that hear as they do. -/
theorem toAll_in {M : Mn} {j : Int} {b : List Int} {c1 c2 : Bool} {E : Mn → Prop} (hM : OkM M) (hb : b.length ≤ 100000) (h1 : hrs M.p.M 2 j = c1) (h2 : hrs M.p.M 3 j = c2) (hc : ∀ M1 : Mn, M1.p = M.p → hrs M1.p.M 3 j = c2) (h : E (toAll j b M)) :
    sel c1 (sndR 2 b M fun M1 => sel (hrs M1.p.M 3 j) (sndR 3 b M1 fun M2 => E M2) (E M1)) (sel c2 (sndR 3 b M fun M2 => E M2) (E M)) := by
  unfold toAll at h
  simp only [h1, h2] at h
  cases c1 with
  | true =>
    refine selT rfl (sndR_in hM (.inl rfl) hb ?_)
    have e := hc _ (sendM_p 2 b M)
    rw [e]
    cases c2 with
    | true => exact selT rfl (sndR_in (hM.send _ _) (.inr rfl) hb h)
    | false => exact selF rfl h
  | false =>
    refine selF rfl ?_
    cases c2 with
    | true => exact selT rfl (sndR_in hM (.inr rfl) hb h)
    | false => exact selF rfl h
set_option maxRecDepth 100000 in
theorem kComes : KnownF Tryz.prog [] 24 tComes := by
  refine k_comes.weak fun args regs R h => Box.out ?_
  unfold tComes at h
  split at h
  case h_2 => exact h.elim
  rename_i j b
  obtain ⟨M, rfl, hp, h⟩ := onM_in h
  obtain ⟨⟨hM, hj, hb⟩, h⟩ := h
  have h : R (done7 (comesM j b M)) := h
  have hR : ∀ o, R o → ∃ o', WeakF o o' ∧ R o' := fun o ho => ⟨o, WeakF.refl _, ho⟩
  have hin : InBytes [b] := inB_cons hb inB_nil
  rcases hj with rfl | rfl
  · exact Box.of_eq (comes_2 M b _) (toAll_in (E := fun M2 => endR ⟨2, plc 2, M.p.M 2, true, [b]⟩ M2 _) hM (by simp) rfl rfl (fun M1 e => by rw [e])
      (endR_in (hM.toAll 2 [b]) ⟨.inr (.inl rfl), rfl, fun _ => .inl rfl, hin, by simp⟩ (hR _ h)))
  · exact Box.of_eq (comes_3 M b _) (toAll_in (E := fun M2 => endR ⟨3, plc 3, M.p.M 3, true, [b]⟩ M2 _) hM (by simp) rfl rfl (fun M1 e => by rw [e])
      (endR_in (hM.toAll 3 [b]) ⟨.inr (.inr rfl), rfl, fun _ => .inr rfl, hin, by simp⟩ (hR _ h)))
theorem OkM.comes {M : Mn} (h : OkM M) (j : Int) {b : Int} (hb : mtl.byte b) : OkM (comesM j b M) := OkM.reads _ (h.toAll j [b]) (inB_cons hb inB_nil)
end Go.Proofs.YtdijbpokklgjlaaGreatDoor.mtl
