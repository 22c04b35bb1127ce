/-
  The Minitel: what is read of a module, by a contract.
-/
import Derived.Test.YtdijbpokklgjlaaGreatDoorMnE
set_option linter.unusedVariables false
namespace Go.Proofs.YtdijbpokklgjlaaGreatDoor.mtl
open Go Go.Nx Go.Proofs.YtdijbpokklgjlaaGreatDoor.prt
open Go.Proofs.YtdijbpokklgjlaaGreatDoor.lex (arr lx InBytes mkEv K7)
open Go.Proofs.YtdijbpokklgjlaaGreatDoor.lxv (fIt KI liveO liveN innerC outerC frIt cel evR psOf asOf bdOf nr t_all k_all tByteH kByteH evts pend shft cc okP)
open Go.Proofs.YtdijbpokklgjlaaGreatDoor.scr (Scr rdS rdS_in Ev eventS tEvent kEvent tRolls kRolls rollsS PreE Ins)

noncomputable def rdE (s : St) : Option (RK × Mn × Int) := match s.fr[(10 : Nat)]?, s.rg with
  | some (.v (.c (.i _ i))), [some ⟨_, _, .cells l⟩, gs, _, _, _, _, _, _, some ⟨_, _, .cells [.i _ j]⟩, some ⟨_, _, .cells [.b hd]⟩, some ⟨_, _, .cells [.b an]⟩, some ⟨_, _, .cells [.l _ bs]⟩, some ⟨_, _, .cells [.p _ _ c]⟩,
      some ⟨_, _, .ints _ P1⟩, some ⟨_, _, .ints _ P2⟩, some ⟨_, _, .ints _ P3⟩, some ⟨_, _, .ints _ O2⟩, some ⟨_, _, .ints _ O3⟩] =>
    (match rdS gs, l.take 1, rdP ((l.drop 2).take 22), l.drop 24 with
     | some sc, [.i _ most], some p, [_, _, _, .i _ s1, _, .i _ s2, _, .i _ s3, _, _, _, _, .i _ lost] => some (⟨j, c, hd, an, bs⟩, ⟨most, sc, p, ⟨P1, s1⟩, ⟨P2, s2⟩, ⟨P3, s3⟩, O2, O3, lost⟩, i)
     | _, _, _, _ => none)
  | _, _ => none
def okJ (k : RK) : Prop := (k.j = 1 ∨ k.j = 2 ∨ k.j = 3) ∧ k.c = plc k.j ∧ anJ k ∧ InBytes k.bs ∧ k.bs.length ≤ 1000
noncomputable def LO (m : Nat) (fr : List NS) (s : St × Option NExit) : Tr (NExit × St × Option NExit) := match rdE s.1 with
  | some (k, M, i) => .must ((m = 13 ∧ fr = frR) ∧ s = (eI k M 0, Option.none) ∧ OkM M ∧ okJ k) (.ret (.normal, dnO k (readsM k.hd k.an k.j k.bs M), Option.none))
  | none => .fail
structure AO where
  k : RK
  M : Mn
  i : Int
def preO (a : AO) (R : NExit × St × Option NExit → Prop) : Prop := (0 ≤ a.i ∧ a.i ≤ (a.k.bs.length : Int)) ∧ OkM a.M ∧ okJ a.k ∧ R (.normal, dnO a.k (readsM a.k.hd a.k.an a.k.j (a.k.bs.drop a.i.toNat) a.M), Option.none)
noncomputable def nxO (a : AO) (R : NExit × St × Option NExit → Prop) (o : ROI) : Prop := match o with
  | .next s p => ∃ y : AO, (s, p) = (eI y.k y.M y.i, Option.none) ∧ ((y.k.bs.length : Int) - y.i).toNat < ((a.k.bs.length : Int) - a.i).toNat ∧ preO y R
  | .done e s p => R (e, s, p)
theorem evts_two (P : List Int) (s c : Int) : (evts P s c).length ≤ 2 := lxv.evts_len P s c
theorem byR_in {k : RK} {M M' : Mn} {l : LL} {i : Int} {R : NExit × St × Option NExit → Prop} (hi : 0 ≤ i ∧ i < (k.bs.length : Int)) (hM : OkM M) (hk : okJ k) (hl : l = getL M k.j) (hM' : M' = setL M k.j (nextL l (k.bs.getD i.toNat 0)))
    (hR : R (.normal, dnO k (readsM k.hd k.an k.j (k.bs.drop i.toNat) M), Option.none)) : byR k M' l i (k.bs.getD i.toNat 0) (nxO ⟨k, M, i⟩ R) := by
  obtain ⟨hj, hc, ha, hb, hn⟩ := hk
  have hX := get_byte hb hi
  subst hl
  have hL := hM.getL k.j
  have hM2 : OkM M' := by rw [hM']; exact hM.setL k.j (hL.next hX)
  have hnr : nrm M' = M' := nrm_eq hM2.p
  have hw : w64 (i + 1) = i + 1 := w64_id (by omega)
  unfold byR
  rw [hnr, hw]
  refine ⟨⟨rfl, hX, hL.2⟩, ⟨rfl, hM2, ha, by have := evts_two (getL M k.j).P (getL M k.j).s (cc (k.bs.getD i.toNat 0)); omega⟩, ⟨k, _, i + 1⟩, rfl, by simp only; omega, ⟨by simp only; omega, by simp only; omega⟩, OkM.evs _ hM2, ⟨hj, hc, ha, hb, hn⟩, ?_⟩
  rw [drop_get hi] at hR
  rw [hM']
  exact hR
set_option maxRecDepth 100000 in
theorem round_O (a : AO) (R : NExit × St × Option NExit → Prop) (h : preO a R) : Box ((rndO (eI a.k a.M a.i)).run (nxO a R)) := by
  obtain ⟨k, M, i⟩ := a
  obtain ⟨⟨h0, hle⟩, hM, hk, hR⟩ := h
  simp only at h0 hle hM hk hR
  have hz : ¬ i < (k.bs.length : Int) → readsM k.hd k.an k.j (k.bs.drop i.toNat) M = M := fun hlt => by
    rw [List.drop_eq_nil_iff.2 (by omega)]; rfl
  have hk' := hk
  obtain ⟨j, c, hd, an, bs⟩ := k
  obtain ⟨hj, hc, -⟩ := hk
  simp only at hj hc
  rcases hj with rfl | rfl | rfl
  · have hc : c = 26 := hc
    subst hc
    refine Box.of_eq (round_O1 1 hd an bs M i _) (sel_by (fun hlt => ix_in ⟨h0, hlt⟩ (byR_in ⟨h0, hlt⟩ hM hk' rfl rfl hR)) fun hlt => ?_)
    have := hz hlt
    simp only at this
    rw [this] at hR
    exact hR
  · have hc : c = 28 := hc
    subst hc
    refine Box.of_eq (round_O2 2 hd an bs M i _) (sel_by (fun hlt => ix_in ⟨h0, hlt⟩ (byR_in ⟨h0, hlt⟩ hM hk' rfl rfl hR)) fun hlt => ?_)
    have := hz hlt
    simp only at this
    rw [this] at hR
    exact hR
  · have hc : c = 30 := hc
    subst hc
    refine Box.of_eq (round_O3 3 hd an bs M i _) (sel_by (fun hlt => ix_in ⟨h0, hlt⟩ (byR_in ⟨h0, hlt⟩ hM hk' rfl rfl hR)) fun hlt => ?_)
    have := hz hlt
    simp only at this
    rw [this] at hR
    exact hR
theorem inner_okR : LAllI X_itR YR KI lsO outerC := LAllI.one (id := 2) (body := innerC) (by kernel_rfl) rfl loop_I
set_option maxRecDepth 100000 in
theorem loop_O : LOkI Tryz.prog [] 13 KI YR 0 outerC (fun s => match rdE s.1 with
  | some (k, M, i) => .must (s = (eI k M 0, Option.none) ∧ OkM M ∧ okJ k) (.ret (.normal, dnO k (readsM k.hd k.an k.j k.bs M), Option.none))
  | none => .fail) := by
  refine loopI_ok (X := X_itR) (ls := lsO) kc_itR outer_tame inner_okR liveO [] (fun a : AO => (eI a.k a.M a.i, Option.none)) (fun a => ((a.k.bs.length : Int) - a.i).toNat) preO ?_ ?_
  · intro s R h
    split at h
    case h_2 => exact h.elim
    rename_i k M i hrd
    obtain ⟨⟨hs, hM, hk⟩, hR⟩ := h
    exact ⟨⟨k, M, 0⟩, hs, ⟨by simp only; omega, by simp only; omega⟩, hM, hk, hR⟩
  · intro a R h
    refine Tr.run_mono _ (fun o ho => ?_) (round_O a R h).out
    cases o with
    | done e s p => exact ho
    | next s p => exact ho
theorem loop_O' (m : Nat) (fr : List NS) : LOkI Tryz.prog [] m KI (bodyY X_rd (psOf rgR) (asOf rgR) (bdOf rgR) fr) 0 outerC (LO m fr) := by
  intro l rc N Γ0 w0 h0 hN h0k h0r hY s p Γ a w R Q hI hE hW hL hK
  unfold LO at hL
  split at hL
  case h_2 => exact hL.elim
  rename_i k M i hrd
  obtain ⟨⟨⟨rfl, hfr⟩, h2⟩, h4⟩ := hL
  rw [hfr] at hY
  refine loop_O l rc N Γ0 w0 h0 hN h0k h0r hY s p Γ a w R Q hI hE hW ?_ hK
  show (match rdE s with
    | some (k, M, i) => Tr.must ((s, p) = (eI k M 0, Option.none) ∧ OkM M ∧ okJ k) (Tr.ret (NExit.normal, dnO k (readsM k.hd k.an k.j k.bs M), (Option.none : Option NExit)))
    | none => Tr.fail).run R
  rw [show rdE s = some (k, M, i) from hrd]
  exact ⟨h2, h4⟩
/-! ### the range -/
noncomputable def lsR (m : Nat) (fr : List NS) : LI := [(0, liveO, fun s => canonL [] csM m liveO (fun t => LO m fr (t, s.2)) s.1)]
noncomputable def RRT : St → Tr (NExit × St) := rangeT X_rd KI c_itR lsR 0 [] 51 fIt rgR
noncomputable def codeItR : Code := fIt.body.getD .skip
theorem itR_body : fIt.body = some codeItR := by kernel_rfl
theorem itR_loops : loopsIn codeItR = [(0, outerC)] := by kernel_rfl
theorem rgR_eq : rgR = .rangeFunc (.tmp 18) (psOf rgR) (asOf rgR) (bdOf rgR) := by kernel_rfl
theorem rR_ok : RgOk Tryz.prog [] 7 0 rgR RRT := by
  have h := rangeT_ok (X := X_rd) kc_rd (K := KI) kc_itR (ls := lsR) (id := 0) (out := []) (g := .tmp 18) (ps := psOf rgR) (assign := asOf rgR) (body := bdOf rgR) Tryz.func51 itR_body (by kernel_rfl) (by kernel_rfl) (by kernel_rfl) (by kernel_rfl) (by kernel_rfl)
    (fun m fr => LAllI.one (id := 0) (body := outerC) (live := liveO) itR_loops rfl ((loop_O' m fr).canon [] csM liveO)) mixed
  rw [← rgR_eq] at h
  exact h
/-! ### the function that is ranged over -/
theorem all_tree (M : Mn) (c : Nat) (P : List Int) (R : Out → Prop) : (t_all [.c (.p 0 0 c), .c (.l .u8 P)] (mnIn M)).run R =
    (P.length ≤ 1000 ∧ R ⟨.v (.c (.cl 51 [(7, 0, 0), (8, 0, 0)])), (mnIn M).map some ++ [cel 22 1 [.l .u8 P], cel 98 1 [.p 0 0 c]]⟩) := by kernel_rfl
noncomputable def tAllM : Con := fun args regs => match args with
  | [.c (.p 0 0 c), .c (.l .u8 P)] => onM regs fun M => .must (P.length ≤ 1000) (.ret ⟨.v (.c (.cl 51 [(7, 0, 0), (8, 0, 0)])), (mnIn M).map some ++ [cel 22 1 [.l .u8 P], cel 98 1 [.p 0 0 c]]⟩)
  | _ => .fail
set_option maxRecDepth 100000 in
theorem kAllM : Known Tryz.prog [] 41 tAllM := by
  refine k_all.less fun args regs R h => Box.out ?_
  unfold tAllM at h
  split at h
  case h_2 => exact h.elim
  rename_i c P
  obtain ⟨M, rfl, hp, h⟩ := onM_in h
  exact Box.of_eq (all_tree M c P R) h
noncomputable def c_reads : FuncId → Option Con := conOf [(41, tAllM)]
theorem kc_reads : ∀ f T, c_reads f = some T → Known Tryz.prog [] f T := (Knowns.cons kAllM Knowns.nil).get
noncomputable def t_reads : Con := fun args regs => if regs.length = 7 then nfun Tryz.prog [] c_reads [(0, [5, 6, 8, 9, 18], RRT)] f_reads args regs else .fail
theorem reads_loops : loopsIn (f_reads.body.getD .skip) = [] := by kernel_rfl
theorem reads_ranges : rangesIn (f_reads.body.getD .skip) = [(0, rgR)] := by kernel_rfl
theorem k_reads : KnownF Tryz.prog [] 32 t_reads := by
  refine known_loopsF (c := f_reads.body.getD .skip) 7 Tryz.func32 (by kernel_rfl) (by kernel_rfl) mixed kc_reads ⟨fun i b hb => (by rw [reads_loops] at hb; cases hb), fun i b hb x hf => ?_⟩
  rw [reads_ranges, List.mem_singleton] at hb
  cases hb
  have : x = (0, [5, 6, 8, 9, 18], RRT) := by simpa using hf.symm
  subst this
  exact rR_ok
def mnOut7 (M : Mn) : List (Option Reg) := [some (mnR M 7 8 9 10 11), some (scr.scr M.sc), none, none, none, none, none, some (arr M.l1.P), some (arr M.l2.P), some (arr M.l3.P), some (arr M.o2), some (arr M.o3)]
def done7 (M : Mn) : Out := ⟨.tu [], mnOut7 M⟩
noncomputable def rdR (k : RK) (M : Mn) (R : Out → Prop) : Prop := lensR M ∧ k.bs.length ≤ 1000 ∧ (((13 : Nat) = 13 ∧ frR = frR) ∧ (eI k M 0, (Option.none : Option NExit)) = (eI k (nrm M) 0, Option.none) ∧ OkM (nrm M) ∧ okJ k) ∧ R (done7 (readsM k.hd k.an k.j k.bs (nrm M)))
theorem reads_1 (M : Mn) (hd an : Bool) (bs : List Int) (R : Out → Prop) : (t_reads [.c (.p 0 0 0), .c (.i .i64 1), .c (.l .u8 bs), .c (.b hd), .c (.b an)] (mnIn M)).run R = rdR ⟨1, 26, hd, an, bs⟩ M R := by kernel_rfl
theorem reads_2 (M : Mn) (hd an : Bool) (bs : List Int) (R : Out → Prop) : (t_reads [.c (.p 0 0 0), .c (.i .i64 2), .c (.l .u8 bs), .c (.b hd), .c (.b an)] (mnIn M)).run R = rdR ⟨2, 28, hd, an, bs⟩ M R := by kernel_rfl
theorem reads_3 (M : Mn) (hd an : Bool) (bs : List Int) (R : Out → Prop) : (t_reads [.c (.p 0 0 0), .c (.i .i64 3), .c (.l .u8 bs), .c (.b hd), .c (.b an)] (mnIn M)).run R = rdR ⟨3, 30, hd, an, bs⟩ M R := by kernel_rfl
noncomputable def tReads : Con := fun args regs => match args with
  | [.c (.p 0 0 0), .c (.i .i64 j), .c (.l .u8 bs), .c (.b hd), .c (.b an)] => onM regs fun M => .must (OkM M ∧ okJ ⟨j, plc j, hd, an, bs⟩) (.ret (done7 (readsM hd an j bs M)))
  | _ => .fail
set_option maxRecDepth 100000 in
theorem kReads : KnownF Tryz.prog [] 32 tReads := by
  refine k_reads.weak fun args regs R h => Box.out ?_
  unfold tReads at h
  split at h
  case h_2 => exact h.elim
  rename_i j bs hd an
  obtain ⟨M, rfl, hp, h⟩ := onM_in h
  obtain ⟨⟨hM, hk⟩, h⟩ := h
  have h : R (done7 (readsM hd an j bs M)) := h
  have hR : ∀ o, R o → ∃ o', WeakF o o' ∧ R o' := fun o ho => ⟨o, WeakF.refl _, ho⟩
  have hnr : nrm M = M := nrm_eq hM.p
  have fin : ∀ k, k = RK.mk j (plc j) hd an bs → rdR k M fun o => ∃ o', WeakF o o' ∧ R o' := fun k e => by
    subst e
    unfold rdR
    rw [hnr]
    exact ⟨⟨rfl, rfl, rfl, rfl, rfl, rfl⟩, hk.2.2.2.2, ⟨⟨rfl, rfl⟩, rfl, hM, hk⟩, hR _ h⟩
  rcases hk.1 with e | e | e
  · simp only at e; subst e
    exact Box.of_eq (reads_1 M hd an bs _) (fin _ rfl)
  · simp only at e; subst e
    exact Box.of_eq (reads_2 M hd an bs _) (fin _ rfl)
  · simp only at e; subst e
    exact Box.of_eq (reads_3 M hd an bs _) (fin _ rfl)
end Go.Proofs.YtdijbpokklgjlaaGreatDoor.mtl
