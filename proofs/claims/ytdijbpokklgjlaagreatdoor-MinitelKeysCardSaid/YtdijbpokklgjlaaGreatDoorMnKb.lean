/-
  The law MinitelKeys: what keys do, the law's loops.
-/
import Derived.Test.YtdijbpokklgjlaaGreatDoorMnKa
set_option linter.unusedVariables false
namespace Go.Proofs.YtdijbpokklgjlaaGreatDoor.mtl
open Go Go.Nx Go.Proofs.YtdijbpokklgjlaaGreatDoor.prt
open Go.Proofs.YtdijbpokklgjlaaGreatDoor.lex (arr lx InBytes mkEv K7 kMake)
open Go.Proofs.YtdijbpokklgjlaaGreatDoor.lxv (wf cel pend shft cc evts okP ev ignR)
open Go.Proofs.YtdijbpokklgjlaaGreatDoor.scr (Scr Ev eventS rollsS Ins newS grd rdG rdG_in KC gridG cell1 xI chkC chkC_in Pl gl)

noncomputable def keyM (k : Int) (M : Mn) : Mn := if hrs M.p.M 0 1 then readsM true false 1 [mkEv k] (toAll 1 [mkEv k] M) else toAll 1 [mkEv k] M
noncomputable def tKeyM : Con := fun args regs => match args with
  | [.c (.p 0 0 0), .c (.i .i64 k)] => onM regs fun M => .must (OkM M ∧ 65 ≤ k ∧ k ≤ 90) (.ret (done7 (keyM k M)))
  | _ => .fail
theorem kE_in {M M2 : Mn} {k : Int} {R : Out → Prop} (hM : OkM M2) (hk : byte (mkEv k)) (h : R (done7 (if hrs M.p.M 0 1 then readsM true false 1 [mkEv k] M2 else M2))) : kE (hrs M.p.M 0 1) k M2 R := by
  unfold kE
  generalize hrs M.p.M 0 1 = x at h ⊢
  cases x with
  | false => exact selF rfl h
  | true =>
    refine selT rfl ?_
    rw [nrm_eq hM.p]
    exact ⟨lensR_in M2, ⟨hM, .inl rfl, rfl, (fun e => by cases e), inB_cons hk inB_nil, by show (1 : Nat) ≤ 1000; decide⟩, h⟩
set_option maxRecDepth 100000 in
theorem kKey : KnownF Tryz.prog [] 21 tKeyM := by
  refine k_key.weak fun args regs R h => Box.out ?_
  unfold tKeyM at h
  split at h
  case h_2 => exact h.elim
  rename_i k
  obtain ⟨M, rfl, hp, h⟩ := onM_in h
  obtain ⟨⟨hM, hk⟩, h⟩ := h
  have h : R (done7 (keyM k M)) := h
  have hR : ∀ o, R o → ∃ o', WeakF o o' ∧ R o' := fun o ho => ⟨o, WeakF.refl _, ho⟩
  have hb : byte (mkEv k) := mkEv_byte ⟨by omega, by omega⟩
  refine Box.of_eq (key_tree M k _) ⟨hk, ⟨by show (1 : Nat) ≤ 1000; decide, inB_cons ⟨by omega, by omega⟩ inB_nil⟩, ?_⟩
  exact toAll_in (E := fun M2 => kE (M.p.M 1) k M2 _) hM (by simp) rfl rfl (fun M1 e => by rw [e]) (kE_in (M := M) (hM.toAll 1 [mkEv k]) hb (hR _ h))
theorem key_step {x y : Bool} {p : PS} {sc : Scr} {O : List Int} {c : Int} (h2 : hrs p.M 2 1 = y) (h3 : hrs p.M 3 1 = false) (h0 : hrs p.M 0 1 = x) (hc : 32 ≤ c ∧ c < 128) (hO : O.length ≤ 900) :
    keyM c (SM p sc O) = SM p (if x then letS sc c else sc) (if y then O ++ [mkEv c] else O) := by
  have e1 : toAll 1 [mkEv c] (SM p sc O) = SM p sc (if y then O ++ [mkEv c] else O) := by
    unfold toAll
    show (let M1 := if hrs p.M 2 1 then sendM 2 [mkEv c] (SM p sc O) else SM p sc O; if hrs p.M 3 1 then sendM 3 [mkEv c] M1 else M1) = _
    rw [h2, h3]
    cases y with
    | false => rfl
    | true =>
      show sendM 2 [mkEv c] (SM p sc O) = _
      unfold sendM
      rw [if_neg (by simp), if_neg (by
        show ¬ ((O.length : Int) + ((1 : Nat) : Int) > 1000)
        omega)]
      rfl
  unfold keyM
  show (if hrs p.M 0 1 then readsM true false 1 [mkEv c] (toAll 1 [mkEv c] (SM p sc O)) else toAll 1 [mkEv c] (SM p sc O)) = _
  rw [e1, h0]
  generalize (if y then O ++ [mkEv c] else O) = O'
  cases x with
  | false => rfl
  | true =>
    show byteM true false 1 (SM p sc O') (mkEv c) = _
    unfold byteM nextL
    rw [cc_mk (by omega)]
    obtain ⟨e1, e2, e3⟩ := lxv.way_chr (s := 0) (c := c) (by omega)
    show evsM true false 1 (evts [] 0 c) (setL (SM p sc O') 1 ⟨pend [] c, shft 0 c⟩) = _
    rw [e1, e2, e3]
    rfl

/-! ### what is asked for -/
noncomputable def pA3 (p : PS) (a b : Int) : PS := (askV p 10 3 a b 81).1
noncomputable def qXY (x y : Bool) : PS := match x, y with
  | false, false => startP
  | true, false => pA3 startP 97 88
  | false, true => pA3 startP 96 90
  | true, true => pA3 (pA3 startP 97 88) 96 90
theorem qXY_ok (x y : Bool) : OkP (qXY x y) := by
  cases x <;> cases y
  · exact startP_ok
  · exact (ask_ok startP_ok _ _ _ _ _).p
  · exact (ask_ok startP_ok _ _ _ _ _).p
  · exact (ask_ok (ask_ok startP_ok 10 3 97 88 81).p _ _ _ _ _).p
theorem qXY_21 (x y : Bool) : hrs (qXY x y).M 2 1 = !y := by cases x <;> cases y <;> kernel_rfl
theorem qXY_31 (x y : Bool) : hrs (qXY x y).M 3 1 = false := by cases x <;> cases y <;> kernel_rfl
theorem qXY_01 (x y : Bool) : hrs (qXY x y).M 0 1 = x := by cases x <;> cases y <;> kernel_rfl
theorem tm_ask3 {p : PS} {sc : Scr} {O P : List Int} {a b : Int} (h2 : hrs p.M 2 2 = false) (h3 : hrs p.M 3 2 = false) (k1 : evts P 0 81 = [ev 10 3 a b 81 0 0]) (k2 : pend P 81 = []) (hl : (askV p 10 3 a b 81).2.length = 5) (hO : O.length ≤ 900) :
    comesM 2 (mkEv 81) (TM p sc O P) = SM (pA3 p a b) (rollsS (pA3 p a b).ro sc) (O ++ (askV p 10 3 a b 81).2.map mkEv) := by
  rw [comes_own h2 h3]
  unfold byteM nextL
  rw [cc_mk (by decide)]
  show evsM _ true 2 (evts P 0 81) (setL (TM p sc O P) 2 ⟨pend P 81, shft 0 81⟩) = _
  rw [k1, k2, show shft 0 81 = 0 by kernel_rfl]
  show sendM 2 ((askV p 10 3 a b 81).2.map mkEv) (SM (pA3 p a b) (rollsS (pA3 p a b).ro sc) O) = _
  unfold sendM
  have hm : ((askV p 10 3 a b 81).2.map mkEv).length = 5 := by rw [List.length_map, hl]
  rw [if_neg (fun e => by rw [e] at hm; cases hm), if_neg (by
    show ¬ ((O.length : Int) + (((askV p 10 3 a b 81).2.map mkEv).length : Int) > 1000)
    rw [hm]; omega)]
  rfl
theorem ky_e96 : evts [27, 59] 0 96 = [] := by kernel_rfl
theorem ky_p96 : pend [27, 59] 96 = [27, 59, 96] := by kernel_rfl
theorem ky_s96 : shft 0 96 = 0 := by kernel_rfl
theorem ky_e90 : evts [27, 59, 96] 0 90 = [] := by kernel_rfl
theorem ky_p90 : pend [27, 59, 96] 90 = [27, 59, 96, 90] := by kernel_rfl
theorem ky_f88 : evts [27, 59, 97, 88] 0 81 = [ev 10 3 97 88 81 0 0] := by kernel_rfl
theorem ky_q88 : pend [27, 59, 97, 88] 81 = [] := by kernel_rfl
theorem ky_f90 : evts [27, 59, 96, 90] 0 81 = [ev 10 3 96 90 81 0 0] := by kernel_rfl
theorem ky_q90 : pend [27, 59, 96, 90] 81 = [] := by kernel_rfl
def ask3 (a b : Int) : List Int := [27, 59, a, b, 81]
theorem seq_ask3 {p : PS} {sc : Scr} {O : List Int} {a b : Int} (ht : (a = 97 ∧ b = 88) ∨ (a = 96 ∧ b = 90)) (h2 : hrs p.M 2 2 = false) (h3 : hrs p.M 3 2 = false) (hl : (askV p 10 3 a b 81).2.length = 5) (hO : O.length ≤ 900) :
    seqM (ask3 a b) (SM p sc O) = SM (pA3 p a b) (rollsS (pA3 p a b).ro sc) (O ++ (askV p 10 3 a b 81).2.map mkEv) := by
  unfold ask3
  rw [show SM p sc O = TM p sc O [] from rfl]
  rcases ht with ⟨rfl, rfl⟩ | ⟨rfl, rfl⟩
  · rw [seqM_cons, seqM_cons, seqM_cons, seqM_cons, seqM_cons, seqM_nil, tm_step h2 h3 (by decide) e6_0 p6_0 h6_0, tm_step h2 h3 (by decide) e6_1 p6_1 h6_1, tm_step h2 h3 (by decide) e6_2 p6_2 h6_2, tm_step h2 h3 (by decide) so_e88 so_p88 so_s88, tm_ask3 h2 h3 ky_f88 ky_q88 hl hO]
  · rw [seqM_cons, seqM_cons, seqM_cons, seqM_cons, seqM_cons, seqM_nil, tm_step h2 h3 (by decide) e6_0 p6_0 h6_0, tm_step h2 h3 (by decide) e6_1 p6_1 h6_1, tm_step h2 h3 (by decide) ky_e96 ky_p96 ky_s96, tm_step h2 h3 (by decide) ky_e90 ky_p90 so_s90, tm_ask3 h2 h3 ky_f90 ky_q90 hl hO]

/-! ### the question, as a closure -/
noncomputable abbrev f_cly := Tryz.f20
noncomputable def t_cly : Con := fun args regs => if regs.length = 8 then nfun Tryz.prog [] c_clo [(0, [3, 12, 13, 14], unroll X_clo 0 [3, 12, 13, 14] [] (bodyLoop f_cly 0) 6)] f_cly args regs else .fail
theorem k_cly : Known Tryz.prog [] 20 t_cly := known_loops 8 Tryz.func20 rfl (by kernel_rfl) mixed kc_clo (LAll.one (id := 0) (body := bodyLoop f_cly 0) (by kernel_rfl) rfl (unroll_ok (X := X_clo) kc_clo mixed (LAll.none (by kernel_rfl)) [3, 12, 13, 14] [] 6))

/-! ### the law's loops -/
noncomputable abbrev f_ky := Tryz.f6
noncomputable def c_ky : FuncId → Option Con := conOf [(7, tFst), (8, tNewM), (20, t_cly), (10, lex.tMake), (21, tKeyM), (19, tGridM),
  (15, tOut), (12, tTake), (16, tLost), (13, tSmB)]
theorem kc_ky : ∀ f T, c_ky f = some T → Known Tryz.prog [] f T := (Knowns.cons kFst (.cons kNewM (.cons k_cly (.cons kMake (.cons kKey.known (.cons kGridM.known (.cons kOut.known (.cons kTake.known (.cons kLost.known (.cons kSmB .nil)))))))))).get
noncomputable def X_ky : Cx := { P := Tryz.prog, con := c_ky, glob := [], m := 0, loops := [] }
noncomputable def s_ky (M : Mn) (text : List Int) (x y : Bool) (w : List Int) (k : Nat) (i : Int) : St := { fr := frame 100 [(0, .v (.c (.l .u8 text))), (1, .v (.c (.b x))), (2, .v (.c (.b y))), (7, .v (.c (.b true))), (8, .v (.c (.p 0 0 0))), (11, .v (.c (.hz 8 k))), (12, .v (.c (.i .i64 i)))], rg := rgX M ++ [some (arr w)] }
noncomputable def e_ky (M : Mn) (text : List Int) (x y : Bool) (w : List Int) (k : Nat) : St := { fr := frame 100 [(0, .v (.c (.l .u8 text))), (1, .v (.c (.b x))), (2, .v (.c (.b y))), (7, .v (.c (.b true))), (8, .v (.c (.p 0 0 0))), (11, .v (.c (.hz 8 k)))], rg := rgX M ++ [some (arr w)] }
noncomputable def keyR (k : Int) (M : Mn) (N : Mn → Prop) : Prop := lensR M ∧ (OkM (nrm M) ∧ 65 ≤ k ∧ k ≤ 90) ∧ N (keyM k (nrm M))
theorem round_ky (M : Mn) (text : List Int) (x y : Bool) (w : List Int) (i : Int) (R : RO → Prop) : (roundT X_ky 0 [0, 1, 2, 7, 8, 11, 12] [0, 1, 2, 7, 8, 11] (bodyLoop f_ky 0) (s_ky M text x y w w.length i)).run R =
    sel (decide (i < (text.length : Int))) (ix i text (keyR (w64 (ltS (text.getD i.toNat 0))) M fun M1 => (0 ≤ ltS (text.getD i.toNat 0) ∧ ltS (text.getD i.toNat 0) < 256) ∧ ap8 w.length w.length (R (.next (s_ky M1 text x y (List.take w.length w ++ [mkEv (ltS (text.getD i.toNat 0))]) (w.length + 1) (w64 (i + 1)))))))
      (R (.done .normal (e_ky M text x y w w.length))) := by kernel_rfl
noncomputable def s_kg (M : Mn) (text : List Int) (x : Bool) (w : List Int) (G : List (List Sc)) (i : Int) : St := { fr := frame 100 [(0, .v (.c (.l .u8 text))), (1, .v (.c (.b x))), (7, .v (.c (.b true))), (8, .v (.c (.p 0 0 0))), (11, .v (.c (.hz 8 w.length))), (14, .v (.c (.p 9 0 0))), (15, .v (.c (.i .i64 i)))], rg := rgX M ++ [some (arr w), some (grd G)] }
noncomputable def e_kg (M : Mn) (w : List Int) : St := { fr := frame 100 [(7, .v (.c (.b true))), (8, .v (.c (.p 0 0 0))), (11, .v (.c (.hz 8 w.length)))], rg := rgX M ++ [some (arr w)] }
noncomputable def f_kg (M : Mn) (w : List Int) : St := { fr := frame 100 [(6, .v (.c (.b false))), (7, .v (.c (.b true))), (8, .v (.c (.p 0 0 0))), (11, .v (.c (.hz 8 w.length)))], rg := rgX M ++ [some (arr w)] }
noncomputable def cellK (M : Mn) (text : List Int) (x : Bool) (w : List Int) (G : List (List Sc)) (i g : Int) (R : RO → Prop) : Prop := chkC 1 i (sel (xI (cell1 G i) 0 != g) (R (.done .ret (f_kg M w))) (R (.next (s_kg M text x w G (w64 (i + 1))))))
theorem round_kg (M : Mn) (text : List Int) (x : Bool) (w : List Int) (G : List (List Sc)) (i : Int) (R : RO → Prop) : (roundT X_ky 2 [0, 1, 7, 8, 11, 14, 15] [6, 7, 8, 11] (bodyLoop f_ky 2) (s_kg M text x w G i)).run R =
    sel (decide (i < (text.length : Int))) (sel x (ix i text (cellK M text x w G i (w64 (65 + w64 ((text.getD i.toNat 0).tmod 26))) R)) (cellK M text x w G i 32 R)) (R (.done .normal (e_kg M w))) := by kernel_rfl
noncomputable def endK (x y : Bool) (text : List Int) : Mn := SM (qXY x y) (scS x text newS) (oY (!y) (wS text))
structure AKy where
  x : Bool
  y : Bool
  text : List Int
  sc : Scr
  w : List Int
  i : Int
noncomputable def h_ky (a : AKy) : St := s_ky (SM (qXY a.x a.y) a.sc (oY (!a.y) a.w)) a.text a.x a.y a.w a.w.length a.i
noncomputable def fin_ky (x y : Bool) (text : List Int) (sc : Scr) (w : List Int) : St := e_ky (SM (qXY x y) sc (oY (!y) w)) text x y w w.length
def preKy (a : AKy) (R : NExit × St → Prop) : Prop := (0 ≤ a.i ∧ a.i ≤ (a.text.length : Int)) ∧ a.text.length ≤ 30 ∧ InBytes a.text ∧ InsS a.sc ∧ (a.w.length : Int) = a.i ∧ R (.normal, fin_ky a.x a.y a.text (scS a.x (a.text.drop a.i.toNat) a.sc) (a.w ++ wS (a.text.drop a.i.toNat)))
noncomputable def l_ky (s : St) : Tr (NExit × St) := match rdSo s with
  | some (text, x, y) => .must (s = s_ky (SM (qXY x y) newS []) text x y [] 0 0 ∧ tx30 text) (.ret (.normal, e_ky (endK x y text) text x y (wS text) (wS text).length))
  | none => .fail
theorem keyR_in {k : Int} {M : Mn} {N : Mn → Prop} (hk : 65 ≤ k ∧ k ≤ 90) (hM : OkM M) (hN : N (keyM k M)) : keyR k M N := by
  unfold keyR
  rw [nrm_eq hM.p]
  exact ⟨lensR_in M, ⟨hM, hk⟩, hN⟩
set_option maxRecDepth 100000 in
set_option maxHeartbeats 2000000 in
theorem loop_ky : LOk Tryz.prog [] 0 0 (bodyLoop f_ky 0) l_ky := by
  refine loop_ok (X := X_ky) kc_ky mixed (LAll.none (by kernel_rfl)) [0, 1, 2, 7, 8, 11, 12] [0, 1, 2, 7, 8, 11] h_ky (fun a => ((a.text.length : Int) - a.i).toNat) preKy ?_ ?_
  · intro s R h
    unfold l_ky at h
    split at h
    case h_2 => exact h.elim
    rename_i text x y hrd
    obtain ⟨⟨hs, hl, hb⟩, hR⟩ := h
    refine ⟨⟨x, y, text, newS, [], 0⟩, ?_, ⟨by simp only; omega, by simp only; omega⟩, hl, hb, ins_newS, rfl, hR⟩
    rw [hs]
    cases y <;> rfl
  · intro a R h
    obtain ⟨x, y, text, sc, w, i⟩ := a
    obtain ⟨hi, hl, hb, hs, hw, hR⟩ := h
    simp only at hi hl hb hs hw hR
    have hO : (oY (!y) w).length ≤ 900 := by
      cases y with
      | true => show ([] : List Int).length ≤ 900; decide
      | false => show w.length ≤ 900; omega
    refine Tr.run_mono _ (fun o ho => ho) (Box.of_eq (round_ky (SM (qXY x y) sc (oY (!y) w)) text x y w i _) (sel_by (fun hlt => ix_in ⟨hi.1, hlt⟩ ?_) fun hlt => ?_)).out
    · have hX := get_byte hb ⟨hi.1, hlt⟩
      obtain ⟨_, hl1, hl2⟩ := ltS_in hX
      have hw1 : w64 (i + 1) = i + 1 := w64_id (by omega)
      have hw2 : w64 (ltS (text.getD i.toNat 0)) = ltS (text.getD i.toNat 0) := w64_id (by omega)
      rw [hw2]
      refine keyR_in ⟨hl1, hl2⟩ (sm_ok hs (qXY_ok x y) (by omega)) ?_
      rw [key_step (qXY_21 x y) (qXY_31 x y) (qXY_01 x y) (by omega) hO, hw1, List.take_length]
      rw [drop_get ⟨hi.1, hlt⟩] at hR
      refine ⟨by omega, ap8_in (Nat.le_refl _) (by omega) ⟨⟨x, y, text, if x then letS sc (ltS (text.getD i.toNat 0)) else sc, w ++ [mkEv (ltS (text.getD i.toNat 0))], i + 1⟩, ?_, by simp only; omega, ⟨by simp only; omega, by simp only; omega⟩, hl, hb, hs.let' x _, by simp; omega, ?_⟩⟩
      · unfold h_ky
        simp only [List.length_append, List.length_cons, List.length_nil]
        cases y <;> rfl
      · simp only
        rw [List.append_assoc]
        exact hR
    · rw [List.drop_eq_nil_iff.2 (by omega)] at hR
      rw [show w ++ wS [] = w by unfold wS; simp] at hR
      exact hR

/-! ### the grid -/
structure AKg where
  M : Mn
  x : Bool
  text : List Int
  w : List Int
  G : List (List Sc)
  i : Int
noncomputable def h_kg (a : AKg) : St := s_kg a.M a.text a.x a.w a.G a.i
def preKg (a : AKg) (R : NExit × St → Prop) : Prop := (0 ≤ a.i ∧ a.i ≤ (a.text.length : Int)) ∧ tx30 a.text ∧ gridOk a.x a.text a.G ∧ R (.normal, e_kg a.M a.w)
def rdKg (s : St) : Option (List Int × Bool × Nat) := match s.fr[(0 : Nat)]?, s.fr[(1 : Nat)]?, s.fr[(11 : Nat)]? with
  | some (.v (.c (.l _ text))), some (.v (.c (.b x))), some (.v (.c (.hz _ n))) => some (text, x, n)
  | _, _, _ => none
noncomputable def e_kgs (s : St) (n : Nat) : St := { fr := frame 100 [(7, .v (.c (.b true))), (8, .v (.c (.p 0 0 0))), (11, .v (.c (.hz 8 n)))], rg := s.rg.take 9 }
def isKg (s : St) (text : List Int) (x : Bool) (n : Nat) : Prop := ∃ M w G, s = s_kg M text x w G 0 ∧ w.length = n ∧ gridOk x text G
noncomputable def l_kg (s : St) : Tr (NExit × St) := match rdKg s with
  | some (text, x, n) => .must (isKg s text x n ∧ tx30 text) (.ret (.normal, e_kgs s n))
  | none => .fail
theorem cellK_in {M : Mn} {text : List Int} {x : Bool} {w : List Int} {G : List (List Sc)} {i g : Int} {R : RO → Prop} (hi : 0 ≤ i ∧ i ≤ 39) (hg : xI (cell1 G i) 0 = g) (h : R (.next (s_kg M text x w G (w64 (i + 1))))) : cellK M text x w G i g R :=
  chkC_in ⟨by decide, by decide⟩ hi (selF (scr.bneF hg) h)
set_option maxRecDepth 100000 in
set_option maxHeartbeats 2000000 in
theorem loop_kg : LOk Tryz.prog [] 0 2 (bodyLoop f_ky 2) l_kg := by
  refine loop_ok (X := X_ky) kc_ky mixed (LAll.none (by kernel_rfl)) [0, 1, 7, 8, 11, 14, 15] [6, 7, 8, 11] h_kg (fun a => ((a.text.length : Int) - a.i).toNat) preKg ?_ ?_
  · intro s R h
    unfold l_kg at h
    split at h
    case h_2 => exact h.elim
    rename_i text x n hrd
    obtain ⟨⟨⟨M, w, G, hs, hn, hg⟩, ht⟩, hR⟩ := h
    have hR' : R (.normal, e_kg M w) := by
      have : e_kgs s n = e_kg M w := by rw [hs, ← hn]; rfl
      rw [← this]
      exact hR
    exact ⟨⟨M, x, text, w, G, 0⟩, by simp only [h_kg]; exact hs, ⟨by simp only; omega, by simp only; omega⟩, ht, hg, hR'⟩
  · intro a R h
    obtain ⟨M, x, text, w, G, i⟩ := a
    obtain ⟨hi, ⟨hl, hb⟩, hg, hR⟩ := h
    simp only at hi hl hb hg hR
    refine Tr.run_mono _ (fun o ho => ho) (Box.of_eq (round_kg M text x w G i _) (sel_by (fun hlt => ?_) fun hlt => hR)).out
    have hw1 : w64 (i + 1) = i + 1 := w64_id (by omega)
    have nx : ∃ b, s_kg M text x w G (w64 (i + 1)) = h_kg b ∧ ((b.text.length : Int) - b.i).toNat < ((text.length : Int) - i).toNat ∧ preKg b R :=
      ⟨⟨M, x, text, w, G, i + 1⟩, by rw [hw1]; rfl, by simp only; omega, ⟨by simp only; omega, by simp only; omega⟩, ⟨hl, hb⟩, hg, hR⟩
    have hgi := hg i hi.1 hlt
    refine sel_b (fun hx => ix_in ⟨hi.1, hlt⟩ ?_) fun hx => ?_
    · subst hx
      have hX := get_byte hb ⟨hi.1, hlt⟩
      have e : (text.getD i.toNat 0).tmod 26 = (text.getD i.toNat 0) % 26 := Int.tmod_eq_emod_of_nonneg hX.1
      refine cellK_in ⟨hi.1, by omega⟩ ?_ nx
      rw [hgi]
      show 65 + (text.getD i.toNat 0).tmod 26 = _
      rw [e, w64_id (x := text.getD i.toNat 0 % 26) (by omega), w64_id (by omega)]
    · subst hx
      exact cellK_in ⟨hi.1, by omega⟩ hgi nx
end Go.Proofs.YtdijbpokklgjlaaGreatDoor.mtl
