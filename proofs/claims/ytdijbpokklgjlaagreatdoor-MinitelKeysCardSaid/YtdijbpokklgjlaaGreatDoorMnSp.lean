/-
  The law MinitelSocket: its loops, summed up.
-/
import Derived.Test.YtdijbpokklgjlaaGreatDoorMnSo
set_option linter.unusedVariables false
namespace Go.Proofs.YtdijbpokklgjlaaGreatDoor.mtl
open Go Go.Nx Go.Proofs.YtdijbpokklgjlaaGreatDoor.prt
open Go.Proofs.YtdijbpokklgjlaaGreatDoor.lex (arr lx InBytes mkEv K7 kMake)
open Go.Proofs.YtdijbpokklgjlaaGreatDoor.lxv (wf cel pend shft cc evts okP ev ignR)
open Go.Proofs.YtdijbpokklgjlaaGreatDoor.scr (Scr Ev eventS rollsS Ins newS grd rdG rdG_in KC gridG cell1 xI chkC chkC_in Pl gl)

/-! ### what is asked for -/
noncomputable def SM (p : PS) (sc : Scr) (O : List Int) : Mn := { newM 1000 with p := p, sc := sc, o2 := O }
noncomputable def TM (p : PS) (sc : Scr) (O P : List Int) : Mn := { SM p sc O with l2 := ⟨P, 0⟩ }
noncomputable def pAsk (p : PS) (t : Int) : PS := (askV p 10 3 97 t 83).1
noncomputable def pXY (x y : Bool) : PS := match x, y with
  | false, false => startP
  | true, false => pAsk startP 88
  | false, true => pAsk startP 90
  | true, true => pAsk (pAsk startP 88) 90
theorem pXY_ok (x y : Bool) : OkP (pXY x y) := by
  cases x <;> cases y
  · exact startP_ok
  · exact (ask_ok startP_ok _ _ _ _ _).p
  · exact (ask_ok startP_ok _ _ _ _ _).p
  · exact (ask_ok (ask_ok startP_ok 10 3 97 88 83).p _ _ _ _ _).p
theorem pXY_23 (x y : Bool) : hrs (pXY x y).M 2 3 = y := by cases x <;> cases y <;> kernel_rfl
theorem pXY_33 (x y : Bool) : hrs (pXY x y).M 3 3 = false := by cases x <;> cases y <;> kernel_rfl
theorem pXY_03 (x y : Bool) : hrs (pXY x y).M 0 3 = x := by cases x <;> cases y <;> kernel_rfl
theorem tm_step {p : PS} {sc : Scr} {O P P' : List Int} {c : Int} (h2 : hrs p.M 2 2 = false) (h3 : hrs p.M 3 2 = false) (hc : 0 ≤ c ∧ c < 128) (k1 : evts P 0 c = []) (k2 : pend P c = P') (k3 : shft 0 c = 0) : comesM 2 (mkEv c) (TM p sc O P) = TM p sc O P' := by
  rw [comes_own h2 h3]
  unfold byteM nextL
  rw [cc_mk hc]
  show evsM _ true 2 (evts P 0 c) (setL (TM p sc O P) 2 ⟨pend P c, shft 0 c⟩) = _
  rw [k1, k2, k3]
  rfl
theorem tm_ask {p : PS} {sc : Scr} {O P : List Int} {t : Int} (h2 : hrs p.M 2 2 = false) (h3 : hrs p.M 3 2 = false) (k1 : evts P 0 83 = [ev 10 3 97 t 83 0 0]) (k2 : pend P 83 = []) (hl : (askV p 10 3 97 t 83).2.length = 5) (hO : O.length ≤ 900) :
    comesM 2 (mkEv 83) (TM p sc O P) = SM (pAsk p t) (rollsS (pAsk p t).ro sc) (O ++ (askV p 10 3 97 t 83).2.map mkEv) := by
  rw [comes_own h2 h3]
  unfold byteM nextL
  rw [cc_mk (by decide)]
  show evsM _ true 2 (evts P 0 83) (setL (TM p sc O P) 2 ⟨pend P 83, shft 0 83⟩) = _
  rw [k1, k2, show shft 0 83 = 0 by kernel_rfl]
  show sendM 2 ((askV p 10 3 97 t 83).2.map mkEv) (SM (pAsk p t) (rollsS (pAsk p t).ro sc) O) = _
  unfold sendM
  have hm : ((askV p 10 3 97 t 83).2.map mkEv).length = 5 := by rw [List.length_map, hl]
  rw [if_neg (fun e => by rw [e] at hm; cases hm), if_neg (by
    show ¬ ((O.length : Int) + (((askV p 10 3 97 t 83).2.map mkEv).length : Int) > 1000)
    rw [hm]; omega)]
  rfl
theorem so_e88 : evts [27, 59, 97] 0 88 = [] := by kernel_rfl
theorem so_p88 : pend [27, 59, 97] 88 = [27, 59, 97, 88] := by kernel_rfl
theorem so_s88 : shft 0 88 = 0 := by kernel_rfl
theorem so_e90 : evts [27, 59, 97] 0 90 = [] := by kernel_rfl
theorem so_p90 : pend [27, 59, 97] 90 = [27, 59, 97, 90] := by kernel_rfl
theorem so_s90 : shft 0 90 = 0 := by kernel_rfl
theorem so_f88 : evts [27, 59, 97, 88] 0 83 = [ev 10 3 97 88 83 0 0] := by kernel_rfl
theorem so_q88 : pend [27, 59, 97, 88] 83 = [] := by kernel_rfl
theorem so_f90 : evts [27, 59, 97, 90] 0 83 = [ev 10 3 97 90 83 0 0] := by kernel_rfl
theorem so_q90 : pend [27, 59, 97, 90] 83 = [] := by kernel_rfl
def askS (t : Int) : List Int := [27, 59, 97, t, 83]
theorem seq_ask {p : PS} {sc : Scr} {O : List Int} {t : Int} (ht : t = 88 ∨ t = 90) (h2 : hrs p.M 2 2 = false) (h3 : hrs p.M 3 2 = false) (hl : (askV p 10 3 97 t 83).2.length = 5) (hO : O.length ≤ 900) :
    seqM (askS t) (SM p sc O) = SM (pAsk p t) (rollsS (pAsk p t).ro sc) (O ++ (askV p 10 3 97 t 83).2.map mkEv) := by
  unfold askS
  rw [show SM p sc O = TM p sc O [] from rfl]
  rcases ht with rfl | rfl
  · rw [seqM_cons, seqM_cons, seqM_cons, seqM_cons, seqM_cons, seqM_nil, tm_step h2 h3 (by decide) e6_0 p6_0 h6_0, tm_step h2 h3 (by decide) e6_1 p6_1 h6_1, tm_step h2 h3 (by decide) e6_2 p6_2 h6_2, tm_step h2 h3 (by decide) so_e88 so_p88 so_s88, tm_ask h2 h3 so_f88 so_q88 hl hO]
  · rw [seqM_cons, seqM_cons, seqM_cons, seqM_cons, seqM_cons, seqM_nil, tm_step h2 h3 (by decide) e6_0 p6_0 h6_0, tm_step h2 h3 (by decide) e6_1 p6_1 h6_1, tm_step h2 h3 (by decide) e6_2 p6_2 h6_2, tm_step h2 h3 (by decide) so_e90 so_p90 so_s90, tm_ask h2 h3 so_f90 so_q90 hl hO]
theorem sm_ok {p : PS} {sc : Scr} {O : List Int} (h : InsS sc) (hp : OkP p) (hO : O.length ≤ 5000) : OkM (SM p sc O) := ⟨h, hp, by show (1000 : Int) ≤ 5000; decide, hO, by simp [SM, newM], OkL.nil, OkL.nil, OkL.nil⟩

/-! ### a letter of the socket -/
theorem so_step {x y : Bool} {p : PS} {sc : Scr} {O : List Int} {c : Int} (h2 : hrs p.M 2 3 = y) (h3 : hrs p.M 3 3 = false) (h0 : hrs p.M 0 3 = x) (hc : 32 ≤ c ∧ c < 128) (hO : O.length ≤ 900) :
    comesM 3 (mkEv c) (SM p sc O) = SM p (if x then letS sc c else sc) (if y then O ++ [mkEv c] else O) := by
  have e1 : toAll 3 [mkEv c] (SM p sc O) = SM p sc (if y then O ++ [mkEv c] else O) := by
    unfold toAll
    show (let M1 := if hrs p.M 2 3 then sendM 2 [mkEv c] (SM p sc O) else SM p sc O; if hrs p.M 3 3 then sendM 3 [mkEv c] M1 else M1) = _
    rw [h2, h3]
    cases y with
    | false => rfl
    | true =>
      show sendM 2 [mkEv c] (SM p sc O) = _
      unfold sendM
      rw [if_neg (by simp), if_neg (by
        show ¬ ((O.length : Int) + ((1 : Nat) : Int) > 1000)
        omega)]
      rfl
  unfold comesM
  show readsM (hrs p.M 0 3) true 3 [mkEv c] (toAll 3 [mkEv c] (SM p sc O)) = _
  rw [e1, h0]
  generalize (if y then O ++ [mkEv c] else O) = O'
  show byteM x true 3 (SM p sc O') (mkEv c) = _
  unfold byteM nextL
  rw [cc_mk (by omega)]
  obtain ⟨e1, e2, e3⟩ := lxv.way_chr (s := 0) (c := c) (by omega)
  show evsM x true 3 (evts [] 0 c) (setL (SM p sc O') 3 ⟨pend [] c, shft 0 c⟩) = _
  rw [e1, e2, e3]
  cases x <;> rfl
theorem ltS_in {b : Int} (h : byte b) : ltS b = 65 + b.tmod 26 ∧ 65 ≤ ltS b ∧ ltS b ≤ 90 := by
  have h1 := h.1
  have e : b.tmod 26 = b % 26 := Int.tmod_eq_emod_of_nonneg h1
  have e2 : ltS b = 65 + b.tmod 26 := by unfold ltS; rw [u8_id (by omega)]
  rw [e2, e]
  exact ⟨rfl, by omega, by omega⟩
noncomputable def scS (x : Bool) (l : List Int) (sc : Scr) : Scr := l.foldl (fun s b => if x then letS s (ltS b) else s) sc
noncomputable def wS (l : List Int) : List Int := l.map fun b => mkEv (ltS b)
theorem InsS.let' {sc : Scr} (h : InsS sc) (x : Bool) (c : Int) : InsS (if x then letS sc c else sc) := by
  cases x
  · exact h
  · exact h.lets c
theorem InsS.scS (x : Bool) : ∀ (l : List Int) {sc : Scr}, InsS sc → InsS (scS x l sc)
  | [], _, h => h
  | b :: l, _, h => InsS.scS x l (h.let' x (ltS b))
theorem skR_in {c : Int} {M : Mn} {N : Mn → Prop} (hc : 0 ≤ c ∧ c < 256) (hM : OkM M) (hN : N (comesM 3 (mkEv c) M)) : skR c M N := by
  unfold skR
  rw [nrm_eq hM.p]
  exact ⟨hc, lensR_in M, ⟨hM, mkEv_byte hc⟩, hN⟩
noncomputable def oY (y : Bool) (w : List Int) : List Int := if y then w else []
noncomputable def endM (x y : Bool) (text : List Int) : Mn := SM (pXY x y) (scS x text newS) (oY y (wS text))
structure ASo where
  x : Bool
  y : Bool
  text : List Int
  sc : Scr
  w : List Int
  i : Int
noncomputable def h_so (a : ASo) : St := s_so (SM (pXY a.x a.y) a.sc (oY a.y a.w)) a.text a.x a.y a.w a.w.length a.i
noncomputable def fin_so (x y : Bool) (text : List Int) (sc : Scr) (w : List Int) : St := e_so (SM (pXY x y) sc (oY y w)) text x y w w.length
def preSo (a : ASo) (R : NExit × St → Prop) : Prop := (0 ≤ a.i ∧ a.i ≤ (a.text.length : Int)) ∧ a.text.length ≤ 30 ∧ InBytes a.text ∧ InsS a.sc ∧ (a.w.length : Int) = a.i ∧ R (.normal, fin_so a.x a.y a.text (scS a.x (a.text.drop a.i.toNat) a.sc) (a.w ++ wS (a.text.drop a.i.toNat)))
def rdSo (s : St) : Option (List Int × Bool × Bool) := match s.fr[(0 : Nat)]?, s.fr[(1 : Nat)]?, s.fr[(2 : Nat)]? with
  | some (.v (.c (.l _ text))), some (.v (.c (.b x))), some (.v (.c (.b y))) => some (text, x, y)
  | _, _, _ => none
def tx30 (text : List Int) : Prop := text.length ≤ 30 ∧ InBytes text
noncomputable def l_so (s : St) : Tr (NExit × St) := match rdSo s with
  | some (text, x, y) => .must (s = s_so (SM (pXY x y) newS []) text x y [] 0 0 ∧ tx30 text) (.ret (.normal, e_so (endM x y text) text x y (wS text) (wS text).length))
  | none => .fail
set_option maxRecDepth 100000 in
theorem loop_so : LOk Tryz.prog [] 0 0 (bodyLoop f_so 0) l_so := by
  refine loop_ok (X := X_so) kc_so mixed (LAll.none (by kernel_rfl)) [0, 1, 2, 7, 8, 11, 12] [0, 1, 2, 7, 8, 11] h_so (fun a => ((a.text.length : Int) - a.i).toNat) preSo ?_ ?_
  · intro s R h
    unfold l_so at h
    split at h
    case h_2 => exact h.elim
    rename_i text x y hrd
    obtain ⟨⟨hs, hl, hb⟩, hR⟩ := h
    refine ⟨⟨x, y, text, newS, [], 0⟩, ?_, ⟨by simp only; omega, by simp only; omega⟩, hl, hb, ins_newS, rfl, hR⟩
    rw [hs]
    cases y <;> rfl
  · intro a R h
    obtain ⟨x, y, text, sc, w, i⟩ := a
    obtain ⟨hi, hl, hb, hs, hw, hR⟩ := h
    simp only at hi hl hb hs hw hR
    have hO : (oY y w).length ≤ 900 := by
      cases y with
      | false => show ([] : List Int).length ≤ 900; decide
      | true => show w.length ≤ 900; omega
    refine Tr.run_mono _ (fun o ho => ho) (Box.of_eq (round_so (SM (pXY x y) sc (oY y w)) text x y w i _) (sel_by (fun hlt => ix_in ⟨hi.1, hlt⟩ ?_) fun hlt => ?_)).out
    · have hX := get_byte hb ⟨hi.1, hlt⟩
      obtain ⟨_, hl1, hl2⟩ := ltS_in hX
      have hw1 : w64 (i + 1) = i + 1 := w64_id (by omega)
      refine skR_in (by omega) (sm_ok hs (pXY_ok x y) (by omega)) ?_
      rw [so_step (pXY_23 x y) (pXY_33 x y) (pXY_03 x y) (by omega) hO, hw1, List.take_length]
      rw [drop_get ⟨hi.1, hlt⟩] at hR
      refine ap8_in (Nat.le_refl _) (by omega) ⟨⟨x, y, text, if x then letS sc (ltS (text.getD i.toNat 0)) else sc, w ++ [mkEv (ltS (text.getD i.toNat 0))], i + 1⟩, ?_, by simp only; omega, ⟨by simp only; omega, by simp only; omega⟩, hl, hb, hs.let' x _, by simp; omega, ?_⟩
      · unfold h_so
        simp only [List.length_append, List.length_cons, List.length_nil]
        cases y <;> rfl
      · simp only
        rw [List.append_assoc]
        exact hR
    · rw [List.drop_eq_nil_iff.2 (by omega)] at hR
      rw [show w ++ wS [] = w by unfold wS; simp] at hR
      exact hR

/-! ### the grid -/
def glS (x : Bool) (b : Int) : Int := if x then 65 + b.tmod 26 else 32
def gridOk (x : Bool) (text : List Int) (G : List (List Sc)) : Prop := ∀ i : Int, 0 ≤ i → i < (text.length : Int) → xI (cell1 G i) 0 = glS x (text.getD i.toNat 0)
structure ASg where
  M : Mn
  x : Bool
  y : Bool
  text : List Int
  w : List Int
  G : List (List Sc)
  i : Int
noncomputable def h_sg (a : ASg) : St := s_sg a.M a.text a.x a.y a.w a.G a.i
def preSg (a : ASg) (R : NExit × St → Prop) : Prop := (0 ≤ a.i ∧ a.i ≤ (a.text.length : Int)) ∧ tx30 a.text ∧ gridOk a.x a.text a.G ∧ R (.normal, e_sg a.M a.y a.w)
noncomputable def gridM (M : Mn) : List (List Sc) := gridG M.sc.ma M.sc.sl
noncomputable def l_sg (s : St) : Tr (NExit × St) := match rdSo s with
  | some (text, x, y) => .must (s = s_sg (endM x y text) text x y (wS text) (gridM (endM x y text)) 0 ∧ tx30 text ∧ gridOk x text (gridM (endM x y text))) (.ret (.normal, e_sg (endM x y text) y (wS text)))
  | none => .fail
theorem cellR_in {M : Mn} {text : List Int} {x y : Bool} {w : List Int} {G : List (List Sc)} {i g : Int} {R : RO → Prop} (hi : 0 ≤ i ∧ i ≤ 39) (hg : xI (cell1 G i) 0 = g) (h : R (.next (s_sg M text x y w G (w64 (i + 1))))) : cellR M text x y w G i g R :=
  chkC_in ⟨by decide, by decide⟩ hi (selF (scr.bneF hg) h)
set_option maxRecDepth 100000 in
set_option maxHeartbeats 2000000 in
theorem loop_sg : LOk Tryz.prog [] 0 2 (bodyLoop f_so 2) l_sg := by
  refine loop_ok (X := X_so) kc_so mixed (LAll.none (by kernel_rfl)) [0, 1, 2, 7, 8, 11, 14, 15] [2, 6, 7, 8, 11] h_sg (fun a => ((a.text.length : Int) - a.i).toNat) preSg ?_ ?_
  · intro s R h
    unfold l_sg at h
    split at h
    case h_2 => exact h.elim
    rename_i text x y hrd
    obtain ⟨⟨hs, ht, hg⟩, hR⟩ := h
    generalize hE : endM x y text = E at hs hg hR
    generalize hGm : gridM E = G at hs hg
    have hR' : R (.normal, e_sg E y (wS text)) := hR
    clear hR
    generalize wS text = W at hs hR'
    exact ⟨⟨E, x, y, text, W, G, 0⟩, by simp only [h_sg]; exact hs, ⟨by simp only; omega, by simp only; omega⟩, ht, hg, hR'⟩
  · intro a R h
    obtain ⟨M, x, y, text, w, G, i⟩ := a
    obtain ⟨hi, ⟨hl, hb⟩, hg, hR⟩ := h
    simp only at hi hl hb hg hR
    refine Tr.run_mono _ (fun o ho => ho) (Box.of_eq (round_sg M text x y w G i _) (sel_by (fun hlt => ?_) fun hlt => hR)).out
    have hw1 : w64 (i + 1) = i + 1 := w64_id (by omega)
    have nx : ∃ b, s_sg M text x y w G (w64 (i + 1)) = h_sg b ∧ ((b.text.length : Int) - b.i).toNat < ((text.length : Int) - i).toNat ∧ preSg b R :=
      ⟨⟨M, x, y, text, w, G, i + 1⟩, by rw [hw1]; rfl, by simp only; omega, ⟨by simp only; omega, by simp only; omega⟩, ⟨hl, hb⟩, hg, hR⟩
    have hgi := hg i hi.1 hlt
    refine sel_b (fun hx => ix_in ⟨hi.1, hlt⟩ ?_) fun hx => ?_
    · subst hx
      have hX := get_byte hb ⟨hi.1, hlt⟩
      have e : (text.getD i.toNat 0).tmod 26 = (text.getD i.toNat 0) % 26 := Int.tmod_eq_emod_of_nonneg hX.1
      refine cellR_in ⟨hi.1, by omega⟩ ?_ nx
      rw [hgi]
      show 65 + (text.getD i.toNat 0).tmod 26 = _
      rw [e, w64_id (x := text.getD i.toNat 0 % 26) (by omega), w64_id (by omega)]
    · subst hx
      exact cellR_in ⟨hi.1, by omega⟩ hgi nx
/-! ### what stands there -/
theorem letS_eq {c : Int} {s : Scr} (h : 0 ≤ c ∧ c < 256) : letS s c = scr.writeS (scr.evL c) s := by
  show eventS (scr.evL (w64 c)) s = _
  rw [w64_id (by omega), scr.event_let]
theorem row_gl : ∀ (l : List Int) {s : Scr}, InBytes l → Pl s → s.row = 1 → s.col + (l.length : Int) ≤ 39 →
    (∀ j : Nat, (j : Int) < 40 + s.col → gl (scS true l s) j = gl s j) ∧ (∀ k : Nat, k < l.length → gl (scS true l s) (40 + s.col.toNat + k) = ltS (l.getD k 0)) ∧ Pl (scS true l s)
  | [], s, _, hp, _, _ => ⟨fun _ _ => rfl, fun k hk => (by cases hk), hp⟩
  | b :: l, s, hb, hp, hr, hc => by
    have hX := hb b (List.mem_cons_self ..)
    obtain ⟨_, h1, h2⟩ := ltS_in hX
    have hcol : 0 ≤ s.col := hp.on.2.1.1
    simp only [List.length_cons] at hc
    obtain ⟨q1, q2, q3, _, _, _, q7⟩ := scr.let_in (c := ltS b) hp (by omega)
    rw [← letS_eq (by omega)] at q1 q2 q3 q7
    obtain ⟨r1, r2, r3⟩ := row_gl l (s := letS s (ltS b)) (fun z hz => hb z (List.mem_cons_of_mem _ hz)) q1 (by rw [q2, hr]) (by rw [q3]; omega)
    rw [q3] at r1 r2
    have e : scS true (b :: l) s = scS true l (letS s (ltS b)) := rfl
    rw [e]
    refine ⟨fun j hj => ?_, fun k hk => ?_, r3⟩
    · rw [r1 j (by omega), q7 j, if_neg (by rw [hr]; show ¬ (1 * 40 + s.col.toNat = j); omega)]
    · match k, hk with
      | 0, _ =>
        rw [r1 _ (by omega), q7, if_pos (by rw [hr]; show 1 * 40 + s.col.toNat = _; omega), scr.plain_up ⟨h1, h2⟩]
        rfl
      | k + 1, hk =>
        have := r2 k (by simpa using hk)
        rw [show 40 + s.col.toNat + (k + 1) = 40 + (s.col + 1).toNat + k by omega, this]
        rfl
theorem scS_false (l : List Int) (s : Scr) : scS false l s = s := by
  induction l generalizing s with
  | nil => rfl
  | cons b l ih => exact ih s
theorem grid_so {x y : Bool} {text : List Int} (h : tx30 text) : gridOk x text (gridM (endM x y text)) := by
  intro i h0 hi
  have hl := h.1
  show xI ((gridG (scS x text newS).ma (scS x text newS).sl).getD (1 * 40 + i.toNat) []) 0 = _
  cases x with
  | false =>
    rw [scS_false, scr.pl_cell scr.pl_new (by decide) (by omega), scr.gl_new (by omega)]
    rfl
  | true =>
    obtain ⟨_, r2, r3⟩ := row_gl text (s := newS) h.2 scr.pl_new rfl (by show (0 : Int) + (text.length : Int) ≤ 39; omega)
    have hb := get_byte h.2 ⟨h0, hi⟩
    rw [scr.pl_cell r3 (by decide) (by omega)]
    have := r2 i.toNat (by omega)
    have e : 40 + newS.col.toNat + i.toNat = 1 * 40 + i.toNat := by show 40 + 0 + i.toNat = _; omega
    rw [e] at this
    rw [this, (ltS_in hb).1]
    rfl
end Go.Proofs.YtdijbpokklgjlaaGreatDoor.mtl
