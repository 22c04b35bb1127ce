/-
  The law MinitelAnswers.
-/
import Derived.Test.YtdijbpokklgjlaaGreatDoorMnY
set_option linter.unusedVariables false
namespace Go.Proofs.YtdijbpokklgjlaaGreatDoor.mtl
open Go Go.Nx Go.Proofs.YtdijbpokklgjlaaGreatDoor.prt
open Go.Proofs.YtdijbpokklgjlaaGreatDoor.lex (arr lx InBytes mkEv K7 kMake)
open Go.Proofs.YtdijbpokklgjlaaGreatDoor.lxv (wf cel pend shft cc evts okP ev ignR)
open Go.Proofs.YtdijbpokklgjlaaGreatDoor.scr (Scr Ev eventS rollsS Ins newS)

noncomputable abbrev f_an := Tryz.f3
/-- A number below seven, below another one: as literals. -/
noncomputable def tNum2 (j n : Int) : Con := fun args regs => match args, regs with
  | [.c (.i .i64 x), .c (.i .i64 m)], [] => (match decide (m = 7) with
    | true => .must (x % 7 = j) (.ret ⟨.v (.c (.i .i64 j)), []⟩)
    | false => .must ((0 < m ∧ m < 4611686018427387904) ∧ x % m = n) (.ret ⟨.v (.c (.i .i64 n)), []⟩))
  | _, _ => .fail
set_option maxRecDepth 100000 in
theorem kNum2 (j n : Int) : Known Tryz.prog [] 11 (tNum2 j n) := by
  refine num.kNumV.less fun args regs R h => ?_
  unfold tNum2 at h
  split at h
  case h_2 => exact h.elim
  rename_i x m
  split at h
  · rename_i hm
    have hm := of_decide_eq_true hm
    subst hm
    obtain ⟨rfl, h⟩ := h
    exact ⟨⟨by decide, by decide⟩, h⟩
  · obtain ⟨⟨hm, rfl⟩, h⟩ := h
    exact ⟨hm, h⟩
noncomputable def c_an (j n : Int) : FuncId → Option Con := conOf [(7, tFst), (11, tNum2 j n), (8, tNewM), (14, tLn2), (10, lex.tMake), (9, tByM 2),
  (15, tOut), (12, tTake), (16, tLost), (13, tSmB)]
theorem kc_an (j n : Int) : ∀ f T, c_an j n f = some T → Known Tryz.prog [] f T := (Knowns.cons kFst (.cons (kNum2 j n) (.cons kNewM (.cons kLn2 (.cons kMake (.cons kModem.known (.cons kOut.known (.cons kTake.known (.cons kLost.known (.cons kSmB .nil)))))))))).get
noncomputable def X_an (j n : Int) : Cx := { P := Tryz.prog, con := c_an j n, glob := [], m := 0, loops := [] }
/-! ### letters ahead -/
noncomputable def AM (sc : Scr) : Mn := { newM 1000 with sc := sc }
noncomputable def s_an (M : Mn) (w u : Int) (ah : List Int) (i : Int) : St := { fr := frame 142 [(0, .v (.c (.i .i64 w))), (1, .v (.c (.i .i64 u))), (2, .v (.c (.l .u8 ah))), (7, .v (.c (.b true))), (8, .v (.c (.p 0 0 0))), (10, .v (.c (.i .i64 i)))], rg := (mnIn M).map some }
noncomputable def e_an (M : Mn) (w u : Int) : St := { fr := frame 142 [(0, .v (.c (.i .i64 w))), (1, .v (.c (.i .i64 u))), (7, .v (.c (.b true))), (8, .v (.c (.p 0 0 0)))], rg := (mnIn M).map some }
def ltr (b : Int) : Int := bits .or .u8 (bits .and .u8 b 95) 32
theorem round_an (j n : Int) (M : Mn) (w u : Int) (ah : List Int) (i : Int) (R : RO → Prop) : (roundT (X_an j n) 0 [0, 1, 2, 7, 8, 10] [0, 1, 7, 8] (bodyLoop f_an 0) (s_an M w u ah i)).run R =
    sel (decide (i < (ah.length : Int))) (ix i ah (mdR (ltr (ah.getD i.toNat 0)) M fun M1 => R (.next (s_an M1 w u ah (w64 (i + 1)))))) (R (.done .normal (e_an M w u))) := by kernel_rfl
theorem ltr_all : ∀ n < 256, 32 ≤ ltr (Int.ofNat n) ∧ ltr (Int.ofNat n) < 128 := by decide +kernel
theorem ltr_in {b : Int} (h : byte b) : 32 ≤ ltr b ∧ ltr b < 128 := by
  have e : b = Int.ofNat b.toNat := by show b = ((b.toNat : Nat) : Int); have := h.1; omega
  rw [e]
  exact ltr_all _ (by have := h.1; have := h.2; omega)
theorem cc_all : ∀ n < 128, cc (mkEv (Int.ofNat n)) = Int.ofNat n := by decide +kernel
theorem cc_mk {c : Int} (h : 0 ≤ c ∧ c < 128) : cc (mkEv c) = c := by
  have e : c = Int.ofNat c.toNat := by show c = ((c.toNat : Nat) : Int); omega
  rw [e]
  exact cc_all _ (by omega)
/-- The screen behind a letter of the line. -/
noncomputable def letS (sc : Scr) (c : Int) : Scr := eventS (evX (ev 1 0 0 0 0 0 (w64 c))) sc
theorem am_let {sc : Scr} {c : Int} (h : 32 ≤ c ∧ c < 128) : comesM 2 (mkEv c) (AM sc) = AM (letS sc c) := by
  rw [comes_own rfl rfl]
  unfold byteM nextL
  rw [cc_mk (by omega)]
  obtain ⟨e1, e2, e3⟩ := lxv.way_chr (s := 0) (c := c) (by omega)
  show evsM _ true 2 (evts [] 0 c) (setL (AM sc) 2 ⟨pend [] c, shft 0 c⟩) = _
  rw [e1, e2, e3]
  rfl
noncomputable def scAh (ah : List Int) (sc : Scr) : Scr := ah.foldl (fun s b => letS s (ltr b)) sc
structure AAn where
  w : Int
  u : Int
  ah : List Int
  sc : Scr
  i : Int
noncomputable def h_an (a : AAn) : St := s_an (AM a.sc) a.w a.u a.ah a.i
def InsS (sc : Scr) : Prop := ∃ r, Ins r sc
theorem InsS.lets {sc : Scr} (h : InsS sc) (c : Int) : InsS (letS sc c) := by
  obtain ⟨r, hr⟩ := h
  exact ⟨r, hr.event _⟩
theorem InsS.ah : ∀ (l : List Int) {sc : Scr}, InsS sc → InsS (scAh l sc)
  | [], _, h => h
  | b :: l, _, h => InsS.ah l (h.lets (ltr b))
theorem am_ok {sc : Scr} (h : InsS sc) : OkM (AM sc) := ⟨h, startP_ok, by show (1000 : Int) ≤ 5000; decide, by simp [AM, newM], by simp [AM, newM], OkL.nil, OkL.nil, OkL.nil⟩
def preAn (a : AAn) (R : NExit × St → Prop) : Prop := (0 ≤ a.i ∧ a.i ≤ (a.ah.length : Int)) ∧ a.ah.length ≤ 30 ∧ InBytes a.ah ∧ InsS a.sc ∧ R (.normal, e_an (AM (scAh (a.ah.drop a.i.toNat) a.sc)) a.w a.u)
def rdAn (s : St) : Option (Int × Int × List Int) := match s.fr[(0 : Nat)]?, s.fr[(1 : Nat)]?, s.fr[(2 : Nat)]? with
  | some (.v (.c (.i _ w))), some (.v (.c (.i _ u))), some (.v (.c (.l _ ah))) => some (w, u, ah)
  | _, _, _ => none
noncomputable def l_an (s : St) : Tr (NExit × St) := match rdAn s with
  | some (w, u, ah) => .must (s = s_an (AM newS) w u ah 0 ∧ ah.length ≤ 30 ∧ InBytes ah) (.ret (.normal, e_an (AM (scAh ah newS)) w u))
  | none => .fail
set_option maxRecDepth 100000 in
theorem loop_an (j n : Int) : LOk Tryz.prog [] 0 0 (bodyLoop f_an 0) l_an := by
  refine loop_ok (X := X_an j n) (kc_an j n) mixed (LAll.none (by kernel_rfl)) [0, 1, 2, 7, 8, 10] [0, 1, 7, 8] h_an (fun a => ((a.ah.length : Int) - a.i).toNat) preAn ?_ ?_
  · intro s R h
    unfold l_an at h
    split at h
    case h_2 => exact h.elim
    rename_i w u ah hrd
    obtain ⟨⟨hs, hl, hb⟩, hR⟩ := h
    exact ⟨⟨w, u, ah, newS, 0⟩, hs, ⟨by simp only; omega, by simp only; omega⟩, hl, hb, ins_newS, hR⟩
  · intro a R h
    obtain ⟨w, u, ah, sc, i⟩ := a
    obtain ⟨hi, hl, hb, hs, hR⟩ := h
    simp only at hi hl hb hs hR
    refine Tr.run_mono _ (fun o ho => ho) (Box.of_eq (round_an j n (AM sc) w u ah i _) (sel_by (fun hlt => ix_in ⟨hi.1, hlt⟩ ?_) fun hlt => ?_)).out
    · have hX := get_byte hb ⟨hi.1, hlt⟩
      have hl2 := ltr_in hX
      have hw : w64 (i + 1) = i + 1 := w64_id (by omega)
      refine mdR_in (by omega) (am_ok hs) ?_
      rw [am_let hl2, hw]
      rw [drop_get ⟨hi.1, hlt⟩] at hR
      exact ⟨⟨w, u, ah, letS sc (ltr (ah.getD i.toNat 0)), i + 1⟩, rfl, by simp only; omega, ⟨by simp only; omega, by simp only; omega⟩, hl, hb, hs.lets _, hR⟩
    · rw [List.drop_eq_nil_iff.2 (by omega)] at hR
      exact hR
/-! ### sequences -/
noncomputable def seqM (l : List Int) (M : Mn) : Mn := l.foldl (fun M c => comesM 2 (mkEv c) M) M
noncomputable def mdRs : List Int → Mn → (Mn → Prop) → Prop
  | [], M, N => N M
  | c :: l, M, N => mdR c M fun M' => mdRs l M' N
theorem mdRs_in : ∀ {l : List Int} {M : Mn} {N : Mn → Prop}, InBytes l → OkM M → N (seqM l M) → mdRs l M N
  | [], _, _, _, _, h => h
  | c :: l, M, N, hb, hM, h => mdR_in (hb c (List.mem_cons_self ..)) hM (mdRs_in (fun x hx => hb x (List.mem_cons_of_mem _ hx)) (hM.comes 2 (mkEv_byte (hb c (List.mem_cons_self ..)))) h)
theorem OkM.seq : ∀ {l : List Int} {M : Mn}, InBytes l → OkM M → OkM (seqM l M)
  | [], _, _, h => h
  | c :: l, M, hb, h => OkM.seq (l := l) (fun x hx => hb x (List.mem_cons_of_mem _ hx)) (h.comes 2 (mkEv_byte (hb c (List.mem_cons_self ..))))
/-- What is begun. -/
noncomputable def BM (sc : Scr) (P : List Int) : Mn := { AM sc with l2 := ⟨P, 0⟩ }
theorem bm_step {sc : Scr} {P P' : List Int} {c : Int} (hc : 0 ≤ c ∧ c < 128) (h1 : evts P 0 c = []) (h2 : pend P c = P') (h3 : shft 0 c = 0) : comesM 2 (mkEv c) (BM sc P) = BM sc P' := by
  rw [comes_own rfl rfl]
  unfold byteM nextL
  rw [cc_mk hc]
  show evsM _ true 2 (evts P 0 c) (setL (BM sc P) 2 ⟨pend P c, shft 0 c⟩) = _
  rw [h1, h2, h3]
  rfl
theorem seqM_nil (M : Mn) : seqM [] M = M := rfl
theorem seqM_cons (c : Int) (l : List Int) (M : Mn) : seqM (c :: l) M = seqM l (comesM 2 (mkEv c) M) := by unfold seqM; rw [List.foldl_cons]
theorem am_bm (sc : Scr) : AM sc = BM sc [] := rfl
/-- A control drops what is begun. -/
noncomputable def ctlS (sc : Scr) (P : List Int) : Scr := ((lxv.pre P ++ [lxv.ctlR 10]).foldl (fun s r => eventS (evX r) s) sc)
theorem bm_ctl (sc : Scr) (P : List Int) : comesM 2 (mkEv 10) (BM sc P) = AM (ctlS sc P) := by
  rw [comes_own rfl rfl]
  unfold byteM nextL
  rw [cc_mk (by decide)]
  obtain ⟨e1, e2, e3⟩ := lxv.way_ctl (P := P) (s := 0) (c := 10) (by decide) rfl rfl
  show evsM _ true 2 (evts P 0 10) (setL (BM sc P) 2 ⟨pend P 10, shft 0 10⟩) = _
  rw [e1, e2, e3]
  unfold ctlS lxv.pre
  split <;> rfl
theorem InsS.ctl {sc : Scr} (h : InsS sc) (P : List Int) : InsS (ctlS sc P) := by
  have ev : ∀ (l : List (List Sc)) {s : Scr}, InsS s → InsS (l.foldl (fun s r => eventS (evX r) s) s) := by
    intro l
    induction l with
    | nil => exact fun h => h
    | cons r l ih => exact fun {s} ⟨b, hb⟩ => ih ⟨b, hb.event (evX r)⟩
  exact ev _ h
/-- What is asked, at its last byte. -/
noncomputable def CM (sc : Scr) (A B C D : Int) (a : List Int) : Mn := { AM sc with p := (askV startP 10 A B C D).1, sc := rollsS (askV startP 10 A B C D).1.ro sc, o2 := a.map mkEv }
theorem bm_ask {sc : Scr} {P a : List Int} {c A B C D : Int} (hc : 0 ≤ c ∧ c < 128) (h1 : evts P 0 c = [ev 10 A B C D 0 0]) (h2 : pend P c = []) (h3 : shft 0 c = 0) (ha : (askV startP 10 A B C D).2 = a) (hl : a.length ≤ 10) (hn : a ≠ []) : comesM 2 (mkEv c) (BM sc P) = CM sc A B C D a := by
  rw [comes_own rfl rfl]
  unfold byteM nextL
  rw [cc_mk hc]
  show evsM _ true 2 (evts P 0 c) (setL (BM sc P) 2 ⟨pend P c, shft 0 c⟩) = _
  rw [h1, h2, h3]
  show sendM 2 ((askV startP 10 A B C D).2.map mkEv) { AM sc with p := (askV startP 10 A B C D).1, sc := rollsS (askV startP 10 A B C D).1.ro sc } = _
  rw [ha]
  unfold sendM
  rw [if_neg (by simpa using hn), if_neg (by
    show ¬ (((0 : Nat) : Int) + ((a.map mkEv).length : Int) > 1000)
    rw [List.length_map]; omega)]
  rfl
theorem e0_0 : evts [] 0 27 = [] := by kernel_rfl
theorem p0_0 : pend [] 27 = [27] := by kernel_rfl
theorem h0_0 : shft 0 27 = 0 := by kernel_rfl
theorem e0_1 : evts [27] 0 57 = [] := by kernel_rfl
theorem p0_1 : pend [27] 57 = [27, 57] := by kernel_rfl
theorem h0_1 : shft 0 57 = 0 := by kernel_rfl
theorem e0_2 : evts [27, 57] 0 112 = [ev 10 1 112 0 0 0 0] := by kernel_rfl
theorem p0_2 : pend [27, 57] 112 = [] := by kernel_rfl
theorem h0_2 : shft 0 112 = 0 := by kernel_rfl
theorem a0 : (askV startP 10 1 112 0 0).2 = [27, 58, 113, 74] := by kernel_rfl
theorem q0_0 (sc : Scr) : seqM [] (AM sc) = BM sc [] := rfl
theorem q0_1 (sc : Scr) : seqM [27] (AM sc) = BM sc [27] := by
  rw [am_bm, seqM_cons, seqM_nil, bm_step (by decide) e0_0 p0_0 h0_0]
theorem q0_2 (sc : Scr) : seqM [27, 57] (AM sc) = BM sc [27, 57] := by
  rw [am_bm, seqM_cons, seqM_cons, seqM_nil, bm_step (by decide) e0_0 p0_0 h0_0, bm_step (by decide) e0_1 p0_1 h0_1]
theorem w0 (sc : Scr) : seqM [27, 57, 112] (AM sc) = CM sc 1 112 0 0 [27, 58, 113, 74] := by
  rw [am_bm, seqM_cons, seqM_cons, seqM_cons, seqM_nil, bm_step (by decide) e0_0 p0_0 h0_0, bm_step (by decide) e0_1 p0_1 h0_1, bm_ask (by decide) e0_2 p0_2 h0_2 a0 (by decide) (by decide)]
theorem e1_0 : evts [] 0 27 = [] := by kernel_rfl
theorem p1_0 : pend [] 27 = [27] := by kernel_rfl
theorem h1_0 : shft 0 27 = 0 := by kernel_rfl
theorem e1_1 : evts [27] 0 57 = [] := by kernel_rfl
theorem p1_1 : pend [27] 57 = [27, 57] := by kernel_rfl
theorem h1_1 : shft 0 57 = 0 := by kernel_rfl
theorem e1_2 : evts [27, 57] 0 114 = [ev 10 1 114 0 0 0 0] := by kernel_rfl
theorem p1_2 : pend [27, 57] 114 = [] := by kernel_rfl
theorem h1_2 : shft 0 114 = 0 := by kernel_rfl
theorem a1 : (askV startP 10 1 114 0 0).2 = [27, 58, 115, 64] := by kernel_rfl
theorem q1_0 (sc : Scr) : seqM [] (AM sc) = BM sc [] := rfl
theorem q1_1 (sc : Scr) : seqM [27] (AM sc) = BM sc [27] := by
  rw [am_bm, seqM_cons, seqM_nil, bm_step (by decide) e1_0 p1_0 h1_0]
theorem q1_2 (sc : Scr) : seqM [27, 57] (AM sc) = BM sc [27, 57] := by
  rw [am_bm, seqM_cons, seqM_cons, seqM_nil, bm_step (by decide) e1_0 p1_0 h1_0, bm_step (by decide) e1_1 p1_1 h1_1]
theorem w1 (sc : Scr) : seqM [27, 57, 114] (AM sc) = CM sc 1 114 0 0 [27, 58, 115, 64] := by
  rw [am_bm, seqM_cons, seqM_cons, seqM_cons, seqM_nil, bm_step (by decide) e1_0 p1_0 h1_0, bm_step (by decide) e1_1 p1_1 h1_1, bm_ask (by decide) e1_2 p1_2 h1_2 a1 (by decide) (by decide)]
theorem e2_0 : evts [] 0 27 = [] := by kernel_rfl
theorem p2_0 : pend [] 27 = [27] := by kernel_rfl
theorem h2_0 : shft 0 27 = 0 := by kernel_rfl
theorem e2_1 : evts [27] 0 57 = [] := by kernel_rfl
theorem p2_1 : pend [27] 57 = [27, 57] := by kernel_rfl
theorem h2_1 : shft 0 57 = 0 := by kernel_rfl
theorem e2_2 : evts [27, 57] 0 116 = [ev 10 1 116 0 0 0 0] := by kernel_rfl
theorem p2_2 : pend [27, 57] 116 = [] := by kernel_rfl
theorem h2_2 : shft 0 116 = 0 := by kernel_rfl
theorem a2 : (askV startP 10 1 116 0 0).2 = [27, 58, 117, 100] := by kernel_rfl
theorem q2_0 (sc : Scr) : seqM [] (AM sc) = BM sc [] := rfl
theorem q2_1 (sc : Scr) : seqM [27] (AM sc) = BM sc [27] := by
  rw [am_bm, seqM_cons, seqM_nil, bm_step (by decide) e2_0 p2_0 h2_0]
theorem q2_2 (sc : Scr) : seqM [27, 57] (AM sc) = BM sc [27, 57] := by
  rw [am_bm, seqM_cons, seqM_cons, seqM_nil, bm_step (by decide) e2_0 p2_0 h2_0, bm_step (by decide) e2_1 p2_1 h2_1]
theorem w2 (sc : Scr) : seqM [27, 57, 116] (AM sc) = CM sc 1 116 0 0 [27, 58, 117, 100] := by
  rw [am_bm, seqM_cons, seqM_cons, seqM_cons, seqM_nil, bm_step (by decide) e2_0 p2_0 h2_0, bm_step (by decide) e2_1 p2_1 h2_1, bm_ask (by decide) e2_2 p2_2 h2_2 a2 (by decide) (by decide)]
theorem e3_0 : evts [] 0 27 = [] := by kernel_rfl
theorem p3_0 : pend [] 27 = [27] := by kernel_rfl
theorem h3_0 : shft 0 27 = 0 := by kernel_rfl
theorem e3_1 : evts [27] 0 57 = [] := by kernel_rfl
theorem p3_1 : pend [27] 57 = [27, 57] := by kernel_rfl
theorem h3_1 : shft 0 57 = 0 := by kernel_rfl
theorem e3_2 : evts [27, 57] 0 118 = [ev 10 1 118 0 0 0 0] := by kernel_rfl
theorem p3_2 : pend [27, 57] 118 = [] := by kernel_rfl
theorem h3_2 : shft 0 118 = 0 := by kernel_rfl
theorem a3 : (askV startP 10 1 118 0 0).2 = [27, 58, 119, 64] := by kernel_rfl
theorem q3_0 (sc : Scr) : seqM [] (AM sc) = BM sc [] := rfl
theorem q3_1 (sc : Scr) : seqM [27] (AM sc) = BM sc [27] := by
  rw [am_bm, seqM_cons, seqM_nil, bm_step (by decide) e3_0 p3_0 h3_0]
theorem q3_2 (sc : Scr) : seqM [27, 57] (AM sc) = BM sc [27, 57] := by
  rw [am_bm, seqM_cons, seqM_cons, seqM_nil, bm_step (by decide) e3_0 p3_0 h3_0, bm_step (by decide) e3_1 p3_1 h3_1]
theorem w3 (sc : Scr) : seqM [27, 57, 118] (AM sc) = CM sc 1 118 0 0 [27, 58, 119, 64] := by
  rw [am_bm, seqM_cons, seqM_cons, seqM_cons, seqM_nil, bm_step (by decide) e3_0 p3_0 h3_0, bm_step (by decide) e3_1 p3_1 h3_1, bm_ask (by decide) e3_2 p3_2 h3_2 a3 (by decide) (by decide)]
theorem e4_0 : evts [] 0 27 = [] := by kernel_rfl
theorem p4_0 : pend [] 27 = [27] := by kernel_rfl
theorem h4_0 : shft 0 27 = 0 := by kernel_rfl
theorem e4_1 : evts [27] 0 57 = [] := by kernel_rfl
theorem p4_1 : pend [27] 57 = [27, 57] := by kernel_rfl
theorem h4_1 : shft 0 57 = 0 := by kernel_rfl
theorem e4_2 : evts [27, 57] 0 123 = [ev 10 1 123 0 0 0 0] := by kernel_rfl
theorem p4_2 : pend [27, 57] 123 = [] := by kernel_rfl
theorem h4_2 : shft 0 123 = 0 := by kernel_rfl
theorem a4 : (askV startP 10 1 123 0 0).2 = [1, 67, 117, 60, 4] := by kernel_rfl
theorem q4_0 (sc : Scr) : seqM [] (AM sc) = BM sc [] := rfl
theorem q4_1 (sc : Scr) : seqM [27] (AM sc) = BM sc [27] := by
  rw [am_bm, seqM_cons, seqM_nil, bm_step (by decide) e4_0 p4_0 h4_0]
theorem q4_2 (sc : Scr) : seqM [27, 57] (AM sc) = BM sc [27, 57] := by
  rw [am_bm, seqM_cons, seqM_cons, seqM_nil, bm_step (by decide) e4_0 p4_0 h4_0, bm_step (by decide) e4_1 p4_1 h4_1]
theorem w4 (sc : Scr) : seqM [27, 57, 123] (AM sc) = CM sc 1 123 0 0 [1, 67, 117, 60, 4] := by
  rw [am_bm, seqM_cons, seqM_cons, seqM_cons, seqM_nil, bm_step (by decide) e4_0 p4_0 h4_0, bm_step (by decide) e4_1 p4_1 h4_1, bm_ask (by decide) e4_2 p4_2 h4_2 a4 (by decide) (by decide)]
theorem e5_0 : evts [] 0 27 = [] := by kernel_rfl
theorem p5_0 : pend [] 27 = [27] := by kernel_rfl
theorem h5_0 : shft 0 27 = 0 := by kernel_rfl
theorem e5_1 : evts [27] 0 58 = [] := by kernel_rfl
theorem p5_1 : pend [27] 58 = [27, 58] := by kernel_rfl
theorem h5_1 : shft 0 58 = 0 := by kernel_rfl
theorem e5_2 : evts [27, 58] 0 105 = [] := by kernel_rfl
theorem p5_2 : pend [27, 58] 105 = [27, 58, 105] := by kernel_rfl
theorem h5_2 : shft 0 105 = 0 := by kernel_rfl
theorem e5_3 : evts [27, 58, 105] 0 67 = [ev 10 2 105 67 0 0 0] := by kernel_rfl
theorem p5_3 : pend [27, 58, 105] 67 = [] := by kernel_rfl
theorem h5_3 : shft 0 67 = 0 := by kernel_rfl
theorem a5 : (askV startP 10 2 105 67 0).2 = [27, 58, 115, 66] := by kernel_rfl
theorem q5_0 (sc : Scr) : seqM [] (AM sc) = BM sc [] := rfl
theorem q5_1 (sc : Scr) : seqM [27] (AM sc) = BM sc [27] := by
  rw [am_bm, seqM_cons, seqM_nil, bm_step (by decide) e5_0 p5_0 h5_0]
theorem q5_2 (sc : Scr) : seqM [27, 58] (AM sc) = BM sc [27, 58] := by
  rw [am_bm, seqM_cons, seqM_cons, seqM_nil, bm_step (by decide) e5_0 p5_0 h5_0, bm_step (by decide) e5_1 p5_1 h5_1]
theorem q5_3 (sc : Scr) : seqM [27, 58, 105] (AM sc) = BM sc [27, 58, 105] := by
  rw [am_bm, seqM_cons, seqM_cons, seqM_cons, seqM_nil, bm_step (by decide) e5_0 p5_0 h5_0, bm_step (by decide) e5_1 p5_1 h5_1, bm_step (by decide) e5_2 p5_2 h5_2]
theorem w5 (sc : Scr) : seqM [27, 58, 105, 67] (AM sc) = CM sc 2 105 67 0 [27, 58, 115, 66] := by
  rw [am_bm, seqM_cons, seqM_cons, seqM_cons, seqM_cons, seqM_nil, bm_step (by decide) e5_0 p5_0 h5_0, bm_step (by decide) e5_1 p5_1 h5_1, bm_step (by decide) e5_2 p5_2 h5_2, bm_ask (by decide) e5_3 p5_3 h5_3 a5 (by decide) (by decide)]
theorem e6_0 : evts [] 0 27 = [] := by kernel_rfl
theorem p6_0 : pend [] 27 = [27] := by kernel_rfl
theorem h6_0 : shft 0 27 = 0 := by kernel_rfl
theorem e6_1 : evts [27] 0 59 = [] := by kernel_rfl
theorem p6_1 : pend [27] 59 = [27, 59] := by kernel_rfl
theorem h6_1 : shft 0 59 = 0 := by kernel_rfl
theorem e6_2 : evts [27, 59] 0 97 = [] := by kernel_rfl
theorem p6_2 : pend [27, 59] 97 = [27, 59, 97] := by kernel_rfl
theorem h6_2 : shft 0 97 = 0 := by kernel_rfl
theorem e6_3 : evts [27, 59, 97] 0 88 = [] := by kernel_rfl
theorem p6_3 : pend [27, 59, 97] 88 = [27, 59, 97, 88] := by kernel_rfl
theorem h6_3 : shft 0 88 = 0 := by kernel_rfl
theorem e6_4 : evts [27, 59, 97, 88] 0 81 = [ev 10 3 97 88 81 0 0] := by kernel_rfl
theorem p6_4 : pend [27, 59, 97, 88] 81 = [] := by kernel_rfl
theorem h6_4 : shft 0 81 = 0 := by kernel_rfl
theorem a6 : (askV startP 10 3 97 88 81).2 = [27, 59, 99, 88, 70] := by kernel_rfl
theorem q6_0 (sc : Scr) : seqM [] (AM sc) = BM sc [] := rfl
theorem q6_1 (sc : Scr) : seqM [27] (AM sc) = BM sc [27] := by
  rw [am_bm, seqM_cons, seqM_nil, bm_step (by decide) e6_0 p6_0 h6_0]
theorem q6_2 (sc : Scr) : seqM [27, 59] (AM sc) = BM sc [27, 59] := by
  rw [am_bm, seqM_cons, seqM_cons, seqM_nil, bm_step (by decide) e6_0 p6_0 h6_0, bm_step (by decide) e6_1 p6_1 h6_1]
theorem q6_3 (sc : Scr) : seqM [27, 59, 97] (AM sc) = BM sc [27, 59, 97] := by
  rw [am_bm, seqM_cons, seqM_cons, seqM_cons, seqM_nil, bm_step (by decide) e6_0 p6_0 h6_0, bm_step (by decide) e6_1 p6_1 h6_1, bm_step (by decide) e6_2 p6_2 h6_2]
theorem q6_4 (sc : Scr) : seqM [27, 59, 97, 88] (AM sc) = BM sc [27, 59, 97, 88] := by
  rw [am_bm, seqM_cons, seqM_cons, seqM_cons, seqM_cons, seqM_nil, bm_step (by decide) e6_0 p6_0 h6_0, bm_step (by decide) e6_1 p6_1 h6_1, bm_step (by decide) e6_2 p6_2 h6_2, bm_step (by decide) e6_3 p6_3 h6_3]
theorem w6 (sc : Scr) : seqM [27, 59, 97, 88, 81] (AM sc) = CM sc 3 97 88 81 [27, 59, 99, 88, 70] := by
  rw [am_bm, seqM_cons, seqM_cons, seqM_cons, seqM_cons, seqM_cons, seqM_nil, bm_step (by decide) e6_0 p6_0 h6_0, bm_step (by decide) e6_1 p6_1 h6_1, bm_step (by decide) e6_2 p6_2 h6_2, bm_step (by decide) e6_3 p6_3 h6_3, bm_ask (by decide) e6_4 p6_4 h6_4 a6 (by decide) (by decide)]
end Go.Proofs.YtdijbpokklgjlaaGreatDoor.mtl
