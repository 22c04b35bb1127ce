/-
  The Minitel: bytes of the line, of the socket; what the laws compare.
-/
import Derived.Test.YtdijbpokklgjlaaGreatDoorMnG
set_option linter.unusedVariables false
namespace Go.Proofs.YtdijbpokklgjlaaGreatDoor.mtl
open Go Go.Nx Go.Proofs.YtdijbpokklgjlaaGreatDoor.prt
open Go.Proofs.YtdijbpokklgjlaaGreatDoor.lex (arr lx InBytes mkEv K7 kMake)
open Go.Proofs.YtdijbpokklgjlaaGreatDoor.lxv (wf cel pend shft cc evts okP)
open Go.Proofs.YtdijbpokklgjlaaGreatDoor.scr (Scr Ev eventS rollsS Ins newS)

def yesO : Out := ⟨.v (.c (.b true)), []⟩
/-! ### bytes that are alike -/
noncomputable abbrev fSmB := Tryz.f13
noncomputable def XSmB : Cx := { P := Tryz.prog, con := (fun _ => Option.none), glob := [], m := 0, loops := [] }
noncomputable def sSmB (l : List Int) (i : Int) : St := { fr := frame 29 [(0, .v (.c (.l .u8 l))), (1, .v (.c (.l .u8 l))), (5, .v (.c (.i .i64 i)))], rg := [] }
def dSmB : St := { fr := frame 29 [], rg := [] }
theorem round_smb (l : List Int) (i : Int) (R : RO → Prop) : (roundT XSmB 0 [0, 1, 5] [4] (bodyLoop fSmB 0) (sSmB l i)).run R =
    sel (decide (i < (l.length : Int))) (ix i l (ix i l (sel (!(l.getD i.toNat 0 == l.getD i.toNat 0)) (R (RO.done NExit.ret { fr := frame 29 [(4, .v (.c (.b false)))], rg := [] })) (R (RO.next (sSmB l (w64 (i + 1))))))))
     (R (RO.done NExit.normal dSmB)) := by kernel_rfl
noncomputable def lSmB : List Leaf × List (List Leaf) → Tr (NExit × St) := fun x => match x with
  | ([.l l, .l l', .i i], []) => .must (l = l' ∧ 0 ≤ i ∧ i ≤ (l.length : Int) ∧ l.length ≤ 1000) (.ret (.normal, dSmB))
  | _ => .fail
noncomputable def pSmB : List Pat := pats 29 [(0, .l .u8), (1, .l .u8), (5, .i .i64)]
set_option maxRecDepth 100000 in
theorem loop_smb : LOk Tryz.prog [] 0 0 (bodyLoop fSmB 0) (sumP pSmB [] lSmB) := by
  refine sumP_ok (X := XSmB) con_none mixed (LAll.none (by kernel_rfl)) [0, 1, 5] [4] _ _ _ (fun x => match x with
    | ([.l l, .l _, .i i], []) => ((l.length : Int) - i).toNat
    | _ => 0) ?_
  rintro ⟨p, q⟩ R h
  unfold lSmB at h
  split at h
  case h_2 => exact h.elim
  rename_i l l' i he
  cases he
  have h1 := h.1
  have h2 : R (.normal, dSmB) := h.2
  clear h
  obtain ⟨rfl, h0, hle, h1000⟩ := h1
  show (roundT XSmB 0 [0, 1, 5] [4] (bodyLoop fSmB 0) (sSmB l i)).run _
  rw [round_smb]
  have hw : w64 (i + 1) = i + 1 := by unfold w64; rw [IntKind.wrap_i64]; omega
  refine sel_by (fun hlt => ix_in ⟨h0, hlt⟩ (ix_in ⟨h0, hlt⟩ (selF (by rw [bT rfl]; rfl) ?_))) fun hlt => h2
  rw [hw]
  exact ⟨([.l l, .l l, .i (i + 1)], []), rfl, by simp only; omega, ⟨rfl, by omega, by omega, h1000⟩, h2⟩
noncomputable def t_smb : Con := fun args regs => if regs.length = 0 then nfun Tryz.prog [] (fun _ => Option.none) [(0, [0, 1, 5], sumP pSmB [] lSmB)] fSmB args regs else .fail
theorem k_smb : Known Tryz.prog [] 13 t_smb := known_loops 0 Tryz.func13 rfl (by kernel_rfl) mixed con_none (LAll.one (id := 0) (body := bodyLoop fSmB 0) (by kernel_rfl) rfl loop_smb)
theorem smb_tree (l : List Int) (R : Out → Prop) : (t_smb [.c (.l .u8 l), .c (.l .u8 l)] []).run R = sel ((l.length : Int) != (l.length : Int)) (R ⟨.v (.c (.b false)), []⟩) ((l = l ∧ 0 ≤ (0 : Int) ∧ 0 ≤ (l.length : Int) ∧ l.length ≤ 1000) ∧ R yesO) := by kernel_rfl
noncomputable def tSmB : Con := fun args regs => match args, regs with
  | [.c (.l .u8 a), .c (.l .u8 b)], [] => .must (a = b ∧ a.length ≤ 1000) (.ret yesO)
  | _, _ => .fail
set_option maxRecDepth 100000 in
theorem kSmB : Known Tryz.prog [] 13 tSmB := by
  refine k_smb.less fun args regs R h => Box.out ?_
  unfold tSmB at h
  split at h
  case h_2 => exact h.elim
  rename_i a b
  have h1 := h.1
  have h2 : R yesO := h.2
  clear h
  obtain ⟨rfl, hl⟩ := h1
  exact Box.of_eq (smb_tree a R) (selF (by simp) ⟨⟨rfl, Int.le_refl _, by omega, hl⟩, h2⟩)

/-! ### the line, the socket -/
noncomputable def c_modem : FuncId → Option Con := conOf [(24, tComes)]
theorem kc_modem : ∀ f T, c_modem f = some T → Known Tryz.prog [] f T := (Knowns.cons kComes.known Knowns.nil).get
noncomputable def t_modem : Con := fun args regs => nfun Tryz.prog [] c_modem [] Tryz.f9 args regs
theorem k_modem : KnownF Tryz.prog [] 9 t_modem := known_inlF Tryz.func9 rfl (by kernel_rfl) mixed kc_modem (by kernel_rfl)
theorem modem_tree (M : Mn) (b : Int) (R : Out → Prop) : (t_modem [.c (.p 0 0 0), .c (.i .u8 b)] (mnIn M)).run R = (lensR M ∧ (OkM (nrm M) ∧ ((2 : Int) = 2 ∨ (2 : Int) = 3) ∧ byte b) ∧ R (done7 (comesM 2 b (nrm M)))) := by kernel_rfl
noncomputable def tByM (j : Int) : Con := fun args regs => match args with
  | [.c (.p 0 0 0), .c (.i .u8 b)] => onM regs fun M => .must (OkM M ∧ byte b) (.ret (done7 (comesM j b M)))
  | _ => .fail
theorem lensR_in (M : Mn) : lensR M := ⟨rfl, rfl, rfl, rfl, rfl, rfl⟩
set_option maxRecDepth 100000 in
theorem kModem : KnownF Tryz.prog [] 9 (tByM 2) := by
  refine k_modem.weak fun args regs R h => Box.out ?_
  unfold tByM at h
  split at h
  case h_2 => exact h.elim
  rename_i b
  obtain ⟨M, rfl, hp, h⟩ := onM_in h
  obtain ⟨⟨hM, hb⟩, h⟩ := h
  refine Box.of_eq (modem_tree M b _) ?_
  rw [nrm_eq hM.p]
  exact ⟨lensR_in M, ⟨hM, .inl rfl, hb⟩, _, WeakF.refl _, h⟩
noncomputable def t_socket : Con := fun args regs => nfun Tryz.prog [] c_modem [] Tryz.f18 args regs
theorem k_socket : KnownF Tryz.prog [] 18 t_socket := known_inlF Tryz.func18 rfl (by kernel_rfl) mixed kc_modem (by kernel_rfl)
theorem socket_tree (M : Mn) (b : Int) (R : Out → Prop) : (t_socket [.c (.p 0 0 0), .c (.i .u8 b)] (mnIn M)).run R = (lensR M ∧ (OkM (nrm M) ∧ ((3 : Int) = 2 ∨ (3 : Int) = 3) ∧ byte b) ∧ R (done7 (comesM 3 b (nrm M)))) := by kernel_rfl
set_option maxRecDepth 100000 in
theorem kSocket : KnownF Tryz.prog [] 18 (tByM 3) := by
  refine k_socket.weak fun args regs R h => Box.out ?_
  unfold tByM at h
  split at h
  case h_2 => exact h.elim
  rename_i b
  obtain ⟨M, rfl, hp, h⟩ := onM_in h
  obtain ⟨⟨hM, hb⟩, h⟩ := h
  refine Box.of_eq (socket_tree M b _) ?_
  rw [nrm_eq hM.p]
  exact ⟨lensR_in M, ⟨hM, .inr rfl, hb⟩, _, WeakF.refl _, h⟩

/-! ### the document's bytes as they go out -/
noncomputable def c_ln2 : FuncId → Option Con := conOf [(10, lex.tMake)]
theorem kc_ln2 : ∀ f T, c_ln2 f = some T → Known Tryz.prog [] f T := (Knowns.cons kMake Knowns.nil).get
noncomputable abbrev f_ln2 := Tryz.f14
noncomputable def X_ln2 : Cx := { P := Tryz.prog, con := c_ln2, glob := [], m := 0, loops := [] }
noncomputable def s_ln2 (xs out : List Int) (n : Nat) (i : Int) : St := { fr := frame 20 [(0, .v (.c (.l .u8 xs))), (3, .v (.c (.hz 0 n))), (4, .v (.c (.i .i64 i)))], rg := [some (arr out)] }
noncomputable def e_ln2 (out : List Int) (n : Nat) : St := { fr := frame 20 [(3, .v (.c (.hz 0 n)))], rg := [some (arr out)] }
theorem round_ln2 (xs out : List Int) (i : Int) (R : RO → Prop) : (roundT X_ln2 0 [0, 3, 4] [3] (bodyLoop f_ln2 0) (s_ln2 xs out out.length i)).run R =
    sel (decide (i < (xs.length : Int))) (ix i xs ((0 ≤ xs.getD i.toNat 0 ∧ xs.getD i.toNat 0 < 256) ∧ ap8 out.length out.length (R (.next (s_ln2 xs (List.take out.length out ++ [mkEv (xs.getD i.toNat 0)]) (out.length + 1) (w64 (i + 1)))))))
      (R (.done .normal (e_ln2 out out.length))) := by kernel_rfl
noncomputable def hL2 (a : AL) : St := s_ln2 a.xs a.out a.out.length a.i
def preL2 (a : AL) (R : NExit × St → Prop) : Prop := (0 ≤ a.i ∧ a.i ≤ (a.xs.length : Int)) ∧ a.xs.length ≤ 1000 ∧ a.out.length ≤ 1000 + a.i ∧ InBytes a.xs ∧
  R (.normal, e_ln2 (a.out ++ (a.xs.drop a.i.toNat).map mkEv) (a.out ++ (a.xs.drop a.i.toNat).map mkEv).length)
def rdL2 (s : St) : Option (List Int) := match s.fr[(0 : Nat)]? with
  | some (.v (.c (.l _ xs))) => some xs
  | _ => none
noncomputable def l_ln2 (s : St) : Tr (NExit × St) := match rdL2 s with
  | some xs => .must (s = s_ln2 xs [] 0 0 ∧ xs.length ≤ 1000 ∧ InBytes xs) (.ret (.normal, e_ln2 (xs.map mkEv) xs.length))
  | none => .fail
set_option maxRecDepth 100000 in
theorem loop_ln2 : LOk Tryz.prog [] 0 0 (bodyLoop f_ln2 0) l_ln2 := by
  refine loop_ok (X := X_ln2) kc_ln2 mixed (LAll.none (by kernel_rfl)) [0, 3, 4] [3] hL2 (fun a => ((a.xs.length : Int) - a.i).toNat) preL2 ?_ ?_
  · intro s R h
    unfold l_ln2 at h
    split at h
    case h_2 => exact h.elim
    rename_i xs hrd
    obtain ⟨⟨hs, hl, hb⟩, hR⟩ := h
    refine ⟨⟨xs, [], 0⟩, hs, ⟨by simp only; omega, by simp only; omega⟩, hl, by simp, hb, ?_⟩
    show R (.normal, e_ln2 ([] ++ (xs.drop 0).map mkEv) ([] ++ (xs.drop 0).map mkEv).length)
    rw [List.drop_zero, List.nil_append, List.length_map]
    exact hR
  · intro a R h
    obtain ⟨xs, out, i⟩ := a
    obtain ⟨hi, hl, ho, hb, hR⟩ := h
    simp only at hi hl ho hb hR
    refine Tr.run_mono _ (fun o ho => ho) (Box.of_eq (round_ln2 xs out i _) (sel_by (fun hlt => ix_in ⟨hi.1, hlt⟩ ⟨get_byte hb ⟨hi.1, hlt⟩, ap8_in (Nat.le_refl _) (by omega) ?_⟩) fun hlt => ?_)).out
    · have hw : w64 (i + 1) = i + 1 := w64_id (by omega)
      rw [List.take_length, hw]
      rw [drop_get ⟨hi.1, hlt⟩, List.map_cons] at hR
      refine ⟨⟨xs, out ++ [mkEv (xs.getD i.toNat 0)], i + 1⟩, ?_, by simp only; omega, ⟨by simp only; omega, by simp only; omega⟩, hl, by simp only [List.length_append, List.length_singleton]; omega, hb, ?_⟩
      · show s_ln2 _ _ (out.length + 1) _ = s_ln2 _ _ (out ++ [mkEv (xs.getD i.toNat 0)]).length _
        rw [List.length_append]; rfl
      · show R (.normal, e_ln2 ((out ++ [mkEv (xs.getD i.toNat 0)]) ++ (xs.drop (i + 1).toNat).map mkEv) _)
        rw [List.append_assoc]
        exact hR
    · rw [List.drop_eq_nil_iff.2 (by omega), List.map_nil, List.append_nil] at hR
      exact hR
noncomputable def t_ln2 : Con := fun args regs => if regs.length = 0 then nfun Tryz.prog [] c_ln2 [(0, [0, 3, 4], canonL [(3, arr [])] [] 0 [0, 3, 4] l_ln2)] f_ln2 args regs else .fail
theorem k_ln2 : KnownF Tryz.prog [] 14 t_ln2 := known_loopsF 0 Tryz.func14 rfl (by kernel_rfl) mixed kc_ln2 (LAll.one (id := 0) (body := bodyLoop f_ln2 0) (by kernel_rfl) rfl (loop_ln2.canon [(3, arr [])] [] [0, 3, 4]))
theorem ln2_tree (xs : List Int) (R : Out → Prop) : (t_ln2 [.c (.l .u8 xs)] []).run R = ((s_ln2 xs [] 0 0 = s_ln2 xs [] 0 0 ∧ xs.length ≤ 1000 ∧ InBytes xs) ∧ R ⟨.v (.c (.hz 0 xs.length)), [some (arr (xs.map mkEv))]⟩) := by kernel_rfl
noncomputable def tLn2 : Con := fun args regs => match args, regs with
  | [.c (.l .u8 xs)], [] => .must (xs.length ≤ 1000 ∧ InBytes xs) (.ret ⟨.v (.c (.l .u8 (xs.map mkEv))), []⟩)
  | _, _ => .fail
theorem hz_list (xs : List Int) (n : Nat) (hn : n = xs.length) : Weak ⟨.v (.c (.hz 0 n)), [some (arr xs)]⟩ ⟨.v (.c (.l .u8 xs)), []⟩ := fun Γ0 Γ w0 w v h1 h2 h3 => by
  subst hn
  rcases h2 with ⟨e | e, e2⟩
  · obtain ⟨hn, hv, -⟩ := e
    have : xs = [] := List.length_eq_zero_iff.1 hn
    subst this
    have hv' : v = Value.slice none 0 0 := hv
    exact ⟨Γ, h1, ⟨⟨none, 0, hv', Nat.le_refl _, .inl rfl⟩, e2⟩, h3.fewer fun n g hg => by simp at hg⟩
  · exact ((Weak.ints (k := 0) (xs := xs) rfl).trans (Weak.drop (rg' := []) fun n g hg => by simp at hg)) Γ0 Γ w0 w v h1 ⟨e, e2⟩ h3
set_option maxRecDepth 100000 in
theorem kLn2 : Known Tryz.prog [] 14 tLn2 := by
  refine k_ln2.known.weak fun args regs R h => Box.out ?_
  unfold tLn2 at h
  split at h
  case h_2 => exact h.elim
  rename_i xs
  obtain ⟨h1, h2⟩ : (xs.length ≤ 1000 ∧ InBytes xs) ∧ R ⟨.v (.c (.l .u8 (xs.map mkEv))), []⟩ := h
  exact Box.of_eq (ln2_tree xs _) ⟨⟨rfl, h1⟩, _, hz_list (xs.map mkEv) xs.length (by simp), h2⟩

/-! ### the chapter's examples -/
noncomputable def c_fst : FuncId → Option Con := conOf [(8, tNewM), (15, tOut)]
theorem kc_fst : ∀ f T, c_fst f = some T → Known Tryz.prog [] f T := (Knowns.cons kNewM (.cons kOut.known .nil)).get
noncomputable def t_fst : Con := fun args regs => nfun Tryz.prog [] c_fst [] Tryz.f7 args regs
theorem k_fst : Known Tryz.prog [] 7 t_fst := known_inl Tryz.func7 rfl (by kernel_rfl) mixed kc_fst (by kernel_rfl)
theorem fst_tree (R : Out → Prop) : (t_fst [] []).run R = (((1 : Int) ≤ 10 ∧ (10 : Int) ≤ 4096) ∧ lensR (newM 10) ∧ (((2 : Int) = 2 ∨ (2 : Int) = 3) ∧ smallM (nrm (newM 10))) ∧ R yesO) := by kernel_rfl
noncomputable def tFst : Con := fun args regs => match args, regs with
  | [], [] => .ret yesO
  | _, _ => .fail
set_option maxRecDepth 100000 in
theorem kFst : Known Tryz.prog [] 7 tFst := by
  refine k_fst.less fun args regs R h => Box.out ?_
  unfold tFst at h
  split at h
  case h_2 => exact h.elim
  have h : R yesO := h
  exact Box.of_eq (fst_tree R) ⟨⟨by decide, by decide⟩, lensR_in _, ⟨.inl rfl, ⟨by decide, by decide⟩⟩, h⟩
end Go.Proofs.YtdijbpokklgjlaaGreatDoor.mtl
