/-
  The law LexSays: what is begun stays so; what is pending; bytes that are alike.
-/
import Derived.Test.YtnhadghddkgjdaaLexH7
import Derived.Test.YtnhadghddkgjdaaLexLc
import Derived.Test.YtnhadghddkgjdaaEng33
set_option linter.unusedVariables false
namespace Go.Proofs.Ytnhadghddkgjdaa.lxr
open Go Go.Nx Go.Proofs.Ytnhadghddkgjdaa.lex Go.Proofs.Ytnhadghddkgjdaa.lxv

theorem go_okR {P : List Int} {c : Int} (h : okR P) (hc : 32 ≤ c ∧ c < 128) (hg : goOn P c = true) : okR (P ++ [c]) := by
  cases h with
  | a18 => rw [go18 rfl] at hg; cases hg
  | a25 => exact okR.b25 c hc
  | b25 x hx => rw [go25 rfl] at hg; cases hg
  | a31 => exact okR.b31 c hc
  | b31 x hx => rw [go31 rfl] at hg; cases hg
  | a27 =>
    have e : goOn [27] c = decide (c < 48 ∧ 1 < 15 ∨ 48 ≤ c ∧ 1 ≤ 1 ∧ (c = 91 ∨ 57 ≤ c ∧ c ≤ 59)) := by rw [go27 rfl]; rfl
    rw [e] at hg
    have hg := of_decide_eq_true hg
    by_cases h48 : c < 48
    · exact okR.gap c [] (by simp) (by omega) (by simp)
    by_cases h91 : c = 91
    · subst h91; exact okR.brk [] (by simp) (by simp)
    have : c = 57 ∨ c = 58 ∨ c = 59 := by omega
    rcases this with rfl | rfl | rfl
    · exact okR.a57
    · exact okR.a58
    · exact okR.a59
  | brk ds hl hd =>
    have e : goOn (27 :: 91 :: ds) c = decide (48 ≤ c ∧ c < 64 ∧ (27 :: 91 :: ds).length < 9) := by
      rw [go27 rfl]; unfold escGo; rw [dT ⟨by simp, rfl⟩]; rfl
    rw [e] at hg
    have hg := of_decide_eq_true hg
    simp only [List.length_cons] at hg
    refine okR.brk (ds ++ [c]) (by simp only [List.length_append, List.length_singleton]; omega) fun d hd' => ?_
    rcases List.mem_append.1 hd' with h | h
    · exact hd d h
    · rw [List.mem_singleton] at h; subst h; omega
  | gap x g hl hx hgg =>
    have h1 : (27 :: x :: g).getD 1 0 = x := rfl
    have e : goOn (27 :: x :: g) c = decide (c < 48 ∧ (27 :: x :: g).length < 15) := by
      rw [go27 rfl]; unfold escGo; rw [dF (fun h => by have := h.2; rw [h1] at this; omega), dF (fun h => by have := h.2.1; rw [h1] at this; omega)]
      exact decide_eq_decide.2 ⟨fun h => h.elim id (fun h => by have := h.2.1; simp at this), fun h => .inl h⟩
    rw [e] at hg
    have hg := of_decide_eq_true hg
    simp only [List.length_cons] at hg
    refine okR.gap x (g ++ [c]) (by simp only [List.length_append, List.length_singleton]; omega) hx fun d hd' => ?_
    rcases List.mem_append.1 hd' with h | h
    · exact hgg d h
    · rw [List.mem_singleton] at h; subst h; omega
  | a57 => rw [go27 rfl] at hg; cases hg
  | a58 => exact okR.b58 c hc
  | b58 r hr => rw [go27 rfl] at hg; cases hg
  | a59 => exact okR.b59 c hc
  | b59 r hr => exact okR.c59 r c hr hc
  | c59 r t hr ht => rw [go27 rfl] at hg; cases hg
def okZ (P : List Int) : Prop := P = [] ∨ okR P
theorem pend_ok {P : List Int} {c : Int} (h : okZ P) (hc : 0 ≤ c ∧ c < 128) : okZ (pend P c) := by
  unfold pend
  by_cases h32 : c < 32
  · rw [if_pos h32]
    by_cases hb : beg c = true
    · rw [if_pos hb]
      right
      unfold beg at hb
      simp only [Bool.or_eq_true, beq_iff_eq] at hb
      rcases hb with ((rfl | rfl) | rfl) | rfl
      · exact okR.a18
      · exact okR.a25
      · exact okR.a27
      · exact okR.a31
    · rw [if_neg hb]; exact .inl rfl
  rw [if_neg h32]
  by_cases h0 : P = []
  · rw [if_pos h0]; exact .inl rfl
  rw [if_neg h0]
  by_cases hg : goOn P c = true
  · rw [if_pos hg]; exact .inr (go_okR (h.resolve_left h0) ⟨by omega, hc.2⟩ hg)
  · rw [if_neg hg]; exact .inl rfl
theorem okZ_len {P : List Int} (h : okZ P) : P.length ≤ 15 := by
  rcases h with rfl | h
  · simp
  · exact (okR_len h).2
theorem okZ_P {P : List Int} (h : okZ P) : P = [] ∨ okP P := h.imp id okR_okP

/-! ### what is pending -/
theorem k_cloneF : KnownF Try.prog [] 38 t_clone := known_inlF Try.func38 rfl (by kernel_rfl) mixed con_none (by kernel_rfl)
noncomputable def tCloneZ : Con := fun args regs => match args, regs with
  | [.c (.l .u8 P)], [] => .must (P.length ≤ 1000) (.ret ⟨.v (.c (.hz 0 P.length)), [some (arr P)]⟩)
  | _, _ => .fail
set_option maxRecDepth 100000 in
theorem kCloneZ : KnownF Try.prog [] 38 tCloneZ := by
  refine k_cloneF.weak fun args regs R h => Box.out ?_
  unfold tCloneZ at h
  split at h
  case h_2 => exact h.elim
  rename_i P
  have h1 := h.1
  have h2 : R ⟨.v (.c (.hz 0 P.length)), [some (arr P)]⟩ := h.2
  clear h
  show Box ((t_clone [.c (.l .u8 P)] []).run (wf R))
  have hc : clo P (wf R) := by
    refine selT (dT (by omega)) (selT (dT (by omega)) ?_)
    rw [Nat.zero_add]
    exact ⟨_, WeakF.res (y := .v (.c (.hz 0 P.length))) fun Γ v hv => hz_of_h Γ v hv, h2⟩
  refine Box.of_eq (clone_tree P (wf R)) ?_
  cases hP : P.isEmpty with
  | false => exact selF rfl hc
  | true =>
    refine selT rfl fun y _ => ?_
    cases y with
    | false => exact selF rfl hc
    | true =>
      have : P = [] := by simpa using hP
      subst this
      exact selT rfl ⟨_, WeakF.nilRes (g := arr []) (.inl ⟨_, rfl⟩), h2⟩
noncomputable def c_pndZ : FuncId → Option Con := conOf [(38, tCloneZ)]
theorem kc_pndZ : ∀ f T, c_pndZ f = some T → Known Try.prog [] f T := (Knowns.cons kCloneZ.known .nil).get
noncomputable def t_pndZ : Con := fun args regs => nfun Try.prog [] c_pndZ [] Try.f22 args regs
theorem k_pndZ : Known Try.prog [] 22 t_pndZ := known_inl Try.func22 rfl (by kernel_rfl) mixed kc_pndZ (by kernel_rfl)
theorem pndZ_tree (s : Int) (P : List Int) (R : Out → Prop) : (t_pndZ [.c (.p 0 0 0)] [lx (.hz 1 P.length) s, arr P]).run R =
    sel (decide (P.length ≤ P.length)) (((List.take P.length P).length ≤ 1000) ∧ R ⟨.v (.c (.hz 2 (List.take P.length P).length)), [some (lx (.hz 1 P.length) s), some (arr P), some (arr (List.take P.length P))]⟩) False := by kernel_rfl
noncomputable def tPndZ : Con := fun args regs => match args, regs with
  | [.c (.p 0 0 0)], [⟨2, 43, .cells [.hz 1 n, .i .i64 s]⟩, ⟨1, 5, .ints .u8 P⟩] => .must (n = P.length ∧ P.length ≤ 1000) (.ret ⟨.v (.c (.hz 2 P.length)), [some (lx (.hz 1 P.length) s), some (arr P), some (arr P)]⟩)
  | _, _ => .fail
set_option maxRecDepth 100000 in
theorem kPndZ : Known Try.prog [] 22 tPndZ := by
  refine k_pndZ.less fun args regs R h => Box.out ?_
  unfold tPndZ at h
  split at h
  case h_2 => exact h.elim
  rename_i n s P
  have h1 := h.1
  have h2 : R ⟨.v (.c (.hz 2 P.length)), [some (lx (.hz 1 P.length) s), some (arr P), some (arr P)]⟩ := h.2
  clear h
  obtain ⟨rfl, hl⟩ := h1
  refine Box.of_eq (pndZ_tree s P R) (selT (dT (Nat.le_refl _)) ?_)
  rw [List.take_length]
  exact ⟨hl, h2⟩

/-! ### bytes that are alike -/
noncomputable abbrev fSmB := Try.f32
noncomputable def XSmB : Cx := { P := Try.prog, con := fun _ => Option.none, glob := [], m := 0, loops := [] }
noncomputable def sSmB (l : List Int) (i : Int) : St := { fr := frame 29 [(0, .v (.c (.l .u8 l))), (1, .v (.c (.l .u8 l))), (5, .v (.c (.i .i64 i)))], rg := [] }
def dSmB : St := { fr := frame 29 [], rg := [] }
theorem round_smb (l : List Int) (i : Int) (R : RO → Prop) : (roundT XSmB 0 [0, 1, 5] [4] (bodyLoop fSmB 0) (sSmB l i)).run R =
    sel (decide (i < (l.length : Int))) (ix i l (ix i l (sel (!(l.getD i.toNat 0 == l.getD i.toNat 0)) (R (RO.done NExit.ret { fr := frame 29 [(4, .v (.c (.b false)))], rg := [] })) (R (RO.next (sSmB l (w64 (i + 1))))))))
     (R (RO.done NExit.normal dSmB)) := by kernel_rfl
noncomputable def lSmB : List Leaf × List (List Leaf) → Tr (NExit × St) := fun x => match x with
  | ([.l l, .l l', .i i], []) => .must (l = l' ∧ 0 ≤ i ∧ i ≤ (l.length : Int) ∧ l.length ≤ 1000) (.ret (.normal, dSmB))
  | _ => .fail
noncomputable def pSmB : List Pat := pats 29 [(0, .l .u8), (1, .l .u8), (5, .i .i64)]
set_option maxRecDepth 100000 in
theorem loop_smb : LOk Try.prog [] 0 0 (bodyLoop fSmB 0) (sumP pSmB [] lSmB) := by
  refine sumP_ok (X := XSmB) con_none mixed (LAll.none (by kernel_rfl)) [0, 1, 5] [4] _ _ _ (fun x => match x with
    | ([.l l, .l _, .i i], []) => ((l.length : Int) - i).toNat
    | _ => 0) ?_
  rintro ⟨p, q⟩ R h
  unfold lSmB at h
  split at h
  case h_2 => exact h.elim
  rename_i l l' i he
  cases he
  have h1 := h.1
  have h2 : R (.normal, dSmB) := h.2
  clear h
  obtain ⟨rfl, h0, hle, h1000⟩ := h1
  show (roundT XSmB 0 [0, 1, 5] [4] (bodyLoop fSmB 0) (sSmB l i)).run _
  rw [round_smb]
  have hw : w64 (i + 1) = i + 1 := by unfold w64; rw [IntKind.wrap_i64]; omega
  refine sel_by (fun hlt => ix_in ⟨h0, hlt⟩ (ix_in ⟨h0, hlt⟩ (selF (by rw [bT rfl]; rfl) ?_))) fun hlt => h2
  rw [hw]
  exact ⟨([.l l, .l l, .i (i + 1)], []), rfl, by simp only; omega, ⟨rfl, by omega, by omega, h1000⟩, h2⟩
noncomputable def t_smb : Con := fun args regs => if regs.length = 0 then nfun Try.prog [] (fun _ => Option.none) [(0, [0, 1, 5], sumP pSmB [] lSmB)] fSmB args regs else .fail
theorem k_smb : Known Try.prog [] 32 t_smb := known_loops 0 Try.func32 rfl (by kernel_rfl) mixed con_none (LAll.one (id := 0) (body := bodyLoop fSmB 0) (by kernel_rfl) rfl loop_smb)
theorem smb_tree (l : List Int) (R : Out → Prop) : (t_smb [.c (.l .u8 l), .c (.l .u8 l)] []).run R = sel ((l.length : Int) != (l.length : Int)) (R ⟨.v (.c (.b false)), []⟩) ((l = l ∧ 0 ≤ (0 : Int) ∧ 0 ≤ (l.length : Int) ∧ l.length ≤ 1000) ∧ R yesO) := by kernel_rfl
noncomputable def tSmB : Con := fun args regs => match args, regs with
  | [.c (.l .u8 a), .c (.l .u8 b)], [] => .must (a = b ∧ a.length ≤ 1000) (.ret yesO)
  | _, _ => .fail
set_option maxRecDepth 100000 in
theorem kSmB : Known Try.prog [] 32 tSmB := by
  refine k_smb.less fun args regs R h => Box.out ?_
  unfold tSmB at h
  split at h
  case h_2 => exact h.elim
  rename_i a b
  have h1 := h.1
  have h2 : R yesO := h.2
  clear h
  obtain ⟨rfl, hl⟩ := h1
  exact Box.of_eq (smb_tree a R) (selF (by simp) ⟨⟨rfl, Int.le_refl _, by omega, hl⟩, h2⟩)
end Go.Proofs.Ytnhadghddkgjdaa.lxr
