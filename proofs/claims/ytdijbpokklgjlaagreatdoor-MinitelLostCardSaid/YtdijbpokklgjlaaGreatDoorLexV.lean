/-
  The lexer's functions, with what is begun as any list: what goes on, a sign, a place, a control.
-/
import Derived.Test.YtdijbpokklgjlaaGreatDoorLexE
import Derived.Test.YtdijbpokklgjlaaGreatDoorEngC
set_option linter.unusedVariables false
namespace Go.Proofs.YtdijbpokklgjlaaGreatDoor.lxv
open Go Go.Nx Go.Proofs.YtdijbpokklgjlaaGreatDoor.lex

theorem selT {c : Bool} {A B : Prop} (h : c = true) (hA : A) : sel c A B := sel_iff.2 (.inl ⟨h, hA⟩)
theorem selF {c : Bool} {A B : Prop} (h : c = false) (hB : B) : sel c A B := sel_iff.2 (.inr ⟨h, hB⟩)
theorem sel_by {p : Prop} [Decidable p] {A B : Prop} (ha : p → A) (hb : ¬ p → B) : sel (decide p) A B := by
  by_cases h : p
  · exact selT (decide_eq_true h) (ha h)
  · exact selF (decide_eq_false h) (hb h)
theorem dT {p : Prop} [Decidable p] (h : p) : decide p = true := decide_eq_true h
theorem dF {p : Prop} [Decidable p] (h : ¬ p) : decide p = false := decide_eq_false h
theorem bF {x y : Int} (h : x ≠ y) : (x == y) = false := by rw [beq_eq_false_iff_ne]; exact h
theorem bT {x y : Int} (h : x = y) : (x == y) = true := by rw [beq_iff_eq]; exact h
structure Box (p : Prop) : Prop where
  out : p
theorem Box.of_eq {p q : Prop} (h : p = q) (hq : q) : Box p := ⟨h.mpr hq⟩

def ev (k a b c d set code : Int) : List Sc := [.i k, .i a, .i b, .i c, .i d, .i set, .i code]
def rows (l : List (List Sc)) : NS := .v (.c (.lr K7 l))
def ignR : List Sc := ev 12 0 0 0 0 0 0
/-- What is begun has ended: these events. -/
def endS (s : Int) (l : List (List Sc)) : Out := ⟨rows l, [some (lx .sn s), none]⟩
/-- The same, with the row as it was. -/
def endP (s : Int) (P : List Int) (l : List (List Sc)) : Out := ⟨rows l, [some (lx .sn s), some (arr P)]⟩
def wk (R : Out → Prop) (o : Out) : Prop := ∃ o', Weak o o' ∧ R o'
theorem wk_refl {R : Out → Prop} {o : Out} (h : R o) : wk R o := ⟨o, Weak.refl o, h⟩
theorem wk_end {R : Out → Prop} {s : Int} {P : List Int} {l : List (List Sc)} (h : R (endS s l)) : wk R (endP s P l) :=
  ⟨_, Weak.drop fun n g hg => by
    match n, hg with
    | 0, hg => exact hg
    | 1, hg => simp at hg
    | n + 2, hg => simp at hg, h⟩
/-- A function that is asked while something is begun. -/
noncomputable def onB (args : List NV) (regs : List Reg) (F : Int → Int → List Int → Tr Out) : Tr Out := match args, regs with
  | [.c (.p 0 0 0), .c (.i .u8 c)], [⟨2, 58, .cells [.h 1 0 n, .i .i64 s]⟩, ⟨1, 5, .ints .u8 P⟩] => .must (n = P.length) (F c s P)
  | _, _ => .fail
theorem onB_in {args : List NV} {regs : List Reg} {F : Int → Int → List Int → Tr Out} {R : Out → Prop} (h : (onB args regs F).run R) :
    ∃ c s P, args = [.c (.p 0 0 0), .c (.i .u8 c)] ∧ regs = [lx (.h 1 0 P.length) s, arr P] ∧ (F c s P).run R := by
  unfold onB at h
  split at h
  case h_2 => exact h.elim
  rename_i c n s P
  obtain ⟨rfl, h⟩ := h
  exact ⟨c, s, P, rfl, rfl, h⟩

/-! ### what goes on -/
theorem goes_tree (s c : Int) (P : List Int) (R : Out → Prop) : (t_goes [.c (.p 0 0 0), .c (.i .u8 c)] [lx (.h 1 0 P.length) s, arr P]).run R =
    sel (decide (0 + P.length ≤ P.length)) (sel (decide ((P.length + 1) * 1 ≤ 140737488355328)) (sel (decide (P.length + 1 ≤ 9223372036854775807))
      (R ⟨.v (.c .sn), [some (lx (.h 2 0 (P.length + 1)) s), none, some (arr (List.take P.length (List.drop 0 P) ++ [c]))]⟩) False) False) False := by kernel_rfl
noncomputable def tGoesS : Con := fun args regs => onB args regs fun c s P => .must (P.length ≤ 100) (.ret (went s (P ++ [c])))
set_option maxRecDepth 100000 in
theorem kGoesS : Known Tryz.prog [] 96 tGoesS := by
  refine k_goes.less fun args regs R h => Box.out ?_
  obtain ⟨c, s, P, rfl, rfl, hq⟩ := onB_in h
  clear h
  have h1 := hq.1
  have h2 : R (went s (P ++ [c])) := hq.2
  clear hq
  refine Box.of_eq (goes_tree s c P R) (selT (dT (by omega)) (selT (dT (by omega)) (selT (dT (by omega)) ?_)))
  unfold went at h2
  rw [List.length_append] at h2
  rw [List.drop_zero, List.take_length]
  exact h2

/-! ### a sign -/
def isAcc (c : Int) : Bool := c == 65 || c == 66 || c == 67 || c == 72 || c == 75
def signGo (P : List Int) (c : Int) : Bool := decide (P.length ≤ 1) && isAcc c
def signR (P : List Int) (c : Int) : List Sc := ev 1 (if 1 < P.length then w64 (P.getD 1 0) else 0) 0 0 0 2 (w64 c)
noncomputable def c_signS : FuncId → Option Con := conOf [(70, t_char), (95, t_isAccent), (96, tGoesS), (67, t_ends)]
theorem kc_signS : ∀ f T, c_signS f = some T → Known Tryz.prog [] f T := (Knowns.cons k_char (Knowns.cons k_isAccent (Knowns.cons kGoesS (Knowns.cons k_ends Knowns.nil)))).get
noncomputable def t_signS : Con := fun args regs => nfun Tryz.prog [] c_signS [] Tryz.f72 args regs
theorem k_signS : Known Tryz.prog [] 72 t_signS := known_inl Tryz.func72 rfl (by kernel_rfl) mixed kc_signS (by kernel_rfl)
def goB (s c : Int) (P : List Int) (R : Out → Prop) : Prop := P.length = P.length ∧ (P.length ≤ 100 ∧ R (went s (P ++ [c])))
theorem sign_tree (s c : Int) (P : List Int) (R : Out → Prop) : (t_signS [.c (.p 0 0 0), .c (.i .u8 c)] [lx (.h 1 0 P.length) s, arr P]).run R =
    sel (decide ((P.length : Int) > 1)) (sel (decide (1 < (P.length : Int))) (sel (decide (0 + 1 < P.length)) (R (endP s P [ev 1 (w64 (P.getD (0 + 1) 0)) 0 0 0 2 (w64 c)])) False) False)
     (sel (c == 65) (goB s c P R) (sel (c == 66) (goB s c P R) (sel (c == 67) (goB s c P R) (sel (c == 72) (goB s c P R) (sel (c == 75) (goB s c P R) (R (endP s P [ev 1 0 0 0 0 2 (w64 c)]))))))) := by kernel_rfl
noncomputable def tSignS : Con := fun args regs => onB args regs fun c s P => .must (P.length ≤ 100) (.br (signGo P c) (.ret (went s (P ++ [c]))) (.ret (endS s [signR P c])))
set_option maxRecDepth 100000 in
theorem kSignS : Known Tryz.prog [] 72 tSignS := by
  refine k_signS.weak fun args regs R h => Box.out ?_
  obtain ⟨c, s, P, rfl, rfl, hq⟩ := onB_in h
  clear h
  have h1 := hq.1
  have h2 : sel (signGo P c) (R (went s (P ++ [c]))) (R (endS s [signR P c])) := hq.2
  clear hq
  show Box ((t_signS [.c (.p 0 0 0), .c (.i .u8 c)] [lx (.h 1 0 P.length) s, arr P]).run (wk R))
  refine Box.of_eq (sign_tree s c P (wk R)) (sel_by (fun h => ?_) fun h => ?_)
  · refine selT (dT (by omega)) (selT (dT (by omega)) (wk_end ?_))
    have e : signGo P c = false := by unfold signGo; rw [dF (by omega)]; rfl
    rw [e] at h2
    have h2 : R (endS s [signR P c]) := h2
    unfold signR at h2
    rw [if_pos (by omega)] at h2
    exact h2
  · have e : signGo P c = isAcc c := by unfold signGo; rw [dT (by omega)]; rfl
    rw [e] at h2
    have es : signR P c = ev 1 0 0 0 0 2 (w64 c) := by unfold signR; rw [if_neg (by omega)]
    rw [es] at h2
    have go : isAcc c = true → goB s c P (wk R) := fun hc => by
      rw [hc] at h2
      exact ⟨rfl, h1, wk_refl h2⟩
    by_cases h65 : c = 65
    · exact selT (bT h65) (go (by rw [h65]; rfl))
    refine selF (bF h65) ?_
    by_cases h66 : c = 66
    · exact selT (bT h66) (go (by rw [h66]; rfl))
    refine selF (bF h66) ?_
    by_cases h67 : c = 67
    · exact selT (bT h67) (go (by rw [h67]; rfl))
    refine selF (bF h67) ?_
    by_cases h72 : c = 72
    · exact selT (bT h72) (go (by rw [h72]; rfl))
    refine selF (bF h72) ?_
    by_cases h75 : c = 75
    · exact selT (bT h75) (go (by rw [h75]; rfl))
    refine selF (bF h75) (wk_end ?_)
    have : isAcc c = false := by unfold isAcc; rw [bF h65, bF h66, bF h67, bF h72, bF h75]; rfl
    rw [this] at h2
    exact h2

/-! ### a place -/
def placeGo (P : List Int) : Bool := decide (P.length < 2)
noncomputable def placeR (P : List Int) (c : Int) : List Sc := if P.getD 1 0 < 64 ∨ c < 64 then ignR else ev 5 (low6 (P.getD 1 0)) (low6 c) 0 0 0 0
noncomputable def c_placeS : FuncId → Option Con := conOf [(96, tGoesS), (67, t_ends), (68, t_ignored)]
theorem kc_placeS : ∀ f T, c_placeS f = some T → Known Tryz.prog [] f T := (Knowns.cons kGoesS (Knowns.cons k_ends (Knowns.cons k_ignored Knowns.nil))).get
noncomputable def t_placeS : Con := fun args regs => nfun Tryz.prog [] c_placeS [] Tryz.f73 args regs
theorem k_placeS : Known Tryz.prog [] 73 t_placeS := known_inl Tryz.func73 rfl (by kernel_rfl) mixed kc_placeS (by kernel_rfl)
theorem place_tree (s c : Int) (P : List Int) (R : Out → Prop) : (t_placeS [.c (.p 0 0 0), .c (.i .u8 c)] [lx (.h 1 0 P.length) s, arr P]).run R =
    sel (decide ((P.length : Int) < 2)) (goB s c P R) (sel (decide (1 < (P.length : Int))) (sel (decide (0 + 1 < P.length))
     (sel (decide (P.getD (0 + 1) 0 < 64)) (R (endP s P [ignR])) (sel (decide (c < 64)) (R (endP s P [ignR])) (R (endP s P [ev 5 (low6 (P.getD (0 + 1) 0)) (low6 c) 0 0 0 0])))) False) False) := by kernel_rfl
noncomputable def tPlaceS : Con := fun args regs => onB args regs fun c s P => .must (P.length ≤ 100) (.br (placeGo P) (.ret (went s (P ++ [c]))) (.ret (endS s [placeR P c])))
set_option maxRecDepth 100000 in
theorem kPlaceS : Known Tryz.prog [] 73 tPlaceS := by
  refine k_placeS.weak fun args regs R h => Box.out ?_
  obtain ⟨c, s, P, rfl, rfl, hq⟩ := onB_in h
  clear h
  have h1 := hq.1
  have h2 : sel (placeGo P) (R (went s (P ++ [c]))) (R (endS s [placeR P c])) := hq.2
  clear hq
  show Box ((t_placeS [.c (.p 0 0 0), .c (.i .u8 c)] [lx (.h 1 0 P.length) s, arr P]).run (wk R))
  refine Box.of_eq (place_tree s c P (wk R)) (sel_by (fun h => ?_) fun h => ?_)
  · rw [show placeGo P = true from dT (by omega)] at h2
    exact ⟨rfl, h1, wk_refl h2⟩
  · rw [show placeGo P = false from dF (by omega)] at h2
    have h2 : R (endS s [placeR P c]) := h2
    unfold placeR at h2
    refine selT (dT (by omega)) (selT (dT (by omega)) (sel_by (fun hp => wk_end ?_) fun hp => sel_by (fun hc => wk_end ?_) fun hc => wk_end ?_))
    · rw [if_pos (.inl hp)] at h2; exact h2
    · rw [if_pos (.inr hc)] at h2; exact h2
    · rw [if_neg (fun h => h.elim hp hc)] at h2; exact h2

/-! ### a control -/
def beg (c : Int) : Bool := c == 18 || c == 25 || c == 27 || c == 31
def shf (c : Int) : Bool := c == 14 || c == 15
def shC (c : Int) : Int := if c = 14 then 1 else 0
def ctlR (c : Int) : List Sc :=
  if c = 7 then ev 8 0 0 0 0 0 0 else if 8 ≤ c ∧ c ≤ 11 then ev 2 (c - 7) 1 0 0 0 0 else if c = 13 then ev 2 5 0 0 0 0 0 else if c = 12 then ev 3 1 0 0 0 0 0 else if c = 24 then ev 3 2 0 0 0 0 0 else
  if c = 17 then ev 9 1 0 0 0 0 0 else if c = 20 then ev 9 0 0 0 0 0 0 else if c = 26 then ev 1 0 0 0 0 0 127 else if c = 30 then ev 4 0 0 0 0 0 0 else ignR
def ctlO (s : Int) (row : List Sc) : Out := ⟨.v (.c (.h 1 0 1)), [some (lx .sn s), some ⟨7, 75, .recs K7 [row]⟩]⟩
def ctlE (s c : Int) (R : Out → Prop) : Prop :=
  sel (beg c) (R ⟨.v (.c .sn), [some (lx (.h 1 0 1) s), some (arr [c])]⟩) (sel (shf c) (R ⟨.v (.c .sn), [some (lx .sn (shC c))]⟩) (R (ctlO s (ctlR c))))
theorem ctl_0 (s : Int) (R : Out → Prop) : (t_control [.c (.p 0 0 0), .c (.i .u8 0)] [lx .sn s]).run R = ctlE s 0 R := by kernel_rfl
theorem ctl_1 (s : Int) (R : Out → Prop) : (t_control [.c (.p 0 0 0), .c (.i .u8 1)] [lx .sn s]).run R = ctlE s 1 R := by kernel_rfl
theorem ctl_2 (s : Int) (R : Out → Prop) : (t_control [.c (.p 0 0 0), .c (.i .u8 2)] [lx .sn s]).run R = ctlE s 2 R := by kernel_rfl
theorem ctl_3 (s : Int) (R : Out → Prop) : (t_control [.c (.p 0 0 0), .c (.i .u8 3)] [lx .sn s]).run R = ctlE s 3 R := by kernel_rfl
theorem ctl_4 (s : Int) (R : Out → Prop) : (t_control [.c (.p 0 0 0), .c (.i .u8 4)] [lx .sn s]).run R = ctlE s 4 R := by kernel_rfl
theorem ctl_5 (s : Int) (R : Out → Prop) : (t_control [.c (.p 0 0 0), .c (.i .u8 5)] [lx .sn s]).run R = ctlE s 5 R := by kernel_rfl
theorem ctl_6 (s : Int) (R : Out → Prop) : (t_control [.c (.p 0 0 0), .c (.i .u8 6)] [lx .sn s]).run R = ctlE s 6 R := by kernel_rfl
theorem ctl_7 (s : Int) (R : Out → Prop) : (t_control [.c (.p 0 0 0), .c (.i .u8 7)] [lx .sn s]).run R = ctlE s 7 R := by kernel_rfl
theorem ctl_8 (s : Int) (R : Out → Prop) : (t_control [.c (.p 0 0 0), .c (.i .u8 8)] [lx .sn s]).run R = ctlE s 8 R := by kernel_rfl
theorem ctl_9 (s : Int) (R : Out → Prop) : (t_control [.c (.p 0 0 0), .c (.i .u8 9)] [lx .sn s]).run R = ctlE s 9 R := by kernel_rfl
theorem ctl_10 (s : Int) (R : Out → Prop) : (t_control [.c (.p 0 0 0), .c (.i .u8 10)] [lx .sn s]).run R = ctlE s 10 R := by kernel_rfl
theorem ctl_11 (s : Int) (R : Out → Prop) : (t_control [.c (.p 0 0 0), .c (.i .u8 11)] [lx .sn s]).run R = ctlE s 11 R := by kernel_rfl
theorem ctl_12 (s : Int) (R : Out → Prop) : (t_control [.c (.p 0 0 0), .c (.i .u8 12)] [lx .sn s]).run R = ctlE s 12 R := by kernel_rfl
theorem ctl_13 (s : Int) (R : Out → Prop) : (t_control [.c (.p 0 0 0), .c (.i .u8 13)] [lx .sn s]).run R = ctlE s 13 R := by kernel_rfl
theorem ctl_14 (s : Int) (R : Out → Prop) : (t_control [.c (.p 0 0 0), .c (.i .u8 14)] [lx .sn s]).run R = ctlE s 14 R := by kernel_rfl
theorem ctl_15 (s : Int) (R : Out → Prop) : (t_control [.c (.p 0 0 0), .c (.i .u8 15)] [lx .sn s]).run R = ctlE s 15 R := by kernel_rfl
theorem ctl_16 (s : Int) (R : Out → Prop) : (t_control [.c (.p 0 0 0), .c (.i .u8 16)] [lx .sn s]).run R = ctlE s 16 R := by kernel_rfl
theorem ctl_17 (s : Int) (R : Out → Prop) : (t_control [.c (.p 0 0 0), .c (.i .u8 17)] [lx .sn s]).run R = ctlE s 17 R := by kernel_rfl
theorem ctl_18 (s : Int) (R : Out → Prop) : (t_control [.c (.p 0 0 0), .c (.i .u8 18)] [lx .sn s]).run R = ctlE s 18 R := by kernel_rfl
theorem ctl_19 (s : Int) (R : Out → Prop) : (t_control [.c (.p 0 0 0), .c (.i .u8 19)] [lx .sn s]).run R = ctlE s 19 R := by kernel_rfl
theorem ctl_20 (s : Int) (R : Out → Prop) : (t_control [.c (.p 0 0 0), .c (.i .u8 20)] [lx .sn s]).run R = ctlE s 20 R := by kernel_rfl
theorem ctl_21 (s : Int) (R : Out → Prop) : (t_control [.c (.p 0 0 0), .c (.i .u8 21)] [lx .sn s]).run R = ctlE s 21 R := by kernel_rfl
theorem ctl_22 (s : Int) (R : Out → Prop) : (t_control [.c (.p 0 0 0), .c (.i .u8 22)] [lx .sn s]).run R = ctlE s 22 R := by kernel_rfl
theorem ctl_23 (s : Int) (R : Out → Prop) : (t_control [.c (.p 0 0 0), .c (.i .u8 23)] [lx .sn s]).run R = ctlE s 23 R := by kernel_rfl
theorem ctl_24 (s : Int) (R : Out → Prop) : (t_control [.c (.p 0 0 0), .c (.i .u8 24)] [lx .sn s]).run R = ctlE s 24 R := by kernel_rfl
theorem ctl_25 (s : Int) (R : Out → Prop) : (t_control [.c (.p 0 0 0), .c (.i .u8 25)] [lx .sn s]).run R = ctlE s 25 R := by kernel_rfl
theorem ctl_26 (s : Int) (R : Out → Prop) : (t_control [.c (.p 0 0 0), .c (.i .u8 26)] [lx .sn s]).run R = ctlE s 26 R := by kernel_rfl
theorem ctl_27 (s : Int) (R : Out → Prop) : (t_control [.c (.p 0 0 0), .c (.i .u8 27)] [lx .sn s]).run R = ctlE s 27 R := by kernel_rfl
theorem ctl_28 (s : Int) (R : Out → Prop) : (t_control [.c (.p 0 0 0), .c (.i .u8 28)] [lx .sn s]).run R = ctlE s 28 R := by kernel_rfl
theorem ctl_29 (s : Int) (R : Out → Prop) : (t_control [.c (.p 0 0 0), .c (.i .u8 29)] [lx .sn s]).run R = ctlE s 29 R := by kernel_rfl
theorem ctl_30 (s : Int) (R : Out → Prop) : (t_control [.c (.p 0 0 0), .c (.i .u8 30)] [lx .sn s]).run R = ctlE s 30 R := by kernel_rfl
theorem ctl_31 (s : Int) (R : Out → Prop) : (t_control [.c (.p 0 0 0), .c (.i .u8 31)] [lx .sn s]).run R = ctlE s 31 R := by kernel_rfl
set_option maxRecDepth 100000 in
theorem ctl_all (s c : Int) (hc : 0 ≤ c ∧ c < 32) (R : Out → Prop) (h : ctlE s c R) : Box ((t_control [.c (.p 0 0 0), .c (.i .u8 c)] [lx .sn s]).run R) := by
  have : c = 0 ∨ c = 1 ∨ c = 2 ∨ c = 3 ∨ c = 4 ∨ c = 5 ∨ c = 6 ∨ c = 7 ∨ c = 8 ∨ c = 9 ∨ c = 10 ∨ c = 11 ∨ c = 12 ∨ c = 13 ∨ c = 14 ∨ c = 15 ∨ c = 16 ∨ c = 17 ∨ c = 18 ∨ c = 19 ∨ c = 20 ∨ c = 21 ∨ c = 22 ∨ c = 23 ∨ c = 24 ∨ c = 25 ∨ c = 26 ∨ c = 27 ∨ c = 28 ∨ c = 29 ∨ c = 30 ∨ c = 31 := by omega
  rcases this with rfl | rfl | rfl | rfl | rfl | rfl | rfl | rfl | rfl | rfl | rfl | rfl | rfl | rfl | rfl | rfl | rfl | rfl | rfl | rfl | rfl | rfl | rfl | rfl | rfl | rfl | rfl | rfl | rfl | rfl | rfl | rfl
  · exact Box.of_eq (ctl_0 s R) h
  · exact Box.of_eq (ctl_1 s R) h
  · exact Box.of_eq (ctl_2 s R) h
  · exact Box.of_eq (ctl_3 s R) h
  · exact Box.of_eq (ctl_4 s R) h
  · exact Box.of_eq (ctl_5 s R) h
  · exact Box.of_eq (ctl_6 s R) h
  · exact Box.of_eq (ctl_7 s R) h
  · exact Box.of_eq (ctl_8 s R) h
  · exact Box.of_eq (ctl_9 s R) h
  · exact Box.of_eq (ctl_10 s R) h
  · exact Box.of_eq (ctl_11 s R) h
  · exact Box.of_eq (ctl_12 s R) h
  · exact Box.of_eq (ctl_13 s R) h
  · exact Box.of_eq (ctl_14 s R) h
  · exact Box.of_eq (ctl_15 s R) h
  · exact Box.of_eq (ctl_16 s R) h
  · exact Box.of_eq (ctl_17 s R) h
  · exact Box.of_eq (ctl_18 s R) h
  · exact Box.of_eq (ctl_19 s R) h
  · exact Box.of_eq (ctl_20 s R) h
  · exact Box.of_eq (ctl_21 s R) h
  · exact Box.of_eq (ctl_22 s R) h
  · exact Box.of_eq (ctl_23 s R) h
  · exact Box.of_eq (ctl_24 s R) h
  · exact Box.of_eq (ctl_25 s R) h
  · exact Box.of_eq (ctl_26 s R) h
  · exact Box.of_eq (ctl_27 s R) h
  · exact Box.of_eq (ctl_28 s R) h
  · exact Box.of_eq (ctl_29 s R) h
  · exact Box.of_eq (ctl_30 s R) h
  · exact Box.of_eq (ctl_31 s R) h
noncomputable def tCtlS : Con := fun args regs => match args, regs with
  | [.c (.p 0 0 0), .c (.i .u8 c)], [⟨2, 58, .cells [.sn, .i .i64 s]⟩] => .must (0 ≤ c ∧ c < 32) (.br (beg c) (.ret ⟨.v (.c .sn), [some (lx (.h 1 0 1) s), some (arr [c])]⟩) (.br (shf c) (.ret ⟨.v (.c .sn), [some (lx .sn (shC c))]⟩) (.ret ⟨rows [ctlR c], [some (lx .sn s)]⟩)))
  | _, _ => .fail
set_option maxRecDepth 100000 in
theorem kCtlS : Known Tryz.prog [] 69 tCtlS := by
  refine k_control.weak fun args regs R h => Box.out ?_
  unfold tCtlS at h
  split at h
  case h_2 => exact h.elim
  rename_i c s
  have h1 := h.1
  have h2 : sel (beg c) (R ⟨.v (.c .sn), [some (lx (.h 1 0 1) s), some (arr [c])]⟩) (sel (shf c) (R ⟨.v (.c .sn), [some (lx .sn (shC c))]⟩) (R ⟨rows [ctlR c], [some (lx .sn s)]⟩)) := h.2
  clear h
  show Box ((t_control [.c (.p 0 0 0), .c (.i .u8 c)] [lx .sn s]).run (wk R))
  refine ctl_all s c h1 _ ?_
  unfold ctlE
  rcases sel_iff.1 h2 with ⟨hb, h2⟩ | ⟨hb, h2⟩
  · exact selT hb (wk_refl h2)
  · refine selF hb ?_
    rcases sel_iff.1 h2 with ⟨hs, h2⟩ | ⟨hs, h2⟩
    · exact selT hs (wk_refl h2)
    · refine selF hs ⟨_, (Weak.rows (k := 1) (xs := [ctlR c]) rfl).trans (Weak.drop (rg' := [some (lx .sn s)]) fun n g hg => ?_), h2⟩
      match n, hg with
      | 0, hg => exact hg
      | n + 1, hg => simp at hg
end Go.Proofs.YtdijbpokklgjlaaGreatDoor.lxv
