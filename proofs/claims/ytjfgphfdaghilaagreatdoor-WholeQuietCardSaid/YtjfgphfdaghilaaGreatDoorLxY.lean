/-
  Joined: LexV, LexW, LexX, LexY, LexQ, LexL, LexLa, LexLb, LexH1.
-/
import Derived.Test.YtjfgphfdaghilaaGreatDoorLxX
import Derived.Test.YtjfgphfdaghilaaGreatDoorEngC
import Derived.Test.YtjfgphfdaghilaaGreatDoorEng32
set_option linter.unusedVariables false
namespace Go.Proofs.YtjfgphfdaghilaaGreatDoor.lxv
open Go Go.Nx Go.Proofs.YtjfgphfdaghilaaGreatDoor.lex

theorem selT {c : Bool} {A B : Prop} (h : c = true) (hA : A) : sel c A B := sel_iff.2 (.inl ⟨h, hA⟩)
theorem selF {c : Bool} {A B : Prop} (h : c = false) (hB : B) : sel c A B := sel_iff.2 (.inr ⟨h, hB⟩)
theorem sel_by {p : Prop} [Decidable p] {A B : Prop} (ha : p → A) (hb : ¬ p → B) : sel (decide p) A B := by
  by_cases h : p
  · exact selT (decide_eq_true h) (ha h)
  · exact selF (decide_eq_false h) (hb h)
theorem dT {p : Prop} [Decidable p] (h : p) : decide p = true := decide_eq_true h
theorem dF {p : Prop} [Decidable p] (h : ¬ p) : decide p = false := decide_eq_false h
theorem bF {x y : Int} (h : x ≠ y) : (x == y) = false := by rw [beq_eq_false_iff_ne]; exact h
theorem bT {x y : Int} (h : x = y) : (x == y) = true := by rw [beq_iff_eq]; exact h
structure Box (p : Prop) : Prop where
  out : p
theorem Box.of_eq {p q : Prop} (h : p = q) (hq : q) : Box p := ⟨h.mpr hq⟩

def ev (k a b c d set code : Int) : List Sc := [.i k, .i a, .i b, .i c, .i d, .i set, .i code]
def rows (l : List (List Sc)) : NS := .v (.c (.lr K7 l))
def ignR : List Sc := ev 12 0 0 0 0 0 0
/-- What is begun has ended: these events. -/
def endS (s : Int) (l : List (List Sc)) : Out := ⟨rows l, [some (lx .sn s), none]⟩
/-- The same, with the row as it was. -/
def endP (s : Int) (P : List Int) (l : List (List Sc)) : Out := ⟨rows l, [some (lx .sn s), some (arr P)]⟩
def wk (R : Out → Prop) (o : Out) : Prop := ∃ o', Weak o o' ∧ R o'
theorem wk_refl {R : Out → Prop} {o : Out} (h : R o) : wk R o := ⟨o, Weak.refl o, h⟩
theorem wk_end {R : Out → Prop} {s : Int} {P : List Int} {l : List (List Sc)} (h : R (endS s l)) : wk R (endP s P l) :=
  ⟨_, Weak.drop fun n g hg => by
    match n, hg with
    | 0, hg => exact hg
    | 1, hg => simp at hg
    | n + 2, hg => simp at hg, h⟩
/-- A function that is asked while something is begun. -/
noncomputable def onB (args : List NV) (regs : List Reg) (F : Int → Int → List Int → Tr Out) : Tr Out := match args, regs with
  | [.c (.p 0 0 0), .c (.i .u8 c)], [⟨2, 103, .cells [.h 1 0 n, .i .i64 s]⟩, ⟨1, 5, .ints .u8 P⟩] => .must (n = P.length) (F c s P)
  | _, _ => .fail
theorem onB_in {args : List NV} {regs : List Reg} {F : Int → Int → List Int → Tr Out} {R : Out → Prop} (h : (onB args regs F).run R) :
    ∃ c s P, args = [.c (.p 0 0 0), .c (.i .u8 c)] ∧ regs = [lx (.h 1 0 P.length) s, arr P] ∧ (F c s P).run R := by
  unfold onB at h
  split at h
  case h_2 => exact h.elim
  rename_i c n s P
  obtain ⟨rfl, h⟩ := h
  exact ⟨c, s, P, rfl, rfl, h⟩

/-! ### what goes on -/
theorem goes_tree (s c : Int) (P : List Int) (R : Out → Prop) : (t_goes [.c (.p 0 0 0), .c (.i .u8 c)] [lx (.h 1 0 P.length) s, arr P]).run R =
    sel (decide (0 + P.length ≤ P.length)) (sel (decide ((P.length + 1) * 1 ≤ 140737488355328)) (sel (decide (P.length + 1 ≤ 9223372036854775807))
      (R ⟨.v (.c .sn), [some (lx (.h 2 0 (P.length + 1)) s), none, some (arr (List.take P.length (List.drop 0 P) ++ [c]))]⟩) False) False) False := by kernel_rfl
noncomputable def tGoesS : Con := fun args regs => onB args regs fun c s P => .must (P.length ≤ 100) (.ret (went s (P ++ [c])))
set_option maxRecDepth 100000 in
theorem kGoesS : Known Tryz.prog [] 271 tGoesS := by
  refine k_goes.less fun args regs R h => Box.out ?_
  obtain ⟨c, s, P, rfl, rfl, hq⟩ := onB_in h
  clear h
  have h1 := hq.1
  have h2 : R (went s (P ++ [c])) := hq.2
  clear hq
  refine Box.of_eq (goes_tree s c P R) (selT (dT (by omega)) (selT (dT (by omega)) (selT (dT (by omega)) ?_)))
  unfold went at h2
  rw [List.length_append] at h2
  rw [List.drop_zero, List.take_length]
  exact h2

/-! ### a sign -/
def isAcc (c : Int) : Bool := c == 65 || c == 66 || c == 67 || c == 72 || c == 75
def signGo (P : List Int) (c : Int) : Bool := decide (P.length ≤ 1) && isAcc c
def signR (P : List Int) (c : Int) : List Sc := ev 1 (if 1 < P.length then w64 (P.getD 1 0) else 0) 0 0 0 2 (w64 c)
noncomputable def c_signS : FuncId → Option Con := conOf [(219, t_char), (270, t_isAccent), (271, tGoesS), (216, t_ends)]
theorem kc_signS : ∀ f T, c_signS f = some T → Known Tryz.prog [] f T := (Knowns.cons k_char (Knowns.cons k_isAccent (Knowns.cons kGoesS (Knowns.cons k_ends Knowns.nil)))).get
noncomputable def t_signS : Con := fun args regs => nfun Tryz.prog [] c_signS [] Tryz.f221 args regs
theorem k_signS : Known Tryz.prog [] 221 t_signS := known_inl Tryz.func221 rfl (by kernel_rfl) mixed kc_signS (by kernel_rfl)
def goB (s c : Int) (P : List Int) (R : Out → Prop) : Prop := P.length = P.length ∧ (P.length ≤ 100 ∧ R (went s (P ++ [c])))
theorem sign_tree (s c : Int) (P : List Int) (R : Out → Prop) : (t_signS [.c (.p 0 0 0), .c (.i .u8 c)] [lx (.h 1 0 P.length) s, arr P]).run R =
    sel (decide ((P.length : Int) > 1)) (sel (decide (1 < (P.length : Int))) (sel (decide (0 + 1 < P.length)) (R (endP s P [ev 1 (w64 (P.getD (0 + 1) 0)) 0 0 0 2 (w64 c)])) False) False)
     (sel (c == 65) (goB s c P R) (sel (c == 66) (goB s c P R) (sel (c == 67) (goB s c P R) (sel (c == 72) (goB s c P R) (sel (c == 75) (goB s c P R) (R (endP s P [ev 1 0 0 0 0 2 (w64 c)]))))))) := by kernel_rfl
noncomputable def tSignS : Con := fun args regs => onB args regs fun c s P => .must (P.length ≤ 100) (.br (signGo P c) (.ret (went s (P ++ [c]))) (.ret (endS s [signR P c])))
set_option maxRecDepth 100000 in
theorem kSignS : Known Tryz.prog [] 221 tSignS := by
  refine k_signS.weak fun args regs R h => Box.out ?_
  obtain ⟨c, s, P, rfl, rfl, hq⟩ := onB_in h
  clear h
  have h1 := hq.1
  have h2 : sel (signGo P c) (R (went s (P ++ [c]))) (R (endS s [signR P c])) := hq.2
  clear hq
  show Box ((t_signS [.c (.p 0 0 0), .c (.i .u8 c)] [lx (.h 1 0 P.length) s, arr P]).run (wk R))
  refine Box.of_eq (sign_tree s c P (wk R)) (sel_by (fun h => ?_) fun h => ?_)
  · refine selT (dT (by omega)) (selT (dT (by omega)) (wk_end ?_))
    have e : signGo P c = false := by unfold signGo; rw [dF (by omega)]; rfl
    rw [e] at h2
    have h2 : R (endS s [signR P c]) := h2
    unfold signR at h2
    rw [if_pos (by omega)] at h2
    exact h2
  · have e : signGo P c = isAcc c := by unfold signGo; rw [dT (by omega)]; rfl
    rw [e] at h2
    have es : signR P c = ev 1 0 0 0 0 2 (w64 c) := by unfold signR; rw [if_neg (by omega)]
    rw [es] at h2
    have go : isAcc c = true → goB s c P (wk R) := fun hc => by
      rw [hc] at h2
      exact ⟨rfl, h1, wk_refl h2⟩
    by_cases h65 : c = 65
    · exact selT (bT h65) (go (by rw [h65]; rfl))
    refine selF (bF h65) ?_
    by_cases h66 : c = 66
    · exact selT (bT h66) (go (by rw [h66]; rfl))
    refine selF (bF h66) ?_
    by_cases h67 : c = 67
    · exact selT (bT h67) (go (by rw [h67]; rfl))
    refine selF (bF h67) ?_
    by_cases h72 : c = 72
    · exact selT (bT h72) (go (by rw [h72]; rfl))
    refine selF (bF h72) ?_
    by_cases h75 : c = 75
    · exact selT (bT h75) (go (by rw [h75]; rfl))
    refine selF (bF h75) (wk_end ?_)
    have : isAcc c = false := by unfold isAcc; rw [bF h65, bF h66, bF h67, bF h72, bF h75]; rfl
    rw [this] at h2
    exact h2

/-! ### a place -/
def placeGo (P : List Int) : Bool := decide (P.length < 2)
noncomputable def placeR (P : List Int) (c : Int) : List Sc := if P.getD 1 0 < 64 ∨ c < 64 then ignR else ev 5 (low6 (P.getD 1 0)) (low6 c) 0 0 0 0
noncomputable def c_placeS : FuncId → Option Con := conOf [(271, tGoesS), (216, t_ends), (217, t_ignored)]
theorem kc_placeS : ∀ f T, c_placeS f = some T → Known Tryz.prog [] f T := (Knowns.cons kGoesS (Knowns.cons k_ends (Knowns.cons k_ignored Knowns.nil))).get
noncomputable def t_placeS : Con := fun args regs => nfun Tryz.prog [] c_placeS [] Tryz.f222 args regs
theorem k_placeS : Known Tryz.prog [] 222 t_placeS := known_inl Tryz.func222 rfl (by kernel_rfl) mixed kc_placeS (by kernel_rfl)
theorem place_tree (s c : Int) (P : List Int) (R : Out → Prop) : (t_placeS [.c (.p 0 0 0), .c (.i .u8 c)] [lx (.h 1 0 P.length) s, arr P]).run R =
    sel (decide ((P.length : Int) < 2)) (goB s c P R) (sel (decide (1 < (P.length : Int))) (sel (decide (0 + 1 < P.length))
     (sel (decide (P.getD (0 + 1) 0 < 64)) (R (endP s P [ignR])) (sel (decide (c < 64)) (R (endP s P [ignR])) (R (endP s P [ev 5 (low6 (P.getD (0 + 1) 0)) (low6 c) 0 0 0 0])))) False) False) := by kernel_rfl
noncomputable def tPlaceS : Con := fun args regs => onB args regs fun c s P => .must (P.length ≤ 100) (.br (placeGo P) (.ret (went s (P ++ [c]))) (.ret (endS s [placeR P c])))
set_option maxRecDepth 100000 in
theorem kPlaceS : Known Tryz.prog [] 222 tPlaceS := by
  refine k_placeS.weak fun args regs R h => Box.out ?_
  obtain ⟨c, s, P, rfl, rfl, hq⟩ := onB_in h
  clear h
  have h1 := hq.1
  have h2 : sel (placeGo P) (R (went s (P ++ [c]))) (R (endS s [placeR P c])) := hq.2
  clear hq
  show Box ((t_placeS [.c (.p 0 0 0), .c (.i .u8 c)] [lx (.h 1 0 P.length) s, arr P]).run (wk R))
  refine Box.of_eq (place_tree s c P (wk R)) (sel_by (fun h => ?_) fun h => ?_)
  · rw [show placeGo P = true from dT (by omega)] at h2
    exact ⟨rfl, h1, wk_refl h2⟩
  · rw [show placeGo P = false from dF (by omega)] at h2
    have h2 : R (endS s [placeR P c]) := h2
    unfold placeR at h2
    refine selT (dT (by omega)) (selT (dT (by omega)) (sel_by (fun hp => wk_end ?_) fun hp => sel_by (fun hc => wk_end ?_) fun hc => wk_end ?_))
    · rw [if_pos (.inl hp)] at h2; exact h2
    · rw [if_pos (.inr hc)] at h2; exact h2
    · rw [if_neg (fun h => h.elim hp hc)] at h2; exact h2

/-! ### a control -/
def beg (c : Int) : Bool := c == 18 || c == 25 || c == 27 || c == 31
def shf (c : Int) : Bool := c == 14 || c == 15
def shC (c : Int) : Int := if c = 14 then 1 else 0
def ctlR (c : Int) : List Sc :=
  if c = 7 then ev 8 0 0 0 0 0 0 else if 8 ≤ c ∧ c ≤ 11 then ev 2 (c - 7) 1 0 0 0 0 else if c = 13 then ev 2 5 0 0 0 0 0 else if c = 12 then ev 3 1 0 0 0 0 0 else if c = 24 then ev 3 2 0 0 0 0 0 else
  if c = 17 then ev 9 1 0 0 0 0 0 else if c = 20 then ev 9 0 0 0 0 0 0 else if c = 26 then ev 1 0 0 0 0 0 127 else if c = 30 then ev 4 0 0 0 0 0 0 else ignR
def ctlO (s : Int) (row : List Sc) : Out := ⟨.v (.c (.h 1 0 1)), [some (lx .sn s), some ⟨7, 70, .recs K7 [row]⟩]⟩
def ctlE (s c : Int) (R : Out → Prop) : Prop :=
  sel (beg c) (R ⟨.v (.c .sn), [some (lx (.h 1 0 1) s), some (arr [c])]⟩) (sel (shf c) (R ⟨.v (.c .sn), [some (lx .sn (shC c))]⟩) (R (ctlO s (ctlR c))))
theorem ctl_0 (s : Int) (R : Out → Prop) : (t_control [.c (.p 0 0 0), .c (.i .u8 0)] [lx .sn s]).run R = ctlE s 0 R := by kernel_rfl
theorem ctl_1 (s : Int) (R : Out → Prop) : (t_control [.c (.p 0 0 0), .c (.i .u8 1)] [lx .sn s]).run R = ctlE s 1 R := by kernel_rfl
theorem ctl_2 (s : Int) (R : Out → Prop) : (t_control [.c (.p 0 0 0), .c (.i .u8 2)] [lx .sn s]).run R = ctlE s 2 R := by kernel_rfl
theorem ctl_3 (s : Int) (R : Out → Prop) : (t_control [.c (.p 0 0 0), .c (.i .u8 3)] [lx .sn s]).run R = ctlE s 3 R := by kernel_rfl
theorem ctl_4 (s : Int) (R : Out → Prop) : (t_control [.c (.p 0 0 0), .c (.i .u8 4)] [lx .sn s]).run R = ctlE s 4 R := by kernel_rfl
theorem ctl_5 (s : Int) (R : Out → Prop) : (t_control [.c (.p 0 0 0), .c (.i .u8 5)] [lx .sn s]).run R = ctlE s 5 R := by kernel_rfl
theorem ctl_6 (s : Int) (R : Out → Prop) : (t_control [.c (.p 0 0 0), .c (.i .u8 6)] [lx .sn s]).run R = ctlE s 6 R := by kernel_rfl
theorem ctl_7 (s : Int) (R : Out → Prop) : (t_control [.c (.p 0 0 0), .c (.i .u8 7)] [lx .sn s]).run R = ctlE s 7 R := by kernel_rfl
theorem ctl_8 (s : Int) (R : Out → Prop) : (t_control [.c (.p 0 0 0), .c (.i .u8 8)] [lx .sn s]).run R = ctlE s 8 R := by kernel_rfl
theorem ctl_9 (s : Int) (R : Out → Prop) : (t_control [.c (.p 0 0 0), .c (.i .u8 9)] [lx .sn s]).run R = ctlE s 9 R := by kernel_rfl
theorem ctl_10 (s : Int) (R : Out → Prop) : (t_control [.c (.p 0 0 0), .c (.i .u8 10)] [lx .sn s]).run R = ctlE s 10 R := by kernel_rfl
theorem ctl_11 (s : Int) (R : Out → Prop) : (t_control [.c (.p 0 0 0), .c (.i .u8 11)] [lx .sn s]).run R = ctlE s 11 R := by kernel_rfl
theorem ctl_12 (s : Int) (R : Out → Prop) : (t_control [.c (.p 0 0 0), .c (.i .u8 12)] [lx .sn s]).run R = ctlE s 12 R := by kernel_rfl
theorem ctl_13 (s : Int) (R : Out → Prop) : (t_control [.c (.p 0 0 0), .c (.i .u8 13)] [lx .sn s]).run R = ctlE s 13 R := by kernel_rfl
theorem ctl_14 (s : Int) (R : Out → Prop) : (t_control [.c (.p 0 0 0), .c (.i .u8 14)] [lx .sn s]).run R = ctlE s 14 R := by kernel_rfl
theorem ctl_15 (s : Int) (R : Out → Prop) : (t_control [.c (.p 0 0 0), .c (.i .u8 15)] [lx .sn s]).run R = ctlE s 15 R := by kernel_rfl
theorem ctl_16 (s : Int) (R : Out → Prop) : (t_control [.c (.p 0 0 0), .c (.i .u8 16)] [lx .sn s]).run R = ctlE s 16 R := by kernel_rfl
theorem ctl_17 (s : Int) (R : Out → Prop) : (t_control [.c (.p 0 0 0), .c (.i .u8 17)] [lx .sn s]).run R = ctlE s 17 R := by kernel_rfl
theorem ctl_18 (s : Int) (R : Out → Prop) : (t_control [.c (.p 0 0 0), .c (.i .u8 18)] [lx .sn s]).run R = ctlE s 18 R := by kernel_rfl
theorem ctl_19 (s : Int) (R : Out → Prop) : (t_control [.c (.p 0 0 0), .c (.i .u8 19)] [lx .sn s]).run R = ctlE s 19 R := by kernel_rfl
theorem ctl_20 (s : Int) (R : Out → Prop) : (t_control [.c (.p 0 0 0), .c (.i .u8 20)] [lx .sn s]).run R = ctlE s 20 R := by kernel_rfl
theorem ctl_21 (s : Int) (R : Out → Prop) : (t_control [.c (.p 0 0 0), .c (.i .u8 21)] [lx .sn s]).run R = ctlE s 21 R := by kernel_rfl
theorem ctl_22 (s : Int) (R : Out → Prop) : (t_control [.c (.p 0 0 0), .c (.i .u8 22)] [lx .sn s]).run R = ctlE s 22 R := by kernel_rfl
theorem ctl_23 (s : Int) (R : Out → Prop) : (t_control [.c (.p 0 0 0), .c (.i .u8 23)] [lx .sn s]).run R = ctlE s 23 R := by kernel_rfl
theorem ctl_24 (s : Int) (R : Out → Prop) : (t_control [.c (.p 0 0 0), .c (.i .u8 24)] [lx .sn s]).run R = ctlE s 24 R := by kernel_rfl
theorem ctl_25 (s : Int) (R : Out → Prop) : (t_control [.c (.p 0 0 0), .c (.i .u8 25)] [lx .sn s]).run R = ctlE s 25 R := by kernel_rfl
theorem ctl_26 (s : Int) (R : Out → Prop) : (t_control [.c (.p 0 0 0), .c (.i .u8 26)] [lx .sn s]).run R = ctlE s 26 R := by kernel_rfl
theorem ctl_27 (s : Int) (R : Out → Prop) : (t_control [.c (.p 0 0 0), .c (.i .u8 27)] [lx .sn s]).run R = ctlE s 27 R := by kernel_rfl
theorem ctl_28 (s : Int) (R : Out → Prop) : (t_control [.c (.p 0 0 0), .c (.i .u8 28)] [lx .sn s]).run R = ctlE s 28 R := by kernel_rfl
theorem ctl_29 (s : Int) (R : Out → Prop) : (t_control [.c (.p 0 0 0), .c (.i .u8 29)] [lx .sn s]).run R = ctlE s 29 R := by kernel_rfl
theorem ctl_30 (s : Int) (R : Out → Prop) : (t_control [.c (.p 0 0 0), .c (.i .u8 30)] [lx .sn s]).run R = ctlE s 30 R := by kernel_rfl
theorem ctl_31 (s : Int) (R : Out → Prop) : (t_control [.c (.p 0 0 0), .c (.i .u8 31)] [lx .sn s]).run R = ctlE s 31 R := by kernel_rfl
set_option maxRecDepth 100000 in
theorem ctl_all (s c : Int) (hc : 0 ≤ c ∧ c < 32) (R : Out → Prop) (h : ctlE s c R) : Box ((t_control [.c (.p 0 0 0), .c (.i .u8 c)] [lx .sn s]).run R) := by
  have : c = 0 ∨ c = 1 ∨ c = 2 ∨ c = 3 ∨ c = 4 ∨ c = 5 ∨ c = 6 ∨ c = 7 ∨ c = 8 ∨ c = 9 ∨ c = 10 ∨ c = 11 ∨ c = 12 ∨ c = 13 ∨ c = 14 ∨ c = 15 ∨ c = 16 ∨ c = 17 ∨ c = 18 ∨ c = 19 ∨ c = 20 ∨ c = 21 ∨ c = 22 ∨ c = 23 ∨ c = 24 ∨ c = 25 ∨ c = 26 ∨ c = 27 ∨ c = 28 ∨ c = 29 ∨ c = 30 ∨ c = 31 := by omega
  rcases this with rfl | rfl | rfl | rfl | rfl | rfl | rfl | rfl | rfl | rfl | rfl | rfl | rfl | rfl | rfl | rfl | rfl | rfl | rfl | rfl | rfl | rfl | rfl | rfl | rfl | rfl | rfl | rfl | rfl | rfl | rfl | rfl
  · exact Box.of_eq (ctl_0 s R) h
  · exact Box.of_eq (ctl_1 s R) h
  · exact Box.of_eq (ctl_2 s R) h
  · exact Box.of_eq (ctl_3 s R) h
  · exact Box.of_eq (ctl_4 s R) h
  · exact Box.of_eq (ctl_5 s R) h
  · exact Box.of_eq (ctl_6 s R) h
  · exact Box.of_eq (ctl_7 s R) h
  · exact Box.of_eq (ctl_8 s R) h
  · exact Box.of_eq (ctl_9 s R) h
  · exact Box.of_eq (ctl_10 s R) h
  · exact Box.of_eq (ctl_11 s R) h
  · exact Box.of_eq (ctl_12 s R) h
  · exact Box.of_eq (ctl_13 s R) h
  · exact Box.of_eq (ctl_14 s R) h
  · exact Box.of_eq (ctl_15 s R) h
  · exact Box.of_eq (ctl_16 s R) h
  · exact Box.of_eq (ctl_17 s R) h
  · exact Box.of_eq (ctl_18 s R) h
  · exact Box.of_eq (ctl_19 s R) h
  · exact Box.of_eq (ctl_20 s R) h
  · exact Box.of_eq (ctl_21 s R) h
  · exact Box.of_eq (ctl_22 s R) h
  · exact Box.of_eq (ctl_23 s R) h
  · exact Box.of_eq (ctl_24 s R) h
  · exact Box.of_eq (ctl_25 s R) h
  · exact Box.of_eq (ctl_26 s R) h
  · exact Box.of_eq (ctl_27 s R) h
  · exact Box.of_eq (ctl_28 s R) h
  · exact Box.of_eq (ctl_29 s R) h
  · exact Box.of_eq (ctl_30 s R) h
  · exact Box.of_eq (ctl_31 s R) h
noncomputable def tCtlS : Con := fun args regs => match args, regs with
  | [.c (.p 0 0 0), .c (.i .u8 c)], [⟨2, 103, .cells [.sn, .i .i64 s]⟩] => .must (0 ≤ c ∧ c < 32) (.br (beg c) (.ret ⟨.v (.c .sn), [some (lx (.h 1 0 1) s), some (arr [c])]⟩) (.br (shf c) (.ret ⟨.v (.c .sn), [some (lx .sn (shC c))]⟩) (.ret ⟨rows [ctlR c], [some (lx .sn s)]⟩)))
  | _, _ => .fail
set_option maxRecDepth 100000 in
theorem kCtlS : Known Tryz.prog [] 218 tCtlS := by
  refine k_control.weak fun args regs R h => Box.out ?_
  unfold tCtlS at h
  split at h
  case h_2 => exact h.elim
  rename_i c s
  have h1 := h.1
  have h2 : sel (beg c) (R ⟨.v (.c .sn), [some (lx (.h 1 0 1) s), some (arr [c])]⟩) (sel (shf c) (R ⟨.v (.c .sn), [some (lx .sn (shC c))]⟩) (R ⟨rows [ctlR c], [some (lx .sn s)]⟩)) := h.2
  clear h
  show Box ((t_control [.c (.p 0 0 0), .c (.i .u8 c)] [lx .sn s]).run (wk R))
  refine ctl_all s c h1 _ ?_
  unfold ctlE
  rcases sel_iff.1 h2 with ⟨hb, h2⟩ | ⟨hb, h2⟩
  · exact selT hb (wk_refl h2)
  · refine selF hb ?_
    rcases sel_iff.1 h2 with ⟨hs, h2⟩ | ⟨hs, h2⟩
    · exact selT hs (wk_refl h2)
    · refine selF hs ⟨_, (Weak.rows (k := 1) (xs := [ctlR c]) rfl).trans (Weak.drop (rg' := [some (lx .sn s)]) fun n g hg => ?_), h2⟩
      match n, hg with
      | 0, hg => exact hg
      | n + 1, hg => simp at hg
end Go.Proofs.YtjfgphfdaghilaaGreatDoor.lxv
namespace Go.Proofs.YtjfgphfdaghilaaGreatDoor.lxv
open Go Go.Nx Go.Proofs.YtjfgphfdaghilaaGreatDoor.lex

/-! ### what is ended, by its rows -/
noncomputable def tEndsW : Con := fun args regs => match args, regs with
  | [.c (.p 0 0 0), .c (.h k o n)], _ => t_ends args regs
  | _, _ => .fail
set_option maxRecDepth 100000 in
theorem kEndsW : Known Tryz.prog [] 216 tEndsW := by
  refine k_ends.less fun args regs R h => ?_
  unfold tEndsW at h
  split at h
  case h_2 => exact h.elim
  exact h
/-- What a sequence with numbers says. -/
def endR (ds : List Int) (c : Int) : List Sc :=
  if 65 ≤ c ∧ c ≤ 68 then ev 2 (69 - c) (mx (min99 (nums ds 0 0 0).1)) 0 0 0 0
  else if c = 72 then ev 5 (mx (min99 (nums ds 0 0 0).1)) (mx (min99 (nums ds 0 0 0).2)) 0 0 0 0
  else if c = 74 ∨ c = 75 then ev 11 (c - 73) (min99 (nums ds 0 0 0).1) 0 0 0 0 else ignR
def endO (row : List Sc) : Out := ⟨.v (.c (.h 0 0 1)), [some ⟨7, 70, .recs K7 [row]⟩]⟩
theorem ended_tree (ds : List Int) (c : Int) (R : Out → Prop) : (t_ended [.c (.l .u8 ds), .c (.i .u8 c)] []).run R = ((ds.length ≤ 100 ∧ InBytes ds) ∧
    sel (c == 65) (R (endO (ev 2 (w64 (IntKind.u8.wrap (69 - c))) (mx (min99 (nums ds 0 0 0).1)) 0 0 0 0)))
     (sel (c == 66) (R (endO (ev 2 (w64 (IntKind.u8.wrap (69 - c))) (mx (min99 (nums ds 0 0 0).1)) 0 0 0 0)))
      (sel (c == 67) (R (endO (ev 2 (w64 (IntKind.u8.wrap (69 - c))) (mx (min99 (nums ds 0 0 0).1)) 0 0 0 0)))
       (sel (c == 68) (R (endO (ev 2 (w64 (IntKind.u8.wrap (69 - c))) (mx (min99 (nums ds 0 0 0).1)) 0 0 0 0)))
        (sel (c == 72) (R (endO (ev 5 (mx (min99 (nums ds 0 0 0).1)) (mx (min99 (nums ds 0 0 0).2)) 0 0 0 0)))
         (sel (c == 74) (R (endO (ev 11 (w64 (w64 (IntKind.u8.wrap (c - 74)) + 1)) (min99 (nums ds 0 0 0).1) 0 0 0 0)))
          (sel (c == 75) (R (endO (ev 11 (w64 (w64 (IntKind.u8.wrap (c - 74)) + 1)) (min99 (nums ds 0 0 0).1) 0 0 0 0))) (R (endO ignR))))))))) := by kernel_rfl
noncomputable def tEndedV : Con := fun args regs => match args, regs with
  | [.c (.l .u8 ds), .c (.i .u8 c)], [] => .must (ds.length ≤ 100 ∧ InBytes ds) (.ret (endO (endR ds c)))
  | _, _ => .fail
theorem e68 : ∀ c : Int, 65 ≤ c ∧ c ≤ 68 → w64 (IntKind.u8.wrap (69 - c)) = 69 - c := by
  intro c hc
  have : c = 65 ∨ c = 66 ∨ c = 67 ∨ c = 68 := by omega
  rcases this with rfl | rfl | rfl | rfl <;> decide +kernel
set_option maxRecDepth 100000 in
theorem kEndedV : Known Tryz.prog [] 299 tEndedV := by
  refine k_ended.less fun args regs R h => Box.out ?_
  unfold tEndedV at h
  split at h
  case h_2 => exact h.elim
  rename_i ds c
  have h1 := h.1
  have h2 : R (endO (endR ds c)) := h.2
  clear h
  refine Box.of_eq (ended_tree ds c R) ⟨h1, ?_⟩
  clear h1
  have mv : 65 ≤ c ∧ c ≤ 68 → R (endO (ev 2 (w64 (IntKind.u8.wrap (69 - c))) (mx (min99 (nums ds 0 0 0).1)) 0 0 0 0)) := fun hc => by
    rw [e68 c hc]
    unfold endR at h2
    rw [if_pos hc] at h2
    exact h2
  by_cases h65 : c = 65
  · exact selT (bT h65) (mv (by omega))
  refine selF (bF h65) ?_
  by_cases h66 : c = 66
  · exact selT (bT h66) (mv (by omega))
  refine selF (bF h66) ?_
  by_cases h67 : c = 67
  · exact selT (bT h67) (mv (by omega))
  refine selF (bF h67) ?_
  by_cases h68 : c = 68
  · exact selT (bT h68) (mv (by omega))
  refine selF (bF h68) ?_
  unfold endR at h2
  rw [if_neg (by omega)] at h2
  by_cases h72 : c = 72
  · rw [if_pos h72] at h2
    exact selT (bT h72) h2
  refine selF (bF h72) ?_
  rw [if_neg h72] at h2
  by_cases h74 : c = 74
  · rw [if_pos (.inl h74)] at h2
    subst h74
    exact selT rfl h2
  refine selF (bF h74) ?_
  by_cases h75 : c = 75
  · rw [if_pos (.inr h75)] at h2
    subst h75
    exact selT rfl h2
  refine selF (bF h75) ?_
  rw [if_neg (by omega)] at h2
  exact h2

/-! ### a sequence with numbers -/
noncomputable def c_seqS : FuncId → Option Con := conOf [(271, tGoesS), (216, tEndsW), (299, tEndedV), (217, t_ignored)]
theorem kc_seqS : ∀ f T, c_seqS f = some T → Known Tryz.prog [] f T := (Knowns.cons kGoesS (Knowns.cons kEndsW (Knowns.cons kEndedV (Knowns.cons k_ignored Knowns.nil)))).get
noncomputable def t_seqS : Con := fun args regs => nfun Tryz.prog [] c_seqS [] Tryz.f272 args regs
theorem k_seqS : Known Tryz.prog [] 272 t_seqS := known_inl Tryz.func272 rfl (by kernel_rfl) mixed kc_seqS (by kernel_rfl)
def endH (s : Int) (P : List Int) (row : List Sc) : Out := ⟨.v (.c (.h 2 0 1)), [some (lx .sn s), some (arr P), some ⟨7, 70, .recs K7 [row]⟩]⟩
theorem wk_endH {R : Out → Prop} {s : Int} {P : List Int} {row : List Sc} (h : R (endS s [row])) : wk R (endH s P row) :=
  ⟨_, (Weak.rows (k := 2) (xs := [row]) rfl).trans (Weak.drop (rg' := [some (lx .sn s), none]) fun n g hg => by
    match n, hg with
    | 0, hg => exact hg
    | 1, hg => simp at hg
    | n + 2, hg => simp at hg), h⟩
def seqE (s c : Int) (P : List Int) (R : Out → Prop) : Prop :=
  sel (decide (c < 64)) (R (endH s P ignR)) (sel (c == 127) (R (endH s P ignR)) (sel (decide (0 + Int.toNat 2 + (P.length - Int.toNat 2) ≤ P.length))
    (((List.take (P.length - Int.toNat 2) (List.drop (0 + Int.toNat 2) P)).length ≤ 100 ∧ InBytes (List.take (P.length - Int.toNat 2) (List.drop (0 + Int.toNat 2) P))) ∧ R (endH s P (endR (List.take (P.length - Int.toNat 2) (List.drop (0 + Int.toNat 2) P)) c))) False))
theorem seq_tree (s c : Int) (P : List Int) (R : Out → Prop) : (t_seqS [.c (.p 0 0 0), .c (.i .u8 c)] [lx (.h 1 0 P.length) s, arr P]).run R =
    sel (decide (2 ≤ (P.length : Int))) (sel (decide (c ≥ 48)) (sel (decide (c < 64)) (sel (decide (((P.length - Int.toNat 2 : Nat) : Int) < 7)) (goB s c P R) (seqE s c P R)) (seqE s c P R)) (seqE s c P R)) False := by kernel_rfl
def seqGo (P : List Int) (c : Int) : Bool := decide (48 ≤ c ∧ c < 64 ∧ P.length < 9)
def seqR (P : List Int) (c : Int) : List Sc := if c < 64 ∨ c = 127 then ignR else endR (P.drop 2) c
noncomputable def tSeqS : Con := fun args regs => onB args regs fun c s P => .must ((2 ≤ P.length ∧ P.length ≤ 50) ∧ InBytes P) (.br (seqGo P c) (.ret (went s (P ++ [c]))) (.ret (endS s [seqR P c])))
set_option maxRecDepth 100000 in
theorem kSeqS : Known Tryz.prog [] 272 tSeqS := by
  refine k_seqS.weak fun args regs R h => Box.out ?_
  obtain ⟨c, s, P, rfl, rfl, hq⟩ := onB_in h
  clear h
  have h1 := hq.1
  have h2 : sel (seqGo P c) (R (went s (P ++ [c]))) (R (endS s [seqR P c])) := hq.2
  clear hq
  show Box ((t_seqS [.c (.p 0 0 0), .c (.i .u8 c)] [lx (.h 1 0 P.length) s, arr P]).run (wk R))
  have e2 : Int.toNat 2 = 2 := rfl
  have en : seqGo P c = false → seqE s c P (wk R) := fun hn => by
    rw [hn] at h2
    have h2 : R (endS s [seqR P c]) := h2
    unfold seqR at h2
    unfold seqE
    refine sel_by (fun hc => wk_endH ?_) fun hc => ?_
    · rw [if_pos (.inl hc)] at h2; exact h2
    by_cases hd : c = 127
    · refine selT (bT hd) (wk_endH ?_)
      rw [if_pos (.inr hd)] at h2; exact h2
    · rw [if_neg (fun h => h.elim hc hd)] at h2
      have ht : List.take (P.length - Int.toNat 2) (List.drop (0 + Int.toNat 2) P) = P.drop 2 := by
        rw [e2, Nat.zero_add, show P.length - 2 = (P.drop 2).length by rw [List.length_drop], List.take_length]
      rw [ht]
      refine selF (bF hd) (selT (dT (by omega)) ⟨⟨by rw [List.length_drop]; omega, fun x hx => h1.2 x (List.mem_of_mem_drop hx)⟩, wk_endH h2⟩)
  refine Box.of_eq (seq_tree s c P (wk R)) (selT (dT (by omega)) (sel_by (fun h => sel_by (fun hc => sel_by (fun hl => ?_) fun hl => ?_) fun hc => ?_) fun h => ?_))
  · rw [show seqGo P c = true from dT (by omega)] at h2
    exact ⟨rfl, by omega, wk_refl h2⟩
  · exact en (dF (by omega))
  · exact en (dF (by omega))
  · exact en (dF (by omega))

/-! ### a request -/
theorem asks_1 (s c p : Int) (R : Out → Prop) : (t_asks [.c (.p 0 0 0), .c (.i .u8 c)] [lx (.h 1 0 2) s, arr [p, 57]]).run R = R (endS s [ev 10 1 (w64 c) 0 0 0 0]) := by kernel_rfl
theorem asks_2 (s c p : Int) (R : Out → Prop) : (t_asks [.c (.p 0 0 0), .c (.i .u8 c)] [lx (.h 1 0 2) s, arr [p, 58]]).run R = R ⟨.v (.c .sn), [some (lx (.h 2 0 3) s), none, some (arr [p, 58, c])]⟩ := by kernel_rfl
theorem asks_2r (s c p r : Int) (R : Out → Prop) : (t_asks [.c (.p 0 0 0), .c (.i .u8 c)] [lx (.h 1 0 3) s, arr [p, 58, r]]).run R = R (endS s [ev 10 2 (w64 r) (w64 c) 0 0 0]) := by kernel_rfl
theorem asks_3 (s c p : Int) (R : Out → Prop) : (t_asks [.c (.p 0 0 0), .c (.i .u8 c)] [lx (.h 1 0 2) s, arr [p, 59]]).run R = R ⟨.v (.c .sn), [some (lx (.h 2 0 3) s), none, some (arr [p, 59, c])]⟩ := by kernel_rfl
theorem asks_3r (s c p r : Int) (R : Out → Prop) : (t_asks [.c (.p 0 0 0), .c (.i .u8 c)] [lx (.h 1 0 3) s, arr [p, 59, r]]).run R = R ⟨.v (.c .sn), [some (lx (.h 2 0 4) s), none, some (arr [p, 59, r, c])]⟩ := by kernel_rfl
theorem asks_3rt (s c p r t : Int) (R : Out → Prop) : (t_asks [.c (.p 0 0 0), .c (.i .u8 c)] [lx (.h 1 0 4) s, arr [p, 59, r, t]]).run R = R (endS s [ev 10 3 (w64 r) (w64 t) (w64 c) 0 0]) := by kernel_rfl
def askOk (P : List Int) : Prop := ∃ p r t, P = [p, 57] ∨ P = [p, 58] ∨ P = [p, 58, r] ∨ P = [p, 59] ∨ P = [p, 59, r] ∨ P = [p, 59, r, t]
def askGo (P : List Int) : Bool := decide ((P.length : Int) - 1 < P.getD 1 0 - 56)
def askR (P : List Int) (c : Int) : List Sc := ev 10 (P.getD 1 0 - 56) (w64 ((P ++ [c]).getD 2 0)) (w64 ((P ++ [c]).getD 3 0)) (w64 ((P ++ [c]).getD 4 0)) 0 0
noncomputable def tAsksS : Con := fun args regs => onB args regs fun c s P => .must (askOk P) (.br (askGo P) (.ret (went s (P ++ [c]))) (.ret (endS s [askR P c])))
set_option maxRecDepth 100000 in
theorem kAsksS : Known Tryz.prog [] 273 tAsksS := by
  refine k_asks.less fun args regs R h => Box.out ?_
  obtain ⟨c, s, P, rfl, rfl, hq⟩ := onB_in h
  clear h
  have h1 := hq.1
  have h2 : sel (askGo P) (R (went s (P ++ [c]))) (R (endS s [askR P c])) := hq.2
  clear hq
  have go : askGo P = true → R (went s (P ++ [c])) := fun e => by rw [e] at h2; exact h2
  have en : askGo P = false → R (endS s [askR P c]) := fun e => by rw [e] at h2; exact h2
  clear h2
  obtain ⟨p, r, t, h1⟩ := h1
  rcases h1 with rfl | rfl | rfl | rfl | rfl | rfl
  · exact Box.of_eq (asks_1 s c p R) (en rfl)
  · exact Box.of_eq (asks_2 s c p R) (go rfl)
  · exact Box.of_eq (asks_2r s c p r R) (en rfl)
  · exact Box.of_eq (asks_3 s c p R) (go rfl)
  · exact Box.of_eq (asks_3r s c p r R) (go rfl)
  · exact Box.of_eq (asks_3rt s c p r t R) (en rfl)

/-! ### behind an escape -/
noncomputable def c_escS : FuncId → Option Con := conOf [(272, tSeqS), (273, tAsksS), (271, tGoesS), (216, tEndsW), (217, t_ignored), (220, t_one)]
theorem kc_escS : ∀ f T, c_escS f = some T → Known Tryz.prog [] f T := (Knowns.cons kSeqS (Knowns.cons kAsksS (Knowns.cons kGoesS (Knowns.cons kEndsW (Knowns.cons k_ignored (Knowns.cons k_one Knowns.nil)))))).get
noncomputable def t_escS : Con := fun args regs => nfun Tryz.prog [] c_escS [] Tryz.f223 args regs
theorem k_escS : Known Tryz.prog [] 223 t_escS := known_inl Tryz.func223 rfl (by kernel_rfl) mixed kc_escS (by kernel_rfl)
end Go.Proofs.YtjfgphfdaghilaaGreatDoor.lxv
namespace Go.Proofs.YtjfgphfdaghilaaGreatDoor.lxv
open Go Go.Nx Go.Proofs.YtjfgphfdaghilaaGreatDoor.lex

def escEnd (s c : Int) (P : List Int) (R : Out → Prop) : Prop :=
  sel (decide (c ≥ 64)) (sel (decide (c ≤ 95)) (R (endH s P (ev 6 (w64 c) 0 0 0 0 0))) (R (endH s P ignR))) (R (endH s P ignR))
def escRest (s c : Int) (P : List Int) (R : Out → Prop) : Prop :=
  sel (decide (c < 48)) (sel (decide ((P.length : Int) < 15)) (goB s c P R) (sel (decide (c < 48)) (R (endH s P ignR)) (sel (decide ((P.length : Int) > 1)) (R (endH s P ignR))
    (sel (c == 91) (goB s c P R) (sel (decide (c ≥ 57)) (sel (decide (c ≤ 59)) (goB s c P R) (escEnd s c P R)) (escEnd s c P R))))))
   (sel (decide (c < 48)) (R (endH s P ignR)) (sel (decide ((P.length : Int) > 1)) (R (endH s P ignR))
    (sel (c == 91) (goB s c P R) (sel (decide (c ≥ 57)) (sel (decide (c ≤ 59)) (goB s c P R) (escEnd s c P R)) (escEnd s c P R)))))
theorem esc_tree (s c : Int) (P : List Int) (R : Out → Prop) : (t_escS [.c (.p 0 0 0), .c (.i .u8 c)] [lx (.h 1 0 P.length) s, arr P]).run R =
    sel (decide ((P.length : Int) > 1)) (sel (decide (1 < (P.length : Int))) (sel (decide (0 + Int.toNat 1 < P.length))
     (sel (P.getD 1 0 == 91) (P.length = P.length ∧ ((2 ≤ P.length ∧ P.length ≤ 50) ∧ InBytes P) ∧ sel (seqGo P c) (R (went s (P ++ [c]))) (R (endS s [seqR P c])))
      (sel (decide (P.getD (0 + Int.toNat 1) 0 ≥ 57)) (sel (decide (P.getD (0 + Int.toNat 1) 0 ≤ 59))
        (P.length = P.length ∧ askOk P ∧ sel (askGo P) (R (went s (P ++ [c]))) (R (endS s [askR P c])))
        (escRest s c P R)) (escRest s c P R))) False) False) (escRest s c P R) := by kernel_rfl
def escGo (P : List Int) (c : Int) : Bool :=
  bif decide (1 < P.length ∧ P.getD 1 0 = 91) then seqGo P c else bif decide (1 < P.length ∧ 57 ≤ P.getD 1 0 ∧ P.getD 1 0 ≤ 59) then askGo P else
   decide (c < 48 ∧ P.length < 15 ∨ 48 ≤ c ∧ P.length ≤ 1 ∧ (c = 91 ∨ 57 ≤ c ∧ c ≤ 59))
def escR (P : List Int) (c : Int) : List Sc :=
  if 1 < P.length ∧ P.getD 1 0 = 91 then seqR P c else if 1 < P.length ∧ 57 ≤ P.getD 1 0 ∧ P.getD 1 0 ≤ 59 then askR P c else if 64 ≤ c ∧ c ≤ 95 ∧ P.length ≤ 1 then ev 6 (w64 c) 0 0 0 0 0 else ignR
def escOk (P : List Int) : Prop := P.length ≤ 50 ∧ InBytes P ∧ (1 < P.length → 57 ≤ P.getD 1 0 → P.getD 1 0 ≤ 59 → askOk P)
noncomputable def tEscS : Con := fun args regs => onB args regs fun c s P => .must (escOk P) (.br (escGo P c) (.ret (went s (P ++ [c]))) (.ret (endS s [escR P c])))
theorem sel_if {b : Bool} {A B A' B' : Prop} (h : sel b A B) (ha : A → A') (hb : B → B') : sel b A' B' := by
  cases b
  · exact hb h
  · exact ha h
set_option maxRecDepth 100000 in
theorem kEscS : Known Tryz.prog [] 223 tEscS := by
  refine k_escS.weak fun args regs R h => Box.out ?_
  obtain ⟨c, s, P, rfl, rfl, hq⟩ := onB_in h
  clear h
  have h1 := hq.1
  have h2 : sel (escGo P c) (R (went s (P ++ [c]))) (R (endS s [escR P c])) := hq.2
  clear hq
  show Box ((t_escS [.c (.p 0 0 0), .c (.i .u8 c)] [lx (.h 1 0 P.length) s, arr P]).run (wk R))
  have e1 : Int.toNat 1 = 1 := rfl
  have z1 : 0 + 1 = 1 := rfl
  have h50 := h1.1
  have go : escGo P c = true → goB s c P (wk R) := fun e => ⟨rfl, by omega, wk_refl (by rw [e] at h2; exact h2)⟩
  have en : escGo P c = false → R (endS s [escR P c]) := fun e => by rw [e] at h2; exact h2
  have rest : ¬ (1 < P.length ∧ P.getD 1 0 = 91) → ¬ (1 < P.length ∧ 57 ≤ P.getD 1 0 ∧ P.getD 1 0 ≤ 59) → escRest s c P (wk R) := fun ha hb => by
    have eg : escGo P c = decide (c < 48 ∧ P.length < 15 ∨ 48 ≤ c ∧ P.length ≤ 1 ∧ (c = 91 ∨ 57 ≤ c ∧ c ≤ 59)) := by
      unfold escGo
      rw [dF ha, dF hb]
      rfl
    have er : escR P c = if 64 ≤ c ∧ c ≤ 95 ∧ P.length ≤ 1 then ev 6 (w64 c) 0 0 0 0 0 else ignR := by
      unfold escR
      rw [if_neg ha, if_neg hb]
    rw [eg] at go en
    rw [er] at en
    clear eg er h2
    have e3 : (¬ (c < 48 ∧ P.length < 15 ∨ 48 ≤ c ∧ P.length ≤ 1 ∧ (c = 91 ∨ 57 ≤ c ∧ c ≤ 59))) → ¬ (64 ≤ c ∧ c ≤ 95 ∧ P.length ≤ 1) → wk R (endH s P ignR) := fun h h' => by
      have := en (dF h)
      rw [if_neg h'] at this
      exact wk_endH this
    have e4 : (¬ (c < 48 ∧ P.length < 15 ∨ 48 ≤ c ∧ P.length ≤ 1 ∧ (c = 91 ∨ 57 ≤ c ∧ c ≤ 59))) → (64 ≤ c ∧ c ≤ 95 ∧ P.length ≤ 1) → wk R (endH s P (ev 6 (w64 c) 0 0 0 0 0)) := fun h h' => by
      have := en (dF h)
      rw [if_pos h'] at this
      exact wk_endH this
    have ee : (¬ (c < 48 ∧ P.length < 15 ∨ 48 ≤ c ∧ P.length ≤ 1 ∧ (c = 91 ∨ 57 ≤ c ∧ c ≤ 59))) → P.length ≤ 1 → escEnd s c P (wk R) := fun h h' => by
      unfold escEnd
      exact sel_by (fun _ => sel_by (fun _ => e4 h (by omega)) fun _ => e3 h (by omega)) fun _ => e3 h (by omega)
    have er : ¬ c < 48 → P.length ≤ 1 → sel (c == 91) (goB s c P (wk R)) (sel (decide (c ≥ 57)) (sel (decide (c ≤ 59)) (goB s c P (wk R)) (escEnd s c P (wk R))) (escEnd s c P (wk R))) := fun h hl => by
      by_cases h91 : c = 91
      · exact selT (bT h91) (go (dT (by omega)))
      refine selF (bF h91) (sel_by (fun _ => sel_by (fun _ => go (dT (by omega))) fun _ => ee (by omega) hl) fun _ => ee (by omega) hl)
    unfold escRest
    refine sel_by (fun h => sel_by (fun h' => go (dT (by omega))) fun h' => selT (dT h) (e3 (by omega) (by omega))) fun h => selF (dF h) (sel_by (fun h' => e3 (by omega) (by omega)) fun h' => er h (by omega))
  refine Box.of_eq (esc_tree s c P (wk R)) (sel_by (fun hl => selT (dT (by omega)) (selT (dT (by omega)) ?_)) fun hl => rest (by omega) (by omega))
  rw [e1, z1]
  by_cases h91 : P.getD 1 0 = 91
  · have eg : escGo P c = seqGo P c := by
      unfold escGo
      rw [dT ⟨by omega, h91⟩]
      rfl
    have er : escR P c = seqR P c := by
      unfold escR
      rw [if_pos ⟨by omega, h91⟩]
    rw [eg, er] at h2
    exact selT (bT h91) ⟨rfl, ⟨⟨by omega, h50⟩, h1.2.1⟩, sel_if h2 wk_refl wk_refl⟩
  · refine selF (bF h91) (sel_by (fun ha => sel_by (fun hb => ?_) fun hb => rest (fun h => h91 h.2) (fun h => hb h.2.2)) fun ha => rest (fun h => h91 h.2) (fun h => ha h.2.1))
    have hb' : 1 < P.length ∧ 57 ≤ P.getD 1 0 ∧ P.getD 1 0 ≤ 59 := ⟨by omega, ha, hb⟩
    have eg : escGo P c = askGo P := by
      unfold escGo
      rw [dF (fun h => h91 h.2), dT hb']
      rfl
    have er : escR P c = askR P c := by
      unfold escR
      rw [if_neg (fun h => h91 h.2), if_pos hb']
    rw [eg, er] at h2
    exact ⟨rfl, h1.2.2 hb'.1 ha hb, sel_if h2 wk_refl wk_refl⟩
end Go.Proofs.YtjfgphfdaghilaaGreatDoor.lxv
namespace Go.Proofs.YtjfgphfdaghilaaGreatDoor.lxv
open Go Go.Nx Go.Proofs.YtjfgphfdaghilaaGreatDoor.lex

noncomputable def c_byteS : FuncId → Option Con := conOf [(55, tEvenV), (216, tEndsW), (217, t_ignored), (220, t_one), (221, tSignS), (222, tPlaceS), (223, tEscS), (218, tCtlS), (219, t_char)]
theorem kc_byteS : ∀ f T, c_byteS f = some T → Known Tryz.prog [] f T := (Knowns.cons kEvenV (Knowns.cons kEndsW (Knowns.cons k_ignored (Knowns.cons k_one (Knowns.cons kSignS (Knowns.cons kPlaceS (Knowns.cons kEscS (Knowns.cons kCtlS (Knowns.cons k_char Knowns.nil))))))))).get
noncomputable def t_byteS : Con := fun args regs => nfun Tryz.prog [] c_byteS [] Tryz.f150 args regs
theorem k_byteS : Known Tryz.prog [] 150 t_byteS := known_inl Tryz.func150 rfl (by kernel_rfl) mixed kc_byteS (by kernel_rfl)
/-! ### its trees -/
def evR (l : List (List Sc)) : Reg := ⟨7, 70, .recs K7 l⟩
def in5 (c : Int) : Prop := 0 ≤ c ∧ c < 32
def ctl0 (s c : Int) (R : Out → Prop) : Prop := in5 c ∧ ctlE s c R
theorem byte_tree0 (s b : Int) (R : Out → Prop) : (t_byteS [.c (.p 0 0 0), .c (.i .u8 b)] [lx .sn s]).run R =
    ((0 ≤ b ∧ b < 256) ∧ sel (!isEv b) (ctl0 s 26 R) (sel (decide (cB b < 32)) (ctl0 s (cB b) R) (R (ctlO s (ev 1 0 0 0 0 s (w64 (cB b))))))) := by kernel_rfl
def ctl1 (s c : Int) (P : List Int) (R : Out → Prop) : Prop := sel (decide ((P.length : Int) > 0)) (in5 c ∧
  sel (beg c) (R ⟨.v (.c (.h 3 0 1)), [some (lx (.h 2 0 1) s), some (arr P), some (arr [c]), some (evR [ignR])]⟩)
   (sel (shf c) (R ⟨.v (.c (.h 2 0 1)), [some (lx .sn (shC c)), some (arr P), some (evR [ignR])]⟩)
    (R ⟨.v (.c (.h 2 0 2)), [some (lx .sn s), some (arr P), some (evR [ignR, ctlR c])]⟩))) False
def goR (s c : Int) (P : List Int) (go : Bool) (row : List Sc) (R : Out → Prop) : Prop := sel go (R (went s (P ++ [c]))) (R (endS s [row]))
theorem byte_tree1 (s b : Int) (P : List Int) (R : Out → Prop) : (t_byteS [.c (.p 0 0 0), .c (.i .u8 b)] [lx (.h 1 0 P.length) s, arr P]).run R =
    ((0 ≤ b ∧ b < 256) ∧ sel (!isEv b) (ctl1 s 26 P R) (sel (decide (cB b < 32)) (ctl1 s (cB b) P R)
     (sel ((P.length : Int) == 0) (R ⟨.v (.c (.h 2 0 1)), [some (lx (.h 1 0 P.length) s), some (arr P), some (evR [ev 1 0 0 0 0 s (w64 (cB b))])]⟩)
      (sel (decide (0 < (P.length : Int))) (sel (decide (0 + Int.toNat 0 < P.length))
       (sel (P.getD 0 0 == 18) (R (endH s P (ev 7 (low6 (cB b)) 0 0 0 0 0)))
       (sel (P.getD 0 0 == 25) (P.length = P.length ∧ P.length ≤ 100 ∧ goR s (cB b) P (signGo P (cB b)) (signR P (cB b)) R)
       (sel (P.getD 0 0 == 31) (P.length = P.length ∧ P.length ≤ 100 ∧ goR s (cB b) P (placeGo P) (placeR P (cB b)) R)
        (P.length = P.length ∧ escOk P ∧ goR s (cB b) P (escGo P (cB b)) (escR P (cB b)) R)))) False) False)))) := by kernel_rfl

/-! ### what a byte does -/
noncomputable def cc (b : Int) : Int := bif isEv b then cB b else 26
/-- Does what is begun go on? -/
noncomputable def goOn (P : List Int) (c : Int) : Bool := if P.getD 0 0 = 18 then false else if P.getD 0 0 = 25 then signGo P c else if P.getD 0 0 = 31 then placeGo P else escGo P c
/-- The event that ends it. -/
noncomputable def endsR (P : List Int) (c : Int) : List Sc := if P.getD 0 0 = 18 then ev 7 (low6 c) 0 0 0 0 0 else if P.getD 0 0 = 25 then signR P c else if P.getD 0 0 = 31 then placeR P c else escR P c
noncomputable def pend (P : List Int) (c : Int) : List Int := if c < 32 then (if beg c then [c] else []) else if P = [] then [] else if goOn P c then P ++ [c] else []
noncomputable def evts (P : List Int) (s c : Int) : List (List Sc) :=
  if c < 32 then (if P = [] then [] else [ignR]) ++ (if beg c || shf c then [] else [ctlR c])
  else if P = [] then [ev 1 0 0 0 0 s (w64 c)] else if goOn P c then [] else [endsR P c]
noncomputable def shft (s c : Int) : Int := if c < 32 ∧ shf c = true then shC c else s
def tail2 (k : Nat) : List (Option Reg) := if k = 2 then [none] else []
def okP (P : List Int) : Prop := P ≠ [] ∧ P.length ≤ 50 ∧ InBytes P ∧ (1 < P.length → P.getD 0 0 ≠ 18 → P.getD 0 0 ≠ 25 → P.getD 0 0 ≠ 31 → 57 ≤ P.getD 1 0 → P.getD 1 0 ≤ 59 → askOk P)
noncomputable def outA (k : Nat) (P : List Int) (s c : Int) : Out := ⟨rows (evts P s c), some (lx .sn (shft s c)) :: tail2 k⟩
noncomputable def outB (k : Nat) (P : List Int) (s c : Int) : Out := ⟨rows (evts P s c), some (lx (.h k 0 (pend P c).length) (shft s c)) :: tail2 k ++ [some (arr (pend P c))]⟩
noncomputable def outT (k : Nat) (P : List Int) (s b : Int) : Tr Out := .br (pend P (cc b)).isEmpty (.ret (outA k P s (cc b))) (.ret (outB k P s (cc b)))
noncomputable def tByteB : Con := fun args regs => match args, regs with
  | [.c (.p 0 0 0), .c (.i .u8 b)], [⟨2, 103, .cells [.sn, .i .i64 s]⟩] => .must (0 ≤ b ∧ b < 256) (outT 1 [] s b)
  | [.c (.p 0 0 0), .c (.i .u8 b)], [⟨2, 103, .cells [.h 1 0 n, .i .i64 s]⟩, ⟨1, 5, .ints .u8 P⟩] => .must (n = P.length ∧ (0 ≤ b ∧ b < 256) ∧ okP P) (outT 2 P s b)
  | _, _ => .fail
theorem cB_all : ∀ n < 256, 0 ≤ cB (Int.ofNat n) ∧ cB (Int.ofNat n) < 128 := by decide +kernel
theorem cB_of {b : Int} (h : 0 ≤ b ∧ b < 256) : 0 ≤ cB b ∧ cB b < 128 := by
  have e : b = Int.ofNat b.toNat := by show b = ((b.toNat : Nat) : Int); omega
  have := cB_all b.toNat (by omega)
  rwa [← e] at this
theorem cc_of {b : Int} (h : 0 ≤ b ∧ b < 256) : 0 ≤ cc b ∧ cc b < 128 := by
  unfold cc
  cases isEv b
  · exact ⟨show (0 : Int) ≤ 26 by decide, show (26 : Int) < 128 by decide⟩
  · exact cB_of h
theorem fewer0 {x : NS} {g : Reg} {l : List (Option Reg)} : Weak ⟨x, some g :: l⟩ ⟨x, [some g]⟩ := Weak.drop fun n g' hg => by
  match n, hg with
  | 0, hg => exact hg
  | n + 1, hg => simp at hg
theorem fewer1 {x : NS} {g : Reg} {l : List (Option Reg)} : Weak ⟨x, some g :: l⟩ ⟨x, [some g, none]⟩ := Weak.drop fun n g' hg => by
  match n, hg with
  | 0, hg => exact hg
  | 1, hg => simp at hg
  | n + 2, hg => simp at hg
theorem fewer2 {x : NS} {g h : Reg} {a : Option Reg} {l : List (Option Reg)} : Weak ⟨x, some g :: a :: some h :: l⟩ ⟨x, [some g, none, some h]⟩ := Weak.drop fun n g' hg => by
  match n, hg with
  | 0, hg => exact hg
  | 1, hg => simp at hg
  | 2, hg => exact hg
  | n + 3, hg => simp at hg
theorem nilK {rg : List (Option Reg)} : Weak ⟨.v (.c .sn), rg⟩ ⟨rows [], rg⟩ := Weak.nil_rows (by decide)
theorem ctl_in0 {s c : Int} {R : Out → Prop} (hc : in5 c) (h : sel (pend [] c).isEmpty (R (outA 1 [] s c)) (R (outB 1 [] s c))) : ctl0 s c (wk R) := by
  refine ⟨hc, ?_⟩
  have h32 : c < 32 := hc.2
  unfold ctlE
  by_cases hb : beg c = true
  · have e : pend [] c = [c] := by unfold pend; rw [if_pos h32, if_pos hb]
    have ev : evts [] s c = [] := by unfold evts; rw [if_pos h32, if_pos rfl, hb]; rfl
    have es : shft s c = s := by
      have hs : shf c = false := by
        unfold beg at hb; unfold shf
        simp only [Bool.or_eq_true, beq_iff_eq] at hb
        rcases hb with ((rfl | rfl) | rfl) | rfl <;> rfl
      unfold shft; rw [hs, if_neg (fun h => by cases h.2)]
    rw [e] at h
    have h : R (outB 1 [] s c) := h
    unfold outB at h
    rw [e, ev, es] at h
    exact selT hb ⟨_, nilK, h⟩
  · have hb : beg c = false := by simpa using hb
    have e : pend [] c = [] := by unfold pend; rw [if_pos h32, hb]; rfl
    rw [e] at h
    have h : R (outA 1 [] s c) := h
    unfold outA at h
    refine selF hb ?_
    by_cases hs : shf c = true
    · have ev : evts [] s c = [] := by unfold evts; rw [if_pos h32, if_pos rfl, hs, Bool.or_true]; rfl
      have es : shft s c = shC c := by unfold shft; rw [if_pos ⟨h32, hs⟩]
      rw [ev, es] at h
      exact selT hs ⟨_, nilK, h⟩
    · have hs : shf c = false := by simpa using hs
      have ev : evts [] s c = [ctlR c] := by unfold evts; rw [if_pos h32, if_pos rfl, hb, hs]; rfl
      have es : shft s c = s := by unfold shft; rw [hs, if_neg (fun h => by cases h.2)]
      rw [ev, es] at h
      exact selF hs ⟨_, (Weak.rows (k := 1) (xs := [ctlR c]) rfl).trans fewer0, h⟩
theorem ctl_in1 {s c : Int} {P : List Int} {R : Out → Prop} (hP : P ≠ []) (hc : in5 c) (h : sel (pend P c).isEmpty (R (outA 2 P s c)) (R (outB 2 P s c))) : ctl1 s c P (wk R) := by
  have hl : (P.length : Int) > 0 := by
    have := List.length_pos_iff.2 hP
    omega
  refine selT (dT hl) ⟨hc, ?_⟩
  have h32 : c < 32 := hc.2
  by_cases hb : beg c = true
  · have e : pend P c = [c] := by unfold pend; rw [if_pos h32, if_pos hb]
    have ev : evts P s c = [ignR] := by unfold evts; rw [if_pos h32, if_neg hP, hb]; rfl
    have es : shft s c = s := by
      have hs : shf c = false := by
        unfold beg at hb; unfold shf
        simp only [Bool.or_eq_true, beq_iff_eq] at hb
        rcases hb with ((rfl | rfl) | rfl) | rfl <;> rfl
      unfold shft; rw [hs, if_neg (fun h => by cases h.2)]
    rw [e] at h
    have h : R (outB 2 P s c) := h
    unfold outB at h
    rw [e, ev, es] at h
    exact selT hb ⟨_, (Weak.rows (k := 3) (xs := [ignR]) rfl).trans fewer2, h⟩
  · have hb : beg c = false := by simpa using hb
    have e : pend P c = [] := by unfold pend; rw [if_pos h32, hb]; rfl
    rw [e] at h
    have h : R (outA 2 P s c) := h
    unfold outA at h
    refine selF hb ?_
    by_cases hs : shf c = true
    · have ev : evts P s c = [ignR] := by unfold evts; rw [if_pos h32, if_neg hP, hs, Bool.or_true]; rfl
      have es : shft s c = shC c := by unfold shft; rw [if_pos ⟨h32, hs⟩]
      rw [ev, es] at h
      exact selT hs ⟨_, (Weak.rows (k := 2) (xs := [ignR]) rfl).trans fewer1, h⟩
    · have hs : shf c = false := by simpa using hs
      have ev : evts P s c = [ignR, ctlR c] := by unfold evts; rw [if_pos h32, if_neg hP, hb, hs]; rfl
      have es : shft s c = s := by unfold shft; rw [hs, if_neg (fun h => by cases h.2)]
      rw [ev, es] at h
      exact selF hs ⟨_, (Weak.rows (k := 2) (xs := [ignR, ctlR c]) rfl).trans fewer1, h⟩
theorem go_in {s c : Int} {P : List Int} {go : Bool} {row : List Sc} {R : Out → Prop} (hP : P ≠ []) (h32 : ¬ c < 32) (hg : goOn P c = go) (hr : endsR P c = row) (h : sel (pend P c).isEmpty (R (outA 2 P s c)) (R (outB 2 P s c))) : goR s c P go row (wk R) := by
  have es : shft s c = s := by unfold shft; rw [if_neg (fun h => h32 h.1)]
  cases go
  · have e : pend P c = [] := by unfold pend; rw [if_neg h32, if_neg hP, hg]; rfl
    have ev : evts P s c = [row] := by unfold evts; rw [if_neg h32, if_neg hP, hg, hr]; rfl
    rw [e] at h
    have h : R (outA 2 P s c) := h
    unfold outA at h
    rw [ev, es] at h
    exact wk_refl h
  · have e : pend P c = P ++ [c] := by unfold pend; rw [if_neg h32, if_neg hP, hg]; rfl
    have ev : evts P s c = [] := by unfold evts; rw [if_neg h32, if_neg hP, hg]; rfl
    rw [e] at h
    have h : R (outB 2 P s c) := by
      have e2 : (P ++ [c]).isEmpty = false := by cases P <;> rfl
      rw [e2] at h
      exact h
    unfold outB at h
    rw [ev, es, e] at h
    exact ⟨_, nilK, h⟩
set_option maxRecDepth 100000 in
theorem kByteB : Known Tryz.prog [] 150 tByteB := by
  refine k_byteS.weak fun args regs R h => Box.out ?_
  unfold tByteB at h
  split at h
  case h_3 => exact h.elim
  case h_1 =>
    rename_i b s
    have hb := h.1
    have h2 : sel (pend [] (cc b)).isEmpty (R (outA 1 [] s (cc b))) (R (outB 1 [] s (cc b))) := h.2
    clear h
    show Box ((t_byteS [.c (.p 0 0 0), .c (.i .u8 b)] [lx .sn s]).run (wk R))
    refine Box.of_eq (byte_tree0 s b (wk R)) ⟨hb, ?_⟩
    have hc := cB_of hb
    cases he : isEv b with
    | false =>
      have ec : cc b = 26 := by unfold cc; rw [he]; rfl
      rw [ec] at h2
      exact selT rfl (ctl_in0 ⟨by decide, by decide⟩ h2)
    | true =>
      have ec : cc b = cB b := by unfold cc; rw [he]; rfl
      rw [ec] at h2
      refine selF rfl (sel_by (fun hl => ctl_in0 ⟨hc.1, hl⟩ h2) fun hl => ?_)
      have e : pend [] (cB b) = [] := by unfold pend; rw [if_neg hl, if_pos rfl]
      have ev : evts [] s (cB b) = [ev 1 0 0 0 0 s (w64 (cB b))] := by unfold evts; rw [if_neg hl, if_pos rfl]
      have es : shft s (cB b) = s := by unfold shft; rw [if_neg (fun h => hl h.1)]
      rw [e] at h2
      have h2 : R (outA 1 [] s (cB b)) := h2
      unfold outA at h2
      rw [ev, es] at h2
      exact ⟨_, (Weak.rows (k := 1) (xs := [lxv.ev 1 0 0 0 0 s (w64 (cB b))]) rfl).trans fewer0, h2⟩
  case h_2 =>
    rename_i b n s P
    have h1 := h.1
    have h2 : sel (pend P (cc b)).isEmpty (R (outA 2 P s (cc b))) (R (outB 2 P s (cc b))) := h.2
    clear h
    obtain ⟨rfl, hb, hP, h50, hin, hask⟩ := h1
    show Box ((t_byteS [.c (.p 0 0 0), .c (.i .u8 b)] [lx (.h 1 0 P.length) s, arr P]).run (wk R))
    refine Box.of_eq (byte_tree1 s b P (wk R)) ⟨hb, ?_⟩
    have hc := cB_of hb
    cases he : isEv b with
    | false =>
      have ec : cc b = 26 := by unfold cc; rw [he]; rfl
      rw [ec] at h2
      exact selT rfl (ctl_in1 hP ⟨by decide, by decide⟩ h2)
    | true =>
      have ec : cc b = cB b := by unfold cc; rw [he]; rfl
      rw [ec] at h2
      refine selF rfl (sel_by (fun hl => ctl_in1 hP ⟨hc.1, hl⟩ h2) fun hl => ?_)
      have hpos := List.length_pos_iff.2 hP
      refine selF (bF (by omega)) (selT (dT (by omega)) (selT (dT (by simpa using hpos)) ?_))
      have es : shft s (cB b) = s := by unfold shft; rw [if_neg (fun h => hl h.1)]
      by_cases h18 : P.getD 0 0 = 18
      · have hg : goOn P (cB b) = false := by unfold goOn; rw [if_pos h18]
        have e : pend P (cB b) = [] := by unfold pend; rw [if_neg hl, if_neg hP, hg]; rfl
        have ev : evts P s (cB b) = [ev 7 (low6 (cB b)) 0 0 0 0 0] := by unfold evts; rw [if_neg hl, if_neg hP, hg]; unfold endsR; rw [if_pos h18]; rfl
        rw [e] at h2
        have h2 : R (outA 2 P s (cB b)) := h2
        unfold outA at h2
        rw [ev, es] at h2
        exact selT (bT h18) (wk_endH h2)
      refine selF (bF h18) ?_
      by_cases h25 : P.getD 0 0 = 25
      · exact selT (bT h25) ⟨rfl, by omega, go_in hP hl (by unfold goOn; rw [if_neg h18, if_pos h25]) (by unfold endsR; rw [if_neg h18, if_pos h25]) h2⟩
      refine selF (bF h25) ?_
      by_cases h31 : P.getD 0 0 = 31
      · exact selT (bT h31) ⟨rfl, by omega, go_in hP hl (by unfold goOn; rw [if_neg h18, if_neg h25, if_pos h31]) (by unfold endsR; rw [if_neg h18, if_neg h25, if_pos h31]) h2⟩
      exact selF (bF h31) ⟨rfl, ⟨h50, hin, fun h a b => hask h h18 h25 h31 a b⟩, go_in hP hl (by unfold goOn; rw [if_neg h18, if_neg h25, if_neg h31]) (by unfold endsR; rw [if_neg h18, if_neg h25, if_neg h31]) h2⟩
end Go.Proofs.YtjfgphfdaghilaaGreatDoor.lxv
namespace Go.Proofs.YtjfgphfdaghilaaGreatDoor.lxv
open Go Go.Nx Go.Proofs.YtjfgphfdaghilaaGreatDoor.lex

/-! ### a byte, its ways laid apart -/
noncomputable def outD (k : Nat) (pre : List (List Sc)) (s c : Int) (z : Tr Out) : Tr Out :=
  .br (decide (c < 32)) (.br (beg c) (.ret ⟨rows pre, some (lx (.h k 0 1) s) :: tail2 k ++ [some (arr [c])]⟩)
    (.br (shf c) (.ret ⟨rows pre, some (lx .sn (shC c)) :: tail2 k⟩) (.ret ⟨rows (pre ++ [ctlR c]), some (lx .sn s) :: tail2 k⟩))) z
noncomputable def outD1 (s b : Int) : Tr Out := outD 1 [] s (cc b) (.ret ⟨rows [ev 1 0 0 0 0 s (w64 (cc b))], [some (lx .sn s)]⟩)
noncomputable def outD2 (P : List Int) (s b : Int) : Tr Out := outD 2 [ignR] s (cc b) (.br (goOn P (cc b))
  (.ret ⟨rows [], [some (lx (.h 2 0 (P ++ [cc b]).length) s), none, some (arr (P ++ [cc b]))]⟩) (.ret ⟨rows [endsR P (cc b)], [some (lx .sn s), none]⟩))
noncomputable def tByteD : Con := fun args regs => match args, regs with
  | [.c (.p 0 0 0), .c (.i .u8 b)], [⟨2, 103, .cells [.sn, .i .i64 s]⟩] => .must (0 ≤ b ∧ b < 256) (outD1 s b)
  | [.c (.p 0 0 0), .c (.i .u8 b)], [⟨2, 103, .cells [.h 1 0 n, .i .i64 s]⟩, ⟨1, 5, .ints .u8 P⟩] => .must (n = P.length ∧ (0 ≤ b ∧ b < 256) ∧ okP P) (outD2 P s b)
  | _, _ => .fail
theorem beg_shf {c : Int} (h : beg c = true) : shf c = false := by
  unfold beg at h; unfold shf
  simp only [Bool.or_eq_true, beq_iff_eq] at h
  rcases h with ((rfl | rfl) | rfl) | rfl <;> rfl
theorem outD_ctl {k : Nat} {P : List Int} {s c : Int} {z : Tr Out} {R : Out → Prop} (h32 : c < 32) (h : (outD k (if P = [] then [] else [ignR]) s c z).run R) :
    sel (pend P c).isEmpty (R (outA k P s c)) (R (outB k P s c)) := by
  have h : sel (decide (c < 32)) (sel (beg c) (R ⟨rows (if P = [] then [] else [ignR]), some (lx (.h k 0 1) s) :: tail2 k ++ [some (arr [c])]⟩)
    (sel (shf c) (R ⟨rows (if P = [] then [] else [ignR]), some (lx .sn (shC c)) :: tail2 k⟩) (R ⟨rows ((if P = [] then [] else [ignR]) ++ [ctlR c]), some (lx .sn s) :: tail2 k⟩))) (z.run R) := h
  rw [dT h32] at h
  have h : sel (beg c) (R ⟨rows (if P = [] then [] else [ignR]), some (lx (.h k 0 1) s) :: tail2 k ++ [some (arr [c])]⟩)
    (sel (shf c) (R ⟨rows (if P = [] then [] else [ignR]), some (lx .sn (shC c)) :: tail2 k⟩) (R ⟨rows ((if P = [] then [] else [ignR]) ++ [ctlR c]), some (lx .sn s) :: tail2 k⟩)) := h
  rcases sel_iff.1 h with ⟨hb, h⟩ | ⟨hb, h⟩
  · have hs := beg_shf hb
    have e : pend P c = [c] := by unfold pend; rw [if_pos h32, if_pos hb]
    have ev : evts P s c = if P = [] then [] else [ignR] := by unfold evts; rw [if_pos h32, hb]; exact List.append_nil _
    have es : shft s c = s := by unfold shft; rw [hs, if_neg (fun h => by cases h.2)]
    rw [e]
    show R (outB k P s c)
    unfold outB
    rw [e, ev, es]
    exact h
  have e : pend P c = [] := by unfold pend; rw [if_pos h32, hb]; rfl
  rw [e]
  show R (outA k P s c)
  unfold outA
  rcases sel_iff.1 h with ⟨hs, h⟩ | ⟨hs, h⟩
  · have ev : evts P s c = if P = [] then [] else [ignR] := by unfold evts; rw [if_pos h32, hs, Bool.or_true]; exact List.append_nil _
    have es : shft s c = shC c := by unfold shft; rw [if_pos ⟨h32, hs⟩]
    rw [ev, es]
    exact h
  · have ev : evts P s c = (if P = [] then [] else [ignR]) ++ [ctlR c] := by unfold evts; rw [if_pos h32, hb, hs]; rfl
    have es : shft s c = s := by unfold shft; rw [hs, if_neg (fun h => by cases h.2)]
    rw [ev, es]
    exact h
theorem outD_else {k : Nat} {pre : List (List Sc)} {s c : Int} {z : Tr Out} {R : Out → Prop} (h32 : ¬ c < 32) (h : (outD k pre s c z).run R) : z.run R := by
  have h : sel (decide (c < 32)) _ (z.run R) := h
  rw [dF h32] at h
  exact h
set_option maxRecDepth 100000 in
theorem kByteD : Known Tryz.prog [] 150 tByteD := by
  refine kByteB.less fun args regs R h => Box.out ?_
  unfold tByteD at h
  split at h
  case h_3 => exact h.elim
  case h_1 =>
    rename_i b s
    have h1 := h.1
    have h2 : (outD1 s b).run R := h.2
    clear h
    refine ⟨h1, ?_⟩
    show sel (pend [] (cc b)).isEmpty (R (outA 1 [] s (cc b))) (R (outB 1 [] s (cc b)))
    by_cases h32 : cc b < 32
    · exact outD_ctl h32 (by rw [if_pos rfl]; exact h2)
    · have h2 : R ⟨rows [ev 1 0 0 0 0 s (w64 (cc b))], [some (lx .sn s)]⟩ := outD_else h32 h2
      have e : pend [] (cc b) = [] := by unfold pend; rw [if_neg h32, if_pos rfl]
      have ev : evts [] s (cc b) = [ev 1 0 0 0 0 s (w64 (cc b))] := by unfold evts; rw [if_neg h32, if_pos rfl]
      have es : shft s (cc b) = s := by unfold shft; rw [if_neg (fun h => h32 h.1)]
      rw [e]
      show R (outA 1 [] s (cc b))
      unfold outA
      rw [ev, es]
      exact h2
  case h_2 =>
    rename_i b n s P
    have h1 := h.1
    have h2 : (outD2 P s b).run R := h.2
    clear h
    refine ⟨h1, ?_⟩
    have hP := h1.2.2.1
    show sel (pend P (cc b)).isEmpty (R (outA 2 P s (cc b))) (R (outB 2 P s (cc b)))
    by_cases h32 : cc b < 32
    · exact outD_ctl h32 (by rw [if_neg hP]; exact h2)
    · have h2 : sel (goOn P (cc b)) (R ⟨rows [], [some (lx (.h 2 0 (P ++ [cc b]).length) s), none, some (arr (P ++ [cc b]))]⟩) (R ⟨rows [endsR P (cc b)], [some (lx .sn s), none]⟩) := outD_else h32 h2
      have es : shft s (cc b) = s := by unfold shft; rw [if_neg (fun h => h32 h.1)]
      rcases sel_iff.1 h2 with ⟨hg, h2⟩ | ⟨hg, h2⟩
      · have e : pend P (cc b) = P ++ [cc b] := by unfold pend; rw [if_neg h32, if_neg hP, hg]; rfl
        have ev : evts P s (cc b) = [] := by unfold evts; rw [if_neg h32, if_neg hP, hg]; rfl
        rw [e, show (P ++ [cc b]).isEmpty = false by cases P <;> rfl]
        show R (outB 2 P s (cc b))
        unfold outB
        rw [ev, es, e]
        exact h2
      · have e : pend P (cc b) = [] := by unfold pend; rw [if_neg h32, if_neg hP, hg]; rfl
        have ev : evts P s (cc b) = [endsR P (cc b)] := by unfold evts; rw [if_neg h32, if_neg hP, hg]; rfl
        rw [e]
        show R (outA 2 P s (cc b))
        unfold outA
        rw [ev, es]
        exact h2


/-! ### copies of bytes -/
noncomputable def clo (P : List Int) (R : Out → Prop) : Prop := sel (decide ((0 + P.length) * 1 ≤ 140737488355328)) (sel (decide (0 + P.length ≤ 9223372036854775807)) (R ⟨.v (.c (.h 0 0 (0 + P.length))), [some (arr ([] ++ P))]⟩) False) False
theorem clone_tree (P : List Int) (R : Out → Prop) : (t_clone [.c (.l .u8 P)] []).run R = sel P.isEmpty (∀ y : Bool, True → sel y (R ⟨.v (.c .sn), []⟩) (clo P R)) (clo P R) := by kernel_rfl
noncomputable def tCloneL : Con := fun args regs => match args, regs with
  | [.c (.l .u8 P)], [] => .must (P.length ≤ 1000) (.ret ⟨.v (.c (.l .u8 P)), []⟩)
  | _, _ => .fail
theorem wk_arr {R : Out → Prop} {P : List Int} (h : R ⟨.v (.c (.l .u8 P)), []⟩) : wk R ⟨.v (.c (.h 0 0 P.length)), [some (arr P)]⟩ :=
  ⟨_, (Weak.ints (k := 0) (xs := P) rfl).trans (Weak.drop (rg' := []) fun n g hg => by simp at hg), h⟩
set_option maxRecDepth 100000 in
theorem kCloneL : Known Tryz.prog [] 45 tCloneL := by
  refine k_clone.weak fun args regs R h => Box.out ?_
  unfold tCloneL at h
  split at h
  case h_2 => exact h.elim
  rename_i P
  have h1 := h.1
  have h2 : R ⟨.v (.c (.l .u8 P)), []⟩ := h.2
  clear h
  have hc : clo P (wk R) := by
    refine selT (dT (by omega)) (selT (dT (by omega)) ?_)
    rw [Nat.zero_add]
    exact wk_arr h2
  refine Box.of_eq (clone_tree P (wk R)) ?_
  cases hP : P.isEmpty with
  | false => exact selF rfl hc
  | true =>
    refine selT rfl fun y _ => ?_
    cases y with
    | false => exact selF rfl hc
    | true =>
      have : P = [] := by simpa using hP
      subst this
      exact selT rfl ⟨_, Weak.nil_ints, h2⟩

/-! ### the function that is ranged over -/
noncomputable def c_all : FuncId → Option Con := conOf [(45, tCloneL)]
theorem kc_all : ∀ f T, c_all f = some T → Known Tryz.prog [] f T := (Knowns.cons kCloneL Knowns.nil).get
noncomputable def t_all : Con := fun args regs => nfun Tryz.prog [] c_all [] Tryz.f110 args regs
theorem k_all : Known Tryz.prog [] 110 t_all := known_inl Tryz.func110 rfl (by kernel_rfl) mixed kc_all (by kernel_rfl)

/-! ### events that are alike -/
end Go.Proofs.YtjfgphfdaghilaaGreatDoor.lxv
namespace Go.Proofs.YtjfgphfdaghilaaGreatDoor.lxv
open Go Go.Nx Go.Proofs.YtjfgphfdaghilaaGreatDoor.lex

/-! ### the function that is ranged over: its loops -/
noncomputable abbrev fIt := Tryz.f149
noncomputable def cIt : FuncId → Option Con := conOf [(150, tByteD)]
theorem kcIt : ∀ f T, cIt f = some T → Known Tryz.prog [] f T := (Knowns.cons kByteD Knowns.nil).get
noncomputable def XIt (m : Nat) : Cx := { P := Tryz.prog, con := cIt, glob := [], m := m, loops := [] }
def KI : Nat := 1000
def liveO : List Nat := [0, 2, 8, 9, 10]
def liveN : List Nat := [0, 2, 8, 9, 10, 16, 17, 18]
noncomputable def innerC : Code := bodyLoop fIt 2
noncomputable def outerC : Code := bodyLoop fIt 0
noncomputable def lsN (m : Nat) (Y : Yh) : LI := [(2, liveN, unrollI (XIt m) Y KI [] 2 liveN liveO innerC 4)]
noncomputable def rndO (m : Nat) (Y : Yh) (s : St) : Tr ROI := roundI (XIt m) Y KI (lsN m Y) 0 liveO [] outerC s none
/-- The frame of that function at its loop's head. -/
noncomputable def frIt (box : Nat) (bs : List Int) (i : Int) : List NS := frame 28 [(0, .v (.c (.e KI))), (2, .v (.c (.p box 0 0))), (8, .v (.c (.l .u8 bs))), (9, .v (.c (.i .i64 bs.length))), (10, .v (.c (.i .i64 i)))]

/-- An event as it is laid into a box and read again. -/
def nr (r : List Sc) : List Sc := [.i (r.getD 0 (.i 0)).n, .i (r.getD 1 (.i 0)).n, .i (r.getD 2 (.i 0)).n, .i (r.getD 3 (.i 0)).n, .i (r.getD 4 (.i 0)).n, .i (r.getD 5 (.i 0)).n, .i (r.getD 6 (.i 0)).n]
def tk (E : List (List Sc)) : List (List Sc) := List.take E.length (List.drop 0 E)

/-! ### the law -/
noncomputable def cNone : FuncId → Option Con := fun _ => Option.none
noncomputable def XBody : Cx := { P := Tryz.prog, con := cNone, glob := [], m := 0, loops := [] }
def psOf : Code → Array Tmp
  | .rangeFunc _ ps _ _ => ps
  | _ => #[]
def asOf : Code → Code
  | .rangeFunc _ _ a _ => a
  | _ => .skip
def bdOf : Code → Code
  | .rangeFunc _ _ _ b => b
  | _ => .skip
noncomputable def fr1 (bs : List Int) : List NS := frame 56 [(0, .v (.c (.l .u8 bs))), (3, .v (.c (.p 0 0 0))), (5, .v (.c (.b true))), (6, .v (.c (.p 1 0 0))), (8, .v (.c (.p 2 0 0))), (20, .v (.c (.cl 149 [(3, 0, 0), (4, 0, 0)])))]
def cel (e : TypeId) (st : Nat) (x : List NC) : Option Reg := some ⟨st, e, .cells x⟩
def regs1 (bs : List Int) (n s : Int) (all pnd : NC) : List (Option Reg) := [cel 3 1 [.i .i64 n], some (lx .sn 0), cel 207 1 [all], cel 34 1 [.l .u8 bs], cel 253 1 [.p 5 0 0], some (lx pnd s)]
noncomputable def st1A (bs : List Int) (n s i : Int) : St := { fr := frIt 4 bs i, rg := regs1 bs n s .sn .sn }
noncomputable def st1B (bs : List Int) (n : Int) (P : List Int) (s i : Int) : St := { fr := frIt 4 bs i, rg := regs1 bs n s .sn (.h 6 0 P.length) ++ [some (arr P)] }
noncomputable def st1C (bs : List Int) (n : Int) (E : List (List Sc)) (k : Nat) (s i : Int) : St := { fr := frIt 4 bs i, rg := regs1 bs n s (.h 6 0 k) .sn ++ [some (evR E)] }
noncomputable def st1D (bs : List Int) (n : Int) (E : List (List Sc)) (k : Nat) (P : List Int) (s i : Int) : St := { fr := frIt 4 bs i, rg := regs1 bs n s (.h 6 0 k) (.h 7 0 P.length) ++ [some (evR E), some (arr P)] }
noncomputable def dn1 (bs : List Int) (n s : Int) (all pnd : NC) (l : List (Option Reg)) : ROI := ROI.done NExit.normal { fr := frame 28 [], rg := regs1 bs n s all pnd ++ l } none
end Go.Proofs.YtjfgphfdaghilaaGreatDoor.lxv
namespace Go.Proofs.YtjfgphfdaghilaaGreatDoor.lxv
open Go Go.Nx Go.Proofs.YtjfgphfdaghilaaGreatDoor.lex

noncomputable def w_lABeg (bs : List Int) (n s i : Int) : List RC := [.t (decide (i < (bs.length : Int))), .t (decide (0 ≤ i)), .t (decide (i < (bs.length : Int))), .t (decide (i.toNat < bs.length)), .m ((0 ≤ bs.getD i.toNat 0 ∧ bs.getD i.toNat 0 < 256)), .t (decide (cc (bs.getD i.toNat 0) < 32)), .t (beg (cc (bs.getD i.toNat 0))), .F 1]
noncomputable def w_lAShf (bs : List Int) (n s i : Int) : List RC := [.t (decide (i < (bs.length : Int))), .t (decide (0 ≤ i)), .t (decide (i < (bs.length : Int))), .t (decide (i.toNat < bs.length)), .m ((0 ≤ bs.getD i.toNat 0 ∧ bs.getD i.toNat 0 < 256)), .t (decide (cc (bs.getD i.toNat 0) < 32)), .f (beg (cc (bs.getD i.toNat 0))), .t (shf (cc (bs.getD i.toNat 0))), .F 1]
noncomputable def w_lACtl (bs : List Int) (n s i : Int) : List RC := [.t (decide (i < (bs.length : Int))), .t (decide (0 ≤ i)), .t (decide (i < (bs.length : Int))), .t (decide (i.toNat < bs.length)), .m ((0 ≤ bs.getD i.toNat 0 ∧ bs.getD i.toNat 0 < 256)), .t (decide (cc (bs.getD i.toNat 0) < 32)), .f (beg (cc (bs.getD i.toNat 0))), .f (shf (cc (bs.getD i.toNat 0))), .T 5, .F 1, .T 2, .F 2]
noncomputable def w_lAChr (bs : List Int) (n s i : Int) : List RC := [.t (decide (i < (bs.length : Int))), .t (decide (0 ≤ i)), .t (decide (i < (bs.length : Int))), .t (decide (i.toNat < bs.length)), .m ((0 ≤ bs.getD i.toNat 0 ∧ bs.getD i.toNat 0 < 256)), .f (decide (cc (bs.getD i.toNat 0) < 32)), .T 5, .F 1, .T 2, .F 2]
noncomputable def w_lAEnd (bs : List Int) (n s i : Int) : List RC := [.f (decide (i < (bs.length : Int)))]
noncomputable def w_lBBeg (bs P : List Int) (n s i : Int) : List RC := [.t (decide (i < (bs.length : Int))), .t (decide (0 ≤ i)), .t (decide (i < (bs.length : Int))), .t (decide (i.toNat < bs.length)), .m ((P.length = P.length ∧ (0 ≤ bs.getD i.toNat 0 ∧ bs.getD i.toNat 0 < 256) ∧ okP P)), .t (decide (cc (bs.getD i.toNat 0) < 32)), .t (beg (cc (bs.getD i.toNat 0))), .T 5, .F 1, .T 2, .F 2]
noncomputable def w_lBShf (bs P : List Int) (n s i : Int) : List RC := [.t (decide (i < (bs.length : Int))), .t (decide (0 ≤ i)), .t (decide (i < (bs.length : Int))), .t (decide (i.toNat < bs.length)), .m ((P.length = P.length ∧ (0 ≤ bs.getD i.toNat 0 ∧ bs.getD i.toNat 0 < 256) ∧ okP P)), .t (decide (cc (bs.getD i.toNat 0) < 32)), .f (beg (cc (bs.getD i.toNat 0))), .t (shf (cc (bs.getD i.toNat 0))), .T 5, .F 1, .T 2, .F 2]
noncomputable def w_lBCtl (bs P : List Int) (n s i : Int) : List RC := [.t (decide (i < (bs.length : Int))), .t (decide (0 ≤ i)), .t (decide (i < (bs.length : Int))), .t (decide (i.toNat < bs.length)), .m ((P.length = P.length ∧ (0 ≤ bs.getD i.toNat 0 ∧ bs.getD i.toNat 0 < 256) ∧ okP P)), .t (decide (cc (bs.getD i.toNat 0) < 32)), .f (beg (cc (bs.getD i.toNat 0))), .f (shf (cc (bs.getD i.toNat 0))), .T 5, .F 1, .T 2, .F 1, .T 8, .F 2]
noncomputable def w_lBGo (bs P : List Int) (n s i : Int) : List RC := [.t (decide (i < (bs.length : Int))), .t (decide (0 ≤ i)), .t (decide (i < (bs.length : Int))), .t (decide (i.toNat < bs.length)), .m ((P.length = P.length ∧ (0 ≤ bs.getD i.toNat 0 ∧ bs.getD i.toNat 0 < 256) ∧ okP P)), .f (decide (cc (bs.getD i.toNat 0) < 32)), .t (goOn P (cc (bs.getD i.toNat 0))), .F 1]
noncomputable def w_lBEnds (bs P : List Int) (n s i : Int) : List RC := [.t (decide (i < (bs.length : Int))), .t (decide (0 ≤ i)), .t (decide (i < (bs.length : Int))), .t (decide (i.toNat < bs.length)), .m ((P.length = P.length ∧ (0 ≤ bs.getD i.toNat 0 ∧ bs.getD i.toNat 0 < 256) ∧ okP P)), .f (decide (cc (bs.getD i.toNat 0) < 32)), .f (goOn P (cc (bs.getD i.toNat 0))), .T 5, .F 1, .T 2, .F 2]
noncomputable def w_lBEnd (bs P : List Int) (n s i : Int) : List RC := [.f (decide (i < (bs.length : Int)))]
noncomputable def w_lCBeg (bs : List Int) (E : List (List Sc)) (n s i : Int) : List RC := [.t (decide (i < (bs.length : Int))), .t (decide (0 ≤ i)), .t (decide (i < (bs.length : Int))), .t (decide (i.toNat < bs.length)), .m ((0 ≤ bs.getD i.toNat 0 ∧ bs.getD i.toNat 0 < 256)), .t (decide (cc (bs.getD i.toNat 0) < 32)), .t (beg (cc (bs.getD i.toNat 0))), .F 1]
noncomputable def w_lCShf (bs : List Int) (E : List (List Sc)) (n s i : Int) : List RC := [.t (decide (i < (bs.length : Int))), .t (decide (0 ≤ i)), .t (decide (i < (bs.length : Int))), .t (decide (i.toNat < bs.length)), .m ((0 ≤ bs.getD i.toNat 0 ∧ bs.getD i.toNat 0 < 256)), .t (decide (cc (bs.getD i.toNat 0) < 32)), .f (beg (cc (bs.getD i.toNat 0))), .t (shf (cc (bs.getD i.toNat 0))), .F 1]
noncomputable def w_lCCtl (bs : List Int) (E : List (List Sc)) (n s i : Int) : List RC := [.t (decide (i < (bs.length : Int))), .t (decide (0 ≤ i)), .t (decide (i < (bs.length : Int))), .t (decide (i.toNat < bs.length)), .m ((0 ≤ bs.getD i.toNat 0 ∧ bs.getD i.toNat 0 < 256)), .t (decide (cc (bs.getD i.toNat 0) < 32)), .f (beg (cc (bs.getD i.toNat 0))), .f (shf (cc (bs.getD i.toNat 0))), .T 5, .t (decide (0 + E.length ≤ E.length)), .t (decide ((E.length + 1) * 56 ≤ 140737488355328)), .t (decide (E.length + 1 ≤ 9223372036854775807)), .F 2]
noncomputable def w_lCChr (bs : List Int) (E : List (List Sc)) (n s i : Int) : List RC := [.t (decide (i < (bs.length : Int))), .t (decide (0 ≤ i)), .t (decide (i < (bs.length : Int))), .t (decide (i.toNat < bs.length)), .m ((0 ≤ bs.getD i.toNat 0 ∧ bs.getD i.toNat 0 < 256)), .f (decide (cc (bs.getD i.toNat 0) < 32)), .T 5, .t (decide (0 + E.length ≤ E.length)), .t (decide ((E.length + 1) * 56 ≤ 140737488355328)), .t (decide (E.length + 1 ≤ 9223372036854775807)), .F 2]
noncomputable def w_lCEnd (bs : List Int) (E : List (List Sc)) (n s i : Int) : List RC := [.f (decide (i < (bs.length : Int)))]
noncomputable def w_lDBeg (bs P : List Int) (E : List (List Sc)) (n s i : Int) : List RC := [.t (decide (i < (bs.length : Int))), .t (decide (0 ≤ i)), .t (decide (i < (bs.length : Int))), .t (decide (i.toNat < bs.length)), .m ((P.length = P.length ∧ (0 ≤ bs.getD i.toNat 0 ∧ bs.getD i.toNat 0 < 256) ∧ okP P)), .t (decide (cc (bs.getD i.toNat 0) < 32)), .t (beg (cc (bs.getD i.toNat 0))), .T 5, .t (decide (0 + E.length ≤ E.length)), .t (decide ((E.length + 1) * 56 ≤ 140737488355328)), .t (decide (E.length + 1 ≤ 9223372036854775807)), .F 2]
noncomputable def w_lDShf (bs P : List Int) (E : List (List Sc)) (n s i : Int) : List RC := [.t (decide (i < (bs.length : Int))), .t (decide (0 ≤ i)), .t (decide (i < (bs.length : Int))), .t (decide (i.toNat < bs.length)), .m ((P.length = P.length ∧ (0 ≤ bs.getD i.toNat 0 ∧ bs.getD i.toNat 0 < 256) ∧ okP P)), .t (decide (cc (bs.getD i.toNat 0) < 32)), .f (beg (cc (bs.getD i.toNat 0))), .t (shf (cc (bs.getD i.toNat 0))), .T 5, .t (decide (0 + E.length ≤ E.length)), .t (decide ((E.length + 1) * 56 ≤ 140737488355328)), .t (decide (E.length + 1 ≤ 9223372036854775807)), .F 2]
noncomputable def w_lDGo (bs P : List Int) (E : List (List Sc)) (n s i : Int) : List RC := [.t (decide (i < (bs.length : Int))), .t (decide (0 ≤ i)), .t (decide (i < (bs.length : Int))), .t (decide (i.toNat < bs.length)), .m ((P.length = P.length ∧ (0 ≤ bs.getD i.toNat 0 ∧ bs.getD i.toNat 0 < 256) ∧ okP P)), .f (decide (cc (bs.getD i.toNat 0) < 32)), .t (goOn P (cc (bs.getD i.toNat 0))), .F 1]
noncomputable def w_lDEnds (bs P : List Int) (E : List (List Sc)) (n s i : Int) : List RC := [.t (decide (i < (bs.length : Int))), .t (decide (0 ≤ i)), .t (decide (i < (bs.length : Int))), .t (decide (i.toNat < bs.length)), .m ((P.length = P.length ∧ (0 ≤ bs.getD i.toNat 0 ∧ bs.getD i.toNat 0 < 256) ∧ okP P)), .f (decide (cc (bs.getD i.toNat 0) < 32)), .f (goOn P (cc (bs.getD i.toNat 0))), .T 5, .t (decide (0 + E.length ≤ E.length)), .t (decide ((E.length + 1) * 56 ≤ 140737488355328)), .t (decide (E.length + 1 ≤ 9223372036854775807)), .F 2]
noncomputable def w_lDEnd (bs P : List Int) (E : List (List Sc)) (n s i : Int) : List RC := [.f (decide (i < (bs.length : Int)))]
noncomputable def w_lDCtl (bs P : List Int) (E : List (List Sc)) (n s i : Int) : List RC := [.t (decide (i < (bs.length : Int))), .t (decide (0 ≤ i)), .t (decide (i < (bs.length : Int))), .t (decide (i.toNat < bs.length)), .m ((P.length = P.length ∧ (0 ≤ bs.getD i.toNat 0 ∧ bs.getD i.toNat 0 < 256) ∧ okP P)), .t (decide (cc (bs.getD i.toNat 0) < 32)), .f (beg (cc (bs.getD i.toNat 0))), .f (shf (cc (bs.getD i.toNat 0))), .T 5, .t (decide (0 + E.length ≤ E.length)), .t (decide ((E.length + 1) * 56 ≤ 140737488355328)), .t (decide (E.length + 1 ≤ 9223372036854775807)), .F 1, .T 5, .t (decide (0 + (E.length + 1) ≤ (tk E ++ [nr ignR]).length)), .t (decide ((E.length + 1 + 1) * 56 ≤ 140737488355328)), .t (decide (E.length + 1 + 1 ≤ 9223372036854775807)), .F 2]
end Go.Proofs.YtjfgphfdaghilaaGreatDoor.lxv
namespace Go.Proofs.YtjfgphfdaghilaaGreatDoor.lxv
open Go Go.Nx Go.Proofs.YtjfgphfdaghilaaGreatDoor.lex

/-! ### what is begun stays short -/
theorem getD_app0 {P : List Int} {c : Int} (h : P ≠ []) : (P ++ [c]).getD 0 0 = P.getD 0 0 := by
  cases P with
  | nil => exact (h rfl).elim
  | cons a t => rfl
theorem getD_app1 {P : List Int} {c : Int} (h : 1 < P.length) : (P ++ [c]).getD 1 0 = P.getD 1 0 := by
  match P, h with
  | _ :: _ :: _, _ => rfl
theorem escGo_len {P : List Int} {c : Int} (hl : P.length ≤ 15) (hask : 1 < P.length → 57 ≤ P.getD 1 0 → P.getD 1 0 ≤ 59 → askOk P) (h : escGo P c = true) : P.length < 15 := by
  unfold escGo at h
  by_cases h91 : 1 < P.length ∧ P.getD 1 0 = 91
  · rw [dT h91] at h
    have h : seqGo P c = true := h
    unfold seqGo at h
    have := of_decide_eq_true h
    omega
  · rw [dF h91] at h
    by_cases ha : 1 < P.length ∧ 57 ≤ P.getD 1 0 ∧ P.getD 1 0 ≤ 59
    · obtain ⟨p, r, t, hP⟩ := hask ha.1 ha.2.1 ha.2.2
      rcases hP with rfl | rfl | rfl | rfl | rfl | rfl <;> simp
    · rw [dF ha] at h
      have := of_decide_eq_true h
      omega
theorem go_ok {P : List Int} {c : Int} (hP : okP P) (hl : P.length ≤ 15) (hc : 0 ≤ c ∧ c < 256) (h : goOn P c = true) : okP (P ++ [c]) ∧ (P ++ [c]).length ≤ 15 := by
  obtain ⟨hne, h50, hin, hask⟩ := hP
  have hpos := List.length_pos_iff.2 hne
  have h18 : P.getD 0 0 ≠ 18 := fun e => by unfold goOn at h; rw [if_pos e] at h; cases h
  have hlen : P.length < 15 := by
    unfold goOn at h
    rw [if_neg h18] at h
    by_cases h25 : P.getD 0 0 = 25
    · rw [if_pos h25] at h
      unfold signGo at h
      simp only [Bool.and_eq_true, decide_eq_true_eq] at h
      omega
    rw [if_neg h25] at h
    by_cases h31 : P.getD 0 0 = 31
    · rw [if_pos h31] at h
      unfold placeGo at h
      simp only [decide_eq_true_eq] at h
      omega
    rw [if_neg h31] at h
    exact escGo_len hl (fun a b c => hask a h18 h25 h31 b c) h
  refine ⟨⟨by simp, by simp; omega, ?_, ?_⟩, by simp; omega⟩
  · intro x hx
    rcases List.mem_append.1 hx with hx | hx
    · exact hin x hx
    · rw [List.mem_singleton] at hx; subst hx; exact hc
  · rw [getD_app0 hne]
    intro h1 _ h25 h31 ha hb
    by_cases h1l : 1 < P.length
    · rw [getD_app1 h1l] at ha hb
      have hg : escGo P c = true := by unfold goOn at h; rw [if_neg h18, if_neg h25, if_neg h31] at h; exact h
      unfold escGo at hg
      rw [dF (fun e => by have := e.2; omega), dT ⟨h1l, ha, hb⟩] at hg
      have hg : askGo P = true := hg
      unfold askGo at hg
      have hg := of_decide_eq_true hg
      obtain ⟨p, r, t, hP⟩ := hask h1l h18 h25 h31 ha hb
      rcases hP with rfl | rfl | rfl | rfl | rfl | rfl
      · exact absurd hg (show ¬ ((2 : Nat) : Int) - 1 < 57 - 56 by decide)
      · exact ⟨p, c, 0, .inr (.inr (.inl rfl))⟩
      · exact absurd hg (show ¬ ((3 : Nat) : Int) - 1 < 58 - 56 by decide)
      · exact ⟨p, c, 0, .inr (.inr (.inr (.inr (.inl rfl))))⟩
      · exact ⟨p, r, c, .inr (.inr (.inr (.inr (.inr rfl))))⟩
      · exact absurd hg (show ¬ ((4 : Nat) : Int) - 1 < 59 - 56 by decide)
    · match P, hpos, h1l with
      | [p], _, _ =>
        have ha : 57 ≤ c := ha
        have hb : c ≤ 59 := hb
        have : c = 57 ∨ c = 58 ∨ c = 59 := by omega
        rcases this with rfl | rfl | rfl
        · exact ⟨p, 0, 0, .inl rfl⟩
        · exact ⟨p, 0, 0, .inr (.inl rfl)⟩
        · exact ⟨p, 0, 0, .inr (.inr (.inr (.inl rfl)))⟩
      | _ :: _ :: _, _, h => exact absurd h (by simp)
theorem beg_ok {c : Int} (hc : 0 ≤ c ∧ c < 256) : okP [c] := ⟨by simp, by simp, fun x hx => by rw [List.mem_singleton] at hx; subst hx; exact hc, fun h => by simp at h⟩


/-! ### what a byte does, by its ways -/
def pre (P : List Int) : List (List Sc) := if P = [] then [] else [ignR]
theorem way_beg {P : List Int} {s c : Int} (h : c < 32) (hb : beg c = true) : evts P s c = pre P ∧ pend P c = [c] ∧ shft s c = s := by
  have hs := beg_shf hb
  refine ⟨?_, ?_, ?_⟩
  · unfold evts; rw [if_pos h, hb]; exact List.append_nil _
  · unfold pend; rw [if_pos h, if_pos hb]
  · unfold shft; rw [hs, if_neg (fun h => by cases h.2)]
theorem way_shf {P : List Int} {s c : Int} (h : c < 32) (hb : beg c = false) (hs : shf c = true) : evts P s c = pre P ∧ pend P c = [] ∧ shft s c = shC c := by
  refine ⟨?_, ?_, ?_⟩
  · unfold evts; rw [if_pos h, hs, Bool.or_true]; exact List.append_nil _
  · unfold pend; rw [if_pos h, hb]; rfl
  · unfold shft; rw [if_pos ⟨h, hs⟩]
theorem way_ctl {P : List Int} {s c : Int} (h : c < 32) (hb : beg c = false) (hs : shf c = false) : evts P s c = pre P ++ [ctlR c] ∧ pend P c = [] ∧ shft s c = s := by
  refine ⟨?_, ?_, ?_⟩
  · unfold evts; rw [if_pos h, hb, hs]; rfl
  · unfold pend; rw [if_pos h, hb]; rfl
  · unfold shft; rw [hs, if_neg (fun h => by cases h.2)]
theorem way_chr {s c : Int} (h : ¬ c < 32) : evts [] s c = [ev 1 0 0 0 0 s (w64 c)] ∧ pend [] c = [] ∧ shft s c = s := by
  refine ⟨?_, ?_, ?_⟩
  · unfold evts; rw [if_neg h, if_pos rfl]
  · unfold pend; rw [if_neg h, if_pos rfl]
  · unfold shft; rw [if_neg (fun e => h e.1)]
theorem way_go {P : List Int} {s c : Int} (h : ¬ c < 32) (hP : P ≠ []) (hg : goOn P c = true) : evts P s c = [] ∧ pend P c = P ++ [c] ∧ shft s c = s := by
  refine ⟨?_, ?_, ?_⟩
  · unfold evts; rw [if_neg h, if_neg hP, hg]; rfl
  · unfold pend; rw [if_neg h, if_neg hP, hg]; rfl
  · unfold shft; rw [if_neg (fun e => h e.1)]
theorem way_ends {P : List Int} {s c : Int} (h : ¬ c < 32) (hP : P ≠ []) (hg : goOn P c = false) : evts P s c = [endsR P c] ∧ pend P c = [] ∧ shft s c = s := by
  refine ⟨?_, ?_, ?_⟩
  · unfold evts; rw [if_neg h, if_neg hP, hg]; rfl
  · unfold pend; rw [if_neg h, if_neg hP, hg]; rfl
  · unfold shft; rw [if_neg (fun e => h e.1)]
theorem evts_len (P : List Int) (s c : Int) : (evts P s c).length ≤ 2 := by
  unfold evts
  split
  · rw [List.length_append]
    have h1 : (if P = [] then [] else [ignR]).length ≤ 1 := by split <;> simp
    have h2 : (if beg c || shf c then [] else [ctlR c]).length ≤ 1 := by split <;> simp
    omega
  · split
    · simp
    · split <;> simp

/-! ### all bytes -/
structure LD where
  E : List (List Sc)
  P : List Int
  s : Int
noncomputable def stepL (x : LD) (b : Int) : LD := ⟨x.E ++ (evts x.P x.s (cc b)).map nr, pend x.P (cc b), shft x.s (cc b)⟩
noncomputable def runL (bs : List Int) (x : LD) : LD := bs.foldl stepL x
noncomputable def hSt (bs : List Int) (n : Int) (x : LD) (i : Int) : St := match x.E, x.P with
  | [], [] => st1A bs n x.s i
  | [], _ :: _ => st1B bs n x.P x.s i
  | _ :: _, [] => st1C bs n x.E x.E.length x.s i
  | _ :: _, _ :: _ => st1D bs n x.E x.E.length x.P x.s i
noncomputable def hDn (bs : List Int) (n : Int) (x : LD) : ROI := match x.E, x.P with
  | [], [] => dn1 bs n x.s .sn .sn []
  | [], _ :: _ => dn1 bs n x.s .sn (.h 6 0 x.P.length) [some (arr x.P)]
  | _ :: _, [] => dn1 bs n x.s (.h 6 0 x.E.length) .sn [some (evR x.E)]
  | _ :: _, _ :: _ => dn1 bs n x.s (.h 6 0 x.E.length) (.h 7 0 x.P.length) [some (evR x.E), some (arr x.P)]
structure AL where
  bs : List Int
  n : Int
  x : LD
  i : Int
def okD (x : LD) : Prop := x.P.length ≤ 15 ∧ (x.P = [] ∨ okP x.P)
def inL (a : AL) : Prop := 0 ≤ a.i ∧ a.i ≤ (a.bs.length : Int) ∧ a.bs.length ≤ 60 ∧ InBytes a.bs ∧ okD a.x ∧ (a.x.E.length : Int) ≤ 2 * a.i
def stOf : ROI → NExit × St × Option NExit
  | .next s p => (.normal, s, p)
  | .done e s p => (e, s, p)
def preL (a : AL) (R : NExit × St × Option NExit → Prop) : Prop := inL a ∧ R (stOf (hDn a.bs a.n (runL (a.bs.drop a.i.toNat) a.x)))
noncomputable def hL (a : AL) : St × Option NExit := (hSt a.bs a.n a.x a.i, none)
def nxL (a : AL) (R : NExit × St × Option NExit → Prop) (o : ROI) : Prop := match o with
  | .next s p => ∃ y, y.bs = a.bs ∧ (s, p) = hL y ∧ ((y.bs.length : Int) - y.i).toNat < ((a.bs.length : Int) - a.i).toNat ∧ preL y R
  | .done e s p => R (e, s, p)
theorem step_ok {x : LD} {b : Int} (hx : okD x) (hb : 0 ≤ b ∧ b < 256) : okD (stepL x b) := by
  obtain ⟨h15, hP⟩ := hx
  have hc := cc_of hb
  unfold okD stepL
  simp only
  by_cases h32 : cc b < 32
  · cases eb : beg (cc b) with
    | true => rw [(way_beg (P := x.P) (s := x.s) h32 eb).2.1]; exact ⟨by simp, .inr (beg_ok ⟨hc.1, by omega⟩)⟩
    | false =>
      cases es : shf (cc b) with
      | true => rw [(way_shf (P := x.P) (s := x.s) h32 eb es).2.1]; exact ⟨by simp, .inl rfl⟩
      | false => rw [(way_ctl (P := x.P) (s := x.s) h32 eb es).2.1]; exact ⟨by simp, .inl rfl⟩
  · rcases hP with hP | hP
    · rw [hP, (way_chr (s := x.s) h32).2.1]; exact ⟨by simp, .inl rfl⟩
    · cases eg : goOn x.P (cc b) with
      | true =>
        rw [(way_go (s := x.s) h32 hP.1 eg).2.1]
        obtain ⟨h1, h2⟩ := go_ok hP h15 (c := cc b) ⟨hc.1, by omega⟩ eg
        exact ⟨h2, .inr h1⟩
      | false => rw [(way_ends (s := x.s) h32 hP.1 eg).2.1]; exact ⟨by simp, .inl rfl⟩
theorem drop_get {bs : List Int} {i : Int} (h0 : 0 ≤ i) (h : i < (bs.length : Int)) : bs.drop i.toNat = bs.getD i.toNat 0 :: bs.drop (i + 1).toNat := by
  have hj : i.toNat < bs.length := by omega
  rw [show (i + 1).toNat = i.toNat + 1 by omega, List.getD_eq_getElem?_getD, List.getElem?_eq_getElem hj]
  exact List.drop_eq_getElem_cons hj
theorem nxL_in {a : AL} {R : NExit × St × Option NExit → Prop} {st : St} (h : preL a R) (hlt : a.i < (a.bs.length : Int)) (hst : st = hSt a.bs a.n (stepL a.x (a.bs.getD a.i.toNat 0)) (w64 (a.i + 1))) : nxL a R (ROI.next st none) := by
  obtain ⟨⟨h0, hle, h60, hb, hx, hE⟩, hR⟩ := h
  have hj : a.i.toNat < a.bs.length := by omega
  have hX : 0 ≤ a.bs.getD a.i.toNat 0 ∧ a.bs.getD a.i.toNat 0 < 256 := by
    rw [List.getD_eq_getElem?_getD, List.getElem?_eq_getElem hj]
    exact hb _ (List.getElem_mem hj)
  have hw : w64 (a.i + 1) = a.i + 1 := by unfold w64; rw [IntKind.wrap_i64]; omega
  refine ⟨⟨a.bs, a.n, stepL a.x (a.bs.getD a.i.toNat 0), a.i + 1⟩, rfl, ?_, ?_, ⟨?_, ?_, h60, hb, step_ok hx hX, ?_⟩, ?_⟩
  · rw [hst, hw]; rfl
  · simp only; omega
  · simp only; omega
  · simp only; omega
  · simp only [stepL]
    have := evts_len a.x.P a.x.s (cc (a.bs.getD a.i.toNat 0))
    rw [List.length_append, List.length_map]
    omega
  · rw [drop_get h0 hlt] at hR
    exact hR
theorem hSt_A {bs : List Int} {n s i : Int} : hSt bs n ⟨[], [], s⟩ i = st1A bs n s i := rfl
theorem hSt_B {bs : List Int} {n s i : Int} {P : List Int} (h : P ≠ []) : hSt bs n ⟨[], P, s⟩ i = st1B bs n P s i := by
  cases P with
  | nil => exact (h rfl).elim
  | cons p P => rfl
theorem hSt_C {bs : List Int} {n s i : Int} {E : List (List Sc)} (h : E ≠ []) : hSt bs n ⟨E, [], s⟩ i = st1C bs n E E.length s i := by
  cases E with
  | nil => exact (h rfl).elim
  | cons p P => rfl
theorem hSt_D {bs : List Int} {n s i : Int} {E : List (List Sc)} {P : List Int} (h : E ≠ []) (h' : P ≠ []) : hSt bs n ⟨E, P, s⟩ i = st1D bs n E E.length P s i := by
  cases E with
  | nil => exact (h rfl).elim
  | cons p E => cases P with
    | nil => exact (h' rfl).elim
    | cons p P => rfl
theorem hDn_B {bs : List Int} {n s : Int} {P : List Int} (h : P ≠ []) : hDn bs n ⟨[], P, s⟩ = dn1 bs n s .sn (.h 6 0 P.length) [some (arr P)] := by
  cases P with
  | nil => exact (h rfl).elim
  | cons p P => rfl
theorem hDn_C {bs : List Int} {n s : Int} {E : List (List Sc)} (h : E ≠ []) : hDn bs n ⟨E, [], s⟩ = dn1 bs n s (.h 6 0 E.length) .sn [some (evR E)] := by
  cases E with
  | nil => exact (h rfl).elim
  | cons p P => rfl
theorem hDn_D {bs : List Int} {n s : Int} {E : List (List Sc)} {P : List Int} (h : E ≠ []) (h' : P ≠ []) : hDn bs n ⟨E, P, s⟩ = dn1 bs n s (.h 6 0 E.length) (.h 7 0 P.length) [some (evR E), some (arr P)] := by
  cases E with
  | nil => exact (h rfl).elim
  | cons p E => cases P with
    | nil => exact (h' rfl).elim
    | cons p P => rfl
theorem tk_eq (E : List (List Sc)) : tk E = E := by unfold tk; rw [List.drop_zero, List.take_length]
end Go.Proofs.YtjfgphfdaghilaaGreatDoor.lxv
namespace Go.Proofs.YtjfgphfdaghilaaGreatDoor.lxv
open Go Go.Nx Go.Proofs.YtjfgphfdaghilaaGreatDoor.lex

/-! ### a control, on a row of no bytes -/
def ctlZ (s c : Int) (R : Out → Prop) : Prop :=
  sel (beg c) (R ⟨.v (.c .sn), [some (lx (.h 2 0 1) s), some (arr []), some (arr [c])]⟩) (sel (shf c) (R ⟨.v (.c .sn), [some (lx (.h 1 0 0) (shC c)), some (arr [])]⟩) (R ⟨.v (.c (.h 2 0 1)), [some (lx (.h 1 0 0) s), some (arr []), some ⟨7, 70, .recs K7 [ctlR c]⟩]⟩))
theorem ctlZ_0 (s : Int) (R : Out → Prop) : (t_control [.c (.p 0 0 0), .c (.i .u8 0)] [lx (.h 1 0 0) s, arr []]).run R = ctlZ s 0 R := by kernel_rfl
theorem ctlZ_1 (s : Int) (R : Out → Prop) : (t_control [.c (.p 0 0 0), .c (.i .u8 1)] [lx (.h 1 0 0) s, arr []]).run R = ctlZ s 1 R := by kernel_rfl
theorem ctlZ_2 (s : Int) (R : Out → Prop) : (t_control [.c (.p 0 0 0), .c (.i .u8 2)] [lx (.h 1 0 0) s, arr []]).run R = ctlZ s 2 R := by kernel_rfl
theorem ctlZ_3 (s : Int) (R : Out → Prop) : (t_control [.c (.p 0 0 0), .c (.i .u8 3)] [lx (.h 1 0 0) s, arr []]).run R = ctlZ s 3 R := by kernel_rfl
theorem ctlZ_4 (s : Int) (R : Out → Prop) : (t_control [.c (.p 0 0 0), .c (.i .u8 4)] [lx (.h 1 0 0) s, arr []]).run R = ctlZ s 4 R := by kernel_rfl
theorem ctlZ_5 (s : Int) (R : Out → Prop) : (t_control [.c (.p 0 0 0), .c (.i .u8 5)] [lx (.h 1 0 0) s, arr []]).run R = ctlZ s 5 R := by kernel_rfl
theorem ctlZ_6 (s : Int) (R : Out → Prop) : (t_control [.c (.p 0 0 0), .c (.i .u8 6)] [lx (.h 1 0 0) s, arr []]).run R = ctlZ s 6 R := by kernel_rfl
theorem ctlZ_7 (s : Int) (R : Out → Prop) : (t_control [.c (.p 0 0 0), .c (.i .u8 7)] [lx (.h 1 0 0) s, arr []]).run R = ctlZ s 7 R := by kernel_rfl
theorem ctlZ_8 (s : Int) (R : Out → Prop) : (t_control [.c (.p 0 0 0), .c (.i .u8 8)] [lx (.h 1 0 0) s, arr []]).run R = ctlZ s 8 R := by kernel_rfl
theorem ctlZ_9 (s : Int) (R : Out → Prop) : (t_control [.c (.p 0 0 0), .c (.i .u8 9)] [lx (.h 1 0 0) s, arr []]).run R = ctlZ s 9 R := by kernel_rfl
theorem ctlZ_10 (s : Int) (R : Out → Prop) : (t_control [.c (.p 0 0 0), .c (.i .u8 10)] [lx (.h 1 0 0) s, arr []]).run R = ctlZ s 10 R := by kernel_rfl
theorem ctlZ_11 (s : Int) (R : Out → Prop) : (t_control [.c (.p 0 0 0), .c (.i .u8 11)] [lx (.h 1 0 0) s, arr []]).run R = ctlZ s 11 R := by kernel_rfl
theorem ctlZ_12 (s : Int) (R : Out → Prop) : (t_control [.c (.p 0 0 0), .c (.i .u8 12)] [lx (.h 1 0 0) s, arr []]).run R = ctlZ s 12 R := by kernel_rfl
theorem ctlZ_13 (s : Int) (R : Out → Prop) : (t_control [.c (.p 0 0 0), .c (.i .u8 13)] [lx (.h 1 0 0) s, arr []]).run R = ctlZ s 13 R := by kernel_rfl
theorem ctlZ_14 (s : Int) (R : Out → Prop) : (t_control [.c (.p 0 0 0), .c (.i .u8 14)] [lx (.h 1 0 0) s, arr []]).run R = ctlZ s 14 R := by kernel_rfl
theorem ctlZ_15 (s : Int) (R : Out → Prop) : (t_control [.c (.p 0 0 0), .c (.i .u8 15)] [lx (.h 1 0 0) s, arr []]).run R = ctlZ s 15 R := by kernel_rfl
theorem ctlZ_16 (s : Int) (R : Out → Prop) : (t_control [.c (.p 0 0 0), .c (.i .u8 16)] [lx (.h 1 0 0) s, arr []]).run R = ctlZ s 16 R := by kernel_rfl
theorem ctlZ_17 (s : Int) (R : Out → Prop) : (t_control [.c (.p 0 0 0), .c (.i .u8 17)] [lx (.h 1 0 0) s, arr []]).run R = ctlZ s 17 R := by kernel_rfl
theorem ctlZ_18 (s : Int) (R : Out → Prop) : (t_control [.c (.p 0 0 0), .c (.i .u8 18)] [lx (.h 1 0 0) s, arr []]).run R = ctlZ s 18 R := by kernel_rfl
theorem ctlZ_19 (s : Int) (R : Out → Prop) : (t_control [.c (.p 0 0 0), .c (.i .u8 19)] [lx (.h 1 0 0) s, arr []]).run R = ctlZ s 19 R := by kernel_rfl
theorem ctlZ_20 (s : Int) (R : Out → Prop) : (t_control [.c (.p 0 0 0), .c (.i .u8 20)] [lx (.h 1 0 0) s, arr []]).run R = ctlZ s 20 R := by kernel_rfl
theorem ctlZ_21 (s : Int) (R : Out → Prop) : (t_control [.c (.p 0 0 0), .c (.i .u8 21)] [lx (.h 1 0 0) s, arr []]).run R = ctlZ s 21 R := by kernel_rfl
theorem ctlZ_22 (s : Int) (R : Out → Prop) : (t_control [.c (.p 0 0 0), .c (.i .u8 22)] [lx (.h 1 0 0) s, arr []]).run R = ctlZ s 22 R := by kernel_rfl
theorem ctlZ_23 (s : Int) (R : Out → Prop) : (t_control [.c (.p 0 0 0), .c (.i .u8 23)] [lx (.h 1 0 0) s, arr []]).run R = ctlZ s 23 R := by kernel_rfl
theorem ctlZ_24 (s : Int) (R : Out → Prop) : (t_control [.c (.p 0 0 0), .c (.i .u8 24)] [lx (.h 1 0 0) s, arr []]).run R = ctlZ s 24 R := by kernel_rfl
theorem ctlZ_25 (s : Int) (R : Out → Prop) : (t_control [.c (.p 0 0 0), .c (.i .u8 25)] [lx (.h 1 0 0) s, arr []]).run R = ctlZ s 25 R := by kernel_rfl
theorem ctlZ_26 (s : Int) (R : Out → Prop) : (t_control [.c (.p 0 0 0), .c (.i .u8 26)] [lx (.h 1 0 0) s, arr []]).run R = ctlZ s 26 R := by kernel_rfl
theorem ctlZ_27 (s : Int) (R : Out → Prop) : (t_control [.c (.p 0 0 0), .c (.i .u8 27)] [lx (.h 1 0 0) s, arr []]).run R = ctlZ s 27 R := by kernel_rfl
theorem ctlZ_28 (s : Int) (R : Out → Prop) : (t_control [.c (.p 0 0 0), .c (.i .u8 28)] [lx (.h 1 0 0) s, arr []]).run R = ctlZ s 28 R := by kernel_rfl
theorem ctlZ_29 (s : Int) (R : Out → Prop) : (t_control [.c (.p 0 0 0), .c (.i .u8 29)] [lx (.h 1 0 0) s, arr []]).run R = ctlZ s 29 R := by kernel_rfl
theorem ctlZ_30 (s : Int) (R : Out → Prop) : (t_control [.c (.p 0 0 0), .c (.i .u8 30)] [lx (.h 1 0 0) s, arr []]).run R = ctlZ s 30 R := by kernel_rfl
theorem ctlZ_31 (s : Int) (R : Out → Prop) : (t_control [.c (.p 0 0 0), .c (.i .u8 31)] [lx (.h 1 0 0) s, arr []]).run R = ctlZ s 31 R := by kernel_rfl
set_option maxRecDepth 100000 in
theorem ctlZ_all (s c : Int) (hc : 0 ≤ c ∧ c < 32) (R : Out → Prop) (h : ctlZ s c R) : Box ((t_control [.c (.p 0 0 0), .c (.i .u8 c)] [lx (.h 1 0 0) s, arr []]).run R) := by
  have : c = 0 ∨ c = 1 ∨ c = 2 ∨ c = 3 ∨ c = 4 ∨ c = 5 ∨ c = 6 ∨ c = 7 ∨ c = 8 ∨ c = 9 ∨ c = 10 ∨ c = 11 ∨ c = 12 ∨ c = 13 ∨ c = 14 ∨ c = 15 ∨ c = 16 ∨ c = 17 ∨ c = 18 ∨ c = 19 ∨ c = 20 ∨ c = 21 ∨ c = 22 ∨ c = 23 ∨ c = 24 ∨ c = 25 ∨ c = 26 ∨ c = 27 ∨ c = 28 ∨ c = 29 ∨ c = 30 ∨ c = 31 := by omega
  rcases this with rfl | rfl | rfl | rfl | rfl | rfl | rfl | rfl | rfl | rfl | rfl | rfl | rfl | rfl | rfl | rfl | rfl | rfl | rfl | rfl | rfl | rfl | rfl | rfl | rfl | rfl | rfl | rfl | rfl | rfl | rfl | rfl
  · exact Box.of_eq (ctlZ_0 s R) h
  · exact Box.of_eq (ctlZ_1 s R) h
  · exact Box.of_eq (ctlZ_2 s R) h
  · exact Box.of_eq (ctlZ_3 s R) h
  · exact Box.of_eq (ctlZ_4 s R) h
  · exact Box.of_eq (ctlZ_5 s R) h
  · exact Box.of_eq (ctlZ_6 s R) h
  · exact Box.of_eq (ctlZ_7 s R) h
  · exact Box.of_eq (ctlZ_8 s R) h
  · exact Box.of_eq (ctlZ_9 s R) h
  · exact Box.of_eq (ctlZ_10 s R) h
  · exact Box.of_eq (ctlZ_11 s R) h
  · exact Box.of_eq (ctlZ_12 s R) h
  · exact Box.of_eq (ctlZ_13 s R) h
  · exact Box.of_eq (ctlZ_14 s R) h
  · exact Box.of_eq (ctlZ_15 s R) h
  · exact Box.of_eq (ctlZ_16 s R) h
  · exact Box.of_eq (ctlZ_17 s R) h
  · exact Box.of_eq (ctlZ_18 s R) h
  · exact Box.of_eq (ctlZ_19 s R) h
  · exact Box.of_eq (ctlZ_20 s R) h
  · exact Box.of_eq (ctlZ_21 s R) h
  · exact Box.of_eq (ctlZ_22 s R) h
  · exact Box.of_eq (ctlZ_23 s R) h
  · exact Box.of_eq (ctlZ_24 s R) h
  · exact Box.of_eq (ctlZ_25 s R) h
  · exact Box.of_eq (ctlZ_26 s R) h
  · exact Box.of_eq (ctlZ_27 s R) h
  · exact Box.of_eq (ctlZ_28 s R) h
  · exact Box.of_eq (ctlZ_29 s R) h
  · exact Box.of_eq (ctlZ_30 s R) h
  · exact Box.of_eq (ctlZ_31 s R) h
noncomputable def tCtlZ : Con := fun args regs => match args, regs with
  | [.c (.p 0 0 0), .c (.i .u8 c)], [⟨2, 103, .cells [.h 1 0 0, .i .i64 s]⟩, ⟨1, 5, .ints .u8 []⟩] => .must (0 ≤ c ∧ c < 32) (.br (beg c) (.ret ⟨.v (.c .sn), [some (lx (.h 2 0 1) s), some (arr []), some (arr [c])]⟩) (.br (shf c) (.ret ⟨.v (.c .sn), [some (lx (.h 1 0 0) (shC c)), some (arr [])]⟩) (.ret ⟨rows [ctlR c], [some (lx (.h 1 0 0) s), some (arr [])]⟩)))
  | args, regs => tCtlS args regs
set_option maxRecDepth 100000 in
theorem kCtlZ : Known Tryz.prog [] 218 tCtlZ := by
  refine ⟨kCtlS.goes, fun args regs R h => ?_⟩
  unfold tCtlZ at h
  split at h
  case h_2 => exact kCtlS.sound args regs R h
  rename_i c s
  have k : Known Tryz.prog [] 218 (fun args regs => Tr.must (args = [.c (.p 0 0 0), .c (.i .u8 c)] ∧ regs = [lx (.h 1 0 0) s, arr []] ∧ 0 ≤ c ∧ c < 32) (.br (beg c) (.ret ⟨.v (.c .sn), [some (lx (.h 2 0 1) s), some (arr []), some (arr [c])]⟩) (.br (shf c) (.ret ⟨.v (.c .sn), [some (lx (.h 1 0 0) (shC c)), some (arr [])]⟩) (.ret ⟨rows [ctlR c], [some (lx (.h 1 0 0) s), some (arr [])]⟩)))) := by
    refine k_control.weak fun args regs R h => Box.out ?_
    obtain ⟨ha, hr, h1⟩ := h.1
    have h2 : sel (beg c) (R ⟨.v (.c .sn), [some (lx (.h 2 0 1) s), some (arr []), some (arr [c])]⟩) (sel (shf c) (R ⟨.v (.c .sn), [some (lx (.h 1 0 0) (shC c)), some (arr [])]⟩) (R ⟨rows [ctlR c], [some (lx (.h 1 0 0) s), some (arr [])]⟩)) := h.2
    clear h
    subst ha hr
    show Box ((t_control [.c (.p 0 0 0), .c (.i .u8 c)] [lx (.h 1 0 0) s, arr []]).run (wk R))
    refine ctlZ_all s c h1 _ ?_
    unfold ctlZ
    rcases sel_iff.1 h2 with ⟨hb, h2⟩ | ⟨hb, h2⟩
    · exact selT hb (wk_refl h2)
    · refine selF hb ?_
      rcases sel_iff.1 h2 with ⟨hs, h2⟩ | ⟨hs, h2⟩
      · exact selT hs (wk_refl h2)
      · refine selF hs ⟨_, (Weak.rows (k := 2) (xs := [ctlR c]) rfl).trans (Weak.drop (rg' := [some (lx (.h 1 0 0) s), some (arr [])]) fun n g hg => ?_), h2⟩
        match n, hg with
        | 0, hg => exact hg
        | 1, hg => exact hg
        | n + 2, hg => simp at hg
  refine k.sound _ _ R ⟨⟨rfl, rfl, h.1⟩, h.2⟩

/-! ### a byte -/
noncomputable def c_byteZ : FuncId → Option Con := conOf [(55, tEvenV), (216, tEndsW), (217, t_ignored), (220, t_one), (221, tSignS), (222, tPlaceS), (223, tEscS), (218, tCtlZ), (219, t_char)]
theorem kc_byteZ : ∀ f T, c_byteZ f = some T → Known Tryz.prog [] f T := (Knowns.cons kEvenV (Knowns.cons kEndsW (Knowns.cons k_ignored (Knowns.cons k_one (Knowns.cons kSignS (Knowns.cons kPlaceS (Knowns.cons kEscS (Knowns.cons kCtlZ (Knowns.cons k_char Knowns.nil))))))))).get
noncomputable def t_byteZ : Con := fun args regs => nfun Tryz.prog [] c_byteZ [] Tryz.f150 args regs
theorem k_byteZ : KnownF Tryz.prog [] 150 t_byteZ := known_inlF Tryz.func150 rfl (by kernel_rfl) mixed kc_byteZ (by kernel_rfl)
def ctlN (s c : Int) (R : Out → Prop) : Prop := in5 c ∧
  sel (beg c) (R ⟨.v (.c .sn), [some (lx (.h 2 0 1) s), some (arr []), some (arr [c])]⟩) (sel (shf c) (R ⟨.v (.c .sn), [some (lx .sn (shC c)), some (arr [])]⟩) (R ⟨.v (.c (.h 2 0 1)), [some (lx .sn s), some (arr []), some (evR [ctlR c])]⟩))
theorem byteN_tree (s b : Int) (R : Out → Prop) : (t_byteZ [.c (.p 0 0 0), .c (.i .u8 b)] [lx .sn s, arr []]).run R =
    ((0 ≤ b ∧ b < 256) ∧ sel (!isEv b) (ctlN s 26 R) (sel (decide (cB b < 32)) (ctlN s (cB b) R) (R ⟨.v (.c (.h 2 0 1)), [some (lx .sn s), some (arr []), some (evR [ev 1 0 0 0 0 s (w64 (cB b))])]⟩))) := by kernel_rfl
def ctlY (s c : Int) (R : Out → Prop) : Prop := in5 c ∧
  sel (beg c) (R ⟨.v (.c .sn), [some (lx (.h 2 0 1) s), some (arr []), some (arr [c])]⟩) (sel (shf c) (R ⟨.v (.c .sn), [some (lx (.h 1 0 0) (shC c)), some (arr [])]⟩) (R ⟨.v (.c (.h 2 0 1)), [some (lx (.h 1 0 0) s), some (arr []), some (evR [ctlR c])]⟩))
theorem byteY_tree (s b : Int) (R : Out → Prop) : (t_byteZ [.c (.p 0 0 0), .c (.i .u8 b)] [lx (.h 1 0 0) s, arr []]).run R =
    ((0 ≤ b ∧ b < 256) ∧ sel (!isEv b) (ctlY s 26 R) (sel (decide (cB b < 32)) (ctlY s (cB b) R) (R ⟨.v (.c (.h 2 0 1)), [some (lx (.h 1 0 0) s), some (arr []), some (evR [ev 1 0 0 0 0 s (w64 (cB b))])]⟩))) := by kernel_rfl
theorem k_byteSF : KnownF Tryz.prog [] 150 t_byteS := known_inlF Tryz.func150 rfl (by kernel_rfl) mixed kc_byteS (by kernel_rfl)
/-! ### one shape -/
def wf (R : Out → Prop) (o : Out) : Prop := ∃ o', WeakF o o' ∧ R o'
def hzR (P : List Int) (s : Int) : List (Option Reg) := [some (lx (.hz 5 P.length) s), none, none, none, none, some (arr P)]
theorem ltF {rg rg' : List (Option Reg)} (hl : rg.length ≤ 5) (h5 : rg'.length = 5) (hs : ∀ n, n < 5 → ∀ g, rg'[n]? = some (some g) → rg[n]? = some (some g)) (x : NS) : WeakF ⟨x, rg⟩ ⟨x, rg'⟩ :=
  WeakF.drop (by omega) fun n g hg => by
    by_cases h : n < 5
    · exact hs n h g hg
    · rw [List.getElem?_eq_none (by omega)] at hg; cases hg
/-- Nothing is begun. -/
theorem wfA {R : Out → Prop} {x : NS} {s : Int} {rg : List (Option Reg)} (hl : rg.length ≤ 5) (h0 : rg[0]? = some (some (lx .sn s))) (h : R ⟨x, hzR [] s⟩) : wf R ⟨x, rg⟩ := by
  refine ⟨_, (ltF (rg' := [some (lx .sn s), none, none, none, none]) hl rfl ?_ x).trans (WeakF.nil (r := 0) (j := 0) (xs := [.sn, .i .i64 s]) (g := arr []) (.inl ⟨_, rfl⟩) rfl rfl), h⟩
  intro n hn g hg
  match n, hg with
  | 0, hg => cases hg; exact h0
  | 1, hg => cases hg
  | 2, hg => cases hg
  | 3, hg => cases hg
  | 4, hg => cases hg
  | n + 5, _ => omega
theorem wfB1 {R : Out → Prop} {x : NS} {s : Int} {P : List Int} {rg : List (Option Reg)} (hl : rg.length ≤ 5) (h0 : rg[0]? = some (some (lx (.h 1 0 P.length) s))) (h1 : rg[1]? = some (some (arr P))) (h : R ⟨x, hzR P s⟩) : wf R ⟨x, rg⟩ := by
  refine ⟨_, (ltF (rg' := [some (lx (.h 1 0 P.length) s), some (arr P), none, none, none]) hl rfl ?_ x).trans (WeakF.hz (r := 0) (k := 1) (j := 0) (n := P.length) (xs := [.h 1 0 P.length, .i .i64 s]) (g := arr P) (by decide) rfl rfl rfl), h⟩
  intro n hn g hg
  match n, hg with
  | 0, hg => cases hg; exact h0
  | 1, hg => cases hg; exact h1
  | 2, hg => cases hg
  | 3, hg => cases hg
  | 4, hg => cases hg
  | n + 5, _ => omega
theorem wfB2 {R : Out → Prop} {x : NS} {s : Int} {P : List Int} {rg : List (Option Reg)} (hl : rg.length ≤ 5) (h0 : rg[0]? = some (some (lx (.h 2 0 P.length) s))) (h1 : rg[2]? = some (some (arr P))) (h : R ⟨x, hzR P s⟩) : wf R ⟨x, rg⟩ := by
  refine ⟨_, (ltF (rg' := [some (lx (.h 2 0 P.length) s), none, some (arr P), none, none]) hl rfl ?_ x).trans (WeakF.hz (r := 0) (k := 2) (j := 0) (n := P.length) (xs := [.h 2 0 P.length, .i .i64 s]) (g := arr P) (by decide) rfl rfl rfl), h⟩
  intro n hn g hg
  match n, hg with
  | 0, hg => cases hg; exact h0
  | 1, hg => cases hg
  | 2, hg => cases hg; exact h1
  | 3, hg => cases hg
  | 4, hg => cases hg
  | n + 5, _ => omega
/-- Events are rows. -/
theorem wfR {R : Out → Prop} {k : Nat} {l : List (List Sc)} {rg : List (Option Reg)} (hk : rg[k]? = some (some (evR l))) (h : wf R ⟨rows l, putAt rg k none⟩) : wf R ⟨.v (.c (.h k 0 l.length)), rg⟩ := by
  obtain ⟨o, h1, h2⟩ := h
  exact ⟨o, (WeakF.rows (xs := l) hk).trans h1, h2⟩
theorem wfN {R : Out → Prop} {rg : List (Option Reg)} (h : wf R ⟨rows [], rg⟩) : wf R ⟨.v (.c .sn), rg⟩ := by
  obtain ⟨o, h1, h2⟩ := h
  exact ⟨o, (WeakF.nil_rows (by decide)).trans h1, h2⟩
noncomputable def outH (P : List Int) (s c : Int) : Out := ⟨rows (evts P s c), hzR (pend P c) (shft s c)⟩
theorem beg_shfH {c : Int} (hb : beg c = true) : shf c = false := by
  unfold beg at hb; unfold shf
  simp only [Bool.or_eq_true, beq_iff_eq] at hb
  rcases hb with ((rfl | rfl) | rfl) | rfl <;> rfl
theorem ctl_facts (P : List Int) (s c : Int) (h32 : c < 32) :
    (beg c = true → outH P s c = ⟨rows (if P = [] then [] else [ignR]), hzR [c] s⟩) ∧
    (beg c = false → shf c = true → outH P s c = ⟨rows (if P = [] then [] else [ignR]), hzR [] (shC c)⟩) ∧
    (beg c = false → shf c = false → outH P s c = ⟨rows ((if P = [] then [] else [ignR]) ++ [ctlR c]), hzR [] s⟩) := by
  refine ⟨fun hb => ?_, fun hb hs => ?_, fun hb hs => ?_⟩
  · have e : pend P c = [c] := by unfold pend; rw [if_pos h32, if_pos hb]
    have ev : evts P s c = (if P = [] then [] else [ignR]) := by unfold evts; rw [if_pos h32, hb]; exact List.append_nil _
    have es : shft s c = s := by unfold shft; rw [beg_shfH hb, if_neg (fun h => by cases h.2)]
    unfold outH; rw [e, ev, es]
  · have e : pend P c = [] := by unfold pend; rw [if_pos h32, hb]; rfl
    have ev : evts P s c = (if P = [] then [] else [ignR]) := by unfold evts; rw [if_pos h32, hs, Bool.or_true]; exact List.append_nil _
    have es : shft s c = shC c := by unfold shft; rw [if_pos ⟨h32, hs⟩]
    unfold outH; rw [e, ev, es]
  · have e : pend P c = [] := by unfold pend; rw [if_pos h32, hb]; rfl
    have ev : evts P s c = (if P = [] then [] else [ignR]) ++ [ctlR c] := by unfold evts; rw [if_pos h32, hb, hs]; rfl
    have es : shft s c = s := by unfold shft; rw [hs, if_neg (fun h => by cases h.2)]
    unfold outH; rw [e, ev, es]
theorem ctlN_in {s c : Int} {R : Out → Prop} (hc : in5 c) (h : R (outH [] s c)) : ctlN s c (wf R) := by
  refine ⟨hc, ?_⟩
  obtain ⟨f1, f2, f3⟩ := ctl_facts [] s c hc.2
  by_cases hb : beg c = true
  · rw [f1 hb, if_pos rfl] at h
    exact selT hb (wfN (wfB2 (P := [c]) (Nat.le_of_ble_eq_true rfl) rfl rfl h))
  have hb : beg c = false := by simpa using hb
  refine selF hb ?_
  by_cases hs : shf c = true
  · rw [f2 hb hs, if_pos rfl] at h
    exact selT hs (wfN (wfA (Nat.le_of_ble_eq_true rfl) rfl h))
  have hs : shf c = false := by simpa using hs
  rw [f3 hb hs, if_pos rfl] at h
  exact selF hs (wfR (k := 2) (l := [ctlR c]) rfl (wfA (Nat.le_of_ble_eq_true rfl) rfl h))
theorem ctlY_in {s c : Int} {R : Out → Prop} (hc : in5 c) (h : R (outH [] s c)) : ctlY s c (wf R) := by
  refine ⟨hc, ?_⟩
  obtain ⟨f1, f2, f3⟩ := ctl_facts [] s c hc.2
  by_cases hb : beg c = true
  · rw [f1 hb, if_pos rfl] at h
    exact selT hb (wfN (wfB2 (P := [c]) (Nat.le_of_ble_eq_true rfl) rfl rfl h))
  have hb : beg c = false := by simpa using hb
  refine selF hb ?_
  by_cases hs : shf c = true
  · rw [f2 hb hs, if_pos rfl] at h
    exact selT hs (wfN (wfB1 (P := []) (Nat.le_of_ble_eq_true rfl) rfl rfl h))
  have hs : shf c = false := by simpa using hs
  rw [f3 hb hs, if_pos rfl] at h
  exact selF hs (wfR (k := 2) (l := [ctlR c]) rfl (wfB1 (P := []) (Nat.le_of_ble_eq_true rfl) rfl rfl h))
theorem ctl1_in {s c : Int} {P : List Int} {R : Out → Prop} (hP : P ≠ []) (hc : in5 c) (h : R (outH P s c)) : ctl1 s c P (wf R) := by
  have hl : (P.length : Int) > 0 := by
    have := List.length_pos_iff.2 hP
    omega
  refine selT (dT hl) ⟨hc, ?_⟩
  obtain ⟨f1, f2, f3⟩ := ctl_facts P s c hc.2
  by_cases hb : beg c = true
  · rw [f1 hb, if_neg hP] at h
    exact selT hb (wfR (k := 3) (l := [ignR]) rfl (wfB2 (P := [c]) (Nat.le_of_ble_eq_true rfl) rfl rfl h))
  have hb : beg c = false := by simpa using hb
  refine selF hb ?_
  by_cases hs : shf c = true
  · rw [f2 hb hs, if_neg hP] at h
    exact selT hs (wfR (k := 2) (l := [ignR]) rfl (wfA (Nat.le_of_ble_eq_true rfl) rfl h))
  have hs : shf c = false := by simpa using hs
  rw [f3 hb hs, if_neg hP] at h
  exact selF hs (wfR (k := 2) (l := [ignR, ctlR c]) rfl (wfA (Nat.le_of_ble_eq_true rfl) rfl h))
theorem goR_in {s c : Int} {P : List Int} {go : Bool} {row : List Sc} {R : Out → Prop} (hP : P ≠ []) (h32 : ¬ c < 32) (hg : goOn P c = go) (hr : endsR P c = row) (h : R (outH P s c)) : goR s c P go row (wf R) := by
  have es : shft s c = s := by unfold shft; rw [if_neg (fun h => h32 h.1)]
  unfold outH at h
  cases go
  · have e : pend P c = [] := by unfold pend; rw [if_neg h32, if_neg hP, hg]; rfl
    have ev : evts P s c = [row] := by unfold evts; rw [if_neg h32, if_neg hP, hg, hr]; rfl
    rw [e, ev, es] at h
    exact wfA (Nat.le_of_ble_eq_true rfl) rfl h
  · have e : pend P c = P ++ [c] := by unfold pend; rw [if_neg h32, if_neg hP, hg]; rfl
    have ev : evts P s c = [] := by unfold evts; rw [if_neg h32, if_neg hP, hg]; rfl
    rw [e, ev, es] at h
    exact wfN (wfB2 (P := P ++ [c]) (Nat.le_of_ble_eq_true rfl) rfl rfl h)
noncomputable def tByteH : Con := fun args regs => match args, regs with
  | [.c (.p 0 0 0), .c (.i .u8 b)], [⟨2, 103, .cells [.hz 1 n, .i .i64 s]⟩, ⟨1, 5, .ints .u8 P⟩] => .must (n = P.length ∧ (0 ≤ b ∧ b < 256) ∧ (P = [] ∨ okP P)) (.ret (outH P s (cc b)))
  | _, _ => .fail
theorem nil0 {s b : Int} {R : Out → Prop} (hl : ¬ cB b < 32) (h : R (outH [] s (cB b))) : R ⟨rows [ev 1 0 0 0 0 s (w64 (cB b))], hzR [] s⟩ := by
  have e : pend [] (cB b) = [] := by unfold pend; rw [if_neg hl, if_pos rfl]
  have ev : evts [] s (cB b) = [ev 1 0 0 0 0 s (w64 (cB b))] := by unfold evts; rw [if_neg hl, if_pos rfl]
  have es : shft s (cB b) = s := by unfold shft; rw [if_neg (fun h => hl h.1)]
  unfold outH at h
  rw [e, ev, es] at h
  exact h
theorem ccT {b : Int} (he : isEv b = true) : cc b = cB b := by unfold cc; rw [he]; rfl
theorem ccF {b : Int} (he : isEv b = false) : cc b = 26 := by unfold cc; rw [he]; rfl
set_option maxRecDepth 100000 in
theorem kH1 (s b : Int) : KnownF Tryz.prog [] 150 (fun args regs => .must (args = [.c (.p 0 0 0), .c (.i .u8 b)] ∧ regs = [lx .sn s, arr []] ∧ 0 ≤ b ∧ b < 256) (.ret (outH [] s (cc b)))) := by
  refine k_byteZ.weak fun args regs R h => Box.out ?_
  obtain ⟨rfl, rfl, hb⟩ := h.1
  have h2 : R (outH [] s (cc b)) := h.2
  clear h
  show Box ((t_byteZ [.c (.p 0 0 0), .c (.i .u8 b)] [lx .sn s, arr []]).run (wf R))
  refine Box.of_eq (byteN_tree s b (wf R)) ⟨hb, ?_⟩
  have hc := cB_of hb
  cases he : isEv b with
  | false => exact selT rfl (ctlN_in ⟨by decide, by decide⟩ (ccF he ▸ h2))
  | true =>
    rw [ccT he] at h2
    exact selF rfl (sel_by (fun hl => ctlN_in ⟨hc.1, hl⟩ h2) fun hl => wfR (k := 2) (l := [ev 1 0 0 0 0 s (w64 (cB b))]) rfl (wfA (Nat.le_of_ble_eq_true rfl) rfl (nil0 hl h2)))
set_option maxRecDepth 100000 in
theorem kH2 (s b : Int) : KnownF Tryz.prog [] 150 (fun args regs => .must (args = [.c (.p 0 0 0), .c (.i .u8 b)] ∧ regs = [lx (.h 1 0 0) s, arr []] ∧ 0 ≤ b ∧ b < 256) (.ret (outH [] s (cc b)))) := by
  refine k_byteZ.weak fun args regs R h => Box.out ?_
  obtain ⟨rfl, rfl, hb⟩ := h.1
  have h2 : R (outH [] s (cc b)) := h.2
  clear h
  show Box ((t_byteZ [.c (.p 0 0 0), .c (.i .u8 b)] [lx (.h 1 0 0) s, arr []]).run (wf R))
  refine Box.of_eq (byteY_tree s b (wf R)) ⟨hb, ?_⟩
  have hc := cB_of hb
  cases he : isEv b with
  | false => exact selT rfl (ctlY_in ⟨by decide, by decide⟩ (ccF he ▸ h2))
  | true =>
    rw [ccT he] at h2
    exact selF rfl (sel_by (fun hl => ctlY_in ⟨hc.1, hl⟩ h2) fun hl => wfR (k := 2) (l := [ev 1 0 0 0 0 s (w64 (cB b))]) rfl (wfB1 (P := []) (Nat.le_of_ble_eq_true rfl) rfl rfl (nil0 hl h2)))
set_option maxRecDepth 100000 in
theorem kH3 (s b : Int) (P : List Int) : KnownF Tryz.prog [] 150 (fun args regs => .must (args = [.c (.p 0 0 0), .c (.i .u8 b)] ∧ regs = [lx (.h 1 0 P.length) s, arr P] ∧ (0 ≤ b ∧ b < 256) ∧ okP P) (.ret (outH P s (cc b)))) := by
  refine k_byteSF.weak fun args regs R h => Box.out ?_
  obtain ⟨rfl, rfl, hb, hP, h50, hin, hask⟩ := h.1
  have h2 : R (outH P s (cc b)) := h.2
  clear h
  show Box ((t_byteS [.c (.p 0 0 0), .c (.i .u8 b)] [lx (.h 1 0 P.length) s, arr P]).run (wf R))
  refine Box.of_eq (byte_tree1 s b P (wf R)) ⟨hb, ?_⟩
  have hc := cB_of hb
  cases he : isEv b with
  | false => exact selT rfl (ctl1_in hP ⟨by decide, by decide⟩ (ccF he ▸ h2))
  | true =>
    rw [ccT he] at h2
    refine selF rfl (sel_by (fun hl => ctl1_in hP ⟨hc.1, hl⟩ h2) fun hl => ?_)
    have hpos := List.length_pos_iff.2 hP
    refine selF (bF (by omega)) (selT (dT (by omega)) (selT (dT (by simpa using hpos)) ?_))
    have es : shft s (cB b) = s := by unfold shft; rw [if_neg (fun h => hl h.1)]
    by_cases h18 : P.getD 0 0 = 18
    · have hg : goOn P (cB b) = false := by unfold goOn; rw [if_pos h18]
      have e : pend P (cB b) = [] := by unfold pend; rw [if_neg hl, if_neg hP, hg]; rfl
      have ev : evts P s (cB b) = [ev 7 (low6 (cB b)) 0 0 0 0 0] := by unfold evts; rw [if_neg hl, if_neg hP, hg]; unfold endsR; rw [if_pos h18]; rfl
      unfold outH at h2
      rw [e, ev, es] at h2
      exact selT (bT h18) (wfR (k := 2) (l := [lxv.ev 7 (low6 (cB b)) 0 0 0 0 0]) rfl (wfA (Nat.le_of_ble_eq_true rfl) rfl h2))
    refine selF (bF h18) ?_
    by_cases h25 : P.getD 0 0 = 25
    · exact selT (bT h25) ⟨rfl, by omega, goR_in hP hl (by unfold goOn; rw [if_neg h18, if_pos h25]) (by unfold endsR; rw [if_neg h18, if_pos h25]) h2⟩
    refine selF (bF h25) ?_
    by_cases h31 : P.getD 0 0 = 31
    · exact selT (bT h31) ⟨rfl, by omega, goR_in hP hl (by unfold goOn; rw [if_neg h18, if_neg h25, if_pos h31]) (by unfold endsR; rw [if_neg h18, if_neg h25, if_pos h31]) h2⟩
    exact selF (bF h31) ⟨rfl, ⟨h50, hin, fun h a b => hask h h18 h25 h31 a b⟩, goR_in hP hl (by unfold goOn; rw [if_neg h18, if_neg h25, if_neg h31]) (by unfold endsR; rw [if_neg h18, if_neg h25, if_neg h31]) h2⟩
/-- With a row that is nil, one without bytes, one with bytes. -/
noncomputable def tByteI : Con := fun args regs => match args, regs with
  | [.c (.p 0 0 0), .c (.i .u8 b)], [⟨2, 103, .cells [.sn, .i .i64 s]⟩, ⟨1, 5, .ints .u8 P⟩] => .must (P = [] ∧ 0 ≤ b ∧ b < 256) (.ret (outH [] s (cc b)))
  | [.c (.p 0 0 0), .c (.i .u8 b)], [⟨2, 103, .cells [.h 1 0 n, .i .i64 s]⟩, ⟨1, 5, .ints .u8 P⟩] => .must (n = P.length ∧ (0 ≤ b ∧ b < 256) ∧ (P = [] ∨ okP P)) (.ret (outH P s (cc b)))
  | _, _ => .fail
set_option maxRecDepth 100000 in
theorem kByteI : KnownF Tryz.prog [] 150 tByteI := by
  refine ⟨k_byteZ.goes, fun args regs R h => ?_⟩
  unfold tByteI at h
  split at h
  case h_3 => exact h.elim
  case h_1 =>
    rename_i b s P
    obtain ⟨rfl, hb⟩ := h.1
    exact (kH1 s b).sound _ _ R ⟨⟨rfl, rfl, hb⟩, h.2⟩
  case h_2 =>
    rename_i b n s P
    have h1 := h.1
    have h2 : R (outH P s (cc b)) := h.2
    clear h
    obtain ⟨rfl, hb, hP⟩ := h1
    rcases hP with rfl | hP
    · exact (kH2 s b).sound _ _ R ⟨⟨rfl, rfl, hb⟩, h2⟩
    · exact (kH3 s b P).sound _ _ R ⟨⟨rfl, rfl, hb, hP⟩, h2⟩
set_option maxRecDepth 100000 in
theorem kByteH : KnownF Tryz.prog [] 150 tByteH := by
  refine kByteI.hzIn fun args regs R h => ?_
  unfold tByteH at h
  split at h
  case h_2 => exact h.elim
  rename_i b n s P
  have h1 := h.1
  have h2 : R (outH P s (cc b)) := h.2
  clear h
  refine ⟨0, 0, 1, n, 2, 103, [.hz 1 n, .i .i64 s], rfl, rfl, fun hn => ?_, ⟨h1, h2⟩⟩
  have hP : P = [] := List.eq_nil_of_length_eq_zero (by omega)
  subst hP
  exact ⟨⟨rfl, h1.2.1⟩, h2⟩
end Go.Proofs.YtjfgphfdaghilaaGreatDoor.lxv
