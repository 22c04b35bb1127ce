/-
  The lexer: a byte, one shape: what is begun is a row that may be nil.
-/
import Derived.Test.YtdijbpokklgjlaaGreatDoorLexY
import Derived.Test.YtdijbpokklgjlaaGreatDoorEng32
set_option linter.unusedVariables false
namespace Go.Proofs.YtdijbpokklgjlaaGreatDoor.lxv
open Go Go.Nx Go.Proofs.YtdijbpokklgjlaaGreatDoor.lex

/-! ### a control, on a row of no bytes -/
def ctlZ (s c : Int) (R : Out → Prop) : Prop :=
  sel (beg c) (R ⟨.v (.c .sn), [some (lx (.h 2 0 1) s), some (arr []), some (arr [c])]⟩) (sel (shf c) (R ⟨.v (.c .sn), [some (lx (.h 1 0 0) (shC c)), some (arr [])]⟩) (R ⟨.v (.c (.h 2 0 1)), [some (lx (.h 1 0 0) s), some (arr []), some ⟨7, 75, .recs K7 [ctlR c]⟩]⟩))
theorem ctlZ_0 (s : Int) (R : Out → Prop) : (t_control [.c (.p 0 0 0), .c (.i .u8 0)] [lx (.h 1 0 0) s, arr []]).run R = ctlZ s 0 R := by kernel_rfl
theorem ctlZ_1 (s : Int) (R : Out → Prop) : (t_control [.c (.p 0 0 0), .c (.i .u8 1)] [lx (.h 1 0 0) s, arr []]).run R = ctlZ s 1 R := by kernel_rfl
theorem ctlZ_2 (s : Int) (R : Out → Prop) : (t_control [.c (.p 0 0 0), .c (.i .u8 2)] [lx (.h 1 0 0) s, arr []]).run R = ctlZ s 2 R := by kernel_rfl
theorem ctlZ_3 (s : Int) (R : Out → Prop) : (t_control [.c (.p 0 0 0), .c (.i .u8 3)] [lx (.h 1 0 0) s, arr []]).run R = ctlZ s 3 R := by kernel_rfl
theorem ctlZ_4 (s : Int) (R : Out → Prop) : (t_control [.c (.p 0 0 0), .c (.i .u8 4)] [lx (.h 1 0 0) s, arr []]).run R = ctlZ s 4 R := by kernel_rfl
theorem ctlZ_5 (s : Int) (R : Out → Prop) : (t_control [.c (.p 0 0 0), .c (.i .u8 5)] [lx (.h 1 0 0) s, arr []]).run R = ctlZ s 5 R := by kernel_rfl
theorem ctlZ_6 (s : Int) (R : Out → Prop) : (t_control [.c (.p 0 0 0), .c (.i .u8 6)] [lx (.h 1 0 0) s, arr []]).run R = ctlZ s 6 R := by kernel_rfl
theorem ctlZ_7 (s : Int) (R : Out → Prop) : (t_control [.c (.p 0 0 0), .c (.i .u8 7)] [lx (.h 1 0 0) s, arr []]).run R = ctlZ s 7 R := by kernel_rfl
theorem ctlZ_8 (s : Int) (R : Out → Prop) : (t_control [.c (.p 0 0 0), .c (.i .u8 8)] [lx (.h 1 0 0) s, arr []]).run R = ctlZ s 8 R := by kernel_rfl
theorem ctlZ_9 (s : Int) (R : Out → Prop) : (t_control [.c (.p 0 0 0), .c (.i .u8 9)] [lx (.h 1 0 0) s, arr []]).run R = ctlZ s 9 R := by kernel_rfl
theorem ctlZ_10 (s : Int) (R : Out → Prop) : (t_control [.c (.p 0 0 0), .c (.i .u8 10)] [lx (.h 1 0 0) s, arr []]).run R = ctlZ s 10 R := by kernel_rfl
theorem ctlZ_11 (s : Int) (R : Out → Prop) : (t_control [.c (.p 0 0 0), .c (.i .u8 11)] [lx (.h 1 0 0) s, arr []]).run R = ctlZ s 11 R := by kernel_rfl
theorem ctlZ_12 (s : Int) (R : Out → Prop) : (t_control [.c (.p 0 0 0), .c (.i .u8 12)] [lx (.h 1 0 0) s, arr []]).run R = ctlZ s 12 R := by kernel_rfl
theorem ctlZ_13 (s : Int) (R : Out → Prop) : (t_control [.c (.p 0 0 0), .c (.i .u8 13)] [lx (.h 1 0 0) s, arr []]).run R = ctlZ s 13 R := by kernel_rfl
theorem ctlZ_14 (s : Int) (R : Out → Prop) : (t_control [.c (.p 0 0 0), .c (.i .u8 14)] [lx (.h 1 0 0) s, arr []]).run R = ctlZ s 14 R := by kernel_rfl
theorem ctlZ_15 (s : Int) (R : Out → Prop) : (t_control [.c (.p 0 0 0), .c (.i .u8 15)] [lx (.h 1 0 0) s, arr []]).run R = ctlZ s 15 R := by kernel_rfl
theorem ctlZ_16 (s : Int) (R : Out → Prop) : (t_control [.c (.p 0 0 0), .c (.i .u8 16)] [lx (.h 1 0 0) s, arr []]).run R = ctlZ s 16 R := by kernel_rfl
theorem ctlZ_17 (s : Int) (R : Out → Prop) : (t_control [.c (.p 0 0 0), .c (.i .u8 17)] [lx (.h 1 0 0) s, arr []]).run R = ctlZ s 17 R := by kernel_rfl
theorem ctlZ_18 (s : Int) (R : Out → Prop) : (t_control [.c (.p 0 0 0), .c (.i .u8 18)] [lx (.h 1 0 0) s, arr []]).run R = ctlZ s 18 R := by kernel_rfl
theorem ctlZ_19 (s : Int) (R : Out → Prop) : (t_control [.c (.p 0 0 0), .c (.i .u8 19)] [lx (.h 1 0 0) s, arr []]).run R = ctlZ s 19 R := by kernel_rfl
theorem ctlZ_20 (s : Int) (R : Out → Prop) : (t_control [.c (.p 0 0 0), .c (.i .u8 20)] [lx (.h 1 0 0) s, arr []]).run R = ctlZ s 20 R := by kernel_rfl
theorem ctlZ_21 (s : Int) (R : Out → Prop) : (t_control [.c (.p 0 0 0), .c (.i .u8 21)] [lx (.h 1 0 0) s, arr []]).run R = ctlZ s 21 R := by kernel_rfl
theorem ctlZ_22 (s : Int) (R : Out → Prop) : (t_control [.c (.p 0 0 0), .c (.i .u8 22)] [lx (.h 1 0 0) s, arr []]).run R = ctlZ s 22 R := by kernel_rfl
theorem ctlZ_23 (s : Int) (R : Out → Prop) : (t_control [.c (.p 0 0 0), .c (.i .u8 23)] [lx (.h 1 0 0) s, arr []]).run R = ctlZ s 23 R := by kernel_rfl
theorem ctlZ_24 (s : Int) (R : Out → Prop) : (t_control [.c (.p 0 0 0), .c (.i .u8 24)] [lx (.h 1 0 0) s, arr []]).run R = ctlZ s 24 R := by kernel_rfl
theorem ctlZ_25 (s : Int) (R : Out → Prop) : (t_control [.c (.p 0 0 0), .c (.i .u8 25)] [lx (.h 1 0 0) s, arr []]).run R = ctlZ s 25 R := by kernel_rfl
theorem ctlZ_26 (s : Int) (R : Out → Prop) : (t_control [.c (.p 0 0 0), .c (.i .u8 26)] [lx (.h 1 0 0) s, arr []]).run R = ctlZ s 26 R := by kernel_rfl
theorem ctlZ_27 (s : Int) (R : Out → Prop) : (t_control [.c (.p 0 0 0), .c (.i .u8 27)] [lx (.h 1 0 0) s, arr []]).run R = ctlZ s 27 R := by kernel_rfl
theorem ctlZ_28 (s : Int) (R : Out → Prop) : (t_control [.c (.p 0 0 0), .c (.i .u8 28)] [lx (.h 1 0 0) s, arr []]).run R = ctlZ s 28 R := by kernel_rfl
theorem ctlZ_29 (s : Int) (R : Out → Prop) : (t_control [.c (.p 0 0 0), .c (.i .u8 29)] [lx (.h 1 0 0) s, arr []]).run R = ctlZ s 29 R := by kernel_rfl
theorem ctlZ_30 (s : Int) (R : Out → Prop) : (t_control [.c (.p 0 0 0), .c (.i .u8 30)] [lx (.h 1 0 0) s, arr []]).run R = ctlZ s 30 R := by kernel_rfl
theorem ctlZ_31 (s : Int) (R : Out → Prop) : (t_control [.c (.p 0 0 0), .c (.i .u8 31)] [lx (.h 1 0 0) s, arr []]).run R = ctlZ s 31 R := by kernel_rfl
set_option maxRecDepth 100000 in
theorem ctlZ_all (s c : Int) (hc : 0 ≤ c ∧ c < 32) (R : Out → Prop) (h : ctlZ s c R) : Box ((t_control [.c (.p 0 0 0), .c (.i .u8 c)] [lx (.h 1 0 0) s, arr []]).run R) := by
  have : c = 0 ∨ c = 1 ∨ c = 2 ∨ c = 3 ∨ c = 4 ∨ c = 5 ∨ c = 6 ∨ c = 7 ∨ c = 8 ∨ c = 9 ∨ c = 10 ∨ c = 11 ∨ c = 12 ∨ c = 13 ∨ c = 14 ∨ c = 15 ∨ c = 16 ∨ c = 17 ∨ c = 18 ∨ c = 19 ∨ c = 20 ∨ c = 21 ∨ c = 22 ∨ c = 23 ∨ c = 24 ∨ c = 25 ∨ c = 26 ∨ c = 27 ∨ c = 28 ∨ c = 29 ∨ c = 30 ∨ c = 31 := by omega
  rcases this with rfl | rfl | rfl | rfl | rfl | rfl | rfl | rfl | rfl | rfl | rfl | rfl | rfl | rfl | rfl | rfl | rfl | rfl | rfl | rfl | rfl | rfl | rfl | rfl | rfl | rfl | rfl | rfl | rfl | rfl | rfl | rfl
  · exact Box.of_eq (ctlZ_0 s R) h
  · exact Box.of_eq (ctlZ_1 s R) h
  · exact Box.of_eq (ctlZ_2 s R) h
  · exact Box.of_eq (ctlZ_3 s R) h
  · exact Box.of_eq (ctlZ_4 s R) h
  · exact Box.of_eq (ctlZ_5 s R) h
  · exact Box.of_eq (ctlZ_6 s R) h
  · exact Box.of_eq (ctlZ_7 s R) h
  · exact Box.of_eq (ctlZ_8 s R) h
  · exact Box.of_eq (ctlZ_9 s R) h
  · exact Box.of_eq (ctlZ_10 s R) h
  · exact Box.of_eq (ctlZ_11 s R) h
  · exact Box.of_eq (ctlZ_12 s R) h
  · exact Box.of_eq (ctlZ_13 s R) h
  · exact Box.of_eq (ctlZ_14 s R) h
  · exact Box.of_eq (ctlZ_15 s R) h
  · exact Box.of_eq (ctlZ_16 s R) h
  · exact Box.of_eq (ctlZ_17 s R) h
  · exact Box.of_eq (ctlZ_18 s R) h
  · exact Box.of_eq (ctlZ_19 s R) h
  · exact Box.of_eq (ctlZ_20 s R) h
  · exact Box.of_eq (ctlZ_21 s R) h
  · exact Box.of_eq (ctlZ_22 s R) h
  · exact Box.of_eq (ctlZ_23 s R) h
  · exact Box.of_eq (ctlZ_24 s R) h
  · exact Box.of_eq (ctlZ_25 s R) h
  · exact Box.of_eq (ctlZ_26 s R) h
  · exact Box.of_eq (ctlZ_27 s R) h
  · exact Box.of_eq (ctlZ_28 s R) h
  · exact Box.of_eq (ctlZ_29 s R) h
  · exact Box.of_eq (ctlZ_30 s R) h
  · exact Box.of_eq (ctlZ_31 s R) h
noncomputable def tCtlZ : Con := fun args regs => match args, regs with
  | [.c (.p 0 0 0), .c (.i .u8 c)], [⟨2, 58, .cells [.h 1 0 0, .i .i64 s]⟩, ⟨1, 5, .ints .u8 []⟩] => .must (0 ≤ c ∧ c < 32) (.br (beg c) (.ret ⟨.v (.c .sn), [some (lx (.h 2 0 1) s), some (arr []), some (arr [c])]⟩) (.br (shf c) (.ret ⟨.v (.c .sn), [some (lx (.h 1 0 0) (shC c)), some (arr [])]⟩) (.ret ⟨rows [ctlR c], [some (lx (.h 1 0 0) s), some (arr [])]⟩)))
  | args, regs => tCtlS args regs
set_option maxRecDepth 100000 in
theorem kCtlZ : Known Tryz.prog [] 69 tCtlZ := by
  refine ⟨kCtlS.goes, fun args regs R h => ?_⟩
  unfold tCtlZ at h
  split at h
  case h_2 => exact kCtlS.sound args regs R h
  rename_i c s
  have k : Known Tryz.prog [] 69 (fun args regs => Tr.must (args = [.c (.p 0 0 0), .c (.i .u8 c)] ∧ regs = [lx (.h 1 0 0) s, arr []] ∧ 0 ≤ c ∧ c < 32) (.br (beg c) (.ret ⟨.v (.c .sn), [some (lx (.h 2 0 1) s), some (arr []), some (arr [c])]⟩) (.br (shf c) (.ret ⟨.v (.c .sn), [some (lx (.h 1 0 0) (shC c)), some (arr [])]⟩) (.ret ⟨rows [ctlR c], [some (lx (.h 1 0 0) s), some (arr [])]⟩)))) := by
    refine k_control.weak fun args regs R h => Box.out ?_
    obtain ⟨ha, hr, h1⟩ := h.1
    have h2 : sel (beg c) (R ⟨.v (.c .sn), [some (lx (.h 2 0 1) s), some (arr []), some (arr [c])]⟩) (sel (shf c) (R ⟨.v (.c .sn), [some (lx (.h 1 0 0) (shC c)), some (arr [])]⟩) (R ⟨rows [ctlR c], [some (lx (.h 1 0 0) s), some (arr [])]⟩)) := h.2
    clear h
    subst ha hr
    show Box ((t_control [.c (.p 0 0 0), .c (.i .u8 c)] [lx (.h 1 0 0) s, arr []]).run (wk R))
    refine ctlZ_all s c h1 _ ?_
    unfold ctlZ
    rcases sel_iff.1 h2 with ⟨hb, h2⟩ | ⟨hb, h2⟩
    · exact selT hb (wk_refl h2)
    · refine selF hb ?_
      rcases sel_iff.1 h2 with ⟨hs, h2⟩ | ⟨hs, h2⟩
      · exact selT hs (wk_refl h2)
      · refine selF hs ⟨_, (Weak.rows (k := 2) (xs := [ctlR c]) rfl).trans (Weak.drop (rg' := [some (lx (.h 1 0 0) s), some (arr [])]) fun n g hg => ?_), h2⟩
        match n, hg with
        | 0, hg => exact hg
        | 1, hg => exact hg
        | n + 2, hg => simp at hg
  refine k.sound _ _ R ⟨⟨rfl, rfl, h.1⟩, h.2⟩

/-! ### a byte -/
noncomputable def c_byteZ : FuncId → Option Con := conOf [(66, tEvenV), (67, tEndsW), (68, t_ignored), (71, t_one), (72, tSignS), (73, tPlaceS), (74, tEscS), (69, tCtlZ), (70, t_char)]
theorem kc_byteZ : ∀ f T, c_byteZ f = some T → Known Tryz.prog [] f T := (Knowns.cons kEvenV (Knowns.cons kEndsW (Knowns.cons k_ignored (Knowns.cons k_one (Knowns.cons kSignS (Knowns.cons kPlaceS (Knowns.cons kEscS (Knowns.cons kCtlZ (Knowns.cons k_char Knowns.nil))))))))).get
noncomputable def t_byteZ : Con := fun args regs => nfun Tryz.prog [] c_byteZ [] Tryz.f52 args regs
theorem k_byteZ : KnownF Tryz.prog [] 52 t_byteZ := known_inlF Tryz.func52 rfl (by kernel_rfl) mixed kc_byteZ (by kernel_rfl)
def ctlN (s c : Int) (R : Out → Prop) : Prop := in5 c ∧
  sel (beg c) (R ⟨.v (.c .sn), [some (lx (.h 2 0 1) s), some (arr []), some (arr [c])]⟩) (sel (shf c) (R ⟨.v (.c .sn), [some (lx .sn (shC c)), some (arr [])]⟩) (R ⟨.v (.c (.h 2 0 1)), [some (lx .sn s), some (arr []), some (evR [ctlR c])]⟩))
theorem byteN_tree (s b : Int) (R : Out → Prop) : (t_byteZ [.c (.p 0 0 0), .c (.i .u8 b)] [lx .sn s, arr []]).run R =
    ((0 ≤ b ∧ b < 256) ∧ sel (!isEv b) (ctlN s 26 R) (sel (decide (cB b < 32)) (ctlN s (cB b) R) (R ⟨.v (.c (.h 2 0 1)), [some (lx .sn s), some (arr []), some (evR [ev 1 0 0 0 0 s (w64 (cB b))])]⟩))) := by kernel_rfl
def ctlY (s c : Int) (R : Out → Prop) : Prop := in5 c ∧
  sel (beg c) (R ⟨.v (.c .sn), [some (lx (.h 2 0 1) s), some (arr []), some (arr [c])]⟩) (sel (shf c) (R ⟨.v (.c .sn), [some (lx (.h 1 0 0) (shC c)), some (arr [])]⟩) (R ⟨.v (.c (.h 2 0 1)), [some (lx (.h 1 0 0) s), some (arr []), some (evR [ctlR c])]⟩))
theorem byteY_tree (s b : Int) (R : Out → Prop) : (t_byteZ [.c (.p 0 0 0), .c (.i .u8 b)] [lx (.h 1 0 0) s, arr []]).run R =
    ((0 ≤ b ∧ b < 256) ∧ sel (!isEv b) (ctlY s 26 R) (sel (decide (cB b < 32)) (ctlY s (cB b) R) (R ⟨.v (.c (.h 2 0 1)), [some (lx (.h 1 0 0) s), some (arr []), some (evR [ev 1 0 0 0 0 s (w64 (cB b))])]⟩))) := by kernel_rfl
theorem k_byteSF : KnownF Tryz.prog [] 52 t_byteS := known_inlF Tryz.func52 rfl (by kernel_rfl) mixed kc_byteS (by kernel_rfl)
/-! ### one shape -/
def wf (R : Out → Prop) (o : Out) : Prop := ∃ o', WeakF o o' ∧ R o'
def hzR (P : List Int) (s : Int) : List (Option Reg) := [some (lx (.hz 5 P.length) s), none, none, none, none, some (arr P)]
theorem ltF {rg rg' : List (Option Reg)} (hl : rg.length ≤ 5) (h5 : rg'.length = 5) (hs : ∀ n, n < 5 → ∀ g, rg'[n]? = some (some g) → rg[n]? = some (some g)) (x : NS) : WeakF ⟨x, rg⟩ ⟨x, rg'⟩ :=
  WeakF.drop (by omega) fun n g hg => by
    by_cases h : n < 5
    · exact hs n h g hg
    · rw [List.getElem?_eq_none (by omega)] at hg; cases hg
/-- Nothing is begun. -/
theorem wfA {R : Out → Prop} {x : NS} {s : Int} {rg : List (Option Reg)} (hl : rg.length ≤ 5) (h0 : rg[0]? = some (some (lx .sn s))) (h : R ⟨x, hzR [] s⟩) : wf R ⟨x, rg⟩ := by
  refine ⟨_, (ltF (rg' := [some (lx .sn s), none, none, none, none]) hl rfl ?_ x).trans (WeakF.nil (r := 0) (j := 0) (xs := [.sn, .i .i64 s]) (g := arr []) (.inl ⟨_, rfl⟩) rfl rfl), h⟩
  intro n hn g hg
  match n, hg with
  | 0, hg => cases hg; exact h0
  | 1, hg => cases hg
  | 2, hg => cases hg
  | 3, hg => cases hg
  | 4, hg => cases hg
  | n + 5, _ => omega
theorem wfB1 {R : Out → Prop} {x : NS} {s : Int} {P : List Int} {rg : List (Option Reg)} (hl : rg.length ≤ 5) (h0 : rg[0]? = some (some (lx (.h 1 0 P.length) s))) (h1 : rg[1]? = some (some (arr P))) (h : R ⟨x, hzR P s⟩) : wf R ⟨x, rg⟩ := by
  refine ⟨_, (ltF (rg' := [some (lx (.h 1 0 P.length) s), some (arr P), none, none, none]) hl rfl ?_ x).trans (WeakF.hz (r := 0) (k := 1) (j := 0) (n := P.length) (xs := [.h 1 0 P.length, .i .i64 s]) (g := arr P) (by decide) rfl rfl rfl), h⟩
  intro n hn g hg
  match n, hg with
  | 0, hg => cases hg; exact h0
  | 1, hg => cases hg; exact h1
  | 2, hg => cases hg
  | 3, hg => cases hg
  | 4, hg => cases hg
  | n + 5, _ => omega
theorem wfB2 {R : Out → Prop} {x : NS} {s : Int} {P : List Int} {rg : List (Option Reg)} (hl : rg.length ≤ 5) (h0 : rg[0]? = some (some (lx (.h 2 0 P.length) s))) (h1 : rg[2]? = some (some (arr P))) (h : R ⟨x, hzR P s⟩) : wf R ⟨x, rg⟩ := by
  refine ⟨_, (ltF (rg' := [some (lx (.h 2 0 P.length) s), none, some (arr P), none, none]) hl rfl ?_ x).trans (WeakF.hz (r := 0) (k := 2) (j := 0) (n := P.length) (xs := [.h 2 0 P.length, .i .i64 s]) (g := arr P) (by decide) rfl rfl rfl), h⟩
  intro n hn g hg
  match n, hg with
  | 0, hg => cases hg; exact h0
  | 1, hg => cases hg
  | 2, hg => cases hg; exact h1
  | 3, hg => cases hg
  | 4, hg => cases hg
  | n + 5, _ => omega
/-- Events are rows. -/
theorem wfR {R : Out → Prop} {k : Nat} {l : List (List Sc)} {rg : List (Option Reg)} (hk : rg[k]? = some (some (evR l))) (h : wf R ⟨rows l, putAt rg k none⟩) : wf R ⟨.v (.c (.h k 0 l.length)), rg⟩ := by
  obtain ⟨o, h1, h2⟩ := h
  exact ⟨o, (WeakF.rows (xs := l) hk).trans h1, h2⟩
theorem wfN {R : Out → Prop} {rg : List (Option Reg)} (h : wf R ⟨rows [], rg⟩) : wf R ⟨.v (.c .sn), rg⟩ := by
  obtain ⟨o, h1, h2⟩ := h
  exact ⟨o, (WeakF.nil_rows (by decide)).trans h1, h2⟩
noncomputable def outH (P : List Int) (s c : Int) : Out := ⟨rows (evts P s c), hzR (pend P c) (shft s c)⟩
theorem beg_shfH {c : Int} (hb : beg c = true) : shf c = false := by
  unfold beg at hb; unfold shf
  simp only [Bool.or_eq_true, beq_iff_eq] at hb
  rcases hb with ((rfl | rfl) | rfl) | rfl <;> rfl
theorem ctl_facts (P : List Int) (s c : Int) (h32 : c < 32) :
    (beg c = true → outH P s c = ⟨rows (if P = [] then [] else [ignR]), hzR [c] s⟩) ∧
    (beg c = false → shf c = true → outH P s c = ⟨rows (if P = [] then [] else [ignR]), hzR [] (shC c)⟩) ∧
    (beg c = false → shf c = false → outH P s c = ⟨rows ((if P = [] then [] else [ignR]) ++ [ctlR c]), hzR [] s⟩) := by
  refine ⟨fun hb => ?_, fun hb hs => ?_, fun hb hs => ?_⟩
  · have e : pend P c = [c] := by unfold pend; rw [if_pos h32, if_pos hb]
    have ev : evts P s c = (if P = [] then [] else [ignR]) := by unfold evts; rw [if_pos h32, hb]; exact List.append_nil _
    have es : shft s c = s := by unfold shft; rw [beg_shfH hb, if_neg (fun h => by cases h.2)]
    unfold outH; rw [e, ev, es]
  · have e : pend P c = [] := by unfold pend; rw [if_pos h32, hb]; rfl
    have ev : evts P s c = (if P = [] then [] else [ignR]) := by unfold evts; rw [if_pos h32, hs, Bool.or_true]; exact List.append_nil _
    have es : shft s c = shC c := by unfold shft; rw [if_pos ⟨h32, hs⟩]
    unfold outH; rw [e, ev, es]
  · have e : pend P c = [] := by unfold pend; rw [if_pos h32, hb]; rfl
    have ev : evts P s c = (if P = [] then [] else [ignR]) ++ [ctlR c] := by unfold evts; rw [if_pos h32, hb, hs]; rfl
    have es : shft s c = s := by unfold shft; rw [hs, if_neg (fun h => by cases h.2)]
    unfold outH; rw [e, ev, es]
theorem ctlN_in {s c : Int} {R : Out → Prop} (hc : in5 c) (h : R (outH [] s c)) : ctlN s c (wf R) := by
  refine ⟨hc, ?_⟩
  obtain ⟨f1, f2, f3⟩ := ctl_facts [] s c hc.2
  by_cases hb : beg c = true
  · rw [f1 hb, if_pos rfl] at h
    exact selT hb (wfN (wfB2 (P := [c]) (Nat.le_of_ble_eq_true rfl) rfl rfl h))
  have hb : beg c = false := by simpa using hb
  refine selF hb ?_
  by_cases hs : shf c = true
  · rw [f2 hb hs, if_pos rfl] at h
    exact selT hs (wfN (wfA (Nat.le_of_ble_eq_true rfl) rfl h))
  have hs : shf c = false := by simpa using hs
  rw [f3 hb hs, if_pos rfl] at h
  exact selF hs (wfR (k := 2) (l := [ctlR c]) rfl (wfA (Nat.le_of_ble_eq_true rfl) rfl h))
theorem ctlY_in {s c : Int} {R : Out → Prop} (hc : in5 c) (h : R (outH [] s c)) : ctlY s c (wf R) := by
  refine ⟨hc, ?_⟩
  obtain ⟨f1, f2, f3⟩ := ctl_facts [] s c hc.2
  by_cases hb : beg c = true
  · rw [f1 hb, if_pos rfl] at h
    exact selT hb (wfN (wfB2 (P := [c]) (Nat.le_of_ble_eq_true rfl) rfl rfl h))
  have hb : beg c = false := by simpa using hb
  refine selF hb ?_
  by_cases hs : shf c = true
  · rw [f2 hb hs, if_pos rfl] at h
    exact selT hs (wfN (wfB1 (P := []) (Nat.le_of_ble_eq_true rfl) rfl rfl h))
  have hs : shf c = false := by simpa using hs
  rw [f3 hb hs, if_pos rfl] at h
  exact selF hs (wfR (k := 2) (l := [ctlR c]) rfl (wfB1 (P := []) (Nat.le_of_ble_eq_true rfl) rfl rfl h))
theorem ctl1_in {s c : Int} {P : List Int} {R : Out → Prop} (hP : P ≠ []) (hc : in5 c) (h : R (outH P s c)) : ctl1 s c P (wf R) := by
  have hl : (P.length : Int) > 0 := by
    have := List.length_pos_iff.2 hP
    omega
  refine selT (dT hl) ⟨hc, ?_⟩
  obtain ⟨f1, f2, f3⟩ := ctl_facts P s c hc.2
  by_cases hb : beg c = true
  · rw [f1 hb, if_neg hP] at h
    exact selT hb (wfR (k := 3) (l := [ignR]) rfl (wfB2 (P := [c]) (Nat.le_of_ble_eq_true rfl) rfl rfl h))
  have hb : beg c = false := by simpa using hb
  refine selF hb ?_
  by_cases hs : shf c = true
  · rw [f2 hb hs, if_neg hP] at h
    exact selT hs (wfR (k := 2) (l := [ignR]) rfl (wfA (Nat.le_of_ble_eq_true rfl) rfl h))
  have hs : shf c = false := by simpa using hs
  rw [f3 hb hs, if_neg hP] at h
  exact selF hs (wfR (k := 2) (l := [ignR, ctlR c]) rfl (wfA (Nat.le_of_ble_eq_true rfl) rfl h))
theorem goR_in {s c : Int} {P : List Int} {go : Bool} {row : List Sc} {R : Out → Prop} (hP : P ≠ []) (h32 : ¬ c < 32) (hg : goOn P c = go) (hr : endsR P c = row) (h : R (outH P s c)) : goR s c P go row (wf R) := by
  have es : shft s c = s := by unfold shft; rw [if_neg (fun h => h32 h.1)]
  unfold outH at h
  cases go
  · have e : pend P c = [] := by unfold pend; rw [if_neg h32, if_neg hP, hg]; rfl
    have ev : evts P s c = [row] := by unfold evts; rw [if_neg h32, if_neg hP, hg, hr]; rfl
    rw [e, ev, es] at h
    exact wfA (Nat.le_of_ble_eq_true rfl) rfl h
  · have e : pend P c = P ++ [c] := by unfold pend; rw [if_neg h32, if_neg hP, hg]; rfl
    have ev : evts P s c = [] := by unfold evts; rw [if_neg h32, if_neg hP, hg]; rfl
    rw [e, ev, es] at h
    exact wfN (wfB2 (P := P ++ [c]) (Nat.le_of_ble_eq_true rfl) rfl rfl h)
noncomputable def tByteH : Con := fun args regs => match args, regs with
  | [.c (.p 0 0 0), .c (.i .u8 b)], [⟨2, 58, .cells [.hz 1 n, .i .i64 s]⟩, ⟨1, 5, .ints .u8 P⟩] => .must (n = P.length ∧ (0 ≤ b ∧ b < 256) ∧ (P = [] ∨ okP P)) (.ret (outH P s (cc b)))
  | _, _ => .fail
theorem nil0 {s b : Int} {R : Out → Prop} (hl : ¬ cB b < 32) (h : R (outH [] s (cB b))) : R ⟨rows [ev 1 0 0 0 0 s (w64 (cB b))], hzR [] s⟩ := by
  have e : pend [] (cB b) = [] := by unfold pend; rw [if_neg hl, if_pos rfl]
  have ev : evts [] s (cB b) = [ev 1 0 0 0 0 s (w64 (cB b))] := by unfold evts; rw [if_neg hl, if_pos rfl]
  have es : shft s (cB b) = s := by unfold shft; rw [if_neg (fun h => hl h.1)]
  unfold outH at h
  rw [e, ev, es] at h
  exact h
theorem ccT {b : Int} (he : isEv b = true) : cc b = cB b := by unfold cc; rw [he]; rfl
theorem ccF {b : Int} (he : isEv b = false) : cc b = 26 := by unfold cc; rw [he]; rfl
set_option maxRecDepth 100000 in
theorem kH1 (s b : Int) : KnownF Tryz.prog [] 52 (fun args regs => .must (args = [.c (.p 0 0 0), .c (.i .u8 b)] ∧ regs = [lx .sn s, arr []] ∧ 0 ≤ b ∧ b < 256) (.ret (outH [] s (cc b)))) := by
  refine k_byteZ.weak fun args regs R h => Box.out ?_
  obtain ⟨rfl, rfl, hb⟩ := h.1
  have h2 : R (outH [] s (cc b)) := h.2
  clear h
  show Box ((t_byteZ [.c (.p 0 0 0), .c (.i .u8 b)] [lx .sn s, arr []]).run (wf R))
  refine Box.of_eq (byteN_tree s b (wf R)) ⟨hb, ?_⟩
  have hc := cB_of hb
  cases he : isEv b with
  | false => exact selT rfl (ctlN_in ⟨by decide, by decide⟩ (ccF he ▸ h2))
  | true =>
    rw [ccT he] at h2
    exact selF rfl (sel_by (fun hl => ctlN_in ⟨hc.1, hl⟩ h2) fun hl => wfR (k := 2) (l := [ev 1 0 0 0 0 s (w64 (cB b))]) rfl (wfA (Nat.le_of_ble_eq_true rfl) rfl (nil0 hl h2)))
set_option maxRecDepth 100000 in
theorem kH2 (s b : Int) : KnownF Tryz.prog [] 52 (fun args regs => .must (args = [.c (.p 0 0 0), .c (.i .u8 b)] ∧ regs = [lx (.h 1 0 0) s, arr []] ∧ 0 ≤ b ∧ b < 256) (.ret (outH [] s (cc b)))) := by
  refine k_byteZ.weak fun args regs R h => Box.out ?_
  obtain ⟨rfl, rfl, hb⟩ := h.1
  have h2 : R (outH [] s (cc b)) := h.2
  clear h
  show Box ((t_byteZ [.c (.p 0 0 0), .c (.i .u8 b)] [lx (.h 1 0 0) s, arr []]).run (wf R))
  refine Box.of_eq (byteY_tree s b (wf R)) ⟨hb, ?_⟩
  have hc := cB_of hb
  cases he : isEv b with
  | false => exact selT rfl (ctlY_in ⟨by decide, by decide⟩ (ccF he ▸ h2))
  | true =>
    rw [ccT he] at h2
    exact selF rfl (sel_by (fun hl => ctlY_in ⟨hc.1, hl⟩ h2) fun hl => wfR (k := 2) (l := [ev 1 0 0 0 0 s (w64 (cB b))]) rfl (wfB1 (P := []) (Nat.le_of_ble_eq_true rfl) rfl rfl (nil0 hl h2)))
set_option maxRecDepth 100000 in
theorem kH3 (s b : Int) (P : List Int) : KnownF Tryz.prog [] 52 (fun args regs => .must (args = [.c (.p 0 0 0), .c (.i .u8 b)] ∧ regs = [lx (.h 1 0 P.length) s, arr P] ∧ (0 ≤ b ∧ b < 256) ∧ okP P) (.ret (outH P s (cc b)))) := by
  refine k_byteSF.weak fun args regs R h => Box.out ?_
  obtain ⟨rfl, rfl, hb, hP, h50, hin, hask⟩ := h.1
  have h2 : R (outH P s (cc b)) := h.2
  clear h
  show Box ((t_byteS [.c (.p 0 0 0), .c (.i .u8 b)] [lx (.h 1 0 P.length) s, arr P]).run (wf R))
  refine Box.of_eq (byte_tree1 s b P (wf R)) ⟨hb, ?_⟩
  have hc := cB_of hb
  cases he : isEv b with
  | false => exact selT rfl (ctl1_in hP ⟨by decide, by decide⟩ (ccF he ▸ h2))
  | true =>
    rw [ccT he] at h2
    refine selF rfl (sel_by (fun hl => ctl1_in hP ⟨hc.1, hl⟩ h2) fun hl => ?_)
    have hpos := List.length_pos_iff.2 hP
    refine selF (bF (by omega)) (selT (dT (by omega)) (selT (dT (by simpa using hpos)) ?_))
    have es : shft s (cB b) = s := by unfold shft; rw [if_neg (fun h => hl h.1)]
    by_cases h18 : P.getD 0 0 = 18
    · have hg : goOn P (cB b) = false := by unfold goOn; rw [if_pos h18]
      have e : pend P (cB b) = [] := by unfold pend; rw [if_neg hl, if_neg hP, hg]; rfl
      have ev : evts P s (cB b) = [ev 7 (low6 (cB b)) 0 0 0 0 0] := by unfold evts; rw [if_neg hl, if_neg hP, hg]; unfold endsR; rw [if_pos h18]; rfl
      unfold outH at h2
      rw [e, ev, es] at h2
      exact selT (bT h18) (wfR (k := 2) (l := [lxv.ev 7 (low6 (cB b)) 0 0 0 0 0]) rfl (wfA (Nat.le_of_ble_eq_true rfl) rfl h2))
    refine selF (bF h18) ?_
    by_cases h25 : P.getD 0 0 = 25
    · exact selT (bT h25) ⟨rfl, by omega, goR_in hP hl (by unfold goOn; rw [if_neg h18, if_pos h25]) (by unfold endsR; rw [if_neg h18, if_pos h25]) h2⟩
    refine selF (bF h25) ?_
    by_cases h31 : P.getD 0 0 = 31
    · exact selT (bT h31) ⟨rfl, by omega, goR_in hP hl (by unfold goOn; rw [if_neg h18, if_neg h25, if_pos h31]) (by unfold endsR; rw [if_neg h18, if_neg h25, if_pos h31]) h2⟩
    exact selF (bF h31) ⟨rfl, ⟨h50, hin, fun h a b => hask h h18 h25 h31 a b⟩, goR_in hP hl (by unfold goOn; rw [if_neg h18, if_neg h25, if_neg h31]) (by unfold endsR; rw [if_neg h18, if_neg h25, if_neg h31]) h2⟩
/-- With a row that is nil, one without bytes, one with bytes. -/
noncomputable def tByteI : Con := fun args regs => match args, regs with
  | [.c (.p 0 0 0), .c (.i .u8 b)], [⟨2, 58, .cells [.sn, .i .i64 s]⟩, ⟨1, 5, .ints .u8 P⟩] => .must (P = [] ∧ 0 ≤ b ∧ b < 256) (.ret (outH [] s (cc b)))
  | [.c (.p 0 0 0), .c (.i .u8 b)], [⟨2, 58, .cells [.h 1 0 n, .i .i64 s]⟩, ⟨1, 5, .ints .u8 P⟩] => .must (n = P.length ∧ (0 ≤ b ∧ b < 256) ∧ (P = [] ∨ okP P)) (.ret (outH P s (cc b)))
  | _, _ => .fail
set_option maxRecDepth 100000 in
theorem kByteI : KnownF Tryz.prog [] 52 tByteI := by
  refine ⟨k_byteZ.goes, fun args regs R h => ?_⟩
  unfold tByteI at h
  split at h
  case h_3 => exact h.elim
  case h_1 =>
    rename_i b s P
    obtain ⟨rfl, hb⟩ := h.1
    exact (kH1 s b).sound _ _ R ⟨⟨rfl, rfl, hb⟩, h.2⟩
  case h_2 =>
    rename_i b n s P
    have h1 := h.1
    have h2 : R (outH P s (cc b)) := h.2
    clear h
    obtain ⟨rfl, hb, hP⟩ := h1
    rcases hP with rfl | hP
    · exact (kH2 s b).sound _ _ R ⟨⟨rfl, rfl, hb⟩, h2⟩
    · exact (kH3 s b P).sound _ _ R ⟨⟨rfl, rfl, hb, hP⟩, h2⟩
set_option maxRecDepth 100000 in
theorem kByteH : KnownF Tryz.prog [] 52 tByteH := by
  refine kByteI.hzIn fun args regs R h => ?_
  unfold tByteH at h
  split at h
  case h_2 => exact h.elim
  rename_i b n s P
  have h1 := h.1
  have h2 : R (outH P s (cc b)) := h.2
  clear h
  refine ⟨0, 0, 1, n, 2, 58, [.hz 1 n, .i .i64 s], rfl, rfl, fun hn => ?_, ⟨h1, h2⟩⟩
  have hP : P = [] := List.eq_nil_of_length_eq_zero (by omega)
  subst hP
  exact ⟨⟨rfl, h1.2.1⟩, h2⟩
end Go.Proofs.YtdijbpokklgjlaaGreatDoor.lxv
