/-
  The screen: attributes; what a sign lays.
-/
import Derived.Test.YtdijbpokklgjlaaGreatDoorScC
set_option linter.unusedVariables false
namespace Go.Proofs.YtdijbpokklgjlaaGreatDoor.scr
open Go Go.Nx
set_option maxRecDepth 100000

/-! ### attributes -/
def waitS (a : Int) (s : Scr) : Scr := if a = 88 ∨ a = 95 then { s with co := a == 88, wt := true } else if a = 90 ∨ a = 89 then { s with un := a == 90, wt := true } else { s with bg := w64 (a - 80), wt := true }
/-- With one number, whatever it is. -/
noncomputable def conR1 (f : Int → Scr → Scr) : Con := fun args regs => onS args regs fun l s => match l with
  | [.c (.i .i64 a)] => .ret (done (f a s))
  | _ => .fail
theorem conR1_in {f : Int → Scr → Scr} {args : List NV} {regs : List Reg} {R : Out → Prop} (h : (conR1 f args regs).run R) : ∃ a s, args = [.c (.p 0 0 0), .c (.i .i64 a)] ∧ regs = [scr s] ∧ R (done (f a s)) := by
  obtain ⟨l, s, rfl, rfl, h'⟩ := onS_in h
  clear h
  split at h'
  · exact ⟨_, s, rfl, rfl, h'⟩
  · exact h'.elim
noncomputable def t_waiting : Con := fun args regs => nfun Tryz.prog [] (fun _ => Option.none) [] Tryz.f84 args regs
theorem k_waiting : Known Tryz.prog [] 84 t_waiting := known_inl Tryz.func84 rfl (by kernel_rfl) mixed con_none (by kernel_rfl)
theorem waiting_tree (a : Int) (s : Scr) (R : Out → Prop) : (t_waiting [.c (.p 0 0 0), .c (.i .i64 a)] [scr s]).run R =
    sel (a == 88) (R (done { s with co := a == 88, wt := true })) (sel (a == 95) (R (done { s with co := a == 88, wt := true })) (sel (a == 90) (R (done { s with un := a == 90, wt := true })) (sel (a == 89) (R (done { s with un := a == 90, wt := true }))
      (R (done { s with bg := w64 (a - 80), wt := true }))))) := by kernel_rfl
noncomputable def tWaiting : Con := conR1 waitS
theorem kWaiting : Known Tryz.prog [] 84 tWaiting := by
  refine k_waiting.less fun args regs R h => Box.out ?_
  obtain ⟨a, s, rfl, rfl, h2⟩ := conR1_in h
  unfold waitS at h2
  refine Box.of_eq (waiting_tree a s R) (sel_eq (fun e => ?_) fun e => sel_eq (fun e2 => ?_) fun e2 => sel_eq (fun e3 => ?_) fun e3 => sel_eq (fun e4 => ?_) fun e4 => ?_)
  · rw [if_pos (.inl e)] at h2; exact h2
  · rw [if_pos (.inr e2)] at h2; exact h2
  · rw [if_neg (by omega), if_pos (.inl e3)] at h2; exact h2
  · rw [if_neg (by omega), if_pos (.inr e4)] at h2; exact h2
  · rw [if_neg (by omega), if_neg (by omega)] at h2; exact h2
def sizedS (a b : Bool) (s : Scr) : Scr := { s with ta := a, wi := b }
noncomputable def t_sized : Con := fun args regs => nfun Tryz.prog [] (fun _ => Option.none) [] Tryz.f85 args regs
theorem k_sized : Known Tryz.prog [] 85 t_sized := known_inl Tryz.func85 rfl (by kernel_rfl) mixed con_none (by kernel_rfl)
theorem sized_tree (a b : Bool) (s : Scr) (R : Out → Prop) : (t_sized [.c (.p 0 0 0), .c (.b a), .c (.b b)] [scr s]).run R = R (done (sizedS a b s)) := by kernel_rfl
noncomputable def tSized : Con := fun args regs => onS args regs fun l s => match l with
  | [.c (.b a), .c (.b b)] => .ret (done (sizedS a b s))
  | _ => .fail
theorem kSized : Known Tryz.prog [] 85 tSized := by
  refine k_sized.less fun args regs R h => Box.out ?_
  obtain ⟨l, s, rfl, rfl, h'⟩ := onS_in h
  clear h
  split at h'
  case h_2 => exact h'.elim
  exact Box.of_eq (sized_tree _ _ s R) h'
def attrB (a : Int) (s : Scr) : Scr := if a = 72 ∨ a = 73 then { s with fl := a == 72 } else if a = 76 ∨ a = 77 ∨ a = 78 ∨ a = 79 then sizedS (a == 77 || a == 79) (a == 78 || a == 79) s else if a = 92 ∨ a = 93 then { s with iv := a == 93 } else s
def attrS (a : Int) (s : Scr) : Scr := attrB a (if 64 ≤ a ∧ a < 72 then { s with fg := a - 64 } else if (80 ≤ a ∧ a < 88) ∨ a = 88 ∨ a = 95 ∨ a = 90 ∨ a = 89 then waitS a s else s)
noncomputable def c_attr : FuncId → Option Con := conOf [(84, tWaiting), (85, tSized)]
theorem kc_attr : ∀ f T, c_attr f = some T → Known Tryz.prog [] f T := (Knowns.cons kWaiting (Knowns.cons kSized Knowns.nil)).get
noncomputable def t_attr : Con := fun args regs => nfun Tryz.prog [] c_attr [] Tryz.f59 args regs
theorem k_attr : Known Tryz.prog [] 59 t_attr := known_inl Tryz.func59 rfl (by kernel_rfl) mixed kc_attr (by kernel_rfl)
theorem attr_64 (s : Scr) (R : Out → Prop) : (t_attr [.c (.p 0 0 0), .c (.i .i64 64)] [scr s]).run R = R (done (attrS 64 s)) := by kernel_rfl
theorem attr_65 (s : Scr) (R : Out → Prop) : (t_attr [.c (.p 0 0 0), .c (.i .i64 65)] [scr s]).run R = R (done (attrS 65 s)) := by kernel_rfl
theorem attr_66 (s : Scr) (R : Out → Prop) : (t_attr [.c (.p 0 0 0), .c (.i .i64 66)] [scr s]).run R = R (done (attrS 66 s)) := by kernel_rfl
theorem attr_67 (s : Scr) (R : Out → Prop) : (t_attr [.c (.p 0 0 0), .c (.i .i64 67)] [scr s]).run R = R (done (attrS 67 s)) := by kernel_rfl
theorem attr_68 (s : Scr) (R : Out → Prop) : (t_attr [.c (.p 0 0 0), .c (.i .i64 68)] [scr s]).run R = R (done (attrS 68 s)) := by kernel_rfl
theorem attr_69 (s : Scr) (R : Out → Prop) : (t_attr [.c (.p 0 0 0), .c (.i .i64 69)] [scr s]).run R = R (done (attrS 69 s)) := by kernel_rfl
theorem attr_70 (s : Scr) (R : Out → Prop) : (t_attr [.c (.p 0 0 0), .c (.i .i64 70)] [scr s]).run R = R (done (attrS 70 s)) := by kernel_rfl
theorem attr_71 (s : Scr) (R : Out → Prop) : (t_attr [.c (.p 0 0 0), .c (.i .i64 71)] [scr s]).run R = R (done (attrS 71 s)) := by kernel_rfl
theorem attr_72 (s : Scr) (R : Out → Prop) : (t_attr [.c (.p 0 0 0), .c (.i .i64 72)] [scr s]).run R = R (done (attrS 72 s)) := by kernel_rfl
theorem attr_73 (s : Scr) (R : Out → Prop) : (t_attr [.c (.p 0 0 0), .c (.i .i64 73)] [scr s]).run R = R (done (attrS 73 s)) := by kernel_rfl
theorem attr_74 (s : Scr) (R : Out → Prop) : (t_attr [.c (.p 0 0 0), .c (.i .i64 74)] [scr s]).run R = R (done (attrS 74 s)) := by kernel_rfl
theorem attr_75 (s : Scr) (R : Out → Prop) : (t_attr [.c (.p 0 0 0), .c (.i .i64 75)] [scr s]).run R = R (done (attrS 75 s)) := by kernel_rfl
theorem attr_76 (s : Scr) (R : Out → Prop) : (t_attr [.c (.p 0 0 0), .c (.i .i64 76)] [scr s]).run R = R (done (attrS 76 s)) := by kernel_rfl
theorem attr_77 (s : Scr) (R : Out → Prop) : (t_attr [.c (.p 0 0 0), .c (.i .i64 77)] [scr s]).run R = R (done (attrS 77 s)) := by kernel_rfl
theorem attr_78 (s : Scr) (R : Out → Prop) : (t_attr [.c (.p 0 0 0), .c (.i .i64 78)] [scr s]).run R = R (done (attrS 78 s)) := by kernel_rfl
theorem attr_79 (s : Scr) (R : Out → Prop) : (t_attr [.c (.p 0 0 0), .c (.i .i64 79)] [scr s]).run R = R (done (attrS 79 s)) := by kernel_rfl
theorem attr_80 (s : Scr) (R : Out → Prop) : (t_attr [.c (.p 0 0 0), .c (.i .i64 80)] [scr s]).run R = R (done (attrS 80 s)) := by kernel_rfl
theorem attr_81 (s : Scr) (R : Out → Prop) : (t_attr [.c (.p 0 0 0), .c (.i .i64 81)] [scr s]).run R = R (done (attrS 81 s)) := by kernel_rfl
theorem attr_82 (s : Scr) (R : Out → Prop) : (t_attr [.c (.p 0 0 0), .c (.i .i64 82)] [scr s]).run R = R (done (attrS 82 s)) := by kernel_rfl
theorem attr_83 (s : Scr) (R : Out → Prop) : (t_attr [.c (.p 0 0 0), .c (.i .i64 83)] [scr s]).run R = R (done (attrS 83 s)) := by kernel_rfl
theorem attr_84 (s : Scr) (R : Out → Prop) : (t_attr [.c (.p 0 0 0), .c (.i .i64 84)] [scr s]).run R = R (done (attrS 84 s)) := by kernel_rfl
theorem attr_85 (s : Scr) (R : Out → Prop) : (t_attr [.c (.p 0 0 0), .c (.i .i64 85)] [scr s]).run R = R (done (attrS 85 s)) := by kernel_rfl
theorem attr_86 (s : Scr) (R : Out → Prop) : (t_attr [.c (.p 0 0 0), .c (.i .i64 86)] [scr s]).run R = R (done (attrS 86 s)) := by kernel_rfl
theorem attr_87 (s : Scr) (R : Out → Prop) : (t_attr [.c (.p 0 0 0), .c (.i .i64 87)] [scr s]).run R = R (done (attrS 87 s)) := by kernel_rfl
theorem attr_88 (s : Scr) (R : Out → Prop) : (t_attr [.c (.p 0 0 0), .c (.i .i64 88)] [scr s]).run R = R (done (attrS 88 s)) := by kernel_rfl
theorem attr_89 (s : Scr) (R : Out → Prop) : (t_attr [.c (.p 0 0 0), .c (.i .i64 89)] [scr s]).run R = R (done (attrS 89 s)) := by kernel_rfl
theorem attr_90 (s : Scr) (R : Out → Prop) : (t_attr [.c (.p 0 0 0), .c (.i .i64 90)] [scr s]).run R = R (done (attrS 90 s)) := by kernel_rfl
theorem attr_91 (s : Scr) (R : Out → Prop) : (t_attr [.c (.p 0 0 0), .c (.i .i64 91)] [scr s]).run R = R (done (attrS 91 s)) := by kernel_rfl
theorem attr_92 (s : Scr) (R : Out → Prop) : (t_attr [.c (.p 0 0 0), .c (.i .i64 92)] [scr s]).run R = R (done (attrS 92 s)) := by kernel_rfl
theorem attr_93 (s : Scr) (R : Out → Prop) : (t_attr [.c (.p 0 0 0), .c (.i .i64 93)] [scr s]).run R = R (done (attrS 93 s)) := by kernel_rfl
theorem attr_94 (s : Scr) (R : Out → Prop) : (t_attr [.c (.p 0 0 0), .c (.i .i64 94)] [scr s]).run R = R (done (attrS 94 s)) := by kernel_rfl
theorem attr_95 (s : Scr) (R : Out → Prop) : (t_attr [.c (.p 0 0 0), .c (.i .i64 95)] [scr s]).run R = R (done (attrS 95 s)) := by kernel_rfl
def w_lo (a : Int) : List RC := [.f (decide (a ≥ 64)), .F 3, .f (decide (a ≥ 80)), .F 3, .f (a == 88), .f (a == 95), .f (a == 90), .f (a == 89), .f (a == 72), .f (a == 73), .f (a == 76), .f (a == 77), .f (a == 78), .f (a == 79), .f (a == 93), .f (a == 92)]
theorem r_lo (a : Int) (s : Scr) (R : Out → Prop) : ((t_attr [.c (.p 0 0 0), .c (.i .i64 a)] [scr s]).fol (Nx.scr (w_lo a))).run R = road (w_lo a) (R (done s)) := by kernel_rfl
def w_hi (a : Int) : List RC := [.t (decide (a ≥ 64)), .T 2, .f (decide (a < 72)), .t (decide (a ≥ 80)), .T 2, .f (decide (a < 88)), .f (a == 88), .f (a == 95), .f (a == 90), .f (a == 89), .f (a == 72), .f (a == 73), .f (a == 76), .f (a == 77), .f (a == 78), .f (a == 79), .f (a == 93), .f (a == 92)]
theorem r_hi (a : Int) (s : Scr) (R : Out → Prop) : ((t_attr [.c (.p 0 0 0), .c (.i .i64 a)] [scr s]).fol (Nx.scr (w_hi a))).run R = road (w_hi a) (R (done s)) := by kernel_rfl
noncomputable def tAttr : Con := conR1 attrS
theorem kAttr : Known Tryz.prog [] 59 tAttr := by
  refine k_attr.less fun args regs R h => Box.out ?_
  obtain ⟨a, s, rfl, rfl, h2⟩ := conR1_in h
  clear h
  by_cases hlo : a < 64
  · have e : attrS a s = s := by unfold attrS attrB; rw [if_neg (by omega), if_neg (by omega), if_neg (by omega), if_neg (by omega), if_neg (by omega)]
    rw [e] at h2
    refine ⟨by_road (r_lo a s R) ?_ h2⟩
    exact ⟨dF (by omega), dF (by omega), bF (by omega), bF (by omega), bF (by omega), bF (by omega), bF (by omega), bF (by omega), bF (by omega), bF (by omega), bF (by omega), bF (by omega), bF (by omega), bF (by omega), trivial⟩
  by_cases hhi : 95 < a
  · have e : attrS a s = s := by unfold attrS attrB; rw [if_neg (by omega), if_neg (by omega), if_neg (by omega), if_neg (by omega), if_neg (by omega)]
    rw [e] at h2
    refine ⟨by_road (r_hi a s R) ?_ h2⟩
    exact ⟨dT (by omega), dF (by omega), dT (by omega), dF (by omega), bF (by omega), bF (by omega), bF (by omega), bF (by omega), bF (by omega), bF (by omega), bF (by omega), bF (by omega), bF (by omega), bF (by omega), bF (by omega), bF (by omega), trivial⟩
  have hc : a = 64 ∨ a = 65 ∨ a = 66 ∨ a = 67 ∨ a = 68 ∨ a = 69 ∨ a = 70 ∨ a = 71 ∨ a = 72 ∨ a = 73 ∨ a = 74 ∨ a = 75 ∨ a = 76 ∨ a = 77 ∨ a = 78 ∨ a = 79 ∨ a = 80 ∨ a = 81 ∨ a = 82 ∨ a = 83 ∨ a = 84 ∨ a = 85 ∨ a = 86 ∨ a = 87 ∨ a = 88 ∨ a = 89 ∨ a = 90 ∨ a = 91 ∨ a = 92 ∨ a = 93 ∨ a = 94 ∨ a = 95 := by omega
  rcases hc with rfl | rfl | rfl | rfl | rfl | rfl | rfl | rfl | rfl | rfl | rfl | rfl | rfl | rfl | rfl | rfl | rfl | rfl | rfl | rfl | rfl | rfl | rfl | rfl | rfl | rfl | rfl | rfl | rfl | rfl | rfl | rfl
  · exact Box.of_eq (attr_64 s R) h2
  · exact Box.of_eq (attr_65 s R) h2
  · exact Box.of_eq (attr_66 s R) h2
  · exact Box.of_eq (attr_67 s R) h2
  · exact Box.of_eq (attr_68 s R) h2
  · exact Box.of_eq (attr_69 s R) h2
  · exact Box.of_eq (attr_70 s R) h2
  · exact Box.of_eq (attr_71 s R) h2
  · exact Box.of_eq (attr_72 s R) h2
  · exact Box.of_eq (attr_73 s R) h2
  · exact Box.of_eq (attr_74 s R) h2
  · exact Box.of_eq (attr_75 s R) h2
  · exact Box.of_eq (attr_76 s R) h2
  · exact Box.of_eq (attr_77 s R) h2
  · exact Box.of_eq (attr_78 s R) h2
  · exact Box.of_eq (attr_79 s R) h2
  · exact Box.of_eq (attr_80 s R) h2
  · exact Box.of_eq (attr_81 s R) h2
  · exact Box.of_eq (attr_82 s R) h2
  · exact Box.of_eq (attr_83 s R) h2
  · exact Box.of_eq (attr_84 s R) h2
  · exact Box.of_eq (attr_85 s R) h2
  · exact Box.of_eq (attr_86 s R) h2
  · exact Box.of_eq (attr_87 s R) h2
  · exact Box.of_eq (attr_88 s R) h2
  · exact Box.of_eq (attr_89 s R) h2
  · exact Box.of_eq (attr_90 s R) h2
  · exact Box.of_eq (attr_91 s R) h2
  · exact Box.of_eq (attr_92 s R) h2
  · exact Box.of_eq (attr_93 s R) h2
  · exact Box.of_eq (attr_94 s R) h2
  · exact Box.of_eq (attr_95 s R) h2
end Go.Proofs.YtdijbpokklgjlaaGreatDoor.scr
