/-
  The lexer: a byte, its ways laid apart; copies of bytes; the function that is ranged over; events that are alike.
-/
import Derived.Test.YtdijbpokklgjlaaGreatDoorLexY
import Derived.Test.YtdijbpokklgjlaaGreatDoorEngC
set_option linter.unusedVariables false
namespace Go.Proofs.YtdijbpokklgjlaaGreatDoor.lxv
open Go Go.Nx Go.Proofs.YtdijbpokklgjlaaGreatDoor.lex

/-! ### a byte, its ways laid apart -/
noncomputable def outD (k : Nat) (pre : List (List Sc)) (s c : Int) (z : Tr Out) : Tr Out :=
  .br (decide (c < 32)) (.br (beg c) (.ret ⟨rows pre, some (lx (.h k 0 1) s) :: tail2 k ++ [some (arr [c])]⟩)
    (.br (shf c) (.ret ⟨rows pre, some (lx .sn (shC c)) :: tail2 k⟩) (.ret ⟨rows (pre ++ [ctlR c]), some (lx .sn s) :: tail2 k⟩))) z
noncomputable def outD1 (s b : Int) : Tr Out := outD 1 [] s (cc b) (.ret ⟨rows [ev 1 0 0 0 0 s (w64 (cc b))], [some (lx .sn s)]⟩)
noncomputable def outD2 (P : List Int) (s b : Int) : Tr Out := outD 2 [ignR] s (cc b) (.br (goOn P (cc b))
  (.ret ⟨rows [], [some (lx (.h 2 0 (P ++ [cc b]).length) s), none, some (arr (P ++ [cc b]))]⟩) (.ret ⟨rows [endsR P (cc b)], [some (lx .sn s), none]⟩))
noncomputable def tByteD : Con := fun args regs => match args, regs with
  | [.c (.p 0 0 0), .c (.i .u8 b)], [⟨2, 58, .cells [.sn, .i .i64 s]⟩] => .must (0 ≤ b ∧ b < 256) (outD1 s b)
  | [.c (.p 0 0 0), .c (.i .u8 b)], [⟨2, 58, .cells [.h 1 0 n, .i .i64 s]⟩, ⟨1, 5, .ints .u8 P⟩] => .must (n = P.length ∧ (0 ≤ b ∧ b < 256) ∧ okP P) (outD2 P s b)
  | _, _ => .fail
theorem beg_shf {c : Int} (h : beg c = true) : shf c = false := by
  unfold beg at h; unfold shf
  simp only [Bool.or_eq_true, beq_iff_eq] at h
  rcases h with ((rfl | rfl) | rfl) | rfl <;> rfl
theorem outD_ctl {k : Nat} {P : List Int} {s c : Int} {z : Tr Out} {R : Out → Prop} (h32 : c < 32) (h : (outD k (if P = [] then [] else [ignR]) s c z).run R) :
    sel (pend P c).isEmpty (R (outA k P s c)) (R (outB k P s c)) := by
  have h : sel (decide (c < 32)) (sel (beg c) (R ⟨rows (if P = [] then [] else [ignR]), some (lx (.h k 0 1) s) :: tail2 k ++ [some (arr [c])]⟩)
    (sel (shf c) (R ⟨rows (if P = [] then [] else [ignR]), some (lx .sn (shC c)) :: tail2 k⟩) (R ⟨rows ((if P = [] then [] else [ignR]) ++ [ctlR c]), some (lx .sn s) :: tail2 k⟩))) (z.run R) := h
  rw [dT h32] at h
  have h : sel (beg c) (R ⟨rows (if P = [] then [] else [ignR]), some (lx (.h k 0 1) s) :: tail2 k ++ [some (arr [c])]⟩)
    (sel (shf c) (R ⟨rows (if P = [] then [] else [ignR]), some (lx .sn (shC c)) :: tail2 k⟩) (R ⟨rows ((if P = [] then [] else [ignR]) ++ [ctlR c]), some (lx .sn s) :: tail2 k⟩)) := h
  rcases sel_iff.1 h with ⟨hb, h⟩ | ⟨hb, h⟩
  · have hs := beg_shf hb
    have e : pend P c = [c] := by unfold pend; rw [if_pos h32, if_pos hb]
    have ev : evts P s c = if P = [] then [] else [ignR] := by unfold evts; rw [if_pos h32, hb]; exact List.append_nil _
    have es : shft s c = s := by unfold shft; rw [hs, if_neg (fun h => by cases h.2)]
    rw [e]
    show R (outB k P s c)
    unfold outB
    rw [e, ev, es]
    exact h
  have e : pend P c = [] := by unfold pend; rw [if_pos h32, hb]; rfl
  rw [e]
  show R (outA k P s c)
  unfold outA
  rcases sel_iff.1 h with ⟨hs, h⟩ | ⟨hs, h⟩
  · have ev : evts P s c = if P = [] then [] else [ignR] := by unfold evts; rw [if_pos h32, hs, Bool.or_true]; exact List.append_nil _
    have es : shft s c = shC c := by unfold shft; rw [if_pos ⟨h32, hs⟩]
    rw [ev, es]
    exact h
  · have ev : evts P s c = (if P = [] then [] else [ignR]) ++ [ctlR c] := by unfold evts; rw [if_pos h32, hb, hs]; rfl
    have es : shft s c = s := by unfold shft; rw [hs, if_neg (fun h => by cases h.2)]
    rw [ev, es]
    exact h
theorem outD_else {k : Nat} {pre : List (List Sc)} {s c : Int} {z : Tr Out} {R : Out → Prop} (h32 : ¬ c < 32) (h : (outD k pre s c z).run R) : z.run R := by
  have h : sel (decide (c < 32)) _ (z.run R) := h
  rw [dF h32] at h
  exact h
set_option maxRecDepth 100000 in
theorem kByteD : Known Tryz.prog [] 52 tByteD := by
  refine kByteB.less fun args regs R h => Box.out ?_
  unfold tByteD at h
  split at h
  case h_3 => exact h.elim
  case h_1 =>
    rename_i b s
    have h1 := h.1
    have h2 : (outD1 s b).run R := h.2
    clear h
    refine ⟨h1, ?_⟩
    show sel (pend [] (cc b)).isEmpty (R (outA 1 [] s (cc b))) (R (outB 1 [] s (cc b)))
    by_cases h32 : cc b < 32
    · exact outD_ctl h32 (by rw [if_pos rfl]; exact h2)
    · have h2 : R ⟨rows [ev 1 0 0 0 0 s (w64 (cc b))], [some (lx .sn s)]⟩ := outD_else h32 h2
      have e : pend [] (cc b) = [] := by unfold pend; rw [if_neg h32, if_pos rfl]
      have ev : evts [] s (cc b) = [ev 1 0 0 0 0 s (w64 (cc b))] := by unfold evts; rw [if_neg h32, if_pos rfl]
      have es : shft s (cc b) = s := by unfold shft; rw [if_neg (fun h => h32 h.1)]
      rw [e]
      show R (outA 1 [] s (cc b))
      unfold outA
      rw [ev, es]
      exact h2
  case h_2 =>
    rename_i b n s P
    have h1 := h.1
    have h2 : (outD2 P s b).run R := h.2
    clear h
    refine ⟨h1, ?_⟩
    have hP := h1.2.2.1
    show sel (pend P (cc b)).isEmpty (R (outA 2 P s (cc b))) (R (outB 2 P s (cc b)))
    by_cases h32 : cc b < 32
    · exact outD_ctl h32 (by rw [if_neg hP]; exact h2)
    · have h2 : sel (goOn P (cc b)) (R ⟨rows [], [some (lx (.h 2 0 (P ++ [cc b]).length) s), none, some (arr (P ++ [cc b]))]⟩) (R ⟨rows [endsR P (cc b)], [some (lx .sn s), none]⟩) := outD_else h32 h2
      have es : shft s (cc b) = s := by unfold shft; rw [if_neg (fun h => h32 h.1)]
      rcases sel_iff.1 h2 with ⟨hg, h2⟩ | ⟨hg, h2⟩
      · have e : pend P (cc b) = P ++ [cc b] := by unfold pend; rw [if_neg h32, if_neg hP, hg]; rfl
        have ev : evts P s (cc b) = [] := by unfold evts; rw [if_neg h32, if_neg hP, hg]; rfl
        rw [e, show (P ++ [cc b]).isEmpty = false by cases P <;> rfl]
        show R (outB 2 P s (cc b))
        unfold outB
        rw [ev, es, e]
        exact h2
      · have e : pend P (cc b) = [] := by unfold pend; rw [if_neg h32, if_neg hP, hg]; rfl
        have ev : evts P s (cc b) = [endsR P (cc b)] := by unfold evts; rw [if_neg h32, if_neg hP, hg]; rfl
        rw [e]
        show R (outA 2 P s (cc b))
        unfold outA
        rw [ev, es]
        exact h2


/-! ### copies of bytes -/
noncomputable def clo (P : List Int) (R : Out → Prop) : Prop := sel (decide ((0 + P.length) * 1 ≤ 140737488355328)) (sel (decide (0 + P.length ≤ 9223372036854775807)) (R ⟨.v (.c (.h 0 0 (0 + P.length))), [some (arr ([] ++ P))]⟩) False) False
theorem clone_tree (P : List Int) (R : Out → Prop) : (t_clone [.c (.l .u8 P)] []).run R = sel P.isEmpty (∀ y : Bool, True → sel y (R ⟨.v (.c .sn), []⟩) (clo P R)) (clo P R) := by kernel_rfl
noncomputable def tCloneL : Con := fun args regs => match args, regs with
  | [.c (.l .u8 P)], [] => .must (P.length ≤ 1000) (.ret ⟨.v (.c (.l .u8 P)), []⟩)
  | _, _ => .fail
theorem wk_arr {R : Out → Prop} {P : List Int} (h : R ⟨.v (.c (.l .u8 P)), []⟩) : wk R ⟨.v (.c (.h 0 0 P.length)), [some (arr P)]⟩ :=
  ⟨_, (Weak.ints (k := 0) (xs := P) rfl).trans (Weak.drop (rg' := []) fun n g hg => by simp at hg), h⟩
set_option maxRecDepth 100000 in
theorem kCloneL : Known Tryz.prog [] 26 tCloneL := by
  refine k_clone.weak fun args regs R h => Box.out ?_
  unfold tCloneL at h
  split at h
  case h_2 => exact h.elim
  rename_i P
  have h1 := h.1
  have h2 : R ⟨.v (.c (.l .u8 P)), []⟩ := h.2
  clear h
  have hc : clo P (wk R) := by
    refine selT (dT (by omega)) (selT (dT (by omega)) ?_)
    rw [Nat.zero_add]
    exact wk_arr h2
  refine Box.of_eq (clone_tree P (wk R)) ?_
  cases hP : P.isEmpty with
  | false => exact selF rfl hc
  | true =>
    refine selT rfl fun y _ => ?_
    cases y with
    | false => exact selF rfl hc
    | true =>
      have : P = [] := by simpa using hP
      subst this
      exact selT rfl ⟨_, Weak.nil_ints, h2⟩

/-! ### the function that is ranged over -/
noncomputable def c_all : FuncId → Option Con := conOf [(26, tCloneL)]
theorem kc_all : ∀ f T, c_all f = some T → Known Tryz.prog [] f T := (Knowns.cons kCloneL Knowns.nil).get
noncomputable def t_all : Con := fun args regs => nfun Tryz.prog [] c_all [] Tryz.f41 args regs
theorem k_all : Known Tryz.prog [] 41 t_all := known_inl Tryz.func41 rfl (by kernel_rfl) mixed kc_all (by kernel_rfl)

/-! ### events that are alike -/
end Go.Proofs.YtdijbpokklgjlaaGreatDoor.lxv
