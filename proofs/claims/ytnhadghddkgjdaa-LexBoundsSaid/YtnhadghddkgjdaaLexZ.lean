/-
  The lexer: the law LexBounds: its loop, round by round.
-/
import Derived.Test.YtnhadghddkgjdaaLexY
set_option linter.unusedVariables false
namespace Go.Proofs.Ytnhadghddkgjdaa.lxv
open Go Go.Nx Go.Proofs.Ytnhadghddkgjdaa.lex

/-! ### a byte, its ways laid apart -/
noncomputable def outD (k : Nat) (pre : List (List Sc)) (s c : Int) (z : Tr Out) : Tr Out :=
  .br (decide (c < 32)) (.br (beg c) (.ret ⟨rows pre, some (lx (.h k 0 1) s) :: tail2 k ++ [some (arr [c])]⟩)
    (.br (shf c) (.ret ⟨rows pre, some (lx .sn (shC c)) :: tail2 k⟩) (.ret ⟨rows (pre ++ [ctlR c]), some (lx .sn s) :: tail2 k⟩))) z
noncomputable def outD1 (s b : Int) : Tr Out := outD 1 [] s (cc b) (.ret ⟨rows [ev 1 0 0 0 0 s (w64 (cc b))], [some (lx .sn s)]⟩)
noncomputable def outD2 (P : List Int) (s b : Int) : Tr Out := outD 2 [ignR] s (cc b) (.br (goOn P (cc b))
  (.ret ⟨rows [], [some (lx (.h 2 0 (P ++ [cc b]).length) s), none, some (arr (P ++ [cc b]))]⟩) (.ret ⟨rows [endsR P (cc b)], [some (lx .sn s), none]⟩))
noncomputable def tByteD : Con := fun args regs => match args, regs with
  | [.c (.p 0 0 0), .c (.i .u8 b)], [⟨2, 43, .cells [.sn, .i .i64 s]⟩] => .must (0 ≤ b ∧ b < 256) (outD1 s b)
  | [.c (.p 0 0 0), .c (.i .u8 b)], [⟨2, 43, .cells [.h 1 0 n, .i .i64 s]⟩, ⟨1, 5, .ints .u8 P⟩] => .must (n = P.length ∧ (0 ≤ b ∧ b < 256) ∧ okP P) (outD2 P s b)
  | _, _ => .fail
theorem beg_shf {c : Int} (h : beg c = true) : shf c = false := by
  unfold beg at h; unfold shf
  simp only [Bool.or_eq_true, beq_iff_eq] at h
  rcases h with ((rfl | rfl) | rfl) | rfl <;> rfl
theorem outD_ctl {k : Nat} {P : List Int} {s c : Int} {z : Tr Out} {R : Out → Prop} (h32 : c < 32) (h : (outD k (if P = [] then [] else [ignR]) s c z).run R) :
    sel (pend P c).isEmpty (R (outA k P s c)) (R (outB k P s c)) := by
  have h : sel (decide (c < 32)) (sel (beg c) (R ⟨rows (if P = [] then [] else [ignR]), some (lx (.h k 0 1) s) :: tail2 k ++ [some (arr [c])]⟩)
    (sel (shf c) (R ⟨rows (if P = [] then [] else [ignR]), some (lx .sn (shC c)) :: tail2 k⟩) (R ⟨rows ((if P = [] then [] else [ignR]) ++ [ctlR c]), some (lx .sn s) :: tail2 k⟩))) (z.run R) := h
  rw [dT h32] at h
  have h : sel (beg c) (R ⟨rows (if P = [] then [] else [ignR]), some (lx (.h k 0 1) s) :: tail2 k ++ [some (arr [c])]⟩)
    (sel (shf c) (R ⟨rows (if P = [] then [] else [ignR]), some (lx .sn (shC c)) :: tail2 k⟩) (R ⟨rows ((if P = [] then [] else [ignR]) ++ [ctlR c]), some (lx .sn s) :: tail2 k⟩)) := h
  rcases sel_iff.1 h with ⟨hb, h⟩ | ⟨hb, h⟩
  · have hs := beg_shf hb
    have e : pend P c = [c] := by unfold pend; rw [if_pos h32, if_pos hb]
    have ev : evts P s c = if P = [] then [] else [ignR] := by unfold evts; rw [if_pos h32, hb]; exact List.append_nil _
    have es : shft s c = s := by unfold shft; rw [hs, if_neg (fun h => by cases h.2)]
    rw [e]
    show R (outB k P s c)
    unfold outB
    rw [e, ev, es]
    exact h
  have e : pend P c = [] := by unfold pend; rw [if_pos h32, hb]; rfl
  rw [e]
  show R (outA k P s c)
  unfold outA
  rcases sel_iff.1 h with ⟨hs, h⟩ | ⟨hs, h⟩
  · have ev : evts P s c = if P = [] then [] else [ignR] := by unfold evts; rw [if_pos h32, hs, Bool.or_true]; exact List.append_nil _
    have es : shft s c = shC c := by unfold shft; rw [if_pos ⟨h32, hs⟩]
    rw [ev, es]
    exact h
  · have ev : evts P s c = (if P = [] then [] else [ignR]) ++ [ctlR c] := by unfold evts; rw [if_pos h32, hb, hs]; rfl
    have es : shft s c = s := by unfold shft; rw [hs, if_neg (fun h => by cases h.2)]
    rw [ev, es]
    exact h
theorem outD_else {k : Nat} {pre : List (List Sc)} {s c : Int} {z : Tr Out} {R : Out → Prop} (h32 : ¬ c < 32) (h : (outD k pre s c z).run R) : z.run R := by
  have h : sel (decide (c < 32)) _ (z.run R) := h
  rw [dF h32] at h
  exact h
set_option maxRecDepth 100000 in
theorem kByteD : Known Try.prog [] 23 tByteD := by
  refine kByteB.less fun args regs R h => Box.out ?_
  unfold tByteD at h
  split at h
  case h_3 => exact h.elim
  case h_1 =>
    rename_i b s
    have h1 := h.1
    have h2 : (outD1 s b).run R := h.2
    clear h
    refine ⟨h1, ?_⟩
    show sel (pend [] (cc b)).isEmpty (R (outA 1 [] s (cc b))) (R (outB 1 [] s (cc b)))
    by_cases h32 : cc b < 32
    · exact outD_ctl h32 (by rw [if_pos rfl]; exact h2)
    · have h2 : R ⟨rows [ev 1 0 0 0 0 s (w64 (cc b))], [some (lx .sn s)]⟩ := outD_else h32 h2
      have e : pend [] (cc b) = [] := by unfold pend; rw [if_neg h32, if_pos rfl]
      have ev : evts [] s (cc b) = [ev 1 0 0 0 0 s (w64 (cc b))] := by unfold evts; rw [if_neg h32, if_pos rfl]
      have es : shft s (cc b) = s := by unfold shft; rw [if_neg (fun h => h32 h.1)]
      rw [e]
      show R (outA 1 [] s (cc b))
      unfold outA
      rw [ev, es]
      exact h2
  case h_2 =>
    rename_i b n s P
    have h1 := h.1
    have h2 : (outD2 P s b).run R := h.2
    clear h
    refine ⟨h1, ?_⟩
    have hP := h1.2.2.1
    show sel (pend P (cc b)).isEmpty (R (outA 2 P s (cc b))) (R (outB 2 P s (cc b)))
    by_cases h32 : cc b < 32
    · exact outD_ctl h32 (by rw [if_neg hP]; exact h2)
    · have h2 : sel (goOn P (cc b)) (R ⟨rows [], [some (lx (.h 2 0 (P ++ [cc b]).length) s), none, some (arr (P ++ [cc b]))]⟩) (R ⟨rows [endsR P (cc b)], [some (lx .sn s), none]⟩) := outD_else h32 h2
      have es : shft s (cc b) = s := by unfold shft; rw [if_neg (fun h => h32 h.1)]
      rcases sel_iff.1 h2 with ⟨hg, h2⟩ | ⟨hg, h2⟩
      · have e : pend P (cc b) = P ++ [cc b] := by unfold pend; rw [if_neg h32, if_neg hP, hg]; rfl
        have ev : evts P s (cc b) = [] := by unfold evts; rw [if_neg h32, if_neg hP, hg]; rfl
        rw [e, show (P ++ [cc b]).isEmpty = false by cases P <;> rfl]
        show R (outB 2 P s (cc b))
        unfold outB
        rw [ev, es, e]
        exact h2
      · have e : pend P (cc b) = [] := by unfold pend; rw [if_neg h32, if_neg hP, hg]; rfl
        have ev : evts P s (cc b) = [endsR P (cc b)] := by unfold evts; rw [if_neg h32, if_neg hP, hg]; rfl
        rw [e]
        show R (outA 2 P s (cc b))
        unfold outA
        rw [ev, es]
        exact h2

/-! ### parity, as the document has it -/
noncomputable def tOddR : Con := fun args regs => match args, regs with
  | [.c (.i .u8 b)], [] => .must (0 ≤ b ∧ b < 256) (.ret ⟨.v (.c (.b (!isEv b))), []⟩)
  | _, _ => .fail
theorem odd_tree (b : Int) (R : Out → Prop) : (t_odd2 [.c (.i .u8 b)] []).run R = ((0 ≤ IntKind.i64.wrap b ∧ IntKind.i64.wrap b < 9223372036854775808) ∧ R ⟨.v (.c (.b ((ones.bl (IntKind.i64.wrap b).toNat : Int).tmod 2 == 1))), []⟩) := by kernel_rfl
theorem isEv_all : ∀ n < 256, isEv (Int.ofNat n) = !(ones.par n 8) := by decide +kernel
theorem kOddR : Known Try.prog [] 24 tOddR := by
  refine k_odd2.less fun args regs R h => ?_
  unfold tOddR at h
  split at h
  case h_2 => exact h.elim
  rename_i b
  have h1 := h.1
  have h2 : R ⟨.v (.c (.b (!isEv b))), []⟩ := h.2
  clear h
  have e : b = Int.ofNat b.toNat := by show b = ((b.toNat : Nat) : Int); omega
  have hn : b.toNat < 256 := by omega
  generalize b.toNat = n at *
  subst e
  have hw : IntKind.i64.wrap (Int.ofNat n) = ((n : Nat) : Int) := by
    rw [IntKind.wrap_i64]
    show (((n : Nat) : Int) + _) % _ - _ = _
    omega
  rw [odd_tree, hw, Int.toNat_natCast]
  refine ⟨⟨by omega, by omega⟩, ?_⟩
  have hp := ones.bl_par 8 n hn
  have hq : ((ones.bl n : Int).tmod 2 == 1) = !isEv (Int.ofNat n) := by
    rw [isEv_all n hn, Bool.not_not, Int.tmod_eq_emod_of_nonneg (Int.natCast_nonneg _)]
    cases hb : ones.par n 8 <;> rw [hb] at hp <;> simp [Bool.toNat] at hp ⊢ <;> omega
  rw [hq]
  exact h2

/-! ### what is begun, as it is told -/
theorem pend_treeA (s : Int) (R : Out → Prop) : (t_pending [.c (.p 0 0 0)] [lx .sn s]).run R = R ⟨.v (.c .sn), [some (lx .sn s)]⟩ := by kernel_rfl
theorem pend_treeB (s : Int) (P : List Int) (R : Out → Prop) : (t_pending [.c (.p 0 0 0)] [lx (.h 1 0 P.length) s, arr P]).run R =
    sel (decide (0 + P.length ≤ P.length)) (sel (!(List.take P.length (List.drop 0 P)).isEmpty) (sel (decide ((0 + (List.take P.length (List.drop 0 P)).length) * 1 ≤ 140737488355328)) (sel (decide (0 + (List.take P.length (List.drop 0 P)).length ≤ 9223372036854775807))
     (R ⟨.v (.c (.h 2 0 (0 + (List.take P.length (List.drop 0 P)).length))), [some (lx (.h 1 0 P.length) s), some (arr P), some (arr ([] ++ List.take P.length (List.drop 0 P)))]⟩) False) False) False) False := by kernel_rfl
def pendO (s : Int) (P : List Int) : Out := ⟨.v (.c (.h 2 0 P.length)), [some (lx (.h 1 0 P.length) s), some (arr P), some (arr P)]⟩
noncomputable def tPendS : Con := fun args regs => match args, regs with
  | [.c (.p 0 0 0)], [⟨2, 43, .cells [.sn, .i .i64 s]⟩] => .ret ⟨.v (.c .sn), [some (lx .sn s)]⟩
  | [.c (.p 0 0 0)], [⟨2, 43, .cells [.h 1 0 n, .i .i64 s]⟩, ⟨1, 5, .ints .u8 P⟩] => .must (n = P.length ∧ P ≠ [] ∧ P.length ≤ 100) (.ret (pendO s P))
  | _, _ => .fail
set_option maxRecDepth 100000 in
theorem kPendS : Known Try.prog [] 22 tPendS := by
  refine k_pending.less fun args regs R h => Box.out ?_
  unfold tPendS at h
  split at h
  case h_3 => exact h.elim
  case h_1 =>
    rename_i s
    exact Box.of_eq (pend_treeA s R) h
  case h_2 =>
    rename_i n s P
    have h1 := h.1
    have h2 : R (pendO s P) := h.2
    clear h
    obtain ⟨rfl, hP, h100⟩ := h1
    have e : List.take P.length (List.drop 0 P) = P := by rw [List.drop_zero, List.take_length]
    refine Box.of_eq (pend_treeB s P R) ?_
    rw [e]
    refine selT (dT (by omega)) (selT (by cases P with | nil => exact (hP rfl).elim | cons => rfl) (selT (dT (by omega)) (selT (dT (by omega)) ?_)))
    rw [Nat.zero_add]
    exact h2

/-! ### the law's rounds -/
noncomputable abbrev fBnd := Try.f8
noncomputable def cBnd : FuncId → Option Con := conOf [(23, tByteD), (22, tPendS), (24, tOddR), (21, tYes)]
theorem kcBnd : ∀ f T, cBnd f = some T → Known Try.prog [] f T := (Knowns.cons kByteD (.cons kPendS (.cons kOddR (.cons kYes .nil)))).get
noncomputable def XBnd : Cx := { P := Try.prog, con := cBnd, glob := [], m := 0, loops := [] }
noncomputable def sBndA (bs : List Int) (ok : Bool) (s i : Int) : St := { fr := frame 111 [(0, .v (.c (.l .u8 bs))), (3, .v (.c (.b ok))), (4, .v (.c (.p 0 0 0))), (5, .v (.c (.i .i64 i)))], rg := [some (lx .sn s)] }
noncomputable def sBndB (bs : List Int) (ok : Bool) (P : List Int) (s i : Int) : St := { fr := frame 111 [(0, .v (.c (.l .u8 bs))), (3, .v (.c (.b ok))), (4, .v (.c (.p 0 0 0))), (5, .v (.c (.i .i64 i)))], rg := [some (lx (.h 1 0 P.length) s), some (arr P)] }
noncomputable def rndBnd (s : St) : Tr RO := roundT XBnd 0 [0, 3, 4, 5] [2, 3] (bodyLoop fBnd 0) s
end Go.Proofs.Ytnhadghddkgjdaa.lxv
