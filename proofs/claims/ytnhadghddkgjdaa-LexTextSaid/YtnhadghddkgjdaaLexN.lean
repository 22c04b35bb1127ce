/-
  The lexer: a byte where nothing is begun.
-/
import Derived.Test.YtnhadghddkgjdaaLexI
import Derived.Test.YtnhadghddkgjdaaEng23
namespace Go.Proofs.Ytnhadghddkgjdaa.lex
open Go Go.Nx Go.RowKit

noncomputable def ctlOf (T : Con) (v : Int) : Con := fun args regs => match args with
  | [.c (.p 0 0 0), .c (.i .u8 x)] => .br (decide (x = v)) (T [.c (.p 0 0 0), .c (.i .u8 v)] regs) .fail
  | _ => .fail
theorem known_ctl {P : Program} {gl : List Nat} {f : FuncId} {T : Con} (k : Known P gl f T) (v : Int) : Known P gl f (ctlOf T v) := by
  refine k.less fun args regs R h => ?_
  unfold ctlOf at h
  split at h
  case h_2 => exact h.elim
  rename_i x
  rcases sel_iff.1 h with ⟨hx, hR⟩ | ⟨_, hR⟩
  · rw [decide_eq_true_eq] at hx
    subst hx
    exact hR
  · exact hR.elim
/-- What is known of the control that stands for a wrong byte. -/
noncomputable def tCtlW : Con := ctlOf t_control 26
theorem kCtlW : Known Try.prog [] 42 tCtlW := known_ctl k_control 26
noncomputable def c_byteN : FuncId → Option Con := conOf [(39, tEvenV), (42, tCtlW), (43, t_char)]
theorem kc_byteN : ∀ f T, c_byteN f = some T → Known Try.prog [] f T := (Knowns.cons kEvenV (Knowns.cons kCtlW (Knowns.cons k_char Knowns.nil))).get
noncomputable def t_byteN : Con := fun args regs => nfun Try.prog [] c_byteN [] Try.f23 args regs
theorem k_byteN : Known Try.prog [] 23 t_byteN := known_inl Try.func23 rfl (by kernel_rfl) mixed kc_byteN (by kernel_rfl)

def outC (s set code : Int) : Out := ⟨.v (.c (.h 1 0 1)), [some (lx .sn s), some ⟨7, 49, .recs K7 [[.i 1, .i 0, .i 0, .i 0, .i 0, .i set, .i code]]⟩]⟩
def treeN (b s : Int) (R : Out → Prop) : Prop := ((0 ≤ b ∧ b < 256) ∧ sel (!isEv b) (R (outC s 0 127)) (sel (decide (cB b < 32)) (sel (decide (cB b = 26)) (R (outC s 0 127)) False) (R (outC s s (w64 (cB b))))))
theorem eN (b s : Int) (R : Out → Prop) : (t_byteN [.c (.p 0 0 0), .c (.i .u8 b)] [lx .sn s]).run R = treeN b s R := by kernel_rfl
/-- A byte where nothing is begun: a letter, or a wrong one; the shift. -/
noncomputable def byteT (T : Con) : Con := fun args regs => match args, regs with
  | [.c (.p 0 0 0), .c (.i .u8 b)], [⟨2, ty, .cells [.sn, .i .i64 s]⟩] => if ty = 43 then .br (decide (b = 142)) (T [.c (.p 0 0 0), .c (.i .u8 142)] [lx .sn s]) (.br (isEv b) (.must ((0 ≤ b ∧ b < 256) ∧ 32 ≤ cB b) (.ret (outC s s (w64 (cB b))))) (.must (0 ≤ b ∧ b < 256) (.ret (outC s 0 127)))) else .fail
  | _, _ => .fail
/-- Both of two things that are known: one where its tree is true, the other one else. -/
theorem known_or {P : Program} {gl : List Nat} {f : FuncId} {T T1 T2 : Con} (k1 : Known P gl f T1) (k2 : Known P gl f T2) (h : ∀ args regs R, (T args regs).run R → (T1 args regs).run R ∨ (T2 args regs).run R) : Known P gl f T := by
  refine ⟨k1.goes, fun args regs R hR => ?_⟩
  rcases h args regs R hR with h1 | h2
  · exact k1.sound args regs R h1
  · exact k2.sound args regs R h2
theorem known_byteT {P : Program} {gl : List Nat} {f : FuncId} {T1 T2 : Con} (k1 : Known P gl f T1) (k2 : Known P gl f T2) (hN : ∀ b s R, (T2 [.c (.p 0 0 0), .c (.i .u8 b)] [lx .sn s]).run R = treeN b s R) : Known P gl f (byteT T1) := by
  refine known_or k1 k2 fun args regs R h => ?_
  unfold byteT at h
  split at h
  case h_2 => exact h.elim
  rename_i b ty s
  split at h
  case isFalse => exact h.elim
  rename_i e
  subst e
  rcases sel_iff.1 h with ⟨hx, hR⟩ | ⟨_, hR⟩
  · left
    rw [decide_eq_true_eq] at hx
    subst hx
    exact hR
  · right
    show (T2 [.c (.p 0 0 0), .c (.i .u8 b)] [lx .sn s]).run R
    rw [hN]
    rcases sel_iff.1 hR with ⟨hv, hm⟩ | ⟨hv, hm⟩
    · have h1 : (0 ≤ b ∧ b < 256) ∧ 32 ≤ cB b := hm.1
      have h2 : R (outC s s (w64 (cB b))) := hm.2
      have h3 := h1.2
      exact ⟨h1.1, selF (by rw [hv]; rfl) (selF (dF (by omega)) h2)⟩
    · have h1 : 0 ≤ b ∧ b < 256 := hm.1
      have h2 : R (outC s 0 127) := hm.2
      exact ⟨h1, selT (by rw [hv]; rfl) h2⟩
noncomputable def tByteT : Con := byteT t_byte0
theorem kByteT : Known Try.prog [] 23 tByteT := known_byteT k_byte0 k_byteN eN
end Go.Proofs.Ytnhadghddkgjdaa.lex
