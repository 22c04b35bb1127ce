/-
  The remote control: next and back, by one contract.
-/
import Derived.Test.YtnhadghddkgjdaaRemD
namespace Go.Proofs.Ytnhadghddkgjdaa.rem
open Go Go.Nx

/-- The number behind a step, round the end. -/
def wrapN (n : Int) : Int := if n > 899 then 100 else if n < 100 then 899 else n
noncomputable def nextN (m p d : Int) : Int := wrapN ((if numF m p = 0 then 100 else numF m p) + d)
theorem steps_in {n : Int} {sub mix : Bool} {R : Out → Prop} (h : R (oT (wrapN n) sub mix)) : steps n sub mix R := by
  unfold steps
  unfold wrapN at h
  by_cases c : n > 899
  · rw [if_pos c] at h
    exact sel_iff.2 (.inl ⟨decide_eq_true c, ⟨by decide, by decide⟩, h⟩)
  · rw [if_neg c] at h
    by_cases c2 : n < 100
    · rw [if_pos c2] at h
      exact sel_iff.2 (.inr ⟨decide_eq_false c, sel_iff.2 (.inl ⟨decide_eq_true c2, ⟨by decide, by decide⟩, h⟩)⟩)
    · rw [if_neg c2] at h
      exact sel_iff.2 (.inr ⟨decide_eq_false c, sel_iff.2 (.inr ⟨decide_eq_false c2, ⟨by omega, by omega⟩, h⟩)⟩)
/-- What is known of the state behind the next page, or the one ahead. -/
noncomputable def tTurns : Con := fun args regs => match args, regs with
  | [.ag [.i .i64 m, .i .i64 p, .i .i64 _, .sn, .sn, .b sub, .b _, .b _, .b mix], .c (.i .i64 d)], [] => .must (d = 1 ∨ d = -1) (.ret (oT (nextN m p d) sub mix))
  | _, _ => .fail
set_option maxRecDepth 100000 in
theorem kTurns : Known Try.prog [] 36 tTurns := by
  refine k_turnsC.less fun args regs R h => ?_
  unfold tTurns at h
  split at h
  case h_2 => exact h.elim
  rename_i m p u sub hold reveal mix d
  have h1 : d = 1 ∨ d = -1 := h.1
  have h2 : R (oT (nextN m p d) sub mix) := h.2
  clear h
  have hr := numF_range m p
  rw [turns_tree]
  unfold nextN at h2
  have w : ∀ x : Int, (x = 100 ∨ (100 ≤ x ∧ x ≤ 899)) → IntKind.i64.wrap (x + d) = x + d := fun x hx => by rw [IntKind.wrap_i64]; omega
  by_cases c : numF m p = 0
  · rw [if_pos c] at h2
    refine sel_iff.2 (.inl ⟨by rw [beq_iff_eq]; exact c, ?_⟩)
    rw [w 100 (.inl rfl)]
    exact steps_in h2
  · rw [if_neg c] at h2
    refine sel_iff.2 (.inr ⟨by rw [beq_eq_false_iff_ne]; exact c, ?_⟩)
    rw [w (numF m p) (.inr (hr.resolve_left c))]
    exact steps_in h2
end Go.Proofs.Ytnhadghddkgjdaa.rem
