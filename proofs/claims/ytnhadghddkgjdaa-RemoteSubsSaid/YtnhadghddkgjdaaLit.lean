/-
  ceefaxworld.Number: a number below another one: the number itself for some bounds, for other bounds one of the literals.
-/
import Derived.Test.YtnhadghddkgjdaaNum
namespace Go.Proofs.Ytnhadghddkgjdaa.num
open Go Go.Nx

/-- A number as a literal of a list. -/
def litN (r : Int) : List Nat → Tr Out
  | [] => .fail
  | k :: ks => .br (decide (r = (k : Int))) (.ret ⟨.v (.c (.i .i64 (k : Int))), []⟩) (litN r ks)
theorem litN_run {r : Int} {R : Out → Prop} : ∀ {ks : List Nat}, (litN r ks).run R → R ⟨.v (.c (.i .i64 r)), []⟩
  | [], h => h.elim
  | k :: ks, h => by
    rcases sel_iff.1 h with ⟨c, hR⟩ | ⟨_, hR⟩
    · rw [decide_eq_true_eq] at c; rw [c]; exact hR
    · exact litN_run hR
/-- To each bound of S the number is one of the literals; to others it is the rest. -/
noncomputable def tLitS (S : List Nat) : Con := fun args regs => match args, regs with
  | [.c (.i .i64 n), .c (.i .i64 m)], [] => (match S.any fun k => decide (m = (k : Int)) with
    | true => .must (0 < m ∧ m < 4611686018427387904) (litN (n % m) (List.range m.toNat))
    | false => .must (0 < m ∧ m < 4611686018427387904) (.ret ⟨.v (.c (.i .i64 (n % m))), []⟩))
  | _, _ => .fail
set_option maxRecDepth 100000 in
theorem kLitS (S : List Nat) : Known Try.prog [] 16 (tLitS S) := by
  refine num.kNumV.less fun args regs R h => ?_
  unfold tLitS at h
  split at h
  case h_2 => exact h.elim
  rename_i n m
  split at h
  · exact ⟨h.1, litN_run h.2⟩
  · exact h
/-- One of the numbers below a bound. -/
theorem litN_of {r : Int} {R : Out → Prop} : ∀ {ks : List Nat}, (∃ k ∈ ks, r = (k : Int)) → R ⟨.v (.c (.i .i64 r)), []⟩ → (litN r ks).run R
  | [], h, _ => by obtain ⟨k, hk, _⟩ := h; cases hk
  | k :: ks, h, hR => by
    by_cases c : r = (k : Int)
    · exact sel_iff.2 (.inl ⟨decide_eq_true c, by rw [← c]; exact hR⟩)
    · refine sel_iff.2 (.inr ⟨decide_eq_false c, litN_of ?_ hR⟩)
      obtain ⟨j, hj, e⟩ := h
      rcases List.mem_cons.1 hj with rfl | hj
      · exact (c e).elim
      · exact ⟨j, hj, e⟩
end Go.Proofs.Ytnhadghddkgjdaa.num
