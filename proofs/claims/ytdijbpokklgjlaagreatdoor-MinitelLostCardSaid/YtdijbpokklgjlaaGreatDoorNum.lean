/-
  ceefaxworld.Number: a number below another one.
-/
import Derived.Test.YtdijbpokklgjlaaGreatDoorEngC
import Derived.Test.YtdijbpokklgjlaaGreatDoorPbv
import Derived.Test.YtdijbpokklgjlaaGreatDoorRows
namespace Go.Proofs.YtdijbpokklgjlaaGreatDoor.num
open Go Go.Nx

theorem mixed : Tryz.prog.follows .mixedOrders = true := by kernel_rfl
noncomputable def tNum : Con := fun args regs => nfun Tryz.prog [] (fun _ => Option.none) [] Tryz.f11 args regs
theorem kNum : Known Tryz.prog [] 11 tNum := known_inl Tryz.func11 rfl (by kernel_rfl) mixed con_none (by kernel_rfl)
theorem num_tree (n m : Int) (R : Out → Prop) : (tNum [.c (.i .i64 n), .c (.i .i64 m)] []).run R = sel (m != 0) (sel (decide (Int.tmod n m < 0)) (R ⟨.v (.c (.i .i64 (IntKind.i64.wrap (Int.tmod n m + m)))), []⟩) (R ⟨.v (.c (.i .i64 (Int.tmod n m))), []⟩)) False := by kernel_rfl
noncomputable def tNumV : Con := fun args regs => match args, regs with
  | [.c (.i .i64 n), .c (.i .i64 m)], [] => .must (0 < m ∧ m < 4611686018427387904) (.ret ⟨.v (.c (.i .i64 (n % m))), []⟩)
  | _, _ => .fail
set_option maxRecDepth 100000 in
theorem kNumV : Known Tryz.prog [] 11 tNumV := by
  refine kNum.less fun args regs R h => ?_
  unfold tNumV at h
  split at h
  case h_2 => exact h.elim
  rename_i n m
  have h1 := h.1
  have h2 : R ⟨.v (.c (.i .i64 (n % m))), []⟩ := h.2
  clear h
  rw [num_tree]
  have a1 := Int.tmod_lt_of_pos n h1.1
  have a2 : -m < Int.tmod n m := by
    have := Int.tmod_lt_of_pos (-n) h1.1
    rw [Int.neg_tmod] at this
    omega
  have a3 : n % m = if Int.tmod n m < 0 then Int.tmod n m + m else Int.tmod n m := by
    rw [Int.emod_eq_tmod]
    by_cases c : 0 ≤ n ∨ m ∣ n
    · rw [if_pos c]
      rcases c with c | c
      · have : ¬ Int.tmod n m < 0 := by
          have := Int.tmod_nonneg m c
          omega
        rw [if_neg this]; omega
      · have : Int.tmod n m = 0 := Int.tmod_eq_zero_of_dvd c
        rw [this]; simp
    · rw [if_neg c]
      have c1 : ¬ 0 ≤ n := fun h => c (.inl h)
      have c2 : ¬ m ∣ n := fun h => c (.inr h)
      have : Int.tmod n m < 0 := by
        have h0 : Int.tmod n m ≠ 0 := fun h => c2 (Int.dvd_of_tmod_eq_zero h)
        have h5 : Int.tmod n m ≤ 0 := by
          have h6 := Int.tmod_nonneg (a := -n) m (by omega)
          rw [Int.neg_tmod] at h6
          omega
        omega
      rw [if_pos this]; omega
  refine sel_iff.2 (.inl ⟨by rw [bne_iff_ne]; omega, ?_⟩)
  rw [a3] at h2
  by_cases c : Int.tmod n m < 0
  · rw [if_pos c] at h2
    refine sel_iff.2 (.inl ⟨by rw [decide_eq_true_eq]; exact c, ?_⟩)
    have w2 : IntKind.i64.wrap (Int.tmod n m + m) = Int.tmod n m + m := by rw [IntKind.wrap_i64]; omega
    rw [w2]
    exact h2
  · rw [if_neg c] at h2
    exact sel_iff.2 (.inr ⟨by rw [decide_eq_false_iff_not]; exact c, h2⟩)

end Go.Proofs.YtdijbpokklgjlaaGreatDoor.num
