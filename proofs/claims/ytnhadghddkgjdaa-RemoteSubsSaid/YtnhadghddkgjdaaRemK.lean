/-
  The remote control: digits, next and back, by one contract.
-/
import Derived.Test.YtnhadghddkgjdaaRemJ
namespace Go.Proofs.Ytnhadghddkgjdaa.rem
open Go Go.Nx

def stD (m p u : Int) (d : NC) (h r x : Bool) : NV := .ag [.i .i64 m, .i .i64 p, .i .i64 u, d, .sn, .b false, .b h, .b r, .b x]
def dRg (xs : List Int) : List (Option Reg) := [some ⟨1, 3, .ints .i64 xs⟩]
def oD (m p u : Int) (h r x : Bool) (xs : List Int) : Out := ⟨.tu [stD m p u (.h 0 0 xs.length) h r x, .c (.b false)], dRg xs⟩
noncomputable def n3 (a b k : Int) : Int := IntKind.i64.wrap (IntKind.i64.wrap (10 * IntKind.i64.wrap (IntKind.i64.wrap (10 * IntKind.i64.wrap (IntKind.i64.wrap (10 * 0) + a)) + b)) + k)
section
variable (m p u : Int) (h r x ln : Bool) (q0 q1 q2 q3 q4 q5 : Int × Int × Int) (a b k : Int) (R : Out → Prop)
noncomputable abbrev Z (m p u : Int) (d : NC) (h r x ln : Bool) (q0 q1 q2 q3 q4 q5 : Int × Int × Int) (k : Int) : Tr Out := t_keyd [stD m p u d h r x, .c (.i .i64 k), .ag (ag18 [q0, q1, q2, q3, q4, q5]), .c (.b ln)] []
theorem keyd0_1 : (Z m p u .sn h r x ln q0 q1 q2 q3 q4 q5 1).run R = R (oD m p u h r x [1]) := by kernel_rfl
theorem keyd0_2 : (Z m p u .sn h r x ln q0 q1 q2 q3 q4 q5 2).run R = R (oD m p u h r x [2]) := by kernel_rfl
theorem keyd0_3 : (Z m p u .sn h r x ln q0 q1 q2 q3 q4 q5 3).run R = R (oD m p u h r x [3]) := by kernel_rfl
theorem keyd0_4 : (Z m p u .sn h r x ln q0 q1 q2 q3 q4 q5 4).run R = R (oD m p u h r x [4]) := by kernel_rfl
theorem keyd0_5 : (Z m p u .sn h r x ln q0 q1 q2 q3 q4 q5 5).run R = R (oD m p u h r x [5]) := by kernel_rfl
theorem keyd0_6 : (Z m p u .sn h r x ln q0 q1 q2 q3 q4 q5 6).run R = R (oD m p u h r x [6]) := by kernel_rfl
theorem keyd0_7 : (Z m p u .sn h r x ln q0 q1 q2 q3 q4 q5 7).run R = R (oD m p u h r x [7]) := by kernel_rfl
theorem keyd0_8 : (Z m p u .sn h r x ln q0 q1 q2 q3 q4 q5 8).run R = R (oD m p u h r x [8]) := by kernel_rfl
theorem keyd1_0 : (Z m p u (.l .i64 [a]) h r x ln q0 q1 q2 q3 q4 q5 0).run R = R (oD m p u h r x [a, 0]) := by kernel_rfl
theorem keyd1_1 : (Z m p u (.l .i64 [a]) h r x ln q0 q1 q2 q3 q4 q5 1).run R = R (oD m p u h r x [a, 1]) := by kernel_rfl
theorem keyd1_2 : (Z m p u (.l .i64 [a]) h r x ln q0 q1 q2 q3 q4 q5 2).run R = R (oD m p u h r x [a, 2]) := by kernel_rfl
theorem keyd1_3 : (Z m p u (.l .i64 [a]) h r x ln q0 q1 q2 q3 q4 q5 3).run R = R (oD m p u h r x [a, 3]) := by kernel_rfl
theorem keyd1_4 : (Z m p u (.l .i64 [a]) h r x ln q0 q1 q2 q3 q4 q5 4).run R = R (oD m p u h r x [a, 4]) := by kernel_rfl
theorem keyd1_5 : (Z m p u (.l .i64 [a]) h r x ln q0 q1 q2 q3 q4 q5 5).run R = R (oD m p u h r x [a, 5]) := by kernel_rfl
theorem keyd1_6 : (Z m p u (.l .i64 [a]) h r x ln q0 q1 q2 q3 q4 q5 6).run R = R (oD m p u h r x [a, 6]) := by kernel_rfl
theorem keyd1_7 : (Z m p u (.l .i64 [a]) h r x ln q0 q1 q2 q3 q4 q5 7).run R = R (oD m p u h r x [a, 7]) := by kernel_rfl
theorem keyd1_8 : (Z m p u (.l .i64 [a]) h r x ln q0 q1 q2 q3 q4 q5 8).run R = R (oD m p u h r x [a, 8]) := by kernel_rfl
theorem keyd1_9 : (Z m p u (.l .i64 [a]) h r x ln q0 q1 q2 q3 q4 q5 9).run R = R (oD m p u h r x [a, 9]) := by kernel_rfl
theorem keyd2_0 : (Z m p u (.l .i64 [a, b]) h r x ln q0 q1 q2 q3 q4 q5 0).run R = ((100 ≤ n3 a b 0 ∧ n3 a b 0 ≤ 899) ∧ R (oT (n3 a b 0) false x)) := by kernel_rfl
theorem keyd2_1 : (Z m p u (.l .i64 [a, b]) h r x ln q0 q1 q2 q3 q4 q5 1).run R = ((100 ≤ n3 a b 1 ∧ n3 a b 1 ≤ 899) ∧ R (oT (n3 a b 1) false x)) := by kernel_rfl
theorem keyd2_2 : (Z m p u (.l .i64 [a, b]) h r x ln q0 q1 q2 q3 q4 q5 2).run R = ((100 ≤ n3 a b 2 ∧ n3 a b 2 ≤ 899) ∧ R (oT (n3 a b 2) false x)) := by kernel_rfl
theorem keyd2_3 : (Z m p u (.l .i64 [a, b]) h r x ln q0 q1 q2 q3 q4 q5 3).run R = ((100 ≤ n3 a b 3 ∧ n3 a b 3 ≤ 899) ∧ R (oT (n3 a b 3) false x)) := by kernel_rfl
theorem keyd2_4 : (Z m p u (.l .i64 [a, b]) h r x ln q0 q1 q2 q3 q4 q5 4).run R = ((100 ≤ n3 a b 4 ∧ n3 a b 4 ≤ 899) ∧ R (oT (n3 a b 4) false x)) := by kernel_rfl
theorem keyd2_5 : (Z m p u (.l .i64 [a, b]) h r x ln q0 q1 q2 q3 q4 q5 5).run R = ((100 ≤ n3 a b 5 ∧ n3 a b 5 ≤ 899) ∧ R (oT (n3 a b 5) false x)) := by kernel_rfl
theorem keyd2_6 : (Z m p u (.l .i64 [a, b]) h r x ln q0 q1 q2 q3 q4 q5 6).run R = ((100 ≤ n3 a b 6 ∧ n3 a b 6 ≤ 899) ∧ R (oT (n3 a b 6) false x)) := by kernel_rfl
theorem keyd2_7 : (Z m p u (.l .i64 [a, b]) h r x ln q0 q1 q2 q3 q4 q5 7).run R = ((100 ≤ n3 a b 7 ∧ n3 a b 7 ≤ 899) ∧ R (oT (n3 a b 7) false x)) := by kernel_rfl
theorem keyd2_8 : (Z m p u (.l .i64 [a, b]) h r x ln q0 q1 q2 q3 q4 q5 8).run R = ((100 ≤ n3 a b 8 ∧ n3 a b 8 ≤ 899) ∧ R (oT (n3 a b 8) false x)) := by kernel_rfl
theorem keyd2_9 : (Z m p u (.l .i64 [a, b]) h r x ln q0 q1 q2 q3 q4 q5 9).run R = ((100 ≤ n3 a b 9 ∧ n3 a b 9 ≤ 899) ∧ R (oT (n3 a b 9) false x)) := by kernel_rfl
theorem keyd13 : (Z m p u .sn h r x ln q0 q1 q2 q3 q4 q5 13).run R = ((1 = (1 : Int) ∨ (1 : Int) = -1) ∧ R (oT (nextN m p 1) false x)) := by kernel_rfl
theorem keyd14 : (Z m p u .sn h r x ln q0 q1 q2 q3 q4 q5 14).run R = ((-1 = (1 : Int) ∨ (-1 : Int) = -1) ∧ R (oT (nextN m p (-1)) false x)) := by kernel_rfl
variable {R}
set_option maxRecDepth 100000 in
theorem keyd0_in (hk : 1 ≤ k ∧ k ≤ 8) (hR : R (oD m p u h r x [k])) : Box ((Z m p u .sn h r x ln q0 q1 q2 q3 q4 q5 k).run R) := by
  have : k = 1 ∨ k = 2 ∨ k = 3 ∨ k = 4 ∨ k = 5 ∨ k = 6 ∨ k = 7 ∨ k = 8 := by omega
  rcases this with rfl | rfl | rfl | rfl | rfl | rfl | rfl | rfl
  · exact Box.of_eq (keyd0_1 m p u h r x ln q0 q1 q2 q3 q4 q5 R) hR
  · exact Box.of_eq (keyd0_2 m p u h r x ln q0 q1 q2 q3 q4 q5 R) hR
  · exact Box.of_eq (keyd0_3 m p u h r x ln q0 q1 q2 q3 q4 q5 R) hR
  · exact Box.of_eq (keyd0_4 m p u h r x ln q0 q1 q2 q3 q4 q5 R) hR
  · exact Box.of_eq (keyd0_5 m p u h r x ln q0 q1 q2 q3 q4 q5 R) hR
  · exact Box.of_eq (keyd0_6 m p u h r x ln q0 q1 q2 q3 q4 q5 R) hR
  · exact Box.of_eq (keyd0_7 m p u h r x ln q0 q1 q2 q3 q4 q5 R) hR
  · exact Box.of_eq (keyd0_8 m p u h r x ln q0 q1 q2 q3 q4 q5 R) hR
set_option maxRecDepth 100000 in
theorem keyd1_in (hk : 0 ≤ k ∧ k ≤ 9) (hR : R (oD m p u h r x [a, k])) : Box ((Z m p u (.l .i64 [a]) h r x ln q0 q1 q2 q3 q4 q5 k).run R) := by
  have : k = 0 ∨ k = 1 ∨ k = 2 ∨ k = 3 ∨ k = 4 ∨ k = 5 ∨ k = 6 ∨ k = 7 ∨ k = 8 ∨ k = 9 := by omega
  rcases this with rfl | rfl | rfl | rfl | rfl | rfl | rfl | rfl | rfl | rfl
  · exact Box.of_eq (keyd1_0 m p u h r x ln q0 q1 q2 q3 q4 q5 a R) hR
  · exact Box.of_eq (keyd1_1 m p u h r x ln q0 q1 q2 q3 q4 q5 a R) hR
  · exact Box.of_eq (keyd1_2 m p u h r x ln q0 q1 q2 q3 q4 q5 a R) hR
  · exact Box.of_eq (keyd1_3 m p u h r x ln q0 q1 q2 q3 q4 q5 a R) hR
  · exact Box.of_eq (keyd1_4 m p u h r x ln q0 q1 q2 q3 q4 q5 a R) hR
  · exact Box.of_eq (keyd1_5 m p u h r x ln q0 q1 q2 q3 q4 q5 a R) hR
  · exact Box.of_eq (keyd1_6 m p u h r x ln q0 q1 q2 q3 q4 q5 a R) hR
  · exact Box.of_eq (keyd1_7 m p u h r x ln q0 q1 q2 q3 q4 q5 a R) hR
  · exact Box.of_eq (keyd1_8 m p u h r x ln q0 q1 q2 q3 q4 q5 a R) hR
  · exact Box.of_eq (keyd1_9 m p u h r x ln q0 q1 q2 q3 q4 q5 a R) hR
theorem n3_eq (ha : 1 ≤ a ∧ a ≤ 8) (hb : 0 ≤ b ∧ b ≤ 9) (hk : 0 ≤ k ∧ k ≤ 9) : n3 a b k = 100 * a + 10 * b + k := by
  unfold n3
  have w0 : IntKind.i64.wrap (10 * 0) = 0 := by decide
  have w1 : IntKind.i64.wrap (0 + a) = a := by rw [IntKind.wrap_i64]; omega
  have w2 : IntKind.i64.wrap (10 * a) = 10 * a := by rw [IntKind.wrap_i64]; omega
  have w3 : IntKind.i64.wrap (10 * a + b) = 10 * a + b := by rw [IntKind.wrap_i64]; omega
  have w4 : IntKind.i64.wrap (10 * (10 * a + b)) = 10 * (10 * a + b) := by rw [IntKind.wrap_i64]; omega
  have w5 : IntKind.i64.wrap (10 * (10 * a + b) + k) = 10 * (10 * a + b) + k := by rw [IntKind.wrap_i64]; omega
  rw [w0, w1, w2, w3, w4, w5]
  omega
set_option maxRecDepth 100000 in
theorem keyd2_in (ha : 1 ≤ a ∧ a ≤ 8) (hb : 0 ≤ b ∧ b ≤ 9) (hk : 0 ≤ k ∧ k ≤ 9) (hR : R (oT (100 * a + 10 * b + k) false x)) : Box ((Z m p u (.l .i64 [a, b]) h r x ln q0 q1 q2 q3 q4 q5 k).run R) := by
  have hn := n3_eq a b k ha hb hk
  have hR : (100 ≤ n3 a b k ∧ n3 a b k ≤ 899) ∧ R (oT (n3 a b k) false x) := by
    rw [hn]
    exact ⟨by omega, hR⟩
  clear hn
  have : k = 0 ∨ k = 1 ∨ k = 2 ∨ k = 3 ∨ k = 4 ∨ k = 5 ∨ k = 6 ∨ k = 7 ∨ k = 8 ∨ k = 9 := by omega
  rcases this with rfl | rfl | rfl | rfl | rfl | rfl | rfl | rfl | rfl | rfl
  · exact Box.of_eq (keyd2_0 m p u h r x ln q0 q1 q2 q3 q4 q5 a b R) hR
  · exact Box.of_eq (keyd2_1 m p u h r x ln q0 q1 q2 q3 q4 q5 a b R) hR
  · exact Box.of_eq (keyd2_2 m p u h r x ln q0 q1 q2 q3 q4 q5 a b R) hR
  · exact Box.of_eq (keyd2_3 m p u h r x ln q0 q1 q2 q3 q4 q5 a b R) hR
  · exact Box.of_eq (keyd2_4 m p u h r x ln q0 q1 q2 q3 q4 q5 a b R) hR
  · exact Box.of_eq (keyd2_5 m p u h r x ln q0 q1 q2 q3 q4 q5 a b R) hR
  · exact Box.of_eq (keyd2_6 m p u h r x ln q0 q1 q2 q3 q4 q5 a b R) hR
  · exact Box.of_eq (keyd2_7 m p u h r x ln q0 q1 q2 q3 q4 q5 a b R) hR
  · exact Box.of_eq (keyd2_8 m p u h r x ln q0 q1 q2 q3 q4 q5 a b R) hR
  · exact Box.of_eq (keyd2_9 m p u h r x ln q0 q1 q2 q3 q4 q5 a b R) hR
end
/-- What is known of a key that is a digit, next, or back. -/
noncomputable def keyT (m p u : Int) (h r x : Bool) (k : Int) : NC → Tr Out
  | .sn => .br (decide (k = 13)) (.ret (oT (nextN m p 1) false x)) (.br (decide (k = 14)) (.ret (oT (nextN m p (-1)) false x)) (.must (1 ≤ k ∧ k ≤ 8) (.ret (oD m p u h r x [k]))))
  | .l .i64 [a] => .must (0 ≤ k ∧ k ≤ 9) (.ret (oD m p u h r x [a, k]))
  | .l .i64 [a, b] => .must ((1 ≤ a ∧ a ≤ 8) ∧ (0 ≤ b ∧ b ≤ 9) ∧ (0 ≤ k ∧ k ≤ 9)) (.ret (oT (100 * a + 10 * b + k) false x))
  | _ => .fail
noncomputable def keyL (m p u : Int) (h r x : Bool) (k : Int) (d : NC) : Option (List (Int × Int × Int)) → Tr Out
  | some _ => keyT m p u h r x k d
  | none => .fail
noncomputable def tKeyT : Con := fun args regs => match args, regs with
  | [.ag [.i .i64 m, .i .i64 p, .i .i64 u, d, .sn, .b false, .b h, .b r, .b x], .c (.i .i64 k), .ag xs, .c (.b _)], [] => keyL m p u h r x k d (trips 6 xs)
  | _, _ => .fail
theorem keyT_in (m p u : Int) (h r x ln : Bool) (q0 q1 q2 q3 q4 q5 : Int × Int × Int) (k : Int) (d : NC) {R : Out → Prop} (hh : (keyT m p u h r x k d).run R) : Box ((Z m p u d h r x ln q0 q1 q2 q3 q4 q5 k).run R) := by
  unfold keyT at hh
  split at hh
  · rcases sel_iff.1 hh with ⟨c, hR⟩ | ⟨_, hh⟩
    · have c := of_decide_eq_true c
      subst c
      exact Box.of_eq (keyd13 m p u h r x ln q0 q1 q2 q3 q4 q5 R) ⟨.inl rfl, hR⟩
    · rcases sel_iff.1 hh with ⟨c, hR⟩ | ⟨_, hh⟩
      · have c := of_decide_eq_true c
        subst c
        exact Box.of_eq (keyd14 m p u h r x ln q0 q1 q2 q3 q4 q5 R) ⟨.inr rfl, hR⟩
      · exact keyd0_in m p u h r x ln q0 q1 q2 q3 q4 q5 k hh.1 hh.2
  · exact keyd1_in m p u h r x ln q0 q1 q2 q3 q4 q5 _ k hh.1 hh.2
  · exact keyd2_in m p u h r x ln q0 q1 q2 q3 q4 q5 _ _ k hh.1.1 hh.1.2.1 hh.1.2.2 hh.2
  · exact hh.elim
set_option maxRecDepth 100000 in
theorem kKeyT : Known Try.prog [] 18 tKeyT := by
  refine k_keyd.less fun args regs R hh => ?_
  refine Box.out ?_
  unfold tKeyT at hh
  split at hh
  case h_2 => exact hh.elim
  rename_i m p u d h r x k xs ln
  cases hl : trips 6 xs with
  | none => rw [hl] at hh; exact hh.elim
  | some l =>
    rw [hl] at hh
    obtain ⟨rfl, h6⟩ := trips_spec hl
    obtain ⟨a, b, c, d', e, f, rfl⟩ := list6 h6
    exact keyT_in m p u h r x ln a b c d' e f k d hh
end Go.Proofs.Ytnhadghddkgjdaa.rem
