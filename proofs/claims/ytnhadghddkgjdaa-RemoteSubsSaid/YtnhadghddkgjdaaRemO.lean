/-
  The remote control: its lines; keys that are digits of a page or of a part, or that do nothing.
-/
import Derived.Test.YtnhadghddkgjdaaBldC
import Derived.Test.YtnhadghddkgjdaaRemL
set_option linter.unusedVariables false
namespace Go.Proofs.Ytnhadghddkgjdaa.rem
open Go Go.Nx Go.Proofs.Ytnhadghddkgjdaa.bld

def hexD : ByteArray := ⟨#[48, 49, 50, 51, 52, 53, 54, 55, 56, 57, 97, 98, 99, 100, 101, 102]⟩
def qd (a : Int) : Int := (IntKind.i64.wrap (a.tmod 10 + 10)).tmod 10
def dg (a : Int) : Int := byteAt hexD (qd a).toNat
theorem signs2 (a b : Int) (R : Out → Prop) : (t_signs [.c (.l .i64 [a, b]), .c (.i .i64 3)] []).run R =
    sel (decide (0 ≤ qd a)) (sel (decide (qd a < 16)) (sel (decide (0 ≤ qd b)) (sel (decide (qd b < 16)) ((3 = 3 ∧ [dg a, dg b, 45] ≠ [] ∧ ∀ x ∈ [dg a, dg b, 45], 0 ≤ x ∧ x < 256) ∧ R ⟨.v (.c (.s (strOfNums [dg a, dg b, 45]))), []⟩) False) False) False) False := by kernel_rfl
theorem signs3 (a b c : Int) (R : Out → Prop) : (t_signs [.c (.l .i64 [a, b, c]), .c (.i .i64 4)] []).run R =
    sel (decide (0 ≤ qd a)) (sel (decide (qd a < 16)) (sel (decide (0 ≤ qd b)) (sel (decide (qd b < 16)) (sel (decide (0 ≤ qd c)) (sel (decide (qd c < 16)) ((4 = 4 ∧ [dg a, dg b, dg c, 45] ≠ [] ∧ ∀ x ∈ [dg a, dg b, dg c, 45], 0 ≤ x ∧ x < 256) ∧ R ⟨.v (.c (.s (strOfNums [dg a, dg b, dg c, 45]))), []⟩) False) False) False) False) False) False := by kernel_rfl
theorem dg_all : ∀ k : Nat, k < 10 → (0 ≤ qd (Int.ofNat k) ∧ qd (Int.ofNat k) < 16) ∧ dg (Int.ofNat k) = 48 + Int.ofNat k := by decide +kernel
theorem dg_of {a : Int} (h : 0 ≤ a ∧ a ≤ 9) : (0 ≤ qd a ∧ qd a < 16) ∧ dg a = 48 + a := by
  have := dg_all a.toNat (by omega)
  have e : Int.ofNat a.toNat = a := by show ((a.toNat : Nat) : Int) = a; omega
  rwa [e] at this
noncomputable def tSig : Con := fun args regs => match args, regs with
  | [.c (.l .i64 [a, b]), .c (.i .i64 3)], [] => .must ((0 ≤ a ∧ a ≤ 9) ∧ 0 ≤ b ∧ b ≤ 9) (.ret ⟨.v (.c (.s (strOfNums [48 + a, 48 + b, 45]))), []⟩)
  | [.c (.l .i64 [a, b, c]), .c (.i .i64 4)], [] => .must ((0 ≤ a ∧ a ≤ 9) ∧ (0 ≤ b ∧ b ≤ 9) ∧ 0 ≤ c ∧ c ≤ 9) (.ret ⟨.v (.c (.s (strOfNums [48 + a, 48 + b, 48 + c, 45]))), []⟩)
  | _, _ => .fail
set_option maxRecDepth 100000 in
theorem kSig : Known Try.prog [] 37 tSig := by
  refine k_signs.less fun args regs R hh => ?_
  refine Box.out ?_
  unfold tSig at hh
  split at hh
  case h_3 => exact hh.elim
  · rename_i a b
    obtain ⟨⟨a1, a2⟩, a3⟩ := dg_of hh.1.1
    obtain ⟨⟨b1, b2⟩, b3⟩ := dg_of hh.1.2
    have h1 := hh.1
    have h2 : R ⟨.v (.c (.s (strOfNums [48 + a, 48 + b, 45]))), []⟩ := hh.2
    clear hh
    refine Box.of_eq (signs2 a b R) ?_
    rw [a3, b3]
    refine selT (decide_eq_true a1) (selT (decide_eq_true a2) (selT (decide_eq_true b1) (selT (decide_eq_true b2) ⟨⟨rfl, by simp, ?_⟩, h2⟩)))
    intro x hx
    simp only [List.mem_cons, List.not_mem_nil, or_false] at hx
    omega
  · rename_i a b c
    obtain ⟨⟨a1, a2⟩, a3⟩ := dg_of hh.1.1
    obtain ⟨⟨b1, b2⟩, b3⟩ := dg_of hh.1.2.1
    obtain ⟨⟨c1, c2⟩, c3⟩ := dg_of hh.1.2.2
    have h1 := hh.1
    have h2 : R ⟨.v (.c (.s (strOfNums [48 + a, 48 + b, 48 + c, 45]))), []⟩ := hh.2
    clear hh
    refine Box.of_eq (signs3 a b c R) ?_
    rw [a3, b3, c3]
    refine selT (decide_eq_true a1) (selT (decide_eq_true a2) (selT (decide_eq_true b1) (selT (decide_eq_true b2) (selT (decide_eq_true c1) (selT (decide_eq_true c2) ⟨⟨rfl, by simp, ?_⟩, h2⟩)))))
    intro x hx
    simp only [List.mem_cons, List.not_mem_nil, or_false] at hx
    omega
noncomputable def c_lineS : FuncId → Option Con := conOf [(37, tSig)]
theorem kc_lineS : ∀ f T, c_lineS f = some T → Known Try.prog [] f T := (Knowns.cons kSig Knowns.nil).get
noncomputable def t_lineS : Con := fun args regs => nfun Try.prog [] c_lineS [] Try.f20 args regs
theorem k_lineS : Known Try.prog [] 20 t_lineS := known_inl Try.func20 rfl (by kernel_rfl) mixed kc_lineS (by kernel_rfl)

def stS (m p u : Int) (d : NC) (sub h r x : Bool) : NV := .ag [.i .i64 m, .i .i64 p, .i .i64 u, .sn, d, .b sub, .b h, .b r, .b x]
def oF (v : NV) : Out := ⟨.tu [v, .c (.b false)], []⟩
def oU (m p u : Int) (h r x : Bool) (xs : List Int) : Out := ⟨.tu [stS m p u (.h 0 0 xs.length) true h r x, .c (.b false)], dRg xs⟩
noncomputable def nS (a b c k : Int) : Int := IntKind.i64.wrap (shlv .i64 (IntKind.i64.wrap (shlv .i64 (IntKind.i64.wrap (shlv .i64 (IntKind.i64.wrap (shlv .i64 0 4 + a)) 4 + b)) 4 + c)) 4 + k)
def oA (m p v : Int) (h r x : Bool) : Out := ⟨.tu [stS m p v .sn false h r x, .c (.b true)], []⟩
section
variable (m p u : Int) (h r x ln : Bool) (q0 q1 q2 q3 q4 q5 : Int × Int × Int) (a b c k : Int) (R : Out → Prop)
noncomputable abbrev ZS (m p u : Int) (d : NC) (h r x ln : Bool) (q0 q1 q2 q3 q4 q5 : Int × Int × Int) (k : Int) : Tr Out := t_keyd [stS m p u d true h r x, .c (.i .i64 k), .ag (ag18 [q0, q1, q2, q3, q4, q5]), .c (.b ln)] []
theorem noise_0 : (Z m p u .sn h r x ln q0 q1 q2 q3 q4 q5 0).run R = R (oF (stD m p u .sn h r x)) := by kernel_rfl
theorem noise_9 : (Z m p u .sn h r x ln q0 q1 q2 q3 q4 q5 9).run R = R (oF (stD m p u .sn h r x)) := by kernel_rfl
theorem noise_11 : (Z m p u .sn h r x ln q0 q1 q2 q3 q4 q5 11).run R = R (oF (stD m p u .sn h (!r) x)) := by kernel_rfl
theorem noise_21 : (Z m p u .sn h r x ln q0 q1 q2 q3 q4 q5 21).run R = R (oF (stD m p u .sn h r false)) := by kernel_rfl
theorem keyS : (Z m p u .sn h r x ln q0 q1 q2 q3 q4 q5 20).run R = R (oF (stS m p u .sn true h r x)) := by kernel_rfl
theorem part0_0 : (ZS m p u .sn h r x ln q0 q1 q2 q3 q4 q5 0).run R = R (oU m p u h r x [0]) := by kernel_rfl
theorem part0_1 : (ZS m p u .sn h r x ln q0 q1 q2 q3 q4 q5 1).run R = R (oU m p u h r x [1]) := by kernel_rfl
theorem part0_2 : (ZS m p u .sn h r x ln q0 q1 q2 q3 q4 q5 2).run R = R (oU m p u h r x [2]) := by kernel_rfl
theorem part0_3 : (ZS m p u .sn h r x ln q0 q1 q2 q3 q4 q5 3).run R = R (oU m p u h r x [3]) := by kernel_rfl
theorem part0_4 : (ZS m p u .sn h r x ln q0 q1 q2 q3 q4 q5 4).run R = R (oU m p u h r x [4]) := by kernel_rfl
theorem part0_5 : (ZS m p u .sn h r x ln q0 q1 q2 q3 q4 q5 5).run R = R (oU m p u h r x [5]) := by kernel_rfl
theorem part0_6 : (ZS m p u .sn h r x ln q0 q1 q2 q3 q4 q5 6).run R = R (oU m p u h r x [6]) := by kernel_rfl
theorem part0_7 : (ZS m p u .sn h r x ln q0 q1 q2 q3 q4 q5 7).run R = R (oU m p u h r x [7]) := by kernel_rfl
theorem part0_8 : (ZS m p u .sn h r x ln q0 q1 q2 q3 q4 q5 8).run R = R (oU m p u h r x [8]) := by kernel_rfl
theorem part0_9 : (ZS m p u .sn h r x ln q0 q1 q2 q3 q4 q5 9).run R = R (oU m p u h r x [9]) := by kernel_rfl
theorem part1_0 : (ZS m p u (.l .i64 [a]) h r x ln q0 q1 q2 q3 q4 q5 0).run R = R (oU m p u h r x [a, 0]) := by kernel_rfl
theorem part1_1 : (ZS m p u (.l .i64 [a]) h r x ln q0 q1 q2 q3 q4 q5 1).run R = R (oU m p u h r x [a, 1]) := by kernel_rfl
theorem part1_2 : (ZS m p u (.l .i64 [a]) h r x ln q0 q1 q2 q3 q4 q5 2).run R = R (oU m p u h r x [a, 2]) := by kernel_rfl
theorem part1_3 : (ZS m p u (.l .i64 [a]) h r x ln q0 q1 q2 q3 q4 q5 3).run R = R (oU m p u h r x [a, 3]) := by kernel_rfl
theorem part1_4 : (ZS m p u (.l .i64 [a]) h r x ln q0 q1 q2 q3 q4 q5 4).run R = R (oU m p u h r x [a, 4]) := by kernel_rfl
theorem part1_5 : (ZS m p u (.l .i64 [a]) h r x ln q0 q1 q2 q3 q4 q5 5).run R = R (oU m p u h r x [a, 5]) := by kernel_rfl
theorem part1_6 : (ZS m p u (.l .i64 [a]) h r x ln q0 q1 q2 q3 q4 q5 6).run R = R (oU m p u h r x [a, 6]) := by kernel_rfl
theorem part1_7 : (ZS m p u (.l .i64 [a]) h r x ln q0 q1 q2 q3 q4 q5 7).run R = R (oU m p u h r x [a, 7]) := by kernel_rfl
theorem part1_8 : (ZS m p u (.l .i64 [a]) h r x ln q0 q1 q2 q3 q4 q5 8).run R = R (oU m p u h r x [a, 8]) := by kernel_rfl
theorem part1_9 : (ZS m p u (.l .i64 [a]) h r x ln q0 q1 q2 q3 q4 q5 9).run R = R (oU m p u h r x [a, 9]) := by kernel_rfl
theorem part2_0 : (ZS m p u (.l .i64 [a, b]) h r x ln q0 q1 q2 q3 q4 q5 0).run R = R (oU m p u h r x [a, b, 0]) := by kernel_rfl
theorem part2_1 : (ZS m p u (.l .i64 [a, b]) h r x ln q0 q1 q2 q3 q4 q5 1).run R = R (oU m p u h r x [a, b, 1]) := by kernel_rfl
theorem part2_2 : (ZS m p u (.l .i64 [a, b]) h r x ln q0 q1 q2 q3 q4 q5 2).run R = R (oU m p u h r x [a, b, 2]) := by kernel_rfl
theorem part2_3 : (ZS m p u (.l .i64 [a, b]) h r x ln q0 q1 q2 q3 q4 q5 3).run R = R (oU m p u h r x [a, b, 3]) := by kernel_rfl
theorem part2_4 : (ZS m p u (.l .i64 [a, b]) h r x ln q0 q1 q2 q3 q4 q5 4).run R = R (oU m p u h r x [a, b, 4]) := by kernel_rfl
theorem part2_5 : (ZS m p u (.l .i64 [a, b]) h r x ln q0 q1 q2 q3 q4 q5 5).run R = R (oU m p u h r x [a, b, 5]) := by kernel_rfl
theorem part2_6 : (ZS m p u (.l .i64 [a, b]) h r x ln q0 q1 q2 q3 q4 q5 6).run R = R (oU m p u h r x [a, b, 6]) := by kernel_rfl
theorem part2_7 : (ZS m p u (.l .i64 [a, b]) h r x ln q0 q1 q2 q3 q4 q5 7).run R = R (oU m p u h r x [a, b, 7]) := by kernel_rfl
theorem part2_8 : (ZS m p u (.l .i64 [a, b]) h r x ln q0 q1 q2 q3 q4 q5 8).run R = R (oU m p u h r x [a, b, 8]) := by kernel_rfl
theorem part2_9 : (ZS m p u (.l .i64 [a, b]) h r x ln q0 q1 q2 q3 q4 q5 9).run R = R (oU m p u h r x [a, b, 9]) := by kernel_rfl
theorem part3_0 : (ZS m p u (.l .i64 [a, b, c]) h r x ln q0 q1 q2 q3 q4 q5 0).run R = R (oA m p (bits .and .i64 (nS a b c 0) 16255) h r x) := by kernel_rfl
theorem part3_1 : (ZS m p u (.l .i64 [a, b, c]) h r x ln q0 q1 q2 q3 q4 q5 1).run R = R (oA m p (bits .and .i64 (nS a b c 1) 16255) h r x) := by kernel_rfl
theorem part3_2 : (ZS m p u (.l .i64 [a, b, c]) h r x ln q0 q1 q2 q3 q4 q5 2).run R = R (oA m p (bits .and .i64 (nS a b c 2) 16255) h r x) := by kernel_rfl
theorem part3_3 : (ZS m p u (.l .i64 [a, b, c]) h r x ln q0 q1 q2 q3 q4 q5 3).run R = R (oA m p (bits .and .i64 (nS a b c 3) 16255) h r x) := by kernel_rfl
theorem part3_4 : (ZS m p u (.l .i64 [a, b, c]) h r x ln q0 q1 q2 q3 q4 q5 4).run R = R (oA m p (bits .and .i64 (nS a b c 4) 16255) h r x) := by kernel_rfl
theorem part3_5 : (ZS m p u (.l .i64 [a, b, c]) h r x ln q0 q1 q2 q3 q4 q5 5).run R = R (oA m p (bits .and .i64 (nS a b c 5) 16255) h r x) := by kernel_rfl
theorem part3_6 : (ZS m p u (.l .i64 [a, b, c]) h r x ln q0 q1 q2 q3 q4 q5 6).run R = R (oA m p (bits .and .i64 (nS a b c 6) 16255) h r x) := by kernel_rfl
theorem part3_7 : (ZS m p u (.l .i64 [a, b, c]) h r x ln q0 q1 q2 q3 q4 q5 7).run R = R (oA m p (bits .and .i64 (nS a b c 7) 16255) h r x) := by kernel_rfl
theorem part3_8 : (ZS m p u (.l .i64 [a, b, c]) h r x ln q0 q1 q2 q3 q4 q5 8).run R = R (oA m p (bits .and .i64 (nS a b c 8) 16255) h r x) := by kernel_rfl
theorem part3_9 : (ZS m p u (.l .i64 [a, b, c]) h r x ln q0 q1 q2 q3 q4 q5 9).run R = R (oA m p (bits .and .i64 (nS a b c 9) 16255) h r x) := by kernel_rfl
theorem part3_21 : (ZS m p u (.l .i64 [a, b, c]) h r x ln q0 q1 q2 q3 q4 q5 21).run R = R (oF (stS m p u .sn false h r false)) := by kernel_rfl
variable {R}
set_option maxRecDepth 100000 in
theorem part0_in (hk : 0 ≤ k ∧ k ≤ 9) (hR : R (oU m p u h r x [k])) : Box ((ZS m p u .sn h r x ln q0 q1 q2 q3 q4 q5 k).run R) := by
  have : k = 0 ∨ k = 1 ∨ k = 2 ∨ k = 3 ∨ k = 4 ∨ k = 5 ∨ k = 6 ∨ k = 7 ∨ k = 8 ∨ k = 9 := by omega
  rcases this with rfl | rfl | rfl | rfl | rfl | rfl | rfl | rfl | rfl | rfl
  · exact Box.of_eq (part0_0 m p u h r x ln q0 q1 q2 q3 q4 q5  R) hR
  · exact Box.of_eq (part0_1 m p u h r x ln q0 q1 q2 q3 q4 q5  R) hR
  · exact Box.of_eq (part0_2 m p u h r x ln q0 q1 q2 q3 q4 q5  R) hR
  · exact Box.of_eq (part0_3 m p u h r x ln q0 q1 q2 q3 q4 q5  R) hR
  · exact Box.of_eq (part0_4 m p u h r x ln q0 q1 q2 q3 q4 q5  R) hR
  · exact Box.of_eq (part0_5 m p u h r x ln q0 q1 q2 q3 q4 q5  R) hR
  · exact Box.of_eq (part0_6 m p u h r x ln q0 q1 q2 q3 q4 q5  R) hR
  · exact Box.of_eq (part0_7 m p u h r x ln q0 q1 q2 q3 q4 q5  R) hR
  · exact Box.of_eq (part0_8 m p u h r x ln q0 q1 q2 q3 q4 q5  R) hR
  · exact Box.of_eq (part0_9 m p u h r x ln q0 q1 q2 q3 q4 q5  R) hR
set_option maxRecDepth 100000 in
theorem part1_in (hk : 0 ≤ k ∧ k ≤ 9) (hR : R (oU m p u h r x [a, k])) : Box ((ZS m p u (.l .i64 [a]) h r x ln q0 q1 q2 q3 q4 q5 k).run R) := by
  have : k = 0 ∨ k = 1 ∨ k = 2 ∨ k = 3 ∨ k = 4 ∨ k = 5 ∨ k = 6 ∨ k = 7 ∨ k = 8 ∨ k = 9 := by omega
  rcases this with rfl | rfl | rfl | rfl | rfl | rfl | rfl | rfl | rfl | rfl
  · exact Box.of_eq (part1_0 m p u h r x ln q0 q1 q2 q3 q4 q5 a R) hR
  · exact Box.of_eq (part1_1 m p u h r x ln q0 q1 q2 q3 q4 q5 a R) hR
  · exact Box.of_eq (part1_2 m p u h r x ln q0 q1 q2 q3 q4 q5 a R) hR
  · exact Box.of_eq (part1_3 m p u h r x ln q0 q1 q2 q3 q4 q5 a R) hR
  · exact Box.of_eq (part1_4 m p u h r x ln q0 q1 q2 q3 q4 q5 a R) hR
  · exact Box.of_eq (part1_5 m p u h r x ln q0 q1 q2 q3 q4 q5 a R) hR
  · exact Box.of_eq (part1_6 m p u h r x ln q0 q1 q2 q3 q4 q5 a R) hR
  · exact Box.of_eq (part1_7 m p u h r x ln q0 q1 q2 q3 q4 q5 a R) hR
  · exact Box.of_eq (part1_8 m p u h r x ln q0 q1 q2 q3 q4 q5 a R) hR
  · exact Box.of_eq (part1_9 m p u h r x ln q0 q1 q2 q3 q4 q5 a R) hR
set_option maxRecDepth 100000 in
theorem part2_in (hk : 0 ≤ k ∧ k ≤ 9) (hR : R (oU m p u h r x [a, b, k])) : Box ((ZS m p u (.l .i64 [a, b]) h r x ln q0 q1 q2 q3 q4 q5 k).run R) := by
  have : k = 0 ∨ k = 1 ∨ k = 2 ∨ k = 3 ∨ k = 4 ∨ k = 5 ∨ k = 6 ∨ k = 7 ∨ k = 8 ∨ k = 9 := by omega
  rcases this with rfl | rfl | rfl | rfl | rfl | rfl | rfl | rfl | rfl | rfl
  · exact Box.of_eq (part2_0 m p u h r x ln q0 q1 q2 q3 q4 q5 a b R) hR
  · exact Box.of_eq (part2_1 m p u h r x ln q0 q1 q2 q3 q4 q5 a b R) hR
  · exact Box.of_eq (part2_2 m p u h r x ln q0 q1 q2 q3 q4 q5 a b R) hR
  · exact Box.of_eq (part2_3 m p u h r x ln q0 q1 q2 q3 q4 q5 a b R) hR
  · exact Box.of_eq (part2_4 m p u h r x ln q0 q1 q2 q3 q4 q5 a b R) hR
  · exact Box.of_eq (part2_5 m p u h r x ln q0 q1 q2 q3 q4 q5 a b R) hR
  · exact Box.of_eq (part2_6 m p u h r x ln q0 q1 q2 q3 q4 q5 a b R) hR
  · exact Box.of_eq (part2_7 m p u h r x ln q0 q1 q2 q3 q4 q5 a b R) hR
  · exact Box.of_eq (part2_8 m p u h r x ln q0 q1 q2 q3 q4 q5 a b R) hR
  · exact Box.of_eq (part2_9 m p u h r x ln q0 q1 q2 q3 q4 q5 a b R) hR
set_option maxRecDepth 100000 in
theorem part3_in (hk : 0 ≤ k ∧ k ≤ 9) (hR : R (oA m p (bits .and .i64 (nS a b c k) 16255) h r x)) : Box ((ZS m p u (.l .i64 [a, b, c]) h r x ln q0 q1 q2 q3 q4 q5 k).run R) := by
  have : k = 0 ∨ k = 1 ∨ k = 2 ∨ k = 3 ∨ k = 4 ∨ k = 5 ∨ k = 6 ∨ k = 7 ∨ k = 8 ∨ k = 9 := by omega
  rcases this with rfl | rfl | rfl | rfl | rfl | rfl | rfl | rfl | rfl | rfl
  · exact Box.of_eq (part3_0 m p u h r x ln q0 q1 q2 q3 q4 q5 a b c R) hR
  · exact Box.of_eq (part3_1 m p u h r x ln q0 q1 q2 q3 q4 q5 a b c R) hR
  · exact Box.of_eq (part3_2 m p u h r x ln q0 q1 q2 q3 q4 q5 a b c R) hR
  · exact Box.of_eq (part3_3 m p u h r x ln q0 q1 q2 q3 q4 q5 a b c R) hR
  · exact Box.of_eq (part3_4 m p u h r x ln q0 q1 q2 q3 q4 q5 a b c R) hR
  · exact Box.of_eq (part3_5 m p u h r x ln q0 q1 q2 q3 q4 q5 a b c R) hR
  · exact Box.of_eq (part3_6 m p u h r x ln q0 q1 q2 q3 q4 q5 a b c R) hR
  · exact Box.of_eq (part3_7 m p u h r x ln q0 q1 q2 q3 q4 q5 a b c R) hR
  · exact Box.of_eq (part3_8 m p u h r x ln q0 q1 q2 q3 q4 q5 a b c R) hR
  · exact Box.of_eq (part3_9 m p u h r x ln q0 q1 q2 q3 q4 q5 a b c R) hR
end
/-- A key that does nothing, a key for a part, or a digit. -/
noncomputable def keyN (m p u : Int) (h r x : Bool) (k : Int) : NC → Tr Out
  | .sn => .br (decide (1 ≤ k ∧ k ≤ 8)) (.ret (oD m p u h r x [k])) (.br (decide (k = 20)) (.ret (oF (stS m p u .sn true h r x))) (.must (k = 0 ∨ k = 9 ∨ k = 11 ∨ (k = 21 ∧ x = false)) (.ret (oF (stD m p u .sn h (xor r (decide (k = 11))) x)))))
  | .l .i64 [a] => .must (0 ≤ k ∧ k ≤ 9) (.ret (oD m p u h r x [a, k]))
  | .l .i64 [a, b] => .must ((1 ≤ a ∧ a ≤ 8) ∧ (0 ≤ b ∧ b ≤ 9) ∧ (0 ≤ k ∧ k ≤ 9)) (.ret (oT (100 * a + 10 * b + k) false x))
  | _ => .fail
noncomputable def keyU (m p u : Int) (h r x : Bool) (k : Int) : NC → Tr Out
  | .sn => .must (0 ≤ k ∧ k ≤ 9) (.ret (oU m p u h r x [k]))
  | .l .i64 [a] => .must (0 ≤ k ∧ k ≤ 9) (.ret (oU m p u h r x [a, k]))
  | .l .i64 [a, b] => .must (0 ≤ k ∧ k ≤ 9) (.ret (oU m p u h r x [a, b, k]))
  | .l .i64 [a, b, c] => .br (decide (k = 21)) (.ret (oF (stS m p u .sn false h r false))) (.must (0 ≤ k ∧ k ≤ 9) (.ret (oA m p (bits .and .i64 (nS a b c k) 16255) h r x)))
  | _ => .fail
noncomputable def keyM (m p u : Int) (h r x sb : Bool) (k : Int) (d e : NC) : Option (List (Int × Int × Int)) → Tr Out
  | some _ => (match sb, d, e with
    | false, d, .sn => keyN m p u h r x k d
    | true, .sn, e => keyU m p u h r x k e
    | _, _, _ => .fail)
  | none => .fail
noncomputable def tKeyM : Con := fun args regs => match args, regs with
  | [.ag [.i .i64 m, .i .i64 p, .i .i64 u, d, e, .b sb, .b h, .b r, .b x], .c (.i .i64 k), .ag xs, .c (.b _)], [] => keyM m p u h r x sb k d e (trips 6 xs)
  | _, _ => .fail
theorem keyN_in (m p u : Int) (h r x ln : Bool) (q0 q1 q2 q3 q4 q5 : Int × Int × Int) (k : Int) (d : NC) {R : Out → Prop} (hh : (keyN m p u h r x k d).run R) : Box ((Z m p u d h r x ln q0 q1 q2 q3 q4 q5 k).run R) := by
  unfold keyN at hh
  split at hh
  · rcases sel_iff.1 hh with ⟨c, hR⟩ | ⟨_, hh⟩
    · exact keyd0_in m p u h r x ln q0 q1 q2 q3 q4 q5 k (of_decide_eq_true c) hR
    · rcases sel_iff.1 hh with ⟨c, hR⟩ | ⟨_, hh⟩
      · have c := of_decide_eq_true c
        subst c
        exact Box.of_eq (keyS m p u h r x ln q0 q1 q2 q3 q4 q5 R) hR
      · have h1 := hh.1
        have h2 : R (oF (stD m p u .sn h (xor r (decide (k = 11))) x)) := hh.2
        clear hh
        rcases h1 with rfl | rfl | rfl | ⟨rfl, rfl⟩
        · have e : xor r (decide ((0 : Int) = 11)) = r := by cases r <;> rfl
          rw [e] at h2
          exact Box.of_eq (noise_0 m p u h r x ln q0 q1 q2 q3 q4 q5 R) h2
        · have e : xor r (decide ((9 : Int) = 11)) = r := by cases r <;> rfl
          rw [e] at h2
          exact Box.of_eq (noise_9 m p u h r x ln q0 q1 q2 q3 q4 q5 R) h2
        · have e : xor r (decide ((11 : Int) = 11)) = !r := by cases r <;> rfl
          rw [e] at h2
          exact Box.of_eq (noise_11 m p u h r x ln q0 q1 q2 q3 q4 q5 R) h2
        · have e : xor r (decide ((21 : Int) = 11)) = r := by cases r <;> rfl
          rw [e] at h2
          exact Box.of_eq (noise_21 m p u h r false ln q0 q1 q2 q3 q4 q5 R) h2
  · exact keyd1_in m p u h r x ln q0 q1 q2 q3 q4 q5 _ k hh.1 hh.2
  · exact keyd2_in m p u h r x ln q0 q1 q2 q3 q4 q5 _ _ k hh.1.1 hh.1.2.1 hh.1.2.2 hh.2
  · exact hh.elim
theorem keyU_in (m p u : Int) (h r x ln : Bool) (q0 q1 q2 q3 q4 q5 : Int × Int × Int) (k : Int) (d : NC) {R : Out → Prop} (hh : (keyU m p u h r x k d).run R) : Box ((ZS m p u d h r x ln q0 q1 q2 q3 q4 q5 k).run R) := by
  unfold keyU at hh
  split at hh
  · exact part0_in m p u h r x ln q0 q1 q2 q3 q4 q5 k hh.1 hh.2
  · exact part1_in m p u h r x ln q0 q1 q2 q3 q4 q5 _ k hh.1 hh.2
  · exact part2_in m p u h r x ln q0 q1 q2 q3 q4 q5 _ _ k hh.1 hh.2
  · rcases sel_iff.1 hh with ⟨c, hR⟩ | ⟨_, hh⟩
    · have c := of_decide_eq_true c
      subst c
      exact Box.of_eq (part3_21 m p u h r x ln q0 q1 q2 q3 q4 q5 _ _ _ R) hR
    · exact part3_in m p u h r x ln q0 q1 q2 q3 q4 q5 _ _ _ k hh.1 hh.2
  · exact hh.elim
set_option maxRecDepth 100000 in
theorem kKeyM : Known Try.prog [] 18 tKeyM := by
  refine k_keyd.less fun args regs R hh => ?_
  refine Box.out ?_
  unfold tKeyM at hh
  split at hh
  case h_2 => exact hh.elim
  rename_i m p u d e sb h r x k xs ln
  cases hl : trips 6 xs with
  | none => rw [hl] at hh; exact hh.elim
  | some l =>
    rw [hl] at hh
    obtain ⟨rfl, h6⟩ := trips_spec hl
    obtain ⟨a, b, c, d', e', f, rfl⟩ := list6 h6
    unfold keyM at hh
    split at hh
    case h_2 hx => cases hx
    split at hh
    · exact keyN_in m p u h r x ln a b c d' e' f k _ hh
    · exact keyU_in m p u h r x ln a b c d' e' f k _ hh
    · exact hh.elim
end Go.Proofs.Ytnhadghddkgjdaa.rem
