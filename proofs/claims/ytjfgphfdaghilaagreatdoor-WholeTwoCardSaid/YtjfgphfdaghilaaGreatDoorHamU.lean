/-
  ham24: a bit turned; a number below another one; the first words of the law.
-/
import Derived.Test.YtjfgphfdaghilaaGreatDoorHamS
namespace Go.Proofs.YtjfgphfdaghilaaGreatDoor.ham
open Go Go.Nx

noncomputable def turn1 (a : Int) (j : Nat) : NC := .i .u8 (bits .xor .u8 a (shlv .u8 1 (j : Int)))
noncomputable def three (a b c : Int) (k : Nat) : List NC := if k < 8 then [turn1 a k, .i .u8 b, .i .u8 c] else if k < 16 then [.i .u8 a, turn1 b (k - 8), .i .u8 c] else [.i .u8 a, .i .u8 b, turn1 c (k - 16)]
theorem below24 {k : Nat} (h : k < 24) : k = 0 ∨ k = 1 ∨ k = 2 ∨ k = 3 ∨ k = 4 ∨ k = 5 ∨ k = 6 ∨ k = 7 ∨ k = 8 ∨ k = 9 ∨ k = 10 ∨ k = 11 ∨ k = 12 ∨ k = 13 ∨ k = 14 ∨ k = 15 ∨ k = 16 ∨ k = 17 ∨ k = 18 ∨ k = 19 ∨ k = 20 ∨ k = 21 ∨ k = 22 ∨ k = 23 := by omega
theorem turn1_bv (v : BitVec 8) : ∀ j < 8, turn1 (u8 v) j = .i .u8 (u8 (v ^^^ BitVec.twoPow 8 j)) := by
  have e : ∀ j : Nat, j < 8 → BitVec.ofInt 8 (shlv .u8 1 (j : Int)) = BitVec.twoPow 8 j := by decide +kernel
  intro j hj
  unfold turn1
  rw [bits_u8, bvop_xor, ofInt_u8_8, e j hj]
theorem b0_xor (v w : BitVec 32) : b0 (v ^^^ w) = b0 v ^^^ b0 w := by unfold b0; rw [BitVec.setWidth_xor]
theorem b1_xor (v w : BitVec 32) : b1 (v ^^^ w) = b1 v ^^^ b1 w := by unfold b1; rw [BitVec.ushiftRight_xor_distrib, BitVec.setWidth_xor]
theorem b2_xor (v w : BitVec 32) : b2 (v ^^^ w) = b2 v ^^^ b2 w := by unfold b2; rw [BitVec.ushiftRight_xor_distrib, BitVec.setWidth_xor]
theorem b0_w3 (a b c : BitVec 8) : b0 (w3 a b c) = a := by
  apply BitVec.eq_of_getLsbD_eq
  intro i hi
  unfold b0
  rw [BitVec.getLsbD_setWidth, w3_bit, if_pos hi]
  simp [hi]
theorem b1_w3 (a b c : BitVec 8) : b1 (w3 a b c) = b := by
  apply BitVec.eq_of_getLsbD_eq
  intro i hi
  unfold b1
  rw [BitVec.getLsbD_setWidth, BitVec.getLsbD_ushiftRight, w3_bit, if_neg (by omega), if_pos (by omega)]
  have e : 8 + i - 8 = i := by omega
  rw [e]
  simp [hi]
theorem b2_w3 (a b c : BitVec 8) : b2 (w3 a b c) = c := by
  apply BitVec.eq_of_getLsbD_eq
  intro i hi
  unfold b2
  rw [BitVec.getLsbD_setWidth, BitVec.getLsbD_ushiftRight, w3_bit, if_neg (by omega), if_neg (by omega), if_pos (by omega)]
  have e : 16 + i - 16 = i := by omega
  rw [e]
  simp [hi]
theorem one_b : ∀ k < 24, b0 (BitVec.twoPow 32 k) = (if k < 8 then BitVec.twoPow 8 k else 0) ∧ b1 (BitVec.twoPow 32 k) = (if k < 8 then 0 else if k < 16 then BitVec.twoPow 8 (k - 8) else 0) ∧ b2 (BitVec.twoPow 32 k) = (if k < 8 then 0 else if k < 16 then 0 else BitVec.twoPow 8 (k - 16)) := by decide +kernel
theorem three_bv (a b c : BitVec 8) (k : Nat) (h : k < 24) : NS.v (.ag (three (u8 a) (u8 b) (u8 c) k)) = bytesv (w3 a b c ^^^ BitVec.twoPow 32 k) := by
  unfold bytesv three
  have e := one_b k h
  rw [b0_xor, b1_xor, b2_xor, e.1, e.2.1, e.2.2, b0_w3, b1_w3, b2_w3]
  by_cases h1 : k < 8
  · simp only [if_pos h1]
    rw [turn1_bv a k h1]
    simp
  · simp only [if_neg h1]
    by_cases h2 : k < 16
    · simp only [if_pos h2]
      rw [turn1_bv b (k - 8) (by omega)]
      simp
    · simp only [if_neg h2]
      rw [turn1_bv c (k - 16) (by omega)]
      simp
/-- What is known of a bit that is turned. -/
noncomputable def tThreeV : Con := fun args regs => match args, regs with
  | [.ag [.i .u8 a, .i .u8 b, .i .u8 c], .c (.i .i64 k)], [] => .must (((0 ≤ a ∧ a < 256) ∧ (0 ≤ b ∧ b < 256) ∧ (0 ≤ c ∧ c < 256)) ∧ (0 ≤ k ∧ k < 24)) (.ret ⟨bytesv (w3 (BitVec.ofInt 8 a) (BitVec.ofInt 8 b) (BitVec.ofInt 8 c) ^^^ BitVec.twoPow 32 k.toNat), []⟩)
  | _, _ => .fail
theorem num_tree (n m : Int) (R : Out → Prop) : (tNum [.c (.i .i64 n), .c (.i .i64 m)] []).run R = sel (m != 0) (sel (decide (Int.tmod n m < 0)) (R ⟨.v (.c (.i .i64 (IntKind.i64.wrap (Int.tmod n m + m)))), []⟩) (R ⟨.v (.c (.i .i64 (Int.tmod n m))), []⟩)) False := by kernel_rfl
noncomputable def tNumV : Con := fun args regs => match args, regs with
  | [.c (.i .i64 n), .c (.i .i64 m)], [] => .must (0 < m ∧ m < 4611686018427387904) (.ret ⟨.v (.c (.i .i64 (n % m))), []⟩)
  | _, _ => .fail
set_option maxRecDepth 100000 in
theorem kNumV : Known Tryz.prog [] 33 tNumV := by
  refine kNum.less fun args regs R h => ?_
  unfold tNumV at h
  split at h
  case h_2 => exact h.elim
  rename_i n m
  have h1 := h.1
  have h2 : R ⟨.v (.c (.i .i64 (n % m))), []⟩ := h.2
  clear h
  rw [num_tree]
  have a1 := Int.tmod_lt_of_pos n h1.1
  have a2 : -m < Int.tmod n m := by
    have := Int.tmod_lt_of_pos (-n) h1.1
    rw [Int.neg_tmod] at this
    omega
  have a3 : n % m = if Int.tmod n m < 0 then Int.tmod n m + m else Int.tmod n m := by
    rw [Int.emod_eq_tmod]
    by_cases c : 0 ≤ n ∨ m ∣ n
    · rw [if_pos c]
      rcases c with c | c
      · have : ¬ Int.tmod n m < 0 := by
          have := Int.tmod_nonneg m c
          omega
        rw [if_neg this]; omega
      · have : Int.tmod n m = 0 := Int.tmod_eq_zero_of_dvd c
        rw [this]; simp
    · rw [if_neg c]
      have c1 : ¬ 0 ≤ n := fun h => c (.inl h)
      have c2 : ¬ m ∣ n := fun h => c (.inr h)
      have : Int.tmod n m < 0 := by
        have h0 : Int.tmod n m ≠ 0 := fun h => c2 (Int.dvd_of_tmod_eq_zero h)
        have h5 : Int.tmod n m ≤ 0 := by
          have h6 := Int.tmod_nonneg (a := -n) m (by omega)
          rw [Int.neg_tmod] at h6
          omega
        omega
      rw [if_pos this]; omega
  refine sel_iff.2 (.inl ⟨by rw [bne_iff_ne]; omega, ?_⟩)
  rw [a3] at h2
  by_cases c : Int.tmod n m < 0
  · rw [if_pos c] at h2
    refine sel_iff.2 (.inl ⟨by rw [decide_eq_true_eq]; exact c, ?_⟩)
    have w2 : IntKind.i64.wrap (Int.tmod n m + m) = Int.tmod n m + m := by rw [IntKind.wrap_i64]; omega
    rw [w2]
    exact h2
  · rw [if_neg c] at h2
    exact sel_iff.2 (.inr ⟨by rw [decide_eq_false_iff_not]; exact c, h2⟩)

noncomputable def cFirst : FuncId → Option Con := fun f => match f with
  | 30 => some tPutV
  | 31 => some tGetV
  | _ => Option.none
theorem kcFirst : ∀ f T, cFirst f = some T → Known Tryz.prog [] f T := by
  intro f T h
  unfold cFirst at h
  split at h <;> cases h
  · exact kPutV
  · exact kGetV
end Go.Proofs.YtjfgphfdaghilaaGreatDoor.ham
