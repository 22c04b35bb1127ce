/-
  ham24: what is read of a word with no bit turned, with one, with two.
-/
import Derived.Test.YtjfgphfdaghilaaGreatDoorHamU
namespace Go.Proofs.YtjfgphfdaghilaaGreatDoor.ham
open Go Go.Nx

def w3i (a b c : Int) : BitVec 32 := w3 (BitVec.ofInt 8 a) (BitVec.ofInt 8 b) (BitVec.ofInt 8 c)
/-- A word's three bytes as a word. -/
def low (v : BitVec 32) : BitVec 32 := w3i (u8 (b0 v)) (u8 (b1 v)) (u8 (b2 v))
def InNum (m : Int) : Prop := 0 < m ∧ m < 4611686018427387904
def In64 (n : Int) : Prop := -9223372036854775808 ≤ n ∧ n < 9223372036854775808
def In8 (v : BitVec 32) : Prop := (0 ≤ u8 (b0 v) ∧ u8 (b0 v) < 256) ∧ (0 ≤ u8 (b1 v) ∧ u8 (b1 v) < 256) ∧ (0 ≤ u8 (b2 v) ∧ u8 (b2 v) < 256)
def In24 (n : Int) : Prop := 0 ≤ n ∧ n < 24
theorem low_eq (v : BitVec 32) (h : ∀ i, 24 ≤ i → v.getLsbD i = false) : low v = v := by
  unfold low w3i
  rw [ofInt_u8_8, ofInt_u8_8, ofInt_u8_8, w3_b v h]
theorem u8_fits (v : BitVec 8) : 0 ≤ u8 v ∧ u8 v < 256 := by
  have := v.isLt
  unfold u8
  omega
theorem in8 (v : BitVec 32) : In8 v := ⟨u8_fits _, u8_fits _, u8_fits _⟩
theorem bit_high {k : Nat} (hk : k < 24) (i : Nat) (hi : 24 ≤ i) : (BitVec.twoPow 32 k).getLsbD i = false := by
  rw [BitVec.getLsbD_twoPow]
  have : ¬ k = i := by omega
  simp [this]
theorem high_xor {v w : BitVec 32} (hv : ∀ i, 24 ≤ i → v.getLsbD i = false) (hw : ∀ i, 24 ≤ i → w.getLsbD i = false) (i : Nat) (hi : 24 ≤ i) : (v ^^^ w).getLsbD i = false := by
  rw [BitVec.getLsbD_xor, hv i hi, hw i hi]; rfl
/-- The place of a bit; the last one has none. -/
def sy (i : Nat) : BitVec 64 := if i < 23 then BitVec.ofNat 64 (i + 1) else 0
theorem syn_one : ∀ i < 24, synv (BitVec.twoPow 32 i) 23 = sy i := by decide +kernel
theorem par_one : ∀ i < 24, parTo (BitVec.twoPow 32 i) 32 = true := by decide +kernel
theorem sy_ne : ∀ i < 24, ∀ k < 24, i ≠ k → sy i ^^^ sy k ≠ 0#64 := by decide +kernel
theorem Code.at {v : BitVec 32} (h : Code v) : atv v = 0 := by unfold atv; rw [h.syn]; rfl
theorem Code.getB {v : BitVec 32} (h : Code v) : getB v = true := by unfold ham.getB; rw [h.at]; rfl
theorem Code.getN {v : BitVec 32} (h : Code v) : getN v = datv v := by unfold ham.getN; rw [h.at]; rfl
theorem Code.at1 {v : BitVec 32} (h : Code v) {i : Nat} (hi : i < 24) : atv (v ^^^ BitVec.twoPow 32 i) = sy i := by
  unfold atv
  rw [synv_xor, h.syn, syn_one i hi, BitVec.xor_comm (31#64), BitVec.xor_assoc, BitVec.xor_self, BitVec.xor_zero]
theorem Code.par1 {v : BitVec 32} (h : Code v) {i : Nat} (hi : i < 24) : parTo (v ^^^ BitVec.twoPow 32 i) 32 = false := by
  rw [parTo_xor, h.par, par_one i hi]; rfl
theorem sy_toNat : ∀ i < 23, (sy i == 0) = false ∧ (sy i).toNat = i + 1 := by decide +kernel
theorem xor_back (v w : BitVec 32) : v ^^^ w ^^^ w = v := by rw [BitVec.xor_assoc, BitVec.xor_self, BitVec.xor_zero]
theorem Code.get1 {v : BitVec 32} (h : Code v) {i : Nat} (hi : i < 24) : ham.getB (v ^^^ BitVec.twoPow 32 i) = true ∧ ham.getN (v ^^^ BitVec.twoPow 32 i) = datv v := by
  unfold ham.getB ham.getN
  rw [h.at1 hi, h.par1 hi]
  by_cases h23 : i < 23
  · have e := sy_toNat i h23
    have e2 : decide (24 ≤ i + 1) = false := by simp; omega
    rw [e.1, e.2, e2]
    refine ⟨rfl, ?_⟩
    show datv (v ^^^ BitVec.twoPow 32 i ^^^ BitVec.twoPow 32 (i + 1 - 1)) = datv v
    rw [Nat.add_sub_cancel, xor_back]
  · have e : i = 23 := by omega
    subst e
    refine ⟨rfl, ?_⟩
    show datv (v ^^^ BitVec.twoPow 32 23) = datv v
    apply datv_ext
    intro j hj
    have : ¬ 23 = j := by
      intro e
      subst e
      revert hj
      decide
    rw [BitVec.getLsbD_xor, BitVec.getLsbD_twoPow]
    simp [this]
theorem Code.get2 {v : BitVec 32} (h : Code v) {i k : Nat} (hi : i < 24) (hk : k < 24) : ham.getB (v ^^^ BitVec.twoPow 32 i ^^^ BitVec.twoPow 32 k) = decide (i = k) := by
  by_cases e : i = k
  · subst e
    rw [xor_back, h.getB]
    simp
  · have ha : atv (v ^^^ BitVec.twoPow 32 i ^^^ BitVec.twoPow 32 k) = sy i ^^^ sy k := by
      have := h.at1 hi
      unfold atv at this ⊢
      rw [synv_xor, syn_one k hk, BitVec.xor_assoc, BitVec.xor_comm (sy k), ← BitVec.xor_assoc, this]
    have hp : parTo (v ^^^ BitVec.twoPow 32 i ^^^ BitVec.twoPow 32 k) 32 = true := by
      rw [parTo_xor, h.par1 hi, par_one k hk]; rfl
    unfold ham.getB
    rw [ha, hp]
    have : (sy i ^^^ sy k == 0) = false := by
      rw [beq_eq_false_iff_ne]
      exact sy_ne i hi k hk e
    rw [this]
    simp [e]
theorem num_high {n : Int} (h0 : 0 ≤ n) (h1 : n < 262144) (j : Nat) (hj : 18 ≤ j) : (BitVec.ofInt 64 n).getLsbD j = false := by
  have e : n = (n.toNat : Int) := by omega
  rw [e, BitVec.ofInt_natCast, BitVec.getLsbD_ofNat]
  have : n.toNat.testBit j = false := by
    apply Nat.testBit_lt_two_pow
    have : 2 ^ 18 ≤ 2 ^ j := Nat.pow_le_pow_right (by decide) hj
    omega
  rw [this, Bool.and_false]
theorem num_in64 {n : Int} (h0 : 0 ≤ n) (h1 : n < 262144) : In64 n := ⟨by omega, by omega⟩
theorem dat_word {n : Int} (h0 : 0 ≤ n) (h1 : n < 262144) : i64 (datv (wordv (BitVec.ofInt 64 n))) = n := by
  rw [datv_wordv _ (num_high h0 h1), ← fit_i64 (by omega) (by omega)]

/-! ### The first words of the laws -/
noncomputable def tYes : Con := fun args regs => match args, regs with
  | [], [] => .ret ⟨.v (.c (.b true)), []⟩
  | _, _ => .fail
def word5 : BitVec 32 := wordv (BitVec.ofInt 64 5)
end Go.Proofs.YtjfgphfdaghilaaGreatDoor.ham
