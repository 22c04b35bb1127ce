/-
  A place that may be, an address: plain facts.
-/
import Derived.Test.YthjdlanmfiofdaaDoorHdD
namespace Go.Proofs.YthjdlanmfiofdaaDoor.hd
open Go Go.Nx Go.Proofs.YthjdlanmfiofdaaDoor.pk

theorem bits_andNot (x y : Int) : bits .andNot .i64 x y = i64 (BitVec.ofInt 64 x &&& ~~~ BitVec.ofInt 64 y) := bits_i64 .andNot x y
theorem andNot_iff (x : Int) (hx : -9223372036854775808 ≤ x ∧ x < 9223372036854775808) : bits .andNot .i64 x 16255 = 0 ↔ 0 ≤ x ∧ x ≤ 16255 ∧ x / 128 % 2 = 0 := by
  have hz : (0 : Int) = i64 0#64 := by decide
  have key : bits .andNot .i64 x 16255 = 0 ↔ aI x 16255 = x := by
    rw [bits_andNot, hz, i64_inj]
    have e : aI x 16255 = i64 (BitVec.ofInt 64 x &&& BitVec.ofInt 64 16255) := bits_i64 .and x 16255
    rw [e]
    have e3 : (i64 (BitVec.ofInt 64 x &&& BitVec.ofInt 64 16255) = x) = (i64 (BitVec.ofInt 64 x &&& BitVec.ofInt 64 16255) = i64 (BitVec.ofInt 64 x)) := by rw [← fit_i64 hx.1 hx.2]
    rw [e3, i64_inj]
    generalize BitVec.ofInt 64 x = v
    generalize BitVec.ofInt 64 16255 = w
    constructor
    · intro h
      have : v = (v &&& w) ||| (v &&& ~~~w) := by
        ext i hi
        simp only [BitVec.getElem_or, BitVec.getElem_and, BitVec.getElem_not]
        cases v[i] <;> cases w[i] <;> rfl
      rw [h] at this
      rw [BitVec.or_zero] at this
      exact this.symm
    · intro h
      rw [← h]
      ext i hi
      simp only [BitVec.getElem_and, BitVec.getElem_not, BitVec.getElem_zero]
      cases v[i] <;> cases w[i] <;> rfl
  rw [key, any_eq]
  omega
theorem aI_128 (x : Int) : aI x 128 = x / 128 % 2 * 128 := by
  have h : ∀ n < 256, aI (Int.ofNat n) 128 = Int.ofNat (n / 128 % 2 * 128) := by decide +kernel
  have e : aI x 128 = aI (aI x 255) 128 := by rw [and_and]; rfl
  have e2 : aI x 255 = x % 256 := and_mask64 x 8 (by decide)
  rw [e, e2]
  have := h (x % 256).toNat (by omega)
  have e3 : Int.ofNat (x % 256).toNat = x % 256 := by show (((x % 256).toNat : Nat) : Int) = x % 256; omega
  rw [e3] at this
  rw [this]
  show ((((x % 256).toNat / 128 % 2 * 128 : Nat)) : Int) = _
  omega
theorem adr_all : ∀ m < 8, ∀ r < 32, get (adr0 (Int.ofNat m + 1) (Int.ofNat r)) ≠ none ∧ get (adr1 (Int.ofNat r)) ≠ none ∧ magOf (getN (adr0 (Int.ofNat m + 1) (Int.ofNat r))) = Int.ofNat m + 1 ∧ rowOf (getN (adr0 (Int.ofNat m + 1) (Int.ofNat r))) (getN (adr1 (Int.ofNat r))) = Int.ofNat r := by decide +kernel
theorem adr_of {M r : Int} (h : 1 ≤ M ∧ M ≤ 8 ∧ 0 ≤ r ∧ r ≤ 31) : magOf (getN (adr0 M r)) = M ∧ rowOf (getN (adr0 M r)) (getN (adr1 r)) = r := by
  have := adr_all (M - 1).toNat (by omega) r.toNat (by omega)
  have e1 : Int.ofNat (M - 1).toNat + 1 = M := by show (((M - 1).toNat : Nat) : Int) + 1 = M; omega
  have e2 : Int.ofNat r.toNat = r := by show ((r.toNat : Nat) : Int) = r; omega
  rw [e1, e2] at this
  exact this.2.2
theorem fair_any (mg pg x : Int) (hm : 1 ≤ mg ∧ mg ≤ 8) (hp : 0 ≤ pg ∧ pg < 256) : fairB mg pg (aI x 16255) = true := by
  have h := any_in x
  have h2 := (andNot_iff (aI x 16255) ⟨by omega, by omega⟩).2 ⟨h.1, by have := any_eq x; omega, h.2.2⟩
  unfold fairB
  rw [dT (show mg ≥ 1 by omega), dT hm.2, dT (show pg ≥ 0 by omega), dT (show pg ≤ 255 by omega), h2]
  rfl
end Go.Proofs.YthjdlanmfiofdaaDoor.hd
