/-
  ham24: the plain law: the bits that keep watch.
-/
import Derived.Test.YtjfgphfdaghilaaGreatDoorHamM
namespace Go.Proofs.YtjfgphfdaghilaaGreatDoor.ham
open Go Go.Nx

def keepv (s : BitVec 64) : List Nat → BitVec 32 → BitVec 32
  | [], w => w
  | k :: ks, w => keepv s ks (w ||| (bif !s.getLsbD k then BitVec.twoPow 32 (2 ^ k - 1) else 0))
theorem xor_bit (b : Bool) : bits .xor .i64 1 (b.toNat : Int) = ((!b).toNat : Int) := by cases b <;> decide
theorem keep_bv (s : BitVec 64) : ∀ (ks : List Nat) (w : BitVec 32), (∀ k ∈ ks, k < 5) → keep (i64 s) ks (u32 w) = u32 (keepv s ks w)
  | [], _, _ => rfl
  | k :: ks, w, h => by
    have h1 := h k (by simp)
    have h2 : 2 ^ k ≤ 2 ^ 4 := Nat.pow_le_pow_right (by decide) (by omega)
    simp only [keep, keepv]
    rw [shr_and_one s k (by omega), xor_bit, shl_bit _ (2 ^ k - 1) (by omega), or_u32, keep_bv s ks _ fun q hq => h q (by simp [hq])]
end Go.Proofs.YtjfgphfdaghilaaGreatDoor.ham
