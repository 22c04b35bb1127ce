/-
  ham24: the plain law: the places that are set, taken together, are linear in the bits.
-/
import Derived.Test.YtjfgphfdaghilaaGreatDoorHamT
namespace Go.Proofs.YtjfgphfdaghilaaGreatDoor.ham
open Go Go.Nx

def synv (v : BitVec 32) : Nat → BitVec 64
  | 0 => 0
  | n + 1 => (bif v.getLsbD (22 - n) then BitVec.ofNat 64 (23 - n) else 0) ^^^ synv v n
theorem isSet_bv (v : BitVec 32) (p : Nat) (hp : p ≤ 32) : isSet (u32 v) p = v.getLsbD (p - 1) := by
  unfold isSet
  rw [shr_u32 v (p - 1) (by omega), bits_u32, bvop_and, Nx.ofInt_u32]
  have e : (1 : Int) = u32 1#32 := rfl
  rw [show BitVec.ofInt 32 1 = 1#32 from rfl, e]
  have h1 : (u32 (BitVec.setWidth 32 (v >>> (p - 1)) &&& 1#32) == u32 1#32) = ((v >>> (p - 1)) &&& 1#32 == 1#32) := by
    rw [Bool.eq_iff_iff, beq_iff_eq, beq_iff_eq, u32_inj, BitVec.setWidth_eq]
  rw [h1, Bool.eq_iff_iff, beq_iff_eq]
  constructor
  · intro h
    have := congrArg (fun x : BitVec 32 => x.getLsbD 0) h
    simpa using this
  · intro h
    apply BitVec.eq_of_getLsbD_eq
    intro i hi
    rw [BitVec.getLsbD_and, BitVec.getLsbD_ushiftRight]
    cases i with
    | zero => simpa using h
    | succ i => simp
theorem syn_bv (v : BitVec 32) : ∀ (n : Nat) (a : BitVec 64), n ≤ 23 → syn (u32 v) (i64 a) n = i64 (a ^^^ synv v n)
  | 0, a, _ => by simp [syn, synv]
  | n + 1, a, hn => by
    simp only [syn, synv]
    rw [isSet_bv v (23 - n) (by omega)]
    have e1 : 23 - n - 1 = 22 - n := by omega
    rw [e1]
    cases v.getLsbD (22 - n) with
    | true =>
      rw [if_pos rfl, bits_i64, bvop_xor, Nx.ofInt_i64_64, BitVec.ofInt_natCast, syn_bv v n _ (by omega)]
      simp [BitVec.xor_assoc]
    | false =>
      rw [if_neg (by decide), syn_bv v n _ (by omega)]
      simp
theorem synv_xor (v w : BitVec 32) : ∀ n, synv (v ^^^ w) n = synv v n ^^^ synv w n
  | 0 => by simp [synv]
  | n + 1 => by
    simp only [synv, synv_xor v w n, BitVec.getLsbD_xor]
    generalize synv v n = a
    generalize synv w n = b
    generalize BitVec.ofNat 64 (23 - n) = c
    apply BitVec.eq_of_getLsbD_eq
    intro i _
    cases v.getLsbD (22 - n) <;> cases w.getLsbD (22 - n) <;> simp <;> cases a.getLsbD i <;> cases b.getLsbD i <;> cases c.getLsbD i <;> rfl
end Go.Proofs.YtjfgphfdaghilaaGreatDoor.ham
