/-
  ham24: the plain law: what Put gives, as rows of bits.
-/
import Derived.Test.YtjfgphfdaghilaaGreatDoorHamL
namespace Go.Proofs.YtjfgphfdaghilaaGreatDoor.ham
open Go Go.Nx

/-- A number's bits at their places, from the k-th on. -/
def placev (n : BitVec 64) : List Nat → BitVec 32 → Nat → BitVec 32
  | [], w, _ => w
  | p :: ps, w, k => placev n ps (w ||| (bif n.getLsbD k then BitVec.twoPow 32 (p - 1) else 0)) (k + 1)
theorem shr_and_one (n : BitVec 64) (k : Nat) (hk : k < 64) : bits .and .i64 (shrv .i64 (i64 n) (Int.ofNat k)) 1 = (n.getLsbD k).toNat := by
  rw [show Int.ofNat k = ((k : Nat) : Int) from rfl, shr_i64 n k (by omega), bits_i64, bvop_and, Nx.ofInt_i64_64]
  rw [show BitVec.ofInt 64 1 = 1#64 from rfl]
  have e : (n.sshiftRight k &&& 1#64) = bif n.getLsbD k then 1#64 else 0#64 := by
    apply BitVec.eq_of_getLsbD_eq
    intro i hi
    rw [BitVec.getLsbD_and, BitVec.getLsbD_sshiftRight]
    cases i with
    | zero =>
      have h1 : k + 0 < 64 := by omega
      cases n.getLsbD k <;> simp [hk]
    | succ i => cases n.getLsbD k <;> simp
  rw [e]
  cases n.getLsbD k <;> rfl
theorem shl_bit (b : Bool) (j : Nat) (hj : j < 32) : shlv .u32 (IntKind.u32.wrap (b.toNat : Int)) (Int.ofNat j) = u32 (bif b then BitVec.twoPow 32 j else 0) := by
  rw [show Int.ofNat j = ((j : Nat) : Int) from rfl, shl_u32 _ j (by omega), wrap_u32, Nx.ofInt_u32, BitVec.ofInt_natCast]
  congr 1
  cases b with
  | true =>
    show (BitVec.setWidth 32 (BitVec.ofNat 32 1)) <<< j = BitVec.twoPow 32 j
    rw [BitVec.setWidth_eq]
    rfl
  | false => simp
theorem or_u32 (v w : BitVec 32) : bits .or .u32 (u32 v) (u32 w) = u32 (v ||| w) := by
  rw [bits_u32, bvop_or, Nx.ofInt_u32, Nx.ofInt_u32, BitVec.setWidth_eq, BitVec.setWidth_eq]
theorem place_bv (n : BitVec 64) : ∀ (ps : List Nat) (w : BitVec 32) (k : Nat), k + ps.length ≤ 64 → (∀ p ∈ ps, p ≤ 32 ∧ 0 < p) → place (i64 n) ps (u32 w) k = u32 (placev n ps w k)
  | [], _, _, _, _ => rfl
  | p :: ps, w, k, hk, hp => by
    have h1 := hp p (by simp)
    simp only [List.length_cons] at hk
    simp only [place, placev]
    rw [shr_and_one n k (by omega), shl_bit _ (p - 1) (by omega), or_u32, place_bv n ps _ (k + 1) (by omega) fun q hq => hp q (by simp [hq])]
end Go.Proofs.YtjfgphfdaghilaaGreatDoor.ham
