/-
  Four bits in eight: a number as a byte, a byte as a number.
-/
import Derived.Test.YtjfgphfdaghilaaGreatDoorPkA
namespace Go.Proofs.YtjfgphfdaghilaaGreatDoor.pk
open Go Go.Nx

noncomputable def D (n k : Int) : Int := IntKind.u8.wrap (bits .and .i64 (shrv .i64 n (IntKind.i64.wrap (k - 1))) 1)
def o8 (a b : Int) : Int := bits .or .u8 a b
def x8 (a b : Int) : Int := bits .xor .u8 a b
def PB (d1 d2 d3 d4 : Int) : Int := o8 (o8 (o8 (o8 (shlv .u8 d1 1) (shlv .u8 d2 3)) (shlv .u8 d3 5)) (shlv .u8 d4 7)) (o8 (o8 (shlv .u8 (x8 (x8 (x8 1 d1) d3) d4) 0) (shlv .u8 (x8 (x8 (x8 1 d1) d2) d4) 2)) (shlv .u8 (x8 (x8 (x8 1 d1) d2) d3) 4))
theorem put_tree (n : Int) (R : Out → Prop) : (t_put [.c (.i .i64 n)] []).run R =
    ((0 ≤ PB (D n 1) (D n 2) (D n 3) (D n 4) ∧ PB (D n 1) (D n 2) (D n 3) (D n 4) < 256) ∧ sel (isEv (PB (D n 1) (D n 2) (D n 3) (D n 4))) (R ⟨.v (.c (.i .u8 (o8 (PB (D n 1) (D n 2) (D n 3) (D n 4)) 64))), []⟩) (R ⟨.v (.c (.i .u8 (PB (D n 1) (D n 2) (D n 3) (D n 4)))), []⟩)) := by kernel_rfl
def putL : List Int := [0x15, 0x02, 0x49, 0x5E, 0x64, 0x73, 0x38, 0x2F, 0xD0, 0xC7, 0x8C, 0x9B, 0xA1, 0xB6, 0xFD, 0xEA]
/-- The byte of a number. -/
def put (n : Int) : Int := putL.getD (n % 16).toNat 0
def bit (n : Int) (k : Nat) : Int := n / 2 ^ k % 2
theorem D_eq (n : Int) (k : Nat) (hk : k < 4) : D n (k + 1) = bit n k := by
  have e1 : IntKind.i64.wrap ((k : Int) + 1 - 1) = (k : Int) := by rw [IntKind.wrap_i64]; omega
  have e2 : shrv .i64 n (k : Int) = n / 2 ^ k := by
    unfold shrv
    have : min (k : Int).toNat IntKind.i64.bits = k := by
      show min (k : Int).toNat 64 = k
      simp; omega
    rw [this, Int.fdiv_eq_ediv_of_nonneg _ (by exact_mod_cast Nat.zero_le _)]
  have e3 : bits .and .i64 (n / 2 ^ k) 1 = n / 2 ^ k % 2 := and_mask64 _ 1 (by decide)
  unfold D bit
  rw [e1, e2, e3, IntKind.wrap_u8]
  have := Int.emod_nonneg (n / 2 ^ k) (b := 2) (by decide)
  have := Int.emod_lt_of_pos (n / 2 ^ k) (b := 2) (by decide)
  omega
theorem bit_16 (n : Int) (k : Nat) (hk : k < 4) : bit n k = bit (n % 16) k := by
  unfold bit
  have : k = 0 ∨ k = 1 ∨ k = 2 ∨ k = 3 := by omega
  rcases this with rfl | rfl | rfl | rfl <;> simp <;> omega
theorem put_all : ∀ m < 16, (0 ≤ PB (bit (Int.ofNat m) 0) (bit (Int.ofNat m) 1) (bit (Int.ofNat m) 2) (bit (Int.ofNat m) 3) ∧ PB (bit (Int.ofNat m) 0) (bit (Int.ofNat m) 1) (bit (Int.ofNat m) 2) (bit (Int.ofNat m) 3) < 256) ∧
    (bif isEv (PB (bit (Int.ofNat m) 0) (bit (Int.ofNat m) 1) (bit (Int.ofNat m) 2) (bit (Int.ofNat m) 3)) then o8 (PB (bit (Int.ofNat m) 0) (bit (Int.ofNat m) 1) (bit (Int.ofNat m) 2) (bit (Int.ofNat m) 3)) 64 else PB (bit (Int.ofNat m) 0) (bit (Int.ofNat m) 1) (bit (Int.ofNat m) 2) (bit (Int.ofNat m) 3)) = put (Int.ofNat m) := by decide +kernel
theorem put_16 (n : Int) : put (n % 16) = put n := by
  unfold put
  rw [Int.emod_emod_of_dvd _ (Int.dvd_refl 16)]
theorem PB_of (n : Int) : (0 ≤ PB (D n 1) (D n 2) (D n 3) (D n 4) ∧ PB (D n 1) (D n 2) (D n 3) (D n 4) < 256) ∧ (bif isEv (PB (D n 1) (D n 2) (D n 3) (D n 4)) then o8 (PB (D n 1) (D n 2) (D n 3) (D n 4)) 64 else PB (D n 1) (D n 2) (D n 3) (D n 4)) = put n := by
  have d1 : D n 1 = bit n 0 := D_eq n 0 (by decide)
  have d2 : D n 2 = bit n 1 := D_eq n 1 (by decide)
  have d3 : D n 3 = bit n 2 := D_eq n 2 (by decide)
  have d4 : D n 4 = bit n 3 := D_eq n 3 (by decide)
  rw [d1, d2, d3, d4, bit_16 n 0 (by decide), bit_16 n 1 (by decide), bit_16 n 2 (by decide), bit_16 n 3 (by decide), ← put_16 n]
  have h0 := Int.emod_nonneg n (b := 16) (by decide)
  have h1 := Int.emod_lt_of_pos n (b := 16) (by decide)
  have e : n % 16 = Int.ofNat (n % 16).toNat := by show n % 16 = (((n % 16).toNat : Nat) : Int); omega
  have hm : (n % 16).toNat < 16 := by omega
  generalize (n % 16).toNat = m at *
  rw [e]
  exact put_all m hm
noncomputable def tPut : Con := fun args regs => match args, regs with
  | [.c (.i .i64 n)], [] => .ret ⟨.v (.c (.i .u8 (put n))), []⟩
  | _, _ => .fail
set_option maxRecDepth 100000 in
theorem kPut : Known Tryz.prog [] 29 tPut := by
  refine k_put.less fun args regs R h => Box.out ?_
  unfold tPut at h
  split at h
  case h_2 => exact h.elim
  rename_i n
  have h2 : R ⟨.v (.c (.i .u8 (put n))), []⟩ := h
  clear h
  obtain ⟨p1, p2⟩ := PB_of n
  refine Box.of_eq (put_tree n R) ⟨p1, ?_⟩
  rw [← p2] at h2
  cases hb : isEv (PB (D n 1) (D n 2) (D n 3) (D n 4)) with
  | true => rw [hb] at h2; exact h2
  | false => rw [hb] at h2; exact h2
end Go.Proofs.YtjfgphfdaghilaaGreatDoor.pk
