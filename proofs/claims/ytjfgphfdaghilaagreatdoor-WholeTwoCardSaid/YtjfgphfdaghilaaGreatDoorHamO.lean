/-
  math/bits.OnesCount32: which parity it gives.
-/
import Derived.Test.YtjfgphfdaghilaaGreatDoorEngC
import Derived.Test.YtjfgphfdaghilaaGreatDoorPbv
import Derived.Test.YtjfgphfdaghilaaGreatDoorRows
namespace Go.Proofs.YtjfgphfdaghilaaGreatDoor.ham
open Go Go.Nx

theorem mixed : Tryz.prog.follows .mixedOrders = true := by kernel_rfl
noncomputable def tOnes : Con := fun args regs => nfun Tryz.prog [] (fun _ => Option.none) [] Tryz.f58 args regs
theorem kOnes : Known Tryz.prog [] 58 tOnes := known_inl Tryz.func58 rfl (by kernel_rfl) mixed con_none (by kernel_rfl)

/-- The parity of the lowest n bits. -/
def parTo {m : Nat} (v : BitVec m) : Nat → Bool
  | 0 => false
  | n + 1 => parTo v n ^^ v.getLsbD n
theorem parTo_xor {m : Nat} (v w : BitVec m) (n : Nat) : parTo (v ^^^ w) n = (parTo v n ^^ parTo w n) := by
  induction n with
  | zero => rfl
  | succ n ih =>
    simp only [parTo, ih, BitVec.getLsbD_xor]
    cases parTo v n <;> cases parTo w n <;> cases v.getLsbD n <;> cases w.getLsbD n <;> rfl

/-- How many of the lowest n bits are set. -/
def pcTo (x : Nat) : Nat → Nat
  | 0 => 0
  | n + 1 => pcTo x n + (x / 2 ^ n) % 2
/-- The table of OnesCount32. -/
noncomputable def tab : ByteArray := ⟨((List.range 256).map fun i => UInt8.ofNat (pcTo i 8)).toArray⟩
noncomputable def pop (w : Int) : Int := IntKind.i64.wrap (IntKind.u8.wrap (IntKind.u8.wrap (IntKind.u8.wrap (byteAt tab (shrv .u32 w 24).toNat + byteAt tab (bits .and .u32 (shrv .u32 w 16) 255).toNat) + byteAt tab (bits .and .u32 (shrv .u32 w 8) 255).toNat) + byteAt tab (bits .and .u32 w 255).toNat))
theorem ones_tree (w : Int) (R : Out → Prop) : (tOnes [.c (.i .u32 w)] []).run R =
    sel (decide (0 ≤ shrv .u32 w 24)) (sel (decide (shrv .u32 w 24 < (tab.size : Int)))
     (sel (decide (0 ≤ bits .and .u32 (shrv .u32 w 16) 255)) (sel (decide (bits .and .u32 (shrv .u32 w 16) 255 < (tab.size : Int)))
      (sel (decide (0 ≤ bits .and .u32 (shrv .u32 w 8) 255)) (sel (decide (bits .and .u32 (shrv .u32 w 8) 255 < (tab.size : Int)))
       (sel (decide (0 ≤ bits .and .u32 w 255)) (sel (decide (bits .and .u32 w 255 < (tab.size : Int)))
        (R ⟨.v (.c (.i .i64 (pop w))), []⟩) False) False) False) False) False) False) False) False := by
  kernel_rfl

def parN (x : Nat) : Nat → Bool
  | 0 => false
  | n + 1 => parN x n ^^ x.testBit n
theorem pc_par (x : Nat) : ∀ n, pcTo x n % 2 = (parN x n).toNat
  | 0 => rfl
  | n + 1 => by
    have ih := pc_par x n
    simp only [pcTo, parN, Nat.testBit_eq_decide_div_mod_eq]
    cases h : parN x n <;> rw [h] at ih <;> by_cases h2 : x / 2 ^ n % 2 = 1 <;> simp [h2, Bool.toNat] at ih ⊢ <;> omega
theorem tab_at : ∀ i < 256, byteAt tab i = (pcTo i 8 : Int) := by decide +kernel
theorem pc_le (x : Nat) : ∀ n, pcTo x n ≤ n
  | 0 => Nat.le_refl _
  | n + 1 => by have := pc_le x n; simp only [pcTo]; omega

theorem pop_eq (v : BitVec 32) : pop (u32 v) = ((pcTo (v >>> 24).toNat 8 + pcTo ((v >>> 16) &&& 255#32).toNat 8 + pcTo ((v >>> 8) &&& 255#32).toNat 8 + pcTo (v &&& 255#32).toNat 8 : Nat) : Int) := by
  have s24 : shrv .u32 (u32 v) 24 = u32 (v >>> 24) := shr_u32 v 24 (by decide)
  have s16 : shrv .u32 (u32 v) 16 = u32 (v >>> 16) := shr_u32 v 16 (by decide)
  have s8 : shrv .u32 (u32 v) 8 = u32 (v >>> 8) := shr_u32 v 8 (by decide)
  have an : ∀ x : BitVec 32, bits .and .u32 (u32 x) 255 = u32 (x &&& 255#32) := fun x => by
    rw [bits_u32, bvop_and, Nx.ofInt_u32]; simp
  have lt : ∀ x : BitVec 32, (x &&& 255#32).toNat < 256 := fun x => by
    rw [BitVec.toNat_and]
    exact Nat.lt_of_le_of_lt Nat.and_le_right (by decide)
  have lt24 : (v >>> 24).toNat < 256 := by
    rw [BitVec.toNat_ushiftRight, Nat.shiftRight_eq_div_pow]
    have := v.isLt
    omega
  have un : ∀ x : BitVec 32, (u32 x).toNat = x.toNat := fun x => by simp [u32]
  unfold pop
  rw [s24, s16, s8, an, an, an, un, un, un, un, tab_at _ lt24, tab_at _ (lt _), tab_at _ (lt _), tab_at _ (lt _)]
  have h1 := pc_le (v >>> 24).toNat 8
  have h2 := pc_le ((v >>> 16) &&& 255#32).toNat 8
  have h3 := pc_le ((v >>> 8) &&& 255#32).toNat 8
  have h4 := pc_le (v &&& 255#32).toNat 8
  rw [IntKind.wrap_u8, IntKind.wrap_u8, IntKind.wrap_u8, IntKind.wrap_i64]
  omega

theorem parN_bv {m : Nat} (x : Nat) (v : BitVec m) (k : Nat) : ∀ n, (∀ i < n, x.testBit i = v.getLsbD (k + i)) → parTo v (k + n) = (parTo v k ^^ parN x n)
  | 0, _ => by simp [parN]
  | n + 1, h => by
    have ih := parN_bv x v k n fun i hi => h i (by omega)
    show parTo v (k + n + 1) = _
    simp only [parTo, parN, ih, h n (by omega), Bool.xor_assoc]
theorem pop_par (v : BitVec 32) : pop (u32 v) % 2 = ((parTo v 32).toNat : Int) := by
  have b3 : ∀ i < 8, (v >>> 24).toNat.testBit i = v.getLsbD (24 + i) := fun i hi => by
    rw [BitVec.testBit_toNat, BitVec.getLsbD_ushiftRight]
  have bb : ∀ k, ∀ i < 8, ((v >>> k) &&& 255#32).toNat.testBit i = v.getLsbD (k + i) := fun k i hi => by
    rw [BitVec.testBit_toNat, BitVec.getLsbD_and, BitVec.getLsbD_ushiftRight]
    have : (255#32).getLsbD i = true := by
      match i, hi with
      | 0, _ => rfl
      | 1, _ => rfl
      | 2, _ => rfl
      | 3, _ => rfl
      | 4, _ => rfl
      | 5, _ => rfl
      | 6, _ => rfl
      | 7, _ => rfl
    rw [this, Bool.and_true]
  have b0 : ∀ i < 8, (v &&& 255#32).toNat.testBit i = v.getLsbD (0 + i) := fun i hi => by
    have := bb 0 i hi
    simpa using this
  have e8 := parN_bv _ v 0 8 b0
  have e16 := parN_bv _ v 8 8 (bb 8)
  have e24 := parN_bv _ v 16 8 (bb 16)
  have e32 := parN_bv _ v 24 8 b3
  have z : parTo v 0 = false := rfl
  rw [z, Bool.false_xor] at e8
  have p0 := pc_par (v &&& 255#32).toNat 8
  have p1 := pc_par ((v >>> 8) &&& 255#32).toNat 8
  have p2 := pc_par ((v >>> 16) &&& 255#32).toNat 8
  have p3 := pc_par (v >>> 24).toNat 8
  have h32 : parTo v 32 = ((((parN (v &&& 255#32).toNat 8) ^^ (parN ((v >>> 8) &&& 255#32).toNat 8)) ^^ (parN ((v >>> 16) &&& 255#32).toNat 8)) ^^ (parN (v >>> 24).toNat 8)) := by
    rw [← e8, ← e16, ← e24]; exact e32
  rw [pop_eq, h32]
  generalize parN (v &&& 255#32).toNat 8 = q0 at *
  generalize parN ((v >>> 8) &&& 255#32).toNat 8 = q1 at *
  generalize parN ((v >>> 16) &&& 255#32).toNat 8 = q2 at *
  generalize parN (v >>> 24).toNat 8 = q3 at *
  generalize pcTo (v &&& 255#32).toNat 8 = c0 at *
  generalize pcTo ((v >>> 8) &&& 255#32).toNat 8 = c1 at *
  generalize pcTo ((v >>> 16) &&& 255#32).toNat 8 = c2 at *
  generalize pcTo (v >>> 24).toNat 8 = c3 at *
  cases q0 <;> cases q1 <;> cases q2 <;> cases q3 <;> simp only [Bool.toNat_true, Bool.toNat_false] at p0 p1 p2 p3 <;> simp <;> omega



theorem in_byte {x : BitVec 32} (hx : x.toNat < 256) {A : Prop} (hA : A) : sel (decide (0 ≤ u32 x)) (sel (decide (u32 x < 256)) A False) False := by
  have h0 : decide (0 ≤ u32 x) = true := by simp [u32]
  have h1 : decide (u32 x < 256) = true := by
    rw [decide_eq_true_eq]
    unfold u32
    omega
  rw [h0, h1]
  exact hA
/-- What is known of OnesCount32. -/
noncomputable def tPop : Con := fun args regs => match args, regs with
  | [.c (.i .u32 w)], [] => .must (0 ≤ w ∧ w < 4294967296) (.ret ⟨.v (.c (.i .i64 (pop w))), []⟩)
  | _, _ => .fail
set_option maxRecDepth 100000 in
theorem kPop : Known Tryz.prog [] 58 tPop := by
  refine kOnes.less fun args regs R h => ?_
  unfold tPop at h
  split at h
  case h_2 => exact h.elim
  rename_i w
  obtain ⟨⟨h0, h1⟩, hR⟩ := h
  rw [ones_tree]
  have hw := fit_u32 h0 h1
  generalize BitVec.ofInt 32 w = v at hw
  subst hw
  have s24 : shrv .u32 (u32 v) 24 = u32 (v >>> 24) := shr_u32 v 24 (by decide)
  have s16 : shrv .u32 (u32 v) 16 = u32 (v >>> 16) := shr_u32 v 16 (by decide)
  have s8 : shrv .u32 (u32 v) 8 = u32 (v >>> 8) := shr_u32 v 8 (by decide)
  have an : ∀ x : BitVec 32, bits .and .u32 (u32 x) 255 = u32 (x &&& 255#32) := fun x => by
    rw [bits_u32, bvop_and, Nx.ofInt_u32]; simp
  have lt : ∀ x : BitVec 32, (x &&& 255#32).toNat < 256 := fun x => by
    rw [BitVec.toNat_and]
    exact Nat.lt_of_le_of_lt Nat.and_le_right (by decide)
  have lt24 : (v >>> 24).toNat < 256 := by
    rw [BitVec.toNat_ushiftRight, Nat.shiftRight_eq_div_pow]
    have := v.isLt
    omega
  have sz : (tab.size : Int) = 256 := by decide +kernel
  rw [s24, s16, s8, an, an, an, sz]
  refine in_byte lt24 ?_
  refine in_byte (lt (v >>> 16)) ?_
  refine in_byte (lt (v >>> 8)) ?_
  refine in_byte (lt v) ?_
  exact hR

end Go.Proofs.YtjfgphfdaghilaaGreatDoor.ham
