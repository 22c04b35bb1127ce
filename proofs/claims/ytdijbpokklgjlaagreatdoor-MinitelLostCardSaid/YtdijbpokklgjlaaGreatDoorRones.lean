/-
  The document's ones: how many bits are set.
-/
import Derived.Test.YtdijbpokklgjlaaGreatDoorEngC
import Derived.Test.YtdijbpokklgjlaaGreatDoorPbv
import Derived.Test.YtdijbpokklgjlaaGreatDoorRows
namespace Go.Proofs.YtdijbpokklgjlaaGreatDoor.ones
open Go Go.Nx

theorem mixed : Tryz.prog.follows .mixedOrders = true := by kernel_rfl
noncomputable abbrev fOnes := Tryz.f46
/-- How many bits are set. -/
def bl (m : Nat) : Nat := if h : m = 0 then 0 else m % 2 + bl (m / 2)
termination_by m
decreasing_by exact Nat.div_lt_self (by omega) (by decide)
theorem bl_zero : bl 0 = 0 := by rw [bl]; rfl
theorem bl_step {m : Nat} (h : m ≠ 0) : bl m = m % 2 + bl (m / 2) := by rw [bl, dif_neg h]
theorem bl_double (m : Nat) : bl m = m % 2 + bl (m / 2) := by
  by_cases h : m = 0
  · subst h; simp [bl_zero]
  · exact bl_step h
theorem bl_le : ∀ (n m : Nat), m < 2 ^ n → bl m ≤ n
  | 0, m, h => by
    have : m = 0 := by simpa using h
    rw [this, bl_zero]; exact Nat.le_refl _
  | n + 1, m, h => by
    rw [bl_double]
    have := bl_le n (m / 2) (by rw [Nat.pow_succ] at h; omega)
    omega
noncomputable def oOnes (k : Int) : St := { fr := frame 13 [(3, .v (.c (.i .i64 k)))], rg := [] }
noncomputable def XOnes : Cx := { P := Tryz.prog, con := fun _ => Option.none, glob := [], m := 0, loops := [] }
theorem round_ones (n k : Int) (R : RO → Prop) : (roundT XOnes 0 [0, 3] [3] (bodyLoop fOnes 0) { fr := frame 13 [(0, .v (.c (.i .i64 n))), (3, .v (.c (.i .i64 k)))], rg := [] }).run R =
    sel (decide (n > 0))
     (R (RO.next { fr := frame 13 [(0, .v (.c (.i .i64 (shrv .i64 n 1)))), (3, .v (.c (.i .i64 (IntKind.i64.wrap (k + bits .and .i64 n 1)))))], rg := [] }))
     (R (RO.done NExit.normal (oOnes k))) := by
  kernel_rfl
noncomputable def lOnes : List Leaf × List (List Leaf) → Tr (NExit × St) := fun x => match x with
  | ([.i n, .i k], []) => .must ((0 ≤ n ∧ n < 9223372036854775808) ∧ (0 ≤ k ∧ k + bl n.toNat ≤ 1000)) (.ret (.normal, oOnes (k + bl n.toNat)))
  | _ => .fail
noncomputable def pOnes : List Pat := pats 13 [(0, .i .i64), (3, .i .i64)]
theorem and1 (n : Int) (h0 : 0 ≤ n) (h1 : n < 9223372036854775808) : bits .and .i64 n 1 = ((n.toNat % 2 : Nat) : Int) := by
  have h := fit_i64 (n := n) (by omega) h1
  have hm : n = (n.toNat : Int) := by omega
  generalize n.toNat = m at *
  subst hm
  rw [bits_i64, bvop_and, BitVec.ofInt_natCast, show BitVec.ofInt 64 1 = 1#64 from rfl]
  have e : BitVec.ofNat 64 m &&& 1#64 = BitVec.ofNat 64 (m % 2) := by
    apply BitVec.eq_of_toNat_eq
    rw [BitVec.toNat_and, BitVec.toNat_ofNat, BitVec.toNat_ofNat, BitVec.toNat_ofNat]
    rw [show 1 % 2 ^ 64 = 2 ^ 1 - 1 from rfl, Nat.and_two_pow_sub_one_eq_mod]
    omega
  rw [e]
  rcases Nat.mod_two_eq_zero_or_one m with h | h <;> rw [h] <;> rfl
theorem shr1 (n : Int) : shrv .i64 n 1 = n / 2 := by
  show Int.fdiv n (2 ^ 1) = n / 2
  rw [Int.fdiv_eq_ediv_of_nonneg _ (by decide)]
  rfl
set_option maxRecDepth 100000 in
theorem loop_ones : LOk Tryz.prog [] 0 0 (bodyLoop fOnes 0) (sumP pOnes [] lOnes) := by
  refine sumP_ok (X := XOnes) con_none mixed (LAll.none (by kernel_rfl)) [0, 3] [3] _ _ _ (fun x => match x with
    | ([.i n, .i _], []) => n.toNat
    | _ => 0) ?_
  rintro ⟨a, b⟩ R h
  unfold lOnes at h
  split at h
  case h_2 => exact h.elim
  rename_i n k he
  cases he
  have h1 := h.1
  have h2 : R (.normal, oOnes (k + bl n.toNat)) := h.2
  clear h
  show (roundT XOnes 0 [0, 3] [3] (bodyLoop fOnes 0) { fr := frame 13 [(0, .v (.c (.i .i64 n))), (3, .v (.c (.i .i64 k)))], rg := [] }).run _
  rw [round_ones]
  by_cases hp : n > 0
  · have hd : n.toNat / 2 = (n / 2).toNat := by omega
    have hb := bl_step (m := n.toNat) (by omega)
    rw [hd] at hb
    have hw : IntKind.i64.wrap (k + ((n.toNat % 2 : Nat) : Int)) = k + ((n.toNat % 2 : Nat) : Int) := by rw [IntKind.wrap_i64]; omega
    refine sel_iff.2 (.inl ⟨by rw [decide_eq_true_eq]; exact hp, ?_⟩)
    rw [and1 n h1.1.1 h1.1.2, shr1, hw]
    refine ⟨([.i (n / 2), .i (k + ((n.toNat % 2 : Nat) : Int))], []), rfl, by simp only; omega, ⟨⟨by omega, by omega⟩, ⟨by omega, by omega⟩⟩, ?_⟩
    show R (.normal, oOnes (k + ((n.toNat % 2 : Nat) : Int) + bl (n / 2).toNat))
    have : k + ((n.toNat % 2 : Nat) : Int) + bl (n / 2).toNat = k + bl n.toNat := by omega
    rw [this]
    exact h2
  · have hz : n.toNat = 0 := by omega
    rw [hz, bl_zero] at h2
    refine sel_iff.2 (.inr ⟨by rw [decide_eq_false_iff_not]; exact hp, ?_⟩)
    have : k + ((0 : Nat) : Int) = k := by omega
    rw [this] at h2
    exact h2
noncomputable def tOnes0 : Con := fun args regs => if regs.length = 0 then nfun Tryz.prog [] (fun _ => Option.none) [(0, [0, 3], sumP pOnes [] lOnes)] fOnes args regs else .fail
theorem kOnes0 : Known Tryz.prog [] 46 tOnes0 := known_loops 0 Tryz.func46 rfl (by kernel_rfl) mixed con_none (LAll.one (id := 0) (body := bodyLoop fOnes 0) (by kernel_rfl) rfl loop_ones)
theorem ones_tree (n : Int) (R : Out → Prop) : (tOnes0 [.c (.i .i64 n)] []).run R = (((0 ≤ n ∧ n < 9223372036854775808) ∧ (0 ≤ (0 : Int) ∧ 0 + (bl n.toNat : Int) ≤ 1000)) ∧ R ⟨.v (.c (.i .i64 (0 + (bl n.toNat : Int)))), []⟩) := by kernel_rfl
/-- What is known of ones. -/
noncomputable def tOnes : Con := fun args regs => match args, regs with
  | [.c (.i .i64 n)], [] => .must (0 ≤ n ∧ n < 9223372036854775808) (.ret ⟨.v (.c (.i .i64 (bl n.toNat))), []⟩)
  | _, _ => .fail
theorem kOnes : Known Tryz.prog [] 46 tOnes := by
  refine kOnes0.less fun args regs R h => ?_
  unfold tOnes at h
  split at h
  case h_2 => exact h.elim
  rename_i n
  have h1 := h.1
  have h2 : R ⟨.v (.c (.i .i64 (bl n.toNat))), []⟩ := h.2
  clear h
  rw [ones_tree]
  have hl := bl_le 63 n.toNat (by omega)
  refine ⟨⟨h1, by omega, by omega⟩, ?_⟩
  rw [Int.zero_add]
  exact h2
/-- The parity of the lowest n bits. -/
def par (x : Nat) : Nat → Bool
  | 0 => false
  | n + 1 => par x n ^^ x.testBit n
theorem par_double (x : Nat) : ∀ n, par x (n + 1) = (x.testBit 0 ^^ par (x / 2) n)
  | 0 => by simp [par]
  | n + 1 => by
    rw [par, par_double x n, par, Nat.testBit_succ]
    cases x.testBit 0 <;> cases par (x / 2) n <;> cases (x / 2).testBit n <;> rfl
theorem bl_par : ∀ (n x : Nat), x < 2 ^ n → bl x % 2 = (par x n).toNat
  | 0, x, h => by
    have : x = 0 := by simpa using h
    rw [this, bl_zero]; rfl
  | n + 1, x, h => by
    have ih := bl_par n (x / 2) (by rw [Nat.pow_succ] at h; omega)
    rw [bl_double, par_double, Nat.testBit_zero]
    rcases Nat.mod_two_eq_zero_or_one x with hx | hx <;> cases hp : par (x / 2) n <;> rw [hp] at ih <;> rw [hx] <;> simp [Bool.toNat] at ih ⊢ <;> omega
end Go.Proofs.YtdijbpokklgjlaaGreatDoor.ones
