/-
  Four bits in eight: a number as a byte.
-/
import Derived.Test.YtjfgphfdaghilaaGreatDoorEngC
import Derived.Test.YtjfgphfdaghilaaGreatDoorPbits
import Derived.Test.YtjfgphfdaghilaaGreatDoorLxX
namespace Go.Proofs.YtjfgphfdaghilaaGreatDoor.pk
open Go Go.Nx

/-- A statement behind a name that nothing opens by itself. -/
structure Box (p : Prop) : Prop where
  out : p
theorem Box.of_eq {p q : Prop} (h : p = q) (hq : q) : Box p := ⟨h.mpr hq⟩
theorem dT {p : Prop} [Decidable p] (h : p) : decide p = true := decide_eq_true h
theorem dF {p : Prop} [Decidable p] (h : ¬ p) : decide p = false := decide_eq_false h
theorem selT {c : Bool} {A B : Prop} (h : c = true) (hA : A) : sel c A B := sel_iff.2 (.inl ⟨h, hA⟩)
theorem selF {c : Bool} {A B : Prop} (h : c = false) (hB : B) : sel c A B := sel_iff.2 (.inr ⟨h, hB⟩)
theorem sel_by {c : Prop} [Decidable c] {A B : Prop} (hA : c → A) (hB : ¬ c → B) : sel (decide c) A B := by
  by_cases h : c
  · exact selT (dT h) (hA h)
  · exact selF (dF h) (hB h)
theorem byte_nat {b : Int} (h : 0 ≤ b ∧ b < 256) : ∃ n, n < 256 ∧ b = Int.ofNat n := ⟨b.toNat, by omega, by show b = ((b.toNat : Nat) : Int); omega⟩
theorem mixed : Tryz.prog.follows .mixedOrders = true := by kernel_rfl
noncomputable def t_odd1 : Con := fun args regs => nfun Tryz.prog [] (fun _ => Option.none) [] Tryz.f53 args regs
theorem k_odd1 : Known Tryz.prog [] 53 t_odd1 := known_inl Tryz.func53 rfl (by kernel_rfl) mixed con_none (by kernel_rfl)
noncomputable def c_podd : FuncId → Option Con := conOf [(53, t_odd1)]
theorem kc_podd : ∀ f T, c_podd f = some T → Known Tryz.prog [] f T := (Knowns.cons k_odd1 Knowns.nil).get
noncomputable def t_podd : Con := fun args regs => nfun Tryz.prog [] c_podd [] Tryz.f97 args regs
theorem k_podd : Known Tryz.prog [] 97 t_podd := known_inl Tryz.func97 rfl (by kernel_rfl) mixed kc_podd (by kernel_rfl)
noncomputable def c_peven : FuncId → Option Con := conOf [(97, t_podd)]
theorem kc_peven : ∀ f T, c_peven f = some T → Known Tryz.prog [] f T := (Knowns.cons k_podd Knowns.nil).get
noncomputable def t_peven : Con := fun args regs => nfun Tryz.prog [] c_peven [] Tryz.f55 args regs
theorem k_peven : Known Tryz.prog [] 55 t_peven := known_inl Tryz.func55 rfl (by kernel_rfl) mixed kc_peven (by kernel_rfl)
noncomputable def t_put1 : Con := fun args regs => nfun Tryz.prog [] (fun _ => Option.none) [] Tryz.f54 args regs
theorem k_put1 : Known Tryz.prog [] 54 t_put1 := known_inl Tryz.func54 rfl (by kernel_rfl) mixed con_none (by kernel_rfl)

/-- How many of the lowest n bits are set. -/
def pcTo (x : Nat) : Nat → Nat
  | 0 => 0
  | n + 1 => pcTo x n + (x / 2 ^ n) % 2
def pc (b : Int) : Int := (pcTo b.toNat 8 : Int)
def isEv (b : Int) : Bool := pcTo b.toNat 8 % 2 == 0
noncomputable def tab : ByteArray := ⟨((List.range 256).map fun i => UInt8.ofNat (pcTo i 8)).toArray⟩
theorem pop_tree (b : Int) (R : Out → Prop) : (t_odd1 [.c (.i .u8 b)] []).run R = sel (decide (0 ≤ b)) (sel (decide (b < (tab.size : Int))) (R ⟨.v (.c (.i .i64 (IntKind.i64.wrap (byteAt tab b.toNat)))), []⟩) False) False := by kernel_rfl
theorem even_tree (b : Int) (R : Out → Prop) : (t_peven [.c (.i .u8 b)] []).run R = sel (decide (0 ≤ b)) (sel (decide (b < (tab.size : Int))) (R ⟨.v (.c (.b (!((IntKind.i64.wrap (byteAt tab b.toNat)).tmod 2 == 1)))), []⟩) False) False := by kernel_rfl
theorem tab_size : tab.size = 256 := by decide +kernel
theorem tab_even : ∀ n < 256, (!((IntKind.i64.wrap (byteAt tab n)).tmod 2 == 1)) = isEv (Int.ofNat n) := by decide +kernel
theorem tab_pop : ∀ n < 256, IntKind.i64.wrap (byteAt tab n) = pc (Int.ofNat n) := by decide +kernel
noncomputable def tPop : Con := fun args regs => match args, regs with
  | [.c (.i .u8 b)], [] => .must (0 ≤ b ∧ b < 256) (.ret ⟨.v (.c (.i .i64 (pc b))), []⟩)
  | _, _ => .fail
noncomputable def tEvenV : Con := fun args regs => match args, regs with
  | [.c (.i .u8 b)], [] => .must (0 ≤ b ∧ b < 256) (.ret ⟨.v (.c (.b (isEv b))), []⟩)
  | _, _ => .fail
set_option maxRecDepth 100000 in
theorem kPop : Known Tryz.prog [] 53 tPop := by
  refine k_odd1.less fun args regs R h => Box.out ?_
  unfold tPop at h
  split at h
  case h_2 => exact h.elim
  rename_i b
  have h1 := h.1
  have h2 : R ⟨.v (.c (.i .i64 (pc b))), []⟩ := h.2
  clear h
  refine Box.of_eq (pop_tree b R) (selT (dT h1.1) (selT (dT (by rw [tab_size]; exact h1.2)) ?_))
  obtain ⟨n, hn, rfl⟩ := byte_nat h1
  rw [show (Int.ofNat n).toNat = n from rfl, tab_pop n hn]
  exact h2
set_option maxRecDepth 100000 in
theorem kEvenV : Known Tryz.prog [] 55 tEvenV := by
  refine k_peven.less fun args regs R h => Box.out ?_
  unfold tEvenV at h
  split at h
  case h_2 => exact h.elim
  rename_i b
  have h1 := h.1
  have h2 : R ⟨.v (.c (.b (isEv b))), []⟩ := h.2
  clear h
  refine Box.of_eq (even_tree b R) (selT (dT h1.1) (selT (dT (by rw [tab_size]; exact h1.2)) ?_))
  obtain ⟨n, hn, rfl⟩ := byte_nat h1
  rw [show (Int.ofNat n).toNat = n from rfl, tab_even n hn]
  exact h2
noncomputable def c_put : FuncId → Option Con := conOf [(54, t_put1), (55, tEvenV)]
theorem kc_put : ∀ f T, c_put f = some T → Known Tryz.prog [] f T := (Knowns.cons k_put1 (Knowns.cons kEvenV Knowns.nil)).get
noncomputable def t_put : Con := fun args regs => nfun Tryz.prog [] c_put [] Tryz.f29 args regs
theorem k_put : Known Tryz.prog [] 29 t_put := known_inl Tryz.func29 rfl (by kernel_rfl) mixed kc_put (by kernel_rfl)
end Go.Proofs.YtjfgphfdaghilaaGreatDoor.pk
