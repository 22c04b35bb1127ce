/-
  The lexer: bytes and their parity; the numbers of a sequence.
-/
import Derived.Test.YtdijbpokklgjlaaGreatDoorLexA
import Derived.Test.YtdijbpokklgjlaaGreatDoorEngC
import Derived.Test.YtdijbpokklgjlaaGreatDoorRones
namespace Go.Nx
open Go
/-- What a tree of closed tests comes to. -/
def Tr.go {α : Type} : Tr α → Option α
  | .ret x => some x
  | .br c a b => match c with
    | true => a.go
    | false => b.go
  | _ => Option.none
theorem Tr.go_run {α : Type} {R : α → Prop} {x : α} (hR : R x) : ∀ {t : Tr α}, t.go = some x → t.run R
  | .ret y, h => by cases h; exact hR
  | .br c a b, h => by
    cases c with
    | true => exact Tr.go_run (t := a) hR h
    | false => exact Tr.go_run (t := b) hR h
  | .must _ _, h => by cases h
  | .fail, h => by cases h
/-- Either of two things that are known, by the arguments. -/
theorem known_pick {P : Program} {gl : List Nat} {f : FuncId} {T1 T2 : Con} (c : List Reg → Bool) (k1 : Known P gl f T1) (k2 : Known P gl f T2) :
    Known P gl f (fun args regs => match c regs with | true => T1 args regs | false => T2 args regs) := by
  refine ⟨k1.goes, fun args regs R h => ?_⟩
  cases hc : c regs with
  | true => rw [hc] at h; exact k1.sound args regs R h
  | false => rw [hc] at h; exact k2.sound args regs R h
end Go.Nx
namespace Go.Proofs.YtdijbpokklgjlaaGreatDoor.lex
open Go Go.Nx Go.RowKit

/-- Whether an odd number of the lowest n bits is set. -/
def par (x : Nat) : Nat → Bool
  | 0 => false
  | n + 1 => par x n ^^ x.testBit n
/-- A byte with even parity. -/
def mkEvN (n : Nat) : Nat := bif par (n % 128) 7 then n % 128 + 128 else n % 128
def mkEv (b : Int) : Int := (mkEvN b.toNat : Int)
def isEv (b : Int) : Bool := !par b.toNat 8
noncomputable def c_odd2 : FuncId → Option Con := conOf [(46, ones.tOnes)]
theorem kc_odd2 : ∀ f T, c_odd2 f = some T → Known Tryz.prog [] f T := (Knowns.cons ones.kOnes Knowns.nil).get
noncomputable def t_odd2 : Con := fun args regs => nfun Tryz.prog [] c_odd2 [] Tryz.f35 args regs
theorem k_odd2 : Known Tryz.prog [] 35 t_odd2 := known_inl Tryz.func35 rfl (by kernel_rfl) mixed kc_odd2 (by kernel_rfl)
noncomputable def c_makeOdd2 : FuncId → Option Con := conOf [(35, t_odd2)]
theorem kc_makeOdd2 : ∀ f T, c_makeOdd2 f = some T → Known Tryz.prog [] f T := (Knowns.cons k_odd2 Knowns.nil).get
noncomputable def t_makeOdd2 : Con := fun args regs => nfun Tryz.prog [] c_makeOdd2 [] Tryz.f25 args regs
theorem k_makeOdd2 : Known Tryz.prog [] 25 t_makeOdd2 := known_inl Tryz.func25 rfl (by kernel_rfl) mixed kc_makeOdd2 (by kernel_rfl)
noncomputable def c_makeEven2 : FuncId → Option Con := conOf [(25, t_makeOdd2)]
theorem kc_makeEven2 : ∀ f T, c_makeEven2 f = some T → Known Tryz.prog [] f T := (Knowns.cons k_makeOdd2 Knowns.nil).get
noncomputable def t_makeEven2 : Con := fun args regs => nfun Tryz.prog [] c_makeEven2 [] Tryz.f10 args regs
theorem k_makeEven2 : Known Tryz.prog [] 10 t_makeEven2 := known_inl Tryz.func10 rfl (by kernel_rfl) mixed kc_makeEven2 (by kernel_rfl)

noncomputable def c7 (b : Int) : Int := bits .and .u8 b 127
theorem make_tree (b : Int) (R : Out → Prop) : (t_makeEven2 [.c (.i .u8 b)] []).run R = ((0 ≤ IntKind.i64.wrap (c7 b) ∧ IntKind.i64.wrap (c7 b) < 9223372036854775808) ∧
    sel ((ones.bl (IntKind.i64.wrap (c7 b)).toNat : Int).tmod 2 == 1) (R ⟨.v (.c (.i .u8 (bits .xor .u8 (c7 b) 128))), []⟩) (R ⟨.v (.c (.i .u8 (bits .xor .u8 (bits .or .u8 (c7 b) 128) 128))), []⟩)) := by kernel_rfl
/-- How many of the lowest n bits are set. -/
def pcTo (x : Nat) : Nat → Nat
  | 0 => 0
  | n + 1 => pcTo x n + (x / 2 ^ n) % 2
noncomputable def tab : ByteArray := ⟨((List.range 256).map fun i => UInt8.ofNat (pcTo i 8)).toArray⟩
theorem even_tree (b : Int) (R : Out → Prop) : (t_peven [.c (.i .u8 b)] []).run R = sel (decide (0 ≤ b)) (sel (decide (b < (tab.size : Int))) (R ⟨.v (.c (.b (!((IntKind.i64.wrap (byteAt tab b.toNat)).tmod 2 == 1)))), []⟩) False) False := by kernel_rfl
theorem tab_size : tab.size = 256 := by decide +kernel
theorem tab_all : ∀ n < 256, (!((IntKind.i64.wrap (byteAt tab n)).tmod 2 == 1)) = isEv (Int.ofNat n) := by decide +kernel
theorem c7_all : ∀ n < 256, c7 (Int.ofNat n) = Int.ofNat (n % 128) := by decide +kernel
theorem mk_one : ∀ n < 256, (par (n % 128) 7 = true → bits .xor .u8 (Int.ofNat (n % 128)) 128 = mkEv (Int.ofNat n)) ∧ (par (n % 128) 7 = false → bits .xor .u8 (bits .or .u8 (Int.ofNat (n % 128)) 128) 128 = mkEv (Int.ofNat n)) := by decide +kernel
theorem par_same : ∀ n < 128, par n 7 = ones.par n 7 := by decide +kernel
noncomputable def tMake : Con := fun args regs => match args, regs with
  | [.c (.i .u8 b)], [] => .must (0 ≤ b ∧ b < 256) (.ret ⟨.v (.c (.i .u8 (mkEv b))), []⟩)
  | _, _ => .fail
set_option maxRecDepth 100000 in
theorem kMake : Known Tryz.prog [] 10 tMake := by
  refine k_makeEven2.less fun args regs R h => ?_
  unfold tMake at h
  split at h
  case h_2 => exact h.elim
  rename_i b
  have h1 := h.1
  have h2 : R ⟨.v (.c (.i .u8 (mkEv b))), []⟩ := h.2
  clear h
  have e : b = Int.ofNat b.toNat := by show b = ((b.toNat : Nat) : Int); omega
  have hn : b.toNat < 256 := by omega
  generalize b.toNat = n at *
  subst e
  have hc := c7_all n hn
  have hm : n % 128 < 128 := Nat.mod_lt _ (by decide)
  have hw : IntKind.i64.wrap (c7 (Int.ofNat n)) = ((n % 128 : Nat) : Int) := by
    rw [hc, IntKind.wrap_i64]
    show (((n % 128 : Nat) : Int) + _) % _ - _ = _
    omega
  have hp := ones.bl_par 7 (n % 128) hm
  rw [← par_same _ hm] at hp
  have ho := mk_one n hn
  rw [make_tree, hw, hc, Int.toNat_natCast]
  refine ⟨⟨by omega, by omega⟩, ?_⟩
  have hq : ((ones.bl (n % 128) : Int).tmod 2 == 1) = par (n % 128) 7 := by
    rw [Int.tmod_eq_emod_of_nonneg (Int.natCast_nonneg _)]
    cases hb : par (n % 128) 7 <;> rw [hb] at hp <;> simp [Bool.toNat] at hp ⊢ <;> omega
  rw [hq]
  cases hb : par (n % 128) 7 with
  | true =>
    rw [ho.1 hb]
    exact h2
  | false =>
    rw [ho.2 hb]
    exact h2
noncomputable def tEvenV : Con := fun args regs => match args, regs with
  | [.c (.i .u8 b)], [] => .must (0 ≤ b ∧ b < 256) (.ret ⟨.v (.c (.b (isEv b))), []⟩)
  | _, _ => .fail
set_option maxRecDepth 100000 in
theorem kEvenV : Known Tryz.prog [] 66 tEvenV := by
  refine k_peven.less fun args regs R h => ?_
  unfold tEvenV at h
  split at h
  case h_2 => exact h.elim
  rename_i b
  have h1 := h.1
  have h2 : R ⟨.v (.c (.b (isEv b))), []⟩ := h.2
  clear h
  have e : b = Int.ofNat b.toNat := by show b = ((b.toNat : Nat) : Int); omega
  have hn : b.toNat < 256 := by omega
  generalize b.toNat = n at *
  subst e
  rw [even_tree, tab_size]
  have hm := tab_all n hn
  refine sel_iff.2 (.inl ⟨by rw [decide_eq_true_eq]; exact h1.1, sel_iff.2 (.inl ⟨by rw [decide_eq_true_eq]; exact h1.2, ?_⟩)⟩)
  show R ⟨.v (.c (.b (!((IntKind.i64.wrap (byteAt tab n)).tmod 2 == 1)))), []⟩
  rw [hm]
  exact h2
/-- A byte of even parity is one. -/
noncomputable def tEvenT : Con := fun args regs => match args, regs with
  | [.c (.i .u8 b)], [] => .must ((0 ≤ b ∧ b < 256) ∧ isEv b = true) (.ret ⟨.v (.c (.b true)), []⟩)
  | _, _ => .fail
set_option maxRecDepth 100000 in
theorem kEvenT : Known Tryz.prog [] 66 tEvenT := by
  refine kEvenV.less fun args regs R h => ?_
  unfold tEvenT at h
  split at h
  case h_2 => exact h.elim
  rename_i b
  have h1 := h.1
  have h2 : R ⟨.v (.c (.b true)), []⟩ := h.2
  clear h
  refine ⟨h1.1, ?_⟩
  rw [← h1.2] at h2
  exact h2
theorem mk_all : ∀ n < 128, (bits .and .u8 (mkEv (Int.ofNat n)) 127 = Int.ofNat n) ∧ isEv (mkEv (Int.ofNat n)) = true ∧ 0 ≤ mkEv (Int.ofNat n) ∧ mkEv (Int.ofNat n) < 256 := by decide +kernel
theorem mk_spec (b : Int) (h0 : 0 ≤ b) (h1 : b < 128) : (bits .and .u8 (mkEv b) 127 = b) ∧ isEv (mkEv b) = true ∧ 0 ≤ mkEv b ∧ mkEv b < 256 := by
  have e : b = Int.ofNat b.toNat := by show b = ((b.toNat : Nat) : Int); omega
  have := mk_all b.toNat (by omega)
  rwa [← e] at this
end Go.Proofs.YtdijbpokklgjlaaGreatDoor.lex
