/-
  Four bits in eight: a byte as a number; numbers as bytes; bytes as numbers.
-/
import Derived.Test.YtjfgphfdaghilaaGreatDoorPkB
namespace Go.Proofs.YtjfgphfdaghilaaGreatDoor.pk
open Go Go.Nx

noncomputable def c_get : FuncId → Option Con := conOf [(29, tPut), (53, tPop)]
theorem kc_get : ∀ f T, c_get f = some T → Known Tryz.prog [] f T := (Knowns.cons kPut (Knowns.cons kPop Knowns.nil)).get
noncomputable def X_get : Cx := { P := Tryz.prog, con := c_get, glob := [], m := 0, loops := [] }
noncomputable def t_get : Con := fun args regs => if regs.length = 0 then nfun Tryz.prog [] c_get [(0, [0, 5], unroll X_get 0 [0, 5] [2, 3] (bodyLoop Tryz.f28 0) 17)] Tryz.f28 args regs else .fail
theorem k_get : Known Tryz.prog [] 28 t_get := known_loops 0 Tryz.func28 rfl (by kernel_rfl) mixed kc_get (LAll.one (id := 0) (body := bodyLoop Tryz.f28 0) (by kernel_rfl) rfl (unroll_ok (X := X_get) kc_get mixed (LAll.none (by kernel_rfl)) [0, 5] [2, 3] 17))
noncomputable def c_row : FuncId → Option Con := conOf [(29, tPut)]
theorem kc_row : ∀ f T, c_row f = some T → Known Tryz.prog [] f T := (Knowns.cons kPut Knowns.nil).get
noncomputable def X_row : Cx := { P := Tryz.prog, con := c_row, glob := [], m := 0, loops := [] }
def oG (n : Int) (x : Bool) : Out := ⟨.tu [.c (.i .i64 n), .c (.b x)], []⟩
def hit (b : Int) (k : Nat) : Bool := decide (pc (x8 b (put (k : Int))) ≤ 1)
def getE (b : Int) (R : Out → Prop) : List Nat → Prop
  | [] => R (oG 0 false)
  | k :: ks => (0 ≤ x8 b (put (k : Int)) ∧ x8 b (put (k : Int)) < 256) ∧ sel (hit b k) (R (oG (k : Int) true)) (getE b R ks)
theorem get_tree (b : Int) (R : Out → Prop) : (t_get [.c (.i .u8 b)] []).run R = getE b R (List.range 16) := by kernel_rfl
/-- The number of a byte, if it has one. -/
def get (b : Int) : Option Nat := (List.range 16).find? (hit b)
def getN (b : Int) : Int := ((get b).getD 0 : Nat)
def getB (b : Int) : Bool := (get b).isSome
theorem x8_in (a b : Int) : 0 ≤ x8 a b ∧ x8 a b < 256 := by
  unfold x8 bits
  rw [IntKind.wrap_u8]
  omega
theorem getE_in {b : Int} {R : Out → Prop} : ∀ {l : List Nat}, R (oG ((l.find? (hit b)).getD 0 : Nat) (l.find? (hit b)).isSome) → getE b R l
  | [], h => h
  | k :: ks, h => by
    refine ⟨x8_in _ _, ?_⟩
    rw [List.find?_cons] at h
    cases hk : hit b k with
    | true => rw [hk] at h; exact h
    | false => rw [hk] at h; exact getE_in h
noncomputable def tGet : Con := fun args regs => match args, regs with
  | [.c (.i .u8 b)], [] => .ret (oG (getN b) (getB b))
  | _, _ => .fail
set_option maxRecDepth 100000 in
theorem kGet : Known Tryz.prog [] 28 tGet := by
  refine k_get.less fun args regs R h => Box.out ?_
  unfold tGet at h
  split at h
  case h_2 => exact h.elim
  rename_i b
  exact Box.of_eq (get_tree b R) (getE_in h)
noncomputable def c_open : FuncId → Option Con := conOf [(28, tGet)]
theorem kc_open : ∀ f T, c_open f = some T → Known Tryz.prog [] f T := (Knowns.cons kGet Knowns.nil).get
noncomputable def X_open : Cx := { P := Tryz.prog, con := c_open, glob := [], m := 0, loops := [] }
noncomputable def t_open : Con := fun args regs => if regs.length = 0 then nfun Tryz.prog [] c_open [(0, [4, 9, 10, 11], unroll X_open 0 [4, 9, 10, 11] [2, 3, 4] (bodyLoop Tryz.f191 0) 3)] Tryz.f191 args regs else .fail
theorem k_open : Known Tryz.prog [] 191 t_open := known_loops 0 Tryz.func191 rfl (by kernel_rfl) mixed kc_open (LAll.one (id := 0) (body := bodyLoop Tryz.f191 0) (by kernel_rfl) rfl (unroll_ok (X := X_open) kc_open mixed (LAll.none (by kernel_rfl)) [4, 9, 10, 11] [2, 3, 4] 3))
/-- Two bytes as two numbers. -/
def oO (a b : Int) : Out := ⟨.tu [.c (.h 0 0 2), .c (.b true)], [some ⟨1, 3, .ints .i64 [a, b]⟩]⟩
def oN : Out := ⟨.tu [.c .sn, .c (.b false)], []⟩
theorem open_tree (a b : Int) (R : Out → Prop) : (t_open [.c (.l .u8 [a, b])] []).run R = sel (!getB a) (R oN) (sel (!getB b) (R oN) (R (oO (getN a) (getN b)))) := by kernel_rfl
noncomputable def tOpen : Con := fun args regs => match args, regs with
  | [.c (.l .u8 ys)], [] => .must (ys.length = 2) (.br (getB (ys.getD 0 0) && getB (ys.getD 1 0)) (.ret (oO (getN (ys.getD 0 0)) (getN (ys.getD 1 0)))) (.ret oN))
  | _, _ => .fail
set_option maxRecDepth 100000 in
theorem kOpen : Known Tryz.prog [] 191 tOpen := by
  refine k_open.less fun args regs R h => Box.out ?_
  unfold tOpen at h
  split at h
  case h_2 => exact h.elim
  rename_i ys
  have h1 := h.1
  have h2 := sel_iff.1 h.2
  clear h
  obtain ⟨a, b, rfl⟩ : ∃ a b, ys = [a, b] := by
    match ys, h1 with
    | [a, b], _ => exact ⟨a, b, rfl⟩
  refine Box.of_eq (open_tree a b R) ?_
  rcases h2 with ⟨c, hR⟩ | ⟨c, hR⟩
  · have c : (getB a && getB b) = true := c
    rw [Bool.and_eq_true] at c
    rw [c.1, c.2]
    exact hR
  · have c : (getB a && getB b) = false := c
    cases ha : getB a with
    | false => exact hR
    | true =>
      cases hb : getB b with
      | false => exact hR
      | true => rw [ha, hb] at c; cases c
end Go.Proofs.YtjfgphfdaghilaaGreatDoor.pk
