/-
  The remote control: the next page, or the one ahead.
-/
import Derived.Test.YtnhadghddkgjdaaRemB
namespace Go.Proofs.Ytnhadghddkgjdaa.rem
open Go Go.Nx

def outside (n : Int) : Bool := bif decide (n < 100) then true else decide (n > 899)
noncomputable def pP (n : Int) : Int := bits .or .i64 (shlv .i64 ((IntKind.i64.wrap (n.tdiv 10)).tmod 10) 4) (n.tmod 10)
noncomputable def oP (n : Int) : Out := ⟨.tu [.ag [.i .i64 (IntKind.i64.wrap (n.tdiv 100)), .i .i64 (pP n), .i .i64 16255], .c (.b true)], []⟩
def oZ : Out := ⟨.tu [.ag [.i .i64 0, .i .i64 0, .i .i64 0], .c (.b false)], []⟩
theorem place_tree (n : Int) (R : Out → Prop) : (t_hplace [.c (.i .i64 n)] []).run R = sel (decide (n < 100)) (R oZ) (sel (decide (n > 899)) (R oZ) (R (oP n))) := by kernel_rfl
/-- What is known of the page of a number: it is asked of numbers from 100 to 899. -/
noncomputable def tPlaceF : Con := fun args regs => match args, regs with
  | [.c (.i .i64 n)], [] => .must (100 ≤ n ∧ n ≤ 899) (.ret (oP n))
  | _, _ => .fail
set_option maxRecDepth 100000 in
theorem kPlaceF : Known Try.prog [] 56 tPlaceF := by
  refine k_hplace.less fun args regs R h => ?_
  unfold tPlaceF at h
  split at h
  case h_2 => exact h.elim
  rename_i n
  have h1 : 100 ≤ n ∧ n ≤ 899 := h.1
  have h2 : R (oP n) := h.2
  rw [place_tree]
  exact sel_iff.2 (.inr ⟨decide_eq_false (by omega), sel_iff.2 (.inr ⟨decide_eq_false (by omega), h2⟩)⟩)
noncomputable def c_turnsC : FuncId → Option Con := conOf [(59, tNumF), (56, tPlaceF), (57, t_rgoes)]
theorem kc_turnsC : ∀ f T, c_turnsC f = some T → Known Try.prog [] f T := (Knowns.cons kNumF (Knowns.cons kPlaceF (Knowns.cons k_rgoes Knowns.nil))).get
noncomputable def t_turnsC : Con := fun args regs => nfun Try.prog [] c_turnsC [] Try.f36 args regs
theorem k_turnsC : Known Try.prog [] 36 t_turnsC := known_inl Try.func36 rfl (by kernel_rfl) mixed kc_turnsC (by kernel_rfl)
def oS (m p u : Int) (sub mix : Bool) : Out := ⟨.tu [.ag [.i .i64 m, .i .i64 p, .i .i64 u, .sn, .sn, .b sub, .b false, .b false, .b mix], .c (.b true)], []⟩
noncomputable def oT (n : Int) (sub mix : Bool) : Out := oS (IntKind.i64.wrap (n.tdiv 100)) (pP n) 16255 sub mix
def steps (n : Int) (sub mix : Bool) (R : Out → Prop) : Prop :=
  sel (decide (n > 899)) ((100 ≤ (100 : Int) ∧ (100 : Int) ≤ 899) ∧ R (oT 100 sub mix)) (sel (decide (n < 100)) ((100 ≤ (899 : Int) ∧ (899 : Int) ≤ 899) ∧ R (oT 899 sub mix)) ((100 ≤ n ∧ n ≤ 899) ∧ R (oT n sub mix)))
theorem turns_tree (m p u d : Int) (sub h r mix : Bool) (R : Out → Prop) : (t_turnsC [.ag [.i .i64 m, .i .i64 p, .i .i64 u, .sn, .sn, .b sub, .b h, .b r, .b mix], .c (.i .i64 d)] []).run R =
    sel (numF m p == 0) (steps (IntKind.i64.wrap (100 + d)) sub mix R) (steps (IntKind.i64.wrap (numF m p + d)) sub mix R) := by kernel_rfl
end Go.Proofs.Ytnhadghddkgjdaa.rem
