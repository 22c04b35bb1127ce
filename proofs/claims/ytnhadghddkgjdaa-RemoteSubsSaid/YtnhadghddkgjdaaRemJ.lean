/-
  The remote control: digits.
-/
import Derived.Test.YtnhadghddkgjdaaRemI
namespace Go.Proofs.Ytnhadghddkgjdaa.rem
open Go Go.Nx

noncomputable def c_subdigit : FuncId → Option Con := conOf [(33, t_clones)]
theorem kc_subdigit : ∀ f T, c_subdigit f = some T → Known Try.prog [] f T := (Knowns.cons k_clones Knowns.nil).get
noncomputable def X_subdigit : Cx := { P := Try.prog, con := c_subdigit, glob := [], m := 0, loops := [] }
noncomputable def t_subdigit : Con := fun args regs => if regs.length = 0 then nfun Try.prog [] c_subdigit [(0, [2, 4, 6, 23, 24, 25], unroll X_subdigit 0 [2, 4, 6, 23, 24, 25] [2, 4, 6] (bodyLoop Try.f55 0) 5)] Try.f55 args regs else .fail
theorem k_subdigit : Known Try.prog [] 55 t_subdigit := known_loops 0 Try.func55 rfl (by kernel_rfl) mixed kc_subdigit (LAll.one (id := 0) (body := bodyLoop Try.f55 0) (by kernel_rfl) rfl (unroll_ok (X := X_subdigit) kc_subdigit mixed (LAll.none (by kernel_rfl)) [2, 4, 6, 23, 24, 25] [2, 4, 6] 5))
noncomputable def c_digit : FuncId → Option Con := conOf [(33, t_clones), (55, t_subdigit), (56, tPlaceF), (57, t_rgoes)]
theorem kc_digit : ∀ f T, c_digit f = some T → Known Try.prog [] f T := (Knowns.cons k_clones (Knowns.cons k_subdigit (Knowns.cons kPlaceF (Knowns.cons k_rgoes Knowns.nil)))).get
noncomputable def X_digit : Cx := { P := Try.prog, con := c_digit, glob := [], m := 0, loops := [] }
noncomputable def t_digit : Con := fun args regs => if regs.length = 0 then nfun Try.prog [] c_digit [(1, [2, 4, 6, 47, 48, 49], unroll X_digit 1 [2, 4, 6, 47, 48, 49] [2, 4, 6] (bodyLoop Try.f34 1) 4)] Try.f34 args regs else .fail
theorem k_digit : Known Try.prog [] 34 t_digit := known_loops 0 Try.func34 rfl (by kernel_rfl) mixed kc_digit (LAll.one (id := 1) (body := bodyLoop Try.f34 1) (by kernel_rfl) rfl (unroll_ok (X := X_digit) kc_digit mixed (LAll.none (by kernel_rfl)) [2, 4, 6, 47, 48, 49] [2, 4, 6] 4))
noncomputable def c_keyd : FuncId → Option Con := conOf [(33, t_clones), (36, tTurns), (35, t_follows), (34, t_digit)]
theorem kc_keyd : ∀ f T, c_keyd f = some T → Known Try.prog [] f T := (Knowns.cons k_clones (Knowns.cons kTurns (Knowns.cons k_follows (Knowns.cons k_digit Knowns.nil)))).get
noncomputable def t_keyd : Con := fun args regs => nfun Try.prog [] c_keyd [] Try.f18 args regs
theorem k_keyd : Known Try.prog [] 18 t_keyd := known_inl Try.func18 rfl (by kernel_rfl) mixed kc_keyd (by kernel_rfl)
end Go.Proofs.Ytnhadghddkgjdaa.rem
