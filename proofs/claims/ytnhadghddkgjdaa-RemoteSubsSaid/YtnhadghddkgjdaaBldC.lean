/-
  strings.Builder: WriteByte by its code; the remote control's lines.
-/
import Derived.Test.YtnhadghddkgjdaaBldB
set_option linter.unusedVariables false
namespace Go.Proofs.Ytnhadghddkgjdaa.bld
open Go Go.Nx

noncomputable def c_wb : FuncId → Option Con := conOf [(71, tCC)]
theorem kc_wb : ∀ f T, c_wb f = some T → Known Try.prog [] f T := (Knowns.cons kCC Knowns.nil).get
noncomputable def t_wb : Con := fun args regs => nfun Try.prog [] c_wb [] Try.f60 args regs
theorem k_wb : Known Try.prog [] 60 t_wb := known_inl Try.func60 rfl (by kernel_rfl) num.mixed kc_wb (by kernel_rfl)
noncomputable def c_signs : FuncId → Option Con := conOf [(60, t_wb), (61, tStr)]
theorem kc_signs : ∀ f T, c_signs f = some T → Known Try.prog [] f T := (Knowns.cons k_wb (Knowns.cons kStr Knowns.nil)).get
noncomputable def X_signs : Cx := { P := Try.prog, con := c_signs, glob := [], m := 0, loops := [] }
noncomputable def t_signs : Con := fun args regs => if regs.length = 0 then nfun Try.prog [] c_signs [(0, [0, 5, 7, 8], unroll X_signs 0 [0, 5, 7, 8] [5] (bodyLoop Try.f37 0) 5)] Try.f37 args regs else .fail
theorem k_signs : Known Try.prog [] 37 t_signs := known_loops 0 Try.func37 rfl (by kernel_rfl) num.mixed kc_signs (LAll.one (id := 0) (body := bodyLoop Try.f37 0) (by kernel_rfl) rfl (unroll_ok (X := X_signs) kc_signs num.mixed (LAll.none (by kernel_rfl)) [0, 5, 7, 8] [5] 5))
noncomputable def c_lined : FuncId → Option Con := conOf [(37, t_signs)]
theorem kc_lined : ∀ f T, c_lined f = some T → Known Try.prog [] f T := (Knowns.cons k_signs Knowns.nil).get
noncomputable def t_lined : Con := fun args regs => nfun Try.prog [] c_lined [] Try.f20 args regs
theorem k_lined : Known Try.prog [] 20 t_lined := known_inl Try.func20 rfl (by kernel_rfl) num.mixed kc_lined (by kernel_rfl)
end Go.Proofs.Ytnhadghddkgjdaa.bld
