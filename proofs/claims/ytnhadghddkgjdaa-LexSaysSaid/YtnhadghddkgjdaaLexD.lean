/-
  The lexer: a byte behind a beginning.
-/
import Derived.Test.YtnhadghddkgjdaaLexC
import Derived.Test.YtnhadghddkgjdaaLexS
namespace Go.Proofs.Ytnhadghddkgjdaa.lex
open Go Go.Nx Go.RowKit

noncomputable def c_asks : FuncId → Option Con := conOf [(64, t_goes), (40, t_ends)]
theorem kc_asks : ∀ f T, c_asks f = some T → Known Try.prog [] f T := (Knowns.cons k_goes (Knowns.cons k_ends Knowns.nil)).get
noncomputable def X_asks : Cx := { P := Try.prog, con := c_asks, glob := [], m := 2, loops := [] }
noncomputable def t_asks : Con := fun args regs => if regs.length = 2 then nfun Try.prog [] c_asks [(0, [0, 7, 8, 38, 39, 40], unroll X_asks 0 [0, 7, 8, 38, 39, 40] [0, 7] (bodyLoop Try.f66 0) 6)] Try.f66 args regs else .fail
theorem k_asks : Known Try.prog [] 66 t_asks := known_loops 2 Try.func66 rfl (by kernel_rfl) mixed kc_asks (LAll.one (id := 0) (body := bodyLoop Try.f66 0) (by kernel_rfl) rfl (unroll_ok (X := X_asks) kc_asks mixed (LAll.none (by kernel_rfl)) [0, 7, 8, 38, 39, 40] [0, 7] 6))
noncomputable def c_ended : FuncId → Option Con := conOf [(75, tNumbers), (41, t_ignored)]
theorem kc_ended : ∀ f T, c_ended f = some T → Known Try.prog [] f T := (Knowns.cons kNumbers (Knowns.cons k_ignored Knowns.nil)).get
noncomputable def t_ended : Con := fun args regs => nfun Try.prog [] c_ended [] Try.f73 args regs
theorem k_ended : Known Try.prog [] 73 t_ended := known_inl Try.func73 rfl (by kernel_rfl) mixed kc_ended (by kernel_rfl)
noncomputable def c_sequence : FuncId → Option Con := conOf [(64, t_goes), (40, t_ends), (73, t_ended), (41, t_ignored)]
theorem kc_sequence : ∀ f T, c_sequence f = some T → Known Try.prog [] f T := (Knowns.cons k_goes (Knowns.cons k_ends (Knowns.cons k_ended (Knowns.cons k_ignored Knowns.nil)))).get
noncomputable def t_sequence : Con := fun args regs => nfun Try.prog [] c_sequence [] Try.f65 args regs
theorem k_sequence : Known Try.prog [] 65 t_sequence := known_inl Try.func65 rfl (by kernel_rfl) mixed kc_sequence (by kernel_rfl)
noncomputable def c_escaped : FuncId → Option Con := conOf [(65, t_sequence), (66, t_asks), (64, t_goes), (40, t_ends), (41, t_ignored), (44, t_one)]
theorem kc_escaped : ∀ f T, c_escaped f = some T → Known Try.prog [] f T := (Knowns.cons k_sequence (Knowns.cons k_asks (Knowns.cons k_goes (Knowns.cons k_ends (Knowns.cons k_ignored (Knowns.cons k_one Knowns.nil)))))).get
noncomputable def t_escaped : Con := fun args regs => nfun Try.prog [] c_escaped [] Try.f47 args regs
theorem k_escaped : Known Try.prog [] 47 t_escaped := known_inl Try.func47 rfl (by kernel_rfl) mixed kc_escaped (by kernel_rfl)
noncomputable def c_byteL : FuncId → Option Con := conOf [(39, tEvenT), (40, t_ends), (41, t_ignored), (44, t_one), (45, t_sign), (46, t_place), (47, t_escaped)]
theorem kc_byteL : ∀ f T, c_byteL f = some T → Known Try.prog [] f T := (Knowns.cons kEvenT (Knowns.cons k_ends (Knowns.cons k_ignored (Knowns.cons k_one (Knowns.cons k_sign (Knowns.cons k_place (Knowns.cons k_escaped Knowns.nil))))))).get
noncomputable def t_byteL : Con := fun args regs => nfun Try.prog [] c_byteL [] Try.f23 args regs
theorem k_byteL : Known Try.prog [] 23 t_byteL := known_inl Try.func23 rfl (by kernel_rfl) mixed kc_byteL (by kernel_rfl)
noncomputable def c_evens : FuncId → Option Con := conOf [(27, tMake)]
theorem kc_evens : ∀ f T, c_evens f = some T → Known Try.prog [] f T := (Knowns.cons kMake Knowns.nil).get
noncomputable def X_evens : Cx := { P := Try.prog, con := c_evens, glob := [], m := 0, loops := [] }
noncomputable def t_evens : Con := fun args regs => if regs.length = 0 then nfun Try.prog [] c_evens [(0, [0, 3, 4], unroll X_evens 0 [0, 3, 4] [3] (bodyLoop Try.f25 0) 20)] Try.f25 args regs else .fail
theorem k_evens : Known Try.prog [] 25 t_evens := known_loops 0 Try.func25 rfl (by kernel_rfl) mixed kc_evens (LAll.one (id := 0) (body := bodyLoop Try.f25 0) (by kernel_rfl) rfl (unroll_ok (X := X_evens) kc_evens mixed (LAll.none (by kernel_rfl)) [0, 3, 4] [3] 20))
noncomputable def t_sameEvent : Con := fun args regs => nfun Try.prog [] (fun _ => Option.none) [] Try.f26 args regs
theorem k_sameEvent : Known Try.prog [] 26 t_sameEvent := known_inl Try.func26 rfl (by kernel_rfl) mixed con_none (by kernel_rfl)
/-- Is nothing begun? -/
def noneBegun (regs : List Reg) : Bool := match regs with
  | [⟨_, _, .cells (.sn :: _)⟩] => true
  | _ => false
noncomputable def tByteX : Con := fun args regs => match noneBegun regs with | true => t_byte0 args regs | false => t_byteL args regs
theorem kByteX : Known Try.prog [] 23 tByteX := known_pick noneBegun k_byte0 k_byteL
end Go.Proofs.Ytnhadghddkgjdaa.lex
