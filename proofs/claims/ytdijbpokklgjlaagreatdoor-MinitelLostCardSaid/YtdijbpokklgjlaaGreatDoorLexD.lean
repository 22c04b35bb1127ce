/-
  The lexer: a byte behind a beginning.
-/
import Derived.Test.YtdijbpokklgjlaaGreatDoorLexC
import Derived.Test.YtdijbpokklgjlaaGreatDoorLexS
namespace Go.Proofs.YtdijbpokklgjlaaGreatDoor.lex
open Go Go.Nx Go.RowKit

noncomputable def c_asks : FuncId → Option Con := conOf [(96, t_goes), (67, t_ends)]
theorem kc_asks : ∀ f T, c_asks f = some T → Known Tryz.prog [] f T := (Knowns.cons k_goes (Knowns.cons k_ends Knowns.nil)).get
noncomputable def X_asks : Cx := { P := Tryz.prog, con := c_asks, glob := [], m := 2, loops := [] }
noncomputable def t_asks : Con := fun args regs => if regs.length = 2 then nfun Tryz.prog [] c_asks [(0, [0, 7, 8, 38, 39, 40], unroll X_asks 0 [0, 7, 8, 38, 39, 40] [0, 7] (bodyLoop Tryz.f98 0) 6)] Tryz.f98 args regs else .fail
theorem k_asks : Known Tryz.prog [] 98 t_asks := known_loops 2 Tryz.func98 rfl (by kernel_rfl) mixed kc_asks (LAll.one (id := 0) (body := bodyLoop Tryz.f98 0) (by kernel_rfl) rfl (unroll_ok (X := X_asks) kc_asks mixed (LAll.none (by kernel_rfl)) [0, 7, 8, 38, 39, 40] [0, 7] 6))
noncomputable def c_ended : FuncId → Option Con := conOf [(108, tNumbers), (68, t_ignored)]
theorem kc_ended : ∀ f T, c_ended f = some T → Known Tryz.prog [] f T := (Knowns.cons kNumbers (Knowns.cons k_ignored Knowns.nil)).get
noncomputable def t_ended : Con := fun args regs => nfun Tryz.prog [] c_ended [] Tryz.f105 args regs
theorem k_ended : Known Tryz.prog [] 105 t_ended := known_inl Tryz.func105 rfl (by kernel_rfl) mixed kc_ended (by kernel_rfl)
noncomputable def c_sequence : FuncId → Option Con := conOf [(96, t_goes), (67, t_ends), (105, t_ended), (68, t_ignored)]
theorem kc_sequence : ∀ f T, c_sequence f = some T → Known Tryz.prog [] f T := (Knowns.cons k_goes (Knowns.cons k_ends (Knowns.cons k_ended (Knowns.cons k_ignored Knowns.nil)))).get
noncomputable def t_sequence : Con := fun args regs => nfun Tryz.prog [] c_sequence [] Tryz.f97 args regs
theorem k_sequence : Known Tryz.prog [] 97 t_sequence := known_inl Tryz.func97 rfl (by kernel_rfl) mixed kc_sequence (by kernel_rfl)
noncomputable def c_escaped : FuncId → Option Con := conOf [(97, t_sequence), (98, t_asks), (96, t_goes), (67, t_ends), (68, t_ignored), (71, t_one)]
theorem kc_escaped : ∀ f T, c_escaped f = some T → Known Tryz.prog [] f T := (Knowns.cons k_sequence (Knowns.cons k_asks (Knowns.cons k_goes (Knowns.cons k_ends (Knowns.cons k_ignored (Knowns.cons k_one Knowns.nil)))))).get
noncomputable def t_escaped : Con := fun args regs => nfun Tryz.prog [] c_escaped [] Tryz.f74 args regs
theorem k_escaped : Known Tryz.prog [] 74 t_escaped := known_inl Tryz.func74 rfl (by kernel_rfl) mixed kc_escaped (by kernel_rfl)
noncomputable def c_byteL : FuncId → Option Con := conOf [(66, tEvenT), (67, t_ends), (68, t_ignored), (71, t_one), (72, t_sign), (73, t_place), (74, t_escaped)]
theorem kc_byteL : ∀ f T, c_byteL f = some T → Known Tryz.prog [] f T := (Knowns.cons kEvenT (Knowns.cons k_ends (Knowns.cons k_ignored (Knowns.cons k_one (Knowns.cons k_sign (Knowns.cons k_place (Knowns.cons k_escaped Knowns.nil))))))).get
noncomputable def t_byteL : Con := fun args regs => nfun Tryz.prog [] c_byteL [] Tryz.f52 args regs
theorem k_byteL : Known Tryz.prog [] 52 t_byteL := known_inl Tryz.func52 rfl (by kernel_rfl) mixed kc_byteL (by kernel_rfl)
noncomputable def c_evens : FuncId → Option Con := conOf [(10, tMake)]
theorem kc_evens : ∀ f T, c_evens f = some T → Known Tryz.prog [] f T := (Knowns.cons kMake Knowns.nil).get
noncomputable def X_evens : Cx := { P := Tryz.prog, con := c_evens, glob := [], m := 0, loops := [] }
/-- Is nothing begun? -/
def noneBegun (regs : List Reg) : Bool := match regs with
  | [⟨_, _, .cells (.sn :: _)⟩] => true
  | _ => false
noncomputable def tByteX : Con := fun args regs => match noneBegun regs with | true => t_byte0 args regs | false => t_byteL args regs
theorem kByteX : Known Tryz.prog [] 52 tByteX := known_pick noneBegun k_byte0 k_byteL
end Go.Proofs.YtdijbpokklgjlaaGreatDoor.lex
