/-
  The lexer: its functions, each known by its own code; what needs no loop.
-/
import Derived.Test.YtdijbpokklgjlaaGreatDoorEngC
import Derived.Test.YtdijbpokklgjlaaGreatDoorPbv
import Derived.Test.YtdijbpokklgjlaaGreatDoorRows
namespace Go.Proofs.YtdijbpokklgjlaaGreatDoor.lex
open Go Go.Nx

theorem mixed : Tryz.prog.follows .mixedOrders = true := by kernel_rfl
noncomputable def t_ignored : Con := fun args regs => nfun Tryz.prog [] (fun _ => Option.none) [] Tryz.f68 args regs
theorem k_ignored : Known Tryz.prog [] 68 t_ignored := known_inl Tryz.func68 rfl (by kernel_rfl) mixed con_none (by kernel_rfl)
noncomputable def t_one : Con := fun args regs => nfun Tryz.prog [] (fun _ => Option.none) [] Tryz.f71 args regs
theorem k_one : Known Tryz.prog [] 71 t_one := known_inl Tryz.func71 rfl (by kernel_rfl) mixed con_none (by kernel_rfl)
noncomputable def t_char : Con := fun args regs => nfun Tryz.prog [] (fun _ => Option.none) [] Tryz.f70 args regs
theorem k_char : Known Tryz.prog [] 70 t_char := known_inl Tryz.func70 rfl (by kernel_rfl) mixed con_none (by kernel_rfl)
noncomputable def t_ends : Con := fun args regs => nfun Tryz.prog [] (fun _ => Option.none) [] Tryz.f67 args regs
theorem k_ends : Known Tryz.prog [] 67 t_ends := known_inl Tryz.func67 rfl (by kernel_rfl) mixed con_none (by kernel_rfl)
noncomputable def t_goes : Con := fun args regs => nfun Tryz.prog [] (fun _ => Option.none) [] Tryz.f96 args regs
theorem k_goes : Known Tryz.prog [] 96 t_goes := known_inl Tryz.func96 rfl (by kernel_rfl) mixed con_none (by kernel_rfl)
noncomputable def t_isAccent : Con := fun args regs => nfun Tryz.prog [] (fun _ => Option.none) [] Tryz.f95 args regs
theorem k_isAccent : Known Tryz.prog [] 95 t_isAccent := known_inl Tryz.func95 rfl (by kernel_rfl) mixed con_none (by kernel_rfl)
noncomputable def c_control : FuncId → Option Con := conOf [(71, t_one), (70, t_char), (68, t_ignored)]
theorem kc_control : ∀ f T, c_control f = some T → Known Tryz.prog [] f T := (Knowns.cons k_one (Knowns.cons k_char (Knowns.cons k_ignored Knowns.nil))).get
noncomputable def t_control : Con := fun args regs => nfun Tryz.prog [] c_control [] Tryz.f69 args regs
theorem k_control : Known Tryz.prog [] 69 t_control := known_inl Tryz.func69 rfl (by kernel_rfl) mixed kc_control (by kernel_rfl)
noncomputable def t_count8 : Con := fun args regs => nfun Tryz.prog [] (fun _ => Option.none) [] Tryz.f94 args regs
theorem k_count8 : Known Tryz.prog [] 94 t_count8 := known_inl Tryz.func94 rfl (by kernel_rfl) mixed con_none (by kernel_rfl)
noncomputable def c_podd : FuncId → Option Con := conOf [(94, t_count8)]
theorem kc_podd : ∀ f T, c_podd f = some T → Known Tryz.prog [] f T := (Knowns.cons k_count8 Knowns.nil).get
noncomputable def t_podd : Con := fun args regs => nfun Tryz.prog [] c_podd [] Tryz.f65 args regs
theorem k_podd : Known Tryz.prog [] 65 t_podd := known_inl Tryz.func65 rfl (by kernel_rfl) mixed kc_podd (by kernel_rfl)
noncomputable def c_peven : FuncId → Option Con := conOf [(65, t_podd)]
theorem kc_peven : ∀ f T, c_peven f = some T → Known Tryz.prog [] f T := (Knowns.cons k_podd Knowns.nil).get
noncomputable def t_peven : Con := fun args regs => nfun Tryz.prog [] c_peven [] Tryz.f66 args regs
theorem k_peven : Known Tryz.prog [] 66 t_peven := known_inl Tryz.func66 rfl (by kernel_rfl) mixed kc_peven (by kernel_rfl)
noncomputable def c_sign : FuncId → Option Con := conOf [(70, t_char), (95, t_isAccent), (96, t_goes), (67, t_ends)]
theorem kc_sign : ∀ f T, c_sign f = some T → Known Tryz.prog [] f T := (Knowns.cons k_char (Knowns.cons k_isAccent (Knowns.cons k_goes (Knowns.cons k_ends Knowns.nil)))).get
noncomputable def t_sign : Con := fun args regs => nfun Tryz.prog [] c_sign [] Tryz.f72 args regs
theorem k_sign : Known Tryz.prog [] 72 t_sign := known_inl Tryz.func72 rfl (by kernel_rfl) mixed kc_sign (by kernel_rfl)
noncomputable def c_place : FuncId → Option Con := conOf [(96, t_goes), (67, t_ends), (68, t_ignored)]
theorem kc_place : ∀ f T, c_place f = some T → Known Tryz.prog [] f T := (Knowns.cons k_goes (Knowns.cons k_ends (Knowns.cons k_ignored Knowns.nil))).get
noncomputable def t_place : Con := fun args regs => nfun Tryz.prog [] c_place [] Tryz.f73 args regs
theorem k_place : Known Tryz.prog [] 73 t_place := known_inl Tryz.func73 rfl (by kernel_rfl) mixed kc_place (by kernel_rfl)
noncomputable def c_byte0 : FuncId → Option Con := conOf [(66, t_peven), (67, t_ends), (68, t_ignored), (69, t_control), (70, t_char), (71, t_one), (72, t_sign), (73, t_place)]
theorem kc_byte0 : ∀ f T, c_byte0 f = some T → Known Tryz.prog [] f T := (Knowns.cons k_peven (Knowns.cons k_ends (Knowns.cons k_ignored (Knowns.cons k_control (Knowns.cons k_char (Knowns.cons k_one (Knowns.cons k_sign (Knowns.cons k_place Knowns.nil)))))))).get
noncomputable def t_byte0 : Con := fun args regs => nfun Tryz.prog [] c_byte0 [] Tryz.f52 args regs
theorem k_byte0 : Known Tryz.prog [] 52 t_byte0 := known_inl Tryz.func52 rfl (by kernel_rfl) mixed kc_byte0 (by kernel_rfl)
noncomputable def t_clone : Con := fun args regs => nfun Tryz.prog [] (fun _ => Option.none) [] Tryz.f26 args regs
theorem k_clone : Known Tryz.prog [] 26 t_clone := known_inl Tryz.func26 rfl (by kernel_rfl) mixed con_none (by kernel_rfl)
noncomputable def c_pending : FuncId → Option Con := conOf [(26, t_clone)]
theorem kc_pending : ∀ f T, c_pending f = some T → Known Tryz.prog [] f T := (Knowns.cons k_clone Knowns.nil).get
noncomputable def X_ones : Cx := { P := Tryz.prog, con := (fun _ => Option.none), glob := [], m := 0, loops := [] }
noncomputable def t_ones : Con := fun args regs => if regs.length = 0 then nfun Tryz.prog [] (fun _ => Option.none) [(0, [0, 3], unroll X_ones 0 [0, 3] [3] (bodyLoop Tryz.f46 0) 20)] Tryz.f46 args regs else .fail
theorem k_ones : Known Tryz.prog [] 46 t_ones := known_loops 0 Tryz.func46 rfl (by kernel_rfl) mixed con_none (LAll.one (id := 0) (body := bodyLoop Tryz.f46 0) (by kernel_rfl) rfl (unroll_ok (X := X_ones) con_none mixed (LAll.none (by kernel_rfl)) [0, 3] [3] 20))
noncomputable def c_odd : FuncId → Option Con := conOf [(46, t_ones)]
theorem kc_odd : ∀ f T, c_odd f = some T → Known Tryz.prog [] f T := (Knowns.cons k_ones Knowns.nil).get
noncomputable def t_odd : Con := fun args regs => nfun Tryz.prog [] c_odd [] Tryz.f35 args regs
theorem k_odd : Known Tryz.prog [] 35 t_odd := known_inl Tryz.func35 rfl (by kernel_rfl) mixed kc_odd (by kernel_rfl)
noncomputable def c_makeOdd : FuncId → Option Con := conOf [(35, t_odd)]
theorem kc_makeOdd : ∀ f T, c_makeOdd f = some T → Known Tryz.prog [] f T := (Knowns.cons k_odd Knowns.nil).get
noncomputable def t_makeOdd : Con := fun args regs => nfun Tryz.prog [] c_makeOdd [] Tryz.f25 args regs
theorem k_makeOdd : Known Tryz.prog [] 25 t_makeOdd := known_inl Tryz.func25 rfl (by kernel_rfl) mixed kc_makeOdd (by kernel_rfl)
noncomputable def c_makeEven : FuncId → Option Con := conOf [(25, t_makeOdd)]
theorem kc_makeEven : ∀ f T, c_makeEven f = some T → Known Tryz.prog [] f T := (Knowns.cons k_makeOdd Knowns.nil).get
noncomputable def t_makeEven : Con := fun args regs => nfun Tryz.prog [] c_makeEven [] Tryz.f10 args regs
theorem k_makeEven : Known Tryz.prog [] 10 t_makeEven := known_inl Tryz.func10 rfl (by kernel_rfl) mixed kc_makeEven (by kernel_rfl)
end Go.Proofs.YtdijbpokklgjlaaGreatDoor.lex
