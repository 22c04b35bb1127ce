/-
  The lexer: its functions, each known by its own code; what needs no loop.
-/
import Derived.Test.YtnhadghddkgjdaaEngC
import Derived.Test.YtnhadghddkgjdaaPbv
import Derived.Test.YtnhadghddkgjdaaRows
namespace Go.Proofs.Ytnhadghddkgjdaa.lex
open Go Go.Nx

theorem mixed : Try.prog.follows .mixedOrders = true := by kernel_rfl
noncomputable def t_ignored : Con := fun args regs => nfun Try.prog [] (fun _ => Option.none) [] Try.f41 args regs
theorem k_ignored : Known Try.prog [] 41 t_ignored := known_inl Try.func41 rfl (by kernel_rfl) mixed con_none (by kernel_rfl)
noncomputable def t_one : Con := fun args regs => nfun Try.prog [] (fun _ => Option.none) [] Try.f44 args regs
theorem k_one : Known Try.prog [] 44 t_one := known_inl Try.func44 rfl (by kernel_rfl) mixed con_none (by kernel_rfl)
noncomputable def t_char : Con := fun args regs => nfun Try.prog [] (fun _ => Option.none) [] Try.f43 args regs
theorem k_char : Known Try.prog [] 43 t_char := known_inl Try.func43 rfl (by kernel_rfl) mixed con_none (by kernel_rfl)
noncomputable def t_ends : Con := fun args regs => nfun Try.prog [] (fun _ => Option.none) [] Try.f40 args regs
theorem k_ends : Known Try.prog [] 40 t_ends := known_inl Try.func40 rfl (by kernel_rfl) mixed con_none (by kernel_rfl)
noncomputable def t_goes : Con := fun args regs => nfun Try.prog [] (fun _ => Option.none) [] Try.f64 args regs
theorem k_goes : Known Try.prog [] 64 t_goes := known_inl Try.func64 rfl (by kernel_rfl) mixed con_none (by kernel_rfl)
noncomputable def t_isAccent : Con := fun args regs => nfun Try.prog [] (fun _ => Option.none) [] Try.f63 args regs
theorem k_isAccent : Known Try.prog [] 63 t_isAccent := known_inl Try.func63 rfl (by kernel_rfl) mixed con_none (by kernel_rfl)
noncomputable def c_control : FuncId → Option Con := conOf [(44, t_one), (43, t_char), (41, t_ignored)]
theorem kc_control : ∀ f T, c_control f = some T → Known Try.prog [] f T := (Knowns.cons k_one (Knowns.cons k_char (Knowns.cons k_ignored Knowns.nil))).get
noncomputable def t_control : Con := fun args regs => nfun Try.prog [] c_control [] Try.f42 args regs
theorem k_control : Known Try.prog [] 42 t_control := known_inl Try.func42 rfl (by kernel_rfl) mixed kc_control (by kernel_rfl)
noncomputable def t_count8 : Con := fun args regs => nfun Try.prog [] (fun _ => Option.none) [] Try.f72 args regs
theorem k_count8 : Known Try.prog [] 72 t_count8 := known_inl Try.func72 rfl (by kernel_rfl) mixed con_none (by kernel_rfl)
noncomputable def c_podd : FuncId → Option Con := conOf [(72, t_count8)]
theorem kc_podd : ∀ f T, c_podd f = some T → Known Try.prog [] f T := (Knowns.cons k_count8 Knowns.nil).get
noncomputable def t_podd : Con := fun args regs => nfun Try.prog [] c_podd [] Try.f62 args regs
theorem k_podd : Known Try.prog [] 62 t_podd := known_inl Try.func62 rfl (by kernel_rfl) mixed kc_podd (by kernel_rfl)
noncomputable def c_peven : FuncId → Option Con := conOf [(62, t_podd)]
theorem kc_peven : ∀ f T, c_peven f = some T → Known Try.prog [] f T := (Knowns.cons k_podd Knowns.nil).get
noncomputable def t_peven : Con := fun args regs => nfun Try.prog [] c_peven [] Try.f39 args regs
theorem k_peven : Known Try.prog [] 39 t_peven := known_inl Try.func39 rfl (by kernel_rfl) mixed kc_peven (by kernel_rfl)
noncomputable def c_sign : FuncId → Option Con := conOf [(43, t_char), (63, t_isAccent), (64, t_goes), (40, t_ends)]
theorem kc_sign : ∀ f T, c_sign f = some T → Known Try.prog [] f T := (Knowns.cons k_char (Knowns.cons k_isAccent (Knowns.cons k_goes (Knowns.cons k_ends Knowns.nil)))).get
noncomputable def t_sign : Con := fun args regs => nfun Try.prog [] c_sign [] Try.f45 args regs
theorem k_sign : Known Try.prog [] 45 t_sign := known_inl Try.func45 rfl (by kernel_rfl) mixed kc_sign (by kernel_rfl)
noncomputable def c_place : FuncId → Option Con := conOf [(64, t_goes), (40, t_ends), (41, t_ignored)]
theorem kc_place : ∀ f T, c_place f = some T → Known Try.prog [] f T := (Knowns.cons k_goes (Knowns.cons k_ends (Knowns.cons k_ignored Knowns.nil))).get
noncomputable def t_place : Con := fun args regs => nfun Try.prog [] c_place [] Try.f46 args regs
theorem k_place : Known Try.prog [] 46 t_place := known_inl Try.func46 rfl (by kernel_rfl) mixed kc_place (by kernel_rfl)
noncomputable def c_byte0 : FuncId → Option Con := conOf [(39, t_peven), (40, t_ends), (41, t_ignored), (42, t_control), (43, t_char), (44, t_one), (45, t_sign), (46, t_place)]
theorem kc_byte0 : ∀ f T, c_byte0 f = some T → Known Try.prog [] f T := (Knowns.cons k_peven (Knowns.cons k_ends (Knowns.cons k_ignored (Knowns.cons k_control (Knowns.cons k_char (Knowns.cons k_one (Knowns.cons k_sign (Knowns.cons k_place Knowns.nil)))))))).get
noncomputable def t_byte0 : Con := fun args regs => nfun Try.prog [] c_byte0 [] Try.f23 args regs
theorem k_byte0 : Known Try.prog [] 23 t_byte0 := known_inl Try.func23 rfl (by kernel_rfl) mixed kc_byte0 (by kernel_rfl)
noncomputable def t_clone : Con := fun args regs => nfun Try.prog [] (fun _ => Option.none) [] Try.f38 args regs
theorem k_clone : Known Try.prog [] 38 t_clone := known_inl Try.func38 rfl (by kernel_rfl) mixed con_none (by kernel_rfl)
noncomputable def c_pending : FuncId → Option Con := conOf [(38, t_clone)]
theorem kc_pending : ∀ f T, c_pending f = some T → Known Try.prog [] f T := (Knowns.cons k_clone Knowns.nil).get
noncomputable def t_pending : Con := fun args regs => nfun Try.prog [] c_pending [] Try.f22 args regs
theorem k_pending : Known Try.prog [] 22 t_pending := known_inl Try.func22 rfl (by kernel_rfl) mixed kc_pending (by kernel_rfl)
noncomputable def t_shift : Con := fun args regs => nfun Try.prog [] (fun _ => Option.none) [] Try.f28 args regs
theorem k_shift : Known Try.prog [] 28 t_shift := known_inl Try.func28 rfl (by kernel_rfl) mixed con_none (by kernel_rfl)
noncomputable def X_ones : Cx := { P := Try.prog, con := (fun _ => Option.none), glob := [], m := 0, loops := [] }
noncomputable def t_ones : Con := fun args regs => if regs.length = 0 then nfun Try.prog [] (fun _ => Option.none) [(0, [0, 3], unroll X_ones 0 [0, 3] [3] (bodyLoop Try.f48 0) 20)] Try.f48 args regs else .fail
theorem k_ones : Known Try.prog [] 48 t_ones := known_loops 0 Try.func48 rfl (by kernel_rfl) mixed con_none (LAll.one (id := 0) (body := bodyLoop Try.f48 0) (by kernel_rfl) rfl (unroll_ok (X := X_ones) con_none mixed (LAll.none (by kernel_rfl)) [0, 3] [3] 20))
noncomputable def c_odd : FuncId → Option Con := conOf [(48, t_ones)]
theorem kc_odd : ∀ f T, c_odd f = some T → Known Try.prog [] f T := (Knowns.cons k_ones Knowns.nil).get
noncomputable def t_odd : Con := fun args regs => nfun Try.prog [] c_odd [] Try.f24 args regs
theorem k_odd : Known Try.prog [] 24 t_odd := known_inl Try.func24 rfl (by kernel_rfl) mixed kc_odd (by kernel_rfl)
noncomputable def c_makeOdd : FuncId → Option Con := conOf [(24, t_odd)]
theorem kc_makeOdd : ∀ f T, c_makeOdd f = some T → Known Try.prog [] f T := (Knowns.cons k_odd Knowns.nil).get
noncomputable def t_makeOdd : Con := fun args regs => nfun Try.prog [] c_makeOdd [] Try.f49 args regs
theorem k_makeOdd : Known Try.prog [] 49 t_makeOdd := known_inl Try.func49 rfl (by kernel_rfl) mixed kc_makeOdd (by kernel_rfl)
noncomputable def c_makeEven : FuncId → Option Con := conOf [(49, t_makeOdd)]
theorem kc_makeEven : ∀ f T, c_makeEven f = some T → Known Try.prog [] f T := (Knowns.cons k_makeOdd Knowns.nil).get
noncomputable def t_makeEven : Con := fun args regs => nfun Try.prog [] c_makeEven [] Try.f27 args regs
theorem k_makeEven : Known Try.prog [] 27 t_makeEven := known_inl Try.func27 rfl (by kernel_rfl) mixed kc_makeEven (by kernel_rfl)
noncomputable def c_first : FuncId → Option Con := conOf [(23, t_byte0), (22, t_pending)]
theorem kc_first : ∀ f T, c_first f = some T → Known Try.prog [] f T := (Knowns.cons k_byte0 (Knowns.cons k_pending Knowns.nil)).get
noncomputable def t_first : Con := fun args regs => nfun Try.prog [] c_first [] Try.f21 args regs
theorem k_first : Known Try.prog [] 21 t_first := known_inl Try.func21 rfl (by kernel_rfl) mixed kc_first (by kernel_rfl)
end Go.Proofs.Ytnhadghddkgjdaa.lex
