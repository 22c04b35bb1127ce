/-
  The remote control: its functions, each known by its own code.
-/
import Derived.Test.YtnhadghddkgjdaaEng22
import Derived.Test.YtnhadghddkgjdaaNum
namespace Go.Proofs.Ytnhadghddkgjdaa.rem
open Go Go.Nx

theorem mixed : Try.prog.follows .mixedOrders = true := by kernel_rfl
noncomputable def t_start : Con := fun args regs => nfun Try.prog [] (fun _ => Option.none) [] Try.f17 args regs
theorem k_start : Known Try.prog [] 17 t_start := known_inl Try.func17 rfl (by kernel_rfl) mixed con_none (by kernel_rfl)
noncomputable def t_line : Con := fun args regs => nfun Try.prog [] (fun _ => Option.none) [] Try.f20 args regs
theorem k_line : Known Try.prog [] 20 t_line := known_inl Try.func20 rfl (by kernel_rfl) mixed con_none (by kernel_rfl)
noncomputable def c_rfirst : FuncId → Option Con := conOf [(17, t_start), (20, t_line)]
theorem kc_rfirst : ∀ f T, c_rfirst f = some T → Known Try.prog [] f T := (Knowns.cons k_start (Knowns.cons k_line Knowns.nil)).get
noncomputable def t_rfirst : Con := fun args regs => nfun Try.prog [] c_rfirst [] Try.f15 args regs
theorem k_rfirst : Known Try.prog [] 15 t_rfirst := known_inl Try.func15 rfl (by kernel_rfl) mixed kc_rfirst (by kernel_rfl)
noncomputable def t_mag : Con := fun args regs => nfun Try.prog [] (fun _ => Option.none) [] Try.f69 args regs
theorem k_mag : Known Try.prog [] 69 t_mag := known_inl Try.func69 rfl (by kernel_rfl) mixed con_none (by kernel_rfl)
noncomputable def c_hnumber : FuncId → Option Con := conOf [(69, t_mag)]
theorem kc_hnumber : ∀ f T, c_hnumber f = some T → Known Try.prog [] f T := (Knowns.cons k_mag Knowns.nil).get
noncomputable def t_hnumber : Con := fun args regs => nfun Try.prog [] c_hnumber [] Try.f70 args regs
theorem k_hnumber : Known Try.prog [] 70 t_hnumber := known_inl Try.func70 rfl (by kernel_rfl) mixed kc_hnumber (by kernel_rfl)
noncomputable def t_hplace : Con := fun args regs => nfun Try.prog [] (fun _ => Option.none) [] Try.f56 args regs
theorem k_hplace : Known Try.prog [] 56 t_hplace := known_inl Try.func56 rfl (by kernel_rfl) mixed con_none (by kernel_rfl)
noncomputable def t_rgoes : Con := fun args regs => nfun Try.prog [] (fun _ => Option.none) [] Try.f57 args regs
theorem k_rgoes : Known Try.prog [] 57 t_rgoes := known_inl Try.func57 rfl (by kernel_rfl) mixed con_none (by kernel_rfl)
noncomputable def c_rnumber : FuncId → Option Con := conOf [(70, t_hnumber)]
theorem kc_rnumber : ∀ f T, c_rnumber f = some T → Known Try.prog [] f T := (Knowns.cons k_hnumber Knowns.nil).get
noncomputable def t_rnumber : Con := fun args regs => nfun Try.prog [] c_rnumber [] Try.f59 args regs
theorem k_rnumber : Known Try.prog [] 59 t_rnumber := known_inl Try.func59 rfl (by kernel_rfl) mixed kc_rnumber (by kernel_rfl)
noncomputable def c_turns : FuncId → Option Con := conOf [(59, t_rnumber), (56, t_hplace), (57, t_rgoes)]
theorem kc_turns : ∀ f T, c_turns f = some T → Known Try.prog [] f T := (Knowns.cons k_rnumber (Knowns.cons k_hplace (Knowns.cons k_rgoes Knowns.nil))).get
noncomputable def t_turns : Con := fun args regs => nfun Try.prog [] c_turns [] Try.f36 args regs
theorem k_turns : Known Try.prog [] 36 t_turns := known_inl Try.func36 rfl (by kernel_rfl) mixed kc_turns (by kernel_rfl)
noncomputable def c_some : FuncId → Option Con := conOf [(69, t_mag)]
theorem kc_some : ∀ f T, c_some f = some T → Known Try.prog [] f T := (Knowns.cons k_mag Knowns.nil).get
noncomputable def t_some : Con := fun args regs => nfun Try.prog [] c_some [] Try.f58 args regs
theorem k_some : Known Try.prog [] 58 t_some := known_inl Try.func58 rfl (by kernel_rfl) mixed kc_some (by kernel_rfl)
noncomputable def c_follows : FuncId → Option Con := conOf [(58, t_some), (57, t_rgoes)]
theorem kc_follows : ∀ f T, c_follows f = some T → Known Try.prog [] f T := (Knowns.cons k_some (Knowns.cons k_rgoes Knowns.nil)).get
noncomputable def t_follows : Con := fun args regs => nfun Try.prog [] c_follows [] Try.f35 args regs
theorem k_follows : Known Try.prog [] 35 t_follows := known_inl Try.func35 rfl (by kernel_rfl) mixed kc_follows (by kernel_rfl)
noncomputable def t_clones : Con := fun args regs => nfun Try.prog [] (fun _ => Option.none) [] Try.f33 args regs
theorem k_clones : Known Try.prog [] 33 t_clones := known_inl Try.func33 rfl (by kernel_rfl) mixed con_none (by kernel_rfl)
noncomputable def c_key : FuncId → Option Con := conOf [(33, t_clones), (36, t_turns), (35, t_follows)]
theorem kc_key : ∀ f T, c_key f = some T → Known Try.prog [] f T := (Knowns.cons k_clones (Knowns.cons k_turns (Knowns.cons k_follows Knowns.nil))).get
noncomputable def t_key : Con := fun args regs => nfun Try.prog [] c_key [] Try.f18 args regs
theorem k_key : Known Try.prog [] 18 t_key := known_inl Try.func18 rfl (by kernel_rfl) mixed kc_key (by kernel_rfl)
noncomputable def t_same : Con := fun args regs => nfun Try.prog [] (fun _ => Option.none) [] Try.f19 args regs
theorem k_same : Known Try.prog [] 19 t_same := known_inl Try.func19 rfl (by kernel_rfl) mixed con_none (by kernel_rfl)
theorem first_tree (R : Out → Prop) : (t_rfirst [] []).run R = R ⟨.v (.c (.b true)), []⟩ := by kernel_rfl
def yes : Out := ⟨.v (.c (.b true)), []⟩
noncomputable def tYes : Con := fun args regs => match args, regs with
  | [], [] => .ret yes
  | _, _ => .fail
set_option maxRecDepth 100000 in
theorem kYes : Known Try.prog [] 15 tYes := by
  refine k_rfirst.less fun args regs R h => ?_
  unfold tYes at h
  split at h
  case h_2 => exact h.elim
  rw [first_tree]
  exact h
end Go.Proofs.Ytnhadghddkgjdaa.rem
