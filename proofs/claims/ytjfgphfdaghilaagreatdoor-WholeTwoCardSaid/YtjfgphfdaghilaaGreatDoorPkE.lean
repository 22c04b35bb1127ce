/-
  Packets: errors.
-/
import Derived.Test.YtjfgphfdaghilaaGreatDoorPkD
namespace Go.Nx
open Go
/-- What is known without the listed variables is known with them. -/
theorem known_gl {P : Program} {gl : List Nat} {f : FuncId} {T : Con} (h : Known P [] f T) : Known P gl f T :=
  ⟨h.goes, fun args regs R hR Γ w vs hw _ ha ho => h.sound args regs R hR Γ w vs hw ⟨(fun x hx => by cases hx), (fun x hx => by cases hx)⟩ ha ho⟩
end Go.Nx
namespace Go.Proofs.YtjfgphfdaghilaaGreatDoor.pk
open Go Go.Nx

/-- The errors' type; the variables. -/
def GL : List Nat := [396, 0, 1, 2, 3, 4, 5]
theorem kg_none : Known Tryz.prog GL 125 t_none := known_gl k_none
theorem kg_bare : Known Tryz.prog GL 50 t_bare := known_gl k_bare
theorem kg_samefault : Known Tryz.prog GL 88 t_samefault := known_gl k_samefault
noncomputable def t_sentinels : Con := fun args regs => nfun Tryz.prog GL (fun _ => Option.none) [] Tryz.f179 args regs
theorem k_sentinels : Known Tryz.prog GL 179 t_sentinels := known_inl Tryz.func179 rfl (by kernel_rfl) mixed con_none (by kernel_rfl)
noncomputable def t_alike : Con := fun args regs => nfun Tryz.prog GL (fun _ => Option.none) [] Tryz.f180 args regs
theorem k_alike : Known Tryz.prog GL 180 t_alike := known_inl Tryz.func180 rfl (by kernel_rfl) mixed con_none (by kernel_rfl)
noncomputable def c_sentinel : FuncId → Option Con := conOf [(179, t_sentinels), (180, t_alike)]
theorem kc_sentinel : ∀ f T, c_sentinel f = some T → Known Tryz.prog GL f T := (Knowns.cons k_sentinels (Knowns.cons k_alike Knowns.nil)).get
noncomputable def X_sentinel : Cx := { P := Tryz.prog, con := c_sentinel, glob := GL, m := 0, loops := [] }
noncomputable def t_sentinel : Con := fun args regs => if regs.length = 0 then nfun Tryz.prog GL c_sentinel [(0, [0, 3, 4], unroll X_sentinel 0 [0, 3, 4] [2] (bodyLoop Tryz.f126 0) 7)] Tryz.f126 args regs else .fail
theorem k_sentinel : Known Tryz.prog GL 126 t_sentinel := known_loops 0 Tryz.func126 rfl (by kernel_rfl) mixed kc_sentinel (LAll.one (id := 0) (body := bodyLoop Tryz.f126 0) (by kernel_rfl) rfl (unroll_ok (X := X_sentinel) kc_sentinel mixed (LAll.none (by kernel_rfl)) [0, 3, 4] [2] 7))
noncomputable def c_fault : FuncId → Option Con := conOf [(125, t_none), (126, t_sentinel), (50, t_bare)]
theorem kc_fault : ∀ f T, c_fault f = some T → Known Tryz.prog GL f T := (Knowns.cons kg_none (Knowns.cons k_sentinel (Knowns.cons kg_bare Knowns.nil))).get
noncomputable def t_fault : Con := fun args regs => nfun Tryz.prog GL c_fault [] Tryz.f89 args regs
theorem k_fault : Known Tryz.prog GL 89 t_fault := known_inl Tryz.func89 rfl (by kernel_rfl) mixed kc_fault (by kernel_rfl)
noncomputable def c_same : FuncId → Option Con := conOf [(89, t_fault), (88, t_samefault)]
theorem kc_same : ∀ f T, c_same f = some T → Known Tryz.prog GL f T := (Knowns.cons k_fault (Knowns.cons kg_samefault Knowns.nil)).get
noncomputable def t_same : Con := fun args regs => nfun Tryz.prog GL c_same [] Tryz.f49 args regs
theorem k_same : Known Tryz.prog GL 49 t_same := known_inl Tryz.func49 rfl (by kernel_rfl) mixed kc_same (by kernel_rfl)
noncomputable def c_is : FuncId → Option Con := conOf [(50, t_bare), (49, t_same)]
theorem kc_is : ∀ f T, c_is f = some T → Known Tryz.prog GL f T := (Knowns.cons kg_bare (Knowns.cons k_same Knowns.nil)).get
noncomputable def t_is : Con := fun args regs => nfun Tryz.prog GL c_is [] Tryz.f26 args regs
theorem k_is : Known Tryz.prog GL 26 t_is := known_inl Tryz.func26 rfl (by kernel_rfl) mixed kc_is (by kernel_rfl)
end Go.Proofs.YtjfgphfdaghilaaGreatDoor.pk
