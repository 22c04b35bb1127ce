/-
  Packets: errors.
-/
import Derived.Test.YthjdlanmfiofdaaDoorPkD
namespace Go.Nx
open Go
/-- What is known without the listed variables is known with them. -/
theorem known_gl {P : Program} {gl : List Nat} {f : FuncId} {T : Con} (h : Known P [] f T) : Known P gl f T :=
  ⟨h.goes, fun args regs R hR Γ w vs hw _ ha ho => h.sound args regs R hR Γ w vs hw ⟨(fun x hx => by cases hx), (fun x hx => by cases hx)⟩ ha ho⟩
end Go.Nx
namespace Go.Proofs.YthjdlanmfiofdaaDoor.pk
open Go Go.Nx

/-- The errors' type; the variables. -/
def GL : List Nat := [159, 0, 1, 2, 3, 4, 5]
theorem kg_none : Known Tryd.prog GL 117 t_none := known_gl k_none
theorem kg_bare : Known Tryd.prog GL 67 t_bare := known_gl k_bare
theorem kg_samefault : Known Tryd.prog GL 99 t_samefault := known_gl k_samefault
noncomputable def t_sentinels : Con := fun args regs => nfun Tryd.prog GL (fun _ => Option.none) [] Tryd.f122 args regs
theorem k_sentinels : Known Tryd.prog GL 122 t_sentinels := known_inl Tryd.func122 rfl (by kernel_rfl) mixed con_none (by kernel_rfl)
noncomputable def t_alike : Con := fun args regs => nfun Tryd.prog GL (fun _ => Option.none) [] Tryd.f123 args regs
theorem k_alike : Known Tryd.prog GL 123 t_alike := known_inl Tryd.func123 rfl (by kernel_rfl) mixed con_none (by kernel_rfl)
noncomputable def c_sentinel : FuncId → Option Con := conOf [(122, t_sentinels), (123, t_alike)]
theorem kc_sentinel : ∀ f T, c_sentinel f = some T → Known Tryd.prog GL f T := (Knowns.cons k_sentinels (Knowns.cons k_alike Knowns.nil)).get
noncomputable def X_sentinel : Cx := { P := Tryd.prog, con := c_sentinel, glob := GL, m := 0, loops := [] }
noncomputable def t_sentinel : Con := fun args regs => if regs.length = 0 then nfun Tryd.prog GL c_sentinel [(0, [0, 3, 4], unroll X_sentinel 0 [0, 3, 4] [2] (bodyLoop Tryd.f118 0) 7)] Tryd.f118 args regs else .fail
theorem k_sentinel : Known Tryd.prog GL 118 t_sentinel := known_loops 0 Tryd.func118 rfl (by kernel_rfl) mixed kc_sentinel (LAll.one (id := 0) (body := bodyLoop Tryd.f118 0) (by kernel_rfl) rfl (unroll_ok (X := X_sentinel) kc_sentinel mixed (LAll.none (by kernel_rfl)) [0, 3, 4] [2] 7))
noncomputable def c_fault : FuncId → Option Con := conOf [(117, t_none), (118, t_sentinel), (67, t_bare)]
theorem kc_fault : ∀ f T, c_fault f = some T → Known Tryd.prog GL f T := (Knowns.cons kg_none (Knowns.cons k_sentinel (Knowns.cons kg_bare Knowns.nil))).get
noncomputable def t_fault : Con := fun args regs => nfun Tryd.prog GL c_fault [] Tryd.f100 args regs
theorem k_fault : Known Tryd.prog GL 100 t_fault := known_inl Tryd.func100 rfl (by kernel_rfl) mixed kc_fault (by kernel_rfl)
noncomputable def c_same : FuncId → Option Con := conOf [(100, t_fault), (99, t_samefault)]
theorem kc_same : ∀ f T, c_same f = some T → Known Tryd.prog GL f T := (Knowns.cons k_fault (Knowns.cons kg_samefault Knowns.nil)).get
noncomputable def t_same : Con := fun args regs => nfun Tryd.prog GL c_same [] Tryd.f66 args regs
theorem k_same : Known Tryd.prog GL 66 t_same := known_inl Tryd.func66 rfl (by kernel_rfl) mixed kc_same (by kernel_rfl)
noncomputable def c_is : FuncId → Option Con := conOf [(67, t_bare), (66, t_same)]
theorem kc_is : ∀ f T, c_is f = some T → Known Tryd.prog GL f T := (Knowns.cons kg_bare (Knowns.cons k_same Knowns.nil)).get
noncomputable def t_is : Con := fun args regs => nfun Tryd.prog GL c_is [] Tryd.f19 args regs
theorem k_is : Known Tryd.prog GL 19 t_is := known_inl Tryd.func19 rfl (by kernel_rfl) mixed kc_is (by kernel_rfl)
end Go.Proofs.YthjdlanmfiofdaaDoor.pk
