/-
  ServiceEdges: the law by its code.
-/
import Derived.Test.YthjdlanmfiofdaaDoorSvA
namespace Go.Proofs.YthjdlanmfiofdaaDoor.sv
open Go Go.Nx Go.Proofs.YthjdlanmfiofdaaDoor.pk Go.Proofs.YthjdlanmfiofdaaDoor.ln Go.Proofs.YthjdlanmfiofdaaDoor.hd Go.Proofs.YthjdlanmfiofdaaDoor.lb

theorem first11_tree (R : Out → Prop) : (t_first11 [] []).run R = R (oB true) := by kernel_rfl
noncomputable def tYes : Con := fun args regs => match args, regs with
  | [], [] => .ret (oB true)
  | _, _ => .fail
set_option maxRecDepth 100000 in
theorem kYes : Known Tryd.prog GL 48 tYes := by
  refine k_first11.less fun args regs R h => Box.out ?_
  unfold tYes at h
  split at h
  case h_2 => exact h.elim
  exact Box.of_eq (first11_tree R) h
noncomputable def c_edges (j : Int) : FuncId → Option Con := conOf [(26, tNumJ 6 j), (48, tYes), (56, t_with), (53, t_sbytes), (15, tRead), (49, t_sread), (19, t_is), (57, t_got)]
theorem kc_edges (j : Int) : ∀ f T, (c_edges j) f = some T → Known Tryd.prog GL f T := (Knowns.cons (known_gl (kNumJ 6 j)) (.cons kYes (.cons k_with (.cons k_sbytes (.cons kRead (.cons k_sread (.cons k_is (.cons k_got .nil)))))))).get
noncomputable def t_edges (j : Int) : Con := fun args regs => nfun Tryd.prog GL (c_edges j) [] Tryd.f13 args regs
theorem k_edges (j : Int) : Known Tryd.prog GL 13 (t_edges j) := known_inl Tryd.func13 rfl (by kernel_rfl) mixed (kc_edges j) (by kernel_rfl)
end Go.Proofs.YthjdlanmfiofdaaDoor.sv
