/-
  LinksOther: the law's tree, the magazine and the number given.
-/
import Derived.Test.YthjdlanmfiofdaaDoorLnC
namespace Go.Proofs.YthjdlanmfiofdaaDoor.ln
open Go Go.Nx Go.Proofs.YthjdlanmfiofdaaDoor.pk

noncomputable def tLB : Con := fun args regs => match args, regs with
  | [.c (.i .i64 mag), .c (.i .i64 code), .ag l, .c (.i .i64 n)], [] => .must (l = six ∧ n = 0 ∧ 1 ≤ mag ∧ mag ≤ 8 ∧ 0 ≤ code ∧ code ≤ 3) (.ret (oBy mag 27 (LB mag code)))
  | _, _ => .fail
theorem lb_in {mag code : Int} {R : Out → Prop} (h : 1 ≤ mag ∧ mag ≤ 8 ∧ 0 ≤ code ∧ code ≤ 3) (h2 : R (oBy mag 27 (LB mag code))) : Box ((t_lbytes [.c (.i .i64 mag), .c (.i .i64 code), .ag six, .c (.i .i64 0)] []).run R) := by
  refine Box.of_eq (lb_tree mag code R) ?_
  refine selT (dT (by omega)) (selF (by simp; omega) (selF (dF (by omega)) (selF (dF (by omega)) (selT ?_ h2))))
  exact dT ⟨h.1, h.2.1, by decide, by decide⟩
set_option maxRecDepth 100000 in
theorem kLB : Known Tryd.prog GL 21 tLB := by
  refine k_lbytes.less fun args regs R h => Box.out ?_
  unfold tLB at h
  split at h
  case h_2 => exact h.elim
  have h1 := h.1
  have h2 := h.2
  clear h
  obtain ⟨rfl, rfl, h3⟩ := h1
  exact lb_in h3 h2
noncomputable def c_other (i j : Int) : FuncId → Option Con := conOf [(26, tNumP i j), (14, t_first), (21, tLB), (15, tRead), (16, t_lreadE), (28, tBytes), (19, t_is)]
theorem kc_other (i j : Int) : ∀ f T, c_other i j f = some T → Known Tryd.prog GL f T := (Knowns.cons (known_gl (kNumP i j)) (.cons k_first (.cons kLB (.cons kRead (.cons k_lreadE (.cons kBytes (.cons k_is .nil))))))).get
noncomputable def X_other (i j : Int) : Cx := { P := Tryd.prog, con := c_other i j, glob := GL, m := 0, loops := [] }
noncomputable def t_other (i j : Int) : Con := fun args regs => if regs.length = 0 then nfun Tryd.prog GL (c_other i j) [(0, [0, 1, 5, 7, 8], unroll (X_other i j) 0 [0, 1, 5, 7, 8] [0, 1, 5, 7] (bodyLoop Tryd.f5 0) 7)] Tryd.f5 args regs else .fail
theorem k_other (i j : Int) : Known Tryd.prog GL 5 (t_other i j) := known_loops 0 Tryd.func5 rfl (by kernel_rfl) mixed (kc_other i j) (LAll.one (id := 0) (body := bodyLoop Tryd.f5 0) (by kernel_rfl) rfl (unroll_ok (X := X_other i j) (kc_other i j) mixed (LAll.none (by kernel_rfl)) [0, 1, 5, 7, 8] [0, 1, 5, 7] 7))
end Go.Proofs.YthjdlanmfiofdaaDoor.ln
