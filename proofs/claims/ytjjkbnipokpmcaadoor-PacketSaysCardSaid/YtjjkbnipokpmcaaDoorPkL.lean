/-
  Packets: the law PacketBack: its tree.
-/
import Derived.Test.YtjjkbnipokpmcaaDoorPkK
namespace Go.Proofs.YtjjkbnipokpmcaaDoor.pk
open Go Go.Nx

/-- A packet of a row of text, or bits that can't be mended. -/
noncomputable def tReadB : Con := fun args regs => match args, regs with
  | [.c (.l .u8 bs)], [] => .must (bs.length = 42) (.br (getB (bs.getD 0 0) && getB (bs.getD 1 0))
      (.must (kindF (rowOf (getN (bs.getD 0 0)) (getN (bs.getD 1 0))) ≠ 0 ∧ rowOf (getN (bs.getD 0 0)) (getN (bs.getD 1 0)) < 26) (.ret (oPk (magOf (getN (bs.getD 0 0))) (rowOf (getN (bs.getD 0 0)) (getN (bs.getD 1 0))) (kindF (rowOf (getN (bs.getD 0 0)) (getN (bs.getD 1 0)))) 0 (bs.drop 2))))
      (.ret (oPE 1)))
  | _, _ => .fail
theorem readB_in {bs : List Int} {R : Out → Prop} (h1 : bs.length = 42) (h : sel (getB (bs.getD 0 0) && getB (bs.getD 1 0))
      ((kindF (rowOf (getN (bs.getD 0 0)) (getN (bs.getD 1 0))) ≠ 0 ∧ rowOf (getN (bs.getD 0 0)) (getN (bs.getD 1 0)) < 26) ∧ R (oPk (magOf (getN (bs.getD 0 0))) (rowOf (getN (bs.getD 0 0)) (getN (bs.getD 1 0))) (kindF (rowOf (getN (bs.getD 0 0)) (getN (bs.getD 1 0)))) 0 (bs.drop 2)))
      (R (oPE 1))) : (tRead [.c (.l .u8 bs)] []).run R := by
  refine selT (dT h1) ?_
  rcases sel_iff.1 h with ⟨c, h⟩ | ⟨c, h⟩
  · exact selT c (selF (dF h.1.1) (selF (dF (by omega)) h.2))
  · exact selF c h
set_option maxRecDepth 100000 in
theorem kReadB : Known Tryd.prog GL 8 tReadB := by
  refine kRead.less fun args regs R h => ?_
  unfold tReadB at h
  split at h
  case h_2 => exact h.elim
  exact readB_in h.1 h.2
noncomputable def c_back : FuncId → Option Con := conOf [(17, num.tNumV), (10, tBytesM), (8, tReadB), (15, tSame), (12, t_is), (7, tYes)]
theorem kc_back : ∀ f T, c_back f = some T → Known Tryd.prog GL f T := (Knowns.cons kg_num (.cons kBytesM (.cons kReadB (.cons kg_same (.cons k_is (.cons kYes .nil)))))).get
noncomputable def t_back : Con := fun args regs => nfun Tryd.prog GL c_back [] Tryd.f4 args regs
theorem k_back : Known Tryd.prog GL 4 t_back := known_inl Tryd.func4 rfl (by kernel_rfl) mixed kc_back (by kernel_rfl)
end Go.Proofs.YtjjkbnipokpmcaaDoor.pk
