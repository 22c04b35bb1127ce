/-
  Links: their bytes, a packet of them, each where it is what it should be.
-/
import Derived.Test.YthjdlanmfiofdaaDoorLbA
namespace Go.Proofs.YthjdlanmfiofdaaDoor.lb
open Go Go.Nx Go.Proofs.YthjdlanmfiofdaaDoor.pk Go.Proofs.YthjdlanmfiofdaaDoor.ln Go.Proofs.YthjdlanmfiofdaaDoor.hd

noncomputable def xM (mag m : Int) : Int := bits .and .i64 (bits .xor .i64 mag m) 7
noncomputable def grpN (mag m p s : Int) : List Int := [put (aI p 15), put (shrv .i64 p 4), put (aI s 15), put (nb3 s (aI (xM mag m) 1)), put (nb4 s), put (nb5 s (shrv .i64 (xM mag m) 1))]
noncomputable def lbN (mag code ctl m0 p0 s0 m1 p1 s1 m2 p2 s2 m3 p3 s3 m4 p4 s4 m5 p5 s5 : Int) : List Int := put code :: (grpN mag m0 p0 s0 ++ (grpN mag m1 p1 s1 ++ (grpN mag m2 p2 s2 ++ (grpN mag m3 p3 s3 ++ (grpN mag m4 p4 s4 ++ (grpN mag m5 p5 s5 ++ [put ctl, 0, 0]))))))
theorem lbytes_tree (mag code ctl m0 p0 s0 m1 p1 s1 m2 p2 s2 m3 p3 s3 m4 p4 s4 m5 p5 s5 : Int) (R : Out → Prop) : (t_lbytesV [.c (.i .i64 mag), .c (.i .i64 code), .ag [.i .i64 m0, .i .i64 p0, .i .i64 s0, .i .i64 m1, .i .i64 p1, .i .i64 s1, .i .i64 m2, .i .i64 p2, .i .i64 s2, .i .i64 m3, .i .i64 p3, .i .i64 s3, .i .i64 m4, .i .i64 p4, .i .i64 s4, .i .i64 m5, .i .i64 p5, .i .i64 s5], .c (.i .i64 ctl)] []).run R =
    sel (decide (mag ≥ 1)) (sel (!decide (mag ≤ 8)) (R (oEr 3)) (sel (decide (code < 0)) (R (oEr 3)) (sel (decide (code > 3)) (R (oEr 3)) (sel (decide (ctl < 0)) (R (oEr 3)) (sel (decide (ctl > 15)) (R (oEr 3)) (sel (!fairB m0 p0 s0) (R (oEr 3)) (sel (!fairB m1 p1 s1) (R (oEr 3)) (sel (!fairB m2 p2 s2) (R (oEr 3)) (sel (!fairB m3 p3 s3) (R (oEr 3)) (sel (!fairB m4 p4 s4) (R (oEr 3)) (sel (!fairB m5 p5 s5) (R (oEr 3)) (sel (okMR mag 27) (R (oBy mag 27 (lbN mag code ctl m0 p0 s0 m1 p1 s1 m2 p2 s2 m3 p3 s3 m4 p4 s4 m5 p5 s5))) (R (oEr 3)))))))))))))) (R (oEr 3)) := by kernel_rfl
noncomputable def tLBs : Con := fun args regs => match args, regs with
  | [.c (.i .i64 mag), .c (.i .i64 code), .ag [.i .i64 m0, .i .i64 p0, .i .i64 s0, .i .i64 m1, .i .i64 p1, .i .i64 s1, .i .i64 m2, .i .i64 p2, .i .i64 s2, .i .i64 m3, .i .i64 p3, .i .i64 s3, .i .i64 m4, .i .i64 p4, .i .i64 s4, .i .i64 m5, .i .i64 p5, .i .i64 s5], .c (.i .i64 ctl)], [] => .must ((1 ≤ mag ∧ mag ≤ 8 ∧ 0 ≤ code ∧ code ≤ 3 ∧ 0 ≤ ctl ∧ ctl ≤ 15) ∧ fairB m0 p0 s0 = true ∧ fairB m1 p1 s1 = true ∧ fairB m2 p2 s2 = true ∧ fairB m3 p3 s3 = true ∧ fairB m4 p4 s4 = true ∧ fairB m5 p5 s5 = true) (.ret (oBy mag 27 (lbN mag code ctl m0 p0 s0 m1 p1 s1 m2 p2 s2 m3 p3 s3 m4 p4 s4 m5 p5 s5)))
  | _, _ => .fail
theorem lbytes_in {mag code ctl m0 p0 s0 m1 p1 s1 m2 p2 s2 m3 p3 s3 m4 p4 s4 m5 p5 s5 : Int} {R : Out → Prop} (h : (1 ≤ mag ∧ mag ≤ 8 ∧ 0 ≤ code ∧ code ≤ 3 ∧ 0 ≤ ctl ∧ ctl ≤ 15) ∧ fairB m0 p0 s0 = true ∧ fairB m1 p1 s1 = true ∧ fairB m2 p2 s2 = true ∧ fairB m3 p3 s3 = true ∧ fairB m4 p4 s4 = true ∧ fairB m5 p5 s5 = true) (h2 : R (oBy mag 27 (lbN mag code ctl m0 p0 s0 m1 p1 s1 m2 p2 s2 m3 p3 s3 m4 p4 s4 m5 p5 s5))) : Box ((t_lbytesV [.c (.i .i64 mag), .c (.i .i64 code), .ag [.i .i64 m0, .i .i64 p0, .i .i64 s0, .i .i64 m1, .i .i64 p1, .i .i64 s1, .i .i64 m2, .i .i64 p2, .i .i64 s2, .i .i64 m3, .i .i64 p3, .i .i64 s3, .i .i64 m4, .i .i64 p4, .i .i64 s4, .i .i64 m5, .i .i64 p5, .i .i64 s5], .c (.i .i64 ctl)] []).run R) := by
  refine Box.of_eq (lbytes_tree mag code ctl m0 p0 s0 m1 p1 s1 m2 p2 s2 m3 p3 s3 m4 p4 s4 m5 p5 s5 R) ?_
  obtain ⟨h, f0, f1, f2, f3, f4, f5⟩ := h
  refine selT (dT (by omega)) (selF (by simp; omega) (selF (dF (by omega)) (selF (dF (by omega)) (selF (dF (by omega)) (selF (dF (by omega)) ?_)))))
  rw [f0, f1, f2, f3, f4, f5]
  exact selF rfl (selF rfl (selF rfl (selF rfl (selF rfl (selF rfl (selT (dT ⟨h.1, h.2.1, by decide, by decide⟩) h2))))))
set_option maxRecDepth 100000 in
theorem kLBs : Known Tryd.prog GL 21 tLBs := by
  refine k_lbytesV.less fun args regs R h => Box.out ?_
  unfold tLBs at h
  split at h
  case h_2 => exact h.elim
  exact lbytes_in h.1 h.2
noncomputable def tLread : Con := fun args regs => match args, regs with
  | [.ag [.i .i64 m, .i .i64 _, .i .i64 k, .i .i64 c, .l .u8 ds]], [] => .must (k = 4 ∧ c = 0 ∧ 36 ≤ ds.length ∧ ds.length < 1000) (.ret (oLk m ds (asF ([0, 1, 2, 3, 4, 5].map (ALLg ds)))))
  | _, _ => .fail
set_option maxRecDepth 100000 in
theorem kLread : Known Tryd.prog GL 16 tLread := by
  refine k_lread.less fun args regs R h => Box.out ?_
  unfold tLread at h
  split at h
  case h_2 => exact h.elim
  rename_i m w k c ds
  have h1 := h.1
  have h2 : R (oLk m ds (asF ([0, 1, 2, 3, 4, 5].map (ALLg ds)))) := h.2
  clear h
  obtain ⟨rfl, rfl, hl, hm⟩ := h1
  refine Box.of_eq (lread_tree m w 4 0 ds R) (selF rfl (selF rfl (lkE_in ds [0, 1, 2, 3, 4, 5] _ (fun k hk => ?_) h2)))
  have hk : k ≤ 5 := by
    simp only [List.mem_cons, List.not_mem_nil, or_false] at hk
    omega
  exact ⟨rfl, by simp, Int.le_refl _, by omega, by omega, by omega, by omega⟩
noncomputable def tReadL : Con := fun args regs => match args, regs with
  | [.c (.l .u8 bs)], [] => .must (bs.length = 42 ∧ getB (bs.getD 0 0) = true ∧ getB (bs.getD 1 0) = true ∧ rowOf (getN (bs.getD 0 0)) (getN (bs.getD 1 0)) = 27 ∧ getB ((bs.drop 2).getD 0 0) = true) (.ret (oPk (magOf (getN (bs.getD 0 0))) 27 4 (getN ((bs.drop 2).getD 0 0)) ((bs.drop 2).drop 1)))
  | _, _ => .fail
set_option maxRecDepth 100000 in
theorem kReadL : Known Tryd.prog GL 15 tReadL := by
  refine kRead.less fun args regs R h => ?_
  unfold tReadL at h
  split at h
  case h_2 => exact h.elim
  rename_i bs
  have h1 := h.1
  have h2 : R (oPk (magOf (getN (bs.getD 0 0))) 27 4 (getN ((bs.drop 2).getD 0 0)) ((bs.drop 2).drop 1)) := h.2
  clear h
  obtain ⟨hl, g0, g1, hr, g2⟩ := h1
  refine selT (dT hl) (selT (by rw [g0, g1]; rfl) ?_)
  rw [hr]
  exact selF (dF (by decide)) (selT (dT (by decide)) (selT g2 h2))
end Go.Proofs.YthjdlanmfiofdaaDoor.lb
