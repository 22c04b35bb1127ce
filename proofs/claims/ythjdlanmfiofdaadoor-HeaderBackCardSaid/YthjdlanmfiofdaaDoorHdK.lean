/-
  HeaderBack: the parts, each where it yields what it should; the law's code.
-/
import Derived.Test.YthjdlanmfiofdaaDoorHdJ
namespace Go.Proofs.YthjdlanmfiofdaaDoor.hd
open Go Go.Nx Go.Proofs.YthjdlanmfiofdaaDoor.pk Go.Proofs.YthjdlanmfiofdaaDoor.ln

def shE (R : Out → Prop) (A : Prop) : List (Bool × Bool) → Prop
  | [] => A
  | (a, b) :: l => sel (!(a == b)) (R (oB false)) (shE R A l)
theorem samehead_tree (m p s o m2 p2 s2 o2 : Int) (a0 a1 a2 a3 a4 a5 a6 a7 a8 a9 a10 b0 b1 b2 b3 b4 b5 b6 b7 b8 b9 b10 : Bool) (R : Out → Prop) : (t_samehead [.ag [.i .i64 m, .i .i64 p, .i .i64 s, .b a0, .b a1, .b a2, .b a3, .b a4, .b a5, .b a6, .b a7, .b a8, .b a9, .b a10, .i .i64 o], .ag [.i .i64 m2, .i .i64 p2, .i .i64 s2, .b b0, .b b1, .b b2, .b b3, .b b4, .b b5, .b b6, .b b7, .b b8, .b b9, .b b10, .i .i64 o2]] []).run R =
    shE R (sel (m == m2) (sel (p == p2) (sel (s == s2) (R (oB (o == o2))) (R (oB false))) (R (oB false))) (R (oB false))) [(a0, b0), (a1, b1), (a2, b2), (a3, b3), (a4, b4), (a5, b5), (a6, b6), (a7, b7), (a8, b8), (a9, b9), (a10, b10)] := by kernel_rfl
/-- A header that is this one. -/
noncomputable def tSameHT : Con := fun args regs => match args, regs with
  | [.ag [.i .i64 m, .i .i64 p, .i .i64 s, .b a0, .b a1, .b a2, .b a3, .b a4, .b a5, .b a6, .b a7, .b a8, .b a9, .b a10, .i .i64 o], .ag [.i .i64 m2, .i .i64 p2, .i .i64 s2, .b b0, .b b1, .b b2, .b b3, .b b4, .b b5, .b b6, .b b7, .b b8, .b b9, .b b10, .i .i64 o2]], [] => .must (([.i .i64 m, .i .i64 p, .i .i64 s, .b a0, .b a1, .b a2, .b a3, .b a4, .b a5, .b a6, .b a7, .b a8, .b a9, .b a10, .i .i64 o] : List NC) = [.i .i64 m2, .i .i64 p2, .i .i64 s2, .b b0, .b b1, .b b2, .b b3, .b b4, .b b5, .b b6, .b b7, .b b8, .b b9, .b b10, .i .i64 o2]) (.ret (oB true))
  | _, _ => .fail
theorem shE_in {R : Out → Prop} {A : Prop} : ∀ {l : List Bool}, A → shE R A (l.map fun b => (b, b))
  | [], h => h
  | b :: l, h => selF (by rw [beq_self_eq_true]; rfl) (shE_in (l := l) h)
theorem same_place {m p s o : Int} {R : Out → Prop} (h : R (oB true)) : sel (m == m) (sel (p == p) (sel (s == s) (R (oB (o == o))) (R (oB false))) (R (oB false))) (R (oB false)) := by
  refine selT (beq_self_eq_true _) (selT (beq_self_eq_true _) (selT (beq_self_eq_true _) ?_))
  rw [beq_self_eq_true]
  exact h
set_option maxRecDepth 100000 in
theorem kSameHT : Known Tryd.prog GL 32 tSameHT := by
  refine k_samehead.less fun args regs R h => Box.out ?_
  unfold tSameHT at h
  split at h
  case h_2 => exact h.elim
  rename_i m p s a0 a1 a2 a3 a4 a5 a6 a7 a8 a9 a10 o m2 p2 s2 b0 b1 b2 b3 b4 b5 b6 b7 b8 b9 b10 o2
  have h1 := h.1
  have h2 : R (oB true) := h.2
  clear h
  simp only [List.cons.injEq, NC.i.injEq, NC.b.injEq, true_and, and_true] at h1
  obtain ⟨rfl, rfl, rfl, rfl, rfl, rfl, rfl, rfl, rfl, rfl, rfl, rfl, rfl, rfl, rfl⟩ := h1
  exact Box.of_eq (samehead_tree m p s o m p s o a0 a1 a2 a3 a4 a5 a6 a7 a8 a9 a10 a0 a1 a2 a3 a4 a5 a6 a7 a8 a9 a10 R) (shE_in (l := [a0, a1, a2, a3, a4, a5, a6, a7, a8, a9, a10]) (same_place h2))
noncomputable def tHbytesM : Con := fun args regs => match args, regs with
  | [.ag [.i .i64 m, .i .i64 p, .i .i64 s, .b c0, .b c1, .b c2, .b c3, .b c4, .b c5, .b c6, .b c7, .b c8, .b c9, .b c10, .i .i64 _], .c (.l .u8 ds)], [] => .must (fairB m p s = true ∧ ds.length = 32) (.ret (oBy m 0 (hb p s (flN c0 c1 c2 c3 c4 c5 c6 c7 c8 c9 c10) ++ ds)))
  | _, _ => .fail
set_option maxRecDepth 100000 in
theorem kHbytesM : Known Tryd.prog GL 30 tHbytesM := by
  refine kHbytes.less fun args regs R h => ?_
  unfold tHbytesM at h
  split at h
  case h_2 => exact h.elim
  have h1 := h.1
  have h2 := h.2
  clear h
  exact selT h1.1 (selT (dT h1.2) h2)
noncomputable def tReadH : Con := fun args regs => match args, regs with
  | [.c (.l .u8 bs)], [] => .must (bs.length = 42 ∧ getB (bs.getD 0 0) = true ∧ getB (bs.getD 1 0) = true ∧ rowOf (getN (bs.getD 0 0)) (getN (bs.getD 1 0)) = 0) (.ret (oPk (magOf (getN (bs.getD 0 0))) 0 1 0 (bs.drop 2)))
  | _, _ => .fail
set_option maxRecDepth 100000 in
theorem kReadH : Known Tryd.prog GL 15 tReadH := by
  refine kRead.less fun args regs R h => ?_
  unfold tReadH at h
  split at h
  case h_2 => exact h.elim
  rename_i bs
  have h1 := h.1
  have h2 : R (oPk (magOf (getN (bs.getD 0 0))) 0 1 0 (bs.drop 2)) := h.2
  clear h
  obtain ⟨hl, g0, g1, hr⟩ := h1
  refine selT (dT hl) (selT (by rw [g0, g1]; rfl) ?_)
  rw [hr]
  exact selF (dF (by decide)) (selF (dF (by decide)) h2)
noncomputable def tHreadM : Con := fun args regs => match args, regs with
  | [.ag [.i .i64 m, .i .i64 _, .i .i64 k, .i .i64 _, .l .u8 ds]], [] => .must (k = 1 ∧ ds.length = 40 ∧ (B8 ds).all getB = true) (.ret (oHd m ds))
  | _, _ => .fail
set_option maxRecDepth 100000 in
theorem kHreadM : Known Tryd.prog GL 31 tHreadM := by
  refine kHread.less fun args regs R h => ?_
  unfold tHreadM at h
  split at h
  case h_2 => exact h.elim
  have h1 := h.1
  have h2 := h.2
  clear h
  obtain ⟨rfl, hl, hg⟩ := h1
  exact selT (dT rfl) ⟨hl, selT hg h2⟩
noncomputable def tSameM : Con := fun args regs => match args, regs with
  | [.c (.l .u8 xs), .c (.l .u8 ys)], [] => .must (xs = ys ∧ xs.length ≤ 1000000) (.ret (oB true))
  | _, _ => .fail
set_option maxRecDepth 100000 in
theorem kSameM : Known Tryd.prog GL 23 tSameM := by
  refine kg_same.less fun args regs R h => ?_
  unfold tSameM at h
  split at h
  case h_2 => exact h.elim
  rename_i xs ys
  have h1 := h.1
  have h2 : R (oB true) := h.2
  clear h
  obtain ⟨rfl, hl⟩ := h1
  refine ⟨hl, ?_⟩
  show R (oB (xs == xs))
  rw [beq_self_eq_true]
  exact h2
noncomputable def c_hback : FuncId → Option Con := conOf [(26, num.tNumV), (29, t_first8), (30, tHbytesM), (15, tReadH), (31, tHreadM), (32, tSameHT), (23, tSameM)]
theorem kc_hback : ∀ f T, c_hback f = some T → Known Tryd.prog GL f T := (Knowns.cons (known_gl num.kNumV) (.cons k_first8 (.cons kHbytesM (.cons kReadH (.cons kHreadM (.cons kSameHT (.cons kSameM .nil))))))).get
noncomputable def X_hback : Cx := { P := Tryd.prog, con := c_hback, glob := GL, m := 0, loops := [] }
noncomputable def t_hback : Con := fun args regs => if regs.length = 0 then nfun Tryd.prog GL c_hback [(0, [3, 4, 5, 13, 14, 15], unroll X_hback 0 [3, 4, 5, 13, 14, 15] [4, 5, 13, 14] (bodyLoop Tryd.f6 0) 12), (2, [4, 5, 13, 14, 16, 18], sumP pTurn rTurn lTurn), (4, [4, 13, 14, 20, 21, 22, 23, 24], unroll X_hback 4 [4, 13, 14, 20, 21, 22, 23, 24] [4, 13, 14, 20, 21, 22, 23] (bodyLoop Tryd.f6 4) 4)] Tryd.f6 args regs else .fail
theorem k_hback : Known Tryd.prog GL 6 t_hback := known_loops 0 Tryd.func6 rfl (by kernel_rfl) mixed kc_hback (LAll.three (i1 := 0) (i2 := 2) (i3 := 4) (b1 := bodyLoop Tryd.f6 0) (b2 := bodyLoop Tryd.f6 2) (b3 := bodyLoop Tryd.f6 4) (by kernel_rfl) rfl (by decide) (unroll_ok (X := X_hback) kc_hback mixed (LAll.none (by kernel_rfl)) [3, 4, 5, 13, 14, 15] [4, 5, 13, 14] 12) loop_turn (unroll_ok (X := X_hback) kc_hback mixed (LAll.none (by kernel_rfl)) [4, 13, 14, 20, 21, 22, 23, 24] [4, 13, 14, 20, 21, 22, 23] 4))

/-! ### what it comes to -/
noncomputable def mgN (n : Int) : Int := IntKind.i64.wrap (n % 8 + 1)
noncomputable def flF (f : Int) : Int := flN (ckOf f 0) (ckOf f 1) (ckOf f 2) (ckOf f 3) (ckOf f 4) (ckOf f 5) (ckOf f 6) (ckOf f 7) (ckOf f 8) (ckOf f 9) (ckOf f 10)
noncomputable def lstB (mg pg sb f : Int) (T : List Int) : List Int := adr0 mg 0 :: adr1 0 :: (hb pg sb (flF f) ++ T)
noncomputable def trnB (mg pg sb f : Int) (T bs : List Int) : List Int := mapF (tbk bs) (0 : Int).toNat 0 (lstB mg pg sb f T)
end Go.Proofs.YthjdlanmfiofdaaDoor.hd
