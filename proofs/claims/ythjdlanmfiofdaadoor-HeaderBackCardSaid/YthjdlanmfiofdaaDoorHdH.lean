/-
  HeaderFlags: the law's tree, the flag given.
-/
import Derived.Test.YthjdlanmfiofdaaDoorHdG
namespace Go.Proofs.YthjdlanmfiofdaaDoor.hd
open Go Go.Nx Go.Proofs.YthjdlanmfiofdaaDoor.pk Go.Proofs.YthjdlanmfiofdaaDoor.ln

/-- A number below m: this one. -/
def tNumK (m j : Int) : Con := fun args regs => match args, regs with
  | [.c (.i .i64 n), .c (.i .i64 k)], [] => .must (k = m ∧ 0 < m ∧ m < 4611686018427387904 ∧ n % m = j) (.ret ⟨.v (.c (.i .i64 j)), []⟩)
  | _, _ => .fail
set_option maxRecDepth 100000 in
theorem kNumK (m j : Int) : Known Tryd.prog [] 26 (tNumK m j) := by
  refine num.kNumV.less fun args regs R h => ?_
  unfold tNumK at h
  split at h
  case h_2 => exact h.elim
  rename_i n k
  have h : (k = m ∧ 0 < m ∧ m < 4611686018427387904 ∧ n % m = j) ∧ R ⟨.v (.c (.i .i64 j)), []⟩ := h
  obtain ⟨⟨rfl, h1, h1b, h2⟩, h3⟩ := h
  refine ⟨⟨h1, h1b⟩, ?_⟩
  show R ⟨.v (.c (.i .i64 (n % k))), []⟩
  rw [h2]; exact h3

/-- A header's flags, one of them turned. -/
noncomputable def ckT (f : Int) (j i : Nat) : Bool := bif i == j then !ckOf f (i : Int) else ckOf f (i : Int)
noncomputable def expC (f : Int) (j : Nat) : List NC := [.i .i64 3, .i .i64 69, .i .i64 4660, .b (ckT f j 0), .b (ckT f j 1), .b (ckT f j 2), .b (ckT f j 3), .b (ckT f j 4), .b (ckT f j 5), .b (ckT f j 6), .b (ckT f j 7), .b (ckT f j 8), .b (ckT f j 9), .b (ckT f j 10), .i .i64 (optN (ckT f j 8) (ckT f j 9) (ckT f j 10))]
/-- A header that is read as this one. -/
noncomputable def tHreadX (f : Int) (j : Nat) : Con := fun args regs => match args, regs with
  | [.ag [.i .i64 m, .i .i64 _, .i .i64 k, .i .i64 _, .l .u8 ds]], [] => .must (k = 1 ∧ ds.length = 40 ∧ (B8 ds).all getB = true ∧ hdC m ds = expC f j) (.ret ⟨.tu [.ag (expC f j), .c (.h 0 0 32), .c .en], [some ⟨1, 5, .ints .u8 (T32 ds)⟩]⟩)
  | _, _ => .fail
set_option maxRecDepth 100000 in
theorem kHreadX (f : Int) (j : Nat) : Known Tryd.prog GL 31 (tHreadX f j) := by
  refine kHread.less fun args regs R h => Box.out ?_
  unfold tHreadX at h
  split at h
  case h_2 => exact h.elim
  rename_i m r k c ds
  have h1 := h.1
  have h2 : R ⟨.tu [.ag (expC f j), .c (.h 0 0 32), .c .en], [some ⟨1, 5, .ints .u8 (T32 ds)⟩]⟩ := h.2
  clear h
  obtain ⟨rfl, hl, hg, he⟩ := h1
  refine ⟨?_⟩
  show sel (decide ((1 : Int) = 1)) (ds.length = 40 ∧ sel ((B8 ds).all getB) (R (oHd m ds)) (R (oHE 1))) (R (oHE 2))
  refine selT (dT rfl) ⟨hl, selT hg ?_⟩
  unfold oHd
  rw [he]
  exact h2
/-- A place that is this one. -/
noncomputable def tSamePT : Con := fun args regs => match args, regs with
  | [.ag [.i .i64 a, .i .i64 b, .i .i64 c], .ag [.i .i64 x, .i .i64 y, .i .i64 z]], [] => .must (a = x ∧ b = y ∧ c = z) (.ret (oB true))
  | _, _ => .fail
theorem samep_tree (a b c x y z : Int) (R : Out → Prop) : (t_samep [.ag [.i .i64 a, .i .i64 b, .i .i64 c], .ag [.i .i64 x, .i .i64 y, .i .i64 z]] []).run R = sel (a == x) (sel (b == y) (R (oB (c == z))) (R (oB false))) (R (oB false)) := by kernel_rfl
set_option maxRecDepth 100000 in
theorem kSamePT : Known Tryd.prog GL 27 tSamePT := by
  refine k_samep.less fun args regs R h => Box.out ?_
  unfold tSamePT at h
  split at h
  case h_2 => exact h.elim
  rename_i a b c x y z
  have h1 := h.1
  have h2 : R (oB true) := h.2
  clear h
  obtain ⟨rfl, rfl, rfl⟩ := h1
  refine Box.of_eq (samep_tree a b c a b c R) (selT (beq_self_eq_true _) (selT (beq_self_eq_true _) ?_))
  rw [beq_self_eq_true]
  exact h2
noncomputable def c_flags (j : Nat) (fl : Int) : FuncId → Option Con := conOf [(26, tNumK 11 (j : Int)), (29, t_first8), (30, tHbytes), (15, tRead), (31, tHreadX fl j), (27, tSamePT), (19, t_is), (33, t_right)]
theorem kc_flags (j : Nat) (fl : Int) : ∀ f T, (c_flags j fl) f = some T → Known Tryd.prog GL f T := (Knowns.cons (known_gl (kNumK 11 (j : Int))) (.cons k_first8 (.cons kHbytes (.cons kRead (.cons (kHreadX fl j) (.cons kSamePT (.cons k_is (.cons k_right .nil)))))))).get
noncomputable def X_flags (j : Nat) (fl : Int) : Cx := { P := Tryd.prog, con := (c_flags j fl), glob := GL, m := 0, loops := [] }
noncomputable def t_flags (j : Nat) (fl : Int) : Con := fun args regs => if regs.length = 0 then nfun Tryd.prog GL (c_flags j fl) [(0, [0, 1, 5, 7, 8, 9], unroll (X_flags j fl) 0 [0, 1, 5, 7, 8, 9] [1, 5, 7, 8] (bodyLoop Tryd.f7 0) 12), (2, [1, 5, 7, 8, 10, 11, 13, 15, 16], sumP pCmp rCmp lCmp1)] Tryd.f7 args regs else .fail
theorem k_flags (j : Nat) (fl : Int) : Known Tryd.prog GL 7 (t_flags j fl) := known_loops 0 Tryd.func7 rfl (by kernel_rfl) mixed (kc_flags j fl) (LAll.two (i1 := 0) (i2 := 2) (b1 := bodyLoop Tryd.f7 0) (b2 := bodyLoop Tryd.f7 2) (by kernel_rfl) rfl (by decide) (unroll_ok (X := (X_flags j fl)) (kc_flags j fl) mixed (LAll.none (by kernel_rfl)) [0, 1, 5, 7, 8, 9] [1, 5, 7, 8] 12) loop_cmp1)
end Go.Proofs.YthjdlanmfiofdaaDoor.hd
