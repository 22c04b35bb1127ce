/-
  A header read from its packet: by the code.
-/
import Derived.Test.YthjdlanmfiofdaaDoorHdC
import Derived.Test.YthjdlanmfiofdaaDoorHdN
namespace Go.Proofs.YthjdlanmfiofdaaDoor.hd
open Go Go.Nx Go.Proofs.YthjdlanmfiofdaaDoor.pk Go.Proofs.YthjdlanmfiofdaaDoor.ln

noncomputable def c_option : FuncId → Option Con := conOf [(77, tBitf)]
theorem kc_option : ∀ f T, c_option f = some T → Known Tryd.prog GL f T := (Knowns.cons kBitf .nil).get
noncomputable def t_option : Con := fun args regs => nfun Tryd.prog GL c_option [] Tryd.f78 args regs
theorem k_option : Known Tryd.prog GL 78 t_option := known_inl Tryd.func78 rfl (by kernel_rfl) mixed kc_option (by kernel_rfl)
noncomputable def c_hread : FuncId → Option Con := conOf [(62, t_part), (58, tOpn), (63, t_of), (78, t_option)]
theorem kc_hread : ∀ f T, c_hread f = some T → Known Tryd.prog GL f T := (Knowns.cons k_part (.cons kOpn (.cons k_of (.cons k_option .nil)))).get
noncomputable def X_hread : Cx := { P := Tryd.prog, con := c_hread, glob := GL, m := 0, loops := [] }
noncomputable def t_hread : Con := fun args regs => if regs.length = 0 then nfun Tryd.prog GL c_hread [(0, [1, 2, 7, 10, 52], unroll X_hread 0 [1, 2, 7, 10, 52] [1, 2, 7] (bodyLoop Tryd.f31 0) 12)] Tryd.f31 args regs else .fail
theorem k_hread : Known Tryd.prog GL 31 t_hread := known_loops 0 Tryd.func31 rfl (by kernel_rfl) mixed kc_hread (LAll.one (id := 0) (body := bodyLoop Tryd.f31 0) (by kernel_rfl) rfl (unroll_ok (X := X_hread) kc_hread mixed (LAll.none (by kernel_rfl)) [1, 2, 7, 10, 52] [1, 2, 7] 12))
noncomputable def c_concat8 : FuncId → Option Con := conOf [(101, t_grow)]
theorem kc_concat8 : ∀ f T, c_concat8 f = some T → Known Tryd.prog GL f T := (Knowns.cons (known_gl k_grow) .nil).get
noncomputable def X_concat8 : Cx := { P := Tryd.prog, con := c_concat8, glob := GL, m := 2, loops := [] }
noncomputable def t_concat8 : Con := fun args regs => if regs.length = 2 then nfun Tryd.prog GL c_concat8 [(0, [0, 3, 9, 10, 11], unroll X_concat8 0 [0, 3, 9, 10, 11] [0, 3] (bodyLoop Tryd.f72 0) 4), (2, [6, 25, 26, 27], unroll X_concat8 2 [6, 25, 26, 27] [6] (bodyLoop Tryd.f72 2) 4)] Tryd.f72 args regs else .fail
theorem k_concat8 : Known Tryd.prog GL 72 t_concat8 := known_loops 2 Tryd.func72 rfl (by kernel_rfl) mixed kc_concat8 (LAll.two (i1 := 0) (i2 := 2) (b1 := bodyLoop Tryd.f72 0) (b2 := bodyLoop Tryd.f72 2) (by kernel_rfl) rfl (by decide) (unroll_ok (X := X_concat8) kc_concat8 mixed (LAll.none (by kernel_rfl)) [0, 3, 9, 10, 11] [0, 3] 4) (unroll_ok (X := X_concat8) kc_concat8 mixed (LAll.none (by kernel_rfl)) [6, 25, 26, 27] [6] 4))
noncomputable def t_samep : Con := fun args regs => nfun Tryd.prog GL (fun _ => Option.none) [] Tryd.f27 args regs
theorem k_samep : Known Tryd.prog GL 27 t_samep := known_inl Tryd.func27 rfl (by kernel_rfl) mixed con_none (by kernel_rfl)
noncomputable def c_number : FuncId → Option Con := conOf [(68, t_mag)]
theorem kc_number : ∀ f T, c_number f = some T → Known Tryd.prog GL f T := (Knowns.cons kg_mag .nil).get
noncomputable def t_number : Con := fun args regs => nfun Tryd.prog GL c_number [] Tryd.f76 args regs
theorem k_number : Known Tryd.prog GL 76 t_number := known_inl Tryd.func76 rfl (by kernel_rfl) mixed kc_number (by kernel_rfl)
noncomputable def c_first8 : FuncId → Option Con := conOf [(76, t_number)]
theorem kc_first8 : ∀ f T, c_first8 f = some T → Known Tryd.prog GL f T := (Knowns.cons k_number .nil).get
noncomputable def t_first8 : Con := fun args regs => nfun Tryd.prog GL c_first8 [] Tryd.f29 args regs
theorem k_first8 : Known Tryd.prog GL 29 t_first8 := known_inl Tryd.func29 rfl (by kernel_rfl) mixed kc_first8 (by kernel_rfl)
noncomputable def t_right : Con := fun args regs => nfun Tryd.prog GL (fun _ => Option.none) [] Tryd.f33 args regs
theorem k_right : Known Tryd.prog GL 33 t_right := known_inl Tryd.func33 rfl (by kernel_rfl) mixed con_none (by kernel_rfl)
noncomputable def c_samehead : FuncId → Option Con := conOf [(27, t_samep)]
theorem kc_samehead : ∀ f T, c_samehead f = some T → Known Tryd.prog GL f T := (Knowns.cons k_samep .nil).get
noncomputable def X_samehead : Cx := { P := Tryd.prog, con := c_samehead, glob := GL, m := 0, loops := [] }
noncomputable def t_samehead : Con := fun args regs => if regs.length = 0 then nfun Tryd.prog GL c_samehead [(0, [2, 3, 5], unroll X_samehead 0 [2, 3, 5] [2, 3, 4] (bodyLoop Tryd.f32 0) 12)] Tryd.f32 args regs else .fail
theorem k_samehead : Known Tryd.prog GL 32 t_samehead := known_loops 0 Tryd.func32 rfl (by kernel_rfl) mixed kc_samehead (LAll.one (id := 0) (body := bodyLoop Tryd.f32 0) (by kernel_rfl) rfl (unroll_ok (X := X_samehead) kc_samehead mixed (LAll.none (by kernel_rfl)) [2, 3, 5] [2, 3, 4] 12))

/-- Eight bytes, others behind them. -/
def oC8 (hs ds : List Int) : Out := ⟨.v (.c (.h 2 0 (8 + ds.length))), [some ⟨1, 22, .cells [.h 1 0 8, .l .u8 ds]⟩, some ⟨1, 5, .ints .u8 hs⟩, some ⟨1, 5, .ints .u8 (hs ++ ds)⟩]⟩
noncomputable def nC8 (ds : List Int) : Int := IntKind.i64.wrap (IntKind.i64.wrap (0 + ((8 : Nat) : Int)) + (ds.length : Int))
theorem concat8_tree (a b c d e f g h : Int) (ds : List Int) (R : Out → Prop) : (t_concat8 [.c (.h 0 0 2)] [⟨1, 22, .cells [.h 1 0 8, .l .u8 ds]⟩, ⟨1, 5, .ints .u8 [a, b, c, d, e, f, g, h]⟩]).run R =
    sel (decide (nC8 ds < 0)) False (sel (decide (nC8 ds < 0)) False (sel (decide (IntKind.i64.wrap (nC8 ds - IntKind.i64.wrap (0 - 0)) > 0))
      (sel (decide (0 < IntKind.i64.wrap (nC8 ds - IntKind.i64.wrap (0 - 0)))) (sel (decide ((IntKind.i64.wrap (nC8 ds - IntKind.i64.wrap (0 - 0))).toNat * bytesT Tryd.prog 5 ≤ 140737488355328)) (sel (decide (IntKind.i64.wrap (nC8 ds - IntKind.i64.wrap (0 - 0)) ≤ 9223372036854775807))
        (sel (decide ((8 + ds.length) * bytesT Tryd.prog 5 ≤ 140737488355328)) (sel (decide (8 + ds.length ≤ 9223372036854775807)) (R (oC8 [a, b, c, d, e, f, g, h] ds)) False) False) False) False) False)
      (sel (decide ((8 + ds.length) * bytesT Tryd.prog 5 ≤ 140737488355328)) (sel (decide (8 + ds.length ≤ 9223372036854775807)) (R (oC8 [a, b, c, d, e, f, g, h] ds)) False) False))) := by kernel_rfl
noncomputable def tConcat8 : Con := fun args regs => match args, regs with
  | [.c (.h 0 0 2)], [⟨1, 22, .cells [.h 1 0 8, .l .u8 ds]⟩, ⟨1, 5, .ints .u8 [a, b, c, d, e, f, g, h]⟩] => .must (ds.length ≤ 1000000) (.ret (oC8 [a, b, c, d, e, f, g, h] ds))
  | _, _ => .fail
set_option maxRecDepth 100000 in
theorem kConcat8 : Known Tryd.prog GL 72 tConcat8 := by
  refine k_concat8.less fun args regs R h => Box.out ?_
  unfold tConcat8 at h
  split at h
  case h_2 => exact h.elim
  rename_i ds a b c d e f g i
  have h1 := h.1
  have h2 : R (oC8 [a, b, c, d, e, f, g, i] ds) := h.2
  clear h
  have n0 : nC8 ds = 8 + ds.length := by
    unfold nC8
    have w1 : IntKind.i64.wrap (0 + ((8 : Nat) : Int)) = 8 := by decide
    rw [w1, IntKind.wrap_i64]
    omega
  have n1 : IntKind.i64.wrap (nC8 ds - IntKind.i64.wrap (0 - 0)) = 8 + ds.length := by
    have w1 : IntKind.i64.wrap (0 - 0) = 0 := by decide
    rw [n0, w1, IntKind.wrap_i64]
    omega
  refine Box.of_eq (concat8_tree a b c d e f g i ds R) ?_
  rw [n1, n0, bytes1]
  exact selF (dF (by omega)) (selF (dF (by omega)) (selT (dT (by omega)) (selT (dT (by omega)) (selT (dT (by omega)) (selT (dT (by omega)) (selT (dT (by omega)) (selT (dT (by omega)) h2)))))))
noncomputable def c_hbytes : FuncId → Option Con := conOf [(70, tFairB), (77, tBitf), (71, t_nib), (69, t_row7), (72, tConcat8), (28, tBytes)]
theorem kc_hbytes : ∀ f T, c_hbytes f = some T → Known Tryd.prog GL f T := (Knowns.cons kFairB (.cons kBitf (.cons k_nib (.cons k_row7 (.cons kConcat8 (.cons kBytes .nil)))))).get
noncomputable def X_hbytes : Cx := { P := Tryd.prog, con := c_hbytes, glob := GL, m := 0, loops := [] }
noncomputable def t_hbytes : Con := fun args regs => if regs.length = 0 then nfun Tryd.prog GL c_hbytes [(1, [1, 2, 6, 22, 23], unroll X_hbytes 1 [1, 2, 6, 22, 23] [1, 2, 6] (bodyLoop Tryd.f30 1) 12)] Tryd.f30 args regs else .fail
theorem k_hbytes : Known Tryd.prog GL 30 t_hbytes := known_loops 0 Tryd.func30 rfl (by kernel_rfl) mixed kc_hbytes (LAll.one (id := 1) (body := bodyLoop Tryd.f30 1) (by kernel_rfl) rfl (unroll_ok (X := X_hbytes) kc_hbytes mixed (LAll.none (by kernel_rfl)) [1, 2, 6, 22, 23] [1, 2, 6] 12))

/-- A place that is this one. -/
noncomputable def tSamePT : Con := fun args regs => match args, regs with
  | [.ag [.i .i64 a, .i .i64 b, .i .i64 c], .ag [.i .i64 x, .i .i64 y, .i .i64 z]], [] => .must (a = x ∧ b = y ∧ c = z) (.ret (oB true))
  | _, _ => .fail
theorem samep_tree (a b c x y z : Int) (R : Out → Prop) : (t_samep [.ag [.i .i64 a, .i .i64 b, .i .i64 c], .ag [.i .i64 x, .i .i64 y, .i .i64 z]] []).run R = sel (a == x) (sel (b == y) (R (oB (c == z))) (R (oB false))) (R (oB false)) := by kernel_rfl
set_option maxRecDepth 100000 in
theorem kSamePT : Known Tryd.prog GL 27 tSamePT := by
  refine k_samep.less fun args regs R h => Box.out ?_
  unfold tSamePT at h
  split at h
  case h_2 => exact h.elim
  rename_i a b c x y z
  have h1 := h.1
  have h2 : R (oB true) := h.2
  clear h
  obtain ⟨rfl, rfl, rfl⟩ := h1
  refine Box.of_eq (samep_tree a b c a b c R) (selT (beq_self_eq_true _) (selT (beq_self_eq_true _) ?_))
  rw [beq_self_eq_true]
  exact h2

/-! ### what they come to -/
/-- The flags as a number. -/
noncomputable def flN (c0 c1 c2 c3 c4 c5 c6 c7 c8 c9 c10 : Bool) : Int := oI (oI (oI (oI (oI (oI (oI (oI (oI (oI (oI 0 (shlv .i64 (bI c0) 0)) (shlv .i64 (bI c1) 1)) (shlv .i64 (bI c2) 2)) (shlv .i64 (bI c3) 3)) (shlv .i64 (bI c4) 4)) (shlv .i64 (bI c5) 5)) (shlv .i64 (bI c6) 6)) (shlv .i64 (bI c7) 7)) (shlv .i64 (bI c8) 8)) (shlv .i64 (bI c9) 9)) (shlv .i64 (bI c10) 10)
noncomputable def G (ds : List Int) (j : Nat) : Int := getN (ds.getD j 0)
def B8 (ds : List Int) : List Int := [ds.getD 0 0, ds.getD 1 0, ds.getD 2 0, ds.getD 3 0, ds.getD 4 0, ds.getD 5 0, ds.getD 6 0, ds.getD 7 0]
def T32 (ds : List Int) : List Int := fillP ds 8 0 0 (List.replicate 32 0)
/-- The flags of four numbers. -/
noncomputable def flOf (one two x y : Int) : Int := oI (oI (oI one (shlv .i64 two 1)) (shlv .i64 x 3)) (shlv .i64 y 7)
noncomputable def ckOf (f : Int) (k : Int) : Bool := aI (shrv .i64 f k) 1 == 1
noncomputable def FL (ds : List Int) : Int := flOf (shrv .i64 (G ds 3) 3) (shrv .i64 (G ds 5) 2) (G ds 6) (G ds 7)
def optN (a b c : Bool) : Int := IntKind.i64.wrap (IntKind.i64.wrap (IntKind.i64.wrap (4 * bI a) + IntKind.i64.wrap (2 * bI b)) + bI c)
noncomputable def hdC (m : Int) (ds : List Int) : List NC := [.i .i64 m, .i .i64 (pageOf (G ds 0) (G ds 1)), .i .i64 (subOf (G ds 2) (G ds 3) (G ds 4) (G ds 5)), .b (ckOf (FL ds) 0), .b (ckOf (FL ds) 1), .b (ckOf (FL ds) 2), .b (ckOf (FL ds) 3), .b (ckOf (FL ds) 4), .b (ckOf (FL ds) 5), .b (ckOf (FL ds) 6), .b (ckOf (FL ds) 7), .b (ckOf (FL ds) 8), .b (ckOf (FL ds) 9), .b (ckOf (FL ds) 10), .i .i64 (optN (ckOf (FL ds) 8) (ckOf (FL ds) 9) (ckOf (FL ds) 10))]
noncomputable def oHd (m : Int) (ds : List Int) : Out := ⟨.tu [.ag (hdC m ds), .c (.h 0 0 32), .c .en], [some ⟨1, 5, .ints .u8 (T32 ds)⟩]⟩
def oHE (k : Nat) : Out := ⟨.tu [.ag [.i .i64 0, .i .i64 0, .i .i64 0, .b false, .b false, .b false, .b false, .b false, .b false, .b false, .b false, .b false, .b false, .b false, .i .i64 0], .c .sn, .c (.e k)], []⟩
def mustP (ds : List Int) (f n : Nat) : Prop := ((n : Int) = (n : Int) ∧ n = (List.replicate n (0 : Int)).length ∧ 0 ≤ (0 : Int) ∧ (0 : Int) ≤ (n : Int) ∧ 0 ≤ (f : Int) ∧ (f : Int) + (n : Int) ≤ (ds.length : Int) ∧ (f : Int) + (n : Int) < 1000000)
theorem hread_tree (m r k c : Int) (ds : List Int) (R : Out → Prop) : (t_hread [.ag [.i .i64 m, .i .i64 r, .i .i64 k, .i .i64 c, .l .u8 ds]] []).run R =
    sel (k != 1) (R (oHE 2)) (mustP ds 0 8 ∧ sel ((B8 ds).all getB) (mustP ds 8 32 ∧ R (oHd m ds)) (R (oHE 1))) := by kernel_rfl
end Go.Proofs.YthjdlanmfiofdaaDoor.hd
