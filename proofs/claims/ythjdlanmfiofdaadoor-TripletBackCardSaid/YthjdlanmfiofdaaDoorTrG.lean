/-
  Triplets read: by code, by what it does.
-/
import Derived.Test.YthjdlanmfiofdaaDoorTrX
namespace Go.Proofs.YthjdlanmfiofdaaDoor.tr
open Go Go.Nx Go.Proofs.YthjdlanmfiofdaaDoor.pk Go.Proofs.YthjdlanmfiofdaaDoor.ln Go.Proofs.YthjdlanmfiofdaaDoor.hd

noncomputable def c_tread : FuncId → Option Con := conOf [(79, t_thas), (81, tNumbers), (35, t_tof)]
theorem kc_tread : ∀ f T, c_tread f = some T → Known Tryd.prog GL f T := (Knowns.cons k_thas (.cons kNumbers (.cons k_tof .nil))).get
noncomputable def X_tread : Cx := { P := Tryd.prog, con := c_tread, glob := GL, m := 0, loops := [] }
noncomputable def t_tread : Con := fun args regs => if regs.length = 0 then nfun Tryd.prog GL c_tread [(0, [6, 7, 20, 21, 22], unroll X_tread 0 [6, 7, 20, 21, 22] [6, 7] (bodyLoop Tryd.f38 0) 14)] Tryd.f38 args regs else .fail
theorem k_tread : Known Tryd.prog GL 38 t_tread := known_loops 0 Tryd.func38 rfl (by kernel_rfl) mixed kc_tread (LAll.one (id := 0) (body := bodyLoop Tryd.f38 0) (by kernel_rfl) rfl (unroll_ok (X := X_tread) kc_tread mixed (LAll.none (by kernel_rfl)) [6, 7, 20, 21, 22] [6, 7] 14))
noncomputable def t_sameT : Con := fun args regs => nfun Tryd.prog GL (fun _ => Option.none) [] Tryd.f39 args regs
theorem k_sameT : Known Tryd.prog GL 39 t_sameT := known_inl Tryd.func39 rfl (by kernel_rfl) mixed con_none (by kernel_rfl)
noncomputable def rowX (X : Int) : List Sc := [Sc.i (aI X 63), Sc.i (aI (shrv .i64 X 6) 31), Sc.i (aI (shrv .i64 X 11) 127)]
noncomputable def XT (ds : List Int) : List (List Sc) := [rowX (nK ds 0), rowX (nK ds 1), rowX (nK ds 2), rowX (nK ds 3), rowX (nK ds 4), rowX (nK ds 5), rowX (nK ds 6), rowX (nK ds 7), rowX (nK ds 8), rowX (nK ds 9), rowX (nK ds 10), rowX (nK ds 11), rowX (nK ds 12)]
noncomputable def GT (ds : List Int) : List (List Sc) := [[Sc.b (gK ds 0)], [Sc.b (gK ds 1)], [Sc.b (gK ds 2)], [Sc.b (gK ds 3)], [Sc.b (gK ds 4)], [Sc.b (gK ds 5)], [Sc.b (gK ds 6)], [Sc.b (gK ds 7)], [Sc.b (gK ds 8)], [Sc.b (gK ds 9)], [Sc.b (gK ds 10)], [Sc.b (gK ds 11)], [Sc.b (gK ds 12)]]
noncomputable def oTr (ds : List Int) : Out := ⟨.tu [.c (.h 0 0 13), .c (.h 1 0 13), .c .en], [some ⟨3, 66, .recs [.i .i64, .i .i64, .i .i64] (XT ds)⟩, some ⟨1, 4, .recs [.b] (GT ds)⟩]⟩
theorem tread_tree (m w c : Int) (ds : List Int) (R : Out → Prop) : (t_tread [.ag [.i .i64 m, .i .i64 w, .i .i64 3, .i .i64 c, .l .u8 ds]] []).run R = (mustNum ds ∧ R (oTr ds)) := by kernel_rfl
/-- Triplets of an overlay. -/
noncomputable def tTread : Con := fun args regs => match args, regs with
  | [.ag [.i .i64 _, .i .i64 _, .i .i64 k, .i .i64 _, .l .u8 ds]], [] => .must (k = 3 ∧ 39 ≤ ds.length ∧ ds.length < 1000 ∧ ∀ x ∈ ds, 0 ≤ x ∧ x < 256) (.ret (oTr ds))
  | _, _ => .fail
set_option maxRecDepth 100000 in
theorem kTread : Known Tryd.prog GL 38 tTread := by
  refine k_tread.less fun args regs R h => Box.out ?_
  unfold tTread at h
  split at h
  case h_2 => exact h.elim
  rename_i m w k c ds
  have h1 := h.1
  have h2 : R (oTr ds) := h.2
  clear h
  obtain ⟨rfl, hm⟩ := h1
  exact Box.of_eq (tread_tree m w c ds R) ⟨hm, h2⟩
/-- A triplet that is this one. -/
noncomputable def tSameTT : Con := fun args regs => match args, regs with
  | [.ag [.i .i64 a, .i .i64 b, .i .i64 c], .ag [.i .i64 x, .i .i64 y, .i .i64 z]], [] => .must (a = x ∧ b = y ∧ c = z) (.ret (oB true))
  | _, _ => .fail
theorem sameT_tree (a b c x y z : Int) (R : Out → Prop) : (t_sameT [.ag [.i .i64 a, .i .i64 b, .i .i64 c], .ag [.i .i64 x, .i .i64 y, .i .i64 z]] []).run R = sel (a == x) (sel (b == y) (R (oB (c == z))) (R (oB false))) (R (oB false)) := by kernel_rfl
set_option maxRecDepth 100000 in
theorem kSameTT : Known Tryd.prog GL 39 tSameTT := by
  refine k_sameT.less fun args regs R h => Box.out ?_
  unfold tSameTT at h
  split at h
  case h_2 => exact h.elim
  rename_i a b c x y z
  have h1 := h.1
  have h2 : R (oB true) := h.2
  clear h
  obtain ⟨rfl, rfl, rfl⟩ := h1
  refine Box.of_eq (sameT_tree a b c a b c R) (selT (beq_self_eq_true _) (selT (beq_self_eq_true _) ?_))
  rw [beq_self_eq_true]
  exact h2
/-! ### the loops of TripletBack -/
noncomputable abbrev fTBack := Tryd.f9
noncomputable def rT (W : List (List Sc)) : Option Reg := some ⟨3, 66, .recs [.i .i64, .i .i64, .i .i64] W⟩
noncomputable def rG (B : List (List Sc)) : Option Reg := some ⟨1, 4, .recs [.b] B⟩
noncomputable def c_b2 : FuncId → Option Con := conOf [(26, num.tNumV)]
theorem kc_b2 : ∀ f T, c_b2 f = some T → Known Tryd.prog GL f T := (Knowns.cons (known_gl num.kNumV) .nil).get
noncomputable def X_b2 : Cx := { P := Tryd.prog, con := c_b2, glob := GL, m := 0, loops := [] }
noncomputable def sB2 (W : List (List Sc)) (code : Int) (bs : List Int) (at1 : Int) (ok : Bool) (A : List Int) (qw qa : Nat) (i : Int) : St := { fr := frame 190 [(1, .v (.c (.i .i64 code))), (3, .v (.c (.l .i64 bs))), (4, .v (.c (.i .i64 at1))), (11, .v (.c (.b ok))), (12, .v (.c (.h 0 0 qw))), (14, .v (.c (.h 1 0 qa))), (16, .v (.c (.i .i64 i)))], rg := [rT W, some ⟨1, 5, .ints .u8 A⟩] }
noncomputable def dB2 (W : List (List Sc)) (code : Int) (at1 : Int) (ok : Bool) (A : List Int) (qw qa : Nat) : St := { fr := frame 190 [(1, .v (.c (.i .i64 code))), (4, .v (.c (.i .i64 at1))), (11, .v (.c (.b ok))), (12, .v (.c (.h 0 0 qw))), (14, .v (.c (.h 1 0 qa)))], rg := [rT W, some ⟨1, 5, .ints .u8 A⟩] }
noncomputable def c_b4 : FuncId → Option Con := conOf [(39, tSameTT)]
theorem kc_b4 : ∀ f T, c_b4 f = some T → Known Tryd.prog GL f T := (Knowns.cons kSameTT .nil).get
noncomputable def X_b4 : Cx := { P := Tryd.prog, con := c_b4, glob := GL, m := 0, loops := [] }
noncomputable def sB4 (W X B : List (List Sc)) (a : Int) (ok : Bool) (i : Int) : St := { fr := frame 190 [(4, .v (.c (.i .i64 a))), (11, .v (.c (.b ok))), (12, .v (.c (.h 0 0 13))), (20, .v (.c (.h 1 0 13))), (21, .v (.c (.h 2 0 13))), (23, .v (.c (.i .i64 i)))], rg := [rT W, rT X, rG B] }
noncomputable def dB4 (ok : Bool) : St := { fr := frame 190 [(11, .v (.c (.b ok)))], rg := [] }
end Go.Proofs.YthjdlanmfiofdaaDoor.tr
