/-
  Links: read from their packet, as bytes: by what they do.
-/
import Derived.Test.YthjdlanmfiofdaaDoorHdD
import Derived.Test.YthjdlanmfiofdaaDoorMapF
namespace Go.Proofs.YthjdlanmfiofdaaDoor.lb
open Go Go.Nx Go.Proofs.YthjdlanmfiofdaaDoor.pk Go.Proofs.YthjdlanmfiofdaaDoor.ln Go.Proofs.YthjdlanmfiofdaaDoor.hd

noncomputable def t_lmag : Con := fun args regs => nfun Tryd.prog GL (fun _ => Option.none) [] Tryd.f64 args regs
theorem k_lmag : Known Tryd.prog GL 64 t_lmag := known_inl Tryd.func64 rfl (by kernel_rfl) mixed con_none (by kernel_rfl)
theorem lmag_tree (n : Int) (R : Out → Prop) : (t_lmag [.c (.i .i64 n)] []).run R = sel (n.tmod 8 != 0) (R ⟨.v (.c (.i .i64 (n.tmod 8))), []⟩) (R ⟨.v (.c (.i .i64 8)), []⟩) := by kernel_rfl
noncomputable def tLMag : Con := fun args regs => match args, regs with
  | [.c (.i .i64 n)], [] => .ret ⟨.v (.c (.i .i64 (magOf n))), []⟩
  | _, _ => .fail
set_option maxRecDepth 100000 in
theorem kLMag : Known Tryd.prog GL 64 tLMag := by
  refine k_lmag.less fun args regs R h => Box.out ?_
  unfold tLMag at h
  split at h
  case h_2 => exact h.elim
  rename_i n
  have h2 : R ⟨.v (.c (.i .i64 (magOf n))), []⟩ := h
  clear h
  refine Box.of_eq (lmag_tree n R) ?_
  unfold magOf at h2
  cases hm : (n.tmod 8 == 0) with
  | true => rw [hm] at h2; exact selF (by simp [bne, hm]) h2
  | false => rw [hm] at h2; exact selT (by simp [bne, hm]) h2
noncomputable def c_lread : FuncId → Option Con := conOf [(62, t_part), (58, tOpn), (63, t_of), (64, tLMag)]
theorem kc_lread : ∀ f T, c_lread f = some T → Known Tryd.prog GL f T := (Knowns.cons k_part (.cons kOpn (.cons k_of (.cons kLMag .nil)))).get
noncomputable def X_lread : Cx := { P := Tryd.prog, con := c_lread, glob := GL, m := 0, loops := [] }
noncomputable def t_lread : Con := fun args regs => if regs.length = 0 then nfun Tryd.prog GL c_lread [(0, [1, 2, 4, 21], unroll X_lread 0 [1, 2, 4, 21] [2, 4] (bodyLoop Tryd.f16 0) 7)] Tryd.f16 args regs else .fail
theorem k_lread : Known Tryd.prog GL 16 t_lread := known_loops 0 Tryd.func16 rfl (by kernel_rfl) mixed kc_lread (LAll.one (id := 0) (body := bodyLoop Tryd.f16 0) (by kernel_rfl) rfl (unroll_ok (X := X_lread) kc_lread mixed (LAll.none (by kernel_rfl)) [1, 2, 4, 21] [2, 4] 7))
noncomputable def c_lbytesV : FuncId → Option Con := conOf [(68, t_mag), (69, t_row7), (70, tFairB), (71, t_nib), (72, t_concat3), (28, tBytes)]
theorem kc_lbytesV : ∀ f T, c_lbytesV f = some T → Known Tryd.prog GL f T := (Knowns.cons kg_mag (.cons k_row7 (.cons kFairB (.cons k_nib (.cons k_concat3 (.cons kBytes .nil)))))).get
noncomputable def X_lbytesV : Cx := { P := Tryd.prog, con := c_lbytesV, glob := GL, m := 0, loops := [] }
noncomputable def t_lbytesV : Con := fun args regs => if regs.length = 0 then nfun Tryd.prog GL c_lbytesV [(0, [0, 3, 10, 37, 38], unroll X_lbytesV 0 [0, 3, 10, 37, 38] [0, 3, 8, 9, 10] (bodyLoop Tryd.f21 0) 7)] Tryd.f21 args regs else .fail
theorem k_lbytesV : Known Tryd.prog GL 21 t_lbytesV := known_loops 0 Tryd.func21 rfl (by kernel_rfl) mixed kc_lbytesV (LAll.one (id := 0) (body := bodyLoop Tryd.f21 0) (by kernel_rfl) rfl (unroll_ok (X := X_lbytesV) kc_lbytesV mixed (LAll.none (by kernel_rfl)) [0, 3, 10, 37, 38] [0, 3, 8, 9, 10] 7))

/-! ### reading -/
noncomputable def ALLg (ds : List Int) (k : Nat) : Bool := [ds.getD (6 * k) 0, ds.getD (6 * k + 1) 0, ds.getD (6 * k + 2) 0, ds.getD (6 * k + 3) 0, ds.getD (6 * k + 4) 0, ds.getD (6 * k + 5) 0].all getB
noncomputable def lkM (m : Int) (ds : List Int) (k : Nat) : Int := magOf (bits .xor .i64 (aI m 7) (oI (shrv .i64 (G ds (6 * k + 3)) 3) (shlv .i64 (shrv .i64 (G ds (6 * k + 5)) 2) 1)))
noncomputable def lkP (ds : List Int) (k : Nat) : Int := pageOf (G ds (6 * k)) (G ds (6 * k + 1))
noncomputable def lkS (ds : List Int) (k : Nat) : Int := subOf (G ds (6 * k + 2)) (G ds (6 * k + 3)) (G ds (6 * k + 4)) (G ds (6 * k + 5))
noncomputable def lkC (m : Int) (ds : List Int) (r : Nat → Bool) : List NC := [.i .i64 (bif r 0 then lkM m ds 0 else 0), .i .i64 (bif r 0 then lkP ds 0 else 0), .i .i64 (bif r 0 then lkS ds 0 else 0), .i .i64 (bif r 1 then lkM m ds 1 else 0), .i .i64 (bif r 1 then lkP ds 1 else 0), .i .i64 (bif r 1 then lkS ds 1 else 0), .i .i64 (bif r 2 then lkM m ds 2 else 0), .i .i64 (bif r 2 then lkP ds 2 else 0), .i .i64 (bif r 2 then lkS ds 2 else 0), .i .i64 (bif r 3 then lkM m ds 3 else 0), .i .i64 (bif r 3 then lkP ds 3 else 0), .i .i64 (bif r 3 then lkS ds 3 else 0), .i .i64 (bif r 4 then lkM m ds 4 else 0), .i .i64 (bif r 4 then lkP ds 4 else 0), .i .i64 (bif r 4 then lkS ds 4 else 0), .i .i64 (bif r 5 then lkM m ds 5 else 0), .i .i64 (bif r 5 then lkP ds 5 else 0), .i .i64 (bif r 5 then lkS ds 5 else 0)]
noncomputable def oLk (m : Int) (ds : List Int) (r : Nat → Bool) : Out := ⟨.tu [.ag (lkC m ds r), .c .en], []⟩
def oLE : Out := ⟨.tu [.ag [.i .i64 0, .i .i64 0, .i .i64 0, .i .i64 0, .i .i64 0, .i .i64 0, .i .i64 0, .i .i64 0, .i .i64 0, .i .i64 0, .i .i64 0, .i .i64 0, .i .i64 0, .i .i64 0, .i .i64 0, .i .i64 0, .i .i64 0, .i .i64 0], .c (.e 2)], []⟩
noncomputable def lkE (ds : List Int) (F : List Bool → Prop) : List Nat → Prop
  | [] => F []
  | k :: ks => mustP ds (6 * k) 6 ∧ sel (ALLg ds k) (lkE ds (fun r => F (true :: r)) ks) (lkE ds (fun r => F (false :: r)) ks)
theorem lkE_in (ds : List Int) : ∀ (ks : List Nat) (F : List Bool → Prop), (∀ k ∈ ks, mustP ds (6 * k) 6) → F (ks.map (ALLg ds)) → lkE ds F ks
  | [], _, _, h => h
  | k :: ks, F, hm, h => by
    refine ⟨hm k (by simp), ?_⟩
    have h : F (ALLg ds k :: ks.map (ALLg ds)) := h
    cases hk : ALLg ds k with
    | true => rw [hk] at h; exact selT rfl (lkE_in ds ks _ (fun j hj => hm j (by simp [hj])) h)
    | false => rw [hk] at h; exact selF rfl (lkE_in ds ks _ (fun j hj => hm j (by simp [hj])) h)
def asF (r : List Bool) (k : Nat) : Bool := r.getD k false
theorem lread_tree (m w k c : Int) (ds : List Int) (R : Out → Prop) : (t_lread [.ag [.i .i64 m, .i .i64 w, .i .i64 k, .i .i64 c, .l .u8 ds]] []).run R =
    sel (k != 4) (R oLE) (sel (c != 0) (R oLE) (lkE ds (fun r => R (oLk m ds (asF r))) [0, 1, 2, 3, 4, 5])) := by kernel_rfl
end Go.Proofs.YthjdlanmfiofdaaDoor.lb
