/-
  Packets: the law PacketSays: its contracts.
-/
import Derived.Test.YtjjkbnipokpmcaaDoorPkT
namespace Go.Proofs.YtjjkbnipokpmcaaDoor.pk
open Go Go.Nx

noncomputable def c_packed : FuncId → Option Con := conOf [(18, tRPut)]
theorem kc_packed : ∀ f T, c_packed f = some T → Known Tryd.prog [] f T := (Knowns.cons kRPut Knowns.nil).get
noncomputable def t_packed : Con := fun args regs => nfun Tryd.prog [] c_packed [] Tryd.f16 args regs
theorem k_packed : Known Tryd.prog [] 16 t_packed := known_inl Tryd.func16 rfl (by kernel_rfl) mixed kc_packed (by kernel_rfl)
noncomputable def c_psame : FuncId → Option Con := conOf [(15, tSame)]
theorem kc_psame : ∀ f T, c_psame f = some T → Known Tryd.prog [] f T := (Knowns.cons kSame Knowns.nil).get
noncomputable def t_psame : Con := fun args regs => nfun Tryd.prog [] c_psame [] Tryd.f11 args regs
theorem k_psame : Known Tryd.prog [] 11 t_psame := known_inl Tryd.func11 rfl (by kernel_rfl) mixed kc_psame (by kernel_rfl)
/-- The class of a packet's bytes: out of range; of a wrong length; bytes. -/
noncomputable def cb (mag row : Int) (ds : List Int) : Nat := if okMR mag row = false then 0 else if ds.length ≠ 40 then 1 else 2
noncomputable def resB (mag row : Int) (ds : List Int) : Nat → Out
  | 0 => oEr 3
  | 1 => oEr 0
  | _ => oBy mag row ds
noncomputable def tBytesJ (c : Nat) : Con := fun args regs => match args, regs with
  | [.c (.i .i64 mag), .c (.i .i64 row), .c (.l .u8 ds)], [] => .must (cb mag row ds = c) (.ret (resB mag row ds c))
  | _, _ => .fail
theorem bytesJ_in {mag row : Int} {ds : List Int} {R : Out → Prop} (h : R (resB mag row ds (cb mag row ds))) : (tBytes [.c (.i .i64 mag), .c (.i .i64 row), .c (.l .u8 ds)] []).run R := by
  unfold cb at h
  cases hk : okMR mag row with
  | false => rw [if_pos hk] at h; exact selF hk h
  | true =>
    rw [if_neg (by rw [hk]; decide)] at h
    refine selT hk ?_
    by_cases h2 : ds.length = 40
    · rw [if_neg (by omega)] at h; exact selT (dT h2) h
    · rw [if_pos h2] at h; exact selF (dF h2) h
set_option maxRecDepth 100000 in
theorem kBytesJ (c : Nat) : Known Tryd.prog GL 10 (tBytesJ c) := by
  refine kBytes.less fun args regs R h => ?_
  unfold tBytesJ at h
  split at h
  case h_2 => exact h.elim
  refine bytesJ_in ?_
  rw [h.1]
  exact h.2
noncomputable def c_says (j c : Nat) : FuncId → Option Con := conOf [(8, tReadJ j), (9, tRReadJ j), (10, tBytesJ c), (11, t_psame), (12, t_is), (13, tKind), (14, tKind), (15, tSame), (16, t_packed), (7, tYes)]
theorem kc_says (j c : Nat) : ∀ f T, c_says j c f = some T → Known Tryd.prog GL f T := (Knowns.cons (kReadJ j) (.cons (known_gl (kRReadJ j)) (.cons (kBytesJ c) (.cons (known_gl k_psame) (.cons k_is (.cons kg_kind (.cons (known_gl kRKind) (.cons kg_same (.cons (known_gl k_packed) (.cons kYes .nil)))))))))).get
noncomputable def t_says (j c : Nat) : Con := fun args regs => nfun Tryd.prog GL (c_says j c) [] Tryd.f3 args regs
theorem k_says (j c : Nat) : Known Tryd.prog GL 3 (t_says j c) := known_inl Tryd.func3 rfl (by kernel_rfl) mixed (kc_says j c) (by kernel_rfl)
end Go.Proofs.YtjjkbnipokpmcaaDoor.pk
