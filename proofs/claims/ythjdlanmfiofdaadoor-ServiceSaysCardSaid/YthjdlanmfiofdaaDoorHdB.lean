/-
  A packet's parts by what they do: a byte, a bit, six and eight numbers.
-/
import Derived.Test.YthjdlanmfiofdaaDoorHdA
namespace Go.Proofs.YthjdlanmfiofdaaDoor.hd
open Go Go.Nx Go.Proofs.YthjdlanmfiofdaaDoor.pk Go.Proofs.YthjdlanmfiofdaaDoor.ln

theorem at_tree (m r k c i : Int) (ds : List Int) (R : Out → Prop) : (t_at [.ag [.i .i64 m, .i .i64 r, .i .i64 k, .i .i64 c, .l .u8 ds], .c (.i .i64 i)] []).run R =
    sel (decide (i < 0)) (R ⟨.v (.c (.i .u8 0)), []⟩) (sel (decide (i ≥ (ds.length : Int))) (R ⟨.v (.c (.i .u8 0)), []⟩) (sel (decide (0 ≤ i)) (sel (decide (i < (ds.length : Int))) (sel (decide (i.toNat < ds.length)) (R ⟨.v (.c (.i .u8 (ds.getD i.toNat 0))), []⟩) False) False) False)) := by kernel_rfl
noncomputable def tAt : Con := fun args regs => match args, regs with
  | [.ag [.i .i64 _, .i .i64 _, .i .i64 _, .i .i64 _, .l .u8 ds], .c (.i .i64 i)], [] => .must (0 ≤ i ∧ i < (ds.length : Int)) (.ret ⟨.v (.c (.i .u8 (ds.getD i.toNat 0))), []⟩)
  | _, _ => .fail
set_option maxRecDepth 100000 in
theorem kAt : Known Tryd.prog GL 85 tAt := by
  refine k_at.less fun args regs R h => Box.out ?_
  unfold tAt at h
  split at h
  case h_2 => exact h.elim
  rename_i m r k c ds i
  have h1 := h.1
  have h2 : R ⟨.v (.c (.i .u8 (ds.getD i.toNat 0))), []⟩ := h.2
  clear h
  exact Box.of_eq (at_tree m r k c i ds R) (selF (dF (by omega)) (selF (dF (by omega)) (selT (dT h1.1) (selT (dT h1.2) (selT (dT (by omega)) h2)))))
theorem bitf_tree (b : Bool) (R : Out → Prop) : (t_bitf [.c (.b b)] []).run R = sel b (R ⟨.v (.c (.i .i64 1)), []⟩) (R ⟨.v (.c (.i .i64 0)), []⟩) := by kernel_rfl
def bI (c : Bool) : Int := bif c then 1 else 0
noncomputable def tBitf : Con := fun args regs => match args, regs with
  | [.c (.b b)], [] => .ret ⟨.v (.c (.i .i64 (bI b))), []⟩
  | _, _ => .fail
set_option maxRecDepth 100000 in
theorem kBitf : Known Tryd.prog GL 77 tBitf := by
  refine k_bitf.less fun args regs R h => Box.out ?_
  unfold tBitf at h
  split at h
  case h_2 => exact h.elim
  rename_i b
  have h2 : R ⟨.v (.c (.i .i64 (bI b))), []⟩ := h
  clear h
  refine Box.of_eq (bitf_tree b R) ?_
  cases b with
  | true => exact selT rfl h2
  | false => exact selF rfl h2
/-- May a place be? -/
noncomputable def fairB (m p s : Int) : Bool := decide (m ≥ 1) && (decide (m ≤ 8) && (decide (p ≥ 0) && (decide (p ≤ 255) && (bits .andNot .i64 s 16255 == 0))))
theorem fair_tree (m p s : Int) (R : Out → Prop) : (t_fair [.ag [.i .i64 m, .i .i64 p, .i .i64 s]] []).run R =
    sel (decide (m ≥ 1)) (sel (decide (m ≤ 8)) (sel (decide (p ≥ 0)) (sel (decide (p ≤ 255)) (R (oB (bits .andNot .i64 s 16255 == 0))) (R (oB false))) (R (oB false))) (R (oB false))) (R (oB false)) := by kernel_rfl
noncomputable def tFairB : Con := fun args regs => match args, regs with
  | [.ag [.i .i64 m, .i .i64 p, .i .i64 s]], [] => .ret (oB (fairB m p s))
  | _, _ => .fail
theorem sel_and {a b : Bool} {R : Bool → Prop} (h : R (a && b)) : sel a (R b) (R false) := by
  cases a with
  | true => exact selT rfl h
  | false => exact selF rfl h
theorem sel_thn {a : Bool} {A B C : Prop} (h : sel a A B) (hh : A → C) : sel a C B := by
  rcases sel_iff.1 h with ⟨c, h⟩ | ⟨c, h⟩
  · exact selT c (hh h)
  · exact selF c h
set_option maxRecDepth 100000 in
theorem kFairB : Known Tryd.prog GL 70 tFairB := by
  refine k_fair.less fun args regs R h => Box.out ?_
  unfold tFairB at h
  split at h
  case h_2 => exact h.elim
  rename_i m p s
  have h2 : R (oB (fairB m p s)) := h
  clear h
  refine Box.of_eq (fair_tree m p s R) ?_
  have a1 := sel_and (R := fun b => R (oB b)) h2
  exact sel_thn a1 fun a1 => sel_thn (sel_and (R := fun b => R (oB b)) a1) fun a1 => sel_thn (sel_and (R := fun b => R (oB b)) a1) fun a1 => sel_and (R := fun b => R (oB b)) a1
/-- Numbers of six bytes, of eight. -/
def oOn (xs : List Int) : Out := ⟨.tu [.c (.h 0 0 xs.length), .c (.b true)], [some ⟨1, 3, .ints .i64 xs⟩]⟩
def openE (R : Out → Prop) (A : Prop) : List Int → Prop
  | [] => A
  | b :: bs => sel (!getB b) (R oN) (openE R A bs)
theorem openE_in {R : Out → Prop} {A : Prop} : ∀ {l : List Int}, sel (l.all getB) A (R oN) → openE R A l
  | [], h => by
    rcases sel_iff.1 h with ⟨_, h⟩ | ⟨c, _⟩
    · exact h
    · cases c
  | b :: bs, h => by
    show sel (!getB b) (R oN) (openE R A bs)
    have e : (b :: bs).all getB = (getB b && bs.all getB) := rfl
    rw [e] at h
    cases hb : getB b with
    | true => rw [hb] at h; exact selF rfl (openE_in h)
    | false => rw [hb] at h; exact selT rfl (by rcases sel_iff.1 h with ⟨c, _⟩ | ⟨_, h⟩; cases c; exact h)
theorem open_6 (a b c d e f : Int) (R : Out → Prop) : (t_opn [.c (.l .u8 [a, b, c, d, e, f])] []).run R = openE R (R (oOn ([a, b, c, d, e, f].map getN))) [a, b, c, d, e, f] := by kernel_rfl
theorem open_8 (a b c d e f g h : Int) (R : Out → Prop) : (t_opn [.c (.l .u8 [a, b, c, d, e, f, g, h])] []).run R = openE R (R (oOn ([a, b, c, d, e, f, g, h].map getN))) [a, b, c, d, e, f, g, h] := by kernel_rfl
noncomputable def tOpn : Con := fun args regs => match args, regs with
  | [.c (.l .u8 [a, b, c, d, e, f])], [] => .br ([a, b, c, d, e, f].all getB) (.ret (oOn ([a, b, c, d, e, f].map getN))) (.ret oN)
  | [.c (.l .u8 [a, b, c, d, e, f, g, h])], [] => .br ([a, b, c, d, e, f, g, h].all getB) (.ret (oOn ([a, b, c, d, e, f, g, h].map getN))) (.ret oN)
  | _, _ => .fail
set_option maxRecDepth 100000 in
theorem kOpn : Known Tryd.prog GL 58 tOpn := by
  refine k_opn.less fun args regs R h => Box.out ?_
  unfold tOpn at h
  split at h
  case h_3 => exact h.elim
  case h_1 a b c d e f => exact Box.of_eq (open_6 a b c d e f R) (openE_in h)
  case h_2 a b c d e f g i => exact Box.of_eq (open_8 a b c d e f g i R) (openE_in h)
end Go.Proofs.YthjdlanmfiofdaaDoor.hd
