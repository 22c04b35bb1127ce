/-
  ham24: Get; a bit turned; a number below another one.
-/
import Derived.Test.YtjfgphfdaghilaaGreatDoorHamP
namespace Go.Proofs.YtjfgphfdaghilaaGreatDoor.ham
open Go Go.Nx

noncomputable def tPut : Con := fun args regs => match args, regs with
  | [.c (.i .i64 n)], [] => .must ((0 ≤ put0 n ∧ put0 n < 4294967296) ∧ (0 ≤ put1 n ∧ put1 n < 4294967296)) (.ret ⟨bytes3 (bif (pop (put1 n)).tmod 2 == 0 then bits .or .u32 (put1 n) 8388608 else put1 n), []⟩)
  | _, _ => .fail
theorem loopPut0 : LOk Tryz.prog [] 0 0 (bodyLoop fPut 0) (unroll XPut 0 [0, 2, 3, 4, 5] [2, 3] (bodyLoop fPut 0) 30) := unroll_ok (X := XPut) kcPut mixed (LAll.none (by kernel_rfl)) [0, 2, 3, 4, 5] [2, 3] 30
theorem loopPut2 : LOk Tryz.prog [] 0 2 (bodyLoop fPut 2) (unroll XPut 2 [2, 3, 6, 32] [2, 3] (bodyLoop fPut 2) 30) := unroll_ok (X := XPut) kcPut mixed (LAll.none (by kernel_rfl)) [2, 3, 6, 32] [2, 3] 30
theorem kPut0 : Known Tryz.prog [] 30 tPut0 := known_loops 0 Tryz.func30 rfl (by kernel_rfl) mixed kcPut
  (LAll.two (i1 := 0) (i2 := 2) (b1 := bodyLoop fPut 0) (b2 := bodyLoop fPut 2) (by kernel_rfl) rfl (by decide) loopPut0 loopPut2)
theorem put_pick {c : Bool} {x y : Int} {R : Out → Prop} (h : (Tr.ret (Out.mk (bytes3 (bif c then x else y)) [])).run R) : sel c (R ⟨bytes3 x, []⟩) (R ⟨bytes3 y, []⟩) := by
  cases c <;> exact h
set_option maxRecDepth 100000 in
theorem kPut : Known Tryz.prog [] 30 tPut := by
  refine kPut0.less fun args regs R h => ?_
  unfold tPut at h
  split at h
  case h_2 => exact h.elim
  rename_i n
  have h1 := h.1
  have h3 := h.2
  clear h
  rw [put_tree]
  exact And.intro (And.left h1) (And.intro (And.right h1) (put_pick (c := (pop (put1 n)).tmod 2 == 0) (x := bits .or .u32 (put1 n) 8388608) (y := put1 n) h3))

noncomputable def cGet : FuncId → Option Con := fun f => match f with
  | 57 => some tCk
  | 59 => some tNumber
  | _ => Option.none
theorem kcGet : ∀ f T, cGet f = some T → Known Tryz.prog [] f T := by
  intro f T h
  unfold cGet at h
  split at h <;> cases h
  · exact kCk
  · exact kNumber
noncomputable def tGet : Con := fun args regs => nfun Tryz.prog [] cGet [] Tryz.f31 args regs
theorem kGet : Known Tryz.prog [] 31 tGet := known_inl Tryz.func31 rfl (by kernel_rfl) mixed kcGet (by kernel_rfl)
noncomputable def word (a b c : Int) : Int := bits .or .u32 (bits .or .u32 (IntKind.u32.wrap a) (shlv .u32 (IntKind.u32.wrap b) 8)) (shlv .u32 (IntKind.u32.wrap c) 16)
noncomputable def place31 (w : Int) : Int := bits .xor .i64 (syn w 0 23) 31
noncomputable def some2 (n : Int) : Out := ⟨.tu [.c (.i .i64 n), .c (.b true)], []⟩
noncomputable def none2 : Out := ⟨.tu [.c (.i .i64 0), .c (.b false)], []⟩
theorem get_tree (a b c : Int) (R : Out → Prop) : (tGet [.ag [.i .u8 a, .i .u8 b, .i .u8 c]] []).run R =
    ((0 ≤ word a b c ∧ word a b c < 4294967296) ∧
     sel (place31 (word a b c) == 0) (R (some2 (dat (word a b c) spots 0 0)))
      (sel ((pop (word a b c)).tmod 2 == 1) (R none2)
       (sel (decide (place31 (word a b c) ≥ 24)) (R none2)
        (sel (decide (0 ≤ IntKind.i64.wrap (place31 (word a b c) - 1)))
         (R (some2 (dat (bits .xor .u32 (word a b c) (shlv .u32 1 (IntKind.i64.wrap (place31 (word a b c) - 1)))) spots 0 0)))
         False)))) := by kernel_rfl
end Go.Proofs.YtjfgphfdaghilaaGreatDoor.ham
