/-
  ham24: check, by a contract; Put.
-/
import Derived.Test.YtjfgphfdaghilaaGreatDoorHamN
namespace Go.Proofs.YtjfgphfdaghilaaGreatDoor.ham
open Go Go.Nx

theorem check_tree (w : Int) (R : Out → Prop) : (tCheck [.c (.i .u32 w)] []).run R = ((1 ≤ (1 : Int) ∧ (1 : Int) ≤ 24) ∧ ((0 ≤ w ∧ w < 4294967296) ∧ R ⟨.tu [.c (.i .i64 (syn w 0 23)), .c (.b ((pop w).tmod 2 == 1))], []⟩)) := by kernel_rfl
noncomputable def tCk : Con := fun args regs => match args, regs with
  | [.c (.i .u32 w)], [] => .must (0 ≤ w ∧ w < 4294967296) (.ret ⟨.tu [.c (.i .i64 (syn w 0 23)), .c (.b ((pop w).tmod 2 == 1))], []⟩)
  | _, _ => .fail
theorem kCk : Known Tryz.prog [] 57 tCk := by
  refine kCheck.less fun args regs R h => ?_
  unfold tCk at h
  split at h
  case h_2 => exact h.elim
  rename_i w
  rw [check_tree]
  exact ⟨⟨by decide, by decide⟩, h⟩
noncomputable def cPut : FuncId → Option Con := fun f => match f with
  | 56 => some tData
  | 57 => some tCk
  | 58 => some tPop
  | _ => Option.none
theorem kcPut : ∀ f T, cPut f = some T → Known Tryz.prog [] f T := by
  intro f T h
  unfold cPut at h
  split at h <;> cases h
  · exact kData
  · exact kCk
  · exact kPop
noncomputable abbrev fPut := Tryz.f30
noncomputable def XPut : Cx := { P := Tryz.prog, con := cPut, glob := [], m := 0, loops := [] }
noncomputable def tPut0 : Con := fun args regs => if regs.length = 0 then nfun Tryz.prog [] cPut [(0, [0, 2, 3, 4, 5], unroll XPut 0 [0, 2, 3, 4, 5] [2, 3] (bodyLoop fPut 0) 30), (2, [2, 3, 6, 32], unroll XPut 2 [2, 3, 6, 32] [2, 3] (bodyLoop fPut 2) 30)] fPut args regs else .fail

/-- A number's bits at their places. -/
noncomputable def place (n : Int) : List Nat → Int → Nat → Int
  | [], w, _ => w
  | p :: ps, w, k => place n ps (bits .or .u32 w (shlv .u32 (IntKind.u32.wrap (bits .and .i64 (shrv .i64 n (Int.ofNat k)) 1)) (Int.ofNat (p - 1)))) (k + 1)
/-- The bits that keep watch. -/
noncomputable def keep (sum : Int) : List Nat → Int → Int
  | [], w => w
  | k :: ks, w => keep sum ks (bits .or .u32 w (shlv .u32 (IntKind.u32.wrap (bits .xor .i64 1 (bits .and .i64 (shrv .i64 sum (Int.ofNat k)) 1))) (Int.ofNat (2 ^ k - 1))))
noncomputable def put0 (n : Int) : Int := place n spots 0 0
noncomputable def put1 (n : Int) : Int := keep (syn (put0 n) 0 23) [0, 1, 2, 3, 4] (put0 n)
noncomputable def bytes3 (w : Int) : NS := .v (.ag [.i .u8 (IntKind.u8.wrap w), .i .u8 (IntKind.u8.wrap (shrv .u32 w 8)), .i .u8 (IntKind.u8.wrap (shrv .u32 w 16))])
theorem put_tree (n : Int) (R : Out → Prop) : (tPut0 [.c (.i .i64 n)] []).run R =
    ((0 ≤ put0 n ∧ put0 n < 4294967296) ∧ ((0 ≤ put1 n ∧ put1 n < 4294967296) ∧
      sel ((pop (put1 n)).tmod 2 == 0) (R ⟨bytes3 (bits .or .u32 (put1 n) 8388608), []⟩) (R ⟨bytes3 (put1 n), []⟩))) := by kernel_rfl
end Go.Proofs.YtjfgphfdaghilaaGreatDoor.ham
