/-
  ham24: number.
-/
import Derived.Test.YtjfgphfdaghilaaGreatDoorHamC
namespace Go.Proofs.YtjfgphfdaghilaaGreatDoor.ham
open Go Go.Nx

noncomputable def tData : Con := fun args regs => nfun Tryz.prog [] (fun _ => Option.none) [] Tryz.f56 args regs
theorem kData : Known Tryz.prog [] 56 tData := known_inl Tryz.func56 rfl (by kernel_rfl) mixed con_none (by kernel_rfl)
noncomputable def cData : FuncId → Option Con := fun f => match f with
  | 56 => some tData
  | _ => Option.none
theorem kcData : ∀ f T, cData f = some T → Known Tryz.prog [] f T := by
  intro f T h
  unfold cData at h
  split at h <;> cases h
  exact kData
noncomputable abbrev fNumber := Tryz.f59
noncomputable def XNumber : Cx := { P := Tryz.prog, con := cData, glob := [], m := 0, loops := [] }
noncomputable def tNumber0 : Con := fun args regs => if regs.length = 0 then nfun Tryz.prog [] cData [(0, [0, 3, 4, 5], unroll XNumber 0 [0, 3, 4, 5] [3] (bodyLoop fNumber 0) 30)] fNumber args regs else .fail
theorem kNumber0 : Known Tryz.prog [] 59 tNumber0 := known_loops 0 Tryz.func59 rfl (by kernel_rfl) mixed kcData
  (LAll.one (id := 0) (body := bodyLoop fNumber 0) (by kernel_rfl) rfl (unroll_ok (X := XNumber) kcData mixed (LAll.none (by kernel_rfl)) [0, 3, 4, 5] [3] 30))

/-- What stands at the places, from the k-th bit on. -/
def dat (w : Int) : List Nat → Int → Nat → Int
  | [], n, _ => n
  | p :: ps, n, k => dat w ps (bits .or .i64 n (shlv .i64 (IntKind.i64.wrap (bits .and .u32 (shrv .u32 w (Int.ofNat (p - 1))) 1)) (Int.ofNat k))) (k + 1)
def spots : List Nat := [3, 5, 6, 7, 9, 10, 11, 12, 13, 14, 15, 17, 18, 19, 20, 21, 22, 23]
theorem number_tree (w : Int) (R : Out → Prop) : (tNumber0 [.c (.i .u32 w)] []).run R = R ⟨.v (.c (.i .i64 (dat w spots 0 0))), []⟩ := by kernel_rfl
noncomputable def tNumber : Con := fun args regs => match args, regs with
  | [.c (.i .u32 w)], [] => .ret ⟨.v (.c (.i .i64 (dat w spots 0 0))), []⟩
  | _, _ => .fail
theorem kNumber : Known Tryz.prog [] 59 tNumber := by
  refine kNumber0.less fun args regs R h => ?_
  unfold tNumber at h
  split at h
  case h_2 => exact h.elim
  rename_i w
  rw [number_tree]
  exact h
end Go.Proofs.YtjfgphfdaghilaaGreatDoor.ham
