/-
  ham24: the law's own helpers.
-/
import Derived.Test.YtjfgphfdaghilaaGreatDoorHamG
namespace Go.Proofs.YtjfgphfdaghilaaGreatDoor.ham
open Go Go.Nx

noncomputable def tNum : Con := fun args regs => nfun Tryz.prog [] (fun _ => Option.none) [] Tryz.f33 args regs
theorem kNum : Known Tryz.prog [] 33 tNum := known_inl Tryz.func33 rfl (by kernel_rfl) mixed con_none (by kernel_rfl)
end Go.Proofs.YtjfgphfdaghilaaGreatDoor.ham
