/-
  ham24: the law's own helpers.
-/
import Derived.Test.YtjjkbnipokpmcaaHamG
namespace Go.Proofs.Ytjjkbnipokpmcaa.ham
open Go Go.Nx

noncomputable def tThree : Con := fun args regs => nfun Try.prog [] (fun _ => Option.none) [] Try.f17 args regs
theorem kThree : Known Try.prog [] 17 tThree := known_inl Try.func17 rfl (by kernel_rfl) mixed con_none (by kernel_rfl)
noncomputable def tNum : Con := fun args regs => nfun Try.prog [] (fun _ => Option.none) [] Try.f16 args regs
theorem kNum : Known Try.prog [] 16 tNum := known_inl Try.func16 rfl (by kernel_rfl) mixed con_none (by kernel_rfl)
end Go.Proofs.Ytjjkbnipokpmcaa.ham
