/-
  ScreenInside
-/
import Derived.Test.YtmhjmdfindfihaaScIb
import Derived.Test.YtmhjmdfindfihaaEngC
namespace Go.Proofs.Ytmhjmdfindfihaa.screenInside
open Go.ChangeShapes Go.WideShapes Go.ChangeAt Go.RowKit
set_option linter.unusedVariables false

theorem own : ownKnob Try.prog.godebug = none := by kernel_rfl
theorem laidOut : laidOutB Try.prog = true := by kernel_rfl
theorem spec3 {H : Type} (ds : List (DataW H)) (h : ds.length = 2) : Rows.screenInsideSpec.fn H ds = { results := [.lit (.bool true)], args := ds } := by
  match ds, h with
  | [d0, d1], _ => rfl
set_option maxRecDepth 100000 in
theorem lifted (os : Os) (started : os.Started) (H : Type) (enc : TypeId × Value → H) :
    ReturnsInHanded {} Try.checked os 9 .any (Rows.screenInsideSpec.pre6 enc Try.prog Try.f9 Rows.screenInsideRow.domain false) (Rows.screenInsideSpec.post enc Try.prog Try.f9 false true false false) := by
  refine returnsInHanded_of_change (C := Try.checked) own started (by kernel_rfl) Try.func9
    (ChangeSpec.witness6 (enc := enc) (C := Try.checked) false ⟨#[], #[.slice none 0 0, .bool false], []⟩ 8 (by kernel_rfl) (by kernel_rfl) (by kernel_rfl) (by kernel_rfl)) ?_
  intro W base args ds gs before hval hW _ _
  exact Nx.Known.contract (shs := scr.shsIn) (tb := 4) scr.k_in laidOut (by kernel_rfl) (by kernel_rfl) rfl (by kernel_rfl) Try.underlying4 (fun ds h => spec3 ds (h.trans (by kernel_rfl))) scr.in_law (fun _ => Option.none) (Nx.globOk_nil _) hval hW

theorem over : Rows.screenInsideRow.holds Try.pinned (OpenSpec.ofChange Rows.screenInsideSpec) :=
  OpenClaim.holds_of_wide 9 Try.f9 rfl rfl rfl rfl rfl rfl rfl ⟨rfl, rfl, rfl, rfl, rfl⟩ rfl rfl rfl rfl rfl (by kernel_rfl) Try.func9 (by kernel_rfl)
    (of_decide_eq_true (by kernel_rfl)) (by unfold Func.isWrapper; first | (rw [if_pos (by decide +kernel)]; kernel_rfl) | (rw [if_neg (by decide +kernel)]; exact ⟨rfl, rfl⟩))
    (fun os started H enc _ => lifted os started H enc)

/-- THE STATEMENT. -/
theorem proved : Rows.ScreenInsideSaid := over
#print axioms proved
end Go.Proofs.Ytmhjmdfindfihaa.screenInside
