/-
  ScreenSizes
-/
import Derived.Test.YtmhjmdfindfihaaScZ
import Derived.Test.YtmhjmdfindfihaaEngC
namespace Go.Proofs.Ytmhjmdfindfihaa.screenSizes
open Go.ChangeShapes Go.WideShapes Go.ChangeAt Go.RowKit
set_option linter.unusedVariables false

theorem own : ownKnob Try.prog.godebug = none := by kernel_rfl
theorem laidOut : laidOutB Try.prog = true := by kernel_rfl
theorem spec3 {H : Type} (ds : List (DataW H)) (h : ds.length = 5) : Rows.screenSizesSpec.fn H ds = { results := [.lit (.bool true)], args := ds } := by
  match ds, h with
  | [d0, d1, d2, d3, d4], _ => rfl
set_option maxRecDepth 100000 in
theorem lifted (os : Os) (started : os.Started) (H : Type) (enc : TypeId × Value → H) :
    ReturnsInHanded {} Try.checked os 5 .any (Rows.screenSizesSpec.pre6 enc Try.prog Try.f5 Rows.screenSizesRow.domain false) (Rows.screenSizesSpec.post enc Try.prog Try.f5 false true false false) := by
  refine returnsInHanded_of_change (C := Try.checked) own started (by kernel_rfl) Try.func5
    (ChangeSpec.witness6 (enc := enc) (C := Try.checked) false ⟨#[], #[.int .i64 0, .int .i64 0, .bool false, .bool false, .int .u8 0], []⟩ 8 (by kernel_rfl) (by kernel_rfl) (by kernel_rfl) (by kernel_rfl)) ?_
  intro W base args ds gs before hval hW _ _
  exact Nx.Known.contract (shs := scr.shsSz) (tb := 4) scr.k_sz laidOut (by kernel_rfl) (by kernel_rfl) rfl (by kernel_rfl) Try.underlying4 (fun ds h => spec3 ds (h.trans (by kernel_rfl))) scr.sz_law (fun _ => Option.none) (Nx.globOk_nil _) hval hW

theorem over : Rows.screenSizesRow.holds Try.pinned (OpenSpec.ofChange Rows.screenSizesSpec) :=
  OpenClaim.holds_of_wide 5 Try.f5 rfl rfl rfl rfl rfl rfl rfl ⟨rfl, rfl, rfl, rfl, rfl⟩ rfl rfl rfl rfl rfl (by kernel_rfl) Try.func5 (by kernel_rfl)
    (of_decide_eq_true (by kernel_rfl)) (by unfold Func.isWrapper; first | (rw [if_pos (by decide +kernel)]; kernel_rfl) | (rw [if_neg (by decide +kernel)]; exact ⟨rfl, rfl⟩))
    (fun os started H enc _ => lifted os started H enc)

/-- THE STATEMENT. -/
theorem proved : Rows.ScreenSizesSaid := over
#print axioms proved
end Go.Proofs.Ytmhjmdfindfihaa.screenSizes
