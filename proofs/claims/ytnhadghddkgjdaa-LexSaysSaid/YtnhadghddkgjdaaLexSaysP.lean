/-
  LexSays
-/
import Derived.Test.YtnhadghddkgjdaaLexH14
import Derived.Test.YtnhadghddkgjdaaEngC
namespace Go.Proofs.Ytnhadghddkgjdaa.lexSays
open Go.ChangeShapes Go.WideShapes Go.ChangeAt Go.RowKit
set_option linter.unusedVariables false

theorem own : ownKnob Try.prog.godebug = none := by kernel_rfl
theorem laidOut : laidOutB Try.prog = true := by kernel_rfl
theorem spec3 {H : Type} (ds : List (DataW H)) (h : ds.length = 1) : Rows.lexSaysSpec.fn H ds = { results := [.lit (.bool true)], args := ds } := by
  match ds, h with
  | [d0], _ => rfl
set_option maxRecDepth 100000 in
theorem lifted (os : Os) (started : os.Started) (H : Type) (enc : TypeId × Value → H) :
    ReturnsInHanded {} Try.checked os 14 .any (Rows.lexSaysSpec.pre6 enc Try.prog Try.f14 Rows.lexSaysRow.domain false) (Rows.lexSaysSpec.post enc Try.prog Try.f14 false true false false) := by
  refine returnsInHanded_of_change (C := Try.checked) own started (by kernel_rfl) Try.func14
    (ChangeSpec.witness6 (enc := enc) (C := Try.checked) false ⟨#[], #[.slice none 0 0], []⟩ 8 (by kernel_rfl) (by kernel_rfl) (by kernel_rfl) (by kernel_rfl)) ?_
  intro W base args ds gs before hval hW _ _
  exact Nx.Known.contract (shs := lxr.shsSay) (tb := 4) lxr.kSay laidOut (by kernel_rfl) (by kernel_rfl) rfl (by kernel_rfl) Try.underlying4 (fun ds h => spec3 ds (h.trans (by kernel_rfl))) lxr.say_law (fun _ => Option.none) (Nx.globOk_nil _) hval hW

theorem over : Rows.lexSaysRow.holds Try.pinned (OpenSpec.ofChange Rows.lexSaysSpec) :=
  OpenClaim.holds_of_wide 14 Try.f14 rfl rfl rfl rfl rfl rfl rfl ⟨rfl, rfl, rfl, rfl, rfl⟩ rfl rfl rfl rfl rfl (by kernel_rfl) Try.func14 (by kernel_rfl)
    (of_decide_eq_true (by kernel_rfl)) (by unfold Func.isWrapper; first | (rw [if_pos (by decide +kernel)]; kernel_rfl) | (rw [if_neg (by decide +kernel)]; exact ⟨rfl, rfl⟩))
    (fun os started H enc _ => lifted os started H enc)

/-- THE STATEMENT. -/
theorem proved : Rows.LexSaysSaid := over
#print axioms proved
end Go.Proofs.Ytnhadghddkgjdaa.lexSays
