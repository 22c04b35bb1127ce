/-
  MinitelAsked: who asks is answered, a request of the socket goes back to the socket, cut between two sides it is none: for every number.
-/
import Derived.Test.YtdijbpokklgjlaaDoorCards
import Derived.Test.YtdijbpokklgjlaaDoorTie
import Derived.Test.YtdijbpokklgjlaaDoorMnAk
import Derived.Test.YtdijbpokklgjlaaDoorEng25
import Derived.SevenTiedAt
import Derived.LaidMore
import Derived.Stop.Joined
namespace Go.Proofs.YtdijbpokklgjlaaDoor.minitelAsked
open Go.ChangeShapes Go.WideShapes Go.ChangeAt Go.RowKit
set_option linter.unusedVariables false

theorem own : ownKnob Tryd.prog.godebug = none := by kernel_rfl
theorem laidOut : laidOutB Tryd.prog = true := by kernel_rfl
theorem star : "*" ++ "errors.errorString" = "*errors.errorString" := by decide
theorem errTypes : Nx.ErrTypes Tryd.prog 25 128 146 9 where
  hti := ⟨_, Tryd.underlying25⟩
  row := fun u h => typeName_ptr_named (nm := "errors.errorString") (by rw [star]; kernel_rfl) (by kernel_rfl) (by decide) u (by rw [star]; exact h)
  het := Tryd.underlying128
  hte := ⟨_, Tryd.underlying146, rfl, rfl⟩
  hts := Tryd.underlying9
  hce := by kernel_rfl
  hcs := by kernel_rfl
theorem glob {W : World} (hL : laidMetH Tryd.prog Rows.minitelAskedRow.laid W) : Nx.GlobOk (128 :: [0]) (Nx.topEnv W (Nx.erOf W)) := by
  rw [MakeChecks.laidMetH_plain _ _ _ (by kernel_rfl)] at hL
  exact Nx.glob_of_laid errTypes (gs := [0]) (by kernel_rfl) (by kernel_rfl) (by kernel_rfl) hL (by decide)
theorem spec3 {H : Type} (ds : List (DataW H)) (h : ds.length = 2) : Rows.minitelAskedSpec.fn H ds = { results := [.lit (.bool true)], args := ds } := by
  match ds, h with
  | [d0, d1], _ => rfl
theorem door_met (os : Os) (args : Array Value) : laidMetH Tryd.prog Rows.minitelAskedRow.laid ((World.doorLaid Tryd.prog 400 os).forCall (fun _ _ => 0) ⟨#[], args, []⟩).memory :=
  laidMetH_of_parts3 (fuel := 8) (laidMet_of_run' 8 (by kernel_rfl) (by kernel_rfl)) (by kernel_rfl) (by kernel_rfl)
set_option maxRecDepth 100000 in
theorem lifted (os : Os) (started : os.Started) (H : Type) (enc : TypeId × Value → H) :
    ReturnsInHanded {} Tryd.checked os 3 .any (fun w args => (Rows.minitelAskedSpec.pre enc Tryd.prog Tryd.f3 [] false w args ∧ laidMetH Tryd.prog Rows.minitelAskedRow.laid w) ∧ sizedMet enc Tryd.prog Tryd.f3 (OpenSpec.ofChange Rows.minitelAskedSpec) false w args)
      (Rows.minitelAskedSpec.post enc Tryd.prog Tryd.f3 false true false false) := by
  refine returnsInHanded_of_change_and (C := Tryd.checked) (X := fun w _ => laidMetH Tryd.prog Rows.minitelAskedRow.laid w) (fun _ _ _ hh h => h.of_heap hh) own started (by kernel_rfl) Tryd.func3
    (ChangeSpec.witness_shaped (enc := enc) (C := Tryd.checked) (os := os) (X := fun w _ => laidMetH Tryd.prog Rows.minitelAskedRow.laid w) false (World.doorLaid Tryd.prog 400 os) #[.int .i64 0, .bool false] 8 rfl (World.shaped_of_RefB (by kernel_rfl) (by kernel_rfl)) (by kernel_rfl) (by kernel_rfl) (by kernel_rfl) (door_met os _)) ?_
  intro W base args ds gs before hval hW _ _ hL _
  exact Nx.Known.contract (shs := mtl.shsAk) (tb := 4) mtl.kAkG laidOut (by kernel_rfl) (by kernel_rfl) rfl (by kernel_rfl) Tryd.underlying4 (fun ds h => spec3 ds (h.trans (by kernel_rfl))) mtl.ak_law (Nx.erOf W) (glob hL) hval hW
theorem said : Rows.MinitelAskedSaid :=
  OpenClaim.holds_of_wide 3 Tryd.f3 rfl rfl rfl rfl rfl rfl rfl ⟨rfl, rfl, rfl, rfl, rfl⟩ rfl rfl rfl rfl rfl (by kernel_rfl) Tryd.func3 (by kernel_rfl)
    (of_decide_eq_true (by kernel_rfl)) (by unfold Func.isWrapper; first | (rw [if_pos (by decide +kernel)]; kernel_rfl) | (rw [if_neg (by decide +kernel)]; exact ⟨rfl, rfl⟩))
    (fun os started H enc _ => lifted os started H enc)
/-- No parameter wants a stand-in; the program's own looks are as the card says. -/
theorem plain (f : FuncId) (fn : Func) (hf : Tryd.pinned.checked.prog.funcNamed Rows.minitelAskedRow.func = some f) (hfn : Tryd.pinned.checked.prog.funcs[f]? = some fn) :
    false = Tryd.pinned.checked.prog.looks [] ∧ ∀ (j : Nat) t, fn.params[j]? = some t → Tryd.pinned.checked.prog.wantsStandIn t = false := by
  obtain rfl : f = 3 := Option.some.inj ((show Tryd.prog.funcNamed Rows.minitelAskedRow.func = some 3 by kernel_rfl).symm.trans hf) |>.symm
  obtain rfl : fn = Tryd.f3 := (Option.some.inj (Tryd.func3.symm.trans hfn)).symm
  refine ⟨by kernel_rfl, fun j t ht => ?_⟩
  rw [Tryd.params3] at ht
  have hm : t ∈ [3, 4] := by simpa using Array.mem_of_getElem? ht
  have hall : ([3, 4].all fun u => !Tryd.prog.wantsStandIn u) = true := by kernel_rfl
  exact (show Tryd.prog.wantsStandIn t = false by simpa using List.all_eq_true.1 hall t hm)
/-- THE CARD. -/
theorem proved : Rows.MinitelAskedCardSaid :=
  Claim7.holds_tied_plain_at .later [] _ _ _ _ said (fun _ h => by cases h) (by kernel_rfl) (fun _ h => by cases h) minitelAsked_row_tie rfl ⟨rfl, rfl⟩ (by kernel_rfl) rfl plain (by kernel_rfl)
#print axioms proved
end Go.Proofs.YtdijbpokklgjlaaDoor.minitelAsked
