/-
  MinitelKeys: keys go to the line, unless asked not to, and to the screen, once it is asked for: for every text.
-/
import Derived.Test.YtdijbpokklgjlaaGreatDoorCards
import Derived.Test.YtdijbpokklgjlaaGreatDoorTie
import Derived.Test.YtdijbpokklgjlaaGreatDoorMnKd
import Derived.Test.YtdijbpokklgjlaaGreatDoorEng25
import Derived.SevenTiedAt
import Derived.LaidMore
import Derived.Stop.Joined
namespace Go.Proofs.YtdijbpokklgjlaaGreatDoor.minitelKeys
open Go.ChangeShapes Go.WideShapes Go.ChangeAt Go.RowKit
set_option linter.unusedVariables false

theorem own : ownKnob Tryz.prog.godebug = none := by kernel_rfl
theorem laidOut : laidOutB Tryz.prog = true := by kernel_rfl
theorem star : "*" ++ "errors.errorString" = "*errors.errorString" := by decide
theorem errTypes : Nx.ErrTypes Tryz.prog 26 142 159 9 where
  hti := ⟨_, Tryz.underlying26⟩
  row := fun u h => typeName_ptr_named (nm := "errors.errorString") (by rw [star]; kernel_rfl) (by kernel_rfl) (by decide) u (by rw [star]; exact h)
  het := Tryz.underlying142
  hte := ⟨_, Tryz.underlying159, rfl, rfl⟩
  hts := Tryz.underlying9
  hce := by kernel_rfl
  hcs := by kernel_rfl
theorem glob {W : World} (hL : laidMetH Tryz.prog Rows.minitelKeysRow.laid W) : Nx.GlobOk (142 :: [0]) (Nx.topEnv W (Nx.erOf W)) := by
  rw [MakeChecks.laidMetH_plain _ _ _ (by kernel_rfl)] at hL
  exact Nx.glob_of_laid errTypes (gs := [0]) (by kernel_rfl) (by kernel_rfl) (by kernel_rfl) hL (by decide)
theorem spec3 {H : Type} (ds : List (DataW H)) (h : ds.length = 3) : Rows.minitelKeysSpec.fn H ds = { results := [.lit (.bool true)], args := ds } := by
  match ds, h with
  | [d0, d1, d2], _ => rfl
theorem door_met (os : Os) (args : Array Value) : laidMetH Tryz.prog Rows.minitelKeysRow.laid ((World.doorLaid Tryz.prog 400 os).forCall (fun _ _ => 0) ⟨#[], args, []⟩).memory :=
  laidMetH_of_parts3 (fuel := 8) (laidMet_of_run' 8 (by kernel_rfl) (by kernel_rfl)) (by kernel_rfl) (by kernel_rfl)
set_option maxRecDepth 100000 in
theorem lifted (os : Os) (started : os.Started) (H : Type) (enc : TypeId × Value → H) :
    ReturnsInHanded {} Tryz.checked os 6 .any (fun w args => (Rows.minitelKeysSpec.pre enc Tryz.prog Tryz.f6 [] false w args ∧ laidMetH Tryz.prog Rows.minitelKeysRow.laid w) ∧ sizedMet enc Tryz.prog Tryz.f6 (OpenSpec.ofChange Rows.minitelKeysSpec) false w args)
      (Rows.minitelKeysSpec.post enc Tryz.prog Tryz.f6 false true false false) := by
  refine returnsInHanded_of_change_and (C := Tryz.checked) (X := fun w _ => laidMetH Tryz.prog Rows.minitelKeysRow.laid w) (fun _ _ _ hh h => h.of_heap hh) own started (by kernel_rfl) Tryz.func6
    (ChangeSpec.witness_shaped (enc := enc) (C := Tryz.checked) (os := os) (X := fun w _ => laidMetH Tryz.prog Rows.minitelKeysRow.laid w) false (World.doorLaid Tryz.prog 400 os) #[.slice none 0 0, .bool false, .bool false] 8 rfl (World.shaped_of_RefB (by kernel_rfl) (by kernel_rfl)) (by kernel_rfl) (by kernel_rfl) (by kernel_rfl) (door_met os _)) ?_
  intro W base args ds gs before hval hW _ _ hL _
  exact Nx.Known.contract (shs := mtl.shsSo) (tb := 4) mtl.kKyG laidOut (by kernel_rfl) (by kernel_rfl) rfl (by kernel_rfl) Tryz.underlying4 (fun ds h => spec3 ds (h.trans (by kernel_rfl))) mtl.ky_law (Nx.erOf W) (glob hL) hval hW
theorem said : Rows.MinitelKeysSaid :=
  OpenClaim.holds_of_wide 6 Tryz.f6 rfl rfl rfl rfl rfl rfl rfl ⟨rfl, rfl, rfl, rfl, rfl⟩ rfl rfl rfl rfl rfl (by kernel_rfl) Tryz.func6 (by kernel_rfl)
    (of_decide_eq_true (by kernel_rfl)) (by unfold Func.isWrapper; first | (rw [if_pos (by decide +kernel)]; kernel_rfl) | (rw [if_neg (by decide +kernel)]; exact ⟨rfl, rfl⟩))
    (fun os started H enc _ => lifted os started H enc)
/-- No parameter wants a stand-in; the program's own looks are as the card says. -/
theorem plain (f : FuncId) (fn : Func) (hf : Tryz.pinned.checked.prog.funcNamed Rows.minitelKeysRow.func = some f) (hfn : Tryz.pinned.checked.prog.funcs[f]? = some fn) :
    false = Tryz.pinned.checked.prog.looks [] ∧ ∀ (j : Nat) t, fn.params[j]? = some t → Tryz.pinned.checked.prog.wantsStandIn t = false := by
  obtain rfl : f = 6 := Option.some.inj ((show Tryz.prog.funcNamed Rows.minitelKeysRow.func = some 6 by kernel_rfl).symm.trans hf) |>.symm
  obtain rfl : fn = Tryz.f6 := (Option.some.inj (Tryz.func6.symm.trans hfn)).symm
  refine ⟨by kernel_rfl, fun j t ht => ?_⟩
  rw [Tryz.params6] at ht
  have hm : t ∈ [22, 4, 4] := by simpa using Array.mem_of_getElem? ht
  have hall : ([22, 4, 4].all fun u => !Tryz.prog.wantsStandIn u) = true := by kernel_rfl
  exact (show Tryz.prog.wantsStandIn t = false by simpa using List.all_eq_true.1 hall t hm)
/-- THE CARD. -/
theorem proved : Rows.MinitelKeysCardSaid :=
  Claim7.holds_tied_plain_at .later [] _ _ _ _ said (fun _ h => by cases h) (by kernel_rfl) (fun _ h => by cases h) minitelKeys_row_tie rfl ⟨rfl, rfl⟩ (by kernel_rfl) rfl plain (by kernel_rfl)
#print axioms proved
end Go.Proofs.YtdijbpokklgjlaaGreatDoor.minitelKeys
