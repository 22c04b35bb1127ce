/-
  ServiceSays: what any packet tells of who sends and when, any telling's bytes, or what is amiss, are what the chapter says. No conditions.
-/
import Derived.Test.YthjdlanmfiofdaaDoorCards
import Derived.Test.YthjdlanmfiofdaaDoorTie
import Derived.Test.YthjdlanmfiofdaaDoorSxF
import Derived.Test.YthjdlanmfiofdaaDoorEng25
import Derived.SevenTiedAt
import Derived.LaidMore
import Derived.Stop.Joined
namespace Go.Proofs.YthjdlanmfiofdaaDoor.serviceSays
open Go.ChangeShapes Go.WideShapes Go.ChangeAt Go.RowKit
set_option linter.unusedVariables false

theorem own : ownKnob Tryd.prog.godebug = none := by kernel_rfl
theorem laidOut : laidOutB Tryd.prog = true := by kernel_rfl
theorem star : "*" ++ "errors.errorString" = "*errors.errorString" := by decide
theorem errTypes : Nx.ErrTypes Tryd.prog 30 159 176 9 where
  hti := ⟨_, Tryd.underlying30⟩
  row := fun u h => typeName_ptr_named (nm := "errors.errorString") (by rw [star]; kernel_rfl) (by kernel_rfl) (by decide) u (by rw [star]; exact h)
  het := Tryd.underlying159
  hte := ⟨_, Tryd.underlying176, rfl, rfl⟩
  hts := Tryd.underlying9
  hce := by kernel_rfl
  hcs := by kernel_rfl
theorem glob {W : World} (hL : laidMetH Tryd.prog Rows.serviceSaysRow.laid W) : Nx.GlobOk (159 :: [0, 1, 2, 3, 4, 5]) (Nx.topEnv W (Nx.erOf W)) := by
  rw [MakeChecks.laidMetH_plain _ _ _ (by kernel_rfl)] at hL
  exact Nx.glob_of_laid errTypes (gs := [3, 0, 1, 2, 4, 5]) (by kernel_rfl) (by kernel_rfl) (by kernel_rfl) hL (by decide)
theorem spec3 {H : Type} (ds : List (DataW H)) (h : ds.length = 2) : Rows.serviceSaysSpec.fn H ds = { results := [.lit (.bool true)], args := ds } := by
  match ds, h with
  | [d0, d1], _ => rfl
theorem door_met (os : Os) (args : Array Value) : laidMetH Tryd.prog Rows.serviceSaysRow.laid ((World.doorLaid Tryd.prog 400 os).forCall (fun _ _ => 0) ⟨#[], args, []⟩).memory :=
  laidMetH_of_parts3 (fuel := 8) (laidMet_of_run' 8 (by kernel_rfl) (by kernel_rfl)) (by kernel_rfl) (by kernel_rfl)
set_option maxRecDepth 100000 in
theorem lifted (os : Os) (started : os.Started) (H : Type) (enc : TypeId × Value → H) :
    ReturnsInHanded {} Tryd.checked os 11 .any (fun w args => (Rows.serviceSaysSpec.pre enc Tryd.prog Tryd.f11 [] false w args ∧ laidMetH Tryd.prog Rows.serviceSaysRow.laid w) ∧ sizedMet enc Tryd.prog Tryd.f11 (OpenSpec.ofChange Rows.serviceSaysSpec) false w args)
      (Rows.serviceSaysSpec.post enc Tryd.prog Tryd.f11 false true false false) := by
  refine returnsInHanded_of_change_and (C := Tryd.checked) (X := fun w _ => laidMetH Tryd.prog Rows.serviceSaysRow.laid w) (fun _ _ _ hh h => h.of_heap hh) own started (by kernel_rfl) Tryd.func11
    (ChangeSpec.witness_shaped (enc := enc) (C := Tryd.checked) (os := os) (X := fun w _ => laidMetH Tryd.prog Rows.serviceSaysRow.laid w) false (World.doorLaid Tryd.prog 400 os) #[.slice none 0 0, .agg #[.int .i64 0, .int .i64 0, .int .i64 0, .int .i64 0, .int .i64 0, .int .i64 0, .int .i64 0, .int .i64 0, .int .i64 0, .string ByteArray.empty]] 8 rfl (World.shaped_of_RefB (by kernel_rfl) (by kernel_rfl)) (by kernel_rfl) (by kernel_rfl) (by kernel_rfl) (door_met os _)) ?_
  intro W base args ds gs before hval hW _ _ hL _
  exact Nx.Known.contract (shs := sv.shsV) (tb := 4) sv.kSaysV laidOut (by kernel_rfl) (by kernel_rfl) rfl (by kernel_rfl) Tryd.underlying4 (fun ds h => spec3 ds (h.trans (by kernel_rfl))) sv.says_law (Nx.erOf W) (glob hL) hval hW
theorem said : Rows.ServiceSaysSaid :=
  OpenClaim.holds_of_wide 11 Tryd.f11 rfl rfl rfl rfl rfl rfl rfl ⟨rfl, rfl, rfl, rfl, rfl⟩ rfl rfl rfl rfl rfl (by kernel_rfl) Tryd.func11 (by kernel_rfl)
    (of_decide_eq_true (by kernel_rfl)) (by unfold Func.isWrapper; first | (rw [if_pos (by decide +kernel)]; kernel_rfl) | (rw [if_neg (by decide +kernel)]; exact ⟨rfl, rfl⟩))
    (fun os started H enc _ => lifted os started H enc)
/-- No parameter wants a stand-in; the program's own looks are as the card says. -/
theorem plain (f : FuncId) (fn : Func) (hf : Tryd.pinned.checked.prog.funcNamed Rows.serviceSaysRow.func = some f) (hfn : Tryd.pinned.checked.prog.funcs[f]? = some fn) :
    true = Tryd.pinned.checked.prog.looks [] ∧ ∀ (j : Nat) t, fn.params[j]? = some t → Tryd.pinned.checked.prog.wantsStandIn t = false := by
  obtain rfl : f = 11 := Option.some.inj ((show Tryd.prog.funcNamed Rows.serviceSaysRow.func = some 11 by kernel_rfl).symm.trans hf) |>.symm
  obtain rfl : fn = Tryd.f11 := (Option.some.inj (Tryd.func11.symm.trans hfn)).symm
  refine ⟨by kernel_rfl, fun j t ht => ?_⟩
  rw [Tryd.params11] at ht
  have hm : t ∈ [22, 85] := by simpa using Array.mem_of_getElem? ht
  have hall : ([22, 85].all fun u => !Tryd.prog.wantsStandIn u) = true := by kernel_rfl
  exact (show Tryd.prog.wantsStandIn t = false by simpa using List.all_eq_true.1 hall t hm)
/-- THE CARD. -/
theorem proved : Rows.ServiceSaysCardSaid :=
  Claim7.holds_tied_plain_at .later [] _ _ _ _ said (fun _ h => by cases h) (by kernel_rfl) (fun _ h => by cases h) serviceSays_row_tie rfl ⟨rfl, rfl⟩ (by kernel_rfl) rfl plain (by kernel_rfl)
#print axioms proved
end Go.Proofs.YthjdlanmfiofdaaDoor.serviceSays
