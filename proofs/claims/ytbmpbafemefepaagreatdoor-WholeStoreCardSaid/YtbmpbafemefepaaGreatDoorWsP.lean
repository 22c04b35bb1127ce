/-
  WholeStore: whatever comes, the store has no more pages than it may, the one on display among them
-/
import Derived.Test.YtbmpbafemefepaaGreatDoorCards
import Derived.Test.YtbmpbafemefepaaGreatDoorTie
import Derived.Test.YtbmpbafemefepaaGreatDoorWs7
import Derived.SevenTiedAt
import Derived.LaidMore
import Derived.Stop.Joined
namespace Go.Proofs.YtbmpbafemefepaaGreatDoor.wholeStore
open Go.ChangeShapes Go.WideShapes Go.ChangeAt Go.RowKit
set_option linter.unusedVariables false

theorem own : ownKnob Tryz.prog.godebug = none := by kernel_rfl
theorem laidOut : laidOutB Tryz.prog = true := by kernel_rfl
theorem star : "*" ++ "errors.errorString" = "*errors.errorString" := by decide
theorem errTypes : Nx.ErrTypes Tryz.prog 28 377 391 9 where
  hti := ⟨_, Tryz.underlying28⟩
  row := fun u h => typeName_ptr_named (nm := "errors.errorString") (by rw [star]; kernel_rfl) (by kernel_rfl) (by decide) u (by rw [star]; exact h)
  het := Tryz.underlying377
  hte := ⟨_, Tryz.underlying391, rfl, rfl⟩
  hts := Tryz.underlying9
  hce := by kernel_rfl
  hcs := by kernel_rfl
theorem glob {W : World} (hL : laidMetH Tryz.prog Rows.wholeStoreRow.laid W) : Nx.GlobOk (377 :: [0, 1, 2, 3, 4, 5]) (Nx.topEnv W (Nx.erOf W)) := by
  rw [MakeChecks.laidMetH_plain _ _ _ (by kernel_rfl)] at hL
  exact Nx.glob_of_laid errTypes (gs := [1,3,4,0,5,2]) (by kernel_rfl) (by kernel_rfl) (by kernel_rfl) hL (by decide)
theorem spec3 {H : Type} (ds : List (DataW H)) (h : ds.length = 2) : Rows.wholeStoreSpec.fn H ds = { results := [.lit (.bool true)], args := ds } := by
  match ds, h with
  | [d0, d1], _ => rfl
theorem door_met (os : Os) (args : Array Value) : laidMetH Tryz.prog Rows.wholeStoreRow.laid ((World.doorLaid Tryz.prog 400 os).forCall (fun _ _ => 0) ⟨#[], args, []⟩).memory :=
  laidMetH_of_parts3 (fuel := 8) (laidMet_of_run' 8 (by kernel_rfl) (by kernel_rfl)) (by kernel_rfl) (by kernel_rfl)
set_option maxRecDepth 100000 in
theorem lifted (os : Os) (started : os.Started) (H : Type) (enc : TypeId × Value → H) :
    ReturnsInHanded {} Tryz.checked os 3 .any (fun w args => (Rows.wholeStoreSpec.pre enc Tryz.prog Tryz.f3 [] false w args ∧ laidMetH Tryz.prog Rows.wholeStoreRow.laid w) ∧ sizedMet enc Tryz.prog Tryz.f3 (OpenSpec.ofChange Rows.wholeStoreSpec) false w args)
      (Rows.wholeStoreSpec.post enc Tryz.prog Tryz.f3 false true false false) := by
  refine returnsInHanded_of_change_and (C := Tryz.checked) (X := fun w _ => laidMetH Tryz.prog Rows.wholeStoreRow.laid w) (fun _ _ _ hh h => h.of_heap hh) own started (by kernel_rfl) Tryz.func3
    (ChangeSpec.witness_shaped (enc := enc) (C := Tryz.checked) (os := os) (X := fun w _ => laidMetH Tryz.prog Rows.wholeStoreRow.laid w) false (World.doorLaid Tryz.prog 400 os) #[.int .i64 0, .slice none 0 0] 8 rfl (World.shaped_of_RefB (by kernel_rfl) (by kernel_rfl)) (by kernel_rfl) (by kernel_rfl) (by kernel_rfl) (door_met os _)) ?_
  intro W base args ds gs before hval hW _ hz hL _
  exact Nx.Known.contractS (shs := ws.shsWs) (tb := 4) ws.k_ws laidOut (by kernel_rfl) (by kernel_rfl) rfl (by kernel_rfl) Tryz.underlying4 (fun ds h => spec3 ds (h.trans (by kernel_rfl))) ws.ws_law (Nx.erOf W) (glob hL) hval hW hz
theorem band {a b : Bool} (h : a = true) (k : b = true) : (a && b) = true := by rw [h, k]; rfl
theorem cl0 : (Rows.wholeStoreRow.wf (OpenSpec.ofChange Rows.wholeStoreSpec)) = true := by kernel_rfl
theorem cl1 : (laidOutB Tryz.prog) = true := by kernel_rfl
theorem cl2 : (mapsRowed Tryz.prog) = true := by kernel_rfl
theorem cl3 : (Tryz.f3.params.all (Tryz.prog.readableRec ·)) = true := by kernel_rfl
theorem cl4 : (namedTie Tryz.prog Rows.wholeStoreRow.named Rows.wholeStoreSpec.vars) = true := by kernel_rfl
theorem cl5 : ((Rows.wholeStoreRow.stops == [])) = true := by kernel_rfl
theorem cl6 : ((Tryz.prog.stops == [])) = true := by kernel_rfl
theorem cl7 : ((Rows.wholeStoreRow.knobs == [])) = true := by kernel_rfl
theorem cl8 : ((Tryz.prog.stopKnobs == [])) = true := by kernel_rfl
theorem cl9 : ((Rows.wholeStoreRow.inPlace == Tryz.prog.inPlace 3)) = true := by kernel_rfl
theorem cl10 : ((Rows.wholeStoreRow.unfollowed == Tryz.prog.unfollowed 3)) = true := by kernel_rfl
theorem cl11 : ((Rows.wholeStoreRow.recurses == Tryz.prog.recurses 3)) = true := by kernel_rfl
theorem cl12 : ((Rows.wholeStoreRow.named == Tryz.prog.varsNamed 3)) = true := by kernel_rfl
theorem cl13 : ((Rows.wholeStoreRow.maps == (Tryz.f3.params.toList ++ Rows.wholeStoreSpec.plain.varTypes Tryz.prog).any (Tryz.prog.mapsRec ·))) = true := by kernel_rfl
theorem cl14 : ((Rows.wholeStoreRow.ifaces == (Tryz.f3.params.toList ++ Rows.wholeStoreSpec.plain.varTypes Tryz.prog).any (Tryz.prog.ifacesRec ·))) = true := by kernel_rfl
theorem cl15 : ((Rows.wholeStoreRow.mapsOut == Tryz.prog.mapsAmong Tryz.f3.resultTypes.toList)) = true := by kernel_rfl
theorem cl16 : ((Rows.wholeStoreRow.loops == (Tryz.f3.params.toList ++ Rows.wholeStoreSpec.plain.varTypes Tryz.prog).any (Tryz.prog.loopsFrom ·))) = true := by kernel_rfl
theorem cl17 : ((Rows.wholeStoreRow.wideKeys == (Tryz.f3.params.toList ++ Rows.wholeStoreSpec.plain.varTypes Tryz.prog ++ Tryz.f3.resultTypes.toList).any (Tryz.prog.wideKeysFrom ·))) = true := by kernel_rfl
theorem cl18 : (Rows.wholeStoreSpec.vars.all (Tryz.prog.varReadable ·)) = true := by kernel_rfl
theorem cl19 : (Tryz.f3.resultTypes.all (fun t => Tryz.prog.readableRec t && decide (t < Tryz.prog.types.size))) = true := by kernel_rfl
theorem cl20 : ((Rows.wholeStoreRow.ifacesOut == Tryz.f3.resultTypes.toList.any (Tryz.prog.ifacesRec ·))) = true := by kernel_rfl
theorem cl21 : ((Rows.wholeStoreRow.loopsOut == Tryz.f3.resultTypes.toList.any (Tryz.prog.loopsFrom ·))) = true := by kernel_rfl
theorem cl22 : ((Rows.wholeStoreRow.plainKeys == Tryz.prog.plainKeys)) = true := by kernel_rfl
theorem cl23 : (Rows.wholeStoreRow.shortTexts.isNone) = true := by kernel_rfl
theorem cl24 : (Tryz.prog.stopsHeard) = true := by kernel_rfl
theorem cl25 : (Tryz.prog.mayEnter) = true := by kernel_rfl
theorem cl26 : ((Rows.wholeStoreRow.lifted == Tryz.prog.liftsFinal)) = true := by kernel_rfl
theorem cl27 : ((Tryz.prog.make == some Rows.wholeStoreRow.make)) = true := by kernel_rfl
theorem cl29 : ((Rows.wholeStoreRow.pinned == Rows.wholeStoreRow.pinnedBy)) = true := by kernel_rfl
theorem cl30 : ((Rows.wholeStoreRow.veiled == (Tryz.f3.params.toList ++ Rows.wholeStoreSpec.plain.varTypes Tryz.prog ++ Tryz.f3.resultTypes.toList).any (Tryz.prog.veiledRec ·))) = true := by kernel_rfl
theorem cl31 : (Rows.wholeStoreRow.veiledFits Tryz.prog Tryz.f3.params.toList (Tryz.f3.params.toList ++ Rows.wholeStoreSpec.plain.varTypes Tryz.prog ++ Tryz.f3.resultTypes.toList)) = true := by kernel_rfl
theorem closed : joinedFacts Tryz.prog 3 Tryz.f3 Rows.wholeStoreSpec Rows.wholeStoreRow = true := by
  unfold joinedFacts
  exact (band (band (band (band (band (band (band (band (band (band (band (band (band (band (band (band (band (band (band (band (band (band (band (band (band (band (band (band (band (band (band cl0 cl1) cl2) cl3) cl4) cl5) cl6) cl7) cl8) cl9) cl10) cl11) cl12) cl13) cl14) cl15) cl16) cl17) cl18) cl19) cl20) cl21) cl22) cl23) cl24) cl25) cl26) cl27) (by kernel_rfl)) cl29) cl30) cl31)
theorem said : Rows.WholeStoreSaid :=
  OpenClaim.holds_of_wide 3 Tryz.f3 rfl rfl rfl rfl rfl rfl rfl ⟨rfl, rfl, rfl, rfl, rfl⟩ rfl rfl rfl rfl rfl (by kernel_rfl) Tryz.func3 closed
    (of_decide_eq_true (by kernel_rfl)) (by unfold Func.isWrapper; first | (rw [if_pos (by decide +kernel)]; kernel_rfl) | (rw [if_neg (by decide +kernel)]; exact ⟨rfl, rfl⟩))
    (fun os started H enc _ => lifted os started H enc)
/-- No parameter wants a stand-in; the program's own looks are as the card says. -/
theorem plain (f : FuncId) (fn : Func) (hf : Tryz.pinned.checked.prog.funcNamed Rows.wholeStoreRow.func = some f) (hfn : Tryz.pinned.checked.prog.funcs[f]? = some fn) :
    true = Tryz.pinned.checked.prog.looks [] ∧ ∀ (j : Nat) t, fn.params[j]? = some t → Tryz.pinned.checked.prog.wantsStandIn t = false := by
  obtain rfl : f = 3 := Option.some.inj ((show Tryz.prog.funcNamed Rows.wholeStoreRow.func = some 3 by kernel_rfl).symm.trans hf) |>.symm
  obtain rfl : fn = Tryz.f3 := (Option.some.inj (Tryz.func3.symm.trans hfn)).symm
  refine ⟨by kernel_rfl, fun j t ht => ?_⟩
  rw [Tryz.params3] at ht
  have hm : t ∈ [3, 22] := by simpa using Array.mem_of_getElem? ht
  have hall : ([3, 22].all fun u => !Tryz.prog.wantsStandIn u) = true := by kernel_rfl
  exact (show Tryz.prog.wantsStandIn t = false by simpa using List.all_eq_true.1 hall t hm)
/-- THE CARD. -/
theorem proved : Rows.WholeStoreCardSaid :=
  Claim7.holds_tied_plain_at .later [] _ _ _ _ said (fun _ h => by cases h) (by kernel_rfl) (fun _ h => by cases h) wholeStore_row_tie rfl ⟨rfl, rfl⟩ (by kernel_rfl) rfl plain (by kernel_rfl)
#print axioms proved
end Go.Proofs.YtbmpbafemefepaaGreatDoor.wholeStore
