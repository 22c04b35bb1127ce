/-
  The law AcquireSubs: of a page's parts each is found by its number, the last one by none; one behind the other they go round.
-/
import Derived.Test.YtlfmkacafppmlaaDoorCards
import Derived.Test.YtlfmkacafppmlaaDoorTie
import Derived.Test.YtlfmkacafppmlaaDoorSu6
import Derived.SevenTiedAt
import Derived.LaidMore
import Derived.Stop.Joined
namespace Go.Proofs.YtlfmkacafppmlaaDoor.acquireSubs
open Go.ChangeShapes Go.WideShapes Go.ChangeAt Go.RowKit
set_option linter.unusedVariables false

theorem own : ownKnob Tryd.prog.godebug = none := by kernel_rfl
theorem laidOut : laidOutB Tryd.prog = true := by kernel_rfl
theorem star : "*" ++ "errors.errorString" = "*errors.errorString" := by decide
theorem errTypes : Nx.ErrTypes Tryd.prog 26 168 185 9 where
  hti := ⟨_, Tryd.underlying26⟩
  row := fun u h => typeName_ptr_named (nm := "errors.errorString") (by rw [star]; kernel_rfl) (by kernel_rfl) (by decide) u (by rw [star]; exact h)
  het := Tryd.underlying168
  hte := ⟨_, Tryd.underlying185, rfl, rfl⟩
  hts := Tryd.underlying9
  hce := by kernel_rfl
  hcs := by kernel_rfl
theorem glob {W : World} (hL : laidMetH Tryd.prog Rows.acquireSubsRow.laid W) : Nx.GlobOk (168 :: [0, 1, 2, 3, 4, 5]) (Nx.topEnv W (Nx.erOf W)) := by
  rw [MakeChecks.laidMetH_plain _ _ _ (by kernel_rfl)] at hL
  exact Nx.glob_of_laid errTypes (gs := [0,1,2,3,4,5]) (by kernel_rfl) (by kernel_rfl) (by kernel_rfl) hL (by decide)
theorem spec3 {H : Type} (ds : List (DataW H)) (h : ds.length = 2) : Rows.acquireSubsSpec.fn H ds = { results := [.lit (.bool true)], args := ds } := by
  match ds, h with
  | [d0, d1], _ => rfl
theorem door_met (os : Os) (args : Array Value) : laidMetH Tryd.prog Rows.acquireSubsRow.laid ((World.doorLaid Tryd.prog 400 os).forCall (fun _ _ => 0) ⟨#[], args, []⟩).memory :=
  laidMetH_of_parts3 (fuel := 8) (laidMet_of_run' 8 (by kernel_rfl) (by kernel_rfl)) (by kernel_rfl) (by kernel_rfl)
set_option maxRecDepth 100000 in
theorem lifted (os : Os) (started : os.Started) (H : Type) (enc : TypeId × Value → H) :
    ReturnsInHanded {} Tryd.checked os 3 .any (fun w args => (Rows.acquireSubsSpec.pre enc Tryd.prog Tryd.f3 [] false w args ∧ laidMetH Tryd.prog Rows.acquireSubsRow.laid w) ∧ sizedMet enc Tryd.prog Tryd.f3 (OpenSpec.ofChange Rows.acquireSubsSpec) false w args)
      (Rows.acquireSubsSpec.post enc Tryd.prog Tryd.f3 false true false false) := by
  refine returnsInHanded_of_change_and (C := Tryd.checked) (X := fun w _ => laidMetH Tryd.prog Rows.acquireSubsRow.laid w) (fun _ _ _ hh h => h.of_heap hh) own started (by kernel_rfl) Tryd.func3
    (ChangeSpec.witness_shaped (enc := enc) (C := Tryd.checked) (os := os) (X := fun w _ => laidMetH Tryd.prog Rows.acquireSubsRow.laid w) false (World.doorLaid Tryd.prog 400 os) #[.slice none 0 0, .int .i64 0] 8 rfl (World.shaped_of_RefB (by kernel_rfl) (by kernel_rfl)) (by kernel_rfl) (by kernel_rfl) (by kernel_rfl) (door_met os _)) ?_
  intro W base args ds gs before hval hW _ _ hL _
  exact Nx.Known.contract (shs := su.shsSu) (tb := 4) su.k_su laidOut (by kernel_rfl) (by kernel_rfl) rfl (by kernel_rfl) Tryd.underlying4 (fun ds h => spec3 ds (h.trans (by kernel_rfl))) su.su_law (Nx.erOf W) (glob hL) hval hW
theorem band {a b : Bool} (h : a = true) (k : b = true) : (a && b) = true := by rw [h, k]; rfl
theorem cl0 : (Rows.acquireSubsRow.wf (OpenSpec.ofChange Rows.acquireSubsSpec)) = true := by kernel_rfl
theorem cl1 : (laidOutB Tryd.prog) = true := by kernel_rfl
theorem cl2 : (mapsRowed Tryd.prog) = true := by kernel_rfl
theorem cl3 : (Tryd.f3.params.all (Tryd.prog.readableRec ·)) = true := by kernel_rfl
theorem cl4 : (namedTie Tryd.prog Rows.acquireSubsRow.named Rows.acquireSubsSpec.vars) = true := by kernel_rfl
theorem cl5 : ((Rows.acquireSubsRow.stops == [])) = true := by kernel_rfl
theorem cl6 : ((Tryd.prog.stops == [])) = true := by kernel_rfl
theorem cl7 : ((Rows.acquireSubsRow.knobs == [])) = true := by kernel_rfl
theorem cl8 : ((Tryd.prog.stopKnobs == [])) = true := by kernel_rfl
theorem cl9 : ((Rows.acquireSubsRow.inPlace == Tryd.prog.inPlace 3)) = true := by kernel_rfl
theorem cl10 : ((Rows.acquireSubsRow.unfollowed == Tryd.prog.unfollowed 3)) = true := by kernel_rfl
theorem cl11 : ((Rows.acquireSubsRow.recurses == Tryd.prog.recurses 3)) = true := by kernel_rfl
theorem cl12 : ((Rows.acquireSubsRow.named == Tryd.prog.varsNamed 3)) = true := by kernel_rfl
theorem cl13 : ((Rows.acquireSubsRow.maps == (Tryd.f3.params.toList ++ Rows.acquireSubsSpec.plain.varTypes Tryd.prog).any (Tryd.prog.mapsRec ·))) = true := by kernel_rfl
theorem cl14 : ((Rows.acquireSubsRow.ifaces == (Tryd.f3.params.toList ++ Rows.acquireSubsSpec.plain.varTypes Tryd.prog).any (Tryd.prog.ifacesRec ·))) = true := by kernel_rfl
theorem cl15 : ((Rows.acquireSubsRow.mapsOut == Tryd.prog.mapsAmong Tryd.f3.resultTypes.toList)) = true := by kernel_rfl
theorem cl16 : ((Rows.acquireSubsRow.loops == (Tryd.f3.params.toList ++ Rows.acquireSubsSpec.plain.varTypes Tryd.prog).any (Tryd.prog.loopsFrom ·))) = true := by kernel_rfl
theorem cl17 : ((Rows.acquireSubsRow.wideKeys == (Tryd.f3.params.toList ++ Rows.acquireSubsSpec.plain.varTypes Tryd.prog ++ Tryd.f3.resultTypes.toList).any (Tryd.prog.wideKeysFrom ·))) = true := by kernel_rfl
theorem cl18 : (Rows.acquireSubsSpec.vars.all (Tryd.prog.varReadable ·)) = true := by kernel_rfl
theorem cl19 : (Tryd.f3.resultTypes.all (fun t => Tryd.prog.readableRec t && decide (t < Tryd.prog.types.size))) = true := by kernel_rfl
theorem cl20 : ((Rows.acquireSubsRow.ifacesOut == Tryd.f3.resultTypes.toList.any (Tryd.prog.ifacesRec ·))) = true := by kernel_rfl
theorem cl21 : ((Rows.acquireSubsRow.loopsOut == Tryd.f3.resultTypes.toList.any (Tryd.prog.loopsFrom ·))) = true := by kernel_rfl
theorem cl22 : ((Rows.acquireSubsRow.plainKeys == Tryd.prog.plainKeys)) = true := by kernel_rfl
theorem cl23 : (Rows.acquireSubsRow.shortTexts.isNone) = true := by kernel_rfl
theorem cl24 : (Tryd.prog.stopsHeard) = true := by kernel_rfl
theorem cl25 : (Tryd.prog.mayEnter) = true := by kernel_rfl
theorem cl26 : ((Rows.acquireSubsRow.lifted == Tryd.prog.liftsFinal)) = true := by kernel_rfl
theorem cl27 : ((Tryd.prog.make == some Rows.acquireSubsRow.make)) = true := by kernel_rfl
theorem cl29 : ((Rows.acquireSubsRow.pinned == Rows.acquireSubsRow.pinnedBy)) = true := by kernel_rfl
theorem cl30 : ((Rows.acquireSubsRow.veiled == (Tryd.f3.params.toList ++ Rows.acquireSubsSpec.plain.varTypes Tryd.prog ++ Tryd.f3.resultTypes.toList).any (Tryd.prog.veiledRec ·))) = true := by kernel_rfl
theorem cl31 : (Rows.acquireSubsRow.veiledFits Tryd.prog Tryd.f3.params.toList (Tryd.f3.params.toList ++ Rows.acquireSubsSpec.plain.varTypes Tryd.prog ++ Tryd.f3.resultTypes.toList)) = true := by kernel_rfl
theorem closed : joinedFacts Tryd.prog 3 Tryd.f3 Rows.acquireSubsSpec Rows.acquireSubsRow = true := by
  unfold joinedFacts
  exact (band (band (band (band (band (band (band (band (band (band (band (band (band (band (band (band (band (band (band (band (band (band (band (band (band (band (band (band (band (band (band cl0 cl1) cl2) cl3) cl4) cl5) cl6) cl7) cl8) cl9) cl10) cl11) cl12) cl13) cl14) cl15) cl16) cl17) cl18) cl19) cl20) cl21) cl22) cl23) cl24) cl25) cl26) cl27) (by kernel_rfl)) cl29) cl30) cl31)
theorem said : Rows.AcquireSubsSaid :=
  OpenClaim.holds_of_wide 3 Tryd.f3 rfl rfl rfl rfl rfl rfl rfl ⟨rfl, rfl, rfl, rfl, rfl⟩ rfl rfl rfl rfl rfl (by kernel_rfl) Tryd.func3 closed
    (of_decide_eq_true (by kernel_rfl)) (by unfold Func.isWrapper; first | (rw [if_pos (by decide +kernel)]; kernel_rfl) | (rw [if_neg (by decide +kernel)]; exact ⟨rfl, rfl⟩))
    (fun os started H enc _ => lifted os started H enc)
/-- No parameter wants a stand-in; the program's own looks are as the card says. -/
theorem plain (f : FuncId) (fn : Func) (hf : Tryd.pinned.checked.prog.funcNamed Rows.acquireSubsRow.func = some f) (hfn : Tryd.pinned.checked.prog.funcs[f]? = some fn) :
    true = Tryd.pinned.checked.prog.looks [] ∧ ∀ (j : Nat) t, fn.params[j]? = some t → Tryd.pinned.checked.prog.wantsStandIn t = false := by
  obtain rfl : f = 3 := Option.some.inj ((show Tryd.prog.funcNamed Rows.acquireSubsRow.func = some 3 by kernel_rfl).symm.trans hf) |>.symm
  obtain rfl : fn = Tryd.f3 := (Option.some.inj (Tryd.func3.symm.trans hfn)).symm
  refine ⟨by kernel_rfl, fun j t ht => ?_⟩
  rw [Tryd.params3] at ht
  have hm : t ∈ [22, 3] := by simpa using Array.mem_of_getElem? ht
  have hall : ([22, 3].all fun u => !Tryd.prog.wantsStandIn u) = true := by kernel_rfl
  exact (show Tryd.prog.wantsStandIn t = false by simpa using List.all_eq_true.1 hall t hm)
/-- THE CARD. -/
theorem proved : Rows.AcquireSubsCardSaid :=
  Claim7.holds_tied_plain_at .later [] _ _ _ _ said (fun _ h => by cases h) (by kernel_rfl) (fun _ h => by cases h) acquireSubs_row_tie rfl ⟨rfl, rfl⟩ (by kernel_rfl) rfl plain (by kernel_rfl)
#print axioms proved
end Go.Proofs.YtlfmkacafppmlaaDoor.acquireSubs
