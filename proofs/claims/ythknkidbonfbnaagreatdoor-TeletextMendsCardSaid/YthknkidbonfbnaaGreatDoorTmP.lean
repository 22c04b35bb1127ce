/-
  TeletextMends: packets with one bit turned of each coded byte, of each triplet, leave the same screen, the same status
-/
import Derived.Test.YthknkidbonfbnaaGreatDoorCards
import Derived.Test.YthknkidbonfbnaaGreatDoorTie
import Derived.Test.YthknkidbonfbnaaGreatDoorTm7
import Derived.SevenTiedAt
import Derived.LaidMore
import Derived.Stop.Joined
namespace Go.Proofs.YthknkidbonfbnaaGreatDoor.teletextMends
open Go.ChangeShapes Go.WideShapes Go.ChangeAt Go.RowKit
set_option linter.unusedVariables false

theorem own : ownKnob Tryz.prog.godebug = none := by kernel_rfl
theorem laidOut : laidOutB Tryz.prog = true := by kernel_rfl
theorem star : "*" ++ "errors.errorString" = "*errors.errorString" := by decide
theorem errTypes : Nx.ErrTypes Tryz.prog 28 283 297 9 where
  hti := ⟨_, Tryz.underlying28⟩
  row := fun u h => typeName_ptr_named (nm := "errors.errorString") (by rw [star]; kernel_rfl) (by kernel_rfl) (by decide) u (by rw [star]; exact h)
  het := Tryz.underlying283
  hte := ⟨_, Tryz.underlying297, rfl, rfl⟩
  hts := Tryz.underlying9
  hce := by kernel_rfl
  hcs := by kernel_rfl
theorem glob {W : World} (hL : laidMetH Tryz.prog Rows.teletextMendsRow.laid W) : Nx.GlobOk (283 :: [0, 1, 2, 3]) (Nx.topEnv W (Nx.erOf W)) := by
  rw [MakeChecks.laidMetH_plain _ _ _ (by kernel_rfl)] at hL
  exact Nx.glob_of_laid errTypes (gs := [0,1,2,3]) (by kernel_rfl) (by kernel_rfl) (by kernel_rfl) hL (by decide)
theorem spec3 {H : Type} (ds : List (DataW H)) (h : ds.length = 2) : Rows.teletextMendsSpec.fn H ds = { results := [.lit (.bool true)], args := ds } := by
  match ds, h with
  | [d0, d1], _ => rfl
theorem door_met (os : Os) (args : Array Value) : laidMetH Tryz.prog Rows.teletextMendsRow.laid ((World.doorLaid Tryz.prog 400 os).forCall (fun _ _ => 0) ⟨#[], args, []⟩).memory :=
  laidMetH_of_parts3 (fuel := 8) (laidMet_of_run' 8 (by kernel_rfl) (by kernel_rfl)) (by kernel_rfl) (by kernel_rfl)
set_option maxRecDepth 100000 in
theorem lifted (os : Os) (started : os.Started) (H : Type) (enc : TypeId × Value → H) :
    ReturnsInHanded {} Tryz.checked os 6 .any (fun w args => (Rows.teletextMendsSpec.pre enc Tryz.prog Tryz.f6 [] false w args ∧ laidMetH Tryz.prog Rows.teletextMendsRow.laid w) ∧ sizedMet enc Tryz.prog Tryz.f6 (OpenSpec.ofChange Rows.teletextMendsSpec) false w args)
      (Rows.teletextMendsSpec.post enc Tryz.prog Tryz.f6 false true false false) := by
  refine returnsInHanded_of_change_and (C := Tryz.checked) (X := fun w _ => laidMetH Tryz.prog Rows.teletextMendsRow.laid w) (fun _ _ _ hh h => h.of_heap hh) own started (by kernel_rfl) Tryz.func6
    (ChangeSpec.witness_shaped (enc := enc) (C := Tryz.checked) (os := os) (X := fun w _ => laidMetH Tryz.prog Rows.teletextMendsRow.laid w) false (World.doorLaid Tryz.prog 400 os) #[.int .i64 0, .slice none 0 0] 8 rfl (World.shaped_of_RefB (by kernel_rfl) (by kernel_rfl)) (by kernel_rfl) (by kernel_rfl) (by kernel_rfl) (door_met os _)) ?_
  intro W base args ds gs before hval hW _ hz hL _
  exact Nx.Known.contractS (shs := tm.shsTm) (tb := 4) tm.k_tm laidOut (by kernel_rfl) (by kernel_rfl) rfl (by kernel_rfl) Tryz.underlying4 (fun ds h => spec3 ds (h.trans (by kernel_rfl))) tm.tm_law (Nx.erOf W) (glob hL) hval hW hz
theorem band {a b : Bool} (h : a = true) (k : b = true) : (a && b) = true := by rw [h, k]; rfl
theorem cl0 : (Rows.teletextMendsRow.wf (OpenSpec.ofChange Rows.teletextMendsSpec)) = true := by kernel_rfl
theorem cl1 : (laidOutB Tryz.prog) = true := by kernel_rfl
theorem cl2 : (mapsRowed Tryz.prog) = true := by kernel_rfl
theorem cl3 : (Tryz.f6.params.all (Tryz.prog.readableRec ·)) = true := by kernel_rfl
theorem cl4 : (namedTie Tryz.prog Rows.teletextMendsRow.named Rows.teletextMendsSpec.vars) = true := by kernel_rfl
theorem cl5 : ((Rows.teletextMendsRow.stops == [])) = true := by kernel_rfl
theorem cl6 : ((Tryz.prog.stops == [])) = true := by kernel_rfl
theorem cl7 : ((Rows.teletextMendsRow.knobs == [])) = true := by kernel_rfl
theorem cl8 : ((Tryz.prog.stopKnobs == [])) = true := by kernel_rfl
theorem cl9 : ((Rows.teletextMendsRow.inPlace == Tryz.prog.inPlace 6)) = true := by kernel_rfl
theorem cl10 : ((Rows.teletextMendsRow.unfollowed == Tryz.prog.unfollowed 6)) = true := by kernel_rfl
theorem cl11 : ((Rows.teletextMendsRow.recurses == Tryz.prog.recurses 6)) = true := by kernel_rfl
theorem cl12 : ((Rows.teletextMendsRow.named == Tryz.prog.varsNamed 6)) = true := by kernel_rfl
theorem cl13 : ((Rows.teletextMendsRow.maps == (Tryz.f6.params.toList ++ Rows.teletextMendsSpec.plain.varTypes Tryz.prog).any (Tryz.prog.mapsRec ·))) = true := by kernel_rfl
theorem cl14 : ((Rows.teletextMendsRow.ifaces == (Tryz.f6.params.toList ++ Rows.teletextMendsSpec.plain.varTypes Tryz.prog).any (Tryz.prog.ifacesRec ·))) = true := by kernel_rfl
theorem cl15 : ((Rows.teletextMendsRow.mapsOut == Tryz.prog.mapsAmong Tryz.f6.resultTypes.toList)) = true := by kernel_rfl
theorem cl16 : ((Rows.teletextMendsRow.loops == (Tryz.f6.params.toList ++ Rows.teletextMendsSpec.plain.varTypes Tryz.prog).any (Tryz.prog.loopsFrom ·))) = true := by kernel_rfl
theorem cl17 : ((Rows.teletextMendsRow.wideKeys == (Tryz.f6.params.toList ++ Rows.teletextMendsSpec.plain.varTypes Tryz.prog ++ Tryz.f6.resultTypes.toList).any (Tryz.prog.wideKeysFrom ·))) = true := by kernel_rfl
theorem cl18 : (Rows.teletextMendsSpec.vars.all (Tryz.prog.varReadable ·)) = true := by kernel_rfl
theorem cl19 : (Tryz.f6.resultTypes.all (fun t => Tryz.prog.readableRec t && decide (t < Tryz.prog.types.size))) = true := by kernel_rfl
theorem cl20 : ((Rows.teletextMendsRow.ifacesOut == Tryz.f6.resultTypes.toList.any (Tryz.prog.ifacesRec ·))) = true := by kernel_rfl
theorem cl21 : ((Rows.teletextMendsRow.loopsOut == Tryz.f6.resultTypes.toList.any (Tryz.prog.loopsFrom ·))) = true := by kernel_rfl
theorem cl22 : ((Rows.teletextMendsRow.plainKeys == Tryz.prog.plainKeys)) = true := by kernel_rfl
theorem cl23 : (Rows.teletextMendsRow.shortTexts.isNone) = true := by kernel_rfl
theorem cl24 : (Tryz.prog.stopsHeard) = true := by kernel_rfl
theorem cl25 : (Tryz.prog.mayEnter) = true := by kernel_rfl
theorem cl26 : ((Rows.teletextMendsRow.lifted == Tryz.prog.liftsFinal)) = true := by kernel_rfl
theorem cl27 : ((Tryz.prog.make == some Rows.teletextMendsRow.make)) = true := by kernel_rfl
theorem cl29 : ((Rows.teletextMendsRow.pinned == Rows.teletextMendsRow.pinnedBy)) = true := by kernel_rfl
theorem cl30 : ((Rows.teletextMendsRow.veiled == (Tryz.f6.params.toList ++ Rows.teletextMendsSpec.plain.varTypes Tryz.prog ++ Tryz.f6.resultTypes.toList).any (Tryz.prog.veiledRec ·))) = true := by kernel_rfl
theorem cl31 : (Rows.teletextMendsRow.veiledFits Tryz.prog Tryz.f6.params.toList (Tryz.f6.params.toList ++ Rows.teletextMendsSpec.plain.varTypes Tryz.prog ++ Tryz.f6.resultTypes.toList)) = true := by kernel_rfl
theorem closed : joinedFacts Tryz.prog 6 Tryz.f6 Rows.teletextMendsSpec Rows.teletextMendsRow = true := by
  unfold joinedFacts
  exact (band (band (band (band (band (band (band (band (band (band (band (band (band (band (band (band (band (band (band (band (band (band (band (band (band (band (band (band (band (band (band cl0 cl1) cl2) cl3) cl4) cl5) cl6) cl7) cl8) cl9) cl10) cl11) cl12) cl13) cl14) cl15) cl16) cl17) cl18) cl19) cl20) cl21) cl22) cl23) cl24) cl25) cl26) cl27) (by kernel_rfl)) cl29) cl30) cl31)
theorem said : Rows.TeletextMendsSaid :=
  OpenClaim.holds_of_wide 6 Tryz.f6 rfl rfl rfl rfl rfl rfl rfl ⟨rfl, rfl, rfl, rfl, rfl⟩ rfl rfl rfl rfl rfl (by kernel_rfl) Tryz.func6 closed
    (of_decide_eq_true (by kernel_rfl)) (by unfold Func.isWrapper; first | (rw [if_pos (by decide +kernel)]; kernel_rfl) | (rw [if_neg (by decide +kernel)]; exact ⟨rfl, rfl⟩))
    (fun os started H enc _ => lifted os started H enc)
/-- No parameter wants a stand-in; the program's own looks are as the card says. -/
theorem plain (f : FuncId) (fn : Func) (hf : Tryz.pinned.checked.prog.funcNamed Rows.teletextMendsRow.func = some f) (hfn : Tryz.pinned.checked.prog.funcs[f]? = some fn) :
    true = Tryz.pinned.checked.prog.looks [] ∧ ∀ (j : Nat) t, fn.params[j]? = some t → Tryz.pinned.checked.prog.wantsStandIn t = false := by
  obtain rfl : f = 6 := Option.some.inj ((show Tryz.prog.funcNamed Rows.teletextMendsRow.func = some 6 by kernel_rfl).symm.trans hf) |>.symm
  obtain rfl : fn = Tryz.f6 := (Option.some.inj (Tryz.func6.symm.trans hfn)).symm
  refine ⟨by kernel_rfl, fun j t ht => ?_⟩
  rw [Tryz.params6] at ht
  have hm : t ∈ [3, 81] := by simpa using Array.mem_of_getElem? ht
  have hall : ([3, 81].all fun u => !Tryz.prog.wantsStandIn u) = true := by kernel_rfl
  exact (show Tryz.prog.wantsStandIn t = false by simpa using List.all_eq_true.1 hall t hm)
/-- THE CARD. -/
theorem proved : Rows.TeletextMendsCardSaid :=
  Claim7.holds_tied_plain_at .later [] _ _ _ _ said (fun _ h => by cases h) (by kernel_rfl) (fun _ h => by cases h) teletextMends_row_tie rfl ⟨rfl, rfl⟩ (by kernel_rfl) rfl plain (by kernel_rfl)
#print axioms proved
end Go.Proofs.YthknkidbonfbnaaGreatDoor.teletextMends
