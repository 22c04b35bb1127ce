/-
  The engine, part 31: ranges over functions: one round; the statement.
-/
import Derived.Test.YtnhadghddkgjdaaEng30
namespace Go.Nx
open Go

theorem zip_fold {Γ : Env} : ∀ (ps : List Tmp) (args : List NV) (vs : List Value) (fr : List NS) (t : Array Value), FrRel Γ fr t → R2 (VRel Γ) args vs →
    FrRel Γ (setAll fr ps args) ((ps.zip vs).foldl (fun t (x : Tmp × Value) => t.setIfInBounds x.1 x.2) t)
  | [], _, _, _, _, h, _ => by simpa [setAll] using h
  | _ :: _, _, _, _, _, h, .nil => by simpa [setAll] using h
  | p :: ps, _, _, fr, t, h, .cons (a := x) (b := v) r rs => by
    simp only [setAll, List.zip_cons_cons, List.foldl_cons]
    refine zip_fold ps _ _ _ _ ?_ rs
    show R2 (SRel Γ) (fr.set p (.v x)) (t.setIfInBounds p v).toList
    rw [Array.toList_setIfInBounds]
    exact R2.set h p r
/-- A loop's record. -/
def rcOf (fn : FuncId) (tmps : Array Value) (ps : Array Tmp) (assign body : Code) (D : Nat) : LoopState → Option Code → Loop := fun st pe => { state := st, pending := pe, fn := fn, tmps := tmps, params := ps, assign := assign, body := body, defers := D }
theorem bodyY_ok {X : Cx} (hcon : ∀ f T, X.con f = some T → Known X.P X.glob f T) {Γ0 : Env} {w0 : World} {fn : FuncId} {tmps : Array Value} {ps : Array Tmp} {assign body : Code} {D l : Nat} {fr : List NS} (ha : simple assign = true) (hb : simple body = true) (hfr : FrRel Γ0 fr tmps) :
    YOk X.P X.glob l (rcOf fn tmps ps assign body D) Γ0 w0 (bodyY X ps assign body fr) := by
  intro args rg vs Γ w R hE hW hw hG hnw hk hargs h
  unfold bodyY at h
  split at h
  case isFalse => exact h.elim
  rename_i hlen
  have hl : w.heap[l]? = some (.loop (rcOf fn tmps ps assign body D .ready none)) := hw.kp l _ hk
  have hy := run_yield (P := X.P) (args := vs.toArray) hl (by show vs.toArray.size = ps.size; rw [List.size_toArray, ← hargs.length]; exact hlen)
  refine ⟨fn, _, assign, body, hy, roundIn_of_wpIn trivial ?_⟩
  have hfr' : FrRel Γ (setAll fr ps.toList args) ((ps.zip vs.toArray).foldl (fun tmps (t, a) => tmps.setIfInBounds t a) tmps) := by
    have := zip_fold ps.toList args vs fr tmps (hfr.mono hE.le) hargs
    rw [← Array.foldl_toList, Array.toList_zip]
    exact this
  have hI : Inv X.glob 0 Γ { fr := setAll fr ps.toList args, rg := rg } { tmps := (ps.zip vs.toArray).foldl (fun tmps (t, a) => tmps.setIfInBounds t a) tmps, defers := [] } w := ⟨hw, hfr', hG, hnw, Df.nil _ _⟩
  have hds : ∀ {Γ' : Env} {s' : St} {a' : Act} {w' : World} {p : Option NExit} {st : LoopState} {o' : Obj}, Inv X.glob 0 Γ' s' a' w' → Γ'.kp l = some (.loop (rcOf fn tmps ps assign body D st (p.map codeOf))) → o'.isCells = false → Inv X.glob 0 ((Γ'.strip [l]).hold l o') s' a' (w'.putObj l o') :=
    fun h1 h2 h3 => h1.turn h2 rfl h3 fun D _ hD e => by rw [e, h2] at hD; cases hD
  refine nwpR_sound (X := { P := X.P, con := X.con, glob := X.glob, m := rg.length, loops := [] }) hcon l 0 assign ha hI h fun e s1 a1 w1 Γ1 h1 hE1 hW1 hI1 => ?_
  cases e with
  | exit j => exact h1.elim
  | ret => exact h1.elim
  | normal =>
    have hk1 : Γ1.kp l = some (.loop (rcOf fn tmps ps assign body D .ready none)) := hE1.le.kp _ _ hk
    have hl1 := hI1.wr.kp l _ hk1
    refine ⟨_, run_beginRound hl1 rfl, ?_⟩
    have hI2 := hds (p := none) (o' := .loop (rcOf fn tmps ps assign body D .busy none)) hI1 hk1 rfl
    refine nwpR_sound (X := { P := X.P, con := X.con, glob := X.glob, m := rg.length, loops := [] }) hcon l 0 body hb hI2 h1 fun e s3 a3 w3 Γ3 h3 hE3 hW3 hI3 => ?_
    have hk3 : Γ3.kp l = some (.loop (rcOf fn tmps ps assign body D .busy none)) := hE3.le.kp _ _ hold_kp
    have hl3 := hI3.wr.kp l _ hk3
    have fin : ∀ p : Option NExit, R (p, s3.rg) → ∃ v w', (Instr.endRound l (p.map codeOf)).run X.P w3 = .ok v w' ∧ ∃ p rg' Γ', R (p, rg') ∧ Ending.returned v = .returned (.bool p.isNone) ∧ Ext (Γ.strip [l]) w Γ' ∧ Wd w w' ∧ WRel Γ' rg' w' ∧ GlobOk X.glob Γ' ∧ (∀ n, rg'.length ≤ n → Γ'.μ n = none) ∧ Γ'.kp l = some (pObj (rcOf fn tmps ps assign body D) p) := by
      intro p hp
      have hI4 := hds (p := none) (o' := pObj (rcOf fn tmps ps assign body D) p) hI3 hk3 rfl
      have hrun := run_endRound (P := X.P) (p.map codeOf) hl3
      have e1 : (p.map codeOf).isNone = p.isNone := by cases p <;> rfl
      rw [e1] at hrun
      refine ⟨_, _, hrun, p, s3.rg, _, hp, rfl, ?_, ?_, hI4.wr, hI4.gl, hI4.nw, hold_kp⟩
      · have x1 := hE1.strip2 [l]
        have x2 := hE3.strip2 [l]
        rw [strip_hold, strip_strip] at x2
        exact (x1.trans (hW1.trans (putObj_wd w1 l _)) x2).trans ((hW1.trans (putObj_wd w1 l _)).trans hW3) (hold_ext (strip_none l Γ3))
      · exact ((hW1.trans (putObj_wd w1 l _)).trans hW3).trans (putObj_wd w3 l _)
    cases e with
    | normal => exact fin none h3
    | ret => exact fin (some .ret) h3
    | exit j => exact fin (some (.exit j)) h3

theorem heap_none {w : World} : w.heap[w.heap.size]? = none := by simp
theorem run_results_none {P : Program} {fn : Func} (h : fn.results = #[]) (t : Array Value) (w : World) : ∃ v, (results fn t).run P w = .ok v w := by
  have e0 : results fn t = (do
      let vs ← fn.results.mapM (rvRun { tmps := t, defers := [] })
      pure (if h : vs.size = 1 then vs[0] else .tuple vs)) := by
    unfold results
    congr 1
  rw [e0, h]
  simp
set_option maxHeartbeats 1000000 in
theorem rangeT_ok {X : Cx} (hcon : ∀ f T, X.con f = some T → Known X.P X.glob f T) {K : Nat} {con : FuncId → Option Con} (hconI : ∀ f T, con f = some T → Known X.P X.glob f T) {ls : Nat → List NS → LI} {id : Nat} {out : List Nat} {gf : FuncId} {fn : Func} {cg : Code} {g : Operand} {ps : Array Tmp} {assign body : Code}
    (hf : X.P.funcs[gf]? = some fn) (hb : fn.body = some cg) (hname : (fn.name == "runtime.NumGoroutine") = false) (hres : fn.results = #[]) (ha : simple assign = true) (hbd : simple body = true) (ht : tame cg = true)
    (hls : ∀ m fr, LAllI { P := X.P, con := con, glob := X.glob, m := m, loops := [] } (bodyY X ps assign body fr) K (ls m fr) cg) :
    RgOk X.P X.glob X.m id (.rangeFunc g ps assign body) (rangeT X K con ls id out gf fn (.rangeFunc g ps assign body)) := by
  intro Γ0 w0 h0 s Γ a w R Q hI hE hW hL hK
  simp only [rangeT] at hL
  split at hL
  case h_2 => exact hL.elim
  rename_i gf' cap hg
  split at hL
  case h_2 => exact hL.elim
  rename_i cg' hcond hb'
  rw [hb] at hb'
  cases hb'
  simp only [Bool.and_eq_true, decide_eq_true_eq, Bool.not_eq_true'] at hcond
  obtain ⟨⟨⟨rfl, hfe⟩, hre⟩, hke⟩ := hcond
  have eg : ∀ args w, (callFunc gf' args).run X.P w = .ok (.enter gf' args) w := fun args w => by
    have h1 : fn.name ≠ "runtime.NumGoroutine" := by simpa using hname
    simp [callFunc, hf, h1, hb]
  have rg0 := ev_rel hI.fr g
  rw [hg] at rg0
  obtain ⟨⟨caps, hgv, hcap⟩, -⟩ := rg0
  have hgv : a.eval g = .func (.func gf') #[] caps.toArray := hgv
  refine wp_block ((wpIn_wide (n := 0)).1 (wpIn_rangeFunc fun fnc _ => ?_))
  obtain ⟨rc, hrc⟩ : ∃ rc, rc = rcOf fnc a.tmps ps assign body w.heap.size := ⟨_, rfl⟩
  obtain ⟨W1, hW1⟩ : ∃ W1, (w.alloc (.deferred (some []))).alloc (.loop (rc .ready none)) = W1 := ⟨_, rfl⟩
  have hsz : W1.heap.size = w.heap.size + 2 := by rw [← hW1]; simp
  have hL1 : W1.heap[w.heap.size + 1]? = some (.loop (rc .ready none)) := by
    rw [← hW1]; have := World.alloc_heap_new (w.alloc (.deferred (some []))) (.loop (rc .ready none)); rwa [World.size_alloc] at this
  have hD1 : W1.heap[w.heap.size]? = some (.deferred (some [])) := by
    rw [← hW1]; exact (heap_alloc_lt _ _ _ (by simp)).trans (World.alloc_heap_new w _)
  have hold1 : ∀ b, b < w.heap.size → W1.heap[b]? = w.heap[b]? := fun b hb => by
    rw [← hW1]; exact (heap_alloc_lt _ _ _ (by simp; omega)).trans (heap_alloc_lt _ _ _ hb)
  have hWd1 : Wd w W1 := by
    rw [← hW1]; exact ⟨rfl, rfl, rfl, by simp; omega⟩
  have hkn : ∀ b, w.heap.size ≤ b → Γ.kp b = none ∧ Γ.ro b = false := fun b hb => by
    have h1 : Γ.kp b = none := by
      cases hk : Γ.kp b with
      | none => rfl
      | some o =>
        have := (Array.getElem?_eq_some_iff.1 (hI.wr.kp b o hk)).1
        omega
    refine ⟨h1, ?_⟩
    cases hr : Γ.ro b with
    | false => rfl
    | true => obtain ⟨o, ho⟩ := hI.wr.ro b hr; rw [h1] at ho; cases ho
  -- what is said of memory where the function begins
  let yv : Value := .func (.yield (w.heap.size + 1)) #[] #[]
  let ΓD : Env := Γ.hold w.heap.size (.deferred (some []))
  let ΓE : Env := ΓD.setE K yv
  let Γ1 : Env := ΓE.hold (w.heap.size + 1) (pObj rc none)
  have wD : WRel ΓD s.rg W1 := (hI.wr.mono_heap hold1).hold (hkn _ (Nat.le_refl _)).1 hD1 rfl
  have wE : WRel ΓE s.rg W1 := (SwapE.set K yv ΓD).world hre wD
  have kE : ΓE.kp (w.heap.size + 1) = none := by
    show (if w.heap.size + 1 = w.heap.size then _ else Γ.kp (w.heap.size + 1)) = none
    rw [if_neg (by omega)]
    exact (hkn _ (by omega)).1
  have rE : ΓE.ro (w.heap.size + 1) = false := (hkn _ (by omega)).2
  have w1 : WRel Γ1 s.rg W1 := wE.hold kE hL1 rfl
  have leD : Γ.le ΓD := hold_le (hkn _ (Nat.le_refl _)).1
  have le1 : ΓE.le Γ1 := hold_le kE
  have frE : FrRel ΓE s.fr a.tmps := (SwapE.set K yv ΓD).frame hfe (hI.fr.mono leD)
  have gE : GlobOk X.glob ΓE := (SwapE.set K yv ΓD).glob hke (hI.gl.mono leD)
  have hyv : ΓE.er K = some yv := if_pos rfl
  have hEx1 : Ext ΓE W1 Γ1 := hold_ext kE
  have hcapE : R2 (fun (x : Nat × Nat × Nat) u => ∃ B, ΓE.μ x.1 = some B ∧ u = .pointer (some ⟨B.blk, x.2.1 * B.st + x.2.2, none⟩)) cap caps := hcap
  have hIt : InvI X.glob K (w.heap.size + 1) rc W1.heap.size Γ1 { fr := (.v (.c (.e K)) :: cap.map fun x => .v (.c (.p x.1 x.2.1 x.2.2))) ++ List.replicate (fn.ntmps - (1 + cap.length)) .dead, rg := s.rg }
      { tmps := (#[yv] ++ caps.toArray) ++ Array.replicate (fn.ntmps - (#[yv] ++ caps.toArray).size) undef, defers := [] } W1 none := by
    refine ⟨⟨w1, ?_, gE.mono le1, fun n hn => hI.nw n hn, Df.nil _ _⟩, ?_, hold_kp⟩
    · have e : ((#[yv] ++ caps.toArray) ++ Array.replicate (fn.ntmps - (#[yv] ++ caps.toArray).size) undef).toList = (yv :: caps) ++ List.replicate (fn.ntmps - (1 + cap.length)) undef := by
        simp [hcap.length, Nat.add_comm]
      show R2 (SRel Γ1) _ (Array.toList _)
      rw [e]
      refine R2.append (.cons ⟨hyv, rfl⟩ ?_) (R2.replicate _ (show SRel Γ1 .dead undef from trivial))
      refine R2.map_left hcapE ?_
      rintro x u ⟨B, h1, h2⟩
      exact ⟨⟨B, h1, h2⟩, by rw [h2]; rfl⟩
    · exact hyv
  refine ⟨w.heap.size + 1, [{ target := .collected w.heap.size, args := #[] }], W1, { target := .fn (.func gf') caps.toArray, args := #[yv] }, W1, gf', #[yv] ++ caps.toArray, W1, ?_, ?_, ?_, ?_, fun hh => by simp [Fence.wide] at hh, ?_⟩
  · rw [← hW1, hrc]; exact run_enterLoop_outer _ _ _ _ _
  · simp only [resolve, hgv]
    simp [go_sem, yv]
  · intro f' _; trivial
  · simp [invoke, go_sem, eg]
  refine callsIn_of_wp_marks hf hb trivial ?_ rfl
  refine nwpI_sound (X := { P := X.P, con := con, glob := X.glob, m := s.rg.length, loops := [] }) (Γ0 := ΓE) (w0 := W1) hconI (fun n hn => hI.nw n hn) (by rw [hsz]; omega) kE rE (hrc ▸ bodyY_ok hcon ha hbd frE) cg ht (hls s.rg.length s.fr) hIt hEx1 (Wd.refl W1) hL fun e s' p' a' w' Γ' h' hE' hW' hI' => ?_
  have key : (rangeEnd X K id out s.fr s' p').run R → LeavesInM Fence.wide 0 X.P fn a'.tmps (rangePost Fence.wide 0 X.P (w.heap.size + 1) (Exit.inBlock id Q) { a with defers := [{ target := .collected w.heap.size, args := #[] }] ++ a.defers }) a'.defers .returning w' := by
    intro h'
    unfold rangeEnd at h'
    split at h'
    case h_2 => exact h'.elim
    rename_i e2 s2 hre' hex hnorm
    have wE' : WRel ΓE s.rg W1 := wE
    obtain ⟨ds, Γs, hd, hnd, hheap, hEs, hIs, hlow, hge⟩ := hI'.inv.shut hE' wE' (Nat.le_refl _)
    rw [hd]
    refine leaves_marks ds hnd hheap ?_
    obtain ⟨v, hv⟩ := run_results_none (P := X.P) hres a'.tmps (shut ds w')
    refine ⟨v, hv, ?_⟩
    have hkl : Γs.kp (w.heap.size + 1) = some (pObj rc p') := by rw [hlow _ (by rw [hsz]; omega)]; exact hI'.rc
    have hls' : (shut ds w').heap[w.heap.size + 1]? = some (pObj rc p') := hIs.wr.kp _ _ hkl
    have hend : (Instr.endLoop (w.heap.size + 1)).run X.P (shut ds w') = .ok (p'.map codeOf) ((shut ds w').putObj (w.heap.size + 1) (.loop { rc (if p'.isNone then .ready else .done) (p'.map codeOf) with state := .exhausted })) := by
      have h4 := run_endLoop (P := X.P) hls' (by rw [hrc]; cases p' <;> simp [rcOf])
      have h5 : (rc (if p'.isNone then .ready else .done) (p'.map codeOf)).pending = p'.map codeOf := by rw [hrc]; rfl
      exact h4.trans (congrArg (fun x => Result.ok x _) h5)
    refine ⟨_, _, hend, ?_⟩
    -- behind the loop
    have hno := noCells_one hkl rfl
    have hEf : Ext ΓE W1 (Γs.strip [w.heap.size + 1]) := hEs.strip fun b hb => by rw [List.mem_singleton] at hb; subst hb; exact ⟨kE, rE⟩
    let Γf : Env := { μ := (Γs.strip [w.heap.size + 1]).μ, kp := (Γs.strip [w.heap.size + 1]).kp, ro := (Γs.strip [w.heap.size + 1]).ro, er := Γ.er }
    have hsw : SwapE K (Γs.strip [w.heap.size + 1]) Γf := ⟨rfl, rfl, rfl, fun k hk => by
      show Γ.er k = (Γs.strip [w.heap.size + 1]).er k
      rw [hEf.le.er]
      exact (if_neg hk).symm⟩
    have hle : Γ.le Γf := ⟨fun n B h => hEf.le.μ n B h, fun b o h => hEf.le.kp b o (leD.kp b o h), fun b h => hEf.le.ro b h, rfl⟩
    have hExf : Ext Γ w Γf := by
      refine ⟨hle, fun b hb => ?_, fun n B hB => ?_⟩
      · rcases hEf.ro b hb with h1 | h1 | h1
        · exact .inl h1
        · exact .inr (.inl (by omega))
        · exact .inr (.inr h1)
      · rcases hEf.nw n B hB with h1 | h1
        · exact .inl (by omega)
        · exact .inr h1
    have hIf : Inv X.glob w0.heap.size Γf { fr := s.fr, rg := s'.rg } { a with defers := [{ target := .collected w.heap.size, args := #[] }] ++ a.defers } ((shut ds w').putObj (w.heap.size + 1) (.loop { rc (if p'.isNone then .ready else .done) (p'.map codeOf) with state := .exhausted })) := by
      refine ⟨hsw.world hre' (hIs.wr.strip hno other_heap), hI.fr.mono hle, hI.gl.mono hle, fun n hn => hIs.nw n hn, ?_⟩
      obtain ⟨l, h1, h2, h3⟩ := hI.df
      refine ⟨w.heap.size :: l, by rw [List.map_cons, ← h1]; rfl, List.nodup_cons.2 ⟨fun hm => ?_, h2⟩, fun D hD => ?_⟩
      · have := (Array.getElem?_eq_some_iff.1 (hI.wr.kp _ _ (h3 _ hm).2)).1
        omega
      · rcases List.mem_cons.1 hD with rfl | hD
        · refine ⟨hW.size, hEf.le.kp _ _ ?_⟩
          exact hold_kp
        · exact ⟨(h3 D hD).1, hle.kp _ _ (h3 D hD).2⟩
    have hWf : Wd w0 ((shut ds w').putObj (w.heap.size + 1) (.loop { rc (if p'.isNone then .ready else .done) (p'.map codeOf) with state := .exhausted })) := (((hW.trans hWd1).trans hW').trans (shut_wd ds w')).trans (putObj_wd _ _ _)
    obtain ⟨Γ3, hE3, hI3⟩ := norm_sound hIf (hE.trans hW hExf) h0 hnorm
    have fin := hK e2 s2 _ _ Γ3 h' hE3 hWf hI3
    cases p' with
    | none => cases hex; exact fin
    | some j =>
      cases j with
      | normal => cases hex
      | ret =>
        cases hex
        exact wpIn_ret fin
      | exit j =>
        refine wpIn_exit ?_
        show if j = id then _ else _
        unfold outExit at hex
        simp only at hex
        split at hex
        · rename_i e; cases hex; rw [if_pos e]; exact fin
        · rename_i e; cases hex; rw [if_neg e]; exact fin
  cases e with
  | normal => exact key h'
  | ret => exact key h'
  | exit j => exact h'.elim
/-- A function with one range over a function and no loops. -/
theorem LAll.range {X : Cx} {c : Code} {id : Nat} {b : Code} {live : List Nat} {L : St → Tr (NExit × St)} (hl : loopsIn c = []) (hr : rangesIn c = [(id, b)]) (hx : X.loops = [(id, live, L)]) (h : RgOk X.P X.glob X.m id b L) : LAll X c := by
  refine ⟨fun i body hb => (by rw [hl] at hb; cases hb), fun i b' hb x hf => ?_⟩
  rw [hr, List.mem_singleton] at hb
  cases hb
  rw [hx] at hf
  simp at hf
  subst hf
  exact h
end Go.Nx
