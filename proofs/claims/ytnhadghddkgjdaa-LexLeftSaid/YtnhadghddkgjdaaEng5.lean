/-
  The engine, part 5: what the light operations do is what the model does: loads, stores, addresses, slices.
-/
import Derived.Test.YtnhadghddkgjdaaEng4
namespace Go.Nx
open Go

theorem allT_cons {b : Bool} {l : List Bool} : allT (b :: l) ↔ b = true ∧ allT l := by simp [allT]
theorem allT_nil : allT [] := by simp [allT]

/-! ### rows of records -/
theorem rowsV_length (ks : List CK) (xs : List (List Sc)) : (rowsV ks xs).length = xs.length * ks.length := by
  induction xs with
  | nil => simp [rowsV]
  | cons a xs ih =>
    have e : rowsV ks (a :: xs) = rowVals ks a ++ rowsV ks xs := by simp [rowsV]
    rw [e, List.length_append, ih, rowVals_length, List.length_cons, Nat.succ_mul]; omega
theorem rowsV_drop (ks : List CK) (xs : List (List Sc)) (i : Nat) : (rowsV ks xs).drop (i * ks.length) = rowsV ks (xs.drop i) := by
  induction i generalizing xs with
  | zero => simp
  | succ i ih =>
    cases xs with
    | nil => simp [rowsV]
    | cons a xs =>
      have e : rowsV ks (a :: xs) = rowVals ks a ++ rowsV ks xs := by simp [rowsV]
      rw [e, Nat.succ_mul, Nat.add_comm, ← List.drop_drop]
      have : (rowVals ks a ++ rowsV ks xs).drop ks.length = rowsV ks xs := by
        rw [List.drop_append]
        simp
      rw [this, ih]
      simp
theorem rowsV_take (ks : List CK) (xs : List (List Sc)) (i : Nat) : (rowsV ks xs).take (i * ks.length) = rowsV ks (xs.take i) := by
  induction i generalizing xs with
  | zero => simp [rowsV]
  | succ i ih =>
    cases xs with
    | nil => simp [rowsV]
    | cons a xs =>
      have e : rowsV ks (a :: xs) = rowVals ks a ++ rowsV ks xs := by simp [rowsV]
      have e2 : rowsV ks ((a :: xs).take (i + 1)) = rowVals ks a ++ rowsV ks (xs.take i) := by simp [rowsV]
      rw [e, e2, Nat.succ_mul, Nat.add_comm, List.take_append]
      simp only [rowVals_length, Nat.add_sub_cancel_left]
      rw [ih, List.take_of_length_le (by simp)]
theorem rowsV_row (ks : List CK) (xs : List (List Sc)) (i : Nat) (h : i < xs.length) : ((rowsV ks xs).drop (i * ks.length)).take ks.length = rowVals ks (xs.getD i []) := by
  rw [rowsV_drop]
  have e : xs.drop i = xs[i] :: xs.drop (i + 1) := List.drop_eq_getElem_cons h
  have e2 : rowsV ks (xs[i] :: xs.drop (i + 1)) = rowVals ks xs[i] ++ rowsV ks (xs.drop (i + 1)) := by unfold rowsV; rw [List.flatMap_cons]
  have e3 : xs.getD i [] = xs[i] := by simp [List.getD_eq_getElem?_getD, h]
  rw [e, e2, List.take_append_of_le_length (by simp), e3, List.take_of_length_le (by simp)]
theorem rowsV_get (ks : List CK) (xs : List (List Sc)) (i c : Nat) (k : CK) (h : i < xs.length) (hk : ks[c]? = some k) :
    (rowsV ks xs)[i * ks.length + c]? = some (ckVal k ((xs.getD i []).getD c (.i 0))) := by
  have hc : c < ks.length := (List.getElem?_eq_some_iff.1 hk).1
  have h1 := rowsV_row ks xs i h
  have h2 : (rowVals ks (xs.getD i []))[c]? = some (ckVal k ((xs.getD i []).getD c (.i 0))) := by
    have := rowFrom_get ckVal ks (xs.getD i []) 0 c k hk
    simpa [rowVals] using this
  rw [← h1, List.getElem?_take, if_pos hc, List.getElem?_drop] at h2
  exact h2
theorem rowsV_set (ks : List CK) (xs : List (List Sc)) (i : Nat) (row : List Sc) (h : i < xs.length) : rowsV ks (xs.set i row) = splice (rowsV ks xs) (i * ks.length) (rowVals ks row) := by
  have e : xs.set i row = xs.take i ++ row :: xs.drop (i + 1) := List.set_eq_take_append_cons_drop.trans (by simp [h])
  have e2 : rowsV ks (xs.take i ++ row :: xs.drop (i + 1)) = rowsV ks (xs.take i) ++ rowVals ks row ++ rowsV ks (xs.drop (i + 1)) := by simp [rowsV]
  rw [e, e2, splice, rowsV_take, rowVals_length]
  have : i * ks.length + ks.length = (i + 1) * ks.length := by rw [Nat.succ_mul]
  rw [this, rowsV_drop]
theorem rowsNC_rel (Γ : Env) (ks : List CK) (xs : List (List Sc)) : R2 (CR Γ) (rowsNC ks xs) (rowsV ks xs) := by
  induction xs with
  | nil => exact .nil
  | cons a xs ih =>
    have e1 : rowsNC ks (a :: xs) = rowCells ks a ++ rowsNC ks xs := by simp [rowsNC]
    have e2 : rowsV ks (a :: xs) = rowVals ks a ++ rowsV ks xs := by simp [rowsV]
    rw [e1, e2]
    exact (rowCells_rel Γ ks a).append ih
theorem intsNC_rel (Γ : Env) (k : IntKind) (xs : List Int) : R2 (CR Γ) (intsNC k xs) (xs.map (.int k)) := R2.self_map _ _ _ fun _ => ⟨rfl, rfl⟩

/-! ### loads -/
section
variable {P : Program} {w : World} {t : TypeId} {d : TypeDesc}
theorem run_loadAt_one {a : Addr} {v : Value} (hu : P.underlying t = some d) (ha : isAggT P t = false) (hc : w.cell? a = some v) : (Instr.loadAt t (.pointer (some a))).run P w = .ok v w := by
  simp [Instr.loadAt, Instr.sureAddr, loadVar, run_isAgg hu, ha, hc]
theorem run_loadAt_agg {b o : Nat} {vs : List Value} (hu : P.underlying t = some d) (ha : isAggT P t = true) (hn : vs.length = sizeT P t)
    (hc : ∀ j v, vs[j]? = some v → w.cell? ⟨b, o + j, none⟩ = some v) : (Instr.loadAt t (.pointer (some ⟨b, o, none⟩))).run P w = .ok (.agg vs.toArray) w := by
  obtain ⟨i, hi⟩ := info_of_underlying hu
  have hl := run_loadCells_list (P := P) w ⟨b, o, none⟩ vs (fun j v hj => by rw [Addr.add_lit]; exact hc j v hj)
  rw [hn] at hl
  simp [Instr.loadAt, Instr.sureAddr, loadVar, run_isAgg hu, ha, run_sizeOf hi, hl]
end

theorem prefix_get {pre l2 : List Value} {j : Nat} {v : Value} (h : pre[j]? = some v) : (pre ++ l2)[j]? = some v := by
  rw [List.getElem?_append_left (List.getElem?_eq_some_iff.1 h).1]; exact h
theorem heap_cell {w : World} {b o : Nat} {c : Array Value} {e : TypeId} {fz : Nat × Nat} {v : Value} (h : w.heap[b]? = some (.cells c e fz)) (hv : c.toList[o]? = some v) : w.cell? ⟨b, o, none⟩ = some v := by
  rw [cell_of_row w b o c e fz h]; simpa using hv
theorem RoRow.cell {Γ : Env} {rg : List (Option Reg)} {w : World} (hw : WRel Γ rg w) {b o : Nat} {vs : List Value} (h : RoRow Γ b o vs) {j : Nat} {v : Value} (hj : vs[j]? = some v) : w.cell? ⟨b, o + j, none⟩ = some v := by
  obtain ⟨_, c, e, fz, h1, h2⟩ := h
  exact heap_cell (hw.kp _ _ h1) (by simpa using h2 j v hj)
theorem drop_take_get {α : Type} {l : List α} {o n j : Nat} {v : α} (h : ((l.drop o).take n)[j]? = some v) : l[o + j]? = some v := by
  rw [List.getElem?_take] at h
  split at h
  · rwa [List.getElem?_drop] at h
  · cases h

theorem int_pre {k : IntKind} {xs : List Int} {i : Nat} (h : i < xs.length) : (xs.map (Value.int k))[i]? = some (.int k (xs.getD i 0)) := by
  simp [List.getD_eq_getElem?_getD, h]

theorem nload_sound {P : Program} {s : St} {Γ : Env} {w : World} {t : TypeId} {x : NC} {v : Value} {c : List Bool} {nv : NS} {glob : List Nat} (hw : WRel Γ s.rg w) (hG : GlobOk glob Γ)
    (hu : (P.underlying t).isSome = true) (hx : CR Γ x v) (h : nload P glob s t x = some (c, nv)) (hc : allT c) :
    ∃ u, (Instr.loadAt t v).run P w = .ok u w ∧ SRel Γ nv u := by
  obtain ⟨d, hu⟩ := Option.isSome_iff_exists.1 hu
  unfold nload at h
  split at h
  · rename_i r i cc
    obtain ⟨⟨B, hB, rfl⟩, _⟩ := hx
    split at h
    · rename_i g hg
      obtain ⟨B', hB', cs, hcs, hst, hsz, hbody⟩ := hw.live r g ((reg_eq s r g).1 hg)
      rw [hB] at hB'; cases hB'
      rw [hst]
      split at h
      · rename_i xs hb ha
        rw [hb] at hbody
        obtain ⟨l1, l2, hl, hr⟩ := hbody
        split at h
        · rename_i l hsub
          cases h
          have hl' : l = (xs.drop (i * g.st + cc)).take (sizeT P t) ∧ l.length = sizeT P t := by
            unfold sub at hsub
            simp only at hsub
            split at hsub
            · rename_i e; cases hsub; exact ⟨rfl, e⟩
            · cases hsub
          have hr' : R2 (CR Γ) l ((l1.drop (i * g.st + cc)).take (sizeT P t)) := hl'.1 ▸ (hr.drop _).take _
          refine ⟨_, run_loadAt_agg (vs := (l1.drop (i * g.st + cc)).take (sizeT P t)) hu ha (by rw [← hr'.length]; exact hl'.2) (fun j v hj => ?_), ⟨_, rfl, hr'⟩⟩
          exact heap_cell hcs (by rw [hl]; exact prefix_get (drop_take_get hj))
        · cases h
      · rename_i xs hb ha
        rw [hb] at hbody
        obtain ⟨l1, l2, hl, hr⟩ := hbody
        split at h
        · rename_i y hy
          cases h
          obtain ⟨u, hu1, hu2⟩ := hr.get hy
          exact ⟨u, run_loadAt_one hu ha (heap_cell hcs (by rw [hl]; exact prefix_get hu1)), hu2⟩
        · cases h
      · rename_i k xs hb ha
        rw [hb] at hbody
        obtain ⟨h1, l2, hl⟩ := hbody
        split at h
        · cases h
          have hi : i < xs.length := by simpa [allT] using hc
          exact ⟨_, run_loadAt_one hu ha (heap_cell hcs (by rw [hl, h1]; simpa using prefix_get (int_pre hi))), ⟨rfl, rfl⟩⟩
        · cases h
      · rename_i k xs hb ha
        rw [hb] at hbody
        obtain ⟨h1, l2, hl⟩ := hbody
        split at h
        · split at h
          · rename_i hn
            cases h
            refine ⟨_, run_loadAt_agg (vs := xs.map (.int k)) hu ha (by simpa using hn) (fun j v hj => ?_), ⟨_, rfl, intsNC_rel Γ k xs⟩⟩
            exact heap_cell hcs (by rw [hl]; exact prefix_get (by simpa using hj))
          · cases h
        · cases h
      · rename_i ks xs hb ha
        rw [hb] at hbody
        obtain ⟨h1, h0, l2, hl⟩ := hbody
        split at h
        · rename_i k hk
          cases h
          have hi : i < xs.length := by simpa [allT] using hc
          refine ⟨_, run_loadAt_one hu ha (heap_cell hcs (by rw [hl, h1]; exact prefix_get (rowsV_get ks xs i cc k hi hk))), ck_rel Γ k _⟩
        · cases h
      · rename_i ks xs hb ha
        rw [hb] at hbody
        obtain ⟨h1, h0, l2, hl⟩ := hbody
        split at h
        · split at h
          · rename_i hn
            cases h
            have hi : i < xs.length := by simpa [allT] using hc
            refine ⟨_, run_loadAt_agg (vs := rowVals ks (xs.getD i [])) hu ha (by simp [hn]) (fun j v hj => ?_), ⟨_, rfl, rowCells_rel Γ ks _⟩⟩
            rw [← rowsV_row ks xs i hi] at hj
            exact heap_cell hcs (by rw [hl, h1]; exact prefix_get (drop_take_get hj))
          · split at h
            · rename_i h0'
              split at h
              · rename_i hn
                cases h
                refine ⟨_, run_loadAt_agg (vs := rowsV ks xs) hu ha (by rw [rowsV_length, hn]) (fun j v hj => ?_), ⟨_, rfl, rowsNC_rel Γ ks xs⟩⟩
                exact heap_cell hcs (by rw [hl, h0']; exact prefix_get (by simpa using hj))
              · cases h
            · cases h
        · cases h
    · cases h
  · rename_i k xs i
    obtain ⟨⟨blk, off, rfl, hro⟩, _⟩ := hx
    split at h
    · cases h
    · rename_i ha
      cases h
      have hi : i < xs.length := by simpa [allT] using hc
      exact ⟨_, run_loadAt_one hu (by simpa using ha) (hro.cell hw (int_pre hi)), ⟨rfl, rfl⟩⟩
  · rename_i ks xs i cc
    obtain ⟨⟨blk, off, rfl, hro⟩, _⟩ := hx
    split at h
    · rename_i ha
      split at h
      · split at h
        · rename_i hn
          cases h
          have hi : i < xs.length := by simpa [allT] using hc
          refine ⟨_, run_loadAt_agg (vs := rowVals ks (xs.getD i [])) hu ha (by simp [hn]) (fun j v hj => ?_), ⟨_, rfl, rowCells_rel Γ ks _⟩⟩
          rw [← rowsV_row ks xs i hi] at hj
          have := hro.cell hw (drop_take_get hj)
          simpa [Nat.add_assoc] using this
        · cases h
      · cases h
    · rename_i ha
      split at h
      · rename_i k hk
        cases h
        have hi : i < xs.length := by simpa [allT] using hc
        have := hro.cell hw (rowsV_get ks xs i cc k hi hk)
        exact ⟨_, run_loadAt_one hu (by simpa using ha) (by simpa [Nat.add_assoc] using this), ck_rel Γ k _⟩
      · cases h
  · rename_i g
    obtain ⟨rfl, _⟩ := hx
    split at h
    · cases h
    · rename_i ha
      split at h
      case isFalse => cases h
      rename_i hg
      cases h
      obtain ⟨ad, c, e, fz, ca, ta, h1, h2, h3, -⟩ := hG.1 g (List.contains_iff_mem.1 hg)
      exact ⟨_, run_loadAt_one hu (by simpa using ha) (heap_cell (hw.kp _ _ h2) (by simpa using h3)), ⟨h1, rfl⟩⟩
  · cases h

end Go.Nx
