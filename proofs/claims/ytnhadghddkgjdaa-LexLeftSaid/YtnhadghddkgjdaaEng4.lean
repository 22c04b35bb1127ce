/-
  The engine, part 4: how the relation goes through a change of memory; what the types' tables give; operands.
-/
import Derived.Test.YtnhadghddkgjdaaEng3
namespace Go.Nx
open Go

theorem frozen_alloc (w : World) (c : Array Value) (t : TypeId) (a : Addr) : (w.alloc (.cells c t)).frozen? a = w.frozen? a := by
  by_cases h : a.block = w.heap.size
  · have e1 : (w.alloc (.cells c t)).heap[a.block]? = some (.cells c t) := by
      rw [h]
      show (w.heap.push _)[w.heap.size]? = _
      simp
    have e2 : w.heap[a.block]? = none := by rw [h]; simp
    simp [World.frozen?, e1, e2]
  · exact World.frozen?_alloc_old _ _ _ h
theorem frozen_setRow (w : World) (g : Nat) (cs : Array Value) (a : Addr) : (w.setRow g cs).frozen? a = w.frozen? a := by
  by_cases e : a.block = g
  · cases h : w.heap[g]? with
    | none =>
      have h2 : (w.setRow g cs).heap[g]? = none := by simp [World.setRow, Array.getElem?_modify, h]
      simp only [World.frozen?, e, h, h2]
    | some o =>
      cases o with
      | cells c t fr => simp only [World.frozen?, e, h, setRow_heap w g c cs t fr h]
      | _ =>
        have h2 : (w.setRow g cs).heap[g]? = w.heap[g]? := by
          show (w.heap.modify g _)[g]? = _
          rw [Array.getElem?_modify, if_pos rfl, h]
          rfl
        simp only [World.frozen?, e, h2]
  · simp only [World.frozen?, setRow_other w g a.block cs e]

/-! ### lists of regions -/
theorem putAt_get (l : List (Option Reg)) (n : Nat) (x : Option Reg) (m : Nat) (g : Reg) :
    (putAt l n x)[m]? = some (some g) ↔ (m = n ∧ x = some g) ∨ (m ≠ n ∧ l[m]? = some (some g)) := by
  unfold putAt
  split
  · rename_i h
    rw [List.getElem?_set]
    by_cases e : n = m
    · subst e; simp [h]
    · simp [e, Ne.symm e]
  · rename_i h
    rw [List.append_assoc, List.getElem?_append]
    split
    · rename_i h1
      have : m ≠ n := by omega
      simp [this]
    · rename_i h1
      have hl : l[m]? = none := List.getElem?_eq_none (by omega)
      rw [hl, List.getElem?_append]
      simp only [List.length_replicate]
      split
      · rename_i h2
        rw [List.getElem?_replicate]
        have : m ≠ n := by omega
        simp [this]
      · rename_i h2
        by_cases e : m = n
        · subst e; simp
        · have : m - l.length - (n - l.length) ≠ 0 := by omega
          obtain ⟨k, hk⟩ := Nat.exists_eq_succ_of_ne_zero this
          simp [e, hk]
theorem putAt_live (l : List (Option Reg)) (n : Nat) (x : Option Reg) (m : Nat) : live (putAt l n x) m ↔ (m = n ∧ x.isSome = true) ∨ (m ≠ n ∧ live l m) := by
  unfold live
  simp only [putAt_get]
  constructor
  · rintro ⟨g, ⟨h, e⟩ | ⟨h, e⟩⟩
    · exact .inl ⟨h, by simp [e]⟩
    · exact .inr ⟨h, g, e⟩
  · rintro (⟨h, e⟩ | ⟨h, g, e⟩)
    · obtain ⟨g, rfl⟩ := Option.isSome_iff_exists.1 e; exact ⟨g, .inl ⟨h, rfl⟩⟩
    · exact ⟨g, .inr ⟨h, e⟩⟩
theorem reg_eq (s : St) (n : Nat) (g : Reg) : s.reg n = some g ↔ s.rg[n]? = some (some g) := by
  unfold St.reg
  split
  · rename_i r h; simp [h]
  · rename_i h
    simp only [reduceCtorEq, false_iff]
    intro e
    exact h _ e
theorem reg_eq_none (s : St) (n : Nat) : s.reg n = none ↔ ¬ live s.rg n := by
  constructor
  · rintro h ⟨g, hg⟩; rw [(reg_eq s n g).2 hg] at h; cases h
  · intro h; cases e : s.reg n with
    | none => rfl
    | some g => exact (h ⟨g, (reg_eq s n g).1 e⟩).elim

/-! ### changes of memory -/
theorem RegRel.heap {Γ : Env} {g : Reg} {B : Blk} {w w' : World} (r : RegRel Γ g B w) (h : w'.heap[B.blk]? = w.heap[B.blk]?) : RegRel Γ g B w' := by
  obtain ⟨c, h1, h2⟩ := r
  exact ⟨c, h.trans h1, h2⟩
theorem WRel.mono_heap {Γ : Env} {rg : List (Option Reg)} {w w' : World} (r : WRel Γ rg w) (h : ∀ b, b < w.heap.size → w'.heap[b]? = w.heap[b]?) : WRel Γ rg w' := by
  have hlt : ∀ {b : Nat} {o : Obj}, w.heap[b]? = some o → b < w.heap.size := fun e => (Array.getElem?_eq_some_iff.1 e).1
  refine ⟨fun n g hg => ?_, r.inj, fun b o hb => ?_, r.apart, r.ro⟩
  · obtain ⟨B, h1, h2⟩ := r.live n g hg
    refine ⟨B, h1, h2.heap (h _ ?_)⟩
    obtain ⟨c, h3, _⟩ := h2
    exact hlt h3
  · have := r.kp b o hb
    rw [h b (hlt this)]; exact this
theorem WRel.drew {Γ : Env} {rg : List (Option Reg)} {w : World} (r : WRel Γ rg w) : WRel Γ rg w.drew := r.mono_heap fun _ _ => rfl
theorem WRel.kill {Γ : Env} {rg : List (Option Reg)} {w : World} (r : WRel Γ rg w) (n : Nat) : WRel Γ (putAt rg n none) w := by
  have hl : ∀ m, Nx.live (putAt rg n none) m → Nx.live rg m := fun m h => by
    rcases (putAt_live _ _ _ _).1 h with ⟨_, e⟩ | ⟨_, e⟩
    · simp at e
    · exact e
  refine ⟨fun m g hg => ?_, fun a b B B' hne ha hb => r.inj a b B B' hne (hl a ha) (hl b hb), r.kp, fun m B hm => r.apart m B (hl m hm), r.ro⟩
  rcases (putAt_get _ _ _ _ _).1 hg with ⟨_, e⟩ | ⟨_, e⟩
  · cases e
  · exact r.live m g e
/-- A region's cells are others; all else stays. -/
theorem WRel.change {Γ : Env} {rg : List (Option Reg)} {w w' : World} (r : WRel Γ rg w) {n : Nat} {B : Blk} {g' : Reg} (hn : Nx.live rg n) (hB : Γ.μ n = some B)
    (h : ∀ b, b ≠ B.blk → w'.heap[b]? = w.heap[b]?) (hg : RegRel Γ g' B w') : WRel Γ (putAt rg n (some g')) w' := by
  have hl : ∀ m, Nx.live (putAt rg n (some g')) m → Nx.live rg m := fun m h => by
    rcases (putAt_live _ _ _ _).1 h with ⟨e, _⟩ | ⟨_, e⟩
    · rw [e]; exact hn
    · exact e
  refine ⟨fun m g hm => ?_, fun a b B B' hne ha hb => r.inj a b B B' hne (hl a ha) (hl b hb), fun b o hb => ?_, fun m B hm => r.apart m B (hl m hm), r.ro⟩
  · rcases (putAt_get _ _ _ _ _).1 hm with ⟨rfl, e⟩ | ⟨hne, e⟩
    · cases e; exact ⟨B, hB, hg⟩
    · obtain ⟨B', h1, h2⟩ := r.live m g e
      exact ⟨B', h1, h2.heap (h _ (r.inj m n B' B hne ⟨g, e⟩ hn h1 hB))⟩
  · rw [h b]; exact r.kp b o hb
    rintro rfl
    rw [r.apart n B hn hB] at hb; cases hb
theorem heap_alloc_lt (w : World) (o : Obj) (b : Nat) (h : b < w.heap.size) : (w.alloc o).heap[b]? = w.heap[b]? := by
  show (w.heap.push o)[b]? = _
  rw [Array.getElem?_push, if_neg (by omega)]
/-- A new region. -/
theorem WRel.new {Γ : Env} {rg : List (Option Reg)} {w : World} (r : WRel Γ rg w) {nm : Nat} {g : Reg} {cs : Array Value} (hnm : Γ.μ nm = .none)
    (hb : BodyRel Γ g.st g.body cs.toList) :
    WRel (Γ.add nm ⟨w.heap.size, g.st, cs.size⟩) (putAt rg nm (some g)) (w.alloc (.cells cs g.e)) := by
  have hle := Γ.le_add nm ⟨w.heap.size, g.st, cs.size⟩ hnm
  have hnl : ¬ Nx.live rg nm := by rintro ⟨g', hg'⟩; obtain ⟨B, hB, _⟩ := r.live nm g' hg'; rw [hnm] at hB; cases hB
  have hlt : ∀ {b : Nat} {o : Obj}, w.heap[b]? = some o → b < w.heap.size := fun e => (Array.getElem?_eq_some_iff.1 e).1
  have hold : ∀ m B, m ≠ nm → Nx.live rg m → (Γ.add nm ⟨w.heap.size, g.st, cs.size⟩).μ m = some B → Γ.μ m = some B ∧ B.blk < w.heap.size := by
    intro m B hne hm hB
    simp only [Env.add, if_neg hne] at hB
    obtain ⟨g', hg'⟩ := hm
    obtain ⟨B', hB', c, hc, _⟩ := r.live m g' hg'
    rw [hB] at hB'; cases hB'
    exact ⟨hB, hlt hc⟩
  have hnew : (Γ.add nm ⟨w.heap.size, g.st, cs.size⟩).μ nm = some ⟨w.heap.size, g.st, cs.size⟩ := by simp [Env.add]
  refine ⟨fun m g' hm => ?_, fun a b B B' hne ha hb ea eb => ?_, fun b o hb => ?_, fun m B hm eB => ?_, r.ro⟩
  · rcases (putAt_get _ _ _ _ _).1 hm with ⟨rfl, e⟩ | ⟨hne, e⟩
    · cases e
      exact ⟨_, hnew, cs, heap_alloc_new w _, rfl, rfl, hb.mono hle⟩
    · obtain ⟨B', h3, h4⟩ := r.live m g' e
      refine ⟨B', hle.μ _ _ h3, (h4.heap (heap_alloc_lt w _ _ ?_)).mono hle⟩
      obtain ⟨c, hc, _⟩ := h4
      exact hlt hc
  · rcases (putAt_live _ _ _ _).1 ha with ⟨rfl, _⟩ | ⟨na, la⟩ <;> rcases (putAt_live _ _ _ _).1 hb with ⟨rfl, _⟩ | ⟨nb, lb⟩
    · exact (hne rfl).elim
    · rw [hnew] at ea; cases ea
      have := (hold b B' nb lb eb).2
      simp only; omega
    · rw [hnew] at eb; cases eb
      have := (hold a B na la ea).2
      simp only; omega
    · exact r.inj a b B B' hne la lb (hold a B na la ea).1 (hold b B' nb lb eb).1
  · have := r.kp b o hb
    rw [heap_alloc_lt w _ _ (hlt this)]; exact this
  · rcases (putAt_live _ _ _ _).1 hm with ⟨rfl, _⟩ | ⟨nm', lm⟩
    · rw [hnew] at eB; cases eB
      show Γ.kp w.heap.size = .none
      cases e : Γ.kp w.heap.size with
      | none => rfl
      | some o => have := hlt (r.kp _ _ e); omega
    · exact r.apart m B lm (hold m B nm' lm eB).1

/-! ### types -/
theorem info_of_underlying {P : Program} {t : TypeId} {d : TypeDesc} (h : P.underlying t = some d) : ∃ i, P.info? t = some i := by
  cases e : P.info? t with
  | some i => exact ⟨i, rfl⟩
  | none => simp [Program.underlying, e] at h
theorem info_of_size {P : Program} {t : TypeId} (h : 0 < sizeT P t) : ∃ i, P.info? t = some i ∧ i.size = sizeT P t := by
  cases e : P.info? t with
  | some i => exact ⟨i, rfl, by simp [sizeT, e]⟩
  | none => simp [sizeT, e] at h
theorem run_typeInfo {P : Program} {t : TypeId} {i : TypeInfo} (h : P.info? t = some i) (w : World) : (typeInfo t).run P w = .ok i w := by simp [typeInfo, h]
theorem run_sizeOf {P : Program} {t : TypeId} {i : TypeInfo} (h : P.info? t = some i) (w : World) : (sizeOf t).run P w = .ok (sizeT P t) w := by simp [sizeOf, run_typeInfo h, sizeT, h]
theorem run_isAgg {P : Program} {t : TypeId} {d : TypeDesc} (h : P.underlying t = some d) (w : World) : (isAgg t).run P w = .ok (isAggT P t) w := by
  simp only [isAgg, Sem.run_bind, run_underlying h, Result.andThen_ok, isAggT, h]
  cases d <;> rfl
theorem zeroCells_spec {P : Program} {t : TypeId} {z : List NC} (h : zeroCells P t = some z) :
    ∃ i v, P.info? t = some i ∧ i.zero = some v ∧ v.cells.size = sizeT P t ∧ scals v.cells.toList = some z := by
  unfold zeroCells at h
  split at h
  · rename_i i hi
    split at h
    · rename_i v hv
      split at h
      · rename_i hs
        exact ⟨i, v, hi, hv, by simp [sizeT, hi, hs], h⟩
      · cases h
    · cases h
  · cases h
theorem scal_rel {Γ : Env} {v : Value} {x : NC} (h : scal v = some x) : CR Γ x v := by
  unfold scal at h
  split at h <;> first
    | (cases h; exact ⟨rfl, rfl⟩)
    | cases h
theorem scals_rel {Γ : Env} : ∀ {l : List Value} {z : List NC}, scals l = some z → R2 (CR Γ) z l
  | [], z, h => by simp [scals] at h; subst h; exact .nil
  | v :: l, z, h => by
    simp only [scals] at h
    split at h
    · rename_i a r ha hr
      cases h
      exact .cons (scal_rel ha) (scals_rel hr)
    · cases h
theorem run_zeroValue {P : Program} {t : TypeId} {i : TypeInfo} {v : Value} (h : P.info? t = some i) (hz : i.zero = some v) (w : World) : (zeroValue t).run P w = .ok v w := by
  simp [zeroValue, run_typeInfo h, hz]

theorem toSc_val {k : CK} {x : NC} {y : Sc} {Γ : Env} {v : Value} (h : toSc k x = some y) (r : CR Γ x v) : v = ckVal k y := by
  cases k with
  | i k =>
    cases x <;> simp only [toSc, reduceCtorEq] at h
    split at h
    · rename_i e; cases h; subst e; exact r.1
    · cases h
  | b => cases x <;> simp only [toSc, reduceCtorEq, Option.some.injEq] at h; subst h; exact r.1
theorem rowFrom_shift {α : Type} (f : CK → Sc → α) : ∀ (ks : List CK) (a : Sc) (row : List Sc) (j : Nat), rowFrom f ks (a :: row) (j + 1) = rowFrom f ks row j
  | [], _, _, _ => rfl
  | k :: ks, a, row, j => by simp [rowFrom, rowFrom_shift f ks a row (j + 1)]
theorem rowFrom_length {α : Type} (f : CK → Sc → α) : ∀ (ks : List CK) (row : List Sc) (j : Nat), (rowFrom f ks row j).length = ks.length
  | [], _, _ => rfl
  | k :: ks, row, j => by simp [rowFrom, rowFrom_length f ks row (j + 1)]
theorem rowFrom_get {α : Type} (f : CK → Sc → α) : ∀ (ks : List CK) (row : List Sc) (j c : Nat) (k : CK), ks[c]? = some k → (rowFrom f ks row j)[c]? = some (f k (row.getD (j + c) (.i 0)))
  | [], _, _, _, _, h => by simp at h
  | k :: ks, row, j, 0, k', h => by simp at h; subst h; simp [rowFrom]
  | k :: ks, row, j, c + 1, k', h => by
    simp at h
    rw [rowFrom, List.getElem?_cons_succ, rowFrom_get f ks row (j + 1) c k' h]
    congr 3; omega
@[simp] theorem rowVals_length (ks : List CK) (row : List Sc) : (rowVals ks row).length = ks.length := rowFrom_length _ _ _ _
theorem ck_rel (Γ : Env) (k : CK) (s : Sc) : CR Γ (ckNC k s) (ckVal k s) := by cases k <;> exact ⟨rfl, rfl⟩
theorem rowCells_rel (Γ : Env) (ks : List CK) (row : List Sc) : R2 (CR Γ) (rowCells ks row) (rowVals ks row) := by
  unfold rowCells rowVals
  generalize 0 = j
  induction ks generalizing j with
  | nil => exact .nil
  | cons k ks ih => exact .cons (ck_rel Γ k _) (ih (j + 1))
theorem toRow_vals {Γ : Env} : ∀ {ks : List CK} {xs : List NC} {row : List Sc} {l : List Value}, toRow ks xs = some row → R2 (CR Γ) xs l → l = rowVals ks row
  | [], [], row, l, h, r => by cases r; simp [rowVals, rowFrom]
  | [], _ :: _, _, _, h, _ => by simp [toRow] at h
  | _ :: _, [], _, _, h, _ => by simp [toRow] at h
  | k :: ks, x :: xs, row, l, h, r => by
    simp only [toRow] at h
    split at h
    · rename_i a t ha ht
      cases h
      cases r with
      | cons r1 r2 =>
        rw [toSc_val ha r1, toRow_vals ht r2]
        simp [rowVals, rowFrom, rowFrom_shift]
    · cases h
theorem toRows_vals {Γ : Env} {ks : List CK} : ∀ {n : Nat} {xs : List NC} {rows : List (List Sc)} {l : List Value}, toRows ks n xs = some rows → R2 (CR Γ) xs l → l = rowsV ks rows ∧ rows.length = n
  | 0, [], rows, l, h, r => by simp [toRows] at h; subst h; cases r; simp [rowsV]
  | 0, _ :: _, _, _, h, _ => by simp [toRows] at h
  | n + 1, xs, rows, l, h, r => by
    simp only [toRows] at h
    split at h
    · rename_i a t ha ht
      cases h
      have h1 := toRow_vals ha (r.take ks.length)
      obtain ⟨h2, h3⟩ := toRows_vals ht (r.drop ks.length)
      refine ⟨?_, by simp [h3]⟩
      rw [← List.take_append_drop ks.length l, h1, h2]
      simp [rowsV]
    · cases h
theorem toInts_vals {Γ : Env} {k : IntKind} : ∀ {xs : List NC} {l : List Int} {vs : List Value}, toInts k xs = some l → R2 (CR Γ) xs vs → vs = l.map (.int k)
  | [], l, vs, h, r => by simp [toInts] at h; subst h; cases r; rfl
  | x :: xs, l, vs, h, r => by
    cases x <;> simp only [toInts, reduceCtorEq] at h
    split at h
    · rename_i e
      split at h
      · rename_i l' hl
        cases h
        cases r with
        | cons r1 r2 => rw [toInts_vals hl r2, show _ = _ from r1.1, e]; rfl
      · cases h
    · cases h
theorem elemBody_rel {Γ : Env} (P : Program) (e : TypeId) (n : Nat) {xs : List NC} {l : List Value} (r : R2 (CR Γ) xs l) : BodyRel Γ (elemBody P e n xs).1 (elemBody P e n xs).2 l := by
  have hc : BodyRel Γ (sizeT P e) (.cells xs) l := ⟨l, [], by simp, r⟩
  have hc1 : BodyRel Γ 1 (.cells xs) l := ⟨l, [], by simp, r⟩
  unfold elemBody
  split
  · split
    · rename_i l' hl
      exact ⟨rfl, [], by simp [toInts_vals hl r]⟩
    · exact hc1
  · split
    · rename_i ks hne hpos
      split
      · rename_i rows hr
        exact ⟨rfl, hpos, [], by simp [(toRows_vals hr r).1]⟩
      · exact hc
    · exact hc
  · exact hc
theorem varReg_rel {Γ : Env} (P : Program) (t : TypeId) {xs : List NC} {l : List Value} (r : R2 (CR Γ) xs l) : BodyRel Γ (varReg P t xs).st (varReg P t xs).body l ∧ (varReg P t xs).e = t := by
  unfold varReg
  split
  · exact ⟨elemBody_rel P _ _ r, rfl⟩
  · exact ⟨⟨l, [], by simp, r⟩, rfl⟩
theorem R2.oneCell {Γ : Env} {xs : List NC} {l : List Value} (r : R2 (CR Γ) xs l) : ∀ u ∈ l, u.oneCell' = true := by
  induction r with
  | nil => simp
  | cons h _ ih => intro u hu; rcases List.mem_cons.1 hu with rfl | hu; exact h.2; exact ih u hu

/-! ### operands -/
theorem cells_of_one {v : Value} (h : v.oneCell' = true) : v.cells = #[v] := by cases v <;> simp [Value.oneCell', Value.cells] at h ⊢
theorem VRel.cells {Γ : Env} {x : NV} {v : Value} (r : VRel Γ x v) : R2 (CR Γ) x.cells v.cells.toList := by
  cases x with
  | c x => rw [cells_of_one r.2]; exact .cons r .nil
  | ag xs => obtain ⟨vs, rfl, h⟩ := r; simpa [Value.cells, NV.cells] using h
theorem ofConst_rel (Γ : Env) (v : Value) : SRel Γ (ofConst v) v := by
  unfold ofConst
  split
  · rename_i cs
    split
    · rename_i l hl
      exact ⟨cs.toList, by simp, scals_rel hl⟩
    · trivial
  · split
    · rename_i x hx; exact scal_rel hx
    · trivial
theorem ev_rel {Γ : Env} {s : St} {a : Act} (h : FrRel Γ s.fr a.tmps) (x : Operand) : SRel Γ (s.ev x) (a.eval x) := by
  cases x with
  | tmp t =>
    simp only [St.ev, Act.eval, List.getD_eq_getElem?_getD]
    cases e : s.fr[t]? with
    | none => trivial
    | some n =>
      obtain ⟨b, hb, r⟩ := R2.get h e
      simp only [Array.getElem?_toList] at hb
      simpa [Array.getD_eq_getD_getElem?, hb] using r
  | const v => exact ofConst_rel Γ v
  | global g => exact ⟨rfl, rfl⟩
  | func f => exact ⟨⟨[], rfl, .nil⟩, rfl⟩
theorem nc_rel {Γ : Env} {n : NS} {v : Value} {x : NC} (r : SRel Γ n v) (h : n.nc = some x) : CR Γ x v := by
  unfold NS.nc at h
  split at h
  · cases h; exact r
  · cases h
theorem nv_rel {Γ : Env} {n : NS} {v : Value} {x : NV} (r : SRel Γ n v) (h : n.nv = some x) : VRel Γ x v := by
  unfold NS.nv at h
  split at h
  · cases h; exact r
  · cases h

end Go.Nx
