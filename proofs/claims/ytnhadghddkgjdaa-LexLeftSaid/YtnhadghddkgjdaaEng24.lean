/-
  The engine, part 24: what came in, in general: numbers, bools, strings, records, rows of numbers, rows of records; a law over them.
-/
import Derived.Test.YtnhadghddkgjdaaEng23
import Derived.ProofKit
import Derived.OpenShut
import Derived.ShutString
import Derived.ChangeOld
import Derived.Below
import Derived.Carry
namespace Go.Nx
open Go Go.RowKit Go.ChangeShapes Go.WideShapes Go.ChangeAt
open Go.ChangeMaps (open_string)

/-! ### cells of plain data -/
def okSc : CK → Sc → Prop
  | .i k, .i n => (Lit.int k n).wf = true
  | .b, .b _ => True
  | _, _ => False
/-- A cell of a kind. -/
def CV (k : CK) (v : Value) : Prop := ∃ s, v = ckVal k s ∧ okSc k s
def rowOk (ks : List CK) (row : List Sc) : Prop := R2 okSc ks row
theorem CV.row {ks : List CK} {cs : List Value} (h : R2 CV ks cs) : ∃ row, cs = rowVals ks row ∧ rowOk ks row := by
  induction h with
  | nil => exact ⟨[], rfl, .nil⟩
  | @cons k v ks cs h _ ih =>
    obtain ⟨s, rfl, hs⟩ := h
    obtain ⟨row, rfl, hr⟩ := ih
    exact ⟨s :: row, by simp [rowVals, rowFrom, rowFrom_shift], .cons hs hr⟩
/-- The kinds of a type's cells, if these are numbers and bools. -/
def ksFs (rec : TypeId → Option (List CK)) (co : TypeId → Nat) : Nat → List Field → Option (List CK)
  | _, [] => some []
  | off, f :: fs =>
    match rec f.type, ksFs rec co (off + co f.type) fs with
    | some a, some b => if f.offset = off ∧ a.length = co f.type then some (a ++ b) else none
    | _, _ => none
def ksT (P : Program) : Nat → TypeId → Option (List CK)
  | 0, _ => none
  | n + 1, t =>
    match P.underlying t with
    | some (.int k) => some [.i k]
    | some .bool => some [.b]
    | some (.struct fs) => (match ksFs (ksT P n) P.cellsOf 0 fs.toList with
      | some ks => if ks.length = P.cellsOf t then some ks else none
      | none => none)
    | some (.array m e) => (match ksT P n e with
      | some ks => if ks.length = P.cellsOf e ∧ m * ks.length = P.cellsOf t then some ((List.replicate m ks).flatten) else none
      | none => none)
    | _ => none
section
variable {H : Type} {enc : TypeId × Value → H} {P : Program} {w : World} {base : Nat} {sp : Nat → Bool} {held : Bool}
theorem mapM_cons_some {α β : Type} {f : α → Option β} {a : α} {l : List α} {r : List β} (h : (a :: l).mapM f = some r) : ∃ b r', f a = some b ∧ l.mapM f = some r' ∧ r = b :: r' := by
  rw [List.mapM_cons] at h
  cases hb : f a with
  | none => rw [hb] at h; cases h
  | some b =>
    cases hr : l.mapM f with
    | none => rw [hb, hr] at h; cases h
    | some r' => rw [hb, hr] at h; cases h; exact ⟨b, r', rfl, rfl, rfl⟩
theorem ksFs_cells {n m : Nat} (ih : ∀ {t : TypeId} {ks : List CK} {cs : List Value} {x : DataW H × List MemPlace}, ksT P n t = some ks → DataW.trod enc P w base sp held m t cs = some x → R2 CV ks cs) {cs : List Value} :
    ∀ {fs : List Field} {off : Nat} {ks : List CK} {xs : List (DataW H × List MemPlace)}, ksFs (ksT P n) P.cellsOf off fs = some ks →
      (fs.mapM fun f => DataW.trod enc P w base sp held m f.type ((cs.drop f.offset).take (P.cellsOf f.type))) = some xs → R2 CV ks ((cs.drop off).take ks.length)
  | [], off, ks, xs, h, _ => by simp [ksFs] at h; subst h; simp; exact .nil
  | f :: fs, off, ks, xs, h, hx => by
    simp only [ksFs] at h
    split at h
    · rename_i a b ha hb
      split at h
      · rename_i hc
        cases h
        obtain ⟨y, ys, h1, h2, -⟩ := mapM_cons_some hx
        have r1 := ih ha h1
        have r2 := ksFs_cells ih hb h2
        rw [hc.1, ← hc.2] at r1
        rw [← hc.2] at r2
        have e : (cs.drop off).take (a ++ b).length = (cs.drop off).take a.length ++ (cs.drop (off + a.length)).take b.length := by
          rw [List.length_append, List.take_add, List.drop_drop]
        rw [e]
        exact r1.append r2
      · cases h
    · cases h
theorem ksArr_cells {m e : Nat} {ks : List CK} (ih : ∀ {cs : List Value} {x : DataW H × List MemPlace}, DataW.trod enc P w base sp held m e cs = some x → R2 CV ks cs) (hc : ks.length = P.cellsOf e) {cs : List Value} :
    ∀ {k o : Nat} {xs : List (DataW H × List MemPlace)}, ((List.range' o k).mapM fun i => DataW.trod enc P w base sp held m e ((cs.drop (i * P.cellsOf e)).take (P.cellsOf e))) = some xs →
      R2 CV ((List.replicate k ks).flatten) ((cs.drop (o * P.cellsOf e)).take (k * ks.length))
  | 0, o, xs, _ => by simp; exact .nil
  | k + 1, o, xs, hx => by
    rw [List.range'_succ] at hx
    obtain ⟨y, ys, h1, h2, -⟩ := mapM_cons_some hx
    have r1 := ih h1
    have r2 := ksArr_cells ih hc h2
    rw [← hc] at r1 r2 ⊢
    have e1 : (cs.drop (o * ks.length)).take ((k + 1) * ks.length) = (cs.drop (o * ks.length)).take ks.length ++ (cs.drop ((o + 1) * ks.length)).take (k * ks.length) := by
      rw [show (k + 1) * ks.length = ks.length + k * ks.length by rw [Nat.succ_mul]; omega, List.take_add, List.drop_drop, show o * ks.length + ks.length = (o + 1) * ks.length by rw [Nat.succ_mul]]
    rw [e1, List.replicate_succ, List.flatten_cons]
    exact r1.append r2
theorem ksT_cells : ∀ {n : Nat} {t : TypeId} {ks : List CK} {m : Nat} {cs : List Value} {x : DataW H × List MemPlace}, ksT P n t = some ks → DataW.trod enc P w base sp held m t cs = some x → R2 CV ks cs
  | 0, t, ks, m, cs, x, h, _ => by simp [ksT] at h
  | n + 1, t, ks, 0, cs, x, _, hx => by simp [DataW.trod] at hx
  | n + 1, t, ks, m + 1, cs, x, h, hx => by
    simp only [ksT] at h
    split at h
    · rename_i k hu
      cases h
      obtain ⟨z, rfl, -, hw⟩ := DataW.trod_int hu hx
      exact .cons ⟨.i z, rfl, hw⟩ .nil
    · rename_i hu
      cases h
      obtain ⟨z, rfl, -⟩ := DataW.trod_bool hu hx
      exact .cons ⟨.b z, rfl, trivial⟩ .nil
    · rename_i fs hu
      split at h
      · rename_i ks' hks
        split at h
        · rename_i hl
          cases h
          unfold DataW.trod at hx
          rw [hu] at hx
          simp only at hx
          split at hx
          · rename_i hcs
            cases hm : (fs.toList.mapM fun f => DataW.trod enc P w base sp held m f.type ((cs.drop f.offset).take (P.cellsOf f.type))) with
            | none => rw [hm] at hx; cases hx
            | some xs =>
              have := ksFs_cells (fun {_ _ _ _} a b => ksT_cells a b) hks hm
              rwa [List.drop_zero, List.take_of_length_le (by omega)] at this
          · cases hx
        · cases h
      · cases h
    · rename_i q e hu
      split at h
      · rename_i ks' hks
        split at h
        · rename_i hl
          cases h
          unfold DataW.trod at hx
          rw [hu] at hx
          simp only at hx
          split at hx
          · rename_i hcs
            cases hm : ((List.range q).mapM fun i => DataW.trod enc P w base sp held m e ((cs.drop (i * P.cellsOf e)).take (P.cellsOf e))) with
            | none => rw [hm] at hx; cases hx
            | some xs =>
              rw [List.range_eq_range'] at hm
              have := ksArr_cells (P := P) (fun {_ _} b => ksT_cells hks b) hl.1 hm
              rwa [Nat.zero_mul, List.drop_zero, List.take_of_length_le (by omega)] at this
          · cases hx
        · cases h
      · cases h
    · cases h

end

/-! ### cells of plain data, strings among them -/
/-- Kinds of cells, strings among them. -/
inductive MK where
  | i (k : IntKind)
  | b
  | s
inductive MkOk : MK → NC → Prop
  | i {k : IntKind} {n : Int} : (Lit.int k n).wf = true → MkOk (.i k) (.i k n)
  | b {x : Bool} : MkOk .b (.b x)
  | s {z : ByteArray} : z.size ≤ maxLen → MkOk .s (.s z)
def MV (k : MK) (v : Value) : Prop := ∃ x, MkOk k x ∧ ∀ Γ, CR Γ x v
theorem MV.row (Γ : Env) {ks : List MK} {cs : List Value} (h : R2 MV ks cs) : ∃ xs, R2 MkOk ks xs ∧ R2 (CR Γ) xs cs := by
  induction h with
  | nil => exact ⟨[], .nil, .nil⟩
  | @cons k v ks cs h _ ih =>
    obtain ⟨x, h1, h2⟩ := h
    obtain ⟨xs, h3, h4⟩ := ih
    exact ⟨x :: xs, .cons h1 h3, .cons (h2 Γ) h4⟩
def msFs (rec : TypeId → Option (List MK)) (co : TypeId → Nat) : Nat → List Field → Option (List MK)
  | _, [] => some []
  | off, f :: fs =>
    match rec f.type, msFs rec co (off + co f.type) fs with
    | some a, some b => if f.offset = off ∧ a.length = co f.type then some (a ++ b) else none
    | _, _ => none
def msT (P : Program) : Nat → TypeId → Option (List MK)
  | 0, _ => none
  | n + 1, t =>
    match P.underlying t with
    | some (.int k) => some [.i k]
    | some .bool => some [.b]
    | some .string => some [.s]
    | some (.struct fs) => (match msFs (msT P n) P.cellsOf 0 fs.toList with
      | some ks => if ks.length = P.cellsOf t then some ks else none
      | none => none)
    | _ => none
section
variable {H : Type} {enc : TypeId × Value → H} {P : Program} {w : World} {base : Nat} {sp : Nat → Bool} {held : Bool}
theorem msFs_cells {n m : Nat} (ih : ∀ {t : TypeId} {ks : List MK} {cs : List Value} {x : DataW H × List MemPlace}, msT P n t = some ks → DataW.trod enc P w base sp held m t cs = some x → R2 MV ks cs) {cs : List Value} :
    ∀ {fs : List Field} {off : Nat} {ks : List MK} {xs : List (DataW H × List MemPlace)}, msFs (msT P n) P.cellsOf off fs = some ks →
      (fs.mapM fun f => DataW.trod enc P w base sp held m f.type ((cs.drop f.offset).take (P.cellsOf f.type))) = some xs → R2 MV ks ((cs.drop off).take ks.length)
  | [], off, ks, xs, h, _ => by simp [msFs] at h; subst h; simp; exact .nil
  | f :: fs, off, ks, xs, h, hx => by
    simp only [msFs] at h
    split at h
    · rename_i a b ha hb
      split at h
      · rename_i hc
        cases h
        obtain ⟨y, ys, h1, h2, -⟩ := mapM_cons_some hx
        have r1 := ih ha h1
        have r2 := msFs_cells ih hb h2
        rw [hc.1, ← hc.2] at r1
        rw [← hc.2] at r2
        have e : (cs.drop off).take (a ++ b).length = (cs.drop off).take a.length ++ (cs.drop (off + a.length)).take b.length := by
          rw [List.length_append, List.take_add, List.drop_drop]
        rw [e]
        exact r1.append r2
      · cases h
    · cases h
theorem msT_cells : ∀ {n : Nat} {t : TypeId} {ks : List MK} {m : Nat} {cs : List Value} {x : DataW H × List MemPlace}, msT P n t = some ks → DataW.trod enc P w base sp held m t cs = some x → R2 MV ks cs
  | 0, t, ks, m, cs, x, h, _ => by simp [msT] at h
  | n + 1, t, ks, 0, cs, x, _, hx => by simp [DataW.trod] at hx
  | n + 1, t, ks, m + 1, cs, x, h, hx => by
    simp only [msT] at h
    split at h
    · rename_i k hu
      cases h
      obtain ⟨z, rfl, -, hw⟩ := DataW.trod_int hu hx
      exact .cons ⟨.i k z, .i hw, fun _ => ⟨rfl, rfl⟩⟩ .nil
    · rename_i hu
      cases h
      obtain ⟨z, rfl, -⟩ := DataW.trod_bool hu hx
      exact .cons ⟨.b z, .b, fun _ => ⟨rfl, rfl⟩⟩ .nil
    · rename_i hu
      cases h
      obtain ⟨z, rfl, -, hs⟩ := DataW.trod_string hu hx
      exact .cons ⟨.s z, .s hs, fun _ => ⟨rfl, rfl⟩⟩ .nil
    · rename_i fs hu
      split at h
      · rename_i ks' hks
        split at h
        · rename_i hl
          cases h
          unfold DataW.trod at hx
          rw [hu] at hx
          simp only at hx
          split at hx
          · rename_i hcs
            cases hm : (fs.toList.mapM fun f => DataW.trod enc P w base sp held m f.type ((cs.drop f.offset).take (P.cellsOf f.type))) with
            | none => rw [hm] at hx; cases hx
            | some xs =>
              have := msFs_cells (fun {_ _ _ _} a b => msT_cells a b) hks hm
              rwa [List.drop_zero, List.take_of_length_le (by omega)] at this
          · cases hx
        · cases h
      · cases h
    · cases h
end

/-! ### what came in -/
section
variable {H : Type} {enc : TypeId × Value → H} {P : Program} {w : World} {base : Nat} {sp : Nat → Bool} {held : Bool}
inductive Sh where
  | i (k : IntKind)
  | b
  | s
  | row (k : IntKind)
  | rows (ks : List CK)
  | ag (ks : List CK)
  | mix (ms : List MK)
def shT (P : Program) (t : TypeId) : Option Sh :=
  match P.underlying t with
  | some (.int k) => some (.i k)
  | some .bool => some .b
  | some .string => some .s
  | some (.slice e) => (match ksT P 8 e with
    | some [.i k] => if P.cellsOf e = 1 then some (.row k) else none
    | some ks => if 0 < ks.length ∧ P.cellsOf e = ks.length then some (.rows ks) else none
    | none => none)
  | some (.struct _) => (match ksT P 8 t with
    | some ks => if ks.length = P.cellsOf t then some (.ag ks) else none
    | none => (match msT P 8 t with
      | some ms => some (.mix ms)
      | none => none))
  | some (.array _ _) => (match ksT P 8 t with
    | some ks => if ks.length = P.cellsOf t then some (.ag ks) else none
    | none => none)
  | _ => none
/-- What the shape tells of a value. -/
inductive ShOk : Sh → NV → Prop
  | i {k : IntKind} {n : Int} : (Lit.int k n).wf = true → ShOk (.i k) (.c (.i k n))
  | b {x : Bool} : ShOk .b (.c (.b x))
  | s {z : ByteArray} : z.size ≤ maxLen → ShOk .s (.c (.s z))
  | row {k : IntKind} {xs : List Int} : (∀ n ∈ xs, (Lit.int k n).wf = true) → ShOk (.row k) (.c (.l k xs))
  | rows {ks : List CK} {xs : List (List Sc)} : (∀ r ∈ xs, rowOk ks r) → ShOk (.rows ks) (.c (.lr ks xs))
  | ag {ks : List CK} {row : List Sc} : rowOk ks row → ShOk (.ag ks) (.ag (rowCells ks row))
  | mix {ms : List MK} {xs : List NC} : R2 MkOk ms xs → ShOk (.mix ms) (.ag xs)
theorem mapM_all {α β : Type} {f : α → Option β} : ∀ {l : List α} {r : List β}, l.mapM f = some r → r.length = l.length ∧ ∀ (j : Nat) a y, l[j]? = some a → r[j]? = some y → f a = some y
  | [], r, h => by simp at h; subst h; exact ⟨rfl, fun j a y h => by simp at h⟩
  | a :: l, r, h => by
    obtain ⟨b, r', h1, h2, rfl⟩ := mapM_cons_some h
    obtain ⟨h3, h4⟩ := mapM_all h2
    refine ⟨by simp [h3], fun j c y hc hy => ?_⟩
    cases j with
    | zero => simp at hc hy; subst hc hy; exact h1
    | succ j => simp at hc hy; exact h4 j c y hc hy
theorem cells_get {x : Addr} {n : Nat} {cs : List Value} (h : w.cells? base x n = some cs) : cs.length = n ∧ ∀ j v, cs[j]? = some v → w.cell? (x.add j) = some v := by
  unfold World.cells? at h
  split at h
  · obtain ⟨hl, hg⟩ := mapM_all h
    rw [List.length_range] at hl
    refine ⟨hl, fun j v hj => ?_⟩
    have hjn : j < n := by rw [← hl]; exact (List.getElem?_eq_some_iff.1 hj).1
    exact hg j j v (List.getElem?_range hjn) hj
  · cases h
theorem rows_of {n m : Nat} {e : TypeId} {ks : List CK} {a : Addr} {len : Nat} (hks : ksT P n e = some ks) (hc : P.cellsOf e = ks.length)
    (hel : ∀ i, i < len → ∃ cs x, w.cells? base (a.add (i * P.cellsOf e)) (P.cellsOf e) = some cs ∧ DataW.trod enc P w base sp held m e cs = some x) :
    ∃ xs : List (List Sc), xs.length = len ∧ (∀ r ∈ xs, rowOk ks r) ∧ ∀ j v, (rowsV ks xs)[j]? = some v → w.cell? (a.add j) = some v := by
  induction len with
  | zero => exact ⟨[], rfl, (fun r h => by cases h), (fun j v h => by simp [rowsV] at h)⟩
  | succ len ih =>
    obtain ⟨xs, hl, hok, hcell⟩ := ih fun i hi => hel i (by omega)
    obtain ⟨cs, x, h1, h2⟩ := hel len (by omega)
    obtain ⟨row, rfl, hr⟩ := CV.row (ksT_cells hks h2)
    obtain ⟨h3, h4⟩ := cells_get h1
    refine ⟨xs ++ [row], by simp [hl], fun r hm => ?_, fun j v hj => ?_⟩
    · rcases List.mem_append.1 hm with h | h
      · exact hok r h
      · rw [List.mem_singleton.1 h]; exact hr
    · have e1 : rowsV ks (xs ++ [row]) = rowsV ks xs ++ rowVals ks row := by simp [rowsV]
      rw [e1, List.getElem?_append] at hj
      split at hj
      · exact hcell j v hj
      · rename_i hlt
        rw [rowsV_length, hl] at hlt hj
        have := h4 _ _ hj
        rw [hc] at this
        rw [show j = len * ks.length + (j - len * ks.length) by omega, ← Addr.add_add]
        exact this
theorem roRow_of {a : Addr} {vs : List Value} (er : Nat → Option Value) (h0 : vs ≠ []) (h : ∀ j v, vs[j]? = some v → w.cell? (a.add j) = some v) : ∃ blk off, a = ⟨blk, off, none⟩ ∧ RoRow (topEnv w er) blk off vs := by
  obtain ⟨blk, off, spot⟩ := a
  have hpos : 0 < vs.length := List.length_pos_iff.2 h0
  have c0 := h 0 _ (List.getElem?_eq_getElem hpos)
  have e0 : (⟨blk, off, spot⟩ : Addr).add 0 = ⟨blk, off, spot⟩ := by simp [Addr.add]
  rw [e0] at c0
  unfold World.cell? at c0
  split at c0
  · rename_i c e fz hb
    have hsp : spot = none := by
      cases spot with
      | none => rfl
      | some n => simp at c0
    subst hsp
    refine ⟨blk, off, rfl, ?_, c, e, fz, hb, fun j u hj => ?_⟩
    · have : blk < w.heap.size := by
        rw [Array.getElem?_eq_some_iff] at hb
        exact hb.1
      simpa [topEnv] using this
    · have cj := h j u hj
      unfold World.cell? Addr.add at cj
      by_cases hj0 : j = 0
      · subst hj0
        rw [if_pos rfl] at cj
        simp only [hb] at cj
        simpa using cj
      · rw [if_neg hj0] at cj
        simp only [hb] at cj
        simpa using cj
  · cases c0
theorem rows_of_slice {n m : Nat} {t e : TypeId} {ks : List CK} {a : Option Addr} {len cap : Nat} {x : DataW H × List MemPlace} (er : Nat → Option Value) (hu : P.underlying t = some (.slice e)) (hks : ksT P n e = some ks) (h0 : 0 < ks.length) (hc : P.cellsOf e = ks.length)
    (h : DataW.trod enc P w base sp held m t [.slice a len cap] = some x) :
    ∃ xs : List (List Sc), xs.length = len ∧ len ≤ cap ∧ (∀ r ∈ xs, rowOk ks r) ∧ (xs = [] ∨ ∃ blk off, a = some ⟨blk, off, none⟩ ∧ RoRow (topEnv w er) blk off (rowsV ks xs)) := by
  rcases DataW.trod_slice hu h with ⟨hcs, _⟩ | ⟨a', len', cap', elems, rest, n', _, hcs, _, _, hl, _, hlen, hel, _⟩
  · simp at hcs
    obtain ⟨rfl, rfl, rfl⟩ := hcs
    exact ⟨[], rfl, Nat.le_refl _, (fun r h => by cases h), .inl rfl⟩
  · simp at hcs
    obtain ⟨rfl, rfl, rfl⟩ := hcs
    obtain ⟨xs, h1, h2, h3⟩ := rows_of (H := H) (enc := enc) (w := w) (base := base) (sp := sp) (held := held) (m := n') (a := a') (len := len) hks hc fun i hi => by
      have hE := hel i hi
      rw [List.getElem?_eq_getElem (by omega : i < elems.length)] at hE
      simp only [Option.bind_eq_some_iff] at hE
      obtain ⟨cs, h1, h2⟩ := hE
      exact ⟨cs, _, h1, h2⟩
    refine ⟨xs, h1, hl, h2, ?_⟩
    by_cases hx : xs = []
    · exact .inl hx
    · right
      have hne : rowsV ks xs ≠ [] := by
        intro he
        have hl2 := rowsV_length ks xs
        rw [he] at hl2
        have hp : 0 < xs.length := List.length_pos_iff.2 hx
        have := Nat.mul_pos hp h0
        rw [← hl2] at this
        simp at this
      obtain ⟨blk, off, rfl, hr⟩ := roRow_of er hne h3
      exact ⟨blk, off, rfl, hr⟩
theorem one_ints {k : IntKind} {xs : List (List Sc)} (h : ∀ r ∈ xs, rowOk [.i k] r) : rowsV [.i k] xs = (xs.map fun r => (r.getD 0 (.i 0)).n).map (.int k) ∧ ∀ n ∈ xs.map (fun r => (r.getD 0 (.i 0)).n), (Lit.int k n).wf = true := by
  induction xs with
  | nil => exact ⟨rfl, fun n h => by cases h⟩
  | cons r xs ih =>
    obtain ⟨h1, h2⟩ := ih fun r hr => h r (by simp [hr])
    have hr := h r (by simp)
    cases hr with
    | @cons _ s _ l hs hn =>
      cases hn
      cases s with
      | b x => exact hs.elim
      | i n =>
        refine ⟨?_, fun m hm => ?_⟩
        · have e : rowsV [.i k] ([.i n] :: xs) = [.int k n] ++ rowsV [.i k] xs := by simp [rowsV, rowVals, rowFrom, ckVal, Sc.n]
          rw [e, h1]; rfl
        · rw [List.map_cons, List.mem_cons] at hm
          rcases hm with rfl | hm
          · exact hs
          · exact h2 m hm
theorem open_one {t : TypeId} {v : Value} {d : DataW H} {p : List MemPlace} {sh : Sh} {b0 : Nat} (er : Nat → Option Value) (hsh : shT P t = some sh) (hval : Value.okWide P w .any b0 t v) (h : DataW.Trod enc P w base sp held t v d p) :
    ∃ x, VRel (topEnv w er) x v ∧ ShOk sh x := by
  unfold shT at hsh
  split at hsh
  · rename_i k hu
    cases hsh
    obtain ⟨n, rfl, -, -, hw⟩ := open_int hu hval h
    exact ⟨.c (.i k n), ⟨rfl, rfl⟩, .i hw⟩
  · rename_i hu
    cases hsh
    obtain ⟨n, rfl, -⟩ := open_bool hu hval h
    exact ⟨.c (.b n), ⟨rfl, rfl⟩, .b⟩
  · rename_i hu
    cases hsh
    obtain ⟨n, rfl, -, -, hs⟩ := open_string hu hval h
    exact ⟨.c (.s n), ⟨rfl, rfl⟩, .s hs⟩
  · rename_i e hu
    obtain ⟨a, len, cap, rfl⟩ := okWide_slice hu hval
    obtain ⟨fuel, hf⟩ := h
    have hf' : DataW.trod enc P w base sp held fuel t [.slice a len cap] = some (d, p) := by simpa [Value.cells] using hf
    split at hsh
    · rename_i k hks
      split at hsh
      · rename_i hc
        cases hsh
        obtain ⟨xs, h1, h2, h3, h4⟩ := rows_of_slice er hu hks (by simp) (by simpa using hc) hf'
        obtain ⟨e1, e2⟩ := one_ints h3
        refine ⟨.c (.l k (xs.map fun r => (r.getD 0 (.i 0)).n)), ⟨⟨a, cap, by simp [h1], by simpa [h1] using h2, ?_⟩, rfl⟩, .row e2⟩
        rcases h4 with h4 | ⟨blk, off, h4, h5⟩
        · left; rw [h4]; rfl
        · right; exact ⟨blk, off, h4, by rw [← e1]; exact h5⟩
      · cases hsh
    · rename_i ks _ hks
      split at hsh
      · rename_i hc
        cases hsh
        obtain ⟨xs, h1, h2, h3, h4⟩ := rows_of_slice er hu hks hc.1 hc.2 hf'
        exact ⟨.c (.lr ks xs), ⟨⟨a, cap, by rw [h1], by rw [h1]; exact h2, hc.1, h4⟩, rfl⟩, .rows h3⟩
      · cases hsh
    · cases hsh
  · rename_i fs hu
    split at hsh
    · rename_i ks hks
      split at hsh
      · cases hsh
        simp only [Value.okWide, hu] at hval
        obtain ⟨cs, rfl, -⟩ := hval
        obtain ⟨fuel, hf⟩ := h
        obtain ⟨row, e1, hr⟩ := CV.row (ksT_cells hks hf)
        have e1' : cs.toList = rowVals ks row := by simpa [Value.cells] using e1
        exact ⟨.ag (rowCells ks row), ⟨cs.toList, by simp, by rw [e1']; exact rowCells_rel _ ks row⟩, .ag hr⟩
      · cases hsh
    · split at hsh
      · rename_i ms hms
        cases hsh
        simp only [Value.okWide, hu] at hval
        obtain ⟨cs, rfl, -⟩ := hval
        obtain ⟨fuel, hf⟩ := h
        obtain ⟨xs, h1, h2⟩ := MV.row (topEnv w er) (msT_cells hms hf)
        exact ⟨.ag xs, ⟨cs.toList, by simp, by simpa [Value.cells] using h2⟩, .mix h1⟩
      · cases hsh
  · rename_i q e hu
    split at hsh
    · rename_i ks hks
      split at hsh
      · cases hsh
        simp only [Value.okWide, hu] at hval
        obtain ⟨cs, rfl, -⟩ := hval
        obtain ⟨fuel, hf⟩ := h
        obtain ⟨row, e1, hr⟩ := CV.row (ksT_cells hks hf)
        have e1' : cs.toList = rowVals ks row := by simpa [Value.cells] using e1
        exact ⟨.ag (rowCells ks row), ⟨cs.toList, by simp, by rw [e1']; exact rowCells_rel _ ks row⟩, .ag hr⟩
      · cases hsh
    · cases hsh
  · cases hsh
theorem open_all (er : Nat → Option Value) {b0 : Nat} : ∀ {ts : List TypeId} {shs : List Sh} {vs : List Value} {ds : List (DataW H)} {ps : List MemPlace}, mapL (shT P) ts = some shs → (∀ (j : Nat) t v, ts[j]? = some t → vs[j]? = some v → Value.okWide P w .any b0 t v) →
    DataW.TrodAll enc P w base sp held ts vs ds ps → ∃ xs, R2 (VRel (topEnv w er)) xs vs ∧ R2 ShOk shs xs
  | [], shs, vs, ds, ps, hs, _, h => by
    simp [mapL] at hs
    subst hs
    obtain ⟨rfl, rfl, rfl⟩ := trodAll_nil h
    exact ⟨[], .nil, .nil⟩
  | t :: ts, shs, vs, ds, ps, hs, hval, h => by
    obtain ⟨v, vs', d, ds', p, q, rfl, rfl, rfl, h1, h2⟩ := trodAll_cons h
    simp only [mapL] at hs
    split at hs
    · rename_i a l ha hl
      cases hs
      obtain ⟨x, r1, o1⟩ := open_one er ha (hval 0 t v rfl rfl) h1
      obtain ⟨xs, r2, o2⟩ := open_all er hl (fun j t v ht hv => hval (j + 1) t v ht hv) h2
      exact ⟨x :: xs, .cons r1 r2, .cons o1 o2⟩
    · cases hs
end
theorem stays_all {H : Type} {enc : TypeId × Value → H} {P : Program} {W W' : World} (hl : laidOutB P = true) (hb : Below W.heap.size W W') : ∀ {ts : List TypeId} {vs : List Value} {ds : List (DataW H)} {ps : List MemPlace}, (ts.all fun t => P.readableRec t && decide (t < P.types.size)) = true →
    DataW.TrodAll enc P W 0 (fun _ => true) true ts vs ds ps → DataW.TrodAll enc P W' 0 (fun b => decide (b < W.heap.size)) true ts vs ds ps
  | [], vs, ds, ps, _, h => by
    obtain ⟨rfl, rfl, rfl⟩ := trodAll_nil h
    rfl
  | t :: ts, vs, ds, ps, hr, h => by
    obtain ⟨v, vs', d, ds', p, q, rfl, rfl, rfl, h1, h2⟩ := trodAll_cons h
    simp only [List.all_cons, Bool.and_eq_true, decide_eq_true_eq] at hr
    have lt : ∀ x ∈ p, x.block < W.heap.size := by obtain ⟨m, hm⟩ := h1; exact DataW.trod_lt m _ _ _ hm
    exact trodAll_cons_mk (Below.trod hl hr.1.1 hr.1.2 h1 hb lt) (stays_all hl hb (by simpa using hr.2) h2)
theorem trodAll_length {H : Type} {enc : TypeId × Value → H} {P : Program} {W : World} {base : Nat} {sp : Nat → Bool} {held : Bool} : ∀ {ts : List TypeId} {vs : List Value} {ds : List (DataW H)} {ps : List MemPlace}, DataW.TrodAll enc P W base sp held ts vs ds ps → ds.length = ts.length
  | [], vs, ds, ps, h => by obtain ⟨rfl, rfl, rfl⟩ := trodAll_nil h; rfl
  | t :: ts, vs, ds, ps, h => by
    obtain ⟨v, vs', d, ds', p, q, rfl, rfl, rfl, h1, h2⟩ := trodAll_cons h
    simp [trodAll_length h2]
/-- A LAW, WHATEVER CAME IN. -/
theorem Known.contract {H : Type} {enc : TypeId × Value → H} {P : Program} {gl : List Nat} {f : FuncId} {fn : Func} {T : Con} {spec : ChangeSpec} {shs : List Sh} {tb : TypeId} (hk : Known P gl f T) (hl : laidOutB P = true)
    (hsh : mapL (shT P) fn.params.toList = some shs) (hread : (fn.params.toList.all fun t => P.readableRec t && decide (t < P.types.size)) = true) (hvars : spec.vars = []) (hres : fn.resultTypes = #[tb]) (htb : P.underlying tb = some .bool)
    (hspec : ∀ ds : List (DataW H), ds.length = fn.params.toList.length → spec.fn H ds = { results := [.lit (.bool true)], args := ds })
    (hT : ∀ xs, R2 ShOk shs xs → Holds (T xs []) fun o => o.res = .v (.c (.b true)))
    {W : World} {base : Nat} {args : Array Value} {ds gs : List (DataW H)} {before : List MemPlace} (er : Nat → Option Value) (hG : GlobOk gl (topEnv W er))
    (hval : ∀ (j : Nat) t v, fn.params[j]? = some t → args[j]? = some v → Value.okWide P W .any base t v) (hW : DataW.Whole enc P fn.params.toList spec.vars false W args.toList ds gs before) :
    Calls P f args W fun e W' => ∃ v, e = .returned v ∧ spec.post enc P fn false true false false W args v W' := by
  have hW' := hW
  obtain ⟨p, q, hA, hV, rfl, hfz, hnd⟩ := hW
  rw [hvars] at hV
  obtain ⟨rfl, rfl⟩ := trodVars_none hV
  obtain ⟨xs, hr, ho⟩ := open_all er hsh (fun j t v ht hv => hval j t v (by simpa using ht) (by simpa using hv)) hA
  have e := hspec ds (trodAll_length hA)
  have hcalls := hk.lawB (w := W) er hG hr (hT xs ho)
  have ea : args.toList.toArray = args := by simp
  rw [ea] at hcalls
  refine hcalls.mono fun e' W' ⟨he, bel⟩ => ?_
  subst he
  refine ⟨_, rfl, ds, [], _, [], p, [], hW', ?_, ?_, ?_, bel.frame _, fun h => by cases h⟩
  · rw [List.append_nil, e, hres]
    exact trodAll_mk1 (shut_bool htb true)
  · rw [List.append_nil, e]
    exact stays_all hl bel hread hA
  · rw [List.append_nil, e, hvars]
    rfl
end Go.Nx
