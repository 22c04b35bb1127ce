/-
  The engine, part 10: append.
-/
import Derived.Test.YtnhadghddkgjdaaEng9
import Derived.Lib.AppendZeros
import Derived.Laws.CopyRow
namespace Go.Nx
open Go

/-- A later environment: what it says anew is of new blocks, or of blocks of the call's own regions. -/
structure Ext (Γ : Env) (w : World) (Γ' : Env) : Prop where
  le : Γ.le Γ'
  ro : ∀ b, Γ'.ro b = true → Γ.ro b = true ∨ w.heap.size ≤ b ∨ ∃ n B, Γ.μ n = some B ∧ B.blk = b
  nw : ∀ n B, Γ'.μ n = some B → w.heap.size ≤ B.blk ∨ ∃ n' B', Γ.μ n' = some B' ∧ B'.blk = B.blk
theorem Ext.refl (Γ : Env) (w : World) : Ext Γ w Γ := ⟨Env.le.refl Γ, fun _ h => .inl h, fun n B h => .inr ⟨n, B, h, rfl⟩⟩
theorem Ext.trans {a b c : Env} {w w' : World} (hw : Wd w w') (h : Ext a w b) (k : Ext b w' c) : Ext a w c := by
  refine ⟨h.le.trans k.le, fun x hx => ?_, fun n B hB => ?_⟩
  · rcases k.ro x hx with h1 | h1 | ⟨n, B, h1, rfl⟩
    · exact h.ro x h1
    · exact .inr (.inl (Nat.le_trans hw.size h1))
    · rcases h.nw n B h1 with h2 | h2
      · exact .inr (.inl h2)
      · exact .inr (.inr h2)
  · rcases k.nw n B hB with h1 | ⟨n', B', h1, h2⟩
    · exact .inl (Nat.le_trans hw.size h1)
    · rw [← h2]; exact h.nw n' B' h1
theorem Ext.add {Γ : Env} {w : World} {nm : Nat} {B : Blk} (h : Γ.μ nm = none) (hb : w.heap.size ≤ B.blk ∨ ∃ n' B', Γ.μ n' = some B' ∧ B'.blk = B.blk) : Ext Γ w (Γ.add nm B) := by
  refine ⟨Γ.le_add nm B h, fun b hb => .inl hb, fun n B' hn => ?_⟩
  simp only [Env.add] at hn
  split at hn
  · cases hn; exact hb
  · exact .inr ⟨n, B', hn, rfl⟩
theorem Wd.alloc (w : World) (c : Array Value) (t : TypeId) : Wd w (w.alloc (.cells c t)) := ⟨rfl, rfl, rfl, by simp⟩
theorem Wd.drew (w : World) : Wd w w.drew := ⟨rfl, rfl, rfl, Nat.le_refl _⟩

def Els.vals : Els → List Value
  | .ints k xs => xs.map (.int k)
  | .recs ks xs => rowsV ks xs
def Els.w : Els → Nat
  | .ints _ _ => 1
  | .recs ks _ => ks.length
theorem Els.vals_length (x : Els) : x.vals.length = x.length * x.w := by
  cases x with
  | ints k xs => simp [Els.vals, Els.length, Els.w]
  | recs ks xs => simp [Els.vals, Els.length, Els.w, rowsV_length]
theorem Els.vals_one (x : Els) : ∀ u ∈ x.vals, u.oneCell' = true := by
  cases x with
  | ints k xs => intro u hu; simp only [Els.vals, List.mem_map] at hu; obtain ⟨n, -, rfl⟩ := hu; rfl
  | recs ks xs => exact (rowsNC_rel ⟨fun _ => none, fun _ => none, fun _ => false, fun _ => none⟩ ks xs).oneCell
theorem Els.app_spec {x y z : Els} (h : x.app y = some z) : z.vals = x.vals ++ y.vals ∧ z.length = x.length + y.length ∧ z.w = x.w ∧ ∀ e, (z.reg e).st = z.w := by
  cases x <;> cases y <;> simp only [Els.app, reduceCtorEq] at h
  · split at h
    · rename_i e; cases h; subst e; exact ⟨by simp [Els.vals], by simp [Els.length], rfl, fun _ => rfl⟩
    · cases h
  · split at h
    · rename_i e; cases h; subst e; exact ⟨by simp [Els.vals, rowsV], by simp [Els.length], rfl, fun _ => rfl⟩
    · cases h
theorem Els.fits_spec {P : Program} {e : TypeId} {x : Els} (h : x.fits P e = true) : ∃ i v, P.info? e = some i ∧ i.zero = some v ∧ v.cells.size = i.size ∧ i.size = x.w ∧ 0 < x.w ∧ i.bytes = bytesT P e := by
  have key : ∀ ks, ksOf P e = some ks → ∃ i v, P.info? e = some i ∧ i.zero = some v ∧ v.cells.size = i.size ∧ i.size = ks.length ∧ i.bytes = bytesT P e := by
    intro ks hks
    unfold ksOf at hks
    split at hks
    · rename_i z hz
      obtain ⟨i, v, hi, hv, hsz, hs⟩ := zeroCells_spec hz
      have h1 : i.size = sizeT P e := by simp [sizeT, hi]
      refine ⟨i, v, hi, hv, by rw [h1]; exact hsz, ?_, by simp [bytesT, hi]⟩
      rw [ksFrom_length hks, (scals_rel (Γ := ⟨fun _ => none, fun _ => none, fun _ => false, fun _ => none⟩) hs).length, h1, ← hsz]; simp
    · cases hks
  cases x with
  | ints k xs =>
    simp only [Els.fits, decide_eq_true_eq] at h
    obtain ⟨i, v, h1, h2, h3, h4, h5⟩ := key _ h
    exact ⟨i, v, h1, h2, h3, h4, Nat.one_pos, h5⟩
  | recs ks xs =>
    simp only [Els.fits, Bool.and_eq_true, decide_eq_true_eq] at h
    obtain ⟨i, v, h1, h2, h3, h4, h5⟩ := key _ h.1
    exact ⟨i, v, h1, h2, h3, h4, h.2, h5⟩
theorem Els.reg_rel (Γ : Env) (x : Els) (e : TypeId) (l2 : List Value) (h0 : 0 < x.w) : BodyRel Γ (x.reg e).st (x.reg e).body (x.vals ++ l2) ∧ (x.reg e).e = e ∧ (x.reg e).st = x.w := by
  cases x with
  | ints k xs => exact ⟨⟨rfl, l2, rfl⟩, rfl, rfl⟩
  | recs ks xs => exact ⟨⟨rfl, h0, l2, rfl⟩, rfl, rfl⟩

theorem els_sound {s : St} {Γ : Env} {w : World} {y : NC} {v : Value} {c : List Bool} {ys : Els} (hw : WRel Γ s.rg w) (hy : CR Γ y v) (h : els s y = some (c, ys)) (hc : allT c) :
    ∃ a cap, v = .slice a ys.length cap ∧ ys.length ≤ cap ∧ (ys.length = 0 ∨ ∃ blk off, a = some ⟨blk, off, none⟩ ∧ ∀ j u, ys.vals[j]? = some u → w.cell? ⟨blk, off + j, none⟩ = some u) := by
  unfold els at h
  split at h
  · rename_i r off len
    obtain ⟨⟨B, o, cap, hB, rfl, hlc, hcm, hcap⟩, -⟩ := hy
    split at h
    case h_2 => cases h
    rename_i g hg
    obtain ⟨B', hB', cs, hcs, hst, hsz, hbody⟩ := hw.live r g ((reg_eq s r g).1 hg)
    rw [hB] at hB'; cases hB'
    split at h
    · rename_i k xs hb
      cases h
      rw [hb] at hbody
      obtain ⟨h1, l2, hl⟩ := hbody
      have hlen : off + len ≤ xs.length := by simpa [allT] using hc
      have e1 : (Els.ints k ((xs.drop off).take len)).length = len := by simp [Els.length]; omega
      rw [e1]
      refine ⟨_, cap, rfl, hlc, ?_⟩
      rcases hcap with ⟨rfl, -⟩ | h0
      · right
        refine ⟨B.blk, off * B.st, rfl, fun j u hj => ?_⟩
        refine heap_cell hcs ?_
        rw [hl, hst, h1, Nat.mul_one]
        refine prefix_get ?_
        simp only [Els.vals, List.map_take, List.map_drop] at hj
        exact drop_take_get hj
      · left; omega
    · rename_i ks xs hb
      cases h
      rw [hb] at hbody
      obtain ⟨h1, h0', l2, hl⟩ := hbody
      have hlen : off + len ≤ xs.length := by simpa [allT] using hc
      have e1 : (Els.recs ks ((xs.drop off).take len)).length = len := by simp [Els.length]; omega
      rw [e1]
      refine ⟨_, cap, rfl, hlc, ?_⟩
      rcases hcap with ⟨rfl, -⟩ | h0
      · right
        refine ⟨B.blk, off * B.st, rfl, fun j u hj => ?_⟩
        refine heap_cell hcs ?_
        rw [hl, hst, h1]
        refine prefix_get ?_
        simp only [Els.vals] at hj
        rw [← rowsV_take, ← rowsV_drop] at hj
        exact drop_take_get hj
      · left; omega
    · cases h
  · rename_i k xs
    cases h
    obtain ⟨⟨a, cap, rfl, hlc, hro⟩, -⟩ := hy
    refine ⟨a, cap, rfl, hlc, ?_⟩
    rcases hro with rfl | ⟨blk, off, rfl, hro⟩
    · left; rfl
    · right; exact ⟨blk, off, rfl, fun j u hj => hro.cell hw hj⟩
  · rename_i ks xs
    cases h
    obtain ⟨⟨a, cap, rfl, hlc, hks, hro⟩, -⟩ := hy
    refine ⟨a, cap, rfl, hlc, ?_⟩
    rcases hro with rfl | ⟨blk, off, rfl, hro⟩
    · left; rfl
    · right; exact ⟨blk, off, rfl, fun j u hj => hro.cell hw hj⟩
  · cases h

/-! ### the runs -/
section
variable {P : Program} {w : World} {t ty e : TypeId} {i : TypeInfo} {z : Value}
theorem run_append_zero (ht : P.underlying t = some (.slice e)) (hi : P.info? e = some i) (b a : Option Addr) (n c cap : Nat) (h : n ≤ c) :
    (Builtin.append_ #[t, t] ty #[.slice b n c, .slice a 0 cap]).run P w = .ok (.slice b n c) w := by
  cases a with
  | none => cases b <;> simp [Builtin.append_, run_underlying ht, sizeOf, typeInfo, hi, Builtin.lenOf, Builtin.firstCells, h, storeCells]
  | some a => cases b <;> simp [Builtin.append_, run_underlying ht, sizeOf, typeInfo, hi, Builtin.lenOf, Builtin.firstCells, h, storeCells, loadCells, loadCellsFrom]

/-- What an append comes to that makes something: a row in the old block or in a new one. -/
structure Appd (w : World) (old : Option Nat) (e : TypeId) (size n : Nat) (vals : List Value) (v : Value) (w' : World) : Prop where
  row : ∃ blk o cap cur, v = .slice (some ⟨blk, o, none⟩) n cap ∧ w'.heap[blk]? = some (.cells cur e (0, 0)) ∧ n ≤ cap ∧ cap ≤ maxLen ∧ (o = 0 ∧ cur.size = cap * size ∨ cap = 0) ∧ (∃ l2, cur.toList = vals ++ l2) ∧
    (old = some blk ∨ (w.heap.size ≤ blk ∧ blk < w'.heap.size))
  keep : ∀ b, b < w.heap.size → old ≠ some b → w'.heap[b]? = w.heap[b]?
  wd : Wd w w'

theorem grown_alloc (hz : i.zero = some z) (hzs : z.cells.size = i.size) {olds news : List Value} {n m G : Nat} (hlo : olds.length = n * i.size) (hln : news.length = m * i.size) (hG : n + m ≤ G) (hGm : G ≤ maxLen) (old : Option Nat) :
    Appd w old e i.size (n + m) (olds ++ news) (.slice (some ⟨w.heap.size, 0, none⟩) (n + m) G) (w.drew.alloc (.cells (olds.toArray ++ news.toArray ++ Builtin.zeroCells z.cells (G - (n + m))) e)) := by
  have _ := hz
  refine ⟨⟨w.heap.size, 0, G, _, rfl, heap_alloc_new w.drew _, hG, hGm, .inl ⟨rfl, ?_⟩, ⟨(Builtin.zeroCells z.cells (G - (n + m))).toList, by simp⟩, .inr ⟨Nat.le_refl _, by simp⟩⟩, fun b hb _ => heap_alloc_lt w.drew _ _ hb, ⟨rfl, rfl, rfl, by simp⟩⟩
  simp only [Array.size_append, List.size_toArray, size_zeroCells, hzs, hlo, hln, ← Nat.add_mul]
  congr 1
  omega
theorem app_new (ht : P.underlying t = some (.slice e)) (hi : P.info? e = some i) (hz : i.zero = some z) (hzs : z.cells.size = i.size)
    {a : Addr} {m c : Nat} {news : List Value} (hl : news.length = m * i.size) (hnews : ∀ j u, news[j]? = some u → w.cell? (a.add j) = some u) (hm : 0 < m)
    (hb : m * i.bytes ≤ 140737488355328) (h63 : m ≤ 9223372036854775807) :
    ∃ v w', (Builtin.append_ #[t, t] ty #[.slice none 0 0, .slice (some a) m c]).run P w = .ok v w' ∧ Appd w none e i.size m news v w' := by
  have hr := run_append_nil (P := P) w t ty e i z ht hi hz a m c news hl hnews hm (by omega) (by omega)
  refine ⟨_, _, hr, ?_⟩
  have := grown_alloc (w := w) (e := e) hz hzs (olds := []) (n := 0) (m := m) (G := grownCap w m 0 e) (by simp) hl (by simpa using grownCap_ge w m 0 e) (grownCap_le_maxLen w m 0 e (by simp only [maxLen]; omega)) none
  simpa using this
theorem app_old (ht : P.underlying t = some (.slice e)) (hi : P.info? e = some i) (hz : i.zero = some z) (hzs : z.cells.size = i.size)
    {blk n cap : Nat} {cur : Array Value} (hg : w.heap[blk]? = some (.cells cur e (0, 0))) {olds l2 : List Value} (hcur : cur.toList = olds ++ l2) (hlo : olds.length = n * i.size) (hcs : cur.size = cap * i.size) (hcm : cap ≤ maxLen)
    {a : Addr} {m c : Nat} {news : List Value} (hl : news.length = m * i.size) (hnews : ∀ j u, news[j]? = some u → w.cell? (a.add j) = some u) (h1 : ∀ u ∈ news, u.oneCell' = true)
    (hb : (n + m) * i.bytes ≤ 140737488355328) (h63 : n + m ≤ 9223372036854775807) :
    ∃ v w', (Builtin.append_ #[t, t] ty #[.slice (some ⟨blk, 0, none⟩) n cap, .slice (some a) m c]).run P w = .ok v w' ∧ Appd w (some blk) e i.size (n + m) (olds ++ news) v w' := by
  by_cases hroom : n + m ≤ cap
  · have hfit : n * i.size + news.length ≤ cur.size := by rw [hl, hcs, ← Nat.add_mul]; exact Nat.mul_le_mul_right _ hroom
    have hr := run_append_room (P := P) w t ty e i ht hi blk n cap cur hg a m c news hl hnews h1 hroom hfit
    refine ⟨_, _, hr, ⟨⟨blk, 0, cap, _, rfl, setRow_heap w blk cur _ e _ hg, hroom, hcm, .inl ⟨rfl, ?_⟩, ?_, .inl rfl⟩, fun b hb hne => setRow_other w blk b _ (fun h => hne (by rw [h])), ⟨rfl, rfl, rfl, by simp⟩⟩⟩
    · simp only [List.size_toArray, List.length_append, List.length_take, List.length_drop, Array.length_toList]
      omega
    · refine ⟨cur.toList.drop (n * i.size + news.length), ?_⟩
      have : cur.toList.take (n * i.size) = olds := by rw [hcur, List.take_append_of_le_length (by omega), List.take_of_length_le (by omega)]
      simp only [this]
  · have holds : ∀ j u, olds[j]? = some u → w.cell? ((⟨blk, 0, none⟩ : Addr).add j) = some u := fun j u hj => by
      rw [Addr.add_lit]
      exact heap_cell hg (by rw [hcur, Nat.zero_add]; exact prefix_get hj)
    have hr := run_append_grow (P := P) w t ty e i z ht hi hz ⟨blk, 0, none⟩ n cap olds hlo holds a m c news hl hnews (by omega) (by omega) (growslice_fits (by omega) hb)
    exact ⟨_, _, hr, grown_alloc hz hzs hlo hl (grownCap_ge w (n + m) cap e) (grownCap_le_maxLen w (n + m) cap e (by simp only [maxLen]; omega)) (some blk)⟩
theorem app_empty (ht : P.underlying t = some (.slice e)) (hi : P.info? e = some i) (hz : i.zero = some z) (hzs : z.cells.size = i.size) (b : Addr)
    {a : Addr} {m c : Nat} {news : List Value} (hl : news.length = m * i.size) (hnews : ∀ j u, news[j]? = some u → w.cell? (a.add j) = some u) (hm : 0 < m)
    (hb : m * i.bytes ≤ 140737488355328) (h63 : m ≤ 9223372036854775807) (old : Option Nat) :
    ∃ v w', (Builtin.append_ #[t, t] ty #[.slice (some b) 0 0, .slice (some a) m c]).run P w = .ok v w' ∧ Appd w old e i.size m news v w' := by
  have hr := run_append_grow (P := P) w t ty e i z ht hi hz b 0 0 [] (by simp) (by simp) a m c news hl hnews (by omega) (by omega) (by simpa using growslice_fits (old := 0) (by omega) hb)
  refine ⟨_, _, hr, ?_⟩
  have := grown_alloc (w := w) (e := e) hz hzs (olds := []) (n := 0) (m := m) (G := grownCap w (0 + m) 0 e) (by simp) hl (grownCap_ge w (0 + m) 0 e) (grownCap_le_maxLen w (0 + m) 0 e (by simp only [maxLen]; omega)) old
  simpa using this
end

theorem putAt_length (l : List (Option Reg)) (n : Nat) (x : Option Reg) : l.length ≤ (putAt l n x).length ∧ n < (putAt l n x).length := by
  unfold putAt
  split
  · simp; assumption
  · simp; omega
theorem ups_le (s : St) (u : List (Nat × Option Reg)) : s.rg.length ≤ (s.ups u).rg.length := by
  induction u generalizing s with
  | nil => exact Nat.le_refl _
  | cons x u ih => obtain ⟨n, g⟩ := x; exact Nat.le_trans (putAt_length s.rg n g).1 (ih (s.setReg n g))
theorem ups_len {s : St} {u : List (Nat × Option Reg)} {n : Nat} {g : Option Reg} (h : (n, g) ∈ u) : n < (s.ups u).rg.length := by
  induction u generalizing s with
  | nil => cases h
  | cons x u ih =>
    obtain ⟨m, y⟩ := x
    rcases List.mem_cons.1 h with h | h
    · cases h; exact Nat.lt_of_lt_of_le (putAt_length s.rg n g).2 (ups_le (s.setReg n g) u)
    · exact ih h
/-- What an operation's effect says: what it yields, and the memory behind it. -/
def EffOk (Γ : Env) (s : St) (w : World) (nm : Nat) (x : Eff) (u : Value) (w' : World) : Prop :=
  ∃ Γ', Ext Γ w Γ' ∧ SRel Γ' x.v u ∧ WRel Γ' (s.ups x.up).rg w' ∧ Wd w w' ∧ ∀ n, Γ.μ n = none → ¬ (nm ≤ n ∧ n < nm + 8 ∧ n < (s.ups x.up).rg.length) → Γ'.μ n = none

theorem EffOk.plain {Γ : Env} {s : St} {w : World} {nm : Nat} {v : NS} {u : Value} (hw : WRel Γ s.rg w) (h : SRel Γ v u) : EffOk Γ s w nm { up := [], v := v } u w :=
  ⟨Γ, Ext.refl Γ w, h, hw, Wd.refl w, fun _ h _ => h⟩
theorem env_new_spec {Γ : Env} {nm : Nat} {B : Blk} {m : Nat} (hm : nm < m) : ∀ n, Γ.μ n = none → ¬ (nm ≤ n ∧ n < nm + 8 ∧ n < m) → (Γ.add nm B).μ n = none := by
  intro n h1 h2
  simp only [Env.add]
  rw [if_neg (by omega)]; exact h1

/-- A new name for a row: one that an old name had, or a new one. -/
theorem EffOk.appd {Γ : Env} {s : St} {w w' : World} {nm : Nat} {zs : Els} {e : TypeId} {v : Value} {old : Option Nat} (hw : WRel Γ s.rg w) (hnm : Γ.μ nm = none)
    (hold : ∀ r, old = some r → ∃ B, Γ.μ r = some B ∧ live s.rg r) (h0 : 0 < zs.w)
    (ha : Appd w (old.bind fun r => (Γ.μ r).map (·.blk)) e zs.w zs.length zs.vals v w') :
    EffOk Γ s w nm { up := (match old with | some r => [(r, none)] | none => []) ++ [(nm, some (zs.reg e))], v := .v (.c (.h nm 0 zs.length)) } v w' := by
  obtain ⟨⟨blk, o, cap, cur, rfl, hcell, hnc, hcm, hcs, ⟨l2, hl⟩, hblk⟩, hkeep, hwd⟩ := ha
  obtain ⟨hb, he, hst⟩ := Els.reg_rel (Γ.add nm ⟨blk, zs.w, cur.size⟩) zs e l2 h0
  have hle := Γ.le_add nm ⟨blk, zs.w, cur.size⟩ hnm
  have hnew : (Γ.add nm ⟨blk, zs.w, cur.size⟩).μ nm = some ⟨blk, zs.w, cur.size⟩ := by simp [Env.add]
  -- the regions that stay
  have hlt : ∀ {b : Nat} {o : Obj}, w.heap[b]? = some o → b < w.heap.size := fun e => (Array.getElem?_eq_some_iff.1 e).1
  have hoth : ∀ m g B, some m ≠ old → s.rg[m]? = some (some g) → Γ.μ m = some B → B.blk ≠ blk ∧ w'.heap[B.blk]? = w.heap[B.blk]? := by
    intro m g B hne hg hB
    obtain ⟨B', hB', c, hc, -⟩ := hw.live m g hg
    rw [hB] at hB'; cases hB'
    cases old with
    | none =>
      simp only [Option.bind_none, reduceCtorEq, false_or] at hblk
      have := hlt hc
      exact ⟨by omega, hkeep _ this (by simp)⟩
    | some r =>
      obtain ⟨Br, hBr, hlr⟩ := hold r rfl
      have hd : B.blk ≠ Br.blk := hw.inj m r B Br (fun h => hne (by rw [h])) ⟨g, hg⟩ hlr hB hBr
      simp only [Option.bind_some, hBr, Option.map_some, Option.some.injEq] at hblk
      have := hlt hc
      refine ⟨?_, hkeep _ this (by simp [hBr]; exact Ne.symm hd)⟩
      rcases hblk with rfl | ⟨h, -⟩
      · exact hd
      · omega
  have hkp : ∀ b o, Γ.kp b = some o → b ≠ blk ∧ w'.heap[b]? = some o := by
    intro b o hb
    have h1 := hw.kp b o hb
    cases old with
    | none =>
      simp only [Option.bind_none, reduceCtorEq, false_or] at hblk
      have := hlt h1
      exact ⟨by omega, by rw [hkeep _ this (by simp)]; exact h1⟩
    | some r =>
      obtain ⟨Br, hBr, hlr⟩ := hold r rfl
      have hd : b ≠ Br.blk := by rintro rfl; rw [hw.apart r Br hlr hBr] at hb; cases hb
      simp only [Option.bind_some, hBr, Option.map_some, Option.some.injEq] at hblk
      have := hlt h1
      refine ⟨?_, by rw [hkeep _ this (by simp [hBr]; exact Ne.symm hd)]; exact h1⟩
      rcases hblk with rfl | ⟨h, -⟩
      · exact hd
      · omega
  have hnl : ¬ live s.rg nm := by rintro ⟨g, hg⟩; obtain ⟨B, hB, -⟩ := hw.live nm g hg; rw [hnm] at hB; cases hB
  -- the list of regions behind it
  have hrg : ∀ m g, (s.ups ((match old with | some r => [(r, none)] | none => []) ++ [(nm, some (zs.reg e))])).rg[m]? = some (some g) → (m = nm ∧ g = zs.reg e) ∨ (m ≠ nm ∧ some m ≠ old ∧ s.rg[m]? = some (some g)) := by
    intro m g hm
    cases old with
    | none =>
      simp only [List.nil_append, St.ups, St.setReg] at hm
      rcases (putAt_get _ _ _ _ _).1 hm with ⟨h1, h2⟩ | ⟨h1, h2⟩
      · exact .inl ⟨h1, by simpa using h2.symm⟩
      · exact .inr ⟨h1, by simp, h2⟩
    | some r =>
      simp only [List.cons_append, List.nil_append, St.ups, St.setReg] at hm
      rcases (putAt_get _ _ _ _ _).1 hm with ⟨h1, h2⟩ | ⟨h1, h2⟩
      · exact .inl ⟨h1, by simpa using h2.symm⟩
      · rcases (putAt_get _ _ _ _ _).1 h2 with ⟨_, h3⟩ | ⟨h3, h4⟩
        · cases h3
        · exact .inr ⟨h1, by simpa using h3, h4⟩
  refine ⟨Γ.add nm ⟨blk, zs.w, cur.size⟩, Ext.add hnm ?_, ?_, ?_, hwd, env_new_spec (ups_len (g := some (zs.reg e)) (by simp))⟩
  · rcases hblk with h | ⟨h, -⟩
    · right
      cases old with
      | none => simp at h
      | some r =>
        obtain ⟨Br, hBr, -⟩ := hold r rfl
        simp only [Option.bind_some, hBr, Option.map_some, Option.some.injEq] at h
        exact ⟨r, Br, hBr, h⟩
    · exact .inl h
  · exact ⟨⟨_, o, cap, hnew, rfl, hnc, hcm, hcs.imp (fun h => ⟨by simpa using h.1, by simpa using h.2.symm⟩) id⟩, rfl⟩
  · refine ⟨fun m g hm => ?_, fun a b B B' hne la lb ea eb => ?_, fun b o hb => (hkp b o hb).2, fun m B hm eB => ?_, hw.ro⟩
    · rcases hrg m g hm with ⟨rfl, rfl⟩ | ⟨h1, h2, h3⟩
      · exact ⟨_, hnew, cur, by rw [he]; exact hcell, hst.symm, rfl, by rw [hl]; exact hb⟩
      · obtain ⟨B, hB, hr⟩ := hw.live m g h3
        exact ⟨B, hle.μ _ _ hB, (hr.heap (hoth m g B h2 h3 hB).2).mono hle⟩
    · obtain ⟨ga, hga⟩ := la
      obtain ⟨gb, hgb⟩ := lb
      rcases hrg a ga hga with ⟨rfl, -⟩ | ⟨a1, a2, a3⟩ <;> rcases hrg b gb hgb with ⟨rfl, -⟩ | ⟨b1, b2, b3⟩
      · exact (hne rfl).elim
      · rw [hnew] at ea; cases ea
        simp only [Env.add, if_neg b1] at eb
        exact Ne.symm (hoth b gb B' b2 b3 eb).1
      · rw [hnew] at eb; cases eb
        simp only [Env.add, if_neg a1] at ea
        exact (hoth a ga B a2 a3 ea).1
      · simp only [Env.add, if_neg a1] at ea
        simp only [Env.add, if_neg b1] at eb
        exact hw.inj a b B B' hne ⟨ga, a3⟩ ⟨gb, b3⟩ ea eb
    · obtain ⟨g, hg⟩ := hm
      rcases hrg m g hg with ⟨rfl, -⟩ | ⟨h1, h2, h3⟩
      · rw [hnew] at eB; cases eB
        show Γ.kp blk = none
        cases e : Γ.kp blk with
        | none => rfl
        | some o => exact ((hkp _ _ e).1 rfl).elim
      · simp only [Env.add, if_neg h1] at eB
        exact hw.apart m B ⟨g, h3⟩ eB

section
variable {P : Program} {e t u ty : TypeId} {i : TypeInfo} {zv : Value} {k kn kx : IntKind} {z : Int}
theorem zc_list (hzv : zv.cells = #[.int k z]) (j : Nat) : Builtin.zeroCells zv.cells j = (List.replicate j (Value.int k z)).toArray := by
  apply Array.ext'
  rw [hzv]
  apply List.ext_getElem?
  intro q
  simp only [Builtin.zeroCells, List.getElem?_replicate]
  by_cases hqj : q < j
  · simp [hqj, Nat.mod_one]
  · simp [hqj]
theorem room_zeros (w : World) (ht : P.underlying t = some (.slice e)) (hu : P.underlying u = some (.int kn)) (hi : P.info? e = some i) (hz : i.zero = some zv) (hs1 : i.size = 1) (hzv : zv.cells = #[.int k z])
    (g sLen sCap : Nat) (cur : Array Value) (hg : w.heap[g]? = some (.cells cur e (0, 0))) (m : Nat) (h0 : 0 < m) (h63 : (m : Int) ≤ 9223372036854775807) (h48 : m * i.bytes ≤ 281474976710656)
    (hroom : sLen + m ≤ sCap) (hfit : sLen + m ≤ cur.size) :
    (Builtin.append_ #[t, u] ty #[.slice (some ⟨g, 0, none⟩) sLen sCap, .int kx m]).run P w =
      .ok (.slice (some ⟨g, 0, none⟩) (sLen + m) sCap) (w.setRow g (cur.toList.take sLen ++ List.replicate m (Value.int k z) ++ cur.toList.drop (sLen + m)).toArray) := by
  have hw : IntKind.i64.wrap (m : Int) = m := by rw [IntKind.wrap_i64]; omega
  have hn : m ≠ 0 := by omega
  have h48i : ¬ (281474976710656 < (m : Int) * (i.bytes : Int)) := by
    rw [← Int.natCast_mul]
    omega
  have hneg : ¬ ((m : Int) < 0) := by omega
  have hst := run_storeCells_at P g sLen e (List.replicate m (Value.int k z)) 0 cur w hg (by simpa using hfit) (fun v hv => by rw [List.eq_of_mem_replicate hv]; rfl)
  simp only [Nat.add_zero, List.length_replicate] at hst
  have hc : ∀ j, Builtin.zeroCells #[Value.int k z] j = (List.replicate j (Value.int k z)).toArray := fun j => by rw [← hzv]; exact zc_list hzv j
  simp [Builtin.append_, run_underlying ht, run_underlying hu, sizeOf, typeInfo, zeroValue, hi, hz, hs1, hzv, asInt, asIntOf, hw, hn, hneg, h48i, hroom, hc, Addr.add_lit, hst]
theorem grow_zeros (w : World) (ht : P.underlying t = some (.slice e)) (hu : P.underlying u = some (.int kn)) (hi : P.info? e = some i) (hz : i.zero = some zv) (hs1 : i.size = 1) (hzv : zv.cells = #[.int k z])
    (b : Addr) (sLen sCap : Nat) (olds : List Value) (hlo : olds.length = sLen) (holds : ∀ j v, olds[j]? = some v → w.cell? (b.add j) = some v) (m : Nat) (h0 : 0 < m) (h48 : m * i.bytes ≤ 281474976710656)
    (hgr : sCap < sLen + m) (h63 : ((sLen + m : Nat) : Int) ≤ 9223372036854775807) (hfit : Builtin.nextslicecap (sLen + m) sCap * i.bytes ≤ 281474976710656) :
    (Builtin.append_ #[t, u] ty #[.slice (some b) sLen sCap, .int kx m]).run P w =
      .ok (.slice (some ⟨w.heap.size, 0, none⟩) (sLen + m) (grownCap w (sLen + m) sCap e))
        (w.drew.alloc (.cells (olds.toArray ++ (List.replicate m (Value.int k z)).toArray ++ Builtin.zeroCells zv.cells (grownCap w (sLen + m) sCap e - (sLen + m))) e)) := by
  have hw : IntKind.i64.wrap (m : Int) = m := by rw [IntKind.wrap_i64]; omega
  have hn : m ≠ 0 := by omega
  have h48i : ¬ (281474976710656 < (m : Int) * (i.bytes : Int)) := by
    rw [← Int.natCast_mul]
    omega
  have hneg : ¬ ((m : Int) < 0) := by omega
  have hn2 : ¬ (sLen + m ≤ sCap) := by omega
  have h63' : ¬ (9223372036854775807 < ((sLen : Int) + (m : Int))) := by omega
  have h48' : ¬ (281474976710656 < Builtin.nextslicecap (sLen + m) sCap * i.bytes) := by omega
  have hfo := run_firstCells_some (P := P) w.drew 1 sLen b sLen sCap olds (by omega) (by simpa using holds)
  have hc : ∀ j, Builtin.zeroCells #[Value.int k z] j = (List.replicate j (Value.int k z)).toArray := fun j => by rw [← hzv]; exact zc_list hzv j
  simp [Builtin.append_, run_underlying ht, run_underlying hu, sizeOf, typeInfo, zeroValue, hi, hz, hs1, hzv, asInt, asIntOf, hw, hn, hn2, hneg, h48i, h63', h48', hc, Question.forced, hfo, newRow, grownCap]
theorem app_old_zeros {w : World} (ht : P.underlying t = some (.slice e)) (hu : P.underlying u = some (.int kn)) (hi : P.info? e = some i) (hz : i.zero = some zv) (hs1 : i.size = 1) (hzv : zv.cells = #[.int k z])
    {blk n cap : Nat} {cur : Array Value} (hg : w.heap[blk]? = some (.cells cur e (0, 0))) {olds l2 : List Value} (hcur : cur.toList = olds ++ l2) (hlo : olds.length = n) (hcs : cur.size = cap) (hcm : cap ≤ maxLen) {m : Nat} (h0 : 0 < m)
    (hb : (n + m) * i.bytes ≤ 140737488355328) (h63 : n + m ≤ 9223372036854775807) :
    ∃ v w', (Builtin.append_ #[t, u] ty #[.slice (some ⟨blk, 0, none⟩) n cap, .int kx m]).run P w = .ok v w' ∧ Appd w (some blk) e 1 (n + m) (olds ++ List.replicate m (.int k z)) v w' := by
  have hmb : m * i.bytes ≤ (n + m) * i.bytes := Nat.mul_le_mul_right _ (by omega)
  by_cases hroom : n + m ≤ cap
  · have hr := room_zeros (P := P) (ty := ty) (kx := kx) w ht hu hi hz hs1 hzv blk n cap cur hg m h0 (by omega) (by omega) hroom (by omega)
    refine ⟨_, _, hr, ⟨⟨blk, 0, cap, _, rfl, setRow_heap w blk cur _ e _ hg, hroom, hcm, .inl ⟨rfl, ?_⟩, ?_, .inl rfl⟩, fun b hb hne => setRow_other w blk b _ (fun h => hne (by rw [h])), ⟨rfl, rfl, rfl, by simp⟩⟩⟩
    · simp only [List.size_toArray, List.length_append, List.length_take, List.length_drop, Array.length_toList, List.length_replicate]
      omega
    · refine ⟨cur.toList.drop (n + m), ?_⟩
      have : cur.toList.take n = olds := by rw [hcur, List.take_append_of_le_length (by omega), List.take_of_length_le (by omega)]
      simp only [this]
  · have holds : ∀ j v, olds[j]? = some v → w.cell? ((⟨blk, 0, none⟩ : Addr).add j) = some v := fun j v hj => by
      rw [Addr.add_lit]
      exact heap_cell hg (by rw [hcur, Nat.zero_add]; exact prefix_get hj)
    have hr := grow_zeros (P := P) (ty := ty) (kx := kx) w ht hu hi hz hs1 hzv ⟨blk, 0, none⟩ n cap olds hlo holds m h0 (by omega) (by omega) (by omega) (growslice_fits (by omega) hb)
    have hga := grown_alloc (w := w) (e := e) hz (by rw [hzv, hs1]; rfl) (olds := olds) (n := n) (m := m) (G := grownCap w (n + m) cap e) (news := List.replicate m (Value.int k z)) (by rw [hs1]; omega) (by rw [hs1]; simp) (grownCap_ge w (n + m) cap e) (grownCap_le_maxLen w (n + m) cap e (by simp only [maxLen]; omega)) (some blk)
    rw [hs1] at hga
    exact ⟨_, _, hr, hga⟩
theorem app_empty_zeros {w : World} (ht : P.underlying t = some (.slice e)) (hu : P.underlying u = some (.int kn)) (hi : P.info? e = some i) (hz : i.zero = some zv) (hs1 : i.size = 1) (hzv : zv.cells = #[.int k z])
    (b : Addr) {m : Nat} (h0 : 0 < m) (hb : m * i.bytes ≤ 140737488355328) (h63 : m ≤ 9223372036854775807) (old : Option Nat) :
    ∃ v w', (Builtin.append_ #[t, u] ty #[.slice (some b) 0 0, .int kx m]).run P w = .ok v w' ∧ Appd w old e 1 (0 + m) (List.replicate m (.int k z)) v w' := by
  have hr := grow_zeros (P := P) (ty := ty) (kx := kx) w ht hu hi hz hs1 hzv b 0 0 [] rfl (by simp) m h0 (by omega) (by omega) (by omega) (by simpa using growslice_fits (old := 0) (by omega) hb)
  have hga := grown_alloc (w := w) (e := e) hz (by rw [hzv, hs1]; rfl) (olds := []) (n := 0) (m := m) (G := grownCap w (0 + m) 0 e) (news := List.replicate m (Value.int k z)) (by simp) (by rw [hs1]; simp) (grownCap_ge w (0 + m) 0 e) (grownCap_le_maxLen w (0 + m) 0 e (by simp only [maxLen]; omega)) old
  rw [hs1] at hga
  exact ⟨_, _, hr, by simpa using hga⟩
end
theorem nzeros_sound {P : Program} {s : St} {Γ : Env} {w : World} {t u ty : TypeId} {x y : NC} {vx vy : Value} {nm : Nat} {R : Eff → Prop} (hw : WRel Γ s.rg w) (hnm : Γ.μ nm = none)
    (hx : CR Γ x vx) (hy : CR Γ y vy) (h : (nzeros P s t u x y nm).run R) :
    ∃ ef v w', R ef ∧ (Builtin.append_ #[t, u] ty #[vx, vy]).run P w = .ok v w' ∧ EffOk Γ s w nm ef v w' := by
  unfold nzeros at h
  split at h
  case h_2 => exact h.elim
  rename_i e kn k n ht hu
  obtain ⟨rfl, -⟩ := hy
  split at h
  · obtain ⟨rfl, -⟩ := hx
    split at h
    case h_2 => exact h.elim
    rename_i k' z hz
    obtain ⟨hc, h⟩ := (chkT_run _ _ _).1 h
    have hc' : 0 < n ∧ n.toNat * bytesT P e ≤ 140737488355328 ∧ n ≤ 9223372036854775807 := by simpa [allT] using hc
    obtain ⟨i, v, hi, hv, hsz, hs⟩ := zeroCells_spec hz
    obtain ⟨q, hq1, hq2⟩ := R2.one (scals_rel (Γ := Γ) hs)
    have hq : q = .int k' z := hq2.1
    have hvc : v.cells = #[.int k' z] := by rw [← Array.toArray_toList (xs := v.cells), hq1, hq]
    have hs1 : i.size = 1 := by
      have : sizeT P e = 1 := by rw [← hsz, hvc]; rfl
      simpa [sizeT, hi] using this
    have hby : bytesT P e = i.bytes := by simp [bytesT, hi]
    rw [hby] at hc'
    obtain ⟨m, rfl⟩ : ∃ m : Nat, n = (m : Int) := ⟨n.toNat, by omega⟩
    have hm : ((m : Int)).toNat = m := by simp
    rw [hm] at hc' h
    have hr := Lib.run_append_nil_zeros (P := P) w t u ty e i v k kn ht hu hi hv m (by omega) (by omega) hc'.2.2 (by omega)
    refine ⟨_, _, _, h, hr, ?_⟩
    have hzc : ∀ j, (Builtin.zeroCells v.cells j).toList = List.replicate j (.int k' z) := fun j => by
      rw [hvc]
      apply List.ext_getElem?
      intro q
      simp only [Builtin.zeroCells, List.getElem?_replicate]
      by_cases hqj : q < j
      · simp [hqj, Nat.mod_one]
      · simp [hqj]
    have ha : Appd w ((none : Option Nat).bind fun r => (Γ.μ r).map (·.blk)) e (Els.ints k' (List.replicate m z)).w (Els.ints k' (List.replicate m z)).length (Els.ints k' (List.replicate m z)).vals (.slice (some ⟨w.heap.size, 0, none⟩) m (grownCap w m 0 e)) (w.drew.alloc (.cells (Builtin.zeroCells v.cells m ++ Builtin.zeroCells v.cells (grownCap w m 0 e - m)) e)) := by
      have hg := grown_alloc (w := w) (e := e) hv (by rw [hvc, hs1]; rfl) (olds := []) (n := 0) (m := m) (G := grownCap w m 0 e) (news := List.replicate m (.int k' z)) (by simp) (by simp [hs1]) (by simpa using grownCap_ge w m 0 e) (grownCap_le_maxLen w m 0 e (by simp only [maxLen]; omega)) none
      rw [Nat.zero_add, List.nil_append, hs1] at hg
      have e1 : ([] : List Value).toArray ++ (List.replicate m (Value.int k' z)).toArray = Builtin.zeroCells v.cells m := by
        apply Array.ext'
        rw [hzc]
        simp
      rw [e1] at hg
      show Appd w none e 1 (List.replicate m z).length ((List.replicate m z).map (.int k')) _ _
      rw [List.length_replicate, List.map_replicate]
      exact hg
    have := EffOk.appd (s := s) (nm := nm) (old := none) hw hnm (fun r h => by cases h) (by simp [Els.w]) ha
    simpa [Els.length] using this
  · rename_i r off len
    split at h
    case h_2 => exact h.elim
    rename_i k' z d k2 xs g hz hels hg
    split at h
    case isFalse => exact h.elim
    rename_i hge
    obtain ⟨hge, rfl⟩ := hge
    obtain ⟨hd, h⟩ := (chkT_run _ _ _).1 h
    obtain ⟨hc, h⟩ := (chkT_run _ _ _).1 h
    have hc' : 0 < n ∧ (len + n.toNat) * bytesT P e ≤ 140737488355328 ∧ len + n.toNat ≤ 9223372036854775807 := by simpa [allT] using hc
    obtain ⟨i, v, hi, hv, hsz, hs⟩ := zeroCells_spec hz
    obtain ⟨q, hq1, hq2⟩ := R2.one (scals_rel (Γ := Γ) hs)
    have hq : q = .int k' z := hq2.1
    have hvc : v.cells = #[.int k' z] := by rw [← Array.toArray_toList (xs := v.cells), hq1, hq]
    have hs1 : i.size = 1 := by
      have : sizeT P e = 1 := by rw [← hsz, hvc]; rfl
      simpa [sizeT, hi] using this
    have hby : bytesT P e = i.bytes := by simp [bytesT, hi]
    rw [hby] at hc'
    obtain ⟨m, rfl⟩ : ∃ m : Nat, n = (m : Int) := ⟨n.toNat, by omega⟩
    have hm : ((m : Int)).toNat = m := by simp
    rw [hm] at hc' h
    have hgl := (reg_eq s r g).1 hg
    obtain ⟨⟨B, o, cap, hB, rfl, hlc, hcm, hcap⟩, -⟩ := hx
    obtain ⟨B', hB', cs, hcs, hst, hszB, hbody⟩ := hw.live r g hgl
    rw [hB] at hB'; cases hB'
    have hxl : xs.length = len ∧ g.st = 1 ∧ ∃ l2, cs.toList = xs.map (.int k') ++ l2 := by
      unfold els at hels
      simp only [hg] at hels
      split at hels
      · rename_i kk l hb
        cases hels
        rw [hb] at hbody
        obtain ⟨h1, l2, hl⟩ := hbody
        have hlen : 0 + len ≤ l.length := by simpa [allT] using hd
        refine ⟨by simp; omega, h1, (l.drop len).map (.int k') ++ l2, ?_⟩
        rw [hl]
        simp only [List.drop_zero]
        rw [← List.append_assoc, ← List.map_append, List.take_append_drop]
      · cases hels
      · cases hels
    obtain ⟨hxl, hg1, l2, hcl⟩ := hxl
    have hgheap : w.heap[B.blk]? = some (.cells cs e (0, 0)) := by rw [hcs, hge]
    have hblk : ((some r).bind fun r => (Γ.μ r).map (·.blk)) = some B.blk := by simp [hB]
    have hoks : ∀ q, some r = some q → ∃ B, Γ.μ q = some B ∧ live s.rg q := fun q hq => by cases hq; exact ⟨B, hB, g, hgl⟩
    have fin : ∀ {v : Value} {w' : World} {vv : Value}, (Builtin.append_ #[t, u] ty #[vv, .int k m]).run P w = .ok v w' → Appd w (some B.blk) e 1 (len + m) (xs.map (.int k') ++ List.replicate m (.int k' z)) v w' →
        ∃ ef u2 w', R ef ∧ (Builtin.append_ #[t, u] ty #[vv, .int k m]).run P w = .ok u2 w' ∧ EffOk Γ s w nm ef u2 w' := by
      intro v w' vv hrun ha
      rw [← hblk] at ha
      have hl2 : (Els.ints k' (xs ++ List.replicate m z)).length = len + m := by simp [Els.length, hxl]
      have ha2 : Appd w ((some r).bind fun r => (Γ.μ r).map (·.blk)) e (Els.ints k' (xs ++ List.replicate m z)).w (Els.ints k' (xs ++ List.replicate m z)).length (Els.ints k' (xs ++ List.replicate m z)).vals v w' := by
        rw [hl2]
        show Appd w _ e 1 (len + m) ((xs ++ List.replicate m z).map (.int k')) v w'
        rw [List.map_append, List.map_replicate]
        exact ha
      have := EffOk.appd (s := s) (nm := nm) (old := some r) hw hnm hoks (by simp [Els.w]) ha2
      rw [hl2] at this
      exact ⟨_, v, w', h, hrun, this⟩
    have hxm : (xs.map (Value.int k')).length = len := by rw [List.length_map]; exact hxl
    rcases hcap with ⟨rfl, hcz⟩ | hcz
    · simp only [Nat.zero_mul, Nat.zero_add] at hcz ⊢
      obtain ⟨v', w', hrun, ha⟩ := app_old_zeros (P := P) (ty := ty) (kx := k) (w := w) ht hu hi hv hs1 hvc hgheap hcl hxm (cap := cap) (by rw [hszB, ← hcz, hst, hg1, Nat.mul_one]) hcm (m := m) (by omega) hc'.2.1 hc'.2.2
      exact fin hrun ha
    · have hl0 : len = 0 := by omega
      subst hl0
      subst hcz
      have hxn : xs.map (Value.int k') = [] := List.eq_nil_of_length_eq_zero hxm
      obtain ⟨v', w', hrun, ha⟩ := app_empty_zeros (P := P) (ty := ty) (kx := k) (w := w) ht hu hi hv hs1 hvc ⟨B.blk, o, none⟩ (m := m) (by omega) (by simpa using hc'.2.1) (by simpa using hc'.2.2) (some B.blk)
      refine fin hrun ?_
      rw [hxn]
      exact ha
  · exact h.elim
theorem nappend_sound {P : Program} {s : St} {Γ : Env} {w : World} {t ty : TypeId} {x y : NC} {vx vy : Value} {nm : Nat} {R : Eff → Prop} (hw : WRel Γ s.rg w) (hnm : Γ.μ nm = none)
    (hx : CR Γ x vx) (hy : CR Γ y vy) (h : (nappend P s t x y nm).run R) :
    ∃ ef u w', R ef ∧ (Builtin.append_ #[t, t] ty #[vx, vy]).run P w = .ok u w' ∧ EffOk Γ s w nm ef u w' := by
  unfold nappend at h
  split at h
  case h_2 => exact h.elim
  rename_i e ht
  split at h
  · -- nothing is appended
    obtain ⟨rfl, -⟩ := hy
    split at h
    case isFalse => exact h.elim
    rename_i hs
    obtain ⟨i, hi, -⟩ := info_of_size hs
    split at h
    · obtain ⟨rfl, -⟩ := hx
      exact ⟨_, _, _, h, run_append_zero ht hi none none 0 0 0 (Nat.le_refl _), EffOk.plain hw ⟨rfl, rfl⟩⟩
    · rename_i r off len
      have hx' := hx
      obtain ⟨⟨B, o, cap, hB, rfl, hlc, hcm, hcap⟩, -⟩ := hx'
      exact ⟨_, _, _, h, run_append_zero ht hi _ none len cap 0 hlc, EffOk.plain hw hx⟩
    · exact h.elim
  · split at h
    case h_2 => exact h.elim
    rename_i c ys hys
    split at h
    case isFalse => exact h.elim
    rename_i hfit
    obtain ⟨i, z, hi, hz, hzs, hsz, h0, hby⟩ := Els.fits_spec hfit
    split at h
    · -- onto nil
      obtain ⟨rfl, -⟩ := hx
      obtain ⟨hc, h⟩ := (chkT_run _ _ _).1 h
      obtain ⟨a, cap, rfl, hlc, hcells⟩ := els_sound hw hy hys hc
      simp only [Tr.run] at h
      rcases sel_iff.1 h with ⟨h1, h⟩ | ⟨h1, h⟩
      · have hl0 : ys.length = 0 := by simpa using h1
        rw [hl0]
        exact ⟨_, _, _, h, run_append_zero ht hi none a 0 0 cap (Nat.le_refl _), EffOk.plain hw ⟨rfl, rfl⟩⟩
      · have hl0 : ys.length ≠ 0 := by simpa using h1
        obtain ⟨hc2, h⟩ := (chkT_run _ _ _).1 h
        obtain ⟨hc3, hc4⟩ := allT_two hc2
        rcases hcells with hcells | ⟨blk, off, rfl, hcells⟩
        · exact (hl0 hcells).elim
        obtain ⟨v, w', hrun, ha⟩ := app_new (w := w) (ty := ty) ht hi hz hzs (a := ⟨blk, off, none⟩) (m := ys.length) (c := cap) (news := ys.vals) (by rw [ys.vals_length, hsz])
          (fun j u hj => by rw [Addr.add_lit]; exact hcells j u hj) (by omega) (by rw [hby]; exact hc3) hc4
        refine ⟨_, v, w', h, hrun, EffOk.appd (old := none) hw hnm (fun _ h => by cases h) h0 (by rw [hsz] at ha; exact ha)⟩
    · -- onto a row of the call's own
      rename_i r off len
      split at h
      case h_2 => exact h.elim
      rename_i d xs g hxs hg
      split at h
      case h_2 => exact h.elim
      rename_i zs hzs'
      split at h
      case isFalse => exact h.elim
      rename_i hge
      obtain ⟨hc, h⟩ := (chkT_run _ _ _).1 h
      obtain ⟨hd, h⟩ := (chkT_run _ _ _).1 h
      obtain ⟨hc2, h⟩ := (chkT_run _ _ _).1 h
      obtain ⟨hc3, hc4⟩ := allT_two hc2
      obtain ⟨a, cap2, rfl, hlc2, hcells⟩ := els_sound hw hy hys hc
      obtain ⟨e1, e2, e3, -⟩ := Els.app_spec hzs'
      have hgl := (reg_eq s r g).1 hg
      obtain ⟨⟨B, o, cap, hB, rfl, hlc, hcm, hcap⟩, -⟩ := hx
      obtain ⟨B', hB', cs, hcs, hst, hszB, hbody⟩ := hw.live r g hgl
      rw [hB] at hB'; cases hB'
      -- the old elements
      have hxl : xs.length = len ∧ xs.w = g.st ∧ ∃ l2, cs.toList = xs.vals ++ l2 := by
        unfold els at hxs
        simp only [hg] at hxs
        split at hxs
        · rename_i k l hb
          cases hxs
          rw [hb] at hbody
          obtain ⟨h1, l2, hl⟩ := hbody
          have hlen : 0 + len ≤ l.length := by simpa [allT] using hd
          refine ⟨by simp [Els.length]; omega, h1.symm, (l.drop len).map (.int k) ++ l2, ?_⟩
          rw [hl]
          simp only [Els.vals, List.drop_zero]
          rw [← List.append_assoc, ← List.map_append, List.take_append_drop]
        · rename_i ks l hb
          cases hxs
          rw [hb] at hbody
          obtain ⟨h1, h2, l2, hl⟩ := hbody
          have hlen : 0 + len ≤ l.length := by simpa [allT] using hd
          refine ⟨by simp [Els.length]; omega, h1.symm, rowsV ks (l.drop len) ++ l2, ?_⟩
          rw [hl]
          simp only [Els.vals, List.drop_zero]
          rw [← List.append_assoc]
          congr 1
          rw [← rowsV_take, ← rowsV_drop, List.take_append_drop]
        · cases hxs
      obtain ⟨hxl, hxw, l2, hcl⟩ := hxl
      have hyw : ys.w = xs.w := by
        cases xs <;> cases ys <;> simp only [Els.app, reduceCtorEq] at hzs'
        · rfl
        · split at hzs'
          · rename_i ee; subst ee; rfl
          · cases hzs'
      have hzw : zs.w = i.size := by rw [e3, ← hyw, ← hsz]
      have hzl : zs.length = len + ys.length := by rw [e2, hxl]
      have hz0 : 0 < zs.w := by rw [e3, ← hyw]; exact h0
      have hblk : ((some r).bind fun r => (Γ.μ r).map (·.blk)) = some B.blk := by simp [hB]
      have hoks : ∀ q, some r = some q → ∃ B, Γ.μ q = some B ∧ live s.rg q := fun q hq => by cases hq; exact ⟨B, hB, g, hgl⟩
      have fin : ∀ {v : Value} {w' : World} {vv : Value}, (Builtin.append_ #[t, t] ty #[vv, .slice a ys.length cap2]).run P w = .ok v w' → Appd w (some B.blk) e i.size (len + ys.length) (xs.vals ++ ys.vals) v w' →
          ∃ ef u w', R ef ∧ (Builtin.append_ #[t, t] ty #[vv, .slice a ys.length cap2]).run P w = .ok u w' ∧ EffOk Γ s w nm ef u w' := by
        intro v w' vv hrun ha
        rw [← e1, ← hzl, ← hzw, ← hblk] at ha
        have := EffOk.appd (old := some r) hw hnm hoks hz0 ha
        rw [hzl] at this
        exact ⟨_, v, w', h, hrun, this⟩
      have hxv : xs.vals.length = len * i.size := by rw [xs.vals_length, hxl, ← hzw, e3]
      have hyv : ys.vals.length = ys.length * i.size := by rw [ys.vals_length, ← hsz]
      have hgheap : w.heap[B.blk]? = some (.cells cs e (0, 0)) := by rw [hcs, hge.1]
      have hsz2 : g.st = i.size := by rw [← hxw, ← hyw, ← hsz]
      by_cases hy0 : ys.length = 0
      · -- nothing comes: it stays where it is
        have hrun := run_append_zero (w := w) (ty := ty) ht hi (some ⟨B.blk, o, none⟩) a len cap cap2 hlc
        have hyn : ys.vals = [] := List.eq_nil_of_length_eq_zero (by rw [hyv, hy0]; simp)
        have happ : Appd w (some B.blk) e i.size (len + ys.length) (xs.vals ++ ys.vals) (.slice (some ⟨B.blk, o, none⟩) len cap) w := by
          rw [hyn, hy0, Nat.add_zero, List.append_nil]
          exact ⟨⟨B.blk, o, cap, cs, rfl, hgheap, hlc, hcm, hcap.imp (fun h => ⟨by rw [h.1, Nat.zero_mul], by rw [hszB, ← h.2, Nat.zero_add, hst, hsz2]⟩) id, ⟨l2, hcl⟩, .inl rfl⟩, fun _ _ _ => rfl, Wd.refl w⟩
        exact fin (by rw [hy0]; exact hrun) happ
      · rcases hcells with hcells | ⟨blk, off, rfl, hcells⟩
        · exact (hy0 hcells).elim
        rcases hcap with ⟨rfl, hcz⟩ | hcz
        · simp only [Nat.zero_mul, Nat.zero_add] at hcz ⊢
          obtain ⟨v, w', hrun, ha⟩ := app_old (w := w) (ty := ty) ht hi hz hzs hgheap hcl hxv (cap := cap) (by rw [hszB, ← hcz, hst, hsz2]) hcm (a := ⟨blk, off, none⟩) (m := ys.length) (c := cap2) (news := ys.vals) hyv
            (fun j u hj => by rw [Addr.add_lit]; exact hcells j u hj) ys.vals_one (by rw [hby]; exact hc3) hc4
          exact fin hrun ha
        · have hl0 : len = 0 := by omega
          subst hl0
          subst hcz
          have hxn : xs.vals = [] := List.eq_nil_of_length_eq_zero (by rw [hxv]; simp)
          obtain ⟨v, w', hrun, ha⟩ := app_empty (w := w) (ty := ty) ht hi hz hzs ⟨B.blk, o, none⟩ (a := ⟨blk, off, none⟩) (m := ys.length) (c := cap2) (news := ys.vals) hyv
            (fun j u hj => by rw [Addr.add_lit]; exact hcells j u hj) (by omega) (by rw [hby]; simpa using hc3) (by simpa using hc4) (some B.blk)
          exact fin hrun (by rw [hxn]; simpa using ha)
    · exact h.elim

end Go.Nx
