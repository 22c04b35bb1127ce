/-
  The engine, part 9: what is built and made; the light operations, together.
-/
import Derived.Test.YtnhadghddkgjdaaEng8
namespace Go.Nx
open Go

/-! ### structs, arrays and slices that are built -/
theorem splice_cons {α : Type} (xs : List α) (o : Nat) (v : α) (l : List α) (h : o < xs.length) : splice (xs.set o v) (o + 1) l = splice xs o (v :: l) := by
  have e1 : (xs.set o v).take (o + 1) = xs.take o ++ [v] := by
    rw [List.set_eq_take_append_cons_drop, if_pos h, List.take_append, List.length_take, Nat.min_eq_left (by omega), List.take_of_length_le (by simp; omega)]
    simp
  have e2 : (xs.set o v).drop (o + 1 + l.length) = xs.drop (o + 1 + l.length) := List.drop_set_of_lt (by omega)
  simp only [splice, e1, e2, List.length_cons, List.append_assoc, List.cons_append, List.nil_append]
  congr 4
  omega
theorem foldl_splice (off : Nat) : ∀ (l : List Value) (k : Nat) (cs : Array Value), off + k + l.length ≤ cs.size →
    ((l.zipIdx k).foldl (fun (cs : Array Value) (x : Value × Nat) => cs.setIfInBounds (off + x.2) x.1) cs).toList = splice cs.toList (off + k) l
  | [], k, cs, _ => by simp [splice]
  | v :: l, k, cs, h => by
    simp only [List.zipIdx_cons, List.foldl_cons]
    rw [foldl_splice off l (k + 1) _ (by simp at h ⊢; omega)]
    simp only [List.length_cons] at h
    simp only [Array.toList_setIfInBounds]
    rw [← splice_cons _ _ _ _ (by simp; omega), Nat.add_assoc]
def PartsRel (Γ : Env) : List (Nat × NS) → List (Nat × Value) → Prop := R2 fun x y => x.1 = y.1 ∧ SRel Γ x.2 y.2
theorem buildParts_sound {P : Program} {Γ : Env} {size : Nat → Option (Nat × Nat)} : ∀ {parts : List (Nat × NS)} {pv : List (Nat × Value)} {xs l : List NC} {cells : Array Value},
    buildParts P size xs parts = some l → PartsRel Γ parts pv → R2 (CR Γ) xs cells.toList → ∃ cs, Instr.fill size cells pv = some cs ∧ R2 (CR Γ) l cs.toList
  | [], pv, xs, l, cells, h, hp, hr => by
    cases hp
    simp only [buildParts, Option.some.injEq] at h
    subst h
    exact ⟨cells, rfl, hr⟩
  | (i, v) :: rest, pv, xs, l, cells, h, hp, hr => by
    cases hp with
    | cons h1 h2 =>
      rename_i y m
      obtain ⟨i', u⟩ := y
      obtain ⟨rfl, hv⟩ := h1
      simp only [buildParts] at h
      split at h
      case h_2 => cases h
      rename_i off n x hs hx
      split at h
      case isFalse => cases h
      rename_i hc
      have hxr := (nv_rel hv hx).cells
      have hl1 := hxr.length
      have hl2 := hr.length
      have hsz : u.cells.size = n := by rw [← hc.1, hl1]; simp
      have hle : off + u.cells.size ≤ cells.size := by rw [hsz, ← Array.length_toList, ← hl2]; exact hc.2
      have key := foldl_splice off u.cells.toList 0 cells (by simpa using hle)
      have harr : (u.cells.zipIdx.foldl (fun (cs : Array Value) (x : Value × Nat) => cs.setIfInBounds (off + x.2) x.1) cells).toList = splice cells.toList off u.cells.toList := by
        rw [Nat.add_zero] at key
        rw [← key, ← Array.foldl_toList]
        simp
      obtain ⟨cs, hf, hrr⟩ := buildParts_sound (cells := u.cells.zipIdx.foldl (fun (cs : Array Value) (x : Value × Nat) => cs.setIfInBounds (off + x.2) x.1) cells) h h2 (by rw [harr]; exact hr.splice off hxr)
      refine ⟨cs, ?_, hrr⟩
      have c1 : (u.cells.size != n || decide (off + u.cells.size > cells.size)) = false := by simp [hsz]; omega
      simp only [Instr.fill, hs]
      rw [if_neg (by simpa using c1)]
      exact hf
theorem run_listMapM {α β : Type} {P : Program} {w : World} (f : α → Sem β) (g : α → β) : ∀ (l : List α), (∀ x ∈ l, (f x).run P w = .ok (g x) w) → (l.mapM f).run P w = .ok (l.map g) w
  | [], _ => by simp
  | x :: l, h => by
    rw [List.mapM_cons]
    simp [h x (by simp), run_listMapM f g l (fun y hy => h y (by simp [hy]))]
theorem run_arrayMapM {α β : Type} {P : Program} {w : World} (f : α → Sem β) (g : α → β) (a : Array α) (h : ∀ x ∈ a.toList, (f x).run P w = .ok (g x) w) : (a.mapM f).run P w = .ok (a.map g) w := by
  rw [Array.mapM_eq_mapM_toList]
  simp only [Sem.run_map, run_listMapM f g a.toList h, Result.andThen_ok]
  rw [← Array.toList_map]
theorem nbuild_sound {P : Program} {Γ : Env} {w : World} {t : TypeId} {parts : List (Nat × NS)} {pv : Array (Nat × Value)} {l : List NC} (h : nbuild P t parts = some l) (hp : PartsRel Γ parts pv.toList) :
    ∃ cs : List Value, (Instr.build t pv).run P w = .ok (.agg cs.toArray) w ∧ R2 (CR Γ) l cs := by
  unfold nbuild at h
  split at h
  · rename_i z fs hz hu
    split at h
    case isFalse => cases h
    rename_i hall
    obtain ⟨i, v, hi, hv, hsz, hs⟩ := zeroCells_spec hz
    obtain ⟨cs, hf, hr⟩ := buildParts_sound h hp (scals_rel hs)
    refine ⟨cs.toList, ?_, hr⟩
    have hm := run_arrayMapM (P := P) (w := w) (fun (f : Field) => (do pure (f.offset, ← sizeOf f.type) : Sem (Nat × Nat))) (fun f => (f.offset, sizeT P f.type)) fs (fun f hf => by
      obtain ⟨fi, hfi⟩ := Option.isSome_iff_exists.1 (List.all_eq_true.1 hall f hf)
      simp [run_sizeOf hfi])
    have hplace : (fun (x : Nat) => (fs.map fun f => (f.offset, sizeT P f.type))[x]?) = fun i => (fs[i]?).map fun f => (f.offset, sizeT P f.type) := by
      funext x; simp
    simp only [Instr.build, Sem.run_bind, run_zeroValue hi hv, Result.andThen_ok, run_underlying hu, hm, hplace, hf]
    simp
  · rename_i z n e hz hu
    split at h
    case isFalse => cases h
    rename_i hpos
    obtain ⟨i, v, hi, hv, hsz, hs⟩ := zeroCells_spec hz
    obtain ⟨ei, hei, -⟩ := info_of_size hpos
    obtain ⟨cs, hf, hr⟩ := buildParts_sound h hp (scals_rel hs)
    refine ⟨cs.toList, ?_, hr⟩
    simp only [Instr.build, Sem.run_bind, run_zeroValue hi hv, Result.andThen_ok, run_underlying hu, run_sizeOf hei, hf]
    simp
  · cases h

theorem repl_get {α : Type} (z : List α) : ∀ (n j : Nat), ((List.replicate n z).flatten)[j]? = if j < n * z.length then z[j % z.length]? else none
  | 0, j => by simp
  | n + 1, j => by
    rw [List.replicate_succ, List.flatten_cons, List.getElem?_append]
    split
    · rename_i h
      rw [Nat.mod_eq_of_lt h, if_pos (by rw [Nat.succ_mul]; omega)]
    · rename_i h
      rw [repl_get z n (j - z.length)]
      have hm : (j - z.length) % z.length = j % z.length := by
        conv => rhs; rw [show j = (j - z.length) + z.length by omega]
        simp
      rw [hm, Nat.succ_mul]
      by_cases h2 : j - z.length < n * z.length
      · rw [if_pos h2, if_pos (by omega)]
      · rw [if_neg h2, if_neg (by omega)]
theorem made_rel {Γ : Env} {z : List NC} {zv : Array Value} (r : R2 (CR Γ) z zv.toList) (n : Nat) : R2 (CR Γ) (repl n z) ((Array.range (n * zv.size)).map (zv[· % zv.size]!)).toList := by
  have hl := r.length
  simp only [Array.length_toList] at hl
  refine R2.of_get ?_ fun j x hx => ?_
  · simp [repl, hl]
  · unfold repl at hx
    rw [repl_get] at hx
    split at hx
    · rename_i hj
      obtain ⟨u, hu, hr⟩ := r.get hx
      refine ⟨u, ?_, hr⟩
      rw [hl] at hj hu
      have hlt : j % zv.size < zv.size := Nat.mod_lt _ (Nat.pos_of_ne_zero fun h => by rw [h] at hj; simp at hj)
      simp only [Array.getElem?_toList] at hu
      rw [Array.getElem?_eq_getElem hlt] at hu
      simp only [Option.some.injEq] at hu
      simp only [Array.toList_map, Array.toList_range, List.getElem?_map, List.getElem?_range hj, Option.map_some]
      rw [getElem!_pos zv _ hlt, hu]
    · cases hx

theorem run_buildSlice {P : Program} {w : World} {t e : TypeId} {i : TypeInfo} {v : Value} {len : Nat} {pv : Array (Nat × Value)} {cs : Array Value} (hu : P.underlying t = some (.slice e)) (hi : P.info? e = some i) (hv : i.zero = some v)
    (hsz : v.cells.size = sizeT P e) (h24 : len * sizeT P e ≤ 16777216)
    (hf : Instr.fill (fun i => some (i * sizeT P e, sizeT P e)) ((Array.range (len * sizeT P e)).map (fun x => v.cells[x % sizeT P e]!)) pv.toList = some cs) :
    (Instr.buildSlice t len pv).run P w = .ok (.slice (some ⟨w.heap.size, 0, none⟩) len len) (w.alloc (.cells cs e)) := by
  have hi24 : ¬ (len * sizeT P e > 2 ^ 24) := by omega
  by_cases hn : len * sizeT P e = 0
  · simp only [hn, Array.range_zero', List.map_toArray, List.map_nil] at hf
    simp only [Instr.buildSlice, Sem.run_bind, run_underlying hu, Result.andThen_ok, run_sizeOf hi, hn, if_true, Array.range_zero', List.map_toArray, List.map_nil]
    rw [hf]
    simp [newRow]
  · simp only [Instr.buildSlice, Sem.run_bind, run_underlying hu, Result.andThen_ok, run_sizeOf hi, hi24, hn, if_false, Sem.run_pure, run_zeroValue hi hv, hsz]
    rw [hf]
    simp [newRow]

/-! ### the light operations -/
def ROk (Γ : Env) (s : St) (w : World) (run : Result Next) : R1 → Prop
  | .no => True
  | .val c v => allT c → ∃ u, run = .ok (.value u) w ∧ SRel Γ v u
  | .new c g vf => allT c → ∃ u cs, run = .ok (.value u) (w.alloc (.cells cs g.e)) ∧ BodyRel Γ g.st g.body cs.toList ∧
      ∀ nm, Γ.μ nm = none → SRel (Γ.add nm ⟨w.heap.size, g.st, cs.size⟩) (vf nm) u
  | .upd c n g => allT c → ∃ w', run = .ok .skip w' ∧ WRel Γ (putAt s.rg n (some g)) w' ∧ Wd w w'

theorem ksFrom_length : ∀ {z : List NC} {ks : List CK}, ksFrom z = some ks → ks.length = z.length
  | [], ks, h => by simp [ksFrom] at h; subst h; rfl
  | x :: z, ks, h => by
    cases x <;> simp only [ksFrom, reduceCtorEq] at h <;>
    · split at h
      · rename_i r hr
        cases h
        simp [ksFrom_length hr]
      · cases h
theorem elemBody_st {P : Program} {e : TypeId} {z : List NC} (n : Nat) (xs : List NC) (hz : zeroCells P e = some z) (hl : z.length = sizeT P e) : (elemBody P e n xs).1 = sizeT P e := by
  have hk : ∀ ks, ksOf P e = some ks → ks.length = sizeT P e := fun ks h => by
    simp only [ksOf, hz] at h
    rw [ksFrom_length h, hl]
  unfold elemBody
  split
  · rename_i k h
    have := hk _ h
    simp only [List.length_singleton] at this
    split <;> exact this
  · rename_i ks _ h
    have := hk _ h
    split
    · split
      · exact this
      · rfl
    · rfl
  · rfl

theorem ofV_ok {Γ : Env} {s : St} {w : World} {run : Result Next} {x : Option (List Bool × NS)} (h : ∀ c v, x = some (c, v) → allT c → ∃ u, run = .ok (.value u) w ∧ SRel Γ v u) : ROk Γ s w run (ofV x) := by
  cases x with
  | none => trivial
  | some p => exact h p.1 p.2 rfl

theorem ofOpt_rel {Γ : Env} {s : St} {a : Act} (hfr : FrRel Γ s.fr a.tmps) {x : Option Operand} {y : Option NC} (h : ofOpt s x = some y) : BRel Γ y (x.map a.eval) := by
  unfold ofOpt at h
  split at h
  · cases h; rfl
  · rename_i o
    split at h
    · rename_i z hz
      cases h
      exact ⟨_, rfl, nc_rel (ev_rel hfr o) hz⟩
    · cases h
theorem parts_rel {Γ : Env} {s : St} {a : Act} (hfr : FrRel Γ s.fr a.tmps) (parts : Array (Nat × Operand)) :
    PartsRel Γ (parts.toList.map fun (i, x) => (i, s.ev x)) (parts.map fun (i, x) => (i, a.eval x)).toList := by
  rw [Array.toList_map]
  exact R2.self_map _ _ _ fun x => ⟨rfl, ev_rel hfr x.2⟩
theorem addr_new {Γ : Env} {nm : Nat} {w : World} {st sz : Nat} : SRel (Γ.add nm ⟨w.heap.size, st, sz⟩) (.v (.c (.p nm 0 0))) (.pointer (some ⟨w.heap.size, 0, none⟩)) :=
  ⟨⟨⟨w.heap.size, st, sz⟩, by simp [Env.add], by simp⟩, rfl⟩

theorem nmm_ok {P : Program} {s : St} {Γ : Env} {w : World} {a : Act} {o : Oper} {c : Call} (hfr : FrRel Γ s.fr a.tmps) (less : Bool) (hop : o.op = .call c)
    (hcal : c.callee = .builtin (match less with | true => .min | false => .max)) {cc : List Bool} {v : NS} (h : nmm less s c.args.toList = some (cc, v)) :
    ∃ u, (execOp a.eval o).run P w = .ok (.value u) w ∧ SRel Γ v u := by
  unfold nmm at h
  split at h
  case h_2 => cases h
  rename_i x y ha
  split at h
  case h_2 => cases h
  rename_i k m k' n hx hy
  cases h
  obtain ⟨callee, args, argTypes⟩ := c
  simp only at hcal ha
  subst hcal
  have ha' : args = #[x, y] := by rw [← Array.toArray_toList (xs := args), ha]
  subst ha'
  have h1 := ev_rel hfr x
  have h2 := ev_rel hfr y
  rw [hx] at h1
  rw [hy] at h2
  have e1 : a.eval x = .int k m := h1.1
  have e2 : a.eval y = .int k' n := h2.1
  cases less with
  | true =>
    refine ⟨.int k (if n < m then n else m), ?_, ?_, rfl⟩
    · simp [execOp, hop, resolve, invoke, builtin, e1, e2, Builtin.min_, Builtin.min2]
    · show _ = Value.int k (bif decide (n < m) then n else m)
      by_cases c : n < m <;> simp [c]
  | false =>
    refine ⟨.int k (if n > m then n else m), ?_, ?_, rfl⟩
    · simp [execOp, hop, resolve, invoke, builtin, e1, e2, Builtin.max_, Builtin.max2]
    · show _ = Value.int k (bif decide (n > m) then n else m)
      by_cases c : n > m <;> simp [c]
theorem ncap_ok {P : Program} {s : St} {Γ : Env} {w : World} {a : Act} {o : Oper} {c : Call} (hfr : FrRel Γ s.fr a.tmps) (hop : o.op = .call c)
    (hcal : c.callee = .builtin .cap) {cc : List Bool} {v : NS} (h : ncap P s c.args.toList c.argTypes.toList = some (cc, v)) :
    ∃ u, (execOp a.eval o).run P w = .ok (.value u) w ∧ SRel Γ v u := by
  unfold ncap at h
  split at h
  case h_2 => cases h
  rename_i x t ha ht
  split at h
  case h_2 => cases h
  rename_i e hu hx
  cases h
  obtain ⟨callee, args, argTypes⟩ := c
  simp only at hcal ha ht
  subst hcal
  have ha' : args = #[x] := by rw [← Array.toArray_toList (xs := args), ha]
  have ht' : argTypes = #[t] := by rw [← Array.toArray_toList (xs := argTypes), ht]
  subst ha' ht'
  have h1 := ev_rel hfr x
  rw [hx] at h1
  have e1 : a.eval x = .slice none 0 0 := h1.1
  refine ⟨goInt 0, ?_, ⟨rfl, rfl⟩⟩
  simp [execOp, hop, resolve, invoke, builtin, e1, Builtin.cap_, run_underlying hu]
theorem allPtr_rel {Γ : Env} : ∀ {l : List NS} {t : List (Nat × Nat × Nat)} {vs : List Value}, allPtr l = some t → R2 (SRel Γ) l vs → R2 (fun (x : Nat × Nat × Nat) u => ∃ B, Γ.μ x.1 = some B ∧ u = .pointer (some ⟨B.blk, x.2.1 * B.st + x.2.2, none⟩)) t vs
  | [], t, vs, h, r => by simp [allPtr] at h; subst h; cases r; exact .nil
  | x :: l, t, vs, h, r => by
    unfold allPtr at h
    split at h
    · rename_i heq; cases heq
    · rename_i r' i c l' heq
      cases heq
      split at h
      · rename_i t' ht
        cases h
        cases r with
        | cons r1 r2 =>
          obtain ⟨⟨B, hB, hv⟩, -⟩ := r1
          exact .cons ⟨B, hB, hv⟩ (allPtr_rel ht r2)
      · cases h
    · cases h
theorem nassert_sound {P : Program} {gl : List Nat} {x : NC} {u : Value} {xt asserted : TypeId} {v : NS} {Γ : Env} {rg : List (Option Reg)} {w : World} (hw : WRel Γ rg w) (hG : GlobOk gl Γ) (hx : CR Γ x u) (h : nassert P gl x asserted = some v) :
    ∃ z, (Instr.typeAssert u xt asserted true).run P w = .ok z w ∧ SRel Γ v z := by
  have _ := hw
  have res : SRel Γ (.tu [.c .pn, .c (.b false)]) (.tuple #[.pointer none, .bool false]) :=
    ⟨[.pointer none, .bool false], rfl, .cons ⟨rfl, rfl⟩ (.cons ⟨rfl, rfl⟩ .nil)⟩
  have zv : zeroNil P asserted = true → (zeroValue asserted).run P w = .ok (.pointer none) w := by
    intro hz
    unfold zeroNil at hz
    split at hz
    · rename_i i hi
      split at hz
      · rename_i hzv
        exact run_zeroValue hi hzv w
      · cases hz
    · cases hz
  unfold nassert at h
  split at h
  · obtain ⟨rfl, -⟩ := hx
    split at h
    · rename_i p hp hz
      cases h
      refine ⟨_, ?_, res⟩
      unfold Instr.typeAssert
      simp [run_underlying hp, zv hz]
    · cases h
  · rename_i k
    split at h
    · cases h
    · rename_i hif
      simp only [Bool.or_eq_true, not_or, Bool.not_eq_true, beq_eq_false_iff_ne, Bool.not_eq_false'] at hif
      obtain ⟨h2, h3⟩ := hif
      split at h
      · rename_i p hp hz
        cases h
        obtain ⟨ad, c, e, fz, ca, ta, g1, -⟩ := hG.1 k (List.contains_iff_mem.1 h3)
        have hu : Γ.er k = some u := hx.1
        rw [g1] at hu
        cases hu
        refine ⟨_, ?_, res⟩
        unfold Instr.typeAssert
        generalize gl.headD 0 = q at h2
        simp [run_underlying hp, zv hz, h2]
      · cases h
  · cases h
theorem made_list (z : Array Value) (q : Nat) : (madeCells z (q * z.size)).toList = (List.replicate q z.toList).flatten := by
  unfold madeCells
  simp only [Array.toList_map, Array.toList_range]
  induction q with
  | zero => simp
  | succ q ih =>
    rw [Nat.succ_mul, Nat.add_comm, List.range_add, List.map_append, List.replicate_succ, List.flatten_cons]
    congr 1
    · refine List.ext_getElem? fun j => ?_
      rw [List.getElem?_map]
      by_cases hj : j < z.size
      · rw [List.getElem?_range hj, Option.map_some, Nat.mod_eq_of_lt hj]
        simp [hj]
      · rw [List.getElem?_eq_none (by rw [List.length_range]; omega), List.getElem?_eq_none (by simp; omega)]
        rfl
    · rw [List.map_map, ← ih]
      congr 1
      funext i
      show z[(z.size + i) % z.size]! = z[i % z.size]!
      rw [Nat.add_mod_left]
theorem light_sound {P : Program} {glob : List Nat} {s : St} {Γ : Env} {w : World} {a : Act} (hw : WRel Γ s.rg w) (hG : GlobOk glob Γ) (hfr : FrRel Γ s.fr a.tmps) (o : Oper) :
    ROk Γ s w ((execOp a.eval o).run P w) (light P glob s o.op) := by
  cases hop : o.op <;> simp only [light]
  case move x => exact fun _ => ⟨a.eval x, by simp [execOp, hop], ev_rel hfr x⟩
  case assign x => exact fun _ => ⟨a.eval x, by simp [execOp, hop], ev_rel hfr x⟩
  case alloc t =>
    split
    case h_2 => trivial
    rename_i z hz
    intro _
    obtain ⟨i, v, hi, hv, hsz, hs⟩ := zeroCells_spec hz
    obtain ⟨hb, he⟩ := varReg_rel (Γ := Γ) P t (scals_rel hs)
    refine ⟨.pointer (some ⟨w.heap.size, 0, none⟩), v.cells, ?_, hb, fun nm _ => addr_new⟩
    rw [he]
    simp [execOp, hop, Instr.alloc, run_zeroValue hi hv, newVar, newRow]
  case box t x =>
    split
    case h_2 => trivial
    rename_i nv hnv
    split
    case isFalse => trivial
    intro _
    have hr := nv_rel (ev_rel hfr x) hnv
    obtain ⟨hb, he⟩ := varReg_rel (Γ := Γ) P t hr.cells
    refine ⟨.pointer (some ⟨w.heap.size, 0, none⟩), (a.eval x).cells, ?_, hb, fun nm _ => addr_new⟩
    rw [he]
    simp [execOp, hop, Instr.box, newVar, newRow]
  case build t parts =>
    split
    case h_2 => trivial
    rename_i l hl
    intro _
    obtain ⟨cs, hrun, hr⟩ := nbuild_sound (w := w) hl (parts_rel hfr parts)
    exact ⟨.agg cs.toArray, by simp [execOp, hop, hrun], ⟨cs, rfl, hr⟩⟩
  case buildSlice t len parts =>
    split
    case h_2 => trivial
    rename_i e hu
    split
    case h_2 => trivial
    rename_i z hz
    split
    case isFalse => trivial
    rename_i hle
    split
    case h_2 => trivial
    rename_i l hl
    intro _
    obtain ⟨i, v, hi, hv, hsz, hs⟩ := zeroCells_spec hz
    have hzl : z.length = sizeT P e := by rw [(scals_rel (Γ := Γ) hs).length]; simpa using hsz
    have hm := made_rel (scals_rel (Γ := Γ) hs) len
    rw [hsz] at hm
    obtain ⟨cs, hf, hr⟩ := buildParts_sound hl (parts_rel hfr parts) hm
    have hlen : cs.size = len * sizeT P e := by
      have h1 : ∀ (ps : List (Nat × Value)) (c0 c1 : Array Value), Instr.fill (fun i => some (i * sizeT P e, sizeT P e)) c0 ps = some c1 → c1.size = c0.size := by
        intro ps
        induction ps with
        | nil => intro c0 c1 h; simp [Instr.fill] at h; rw [h]
        | cons p ps ih =>
          intro c0 c1 h
          simp only [Instr.fill] at h
          split at h
          · cases h
          · rw [ih _ _ h]
            have : ∀ (l : List (Value × Nat)) (q : Array Value), (l.foldl (fun (cs : Array Value) (x : Value × Nat) => cs.setIfInBounds (p.1 * sizeT P e + x.2) x.1) q).size = q.size := by
              intro l
              induction l with
              | nil => intro q; rfl
              | cons y l ihl => intro q; rw [List.foldl_cons, ihl]; simp
            rw [← Array.foldl_toList]
            exact this _ _
      rw [h1 _ _ _ hf]; simp
    refine ⟨.slice (some ⟨w.heap.size, 0, none⟩) len len, cs, ?_, elemBody_rel P e len hr, fun nm _ => ⟨⟨_, 0, len, by simp [Env.add]; rfl, rfl, Nat.le_refl _, ?_, ?_⟩, rfl⟩⟩
    · simp only [execOp, hop, Sem.run_bind, run_buildSlice (w := w) hu hi hv hsz (by rw [← hzl]; exact hle.1) hf, Result.andThen_ok, Sem.run_pure]
    · simp only [maxLen]; omega
    · left
      simp only [Nat.zero_mul, Nat.zero_add, true_and]
      rw [elemBody_st len l hz hzl, hlen]
  case load t x =>
    split
    case h_2 => trivial
    rename_i d y hu hy
    refine ofV_ok fun c v h hc => ?_
    obtain ⟨u, hr, hs⟩ := nload_sound hw hG (by rw [hu]; rfl) (nc_rel (ev_rel hfr x) hy) h hc
    exact ⟨u, by simp only [execOp, hop, Sem.run_bind, hr, Result.andThen_ok, Sem.run_pure], hs⟩
  case store t x y =>
    split
    case h_2 => trivial
    rename_i i nx ny hi hx hy
    split
    case h_2 => trivial
    rename_i c n g h
    intro hc
    obtain ⟨w', hr, h1, h2⟩ := nstore_sound hw hi (nc_rel (ev_rel hfr x) hx) (nv_rel (ev_rel hfr y) hy) h hc
    exact ⟨w', by simp only [execOp, hop, Sem.run_bind, hr, Result.andThen_ok, Sem.run_pure], h1, h2⟩
  case nilCheck x =>
    have hr := ev_rel hfr x
    split
    · rename_i r i c he
      intro _
      rw [he] at hr
      have hr' := hr
      obtain ⟨⟨B, hB, hv⟩, -⟩ := hr'
      exact ⟨a.eval x, by simp only [execOp, hop, hv]; rfl, hr⟩
    · rename_i k xs i he
      intro _
      rw [he] at hr
      have hr' := hr
      obtain ⟨⟨blk, off, hv, -⟩, -⟩ := hr'
      exact ⟨a.eval x, by simp only [execOp, hop, hv]; rfl, hr⟩
    · rename_i ks xs i c he
      intro _
      rw [he] at hr
      have hr' := hr
      obtain ⟨⟨blk, off, hv, -⟩, -⟩ := hr'
      exact ⟨a.eval x, by simp only [execOp, hop, hv]; rfl, hr⟩
    · rename_i g he
      intro _
      rw [he] at hr
      have hr' := hr
      obtain ⟨hv, -⟩ := hr'
      exact ⟨a.eval x, by simp only [execOp, hop, show a.eval x = _ from hv]; rfl, hr⟩
    · trivial
  case binOp op t x y yt =>
    split
    case h_2 => trivial
    rename_i p q hp hq
    split
    case h_2 => trivial
    rename_i c r h
    intro hc
    obtain ⟨z, hr, hs⟩ := nbinE_sound (P := P) hw hG (nc_rel (ev_rel hfr x) hp) (nc_rel (ev_rel hfr y) hq) h hc
    exact ⟨z, by simp only [execOp, hop, Sem.run_bind (x := (do eqGuard op t x y (a.eval x) (a.eval y); binOp op t (a.eval x) (a.eval y) : Sem Value)), hr, Result.andThen_ok, Sem.run_pure], hs⟩
  case unOp op t x =>
    split
    case h_2 => trivial
    rename_i p hp
    split
    case h_2 => trivial
    rename_i r h
    intro _
    obtain ⟨z, hr, hs⟩ := nun_sound (P := P) w (nc_rel (ev_rel hfr x) hp) h
    exact ⟨z, by simp only [execOp, hop, Sem.run_bind, hr, Result.andThen_ok, Sem.run_pure], hs⟩
  case convert src dst x =>
    split
    · rename_i k n hn
      split
      · rename_i ds k' hs hd
        intro _
        obtain ⟨hv, -⟩ := nc_rel (ev_rel hfr x) hn
        refine ⟨.int k' (k'.wrap n), ?_, ⟨rfl, rfl⟩⟩
        have hv' : a.eval x = .int k n := hv
        simp only [execOp, hop, hv', convert, Sem.run_bind, run_underlying hs, run_underlying hd, Result.andThen_ok, Conv.intToInt, Sem.run_pure]
      · trivial
    · trivial
  case makeSlice t l c =>
    split
    case h_2 => trivial
    rename_i e n m hu hl hcp
    split
    case h_2 => trivial
    rename_i g hg
    intro hc
    have hc' : 0 ≤ n ∧ n ≤ m ∧ m * bytesT P e ≤ 140737488355328 ∧ m ≤ 9223372036854775807 := by simpa [allT] using hc
    obtain ⟨h0, h1, h2, h3⟩ := hc'
    obtain ⟨hv1, -⟩ := nc_rel (ev_rel hfr l) hl
    obtain ⟨hv2, -⟩ := nc_rel (ev_rel hfr c) hcp
    have hv1' : a.eval l = .int .i64 n := hv1
    have hv2' : a.eval c = .int .i64 m := hv2
    have key : ∀ (z : NC), zeroCells P e = some [z] → ∃ (u : Value), CR Γ z u ∧
        (Instr.makeSlice t (.int .i64 n) (.int .i64 m)).run P w = .ok (.slice (some ⟨w.heap.size, 0, none⟩) n.toNat m.toNat) (w.alloc (.cells (List.replicate m.toNat u).toArray e)) := by
      intro z hz
      obtain ⟨i, v, hi, hv, hsz, hs⟩ := zeroCells_spec hz
      obtain ⟨u, hu1, hu2⟩ := R2.one (scals_rel (Γ := Γ) hs)
      have hvc : v.cells = #[u] := by rw [← Array.toArray_toList (xs := v.cells), hu1]
      have hs1 : i.size = 1 := by
        have : sizeT P e = 1 := by rw [← hsz, hvc]; rfl
        simpa [sizeT, hi] using this
      refine ⟨u, hu2, ?_⟩
      have hby : (i.bytes : Int) * m ≤ 281474976710656 := by
        have : bytesT P e = i.bytes := by simp [bytesT, hi]
        rw [this] at h2
        rw [Int.mul_comm]; omega
      rw [run_make w t e i v hu hi hv .i64 .i64 n m h0 h1 hby h3]
      congr 4
      rw [hvc, hs1]
      apply Array.ext'
      simp only [madeCells, Nat.mul_one, Array.toList_map, Array.toList_range]
      apply List.ext_getElem?
      intro j
      by_cases hj : j < m.toNat
      · simp [hj, Nat.mod_one]
      · simp [hj]
    have hsplit : ∀ (u : Value), List.replicate m.toNat u = List.replicate n.toNat u ++ List.replicate (m.toNat - n.toNat) u := fun u => by
      rw [List.replicate_append_replicate]; congr 1; omega
    unfold makeReg at hg
    split at hg
    · rename_i k z hz
      cases hg
      obtain ⟨u, hu2, hrun⟩ := key _ hz
      have hu3 : u = .int k z := hu2.1
      refine ⟨.slice (some ⟨w.heap.size, 0, none⟩) n.toNat m.toNat, (List.replicate m.toNat u).toArray, by simp only [execOp, hop, hv1', hv2', Sem.run_bind, hrun, Result.andThen_ok, Sem.run_pure], ⟨rfl, List.replicate (m.toNat - n.toNat) u, ?_⟩, fun nm _ => ⟨⟨_, 0, m.toNat, by simp [Env.add]; rfl, rfl, by omega, by simp only [maxLen]; omega, .inl ?_⟩, rfl⟩⟩
      · rw [hsplit, hu3]; simp
      · simp
    · rename_i z hz
      cases hg
      obtain ⟨u, hu2, hrun⟩ := key _ hz
      have hu3 : u = .bool z := hu2.1
      refine ⟨.slice (some ⟨w.heap.size, 0, none⟩) n.toNat m.toNat, (List.replicate m.toNat u).toArray, by simp only [execOp, hop, hv1', hv2', Sem.run_bind, hrun, Result.andThen_ok, Sem.run_pure], ⟨rfl, by decide, List.replicate (m.toNat - n.toNat) u, ?_⟩, fun nm _ => ⟨⟨_, 0, m.toNat, by simp [Env.add]; rfl, rfl, by omega, by simp only [maxLen]; omega, .inl ?_⟩, rfl⟩⟩
      · have hrep : ∀ q, rowsV [.b] (List.replicate q [.b z]) = List.replicate q (Value.bool z) := fun q => by
          unfold rowsV
          induction q with
          | zero => rfl
          | succ q ih => rw [List.replicate_succ, List.replicate_succ, List.flatMap_cons, ih]; rfl
        rw [hrep, hu3]; exact hsplit _
      · simp
    · rename_i zs _ _ hz
      split at hg
      case h_2 => cases hg
      rename_i ks hks
      split at hg
      case h_2 => cases hg
      rename_i row hrow
      split at hg
      case isFalse => cases hg
      rename_i h1k
      cases hg
      obtain ⟨i, v, hi, hv, hsz, hs⟩ := zeroCells_spec hz
      have hus := toRow_vals (Γ := Γ) hrow (scals_rel hs)
      have hs1 : i.size = v.cells.size := by
        rw [hsz]
        simp [sizeT, hi]
      have hkl : ks.length = v.cells.size := by
        rw [ksFrom_length hks, (scals_rel (Γ := Γ) hs).length]
        simp
      have hby : (i.bytes : Int) * m ≤ 281474976710656 := by
        have : bytesT P e = i.bytes := by simp [bytesT, hi]
        rw [this] at h2
        rw [Int.mul_comm]; omega
      have hrun := run_make (P := P) w t e i v hu hi hv .i64 .i64 n m h0 h1 hby h3
      rw [hs1] at hrun
      have hrep : ∀ q, rowsV ks (List.replicate q row) = (List.replicate q v.cells.toList).flatten := fun q => by
        unfold rowsV
        rw [hus]
        induction q with
        | zero => rfl
        | succ q ih => rw [List.replicate_succ, List.replicate_succ, List.flatMap_cons, ih, List.flatten_cons]
      refine ⟨.slice (some ⟨w.heap.size, 0, none⟩) n.toNat m.toNat, madeCells v.cells (m.toNat * v.cells.size), by simp only [execOp, hop, hv1', hv2', Sem.run_bind, hrun, Result.andThen_ok, Sem.run_pure], ⟨rfl, by omega, rowsV ks (List.replicate (m.toNat - n.toNat) row), ?_⟩, fun nm _ => ⟨⟨_, 0, m.toNat, by simp [Env.add]; rfl, rfl, by omega, by simp only [maxLen]; omega, .inl ?_⟩, rfl⟩⟩
      · rw [made_list, hrep, hrep, ← List.flatten_append, List.replicate_append_replicate]
        congr 2
        omega
      · rw [size_madeCells, hkl]
        simp
    · cases hg
  case slice t x lo hi mx =>
    cases mx with
    | some _ => trivial
    | none =>
      simp only
      split
      case h_2 => trivial
      rename_i p pl ph hp hl hh
      refine ofV_ok fun c v h hc => ?_
      obtain ⟨z, hr, hs⟩ := nslice_sound hw (nc_rel (ev_rel hfr x) hp) (ofOpt_rel hfr hl) (ofOpt_rel hfr hh) h hc
      exact ⟨z, by simp only [execOp, hop, Option.map_none, Sem.run_bind, hr, Result.andThen_ok, Sem.run_pure], hs⟩
  case fieldAddr t x f =>
    split
    · rename_i r i c o ft hx hf
      intro _
      obtain ⟨⟨B, hB, hv⟩, -⟩ := nc_rel (ev_rel hfr x) hx
      refine ⟨.pointer (some ⟨B.blk, i * B.st + c + o, none⟩), by simp only [execOp, hop, hv, Sem.run_bind, run_fieldAt hf, Result.andThen_ok, Sem.run_pure], ⟨⟨B, hB, by rw [Nat.add_assoc]⟩, rfl⟩⟩
    · rename_i ks xs i c o ft hx hf
      intro _
      obtain ⟨⟨blk, off, hv, hro⟩, -⟩ := nc_rel (ev_rel hfr x) hx
      refine ⟨.pointer (some ⟨blk, off + i * ks.length + c + o, none⟩), by simp only [execOp, hop, hv, Sem.run_bind, run_fieldAt hf, Result.andThen_ok, Sem.run_pure], ⟨⟨blk, off, by rw [Nat.add_assoc (off + _)], hro⟩, rfl⟩⟩
    · trivial
  case field t x f =>
    split
    case h_2 => trivial
    rename_i xs o ft hx hf
    split
    case h_2 => trivial
    rename_i d hd
    have hr := ev_rel hfr x
    rw [hx] at hr
    obtain ⟨vs, hv, hr⟩ := hr
    obtain ⟨h1, h2⟩ := run_field (P := P) (w := w) hf hr
    split
    · rename_i ha
      split
      · rename_i l hl
        intro _
        obtain ⟨z, hz, hs⟩ := h1 l ha (by rw [hd]; rfl) hl
        exact ⟨z, by simp only [execOp, hop, hv, Sem.run_bind, hz, Result.andThen_ok, Sem.run_pure], hs⟩
      · trivial
    · rename_i ha
      split
      · rename_i y hy
        intro _
        obtain ⟨z, hz, hs⟩ := h2 y (by simpa using ha) (by rw [hd]; rfl) hy
        exact ⟨z, by simp only [execOp, hop, hv, Sem.run_bind, hz, Result.andThen_ok, Sem.run_pure], hs⟩
      · trivial
  case indexAddr t x ix =>
    split
    case h_2 => trivial
    rename_i p q hp hq
    refine ofV_ok fun c v h hc => ?_
    obtain ⟨z, hr, hs⟩ := nindexAddr_sound hw (nc_rel (ev_rel hfr x) hp) (nc_rel (ev_rel hfr ix) hq) h hc
    exact ⟨z, by simp only [execOp, hop, Sem.run_bind, hr, Result.andThen_ok, Sem.run_pure], hs⟩
  case sliceToArrayPointer t x =>
    split
    case h_2 => trivial
    rename_i n e r off len hu hx
    split
    case isFalse => trivial
    rename_i h0
    intro hc
    have hc : n ≤ len := by simpa [allT] using hc
    obtain ⟨⟨B, o, cap, hB, hv, hlc, hcm, hcap⟩, -⟩ := nc_rel (ev_rel hfr x) hx
    have ho : o = off * B.st := by
      rcases hcap with h | h
      · exact h.1
      · omega
    have hr : (Instr.arrayAt t (a.eval x)).run P w = .ok (.pointer (some ⟨B.blk, o, none⟩)) w := by
      rw [hv]
      simp [Instr.arrayAt, run_underlying hu, show ¬ len < n by omega]
    exact ⟨.pointer (some ⟨B.blk, o, none⟩), by simp only [execOp, hop, Sem.run_bind, hr, Result.andThen_ok, Sem.run_pure], ⟨⟨B, hB, by rw [ho, Nat.add_zero]⟩, rfl⟩⟩
  case index t x ix =>
    split
    case h_2 => trivial
    rename_i q hq
    refine ofV_ok fun c v h hc => ?_
    obtain ⟨z, hr, hs⟩ := nindex_sound (P := P) (w := w) (ev_rel hfr x) (nc_rel (ev_rel hfr ix) hq) h hc
    exact ⟨z, by simp only [execOp, hop, Sem.run_bind, hr, Result.andThen_ok, Sem.run_pure], hs⟩
  case makeFunc fn first caps =>
    cases fn
    case func f =>
      simp only
      split
      case isFalse => trivial
      rename_i h0
      split
      case h_2 => trivial
      rename_i l hl
      intro _
      have hf : first = #[] := Array.eq_empty_of_size_eq_zero h0
      refine ⟨.func (.func f) #[] (caps.map a.eval), by simp [execOp, hop, hf, Instr.makeFunc], ⟨caps.toList.map a.eval, ?_, ?_⟩, rfl⟩
      · congr 1
        apply Array.ext'
        simp
      · exact allPtr_rel hl (R2.self_map _ _ _ fun x => ev_rel hfr x)
    all_goals trivial
  case typeAssert x xt asserted ok =>
    cases ok
    · trivial
    · simp only
      split
      case h_2 => trivial
      rename_i p hp
      split
      case h_2 => trivial
      rename_i v hv
      intro _
      obtain ⟨z, hr, hs⟩ := nassert_sound (P := P) (xt := xt) hw hG (nc_rel (ev_rel hfr x) hp) hv
      exact ⟨z, by simp only [execOp, hop, Sem.run_bind, hr, Result.andThen_ok, Sem.run_pure], hs⟩
  case extract x i =>
    have hr := ev_rel hfr x
    split
    · rename_i l hx
      split
      · rename_i v hv
        intro _
        rw [hx] at hr
        obtain ⟨vs, he, hr⟩ := hr
        obtain ⟨u, hu, hs⟩ := hr.get hv
        exact ⟨u, by simp [execOp, hop, he, Instr.extract, hu], hs⟩
      · trivial
    · trivial
  case call c =>
    split
    case h_5 => trivial
    case h_2 hcal =>
      refine ofV_ok fun cc v h hc => ?_
      exact ncap_ok hfr hop hcal h
    case h_3 hcal =>
      refine ofV_ok fun cc v h hc => ?_
      exact nmm_ok hfr true hop hcal h
    case h_4 hcal =>
      refine ofV_ok fun cc v h hc => ?_
      exact nmm_ok hfr false hop hcal h
    rename_i hcal
    refine ofV_ok fun cc v h hc => ?_
    unfold nlen at h
    split at h
    case h_2 => cases h
    rename_i x t ha ht
    obtain ⟨callee, args, argTypes⟩ := c
    simp only at hcal ha ht
    subst hcal
    have ha' : args = #[x] := by rw [← Array.toArray_toList (xs := args), ha]
    have ht' : argTypes = #[t] := by rw [← Array.toArray_toList (xs := argTypes), ht]
    subst ha' ht'
    have hr := ev_rel hfr x
    have fin : ∀ (n : Nat), (Builtin.len_ #[t] o.type #[a.eval x]).run P w = .ok (goInt n) w → ∃ u, (execOp a.eval o).run P w = .ok (.value u) w ∧ SRel Γ (.v (.c (.i .i64 n))) u := by
      intro n hn
      refine ⟨goInt n, ?_, ⟨rfl, rfl⟩⟩
      simp only [execOp, hop, resolve, Sem.run_bind, Sem.run_pure, Result.andThen_ok, invoke, builtin, List.map_toArray, List.map_cons, List.map_nil, hn]
    split at h
    · rename_i e r off n hu hx
      cases h
      rw [hx] at hr
      obtain ⟨⟨B, oo, cap, hB, hv, -⟩, -⟩ := hr
      exact fin n (by simp [Builtin.len_, run_underlying hu, hv])
    · rename_i e k xs hu hx
      cases h
      rw [hx] at hr
      obtain ⟨⟨aa, cap, hv, -⟩, -⟩ := hr
      exact fin xs.length (by simp [Builtin.len_, run_underlying hu, hv])
    · rename_i e ks xs hu hx
      cases h
      rw [hx] at hr
      obtain ⟨⟨aa, cap, hv, -⟩, -⟩ := hr
      exact fin xs.length (by simp [Builtin.len_, run_underlying hu, hv])
    · rename_i e hu hx
      cases h
      rw [hx] at hr
      obtain ⟨hv, -⟩ := hr
      exact fin 0 (by simp [Builtin.len_, run_underlying hu, show a.eval x = _ from hv])
    · rename_i z hu hx
      cases h
      rw [hx] at hr
      obtain ⟨hv, -⟩ := hr
      exact fin z.size (by simp [Builtin.len_, run_underlying hu, show a.eval x = _ from hv])
    · rename_i _ n e hu
      cases h
      exact fin n (by simp [Builtin.len_, run_underlying hu])
    · cases h
  all_goals trivial

end Go.Nx
