/-
  The engine, part 15: what an operation looks at.
-/
import Derived.Test.YtnhadghddkgjdaaEng14
namespace Go.Nx
open Go

theorem nc_names {n : NS} {x : NC} (h : n.nc = some x) : n.names = names x := by
  unfold NS.nc at h
  split at h
  · cases h; simp [NS.names, NV.names, NV.cells]
  · cases h
theorem nv_names {n : NS} {x : NV} (h : n.nv = some x) : n.names = x.names := by
  unfold NS.nv at h
  split at h
  · cases h; rfl
  · cases h

section
variable {P : Program} {gl : List Nat} {s s' : St}
theorem nload_same {t : TypeId} {a : NC} (h : ∀ n ∈ names a, s.reg n = s'.reg n) : nload P gl s t a = nload P gl s' t a := by
  cases a <;> simp only [nload]
  rename_i r i c
  rw [h r (by simp [names])]
theorem nstore_same {t : TypeId} {a : NC} {x : NV} (h : ∀ n ∈ names a, s.reg n = s'.reg n) : nstore P s t a x = nstore P s' t a x := by
  unfold nstore
  split
  · cases a <;> simp only []
    rename_i r i c
    rw [h r (by simp [names])]
  · rfl
theorem nindexAddr_same {t : TypeId} {a b : NC} (h : ∀ n ∈ names a, s.reg n = s'.reg n) : nindexAddr P s t a b = nindexAddr P s' t a b := by
  unfold nindexAddr
  split
  · split
    · rw [h _ (by simp [names])]
    · rw [h _ (by simp [names])]
    · rfl
    · rfl
    · rfl
  · rfl
theorem nslice_same {t : TypeId} {a : NC} {lo hi : Option NC} (h : ∀ n ∈ names a, s.reg n = s'.reg n) : nslice P s t a lo hi = nslice P s' t a lo hi := by
  unfold nslice
  split
  · rw [h _ (by simp [names])]
  · rfl
  · rfl
  · rfl
  · rfl
  · rfl
theorem els_same {a : NC} (h : ∀ n ∈ names a, s.reg n = s'.reg n) : els s a = els s' a := by
  cases a
  case h r i c =>
    have := h r (by simp [names])
    unfold els
    simp only [this]
  all_goals rfl
theorem ofOpt_same {x : Option Operand} (h : ∀ y ∈ x.toList, s.ev y = s'.ev y) : ofOpt s x = ofOpt s' x := by
  cases x with
  | none => rfl
  | some x => simp only [ofOpt, h x (by simp)]
theorem nlen_same {args : List Operand} {ts : List TypeId} (h : ∀ y ∈ args, s.ev y = s'.ev y) : nlen P s args ts = nlen P s' args ts := by
  unfold nlen
  split
  · rename_i x t
    rw [h x (by simp)]
  · rfl
theorem ncap_same {args : List Operand} {ts : List TypeId} (h : ∀ y ∈ args, s.ev y = s'.ev y) : ncap P s args ts = ncap P s' args ts := by
  unfold ncap
  split
  · rename_i x t
    rw [h x (by simp)]
  · rfl
theorem seeds_same {x : NC} (h : ∀ n ∈ names x, s.reg n = s'.reg n) : seeds s x = seeds s' x := by
  unfold seeds
  split
  · rfl
  · rfl
  · rename_i r o n
    rw [h r (by simp [names])]
  · rfl
theorem nmm_same {less : Bool} {args : List Operand} (h : ∀ y ∈ args, s.ev y = s'.ev y) : nmm less s args = nmm less s' args := by
  unfold nmm
  split
  · rename_i x y
    rw [h x (by simp), h y (by simp)]
  · rfl
theorem parts_same {parts : Array (Nat × Operand)} (h : ∀ y ∈ parts.toList.map (·.2), s.ev y = s'.ev y) : (parts.toList.map fun (i, x) => (i, s.ev x)) = (parts.toList.map fun (i, x) => (i, s'.ev x)) := by
  apply List.map_congr_left
  rintro ⟨i, x⟩ hx
  simp only [Prod.mk.injEq, true_and]
  exact h x (List.mem_map.2 ⟨(i, x), hx, rfl⟩)

/-- What a light operation gives hangs on its operands, and on the regions that these name. -/
theorem light_same {op : Op} (hev : ∀ x ∈ op.operands.toList, s.ev x = s'.ev x) (hrg : still op = true ∨ ∀ n ∈ op.operands.toList.flatMap (fun x => (s.ev x).names), s.reg n = s'.reg n) : light P gl s op = light P gl s' op := by
  have hn : ∀ (x : Operand) (y : NC), x ∈ op.operands.toList → (s.ev x).nc = some y → (still op = true ∨ ∀ n ∈ names y, s.reg n = s'.reg n) := by
    intro x y hx hy
    refine hrg.imp id fun h n hm => h n ?_
    rw [List.mem_flatMap]
    exact ⟨x, hx, by rw [nc_names hy]; exact hm⟩
  cases op <;> simp only [Op.operands] at hev hn <;> simp only [light]
  case load t a =>
    rw [← hev a (by simp)]
    split
    · rename_i x _ hx
      rcases hn a x (by simp) hx with h | h
      · cases a <;> simp [still] at h
        rename_i g
        have : x = .g g := by simp only [St.ev, NS.nc, Option.some.injEq] at hx; exact hx.symm
        subst this
        rfl
      · rw [nload_same h]
    · rfl
  case store t a x =>
    rw [← hev a (by simp), ← hev x (by simp)]
    split
    · rename_i y z _ hy hz
      rcases hn a y (by simp) hy with h | h
      · simp [still] at h
      · rw [nstore_same h]
    · rfl
  case indexAddr t x ix =>
    rw [← hev x (by simp), ← hev ix (by simp)]
    split
    · rename_i y z hy hz
      rcases hn x y (by simp) hy with h | h
      · simp [still] at h
      · rw [nindexAddr_same h]
    · rfl
  case sliceToArrayPointer t x => rw [← hev x (by simp)]
  case slice t x lo hi m =>
    cases m with
    | some m => rfl
    | none =>
      simp only []
      rw [← hev x (by simp), ← ofOpt_same (x := lo) (fun y hy => hev y (by cases lo <;> simp_all)), ← ofOpt_same (x := hi) (fun y hy => hev y (by cases hi <;> simp_all))]
      split
      · rename_i y l u hy hl hu
        rcases hn x y (by simp) hy with h | h
        · simp [still] at h
        · rw [nslice_same h]
      · rfl
  case call c =>
    split
    · rw [nlen_same fun y hy => hev y (by simp [Call.operands]; right; simpa using hy)]
    · rw [ncap_same fun y hy => hev y (by simp [Call.operands]; right; simpa using hy)]
    · rw [nmm_same fun y hy => hev y (by simp [Call.operands]; right; simpa using hy)]
    · rw [nmm_same fun y hy => hev y (by simp [Call.operands]; right; simpa using hy)]
    · rfl
  case makeFunc fn first caps =>
    cases fn
    case func f =>
      have e : caps.toList.map s.ev = caps.toList.map s'.ev := List.map_congr_left fun x hx => hev x (by simp; right; simpa using hx)
      simp only [e]
    all_goals rfl
  case typeAssert x xt asserted ok =>
    cases ok
    · rfl
    · simp only []
      rw [← hev x (by simp)]
  case build t parts => rw [parts_same (fun y hy => hev y (by simpa using hy))]
  case buildSlice t n parts => rw [parts_same (fun y hy => hev y (by simpa using hy))]
  all_goals first
    | rfl
    | (simp only [← hev _ (by simp : _ ∈ #[_].toList)]; done)
    | (simp_all; done)

theorem reach_same (h : ∀ n, s.reg n = s'.reg n) : ∀ (k : Nat) (l acc : List Nat), reach s k l acc = reach s' k l acc
  | 0, _, _ => rfl
  | k + 1, [], _ => rfl
  | k + 1, n :: l, acc => by
    simp only [reach, h n]
    split
    · exact reach_same h k _ _
    · split
      · exact reach_same h k _ _
      · exact reach_same h k _ _
theorem argNC_same {passed : List Nat} {t : Option TypeId} {x : NC} (h : ∀ n ∈ names x, s.reg n = s'.reg n) : argNC P s passed t x = argNC P s' passed t x := by
  unfold argNC
  split
  · split
    · rfl
    · rw [els_same h]
  · rfl
  · rfl
theorem argL_same {passed : List Nat} {t : Option TypeId} : ∀ {xs : List NC}, (∀ n ∈ xs.flatMap names, s.reg n = s'.reg n) → argL (argNC P s passed t) xs = argL (argNC P s' passed t) xs
  | [], _ => rfl
  | x :: xs, h => by
    simp only [argL]
    rw [argNC_same (fun n hn => h n (by simp [hn])), argL_same (fun n hn => h n (by simp only [List.flatMap_cons, List.mem_append]; exact .inr hn))]
theorem argNV_same {passed : List Nat} {t : Option TypeId} {x : NV} (h : ∀ n ∈ x.names, s.reg n = s'.reg n) : argNV P s passed t x = argNV P s' passed t x := by
  cases x with
  | c x => simp only [argNV]; rw [argNC_same (fun n hn => h n (by simp [NV.names, NV.cells, hn]))]
  | ag xs => simp only [argNV]; rw [argL_same (xs := xs) (fun n hn => h n hn)]
theorem argsNV_same {passed : List Nat} : ∀ {ts : List TypeId} {xs : List NV}, (∀ n ∈ xs.flatMap NV.names, s.reg n = s'.reg n) → argsNV P s passed ts xs = argsNV P s' passed ts xs
  | _, [], _ => rfl
  | ts, x :: xs, h => by
    simp only [argsNV]
    rw [argNV_same (fun n hn => h n (by simp only [List.flatMap_cons, List.mem_append]; exact .inl hn)), argsNV_same (fun n hn => h n (by simp only [List.flatMap_cons, List.mem_append]; exact .inr hn))]

theorem seeds_all {args : List NV} (h : ∀ n ∈ args.flatMap NV.names, s.reg n = s'.reg n) : args.flatMap (fun x => x.cells.flatMap (seeds s)) = args.flatMap (fun x => x.cells.flatMap (seeds s')) := by
  induction args with
  | nil => rfl
  | cons a l ih =>
    simp only [List.flatMap_cons]
    rw [ih fun n hn => h n (by rw [List.flatMap_cons, List.mem_append]; exact .inr hn)]
    congr 1
    have h' : ∀ n ∈ a.cells.flatMap names, s.reg n = s'.reg n := fun n hn => h n (by rw [List.flatMap_cons, List.mem_append]; exact .inl hn)
    generalize a.cells = cs at h'
    induction cs with
    | nil => rfl
    | cons c cs ihc =>
      simp only [List.flatMap_cons]
      rw [ihc fun n hn => h' n (by rw [List.flatMap_cons, List.mem_append]; exact .inr hn), seeds_same fun n hn => h' n (by rw [List.flatMap_cons, List.mem_append]; exact .inl hn)]
theorem ncall_same {X : Cx} {f : FuncId} {args : List NV} {nm : Nat} (h : ∀ n, s.reg n = s'.reg n) : ncall X f args nm s = ncall X f args nm s' := by
  unfold ncall ncallP
  simp only [reach_same h, seeds_all (s := s) (s' := s') (args := args) (fun n _ => h n), argsNV_same (P := X.P) (fun n _ => h n), h]
theorem ncall_same2 {X : Cx} {f : FuncId} {args : List NV} {nm : Nat} (h : ∀ n ∈ args.flatMap NV.names, s.reg n = s'.reg n) (h0 : args.flatMap (fun x => x.cells.flatMap (seeds s)) = []) : ncall X f args nm s = ncall X f args nm s' := by
  unfold ncall ncallP
  have e : ∀ s : St, reach s 64 [] [] = [] := fun s => rfl
  have h1 := (seeds_all h).symm.trans h0
  simp only [h0, h1, e, argsNV_same (P := X.P) h, mapL]
theorem nappend_same {t : TypeId} {x y : NC} {nm : Nat} (h : ∀ n, s.reg n = s'.reg n) : nappend P s t x y nm = nappend P s' t x y nm := by
  unfold nappend
  have e : ∀ a, els s a = els s' a := fun a => els_same fun n _ => h n
  simp only [h, e]

theorem nzeros_same {t u : TypeId} {x y : NC} {nm : Nat} (h : ∀ n, s.reg n = s'.reg n) : nzeros P s t u x y nm = nzeros P s' t u x y nm := by
  unfold nzeros
  have e : ∀ a, els s a = els s' a := fun a => els_same fun n _ => h n
  simp only [h, e]
theorem allNV_names : ∀ {l : List NS} {xs : List NV}, allNV l = some xs → l.flatMap NS.names = xs.flatMap NV.names ∧ l.flatMap (NS.seeds s) = xs.flatMap (fun x => x.cells.flatMap (seeds s))
  | [], xs, h => by simp [allNV] at h; subst h; exact ⟨rfl, rfl⟩
  | x :: l, xs, h => by
    simp only [allNV] at h
    split at h
    · rename_i a b h1 h2
      cases h
      obtain ⟨h3, h4⟩ := allNV_names h2
      have h5 : x = .v a := by
        unfold NS.nv at h1
        split at h1
        · cases h1; rfl
        · cases h1
      subst h5
      simp only [List.flatMap_cons, h3, h4]
      exact ⟨rfl, rfl⟩
    · cases h

/-- What an operation gives hangs on its operands, and on regions: all of them, or those that the operands name. -/
theorem deff_same {X : Cx} {op : Op} {nm : Nat} (hev : ∀ x ∈ op.operands.toList, s.ev x = s'.ev x)
    (hrg : still op = true ∨ (∀ n, s.reg n = s'.reg n) ∨
      (mild X.P op = true ∧ (isCall op = true → op.operands.toList.flatMap (fun x => (s.ev x).seeds s) = []) ∧ ∀ n ∈ op.operands.toList.flatMap (fun x => (s.ev x).names), s.reg n = s'.reg n)) :
    deff X op nm s = deff X op nm s' := by
  have hl : light X.P X.glob s op = light X.P X.glob s' op := by
    refine light_same hev ?_
    rcases hrg with h | h | ⟨-, -, h⟩
    · exact .inl h
    · exact .inr fun n _ => h n
    · exact .inr h
  unfold deff
  split
  · rename_i bop t x y yt
    simp only [Op.operands] at hev
    have e : nilUnk X.P s bop t x y = nilUnk X.P s' bop t x y := by unfold nilUnk; rw [hev x (by simp), hev y (by simp)]
    rw [e]
    split
    · rfl
    · rw [hl]
  · rename_i c a b
    simp only [Op.operands] at hev
    rw [hev c (by simp), hev a (by simp), hev b (by simp)]
  · rename_i c
    have hargs : c.args.toList.map s.ev = c.args.toList.map s'.ev := List.map_congr_left fun x hx => hev x (by simp [Op.operands, Call.operands]; right; simpa using hx)
    split
    · rename_i f hcal
      have hf : s.ev f = s'.ev f := hev f (by simp [Op.operands, Call.operands, hcal])
      rw [← hf, ← hargs]
      split
      · rename_i g cap l hg hl'
        rcases hrg with h | h | ⟨hm, hp, h⟩
        · unfold still at h
          split at h <;> first | (cases h; done) | (simp_all; done)
        · exact ncall_same h
        · have hp := hp (by
            unfold isCall
            split
            · rfl
            · rename_i hno
              exfalso
              obtain ⟨cal, a1, a2⟩ := c
              simp only at hcal
              subst hcal
              exact hno _ _ _ rfl)
          obtain ⟨e1, e2⟩ := allNV_names hl'
          have hops : (Op.call c).operands.toList = f :: c.args.toList := by simp [Op.operands, Call.operands, hcal]
          have hcap : cap = [] := by
            rw [hops, List.flatMap_cons, hg] at hp
            have := (List.append_eq_nil_iff.1 hp).1
            simpa [NS.seeds, NV.cells, seeds] using this
          subst hcap
          refine ncall_same2 (fun n hn => h n ?_) ?_
          · rw [hops, List.flatMap_cons, List.mem_append]
            right
            rw [List.map_nil, List.append_nil, ← e1, List.flatMap_map] at hn
            exact hn
          · rw [List.map_nil, List.append_nil, ← e2, List.flatMap_map]
            rw [hops, List.flatMap_cons] at hp
            exact (List.append_eq_nil_iff.1 hp).2
      · rfl
    · rename_i hcal
      split
      · rename_i x y t u hca hct
        have hx : s.ev x = s'.ev x := hev x (by simp [Op.operands, Call.operands, hcal]; exact Array.mem_toList_iff.1 (by rw [hca]; simp))
        have hy : s.ev y = s'.ev y := hev y (by simp [Op.operands, Call.operands, hcal]; exact Array.mem_toList_iff.1 (by rw [hca]; simp))
        rw [← hx, ← hy]
        split
        · split
          · rcases hrg with h | h | ⟨hm, -, -⟩
            · unfold still at h
              split at h <;> first | (cases h; done) | (simp_all; done)
            · exact nappend_same h
            · unfold mild at hm
              split at hm <;> first | (cases hm; done) | (simp_all; done)
          · rfl
        · split
          · rcases hrg with h | h | ⟨hm, -, -⟩
            · unfold still at h
              split at h <;> first | (cases h; done) | (simp_all; done)
            · exact nzeros_same h
            · unfold mild at hm
              split at hm <;> first | (cases hm; done) | (simp_all; done)
          · rfl
      · rfl
    · rw [hl]
  · rename_i src dst x
    have hx : s.ev x = s'.ev x := hev x (by simp [Op.operands])
    have hb : bytesOf X.P s src dst x = bytesOf X.P s' src dst x := by
      unfold bytesOf
      rw [← hx]
      split
      · rename_i r off len hv
        have he : els s (.h r off len) = els s' (.h r off len) := by
          apply els_same
          intro n hn
          rcases hrg with h | h | ⟨-, -, h⟩
          · simp [still] at h
          · exact h n
          · refine h n (List.mem_flatMap.2 ⟨x, by simp [Op.operands], ?_⟩)
            rw [hv]
            simpa [NS.names, NV.names, NV.cells] using hn
        rw [he]
      · rfl
      · rfl
    rw [← hb, hl]
  · rename_i t x
    have hx : s.ev x = s'.ev x := hev x (by simp [Op.operands])
    have hb : sliceArr X.P s t x = sliceArr X.P s' t x := by
      unfold sliceArr
      rw [← hx]
      split
      · rename_i r n e hv _
        have he : s.reg r = s'.reg r := by
          rcases hrg with h | h | ⟨-, -, h⟩
          · simp [still] at h
          · exact h r
          · refine h r (List.mem_flatMap.2 ⟨x, by simp [Op.operands], ?_⟩)
            rw [hv]
            simp [NS.names, NV.names, NV.cells, names]
        rw [he]
      · rfl
    rw [← hb, hl]
  · rw [hl]
theorem deff_store_same {X : Cx} {t : TypeId} {a v : Operand} {nm : Nat} (hev : ∀ x ∈ (Op.store t a v).operands.toList, s.ev x = s'.ev x)
    (hrg : ∀ n ∈ (Op.store t a v).operands.toList.flatMap (fun x => (s.ev x).names), s.reg n = s'.reg n) : deff X (.store t a v) nm s = deff X (.store t a v) nm s' := by
  have hl := light_same (P := X.P) (gl := X.glob) hev (.inr hrg)
  show (light X.P X.glob s (.store t a v)).eff nm = (light X.P X.glob s' (.store t a v)).eff nm
  rw [hl]
end

end Go.Nx
