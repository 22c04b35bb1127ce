/-
  The engine, part 6: stores.
-/
import Derived.Test.YtnhadghddkgjdaaEng5
namespace Go.Nx
open Go

theorem splice_length {α : Type} (xs : List α) (o : Nat) (ys : List α) (h : o + ys.length ≤ xs.length) : (splice xs o ys).length = xs.length := by
  simp only [splice, List.length_append, List.length_take, List.length_drop]; omega
theorem splice_append {α : Type} (xs zs : List α) (o : Nat) (ys : List α) (h : o + ys.length ≤ xs.length) : splice (xs ++ zs) o ys = splice xs o ys ++ zs := by
  simp only [splice]
  rw [List.take_append_of_le_length (by omega), List.drop_append_of_le_length h]
  simp
theorem splice_one {α : Type} (xs : List α) (o : Nat) (y : α) (h : o < xs.length) : splice xs o [y] = xs.set o y := by
  simp only [splice, List.length_singleton]
  rw [List.set_eq_take_append_cons_drop, if_pos h]; simp
theorem R2.splice {α β : Type} {R : α → β → Prop} {l : List α} {m : List β} (h : R2 R l m) (o : Nat) {a : List α} {b : List β} (r : R2 R a b) : R2 R (Nx.splice l o a) (Nx.splice m o b) := by
  unfold Nx.splice
  rw [r.length]
  exact ((h.take _).append r).append (h.drop _)
theorem setI_eq (xs : List Int) (i : Nat) (v : Int) : ∀ j, setI xs (j + i) v j = xs.set i v := by
  induction xs generalizing i with
  | nil => intro j; simp [setI]
  | cons x xs ih =>
    intro j
    cases i with
    | zero =>
      have : ∀ (l : List Int) (a b : Nat), a < b → setI l a v b = l := by
        intro l
        induction l with
        | nil => intro a b _; rfl
        | cons y l ihl =>
          intro a b hab
          have hne : (a == b) = false := by simp; omega
          rw [setI, hne, ihl a (b + 1) (by omega)]
          rfl
      rw [setI, this xs (j + 0) (j + 1) (by omega)]
      simp
    | succ i =>
      have hne : (j + (i + 1) == j) = false := by simp
      have e : j + (i + 1) = (j + 1) + i := by omega
      rw [setI, hne, e, ih i (j + 1)]
      rfl
theorem setI_set (xs : List Int) (i : Nat) (v : Int) : setI xs i v 0 = xs.set i v := by simpa using setI_eq xs i v 0

theorem rowFrom_ext {α : Type} (f : CK → Sc → α) (ks : List CK) (a b : List Sc) (j : Nat) (h : ∀ c, c < ks.length → a.getD (j + c) (.i 0) = b.getD (j + c) (.i 0)) : rowFrom f ks a j = rowFrom f ks b j := by
  induction ks generalizing j with
  | nil => rfl
  | cons k ks ih =>
    simp only [rowFrom]
    have h0 := h 0 (by simp)
    simp only [Nat.add_zero] at h0
    rw [h0, ih (j + 1) (fun c hc => by have := h (c + 1) (by simp; omega); rw [show j + 1 + c = j + (c + 1) by omega]; exact this)]
theorem setRow_getD (ks : List CK) (row : List Sc) (c : Nat) (z : Sc) (j : Nat) (hj : j < ks.length) : (setRow ks row c z).getD j (.i 0) = if j = c then z else row.getD j (.i 0) := by
  simp [setRow, List.getD_eq_getElem?_getD, hj]
theorem rowsV_setOne (ks : List CK) (xs : List (List Sc)) (i c : Nat) (k : CK) (z : Sc) (h : i < xs.length) (hk : ks[c]? = some k) :
    rowsV ks (xs.set i (setRow ks (xs.getD i []) c z)) = (rowsV ks xs).set (i * ks.length + c) (ckVal k z) := by
  have hc : c < ks.length := (List.getElem?_eq_some_iff.1 hk).1
  apply List.ext_getElem?
  intro m
  by_cases hm : m < xs.length * ks.length
  · have hw : 0 < ks.length := by omega
    have hi' : m / ks.length < xs.length := (Nat.div_lt_iff_lt_mul hw).2 hm
    have hc' : m % ks.length < ks.length := Nat.mod_lt _ hw
    have em : m / ks.length * ks.length + m % ks.length = m := by rw [Nat.mul_comm]; exact Nat.div_add_mod m ks.length
    have hk' : ks[m % ks.length]? = some ks[m % ks.length] := List.getElem?_eq_getElem hc'
    have g1 := rowsV_get ks xs (m / ks.length) (m % ks.length) _ hi' hk'
    have g2 := rowsV_get ks (xs.set i (setRow ks (xs.getD i []) c z)) (m / ks.length) (m % ks.length) _ (by simpa using hi') hk'
    rw [em] at g1 g2
    rw [g2, List.getElem?_set]
    by_cases e : i * ks.length + c = m
    · have ei : m / ks.length = i := by
        rw [← e, Nat.add_comm, Nat.add_mul_div_right _ _ hw, Nat.div_eq_of_lt hc]; simp
      have ec : m % ks.length = c := by rw [← e, Nat.add_comm, Nat.add_mul_mod_self_right, Nat.mod_eq_of_lt hc]
      rw [if_pos e, if_pos (by rw [rowsV_length]; omega)]
      have hkk : ks[m % ks.length] = k := by
        have : ks[m % ks.length]? = some k := by rw [ec]; exact hk
        rw [hk'] at this; exact Option.some.inj this
      rw [hkk]
      have : (xs.set i (setRow ks (xs.getD i []) c z)).getD (m / ks.length) [] = setRow ks (xs.getD i []) c z := by
        simp [List.getD_eq_getElem?_getD, ei, h]
      rw [this, setRow_getD ks _ c z _ hc', if_pos ec]
    · rw [if_neg e, g1]
      congr 2
      by_cases ei : m / ks.length = i
      · have ec : m % ks.length ≠ c := by intro ec; exact e (by rw [← ei, ← ec]; exact em)
        have : (xs.set i (setRow ks (xs.getD i []) c z)).getD (m / ks.length) [] = setRow ks (xs.getD i []) c z := by
          simp [List.getD_eq_getElem?_getD, ei, h]
        rw [this, setRow_getD ks _ c z _ hc', if_neg ec, ei]
      · have : (xs.set i (setRow ks (xs.getD i []) c z)).getD (m / ks.length) [] = xs.getD (m / ks.length) [] := by
          simp [List.getD_eq_getElem?_getD, Ne.symm ei]
        rw [this]
  · rw [List.getElem?_eq_none (by rw [rowsV_length, List.length_set]; omega), List.getElem?_eq_none (by rw [List.length_set, rowsV_length]; omega)]

theorem R2.one {Γ : Env} {x : NC} {l : List Value} (h : R2 (CR Γ) [x] l) : ∃ v, l = [v] ∧ CR Γ x v := by
  cases h with
  | cons a b => cases b; exact ⟨_, rfl, a⟩

theorem nstore_sound {P : Program} {s : St} {Γ : Env} {w : World} {t : TypeId} {x : NC} {y : NV} {v u : Value} {c : List Bool} {n : Nat} {g' : Reg} {i : TypeInfo} (hw : WRel Γ s.rg w) (hi : P.info? t = some i)
    (hx : CR Γ x v) (hy : VRel Γ y u) (h : nstore P s t x y = some (c, n, g')) (hc : allT c) :
    ∃ w', (Instr.storeAt t v u).run P w = .ok () w' ∧ WRel Γ (putAt s.rg n (some g')) w' ∧ Wd w w' := by
  have hyc := hy.cells
  have hlen := hyc.length
  unfold nstore at h
  split at h
  case isFalse => cases h
  rename_i hsz
  split at h
  case h_2 => cases h
  rename_i r ii cc
  obtain ⟨⟨B, hB, rfl⟩, -⟩ := hx
  split at h
  case h_2 => cases h
  rename_i g hg
  have hgl := (reg_eq s r g).1 hg
  obtain ⟨B', hB', cs, hcs, hst, hszB, hbody⟩ := hw.live r g hgl
  rw [hB] at hB'; cases hB'
  -- what is wanted of the place and the new body
  suffices H : ii * g.st + cc + u.cells.toList.length ≤ cs.size ∧ n = r ∧ g'.st = g.st ∧ g'.e = g.e ∧ BodyRel Γ g.st g'.body (splice cs.toList (ii * g.st + cc) u.cells.toList) by
    obtain ⟨hfit, rfl, hst', he', hb'⟩ := H
    have hrun := run_storeCells_at P B.blk (ii * g.st + cc) g.e u.cells.toList 0 cs w hcs (by simpa using hfit) hyc.oneCell
    simp only [Nat.add_zero] at hrun
    have hgr : RegRel Γ g' B (w.setRow B.blk (splice cs.toList (ii * g.st + cc) u.cells.toList).toArray) := by
      refine ⟨_, by rw [he']; exact setRow_heap w _ _ _ _ _ hcs, by rw [hst']; exact hst, ?_, ?_⟩
      · simp only [List.size_toArray]
        rw [splice_length _ _ _ (by simpa using hfit)]
        simpa using hszB
      · simp only [hst']; exact hb'
    refine ⟨w.setRow B.blk (splice cs.toList (ii * g.st + cc) u.cells.toList).toArray, ?_, hw.change ⟨g, hgl⟩ hB (fun b hb => setRow_other w _ _ _ hb) hgr, ⟨rfl, rfl, rfl, by simp⟩⟩
    · have h1 : u.cells.size = sizeT P t := by rw [← hsz, hlen]; simp
      simp only [Instr.storeAt, Instr.sureAddr, storeVar, Sem.run_bind, Sem.run_pure, Result.andThen_ok, run_sizeOf hi, h1, ne_eq, not_true, if_false, hst]
      exact hrun
  split at h
  · rename_i xs hb
    rw [hb] at hbody
    obtain ⟨l1, l2, hl, hr⟩ := hbody
    split at h
    case isFalse => cases h
    rename_i hfit
    cases h
    have hl1 := hr.length
    have hcsz : cs.size = l1.length + l2.length := by rw [← Array.length_toList, hl]; simp
    refine ⟨by omega, rfl, rfl, rfl, splice l1 (ii * g.st + cc) u.cells.toList, l2, ?_, hr.splice _ hyc⟩
    rw [hl, splice_append _ _ _ _ (by omega)]
  · rename_i k xs hb
    rw [hb] at hbody
    obtain ⟨h1, l2, hl⟩ := hbody
    have hcsz : cs.size = xs.length + l2.length := by rw [← Array.length_toList, hl]; simp
    split at h
    case h_2 => cases h
    split at h
    · rename_i k' m
      split at h
      case isFalse => cases h
      rename_i hk
      cases h
      subst hk
      have hii : ii < xs.length := by simpa [allT] using hc
      obtain ⟨z, hz, hz1⟩ := R2.one hyc
      have hz2 : z = .int k m := hz1.1
      rw [hz, hz2, h1]
      simp only [List.length_singleton]
      refine ⟨by omega, trivial, trivial, trivial, rfl, l2, ?_⟩
      rw [hl, splice_append _ _ _ _ (by simp; omega), splice_one _ _ _ (by simp; omega), setI_set]
      simp
    · cases h
    · rename_i ys
      split at h
      case h_2 => cases h
      rename_i l hi0
      split at h
      case isFalse => cases h
      rename_i hll
      cases h
      have hv := toInts_vals hi0 hyc
      rw [hv]
      simp only [List.length_map, Nat.zero_mul, Nat.add_zero]
      refine ⟨by omega, trivial, trivial, trivial, h1, l2, ?_⟩
      rw [hl]
      simp [splice, hll]
  · rename_i ks xs hb
    rw [hb] at hbody
    obtain ⟨h1, h0, l2, hl⟩ := hbody
    have hcsz : cs.size = xs.length * ks.length + l2.length := by rw [← Array.length_toList, hl]; simp [rowsV_length]
    split at h
    · rename_i y'
      split at h
      case h_2 => cases h
      rename_i k hk
      split at h
      case h_2 => cases h
      rename_i z hz
      cases h
      have hii : ii < xs.length := by simpa [allT] using hc
      have hcc : cc < ks.length := (List.getElem?_eq_some_iff.1 hk).1
      obtain ⟨z', hz', hz1⟩ := R2.one hyc
      have hz2 := toSc_val hz hz1
      have hlt : ii * ks.length + cc < xs.length * ks.length := by
        have : (ii + 1) * ks.length ≤ xs.length * ks.length := Nat.mul_le_mul_right _ hii
        rw [Nat.succ_mul] at this; omega
      rw [hz', hz2, h1]
      simp only [List.length_singleton]
      refine ⟨by omega, trivial, trivial, trivial, rfl, h0, l2, ?_⟩
      rw [hl, splice_append _ _ _ _ (by rw [rowsV_length]; simp; omega), splice_one _ _ _ (by rw [rowsV_length]; omega), rowsV_setOne ks xs ii cc k z hii hk]
    · rename_i ys
      split at h
      case h_2 => cases h
      split at h
      · rename_i hyl
        split at h
        case h_2 => cases h
        rename_i row hrow
        cases h
        have hii : ii < xs.length := by simpa [allT] using hc
        have hv := toRow_vals hrow hyc
        have hle : (ii + 1) * ks.length ≤ xs.length * ks.length := Nat.mul_le_mul_right _ hii
        rw [Nat.succ_mul] at hle
        rw [hv, h1]
        simp only [rowVals_length, Nat.add_zero]
        refine ⟨by omega, trivial, trivial, trivial, rfl, h0, l2, ?_⟩
        rw [hl, splice_append _ _ _ _ (by rw [rowsV_length, rowVals_length]; omega), rowsV_set ks xs ii row hii]
      · split at h
        case h_2 => cases h
        rename_i rows hrows
        cases h
        obtain ⟨hv, hn⟩ := toRows_vals hrows hyc
        rw [hv]
        simp only [Nat.zero_mul, Nat.add_zero]
        have hll : (rowsV ks rows).length = (rowsV ks xs).length := by rw [rowsV_length, rowsV_length, hn]
        refine ⟨by rw [hll, rowsV_length]; omega, trivial, trivial, trivial, h1, h0, l2, ?_⟩
        rw [hl]
        simp [splice, hll]

end Go.Nx
