/-
  The engine, part 8: slices of slices, indexes of values, structs and slices that are built, slices that are made.
-/
import Derived.Test.YtnhadghddkgjdaaEng7
namespace Go.Nx
open Go

theorem toNat_le_iff {n : Int} {m : Nat} (h : n ≤ m) : n.toNat ≤ m := by omega

/-! ### slice expressions -/
/-- What a bound comes to. -/
def BRel (Γ : Env) : Option NC → Option Value → Prop
  | none, v => v = none
  | some x, v => ∃ u, v = some u ∧ CR Γ x u
theorem sliceB_sound {P : Program} {w : World} {Γ : Env} {isS : Bool} {len cap : Nat} {lo hi : Option NC} {vl vh : Option Value} {c : List Bool} {a b : Nat} (hl : BRel Γ lo vl) (hh : BRel Γ hi vh)
    (hlc : len ≤ cap) (h : sliceB len lo hi = some (c, a, b)) (hc : allT c) :
    (Instr.sliceBounds isS len cap vl vh none).run P w = .ok (a, b, cap) w ∧ a ≤ b ∧ b ≤ len := by
  unfold sliceB at h
  split at h <;> try (cases h; done)
  · cases h
    cases hl; cases hh
    exact ⟨by simp [Instr.sliceBounds], by omega, by omega⟩
  · rename_i k n
    cases h
    cases hl
    obtain ⟨u, rfl, rfl, -⟩ := hh
    obtain ⟨h0, h1⟩ := allT_two hc
    refine ⟨?_, by omega, by omega⟩
    have h2 : n ≤ cap := by omega
    simp [Instr.sliceBounds, Instr.sliceBound, asIntOf, h0, h2]
  · rename_i k n
    cases h
    cases hh
    obtain ⟨u, rfl, rfl, -⟩ := hl
    obtain ⟨h0, h1⟩ := allT_two hc
    refine ⟨?_, by omega, by omega⟩
    simp [Instr.sliceBounds, Instr.sliceBound, asIntOf, h0, h1]
  · rename_i k m k' n
    cases h
    obtain ⟨u, rfl, rfl, -⟩ := hl
    obtain ⟨u, rfl, rfl, -⟩ := hh
    have hc' : 0 ≤ m ∧ m ≤ n ∧ n ≤ len := by simpa [allT] using hc
    obtain ⟨h0, h1, h2⟩ := hc'
    refine ⟨?_, by omega, by omega⟩
    have h3 : 0 ≤ n := by omega
    have h4 : n ≤ cap := by omega
    have h5 : (n.toNat : Int) = n := Int.toNat_of_nonneg h3
    simp [Instr.sliceBounds, Instr.sliceBound, asIntOf, h0, h3, h4, h1, h5]

theorem run_slice_gen {P : Program} {w : World} {t e : TypeId} {i : TypeInfo} {a : Option Addr} {len cap l h : Nat} {vl vh : Option Value} (hu : P.underlying t = some (.slice e)) (hi : P.info? e = some i)
    (hb : (Instr.sliceBounds true len cap vl vh none).run P w = .ok (l, h, cap) w) :
    (Instr.sliceAt t (.slice a len cap) vl vh none).run P w = .ok (.slice (if cap = l then a else a.map (·.add (l * sizeT P e))) (h - l) (cap - l)) w := by
  simp [Instr.sliceAt, run_underlying hu, Instr.slice, hb, run_sizeOf hi]

theorem ints_sub {xs : List Int} {k : IntKind} {a b j : Nat} {v : Value} (h : (((xs.take b).drop a).map (Value.int k))[j]? = some v) : (xs.map (Value.int k))[a + j]? = some v := by
  rw [List.map_drop, List.map_take, List.getElem?_drop, List.getElem?_take] at h
  split at h
  · exact h
  · cases h
theorem rowsV_sub {ks : List CK} {xs : List (List Sc)} {a b j : Nat} {v : Value} (h : (rowsV ks ((xs.take b).drop a))[j]? = some v) : (rowsV ks xs)[a * ks.length + j]? = some v := by
  rw [← rowsV_drop, ← rowsV_take, List.getElem?_drop, List.getElem?_take] at h
  split at h
  · exact h
  · cases h
theorem RoRow.shift {Γ : Env} {b o d : Nat} {vs vs' : List Value} (h : RoRow Γ b o vs) (hs : ∀ (j : Nat) (v : Value), vs'[j]? = some v → vs[d + j]? = some v) : RoRow Γ b (o + d) vs' := by
  obtain ⟨h1, c, e, fz, h2, h3⟩ := h
  exact ⟨h1, c, e, fz, h2, fun j x hj => by rw [Nat.add_assoc]; exact h3 _ _ (hs j x hj)⟩
theorem toNat_add (a b : Nat) : a + b = b + a := Nat.add_comm a b

theorem nslice_sound {P : Program} {s : St} {Γ : Env} {w : World} {t : TypeId} {x : NC} {v : Value} {lo hi : Option NC} {vl vh : Option Value} {c : List Bool} {r : NS} (hw : WRel Γ s.rg w)
    (hx : CR Γ x v) (hl : BRel Γ lo vl) (hh : BRel Γ hi vh) (h : nslice P s t x lo hi = some (c, r)) (hc : allT c) :
    ∃ z, (Instr.sliceAt t v vl vh none).run P w = .ok z w ∧ SRel Γ r z := by
  unfold nslice at h
  split at h
  · rename_i e r' off len hu
    obtain ⟨⟨B, o, cap, hB, rfl, hlc, hcm, hcap⟩, -⟩ := hx
    split at h
    case h_2 => cases h
    rename_i g c' a b hg hsl
    split at h
    case isFalse => cases h
    rename_i hsz
    cases h
    obtain ⟨B', hB', cs, hcs, hst, -⟩ := hw.live r' g ((reg_eq s r' g).1 hg)
    rw [hB] at hB'; cases hB'
    obtain ⟨ei, hei, -⟩ := info_of_size (P := P) (t := e) (by omega)
    obtain ⟨hb, hab, hbl⟩ := sliceB_sound (P := P) (w := w) (isS := true) hl hh hlc hsl hc
    refine ⟨_, run_slice_gen hu hei hb, ⟨⟨B, if cap = a then o else o + a * sizeT P e, cap - a, hB, ?_, by omega, by omega, ?_⟩, rfl⟩⟩
    · split <;> simp [Addr.add_lit]
    · rcases hcap with ⟨rfl, h2⟩ | h0
      · by_cases hca : cap = a
        · right; omega
        · left
          rw [if_neg hca, hsz.1, ← hst]
          refine ⟨by rw [Nat.add_mul], ?_⟩
          rw [show off + a + (cap - a) = off + cap by omega]; exact h2
      · right; omega
  · rename_i e k xs hu
    obtain ⟨⟨a', cap, rfl, hlc, hro⟩, -⟩ := hx
    split at h
    case h_2 => cases h
    rename_i c' a b hsl
    split at h
    case isFalse => cases h
    rename_i hsz
    cases h
    obtain ⟨ei, hei, -⟩ := info_of_size (P := P) (t := e) (by omega)
    obtain ⟨hb, hab, hbl⟩ := sliceB_sound (P := P) (w := w) (isS := true) hl hh hlc hsl hc
    have hlen : ((xs.take b).drop a).length = b - a := by simp; omega
    refine ⟨_, run_slice_gen hu hei hb, ⟨⟨if cap = a then a' else a'.map (·.add (a * sizeT P e)), cap - a, by rw [hlen], by rw [hlen]; omega, ?_⟩, rfl⟩⟩
    by_cases he : b - a = 0
    · left; exact List.eq_nil_of_length_eq_zero (by rw [hlen]; exact he)
    · right
      rcases hro with rfl | ⟨blk, off, rfl, hro⟩
      · simp at hbl; omega
      · refine ⟨blk, off + a, ?_, hro.shift fun j v hj => ints_sub hj⟩
        rw [if_neg (by omega), hsz]; simp [Addr.add_lit]
  · rename_i e ks xs hu
    obtain ⟨⟨a', cap, rfl, hlc, hks, hro⟩, -⟩ := hx
    split at h
    case h_2 => cases h
    rename_i c' a b hsl
    split at h
    case isFalse => cases h
    rename_i hsz
    cases h
    obtain ⟨ei, hei, -⟩ := info_of_size (P := P) (t := e) (by omega)
    obtain ⟨hb, hab, hbl⟩ := sliceB_sound (P := P) (w := w) (isS := true) hl hh hlc hsl hc
    have hlen : ((xs.take b).drop a).length = b - a := by simp; omega
    refine ⟨_, run_slice_gen hu hei hb, ⟨⟨if cap = a then a' else a'.map (·.add (a * sizeT P e)), cap - a, by rw [hlen], by rw [hlen]; omega, hks, ?_⟩, rfl⟩⟩
    by_cases he : b - a = 0
    · left; exact List.eq_nil_of_length_eq_zero (by rw [hlen]; exact he)
    · right
      rcases hro with rfl | ⟨blk, off, rfl, hro⟩
      · simp at hbl; omega
      · refine ⟨blk, off + a * ks.length, ?_, hro.shift fun j v hj => rowsV_sub hj⟩
        rw [if_neg (by omega), hsz]; simp [Addr.add_lit]
  · rename_i z hu
    obtain ⟨rfl, -⟩ := hx
    split at h
    case h_2 => cases h
    rename_i c' a b hsl
    cases h
    obtain ⟨hb, hab, hbl⟩ := sliceB_sound (P := P) (w := w) (isS := false) hl hh (Nat.le_refl _) hsl hc
    exact ⟨.string (z.extract a b), by simp [Instr.sliceAt, run_underlying hu, Instr.slice, hb], ⟨rfl, rfl⟩⟩
  · rename_i e hu
    obtain ⟨rfl, -⟩ := hx
    split at h
    case h_2 => cases h
    rename_i c' a b hsl
    split at h
    case isFalse => cases h
    rename_i hsz
    cases h
    obtain ⟨ei, hei, -⟩ := info_of_size hsz
    obtain ⟨hb, hab, hbl⟩ := sliceB_sound (P := P) (w := w) (isS := true) hl hh (Nat.le_refl _) hsl hc
    have ha0 : a = 0 := by omega
    have hb0 : b = 0 := by omega
    subst ha0 hb0
    have := run_slice_gen (a := none) hu hei hb
    exact ⟨_, this, by simp; exact ⟨rfl, rfl⟩⟩
  · cases h

/-! ### indexes of values -/
theorem agInts_vals {Γ : Env} {xs : List NC} {k : IntKind} {l : List Int} {vs : List Value} (h : agInts xs = some (k, l)) (r : R2 (CR Γ) xs vs) : vs = l.map (.int k) := by
  cases xs with
  | nil => simp [agInts] at h
  | cons x xs =>
    cases x <;> simp only [agInts, reduceCtorEq] at h
    split at h
    · rename_i l' hl
      cases h
      cases r with
      | cons r1 r2 => rw [toInts_vals hl r2, show _ = _ from r1.1]; rfl
    · cases h
theorem agBools_vals {Γ : Env} : ∀ {xs : List NC} {l : List Bool} {vs : List Value}, agBools xs = some l → R2 (CR Γ) xs vs → vs = l.map .bool
  | [], l, vs, h, r => by
    cases h
    cases r
    rfl
  | x :: xs, l, vs, h, r => by
    cases x <;> simp only [agBools, reduceCtorEq] at h
    split at h
    · rename_i l' hl
      cases h
      cases r with
      | cons r1 r2 => rw [agBools_vals hl r2, show _ = _ from r1.1]; rfl
    · cases h
theorem nindex_sound {P : Program} {Γ : Env} {w : World} {t : TypeId} {x : NS} {ix : NC} {v u : Value} {c : List Bool} {r : NS}
    (hx : SRel Γ x v) (hix : CR Γ ix u) (h : nindex P t x ix = some (c, r)) (hc : allT c) : ∃ z, (Instr.index t v u).run P w = .ok z w ∧ SRel Γ r z := by
  unfold nindex at h
  split at h
  case h_2 => cases h
  rename_i k n
  obtain ⟨rfl, -⟩ := hix
  split at h
  · rename_i z hu
    obtain ⟨rfl, -⟩ := hx
    cases h
    obtain ⟨h0, h1⟩ := allT_two hc
    have h2 : n.toNat < z.size := by omega
    refine ⟨.int .u8 (byteAt z n.toNat), ?_, ⟨rfl, rfl⟩⟩
    have h3 : z[n.toNat]? = some z[n.toNat] := getElem?_pos z n.toNat h2
    have h4 : z.data.getD n.toNat 0 = z[n.toNat] := by
      have h5 : n.toNat < z.data.size := h2
      rw [Array.getD_eq_getD_getElem?, Array.getElem?_eq_getElem h5]; rfl
    simp [Instr.index, asIntOf, run_underlying hu, h0, h3, byteAt, h4]
  · rename_i len e xs hu
    obtain ⟨vs, rfl, hr⟩ := hx
    split at h
    · rename_i ha
      split at h
      case isFalse => cases h
      rename_i hsz
      cases h
      obtain ⟨h0, h1⟩ := allT_two hc
      obtain ⟨ei, hei, -⟩ := info_of_size hsz
      obtain ⟨d, hd⟩ : ∃ d, P.underlying e = some d := by
        cases hd : P.underlying e with
        | none => simp [isAggT, hd] at ha
        | some d => exact ⟨d, rfl⟩
      refine ⟨.agg ((vs.drop (n.toNat * sizeT P e)).take (sizeT P e)).toArray, ?_, ⟨_, rfl, (hr.drop _).take _⟩⟩
      simp [Instr.index, asIntOf, run_underlying hu, h0, h1, run_sizeOf hei, part, run_isAgg hd, ha]
    · rename_i ha
      split at h
      case isFalse => cases h
      rename_i hsz
      split at h
      · rename_i k' l hag
        split at h
        case isFalse => cases h
        rename_i hlen
        split at h
        case h_2 => cases h
        rename_i de hde
        cases h
        obtain ⟨h0, h1⟩ := allT_two hc
        obtain ⟨ei, hei, -⟩ := info_of_size (P := P) (t := e) (by omega)
        have hv := agInts_vals hag hr
        subst hv
        refine ⟨.int k' (l.getD n.toNat 0), ?_, ⟨rfl, rfl⟩⟩
        have h2 : n.toNat < l.length := by omega
        simp [Instr.index, asIntOf, run_underlying hu, h0, h1, run_sizeOf hei, part, run_isAgg hde, ha, hsz, List.getD_eq_getElem?_getD, h2]
      · split at h
        case h_2 => cases h
        rename_i l hag
        split at h
        case isFalse => cases h
        rename_i hlen
        split at h
        case h_2 => cases h
        rename_i de hde
        cases h
        obtain ⟨h0, h1⟩ := allT_two hc
        obtain ⟨ei, hei, -⟩ := info_of_size (P := P) (t := e) (by omega)
        have hv := agBools_vals hag hr
        subst hv
        refine ⟨.bool (l.getD n.toNat false), ?_, ⟨rfl, rfl⟩⟩
        have h2 : n.toNat < l.length := by omega
        simp [Instr.index, asIntOf, run_underlying hu, h0, h1, run_sizeOf hei, part, run_isAgg hde, ha, hsz, List.getD_eq_getElem?_getD, h2]
  · cases h

end Go.Nx
