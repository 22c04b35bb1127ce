/-
  The engine, part 23: a slice of bools that came in.
-/
import Derived.Test.YtnhadghddkgjdaaEng22
import Derived.ChangeArms
namespace Go.Nx
open Go Go.RowKit

/-- What is told of a slice of bools that came in. -/
def ArgBools (w : World) (a : Option Addr) (len cap : Nat) (xs : List Bool) : Prop :=
  (a = none ∧ len = 0 ∧ cap = 0 ∧ xs = []) ∨ ∃ x, a = some x ∧ xs.length = len ∧ len ≤ cap ∧ ∀ i < len, w.cell? (x.add i) = some (.bool (xs.getD i false))
theorem cells_one {w : World} {base : Nat} {x : Addr} {c1 : List Value} (h : w.cells? base x 1 = some c1) : ∃ c, c1 = [c] ∧ w.cell? x = some c := by
  have e0 : x.add 0 = x := by simp [Addr.add]
  unfold World.cells? at h
  split at h
  · simp only [List.range_succ, List.range_zero, List.nil_append, List.mapM_cons, List.mapM_nil, e0] at h
    cases hcc : w.cell? x with
    | none => simp [hcc] at h
    | some c => simp [hcc] at h; exact ⟨c, h.symm, rfl⟩
  · cases h
theorem bools_of {H : Type} {enc : TypeId × Value → H} {P : Program} {w : World} {base : Nat} {spare : Nat → Bool} {held : Bool} {t e : TypeId} {fuel : Nat} {a : Option Addr} {len cap : Nat} {x : DataW H × List MemPlace}
    (ht : P.underlying t = some (.slice e)) (he : P.underlying e = some .bool) (hc : P.cellsOf e = 1) (h : DataW.trod enc P w base spare held fuel t [.slice a len cap] = some x) : ∃ xs : List Bool, ArgBools w a len cap xs := by
  rcases DataW.trod_slice ht h with ⟨hcs, _⟩ | ⟨a', len', cap', elems, rest, n, _, hcs, _, _, hl, _, hlen, hel, _⟩
  · simp at hcs
    obtain ⟨rfl, rfl, rfl⟩ := hcs
    exact ⟨[], .inl ⟨rfl, rfl, rfl, rfl⟩⟩
  · simp at hcs
    obtain ⟨rfl, rfl, rfl⟩ := hcs
    refine ⟨(List.range len).map fun i => (match w.cell? (a'.add i) with | some (.bool b) => b | _ => false), .inr ⟨a', rfl, by simp, hl, fun i hi => ?_⟩⟩
    have hE := hel i hi
    rw [hc, Nat.mul_one, List.getElem?_eq_getElem (by omega : i < elems.length)] at hE
    simp only [Option.bind_eq_some_iff] at hE
    obtain ⟨c1, hc1, hy1⟩ := hE
    obtain ⟨c, rfl, hcell⟩ := cells_one hc1
    obtain ⟨b, hb, _⟩ := DataW.trod_bool he hy1
    simp at hb
    subst hb
    rw [hcell, List.getD_eq_getElem?_getD, List.getElem?_map, List.getElem?_range hi]
    simp [hcell]
def bRows (xs : List Bool) : List (List Sc) := xs.map fun x => [.b x]
theorem rowsV_b : ∀ xs : List Bool, rowsV [.b] (bRows xs) = xs.map .bool
  | [] => rfl
  | x :: xs => by
    show rowVals [.b] [.b x] ++ rowsV [.b] (bRows xs) = _
    rw [rowsV_b xs]
    rfl
theorem bools_rel {w : World} {a : Option Addr} {len cap : Nat} {xs : List Bool} (er : Nat → Option Value) (h : ArgBools w a len cap xs) : VRel (topEnv w er) (.c (.lr [.b] (bRows xs))) (.slice a len cap) := by
  have hbl : (bRows xs).length = xs.length := by simp [bRows]
  rcases h with ⟨rfl, rfl, rfl, rfl⟩ | ⟨x, rfl, hlen, hl, hcell⟩
  · exact ⟨⟨none, 0, rfl, Nat.le_refl _, by decide, .inl rfl⟩, rfl⟩
  · refine ⟨⟨some x, cap, by rw [hbl, hlen], by rw [hbl, hlen]; exact hl, by decide, ?_⟩, rfl⟩
    by_cases h0 : len = 0
    · left
      have : xs = [] := List.length_eq_zero_iff.1 (by omega)
      rw [this]; rfl
    · right
      have c0 := hcell 0 (by omega)
      have e0 : x.add 0 = x := rfl
      rw [e0] at c0
      obtain ⟨blk, off, spot⟩ := x
      unfold World.cell? at c0
      split at c0
      · rename_i c e fz hb
        have hsp : spot = none := by
          cases spot with
          | none => rfl
          | some n => simp at c0
        subst hsp
        refine ⟨blk, off, rfl, ?_, c, e, fz, hb, fun j u hj => ?_⟩
        · have : blk < w.heap.size := by
            rw [Array.getElem?_eq_some_iff] at hb
            exact hb.1
          simpa [topEnv] using this
        · rw [rowsV_b, List.getElem?_map] at hj
          have hjl : j < xs.length := by
            apply Classical.byContradiction
            intro hn
            rw [List.getElem?_eq_none (by omega)] at hj
            simp at hj
          have cj := hcell j (by omega)
          rw [List.getElem?_eq_getElem hjl] at hj
          simp only [Option.map_some, Option.some.injEq] at hj
          rw [List.getD_eq_getElem?_getD, List.getElem?_eq_getElem hjl] at cj
          simp only [Option.getD_some] at cj
          rw [hj] at cj
          unfold World.cell? Addr.add at cj
          by_cases hj0 : j = 0
          · subst hj0
            rw [if_pos rfl] at cj
            simp only [hb] at cj
            simpa using cj
          · rw [if_neg hj0] at cj
            simp only [hb] at cj
            simpa using cj
      · cases c0
end Go.Nx
