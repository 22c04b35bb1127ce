/-
  The engine, part 22: a law's slices; what was there ahead of it is there behind it, too.
-/
import Derived.Test.YtnhadghddkgjdaaEng21
import Derived.Below
namespace Go.Nx
open Go Go.RowKit

theorem below_of {w w' : World} {er : Nat → Option Value} {Γ' : Env} {rg : List (Option Reg)} (hE : Ext (topEnv w er) w Γ') (hw : WRel Γ' rg w') (hd : Wd w w') : Below w.heap.size w w' := by
  refine ⟨hd.os, hd.tape, hd.output, hd.size, fun i hi => ?_⟩
  have h1 : w.heap[i]? = some w.heap[i] := Array.getElem?_eq_getElem hi
  have h2 : w'.heap[i]? = some w.heap[i] := hw.kp i _ (hE.le.kp i _ h1)
  rw [h1, h2]
/-- A law: it returns true. -/
theorem Known.lawB {P : Program} {gl : List Nat} {f : FuncId} {T : Con} (hk : Known P gl f T) {args : List NV} {vs : List Value} {w : World} (er : Nat → Option Value) (hG : GlobOk gl (topEnv w er)) (hargs : R2 (VRel (topEnv w er)) args vs) (h : Holds (T args []) fun o => o.res = .v (.c (.b true))) :
    Calls P f vs.toArray w fun e w' => e = .returned (.bool true) ∧ Below w.heap.size w w' := by
  refine (hk.sound args [] _ h.run (topEnv w er) w vs (topEnv_w w er) hG hargs (fun _ _ => rfl)).mono ?_
  rintro e w' ⟨o, v, Γ', h1, rfl, h3, h4, h5, h6⟩
  rw [h1] at h4
  obtain ⟨h4, -⟩ := h4
  have h4' : v = .bool true := h4
  exact ⟨by rw [h4'], below_of h3 h5 h6⟩
/-- What is told of a slice of integers that came in. -/
def ArgRow (k : IntKind) (w : World) (a : Option Addr) (len cap : Nat) (zs : List Int) : Prop :=
  (a = none ∧ len = 0 ∧ cap = 0 ∧ zs = []) ∨
  ∃ x, a = some x ∧ len ≤ cap ∧ cap ≤ maxLen ∧ zs.length = cap ∧ (∀ i, i < zs.length → w.cell? (x.add i) = some (.int k (zs.getD i 0))) ∧ ∀ n ∈ zs, (Lit.int k n).wf = true
theorem row_rel {k : IntKind} {w : World} {a : Option Addr} {len cap : Nat} {zs : List Int} (er : Nat → Option Value) (h : ArgRow k w a len cap zs) :
    ∃ xs : List Int, xs.length = len ∧ (∀ n ∈ xs, (Lit.int k n).wf = true) ∧ VRel (topEnv w er) (.c (.l k xs)) (.slice a len cap) := by
  rcases h with ⟨rfl, rfl, rfl, -⟩ | ⟨x, rfl, hl, -, hz, hcell, hwf⟩
  · exact ⟨[], rfl, by simp, ⟨none, 0, rfl, Nat.le_refl _, .inl rfl⟩, rfl⟩
  · have hlen : (zs.take len).length = len := by rw [List.length_take]; omega
    refine ⟨zs.take len, hlen, fun n hn => hwf n (List.mem_of_mem_take hn), ⟨some x, cap, by rw [hlen], by rw [hlen]; exact hl, ?_⟩, rfl⟩
    by_cases h0 : len = 0
    · left; rw [h0]; rfl
    · right
      have c0 := hcell 0 (by omega)
      have e0 : x.add 0 = x := rfl
      rw [e0] at c0
      obtain ⟨blk, off, spot⟩ := x
      unfold World.cell? at c0
      split at c0
      · rename_i c e fz hb
        have hsp : spot = none := by
          cases spot with
          | none => rfl
          | some n => simp at c0
        subst hsp
        refine ⟨blk, off, rfl, ?_, c, e, fz, hb, fun j u hj => ?_⟩
        · have : blk < w.heap.size := by
            rw [Array.getElem?_eq_some_iff] at hb
            exact hb.1
          simpa [topEnv] using this
        · rw [List.getElem?_map] at hj
          have hjl : j < len := by
            apply Classical.byContradiction
            intro hn
            rw [List.getElem?_eq_none (by omega)] at hj
            simp at hj
          rw [List.getElem?_take_of_lt hjl] at hj
          have hjz : j < zs.length := by omega
          have cj := hcell j hjz
          rw [List.getElem?_eq_getElem hjz] at hj
          simp only [Option.map_some, Option.some.injEq] at hj
          rw [List.getD_eq_getElem?_getD, List.getElem?_eq_getElem hjz] at cj
          simp only [Option.getD_some] at cj
          rw [hj] at cj
          unfold World.cell? Addr.add at cj
          by_cases hj0 : j = 0
          · subst hj0
            rw [if_pos rfl] at cj
            simp only [hb] at cj
            simpa using cj
          · rw [if_neg hj0] at cj
            simp only [hb] at cj
            simpa using cj
      · cases c0
end Go.Nx
