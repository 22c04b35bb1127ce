/-
  strings.Builder, by walks of its own code: copyCheck at a builder that is new or used, String of one that holds bytes.
-/
import Derived.Test.YtnhadghddkgjdaaEng24
import Derived.Test.YtnhadghddkgjdaaRows
import Derived.Shelf.Strings.BuilderK
set_option linter.unusedVariables false
namespace Go.Nx
open Go Go.Proofs Go.RowKit

theorem lies_self {P : Program} {e : TypeId} (count : Nat) (hn : 1 ≤ count) (h2 : P.cellsOf e = 2) : liesAt P P.depth e count 0 e 1 = true := by
  have hd : P.depth = (2 * (P.types.size + Made.depth) + 1) + 1 := rfl
  rw [hd]
  simp only [liesAt, Bool.or_eq_true]
  left
  rw [hd]
  simp [rowAt, hn, h2, sameLayout]

set_option maxHeartbeats 1000000 in
set_option maxRecDepth 100000 in
/-- copyCheck of a new builder: it stores its own address. -/
theorem check_new (b n : Nat) (hn : 2 ≤ n) (w : World) (h0 : w.cell? ⟨b, 0, none⟩ = some (.pointer none)) (hsh : w.shape? b = some (88, n)) (hfz : w.frozen? ⟨b, 0, none⟩ = false) :
    Calls Try.prog 71 #[.pointer (some ⟨b, 0, none⟩)] w fun e w' => e = .returned (.tuple #[]) ∧ w' = w.setCell ⟨b, 0, none⟩ (.pointer (some ⟨b, 0, none⟩)) := by
  obtain ⟨j, hj, hjs⟩ : ∃ j, Try.prog.info? 88 = some j ∧ j.size = 2 := ⟨_, rfl, by kernel_rfl⟩
  have hcl : Try.prog.cellsOf 88 = 2 := by kernel_rfl
  go_enter Try.func71, Try.ntmps71
  go_wp2
  rw [Lib.run_to_unsafe w ⟨b, 0, none⟩ Try.underlying86 Try.underlying102 hj (by rw [hjs]; decide) hsh (show 0 < n by omega)]
  simp only [Result.andThen]
  rw [Oper.upon_value]
  go_wp2
  rw [run_callFunc_extern Try.func74 (by kernel_rfl) (by kernel_rfl) (by kernel_rfl) (e := Extern.AbiNoEscape.same) (by kernel_rfl)]
  rw [Lib.run_noEscape]
  simp only [Result.andThen]
  rw [Oper.upon_value]
  go_wp2
  rw [Lib.run_from_unsafe w ⟨b, 0, none⟩ Try.underlying102 Try.underlying86 hj hsh (lies_self _ (by rw [hcl]; omega) hcl)]
  simp only [Result.andThen]
  rw [Oper.upon_value]
  go_wp2
  go_end0
  exact ⟨rfl, rfl⟩

set_option maxHeartbeats 1000000 in
set_option maxRecDepth 100000 in
/-- copyCheck of a builder that was used. -/
theorem check_used (b : Nat) (w : World) (h0 : w.cell? ⟨b, 0, none⟩ = some (.pointer (some ⟨b, 0, none⟩))) :
    Calls Try.prog 71 #[.pointer (some ⟨b, 0, none⟩)] w fun e w' => e = .returned (.tuple #[]) ∧ w' = w := by
  obtain ⟨j, hj, hjs⟩ : ∃ j, Try.prog.info? 88 = some j ∧ j.size = 2 := ⟨_, rfl, by kernel_rfl⟩
  go_enter Try.func71, Try.ntmps71
  go_wp2
  rw [Lib.run_neq_ptr_same w _ Try.underlying86 hj]
  go_wp2
  go_end0
  exact ⟨rfl, rfl⟩

set_option maxHeartbeats 1000000 in
set_option maxRecDepth 100000 in
/-- String of a builder whose row holds these bytes. -/
theorem string_of (b g cap m : Nat) (l : List UInt8) (w : World) (h0 : l ≠ []) (hcap : l.length ≤ cap) (hm : l.length ≤ m) (h63 : l.length ≤ 9223372036854775807) (c1 : w.cell? ⟨b, 1, none⟩ = some (.slice (some ⟨g, 0, none⟩) l.length cap))
    (hsh : w.shape? g = some (5, m)) (hcell : ∀ j x, l[j]? = some x → w.cell? ((⟨g, 0, none⟩ : Addr).add j) = some (.int .u8 x.toNat)) :
    Calls Try.prog 61 #[.pointer (some ⟨b, 0, none⟩)] w fun e w' => e = .returned (.string ⟨l.toArray⟩) ∧ w' = w.drew.freeze ⟨g, 0, none⟩ l.length := by
  have hl0 : l.length ≠ 0 := by simpa using h0
  have hSD : (Builtin.unsafeSliceData_ #[36] 96 #[.slice (some ⟨g, 0, none⟩) l.length cap]).run Try.prog w.drew = .ok (.pointer (some ⟨g, 0, none⟩)) w.drew :=
    Lib.run_unsafeSliceData_row _ _ _ _ _ _ (by omega)
  have hUS : (Builtin.unsafeString_ #[96, 3] 9 #[.pointer (some ⟨g, 0, none⟩), .int .i64 l.length]).run Try.prog w.drew = .ok (.string ⟨l.toArray⟩) (w.drew.freeze ⟨g, 0, none⟩ l.length) :=
    Lib.run_unsafeString_row w.drew 96 3 9 5 Try.underlying96 (by kernel_rfl) g m hsh l h0 hm h63 hcell
  have d1 : w.drew.cell? ⟨b, 1, none⟩ = some (.slice (some ⟨g, 0, none⟩) l.length cap) := c1
  go_enter Try.func61, Try.ntmps61
  go_wp2
  go_region
  all_goals (go_wp2; go_ret; exact ⟨rfl, rfl⟩)

end Go.Nx
