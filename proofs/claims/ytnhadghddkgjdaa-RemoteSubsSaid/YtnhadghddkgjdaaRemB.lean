/-
  The remote control: a page's number.
-/
import Derived.Test.YtnhadghddkgjdaaRemA
namespace Go.Proofs.Ytnhadghddkgjdaa.rem
open Go Go.Nx

def n9 (x : Int) : Int := bif decide (9 < x) then 9 else x
noncomputable def pg (p : Int) : Int := bits .or .i64 (shlv .i64 (n9 (bits .and .i64 (shrv .i64 p 4) 15)) 4) (n9 (bits .and .i64 p 15))
noncomputable def raw (m p : Int) : Int := IntKind.i64.wrap (IntKind.i64.wrap (IntKind.i64.wrap (100 * m) + IntKind.i64.wrap (10 * shrv .i64 (pg p) 4)) + bits .and .i64 (pg p) 15)
noncomputable def numF (m p : Int) : Int := bif decide (m ≥ 1) then (bif !decide (m ≤ 8) then 0 else bif decide (pg p < 0) then 0 else bif decide (shrv .i64 (pg p) 4 ≥ 10) then 0 else bif decide (bits .and .i64 (pg p) 15 ≥ 10) then 0 else raw m p) else 0
def oI (n : Int) : Out := ⟨.v (.c (.i .i64 n)), []⟩
theorem number_tree (m p u : Int) (R : Out → Prop) : (t_rnumber [.ag [.i .i64 m, .i .i64 p, .i .i64 u]] []).run R =
    sel (decide (m ≥ 1)) (sel (!decide (m ≤ 8)) (R (oI 0)) (sel (decide (pg p < 0)) (R (oI 0)) (sel (decide (shrv .i64 (pg p) 4 ≥ 10)) (R (oI 0)) (sel (decide (bits .and .i64 (pg p) 15 ≥ 10)) (R (oI 0)) (R (oI (raw m p))))))) (R (oI 0)) := by kernel_rfl
theorem sel_one {c : Bool} {a b : Int} {R : Out → Prop} {A B : Prop} (h : R (oI (bif c then a else b))) (hA : R (oI a) → A) (hB : R (oI b) → B) : sel c A B := by
  cases c
  · exact hB h
  · exact hA h
/-- What is known of a page's number. -/
noncomputable def tNumF : Con := fun args regs => match args, regs with
  | [.ag [.i .i64 m, .i .i64 p, .i .i64 _]], [] => .ret (oI (numF m p))
  | _, _ => .fail
set_option maxRecDepth 100000 in
theorem kNumF : Known Try.prog [] 59 tNumF := by
  refine k_rnumber.less fun args regs R h => ?_
  unfold tNumF at h
  split at h
  case h_2 => exact h.elim
  rename_i m p u
  have h2 : R (oI (numF m p)) := h
  rw [number_tree]
  exact sel_one h2 (fun h => sel_one h id fun h => sel_one h id fun h => sel_one h id fun h => sel_one h id id) id
end Go.Proofs.Ytnhadghddkgjdaa.rem
