/-
  ham24: what the functions come to: check.
-/
import Derived.Test.YtjfgphfdaghilaaGreatDoorHamO
namespace Go.Proofs.YtjfgphfdaghilaaGreatDoor.ham
open Go Go.Nx

noncomputable abbrev fCheck := Tryz.f57
noncomputable def cOnes : FuncId → Option Con := fun f => match f with
  | 58 => some tPop
  | _ => Option.none
theorem kcOnes : ∀ f T, cOnes f = some T → Known Tryz.prog [] f T := by
  intro f T h
  unfold cOnes at h
  split at h <;> cases h
  exact kPop

/-! ### check's loop: the head's state; what it comes to -/
noncomputable def oCheck (w s : Int) : St := { fr := frame 24 [(0, .v (.c (.i .u32 w))), (4, .v (.c (.i .i64 s)))], rg := [] }
/-- Is the bit of place p set? -/
noncomputable def isSet (w : Int) (p : Nat) : Bool := bits .and .u32 (shrv .u32 w ((p - 1 : Nat) : Int)) 1 == 1
/-- The places that are set, from 24 - n on, taken together with s. -/
noncomputable def syn (w : Int) : Int → Nat → Int
  | s, 0 => s
  | s, n + 1 => syn w (if isSet w (23 - n) then bits .xor .i64 s ((23 - n : Nat) : Int) else s) n
noncomputable def XCheck : Cx := { P := Tryz.prog, con := cOnes, glob := [], m := 0, loops := [] }
theorem round_check (w s p : Int) (R : RO → Prop) : (roundT XCheck 0 [0, 4, 5] [0, 4] (bodyLoop fCheck 0) { fr := frame 24 [(0, .v (.c (.i .u32 w))), (4, .v (.c (.i .i64 s))), (5, .v (.c (.i .i64 p)))], rg := [] }).run R =
    sel (decide (p < 24))
     (sel (decide (0 ≤ IntKind.i64.wrap (p - 1)))
      (sel (bits BinOp.and IntKind.u32 (shrv IntKind.u32 w (IntKind.i64.wrap (p - 1))) 1 == 1)
       (R (RO.next { fr := frame 24 [(0, .v (.c (.i .u32 w))), (4, .v (.c (.i .i64 (bits BinOp.xor IntKind.i64 s p)))), (5, .v (.c (.i .i64 (IntKind.i64.wrap (p + 1)))))], rg := [] }))
       (R (RO.next { fr := frame 24 [(0, .v (.c (.i .u32 w))), (4, .v (.c (.i .i64 s))), (5, .v (.c (.i .i64 (IntKind.i64.wrap (p + 1)))))], rg := [] })))
      False)
     (R (RO.done NExit.normal (oCheck w s))) := by
  kernel_rfl
theorem wrap_small (n : Int) (h0 : 0 ≤ n) (h1 : n < 1000) : IntKind.i64.wrap n = n := by rw [IntKind.wrap_i64]; omega
noncomputable def lCheck : List Leaf × List (List Leaf) → Tr (NExit × St) := fun x => match x with
  | ([.i w, .i s, .i p], []) => .must (1 ≤ p ∧ p ≤ 24) (.ret (.normal, oCheck w (syn w s (24 - p).toNat)))
  | _ => .fail
noncomputable def pCheck : List Pat := pats 24 [(0, .i .u32), (4, .i .i64), (5, .i .i64)]
set_option maxRecDepth 100000 in
theorem loop_check : LOk Tryz.prog [] 0 0 (bodyLoop fCheck 0) (sumP pCheck [] lCheck) := by
  refine sumP_ok (X := XCheck) kcOnes mixed (LAll.none (by kernel_rfl)) [0, 4, 5] [0, 4] _ _ _ (fun x => match x with
    | ([.i _, .i _, .i p], []) => (24 - p).toNat
    | _ => 0) ?_
  rintro ⟨a, b⟩ R h
  unfold lCheck at h
  split at h
  case h_2 => exact h.elim
  rename_i w s p he
  cases he
  obtain ⟨⟨h1, h2⟩, h⟩ := h
  show (roundT XCheck 0 [0, 4, 5] [0, 4] (bodyLoop fCheck 0) { fr := frame 24 [(0, .v (.c (.i .u32 w))), (4, .v (.c (.i .i64 s))), (5, .v (.c (.i .i64 p)))], rg := [] }).run _
  rw [round_check]
  have h' : R (.normal, oCheck w (syn w s (24 - p).toNat)) := h
  by_cases hp : p = 24
  · subst hp
    exact sel_iff.2 (.inr ⟨by decide, h'⟩)
  · obtain ⟨n, hn⟩ : ∃ n : Nat, (24 - p).toNat = n + 1 := ⟨(23 - p).toNat, by omega⟩
    have hpn : p = ((23 - n : Nat) : Int) := by omega
    have e2 : IntKind.i64.wrap (p - 1) = ((23 - n - 1 : Nat) : Int) := by rw [wrap_small _ (by omega) (by omega)]; omega
    have e3 : IntKind.i64.wrap (p + 1) = p + 1 := wrap_small _ (by omega) (by omega)
    have e4 : (24 - (p + 1)).toNat = n := by omega
    rw [e2, e3]
    rw [hn] at h'
    refine sel_iff.2 (.inl ⟨by rw [decide_eq_true_eq]; omega, sel_iff.2 (.inl ⟨by rw [decide_eq_true_eq]; omega, ?_⟩)⟩)
    have h'' : R (.normal, oCheck w (syn w (if isSet w (23 - n) then bits .xor .i64 s ((23 - n : Nat) : Int) else s) n)) := h'
    cases hb : isSet w (23 - n) with
    | true =>
      rw [hb] at h''
      refine sel_iff.2 (.inl ⟨hb, ⟨([.i w, .i (bits .xor .i64 s p), .i (p + 1)], []), rfl, by simp only; omega, ⟨by omega, by omega⟩, ?_⟩⟩)
      show R (.normal, oCheck w (syn w (bits .xor .i64 s p) (24 - (p + 1)).toNat))
      rw [e4, hpn]
      exact h''
    | false =>
      rw [hb] at h''
      refine sel_iff.2 (.inr ⟨hb, ⟨([.i w, .i s, .i (p + 1)], []), rfl, by simp only; omega, ⟨by omega, by omega⟩, ?_⟩⟩)
      show R (.normal, oCheck w (syn w s (24 - (p + 1)).toNat))
      rw [e4]
      exact h''
noncomputable def tCheck : Con := fun args regs => if regs.length = 0 then nfun Tryz.prog [] cOnes [(0, [0, 4, 5], sumP pCheck [] lCheck)] fCheck args regs else .fail
theorem kCheck : Known Tryz.prog [] 57 tCheck := known_loops 0 Tryz.func57 rfl (by kernel_rfl) mixed kcOnes (LAll.one (id := 0) (body := bodyLoop fCheck 0) (by kernel_rfl) rfl loop_check)

end Go.Proofs.YtjfgphfdaghilaaGreatDoor.ham
