/-
  The law RemoteTurns: its loop, the law.
-/
import Derived.Test.YtnhadghddkgjdaaRemF
namespace Go.Proofs.Ytnhadghddkgjdaa.rem
open Go Go.Nx Go.RowKit

noncomputable def pTurnsL : List Pat := pats 114 [(0, .l .i64), (3, .b), (4, .p 0 0 0), (5, .p 1 0 0), (6, .b), (7, .b), (8, .b), (9, .i .i64)]
def rTurnsL : List RPat := [.recs 3 27 [.i .i64, .i .i64, .i .i64], .cells 9 29 [.i .i64, .i .i64, .i .i64, .sn, .sn, .b, .b, .b, .b]]
noncomputable def lTurnsL : List Leaf × List (List Leaf) → Tr (NExit × St) := fun a => match a with
  | ([.l l, .b ok, .b h, .b r, .b x, .i i], [[.r ls], [.i m, .i p, .i u, .b sub, .b h', .b r', .b x']]) =>
    .must (ok = true ∧ ls = List.replicate 6 [.i 0, .i 0, .i 0] ∧ sub = false ∧ h' = h ∧ r' = r ∧ x' = x ∧ 0 ≤ i ∧ i ≤ (l.length : Int) ∧ l.length ≤ 30)
      (.all (fun _ : Int × Int × Int × Bool × Bool × Bool => True) ⟨(m, p, u, h, r, x), trivial⟩ fun y => .ret (.normal, dTurnsL y.1 y.2.1 y.2.2.1 y.2.2.2.1 y.2.2.2.2.1 y.2.2.2.2.2))
  | _ => .fail
def muT : List Leaf × List (List Leaf) → Nat := fun a => match a with
  | ([.l l, .b _, .b _, .b _, .b _, .i i], _) => ((l.length : Int) - i).toNat
  | _ => 0
theorem dT {p : Prop} [Decidable p] (h : p) : decide p = true := decide_eq_true h
theorem dF {p : Prop} [Decidable p] (h : ¬ p) : decide p = false := decide_eq_false h
theorem selT {c : Bool} {A B : Prop} (h : c = true) (hA : A) : sel c A B := sel_iff.2 (.inl ⟨h, hA⟩)
theorem selF {c : Bool} {A B : Prop} (h : c = false) (hB : B) : sel c A B := sel_iff.2 (.inr ⟨h, hB⟩)
theorem sel_by {c : Prop} [Decidable c] {A B : Prop} (hA : c → A) (hB : ¬ c → B) : sel (decide c) A B := by
  by_cases h : c
  · exact selT (dT h) (hA h)
  · exact selF (dF h) (hB h)
set_option maxRecDepth 100000 in
theorem loop_turnsL : LOk Try.prog [] 0 0 (bodyLoop fTurnsL 0) (sumP pTurnsL rTurnsL lTurnsL) := by
  refine sumP_ok (X := XTurnsL) kcTurnsL mixed (LAll.none (by kernel_rfl)) [0, 3, 4, 5, 6, 7, 8, 9] [2, 3, 4, 5] _ _ _ muT ?_
  rintro ⟨p, q⟩ R h
  unfold lTurnsL at h
  split at h
  case h_2 => exact h.elim
  rename_i l ok h0 r x i ls m p u sub h' r' x' he
  cases he
  have h1 := h.1
  have h2 : ∀ y : Int × Int × Int × Bool × Bool × Bool, True → R (.normal, dTurnsL y.1 y.2.1 y.2.2.1 y.2.2.2.1 y.2.2.2.2.1 y.2.2.2.2.2) := h.2
  clear h
  obtain ⟨e1, e2, e3, e4, e5, e6, i0, il, l30⟩ := h1
  subst e1 e2 e3 e4 e5 e6
  show (roundT XTurnsL 0 [0, 3, 4, 5, 6, 7, 8, 9] [2, 3, 4, 5] (bodyLoop fTurnsL 0) (sTurnsL l m p u h' r' x' i)).run _
  rw [round_turnsL]
  unfold roundE
  have go : ∀ (m p u : Int) (h r x : Bool), i < (l.length : Int) → ∃ b, sTurnsL l m p u h r x (IntKind.i64.wrap (i + 1)) = mkSt pTurnsL rTurnsL b ∧ muT b < ((l.length : Int) - i).toNat ∧ (lTurnsL b).run R := fun m p u h r x hlt => by
    have hw : IntKind.i64.wrap (i + 1) = i + 1 := by rw [IntKind.wrap_i64]; omega
    exact ⟨([.l l, .b true, .b h, .b r, .b x, .i (i + 1)], [[.r (List.replicate 6 [.i 0, .i 0, .i 0])], [.i m, .i p, .i u, .b false, .b h, .b r, .b x]]), by rw [hw]; rfl, by show ((l.length : Int) - (i + 1)).toNat < _; omega, ⟨rfl, rfl, rfl, rfl, rfl, rfl, by omega, by omega, l30⟩, h2⟩
  refine sel_by (fun hlt => selT (dT i0) (selT (dT hlt) (selT (dT (by omega)) ⟨⟨by decide, by decide⟩, ?_⟩))) fun _ => h2 (m, p, u, _, _, _) trivial
  refine sel_by (fun _ => go _ _ _ _ _ _ hlt) fun n0 => sel_by (fun _ => go _ _ _ _ _ _ hlt) fun n1 => sel_by (fun _ => go _ _ _ _ _ _ hlt) fun n2 => sel_by (fun _ => ⟨.inl rfl, go _ _ _ _ _ _ hlt⟩) fun n3 => ?_
  omega
noncomputable def tTurnsL : Con := fun args regs => if regs.length = 0 then nfun Try.prog [] cTurnsL [(0, [0, 3, 4, 5, 6, 7, 8, 9], sumP pTurnsL rTurnsL lTurnsL)] fTurnsL args regs else .fail
theorem kTurnsL : Known Try.prog [] 7 tTurnsL := known_loops 0 Try.func7 rfl (by kernel_rfl) mixed kcTurnsL (LAll.one (id := 0) (body := bodyLoop fTurnsL 0) (by kernel_rfl) rfl loop_turnsL)
def no : Out := ⟨.v (.c (.b false)), []⟩
def mustT (l : List Int) (i : Int) : Prop := true = true ∧ List.replicate 6 [Sc.i 0, .i 0, .i 0] = List.replicate 6 [Sc.i 0, .i 0, .i 0] ∧ false = false ∧ false = false ∧ false = false ∧ false = false ∧ 0 ≤ i ∧ i ≤ (l.length : Int) ∧ l.length ≤ 30
theorem turnsL_tree (l : List Int) (R : Out → Prop) : (tTurnsL [.c (.l .i64 l)] []).run R =
    sel (decide ((l.length : Int) > 30)) (R yes) (mustT l 0 ∧ ∀ y : Int × Int × Int × Bool × Bool × Bool, True →
      sel (y.1 == y.1) (sel (y.2.1 == y.2.1) (sel (y.2.2.1 == y.2.2.1) (sel (y.2.2.2.2.2 == y.2.2.2.2.2) (R ⟨.v (.c (.b (y.2.2.2.1 == y.2.2.2.1))), []⟩) (R no)) (R no)) (R no)) (R no)) := by kernel_rfl
theorem turnsL_true (l : List Int) : Holds (tTurnsL [.c (.l .i64 l)] []) fun o => o.res = .v (.c (.b true)) := by
  constructor
  rw [turnsL_tree]
  by_cases h : (l.length : Int) > 30
  · exact selT (dT h) rfl
  · refine selF (dF h) ⟨⟨rfl, rfl, rfl, rfl, rfl, rfl, Int.le_refl _, by omega, by omega⟩, fun y _ => selT (beq_self_eq_true _) (selT (beq_self_eq_true _) (selT (beq_self_eq_true _) (selT (beq_self_eq_true _) ?_)))⟩
    show NS.v (.c (.b (y.2.2.2.1 == y.2.2.2.1))) = _
    rw [beq_self_eq_true]
theorem turnsL_calls (a : Option Addr) (len cap : Nat) (zs : List Int) (w : World) (h : ArgRow .i64 w a len cap zs) :
    Calls Try.prog 7 #[.slice a len cap] w fun e w' => e = .returned (.bool true) ∧ Below w.heap.size w w' := by
  obtain ⟨l, -, -, hr⟩ := row_rel (fun _ => Option.none) h
  exact kTurnsL.lawB (fun _ => Option.none) (globOk_nil _) (R2.cons hr .nil) (turnsL_true l)
end Go.Proofs.Ytnhadghddkgjdaa.rem
