/-
  The lexer: the law LexShift.
-/
import Derived.Test.YtnhadghddkgjdaaLexA
import Derived.Test.YtnhadghddkgjdaaNum
import Derived.Test.YtnhadghddkgjdaaEngC
namespace Go.Proofs.Ytnhadghddkgjdaa.lex
open Go Go.Nx Go.RowKit

noncomputable def tYes : Con := fun args regs => match args, regs with
  | [], [] => .ret ⟨.v (.c (.b true)), []⟩
  | _, _ => .fail
theorem first_tree (R : Out → Prop) : (t_first [] []).run R = R ⟨.v (.c (.b true)), []⟩ := by kernel_rfl
set_option maxRecDepth 100000 in
theorem kYes : Known Try.prog [] 21 tYes := by
  refine k_first.less fun args regs R h => ?_
  unfold tYes at h
  split at h
  case h_2 => exact h.elim
  rw [first_tree]
  exact h
noncomputable def cShift : FuncId → Option Con := conOf [(16, num.tNumV), (23, t_byte0), (27, t_makeEven), (28, t_shift), (21, tYes)]
theorem kcShift : ∀ f T, cShift f = some T → Known Try.prog [] f T := (Knowns.cons num.kNumV (.cons k_byte0 (.cons k_makeEven (.cons k_shift (.cons kYes .nil))))).get
noncomputable abbrev fShift := Try.f12
noncomputable def XShift : Cx := { P := Try.prog, con := cShift, glob := [], m := 0, loops := [] }
noncomputable def sShift (xs : List Int) (ok : Bool) (s i : Int) : St := { fr := frame 86 [(0, .v (.c (.l .i64 xs))), (3, .v (.c (.b ok))), (4, .v (.c (.p 0 0 0))), (5, .v (.c (.i .i64 s))), (6, .v (.c (.i .i64 i)))], rg := [some ⟨2, 43, .cells [.sn, .i .i64 s]⟩] }
noncomputable def dShift (ok : Bool) : St := { fr := frame 86 [(3, .v (.c (.b ok)))], rg := [] }
noncomputable def nShift (ok : Bool) : RO := RO.done NExit.ret { fr := frame 86 [(2, .v (.c (.b false))), (3, .v (.c (.b ok)))], rg := [] }
theorem round_shift (xs : List Int) (ok : Bool) (s i : Int) (R : RO → Prop) : (roundT XShift 0 [0, 3, 4, 5, 6] [2, 3] (bodyLoop fShift 0) (sShift xs ok s i)).run R =
    sel (decide (i < (xs.length : Int))) (sel (decide (0 ≤ i)) (sel (decide (i < (xs.length : Int))) (sel (decide (i.toNat < xs.length)) (((0 : Int) < 4 ∧ (4 : Int) < 4611686018427387904) ∧
      sel (xs.getD i.toNat 0 % 4 == 0) (R (RO.next (sShift xs ok 1 (IntKind.i64.wrap (i + 1)))))
       (sel (xs.getD i.toNat 0 % 4 == 1) (R (RO.next (sShift xs ok 0 (IntKind.i64.wrap (i + 1)))))
        (sel (xs.getD i.toNat 0 % 4 == 2) (sel (s != s) (R (nShift ok)) (R (RO.next (sShift xs ok s (IntKind.i64.wrap (i + 1))))))
         (sel (s != s) (R (nShift ok)) (sel (s != s) (R (nShift ok)) (R (RO.next (sShift xs ok s (IntKind.i64.wrap (i + 1)))))))))) False) False) False)
     (R (RO.done NExit.normal (dShift ok))) := by kernel_rfl
noncomputable def lShift : List Leaf × List (List Leaf) → Tr (NExit × St) := fun x => match x with
  | ([.l xs, .b ok, .i s, .i i], [[.i s']]) => .must (s = s' ∧ 0 ≤ i ∧ i ≤ xs.length ∧ xs.length ≤ 40) (.ret (.normal, dShift ok))
  | _ => .fail
noncomputable def pShift : List Pat := pats 86 [(0, .l .i64), (3, .b), (4, .p 0 0 0), (5, .i .i64), (6, .i .i64)]
set_option maxRecDepth 100000 in
theorem loop_shift : LOk Try.prog [] 0 0 (bodyLoop fShift 0) (sumP pShift [.cells 2 43 [.sn, .i .i64]] lShift) := by
  refine sumP_ok (X := XShift) kcShift mixed (LAll.none (by kernel_rfl)) [0, 3, 4, 5, 6] [2, 3] _ _ _ (fun x => match x with
    | ([.l xs, .b _, .i _, .i i], [[.i _]]) => ((xs.length : Int) - i).toNat
    | _ => 0) ?_
  rintro ⟨a, b⟩ R h
  unfold lShift at h
  split at h
  case h_2 => exact h.elim
  rename_i xs ok s i s' he
  cases he
  have h1 := h.1
  have h2 : R (.normal, dShift ok) := h.2
  clear h
  obtain ⟨rfl, h0, hle, h40⟩ := h1
  show (roundT XShift 0 [0, 3, 4, 5, 6] [2, 3] (bodyLoop fShift 0) (sShift xs ok s i)).run _
  rw [round_shift]
  by_cases hi : i < (xs.length : Int)
  · have hw : IntKind.i64.wrap (i + 1) = i + 1 := by rw [IntKind.wrap_i64]; omega
    have go : ∀ q : Int, ∃ b', sShift xs ok q (IntKind.i64.wrap (i + 1)) = mkSt pShift [.cells 2 43 [.sn, .i .i64]] b' ∧ (match b' with
        | ([.l xs, .b _, .i _, .i i], [[.i _]]) => ((xs.length : Int) - i).toNat
        | _ => 0) < ((xs.length : Int) - i).toNat ∧ (lShift b').run R := fun q =>
      ⟨([.l xs, .b ok, .i q, .i (i + 1)], [[.i q]]), by rw [hw]; rfl, by simp only; omega, ⟨rfl, by omega, by omega, h40⟩, h2⟩
    have ss : (s != s) = false := by simp
    refine sel_iff.2 (.inl ⟨by simp [hi], sel_iff.2 (.inl ⟨by simp [h0], sel_iff.2 (.inl ⟨by simp [hi], sel_iff.2 (.inl ⟨by rw [decide_eq_true_eq]; omega, ⟨⟨by decide, by decide⟩, ?_⟩⟩)⟩)⟩)⟩)
    cases c0 : xs.getD i.toNat 0 % 4 == 0
    case true => exact go 1
    cases c1 : xs.getD i.toNat 0 % 4 == 1
    case true => exact go 0
    cases c2 : xs.getD i.toNat 0 % 4 == 2
    case true =>
      rw [ss]
      exact go s
    rw [ss]
    exact go s
  · exact sel_iff.2 (.inr ⟨by simp [hi], h2⟩)
noncomputable def tShift : Con := fun args regs => if regs.length = 0 then nfun Try.prog [] cShift [(0, [0, 3, 4, 5, 6], sumP pShift [.cells 2 43 [.sn, .i .i64]] lShift)] fShift args regs else .fail
theorem kShift : Known Try.prog [] 12 tShift := known_loops 0 Try.func12 rfl (by kernel_rfl) mixed kcShift (LAll.one (id := 0) (body := bodyLoop fShift 0) (by kernel_rfl) rfl loop_shift)
def yes : Out := ⟨.v (.c (.b true)), []⟩
theorem shift_tree (xs : List Int) (R : Out → Prop) : (tShift [.c (.l .i64 xs)] []).run R = sel (decide ((xs.length : Int) > 40)) (R yes) (((0 : Int) = 0 ∧ 0 ≤ (0 : Int) ∧ (0 : Int) ≤ xs.length ∧ xs.length ≤ 40) ∧ R yes) := by kernel_rfl
theorem shift_true (xs : List Int) : Holds (tShift [.c (.l .i64 xs)] []) fun o => o.res = .v (.c (.b true)) := by
  constructor
  rw [shift_tree]
  by_cases h : (xs.length : Int) > 40
  · exact sel_iff.2 (.inl ⟨by simp only [decide_eq_true_eq]; exact h, rfl⟩)
  · exact sel_iff.2 (.inr ⟨by simp only [decide_eq_false_iff_not]; exact h, ⟨rfl, Int.le_refl _, by omega, by omega⟩, rfl⟩)
theorem shift_calls (a : Option Addr) (len cap : Nat) (zs : List Int) (w : World) (h : ArgRow .i64 w a len cap zs) : Calls Try.prog 12 #[.slice a len cap] w fun e w' => e = .returned (.bool true) ∧ Below w.heap.size w w' := by
  obtain ⟨xs, -, -, hr⟩ := row_rel (fun _ => Option.none) h
  exact kShift.lawB (fun _ => Option.none) (globOk_nil _) (R2.cons hr .nil) (shift_true xs)
end Go.Proofs.Ytnhadghddkgjdaa.lex
