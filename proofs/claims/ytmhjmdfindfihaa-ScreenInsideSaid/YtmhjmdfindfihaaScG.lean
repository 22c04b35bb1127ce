/-
  The screen's laws: what they share; ScreenMoves.
-/
import Derived.Test.YtmhjmdfindfihaaScF
import Derived.Test.YtmhjmdfindfihaaNum
set_option linter.unusedVariables false
namespace Go.Proofs.Ytmhjmdfindfihaa.scr
open Go Go.Nx

noncomputable def c_first : FuncId → Option Con := conOf [(14, tNew), (16, tState)]
theorem kc_first : ∀ f T, c_first f = some T → Known Try.prog [] f T := (Knowns.cons kNew (Knowns.cons kState Knowns.nil)).get
noncomputable def t_first : Con := fun args regs => nfun Try.prog [] c_first [] Try.f12 args regs
theorem k_first : Known Try.prog [] 12 t_first := known_inl Try.func12 rfl (by kernel_rfl) mixed kc_first (by kernel_rfl)
theorem first_tree (R : Out → Prop) : (t_first [] []).run R = R ⟨.v (.c (.b true)), []⟩ := by kernel_rfl
noncomputable def tFirst : Con := fun args regs => match args, regs with
  | [], [] => .ret ⟨.v (.c (.b true)), []⟩
  | _, _ => .fail
theorem kFirst : Known Try.prog [] 12 tFirst := by
  refine k_first.less fun args regs R h => ?_
  unfold tFirst at h
  split at h
  case h_2 => exact h.elim
  rw [first_tree]
  exact h
def evGo (row col : Int) : Ev := ⟨5, row, w64 (col + 1), 0, 0, 0, 0⟩
noncomputable def atS (row col : Int) (s : Scr) : Scr := eventS (evGo row col) s
noncomputable def c_at : FuncId → Option Con := conOf [(17, tEvent)]
theorem kc_at : ∀ f T, c_at f = some T → Known Try.prog [] f T := (Knowns.cons kEvent Knowns.nil).get
noncomputable def t_at : Con := fun args regs => nfun Try.prog [] c_at [] Try.f15 args regs
theorem k_at : Known Try.prog [] 15 t_at := known_inl Try.func15 rfl (by kernel_rfl) mixed kc_at (by kernel_rfl)
theorem at_tree (row col : Int) (s : Scr) (R : Out → Prop) : (t_at [.c (.p 0 0 0), .c (.i .i64 row), .c (.i .i64 col)] [scr s]).run R = (PreE (evGo row col) s ∧ R (done (atS row col s))) := by kernel_rfl
/-- What holds all the time. -/
def Inv (s : Scr) : Prop := On s ∧ (s.e0 = 1 → GoodE (evOf s))
noncomputable def tAt : Con := con2 (fun _ _ => Inv) atS
theorem kAt : Known Try.prog [] 15 tAt := by
  refine k_at.less fun args regs R h => Box.out ?_
  obtain ⟨row, col, s, rfl, rfl, h1, h2⟩ := con2_in h
  exact Box.of_eq (at_tree row col s R) ⟨⟨h1.1, (fun e => absurd (show (5 : Int) = 1 from e) (by decide)), h1.2⟩, h2⟩
theorem newS_inv : Inv newS := ⟨⟨by decide, by decide, by decide, by decide⟩, (fun e => absurd (show (0 : Int) = 1 from e) (by decide))⟩

/-! ### ScreenMoves -/
noncomputable def c_moves : FuncId → Option Con := conOf [(12, tFirst), (13, num.tNumV), (14, tNew), (15, tAt), (16, tState), (17, tEvent)]
theorem kc_moves : ∀ f T, c_moves f = some T → Known Try.prog [] f T := (Knowns.cons kFirst (Knowns.cons num.kNumV (Knowns.cons kNew (Knowns.cons kAt (Knowns.cons kState (Knowns.cons kEvent Knowns.nil)))))).get
noncomputable def t_moves : Con := fun args regs => nfun Try.prog [] c_moves [] Try.f3 args regs
theorem k_moves : Known Try.prog [] 3 t_moves := known_inl Try.func3 rfl (by kernel_rfl) mixed kc_moves (by kernel_rfl)
noncomputable def evMove (how n : Int) : Ev := ⟨2, how, n, 0, 0, 0, 0⟩
def mvTo (place m wh : Int) : Int := Int.tmod (w64 (place + ([0, w64 (960 - m), m, w64 (40 * m), w64 (95040 - w64 (40 * m))].getD (0 + wh.toNat) 0))) 960
def bO (x : Bool) : Out := ⟨.v (.c (.b x)), []⟩
def numP (m : Int) : Prop := 0 < m ∧ m < 4611686018427387904
noncomputable def movesT (r c m wh : Int) (R : Out → Prop) : Prop :=
  Inv newS ∧ PreE (evMove wh m) (atS r c newS) ∧
   sel (decide (0 ≤ wh)) (sel (decide (wh < 5)) (sel (decide (0 + wh.toNat < 5)) (PreE (evMove ([0, 2, 1, 4, 3].getD (0 + wh.toNat) 0) m) (eventS (evMove wh m) (atS r c newS)) ∧
    sel (decide (0 ≤ wh)) (sel (decide (wh < 5)) (sel (decide (0 + wh.toNat < 5))
     (sel ((atS r c newS).row == r) (sel ((atS r c newS).col == c)
      (sel ((eventS (evMove ([0, 2, 1, 4, 3].getD (0 + wh.toNat) 0) m) (eventS (evMove wh m) (atS r c newS))).row == r) (sel ((eventS (evMove ([0, 2, 1, 4, 3].getD (0 + wh.toNat) 0) m) (eventS (evMove wh m) (atS r c newS))).col == c)
       (sel ((eventS (evMove wh m) (atS r c newS)).row == w64 (w64 (Int.tdiv (mvTo (w64 (w64 (40 * w64 (r - 1)) + c)) m wh) 40) + 1)) (R (bO ((eventS (evMove wh m) (atS r c newS)).col == Int.tmod (mvTo (w64 (w64 (40 * w64 (r - 1)) + c)) m wh) 40)))
        (R (bO false))) (R (bO false))) (R (bO false))) (R (bO false))) (R (bO false))) False) False) False) False) False) False
theorem moves_tree (row col n w : Int) (R : Out → Prop) : (t_moves [.c (.i .i64 row), .c (.i .i64 col), .c (.i .i64 n), .c (.i .i64 w)] []).run R =
    (numP 24 ∧ numP 40 ∧ numP 99 ∧ numP 4 ∧ movesT (w64 (row % 24 + 1)) (col % 40) (w64 (n % 99 + 1)) (w64 (w % 4 + 1)) R) := by kernel_rfl
end Go.Proofs.Ytmhjmdfindfihaa.scr
