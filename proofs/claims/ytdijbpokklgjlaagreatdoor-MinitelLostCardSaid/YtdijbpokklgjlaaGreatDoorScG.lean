/-
  The screen's laws: what they share; ScreenMoves.
-/
import Derived.Test.YtdijbpokklgjlaaGreatDoorScF
import Derived.Test.YtdijbpokklgjlaaGreatDoorNum
set_option linter.unusedVariables false
namespace Go.Proofs.YtdijbpokklgjlaaGreatDoor.scr
open Go Go.Nx
set_option maxRecDepth 100000

noncomputable def tFirst : Con := fun args regs => match args, regs with
  | [], [] => .ret ⟨.v (.c (.b true)), []⟩
  | _, _ => .fail
def evGo (row col : Int) : Ev := ⟨5, row, w64 (col + 1), 0, 0, 0, 0⟩
noncomputable def atS (row col : Int) (s : Scr) : Scr := eventS (evGo row col) s
noncomputable def c_at : FuncId → Option Con := conOf [(42, tEvent)]
theorem kc_at : ∀ f T, c_at f = some T → Known Tryz.prog [] f T := (Knowns.cons kEvent Knowns.nil).get
/-- What holds all the time. -/
def Inv (s : Scr) : Prop := On s ∧ (s.e0 = 1 → GoodE (evOf s))
noncomputable def tAt : Con := con2 (fun _ _ => Inv) atS
theorem newS_inv : Inv newS := ⟨⟨by decide, by decide, by decide, by decide⟩, (fun e => absurd (show (0 : Int) = 1 from e) (by decide))⟩

/-! ### ScreenMoves -/
noncomputable def evMove (how n : Int) : Ev := ⟨2, how, n, 0, 0, 0, 0⟩
def mvTo (place m wh : Int) : Int := Int.tmod (w64 (place + ([0, w64 (960 - m), m, w64 (40 * m), w64 (95040 - w64 (40 * m))].getD (0 + wh.toNat) 0))) 960
def bO (x : Bool) : Out := ⟨.v (.c (.b x)), []⟩
def numP (m : Int) : Prop := 0 < m ∧ m < 4611686018427387904
noncomputable def movesT (r c m wh : Int) (R : Out → Prop) : Prop :=
  Inv newS ∧ PreE (evMove wh m) (atS r c newS) ∧
   sel (decide (0 ≤ wh)) (sel (decide (wh < 5)) (sel (decide (0 + wh.toNat < 5)) (PreE (evMove ([0, 2, 1, 4, 3].getD (0 + wh.toNat) 0) m) (eventS (evMove wh m) (atS r c newS)) ∧
    sel (decide (0 ≤ wh)) (sel (decide (wh < 5)) (sel (decide (0 + wh.toNat < 5))
     (sel ((atS r c newS).row == r) (sel ((atS r c newS).col == c)
      (sel ((eventS (evMove ([0, 2, 1, 4, 3].getD (0 + wh.toNat) 0) m) (eventS (evMove wh m) (atS r c newS))).row == r) (sel ((eventS (evMove ([0, 2, 1, 4, 3].getD (0 + wh.toNat) 0) m) (eventS (evMove wh m) (atS r c newS))).col == c)
       (sel ((eventS (evMove wh m) (atS r c newS)).row == w64 (w64 (Int.tdiv (mvTo (w64 (w64 (40 * w64 (r - 1)) + c)) m wh) 40) + 1)) (R (bO ((eventS (evMove wh m) (atS r c newS)).col == Int.tmod (mvTo (w64 (w64 (40 * w64 (r - 1)) + c)) m wh) 40)))
        (R (bO false))) (R (bO false))) (R (bO false))) (R (bO false))) (R (bO false))) False) False) False) False) False) False
end Go.Proofs.YtdijbpokklgjlaaGreatDoor.scr
