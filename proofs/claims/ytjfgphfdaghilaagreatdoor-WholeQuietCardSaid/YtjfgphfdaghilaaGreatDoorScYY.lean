/-
  Joined: ScI, ScG, ScH, ScJ, ScIn.
-/
import Derived.Test.YtjfgphfdaghilaaGreatDoorScX
import Derived.Test.YtjfgphfdaghilaaGreatDoorLxX
import Derived.Test.YtjfgphfdaghilaaGreatDoorPbits
set_option linter.unusedVariables false
section
namespace Go.Proofs.YtjfgphfdaghilaaGreatDoor.scr
open Go Go.Nx
set_option maxRecDepth 100000

noncomputable def c_zis : FuncId → Option Con := conOf [(120, tOf)]
theorem kc_zis : ∀ f T, c_zis f = some T → Known Tryz.prog [] f T := (Knowns.cons kOf Knowns.nil).get
noncomputable def t_zis : Con := fun args regs => nfun Tryz.prog [] c_zis [] Tryz.f119 args regs
theorem k_zis : Known Tryz.prog [] 119 t_zis := known_inl Tryz.func119 rfl (by kernel_rfl) mixed kc_zis (by kernel_rfl)
/-- The kinds of a cell's cells. -/
def KC : List CK := [.i .i64, .i .i64, .i .i64, .b, .b, .b, .b, .b, .i .i64, .i .i64]
def zc : List Sc := [.i 0, .i 0, .i 0, .b false, .b false, .b false, .b false, .b false, .i 0, .i 0]
def xI (x : List Sc) (j : Nat) : Int := (x.getD j (.i 0)).n
def xB (x : List Sc) (j : Nat) : Bool := (x.getD j (.i 0)).t
def isZ (x : List Sc) : Bool := xB x 6 || isMos (xI x 0)
theorem zis_tree (x : List Sc) (R : Out → Prop) : (t_zis [.ag (rowCells KS x)] []).run R = sel (isMos (xI x 0)) (sel (xB x 6) (R ⟨.v (.c (.b true)), []⟩) (R ⟨.v (.c (.b true)), []⟩)) (sel (xB x 6) (R ⟨.v (.c (.b true)), []⟩) (R ⟨.v (.c (.b false)), []⟩)) := by kernel_rfl
noncomputable def tZis : Con := fun args regs => match args, regs with
  | [.ag [.i .i64 g, .i .i64 fg, .b fl, .b iv, .i .i64 h, .i .i64 w, .b mk, .i .i64 bg, .b un, .b co]], [] => .ret ⟨.v (.c (.b (mk || isMos g))), []⟩
  | _, _ => .fail
theorem kZis : Known Tryz.prog [] 119 tZis := by
  refine k_zis.less fun args regs R h => Box.out ?_
  unfold tZis at h
  split at h
  case h_2 => exact h.elim
  rename_i g fg fl iv hh w mk bg un co
  have h : R ⟨.v (.c (.b (mk || isMos g))), []⟩ := h
  refine Box.of_eq (zis_tree [.i g, .i fg, .b fl, .b iv, .i hh, .i w, .b mk, .i bg, .b un, .b co] R) (sel_b (fun a => sel_b (fun b => ?_) fun b => ?_) fun a => sel_b (fun b => ?_) fun b => ?_)
  all_goals
    have a : isMos g = _ := a
    have b : mk = _ := b
    rw [a, b] at h
    exact h
noncomputable def mGlV (p : Int) (b : Bool) : Int := bif b then bits .or .i64 (bits .or .i64 1048576 (bits .and .i64 p 63)) 64 else bits .or .i64 1048576 (bits .and .i64 p 63)
theorem mgl_tree (p : Int) (b : Bool) (R : Out → Prop) : (t_mglyph [.c (.i .i64 p), .c (.b b)] []).run R = sel b (R (gO (bits .or .i64 (bits .or .i64 1048576 (bits .and .i64 p 63)) 64))) (R (gO (bits .or .i64 1048576 (bits .and .i64 p 63)))) := by kernel_rfl
noncomputable def tMgl : Con := fun args regs => match args, regs with
  | [.c (.i .i64 p), .c (.b b)], [] => .ret (gO (mGlV p b))
  | _, _ => .fail
theorem kMgl : Known Tryz.prog [] 121 tMgl := by
  refine k_mglyph.less fun args regs R h => Box.out ?_
  unfold tMgl at h
  split at h
  case h_2 => exact h.elim
  rename_i p b
  have h : R (gO (mGlV p b)) := h
  refine Box.of_eq (mgl_tree p b R) (sel_b (fun a => ?_) fun a => ?_)
  · rw [a] at h; exact h
  · rw [a] at h; exact h

/-! ### a row -/
/-- What goes on along a row: the ground, the line, what is concealed. -/
structure Zn where
  bg : Int
  un : Bool
  co : Bool
def zNext (z : Zn) (x : List Sc) : Zn := ⟨bif isZ x then xI x 7 else z.bg, bif xB x 6 then xB x 8 else z.un, bif xB x 6 then xB x 9 else z.co⟩
/-- A cell, behind what its slot changed. -/
noncomputable def zCell (masks : Bool) (z : Zn) (x : List Sc) : List Sc :=
  [.i (bif masks && z.co then 32 else bif isMos (xI x 0) then mGlV (patV (xI x 0)) z.un else xI x 0), .i (xI x 1), .i z.bg, .b (xB x 2), .b z.co, .b false, .b (!isMos (xI x 0) && z.un), .b (xB x 3), .i (xI x 4), .i (xI x 5)]
noncomputable def zRow (masks : Bool) (xs : List (List Sc)) : Nat → Nat → Zn → List (List Sc) → List (List Sc)
  | 0, _, _, out => out
  | n + 1, i, z, out => zRow masks xs n (i + 1) (zNext z (xs.getD i [])) (out.set i (zCell masks (zNext z (xs.getD i [])) (xs.getD i [])))
noncomputable def c_zrow : FuncId → Option Con := conOf [(119, tZis), (120, tOf), (121, tMgl)]
theorem kc_zrow : ∀ f T, c_zrow f = some T → Known Tryz.prog [] f T := (Knowns.cons kZis (Knowns.cons kOf (Knowns.cons kMgl Knowns.nil))).get
noncomputable def X_zrow : Cx := { P := Tryz.prog, con := c_zrow, glob := [], m := 0, loops := [] }
noncomputable def p_zrow : List Pat := pats 69 [(1, .b), (4, .p 0 0 0), (5, .p 1 0 0), (6, .i .i64), (7, .b), (8, .b), (15, .rs KS 40), (16, .i .i64)]
noncomputable def r_zrow : List RPat := [.sg 400 51 [.recs KC 40], .sg 400 51 [.recs KC 40]]
noncomputable def b_zrow : Code := bodyLoop Tryz.f81 0
def lf_zrow (masks : Bool) (z : Zn) (xs : List (List Sc)) (i : Int) (res out : List (List Sc)) : List Leaf × List (List Leaf) := ([.b masks, .i z.bg, .b z.un, .b z.co, .r xs, .i i], [[.r res], [.r out]])
noncomputable def s_zrow (masks : Bool) (z : Zn) (xs : List (List Sc)) (i : Int) (res out : List (List Sc)) : St := mkSt p_zrow r_zrow (lf_zrow masks z xs i res out)
noncomputable def e_zrow (res out : List (List Sc)) : St := { fr := frame 69 [(4, .v (.c (.p 0 0 0))), (5, .v (.c (.p 1 0 0)))], rg := [some ⟨400, 51, .sg [.recs KC 40 res]⟩, some ⟨400, 51, .sg [.recs KC 40 out]⟩] }
noncomputable def cellT (gl fg bg : Int) (fl co un iv : Bool) (h w : Int) : List Sc := [.i gl, .i fg, .i bg, .b fl, .b co, .b false, .b un, .b iv, .i h, .i w]
noncomputable def zT (masks : Bool) (xs : List (List Sc)) (i : Int) (res out : List (List Sc)) (x : List Sc) (bg : Int) (un co : Bool) (R : RO → Prop) : Prop :=
  let N := fun (gl : Int) (u : Bool) => sel (decide (0 ≤ i)) (sel (decide (i < 40)) (sel (decide (i.toNat < 40)) (R (.next (s_zrow masks ⟨bg, un, co⟩ xs (w64 (i + 1)) res (out.set i.toNat (cellT gl (xI x 1) bg (xB x 2) co u (xB x 3) (xI x 4) (xI x 5)))))) False) False) False
  let C := fun (gl : Int) (u : Bool) => sel masks (sel co (N 32 u) (N gl u)) (N gl u)
  sel (isMos (xI x 0)) (C (mGlV (patV (xI x 0)) un) false) (C (xI x 0) un)
noncomputable def zA (masks : Bool) (z : Zn) (xs : List (List Sc)) (i : Int) (res out : List (List Sc)) (x : List Sc) (bg : Int) (R : RO → Prop) : Prop :=
  sel (xB x 6) (zT masks xs i res out x bg (xB x 8) (xB x 9) R) (zT masks xs i res out x bg z.un z.co R)
theorem round_zrow (masks : Bool) (z : Zn) (xs : List (List Sc)) (i : Int) (res out : List (List Sc)) (R : RO → Prop) : (roundT X_zrow 0 [1, 4, 5, 6, 7, 8, 15, 16] [4, 5] b_zrow (s_zrow masks z xs i res out)).run R =
    sel (decide (i < 40)) (sel (decide (0 ≤ i)) (sel (decide (i < 40)) (sel (decide (i.toNat < 40))
      (sel (isZ (xs.getD i.toNat [])) (zA masks z xs i res out (xs.getD i.toNat []) (xI (xs.getD i.toNat []) 7) R) (zA masks z xs i res out (xs.getD i.toNat []) z.bg R)) False) False) False)
      (R (.done .normal (e_zrow res out))) := by kernel_rfl
theorem zA_in {masks : Bool} {z : Zn} {xs : List (List Sc)} {i : Int} {res out : List (List Sc)} {x : List Sc} {R : RO → Prop} (h0 : 0 ≤ i) (h1 : i < 40)
    (hR : R (.next (s_zrow masks (zNext z x) xs (w64 (i + 1)) res (out.set i.toNat (zCell masks (zNext z x) x))))) : sel (isZ x) (zA masks z xs i res out x (xI x 7) R) (zA masks z xs i res out x z.bg R) := by
  have key : ∀ {bg : Int} {un co : Bool}, zNext z x = ⟨bg, un, co⟩ → zT masks xs i res out x bg un co R := by
    intro bg un co he
    rw [he] at hR
    have N : ∀ {gl : Int} {u : Bool}, zCell masks ⟨bg, un, co⟩ x = cellT gl (xI x 1) bg (xB x 2) co u (xB x 3) (xI x 4) (xI x 5) →
        sel (decide (0 ≤ i)) (sel (decide (i < 40)) (sel (decide (i.toNat < 40)) (R (.next (s_zrow masks ⟨bg, un, co⟩ xs (w64 (i + 1)) res (out.set i.toNat (cellT gl (xI x 1) bg (xB x 2) co u (xB x 3) (xI x 4) (xI x 5)))))) False) False) False := fun h => by
      rw [h] at hR
      exact selT (dT h0) (selT (dT h1) (selT (dT (by omega)) hR))
    unfold zT
    refine sel_b (fun hm => sel_b (fun ha => sel_b (fun hc => N ?_) fun hc => N ?_) fun ha => N ?_) fun hm => sel_b (fun ha => sel_b (fun hc => N ?_) fun hc => N ?_) fun ha => N ?_
    · unfold zCell cellT; rw [hm, ha, hc]; rfl
    · unfold zCell cellT; rw [hm, ha, hc]; rfl
    · unfold zCell cellT; rw [hm, ha]; rfl
    · unfold zCell cellT; rw [hm, ha, hc]; rfl
    · unfold zCell cellT; rw [hm, ha, hc]; rfl
    · unfold zCell cellT; rw [hm, ha]; rfl
  refine sel_b (fun hz => sel_b (fun h6 => key ?_) fun h6 => key ?_) fun hz => sel_b (fun h6 => key ?_) fun h6 => key ?_
  all_goals (unfold zNext; rw [hz, h6]; rfl)
noncomputable def l_zrow : List Leaf × List (List Leaf) → Tr (NExit × St) := fun a => match a with
  | ([.b masks, .i bg, .b un, .b co, .r xs, .i i], [[.r res], [.r out]]) => .must (0 ≤ i ∧ i ≤ 40) (.ret (.normal, e_zrow res (zRow masks xs (40 - i).toNat i.toNat ⟨bg, un, co⟩ out)))
  | _ => .fail
set_option maxRecDepth 100000 in
theorem loop_zrow : LOk Tryz.prog [] 0 0 b_zrow (sumP p_zrow r_zrow l_zrow) := by
  refine sumP_ok (X := X_zrow) kc_zrow mixed (LAll.none (by kernel_rfl)) [1, 4, 5, 6, 7, 8, 15, 16] [4, 5] _ _ _ (fun a => match a with
    | ([.b _, .i _, .b _, .b _, .r _, .i i], [[.r _], [.r _]]) => (40 - i).toNat
    | _ => 0) ?_
  intro a R h
  unfold l_zrow at h
  split at h
  case h_2 => exact h.elim
  rename_i masks bg un co xs i res out
  obtain ⟨⟨h1, h2⟩, h⟩ := h
  have h' : R (.normal, e_zrow res (zRow masks xs (40 - i).toNat i.toNat ⟨bg, un, co⟩ out)) := h
  clear h
  refine Box.out (Box.of_eq (round_zrow masks ⟨bg, un, co⟩ xs i res out _) (sel_by (fun e => ?_) fun e => ?_))
  · refine selT (dT h1) (selT (dT e) (selT (dT (by omega)) (zA_in h1 e ?_)))
    obtain ⟨k, hk⟩ : ∃ k : Nat, (40 - i).toNat = k + 1 := ⟨(39 - i).toNat, by omega⟩
    have hw : w64 (i + 1) = i + 1 := w64_id (by omega)
    rw [hw]
    refine ⟨lf_zrow masks (zNext ⟨bg, un, co⟩ (xs.getD i.toNat [])) xs (i + 1) res (out.set i.toNat (zCell masks (zNext ⟨bg, un, co⟩ (xs.getD i.toNat [])) (xs.getD i.toNat []))), rfl, by show (40 - (i + 1)).toNat < (40 - i).toNat; omega, ⟨by omega, by omega⟩, ?_⟩
    show R (.normal, e_zrow res (zRow masks xs (40 - (i + 1)).toNat (i + 1).toNat (zNext ⟨bg, un, co⟩ (xs.getD i.toNat [])) (out.set i.toNat (zCell masks (zNext ⟨bg, un, co⟩ (xs.getD i.toNat [])) (xs.getD i.toNat [])))))
    have e1 : (40 - (i + 1)).toNat = k := by omega
    have e2 : (i + 1).toNat = i.toNat + 1 := by omega
    rw [hk] at h'
    rw [e1, e2]
    exact h'
  · have hz : (40 - i).toNat = 0 := by omega
    rw [hz] at h'
    exact h'
noncomputable def t_zrow : Con := fun args regs => if regs.length = 0 then nfun Tryz.prog [] c_zrow [(0, [1, 4, 5, 6, 7, 8, 15, 16], sumP p_zrow r_zrow l_zrow)] Tryz.f81 args regs else .fail
theorem k_zrow : Known Tryz.prog [] 81 t_zrow := known_loops 0 Tryz.func81 rfl (by kernel_rfl) mixed kc_zrow (LAll.one (id := 0) (body := b_zrow) (by kernel_rfl) rfl loop_zrow)
noncomputable def rowG (masks : Bool) (xs : List (List Sc)) : List (List Sc) := zRow masks xs 40 0 ⟨0, false, false⟩ (List.replicate 40 zc)
theorem zrow_tree (masks : Bool) (xs : List (List Sc)) (R : Out → Prop) : (t_zrow [.sg [.recs KS 40 xs], .c (.b masks)] []).run R = (((0 : Int) ≤ 0 ∧ (0 : Int) ≤ 40) ∧ R ⟨.v (.sg [.recs KC 40 (rowG masks xs)]), []⟩) := by kernel_rfl
noncomputable def tZrow : Con := fun args regs => match args, regs with
  | [.sg [.recs ks n xs], .c (.b masks)], [] => if ks = KS ∧ n = 40 then .ret ⟨.v (.sg [.recs KC 40 (rowG masks xs)]), []⟩ else .fail
  | _, _ => .fail
theorem kZrow : Known Tryz.prog [] 81 tZrow := by
  refine k_zrow.less fun args regs R h => Box.out ?_
  unfold tZrow at h
  split at h
  case h_2 => exact h.elim
  split at h
  case isFalse => exact h.elim
  rename_i hc
  obtain ⟨rfl, rfl⟩ := hc
  exact Box.of_eq (zrow_tree _ _ R) ⟨⟨by decide, by decide⟩, h⟩

/-! ### the grid -/
noncomputable def gridN (masks : Bool) (sl : List (List Sc)) : Nat → Nat → List (List Sc) → List (List Sc)
  | 0, _, g => g
  | n + 1, r, g => gridN masks sl n (r + 1) (spl g (r * 40) 40 (rowG masks ((sl.drop (r * 40)).take 40)))
noncomputable def gridG (masks : Bool) (sl : List (List Sc)) : List (List Sc) := gridN masks sl 25 0 (List.replicate 1000 zc)
noncomputable def c_grid : FuncId → Option Con := conOf [(81, tZrow)]
theorem kc_grid : ∀ f T, c_grid f = some T → Known Tryz.prog [] f T := (Knowns.cons kZrow Knowns.nil).get
noncomputable def X_grid : Cx := { P := Tryz.prog, con := c_grid, glob := [], m := 1, loops := [] }
noncomputable def t_grid : Con := fun args regs => if regs.length = 1 then nfun Tryz.prog [] c_grid [(0, [0, 2, 3, 5], unroll X_grid 0 [0, 2, 3, 5] [2, 3] (bodyLoop Tryz.f43 0) 26)] Tryz.f43 args regs else .fail
theorem k_grid : Known Tryz.prog [] 43 t_grid := known_loops 1 Tryz.func43 rfl (by kernel_rfl) mixed kc_grid (LAll.one (id := 0) (body := bodyLoop Tryz.f43 0) (by kernel_rfl) rfl (unroll_ok (X := X_grid) kc_grid mixed (LAll.none (by kernel_rfl)) [0, 2, 3, 5] [2, 3] 26))
theorem grid_tree (s : Scr) (R : Out → Prop) : (t_grid [.c (.p 0 0 0)] [scr s]).run R = R ⟨.v (.sg [.recs KC 1000 (gridG s.ma s.sl)]), [some (scr s)]⟩ := by kernel_rfl
noncomputable def tGrid : Con := fun args regs => onS args regs fun l s => match l with
  | [] => .ret ⟨.v (.sg [.recs KC 1000 (gridG s.ma s.sl)]), [some (scr s)]⟩
  | _ => .fail
theorem kGrid : Known Tryz.prog [] 43 tGrid := by
  refine k_grid.less fun args regs R h => Box.out ?_
  obtain ⟨l, s, rfl, rfl, h'⟩ := onS_in h
  clear h
  split at h'
  case h_2 => exact h'.elim
  exact Box.of_eq (grid_tree s R) h'
end Go.Proofs.YtjfgphfdaghilaaGreatDoor.scr
end
section
namespace Go.Proofs.YtjfgphfdaghilaaGreatDoor.scr
open Go Go.Nx
set_option maxRecDepth 100000

noncomputable def c_first : FuncId → Option Con := conOf [(34, tNew), (41, tState)]
theorem kc_first : ∀ f T, c_first f = some T → Known Tryz.prog [] f T := (Knowns.cons kNew (Knowns.cons kState Knowns.nil)).get
noncomputable def tFirst : Con := fun args regs => match args, regs with
  | [], [] => .ret ⟨.v (.c (.b true)), []⟩
  | _, _ => .fail
def evGo (row col : Int) : Ev := ⟨5, row, w64 (col + 1), 0, 0, 0, 0⟩
noncomputable def atS (row col : Int) (s : Scr) : Scr := eventS (evGo row col) s
noncomputable def c_at : FuncId → Option Con := conOf [(111, tEvent)]
theorem kc_at : ∀ f T, c_at f = some T → Known Tryz.prog [] f T := (Knowns.cons kEvent Knowns.nil).get
/-- What holds all the time. -/
def Inv (s : Scr) : Prop := On s ∧ (s.e0 = 1 → GoodE (evOf s))
noncomputable def tAt : Con := con2 (fun _ _ => Inv) atS
theorem newS_inv : Inv newS := ⟨⟨by decide, by decide, by decide, by decide⟩, (fun e => absurd (show (0 : Int) = 1 from e) (by decide))⟩

/-! ### ScreenMoves -/
noncomputable def evMove (how n : Int) : Ev := ⟨2, how, n, 0, 0, 0, 0⟩
def mvTo (place m wh : Int) : Int := Int.tmod (w64 (place + ([0, w64 (960 - m), m, w64 (40 * m), w64 (95040 - w64 (40 * m))].getD (0 + wh.toNat) 0))) 960
def bO (x : Bool) : Out := ⟨.v (.c (.b x)), []⟩
def numP (m : Int) : Prop := 0 < m ∧ m < 4611686018427387904
noncomputable def movesT (r c m wh : Int) (R : Out → Prop) : Prop :=
  Inv newS ∧ PreE (evMove wh m) (atS r c newS) ∧
   sel (decide (0 ≤ wh)) (sel (decide (wh < 5)) (sel (decide (0 + wh.toNat < 5)) (PreE (evMove ([0, 2, 1, 4, 3].getD (0 + wh.toNat) 0) m) (eventS (evMove wh m) (atS r c newS)) ∧
    sel (decide (0 ≤ wh)) (sel (decide (wh < 5)) (sel (decide (0 + wh.toNat < 5))
     (sel ((atS r c newS).row == r) (sel ((atS r c newS).col == c)
      (sel ((eventS (evMove ([0, 2, 1, 4, 3].getD (0 + wh.toNat) 0) m) (eventS (evMove wh m) (atS r c newS))).row == r) (sel ((eventS (evMove ([0, 2, 1, 4, 3].getD (0 + wh.toNat) 0) m) (eventS (evMove wh m) (atS r c newS))).col == c)
       (sel ((eventS (evMove wh m) (atS r c newS)).row == w64 (w64 (Int.tdiv (mvTo (w64 (w64 (40 * w64 (r - 1)) + c)) m wh) 40) + 1)) (R (bO ((eventS (evMove wh m) (atS r c newS)).col == Int.tmod (mvTo (w64 (w64 (40 * w64 (r - 1)) + c)) m wh) 40)))
        (R (bO false))) (R (bO false))) (R (bO false))) (R (bO false))) (R (bO false))) False) False) False) False) False) False
end Go.Proofs.YtjfgphfdaghilaaGreatDoor.scr
end
section
namespace Go.Proofs.YtjfgphfdaghilaaGreatDoor.scr
open Go Go.Nx
set_option maxRecDepth 100000

/-- On the page, which does not roll. -/
def Pg (s : Scr) : Prop := (1 ≤ s.row ∧ s.row ≤ 24) ∧ (0 ≤ s.col ∧ s.col ≤ 39) ∧ s.ro = false ∧ (0 ≤ s.kr ∧ s.kr ≤ 24) ∧ (0 ≤ s.kc ∧ s.kc ≤ 39)
def place (s : Scr) : Int := 40 * (s.row - 1) + s.col
theorem Pg.on {s : Scr} (h : Pg s) : On s := ⟨⟨by have := h.1; omega, h.1.2⟩, h.2.1, h.2.2.2⟩
theorem Pg.range {s : Scr} (h : Pg s) : 0 ≤ place s ∧ place s < 960 := by unfold place; have := h.1; have := h.2.1; omega
theorem mod960 {x y : Int} (h : 0 ≤ y ∧ y < 960) (k : Int) (e : x = y + 960 * k) : x % 960 = y := by omega
theorem down_pg {s : Scr} (h : Pg s) : Pg (downS s) ∧ place (downS s) = (place s + 40) % 960 := by
  obtain ⟨⟨r0, r1⟩, ⟨c0, c1⟩, hro, hk⟩ := h
  unfold downS
  rw [if_neg (by omega)]
  split
  · refine ⟨⟨⟨by show 1 ≤ s.row + 1; omega, by show s.row + 1 ≤ 24; omega⟩, ⟨c0, c1⟩, hro, hk⟩, ?_⟩
    show 40 * (s.row + 1 - 1) + s.col = (40 * (s.row - 1) + s.col + 40) % 960
    omega
  · rw [if_neg (by rw [hro]; exact Bool.false_ne_true)]
    refine ⟨⟨⟨by show (1 : Int) ≤ 1; omega, by show (1 : Int) ≤ 24; omega⟩, ⟨c0, c1⟩, hro, hk⟩, ?_⟩
    show 40 * ((1 : Int) - 1) + s.col = (40 * (s.row - 1) + s.col + 40) % 960
    omega
theorem up_pg {s : Scr} (h : Pg s) : Pg (upS s) ∧ place (upS s) = (place s - 40) % 960 := by
  obtain ⟨⟨r0, r1⟩, ⟨c0, c1⟩, hro, hk⟩ := h
  unfold upS
  rw [if_neg (by omega)]
  split
  · refine ⟨⟨⟨by show 1 ≤ s.row - 1; omega, by show s.row - 1 ≤ 24; omega⟩, ⟨c0, c1⟩, hro, hk⟩, ?_⟩
    show 40 * (s.row - 1 - 1) + s.col = (40 * (s.row - 1) + s.col - 40) % 960
    omega
  · rw [if_neg (by rw [hro]; exact Bool.false_ne_true)]
    refine ⟨⟨⟨by show (1 : Int) ≤ 24; omega, by show (24 : Int) ≤ 24; omega⟩, ⟨c0, c1⟩, hro, hk⟩, ?_⟩
    show 40 * ((24 : Int) - 1) + s.col = (40 * (s.row - 1) + s.col - 40) % 960
    omega
theorem fwd_pg {s : Scr} (h : Pg s) : Pg (fwdS s) ∧ place (fwdS s) = (place s + 1) % 960 := by
  obtain ⟨hd, hp⟩ := down_pg h
  have h' := h
  obtain ⟨⟨r0, r1⟩, ⟨c0, c1⟩, hro, hk⟩ := h
  unfold fwdS
  split
  · refine ⟨⟨⟨r0, r1⟩, ⟨by show 0 ≤ s.col + 1; omega, by show s.col + 1 ≤ 39; omega⟩, hro, hk⟩, ?_⟩
    show 40 * (s.row - 1) + (s.col + 1) = (40 * (s.row - 1) + s.col + 1) % 960
    omega
  · rw [if_pos (by omega)]
    have hc : (downS s).col = s.col := by
      unfold downS
      rw [if_neg (by omega)]
      split
      · rfl
      · rw [if_neg (by rw [hro]; exact Bool.false_ne_true)]
    refine ⟨⟨hd.1, ⟨by show (0 : Int) ≤ 0; omega, by show (0 : Int) ≤ 39; omega⟩, hd.2.2⟩, ?_⟩
    show 40 * ((downS s).row - 1) + 0 = (40 * (s.row - 1) + s.col + 1) % 960
    unfold place at hp
    rw [hc] at hp
    have hr := hd.1
    omega
theorem back_pg {s : Scr} (h : Pg s) : Pg (backS s) ∧ place (backS s) = (place s - 1) % 960 := by
  obtain ⟨hd, hp⟩ := up_pg h
  obtain ⟨⟨r0, r1⟩, ⟨c0, c1⟩, hro, hk⟩ := h
  unfold backS
  split
  · refine ⟨⟨⟨r0, r1⟩, ⟨by show 0 ≤ s.col - 1; omega, by show s.col - 1 ≤ 39; omega⟩, hro, hk⟩, ?_⟩
    show 40 * (s.row - 1) + (s.col - 1) = (40 * (s.row - 1) + s.col - 1) % 960
    omega
  · rw [if_pos (by omega)]
    have hc : (upS s).col = s.col := by
      unfold upS
      rw [if_neg (by omega)]
      split
      · rfl
      · rw [if_neg (by rw [hro]; exact Bool.false_ne_true)]
    refine ⟨⟨hd.1, ⟨by show (0 : Int) ≤ 39; omega, by show (39 : Int) ≤ 39; omega⟩, hd.2.2⟩, ?_⟩
    show 40 * ((upS s).row - 1) + 39 = (40 * (s.row - 1) + s.col - 1) % 960
    unfold place at hp
    rw [hc] at hp
    have hr := hd.1
    omega
/-- How far a step goes. -/
def dist (how : Int) : Int := if how = 1 then -1 else if how = 2 then 1 else if how = 3 then 40 else -40
theorem step_pg {how : Int} {s : Scr} (hh : 1 ≤ how ∧ how ≤ 4) (h : Pg s) : Pg (stepS how s) ∧ place (stepS how s) = (place s + dist how) % 960 := by
  have : how = 1 ∨ how = 2 ∨ how = 3 ∨ how = 4 := by omega
  rcases this with rfl | rfl | rfl | rfl
  · exact back_pg h
  · exact fwd_pg h
  · exact down_pg h
  · exact up_pg h
theorem iter_pg {how : Int} (hh : 1 ≤ how ∧ how ≤ 4) : ∀ (n : Nat) {s : Scr}, Pg s → Pg (iterF (stepS how) n s) ∧ place (iterF (stepS how) n s) = (place s + n * dist how) % 960
  | 0, s, h => ⟨h, by
    have := h.range
    show place s = (place s + ((0 : Nat) : Int) * dist how) % 960
    simp only [Int.natCast_zero, Int.zero_mul, Int.add_zero]
    omega⟩
  | n + 1, s, h => by
    obtain ⟨h1, h2⟩ := step_pg hh h
    obtain ⟨h3, h4⟩ := iter_pg hh n h1
    refine ⟨h3, ?_⟩
    show place (iterF (stepS how) n (stepS how s)) = _
    rw [h4, h2]
    have e : ((n + 1 : Nat) : Int) * dist how = n * dist how + dist how := by rw [Int.natCast_add, Int.add_mul]; simp
    rw [e]
    generalize (n : Int) * dist how = q
    generalize dist how = d
    omega
theorem event_move {how n : Int} {s : Scr} : eventS (evMove how n) s = moveS how n s := by kernel_rfl
theorem at_goTo {row col : Int} {s : Scr} : atS row col s = goToS row (w64 (col + 1)) s := by kernel_rfl
theorem at_new {row col : Int} (hr : 1 ≤ row ∧ row ≤ 24) (hc : 0 ≤ col ∧ col ≤ 39) : Pg (atS row col newS) ∧ (atS row col newS).row = row ∧ (atS row col newS).col = col ∧ (atS row col newS).e0 = 0 := by
  rw [at_goTo, w64_id (by omega)]
  unfold goToS
  rw [if_neg (by omega), if_neg (by omega)]
  have e : col + 1 - 1 = col := by omega
  rw [e]
  exact ⟨⟨hr, hc, rfl, ⟨by show (0 : Int) ≤ 1; omega, by show (1 : Int) ≤ 24; omega⟩, ⟨by show (0 : Int) ≤ 0; omega, by show (0 : Int) ≤ 39; omega⟩⟩, rfl, rfl, rfl⟩
theorem move_pg {how n : Int} {s : Scr} (hh : 1 ≤ how ∧ how ≤ 4) (hn : 1 ≤ n ∧ n ≤ 99) (h : Pg s) : Pg (eventS (evMove how n) s) ∧ place (eventS (evMove how n) s) = (place s + n * dist how) % 960 := by
  rw [event_move]
  unfold moveS
  rw [if_neg (by omega)]
  have e := (many_eq (n := n) (by omega : (1 : Int) ≤ 99)).2.2.1 hn.1 hn.2
  rw [e]
  have := iter_pg hh n.toNat h
  rw [show ((n.toNat : Nat) : Int) = n by omega] at this
  exact this
theorem iter_e0 (how : Int) : ∀ (n : Nat) (s : Scr), (iterF (stepS how) n s).e0 = s.e0
  | 0, _ => rfl
  | n + 1, s => by
    show (iterF (stepS how) n (stepS how s)).e0 = s.e0
    rw [iter_e0 how n]
    have hd : ∀ s : Scr, (downS s).e0 = s.e0 := fun s => congrArg Ev.k (evOf_down s)
    have hu : ∀ s : Scr, (upS s).e0 = s.e0 := fun s => by
      unfold upS
      split
      · rfl
      · split
        · rfl
        · split <;> rfl
    unfold stepS
    split
    · unfold backS
      split
      · rfl
      · split
        · exact hu s
        · rfl
    · split
      · unfold fwdS
        split
        · rfl
        · split
          · exact hd s
          · rfl
      · split
        · exact hd s
        · split
          · exact hu s
          · rfl
theorem move_e0 (how n : Int) (s : Scr) : (eventS (evMove how n) s).e0 = s.e0 := by
  rw [event_move]
  unfold moveS
  split
  · rfl
  · exact iter_e0 how _ s
theorem pre_move {how n : Int} {s : Scr} (h : Pg s) (h0 : s.e0 = 0) : PreE (evMove how n) s := ⟨h.on, (fun e => absurd (show (2 : Int) = 1 from e) (by decide)), (fun e => by rw [h0] at e; exact absurd e (by decide))⟩
theorem of_place {s : Scr} (h : Pg s) : s.row = place s / 40 + 1 ∧ s.col = place s % 40 := by
  unfold place
  have := h.1
  have := h.2.1
  omega
theorem moves_true {r c m wh : Int} (hr : 1 ≤ r ∧ r ≤ 24) (hc : 0 ≤ c ∧ c ≤ 39) (hm : 1 ≤ m ∧ m ≤ 99) (hw : 1 ≤ wh ∧ wh ≤ 4) : movesT r c m wh (fun o => o.res = .v (.c (.b true))) := by
  obtain ⟨h1, e1, e2, e3⟩ := at_new hr hc
  have hp : place (atS r c newS) = 40 * (r - 1) + c := by unfold place; rw [e1, e2]
  have hidx : (0 + wh.toNat < 5) := by omega
  have hbk : (1 ≤ ([0, 2, 1, 4, 3] : List Int).getD (0 + wh.toNat) 0 ∧ ([0, 2, 1, 4, 3] : List Int).getD (0 + wh.toNat) 0 ≤ 4) ∧ dist (([0, 2, 1, 4, 3] : List Int).getD (0 + wh.toNat) 0) = - dist wh ∧
      (w64 (place (atS r c newS) + ([0, w64 (960 - m), m, w64 (40 * m), w64 (95040 - w64 (40 * m))] : List Int).getD (0 + wh.toNat) 0)) % 960 = (place (atS r c newS) + m * dist wh) % 960 ∧
      0 ≤ w64 (place (atS r c newS) + ([0, w64 (960 - m), m, w64 (40 * m), w64 (95040 - w64 (40 * m))] : List Int).getD (0 + wh.toNat) 0) := by
    have h960 : w64 (960 - m) = 960 - m := w64_id (by omega)
    have h40 : w64 (40 * m) = 40 * m := w64_id (by omega)
    have h95 : w64 (95040 - w64 (40 * m)) = 95040 - 40 * m := by rw [h40]; exact w64_id (by omega)
    rw [h960, h95, h40, hp]
    have : wh = 1 ∨ wh = 2 ∨ wh = 3 ∨ wh = 4 := by omega
    rcases this with rfl | rfl | rfl | rfl
    · refine ⟨⟨by decide, by decide⟩, by decide, ?_⟩
      show (w64 (40 * (r - 1) + c + (960 - m))) % 960 = (40 * (r - 1) + c + m * (-1)) % 960 ∧ 0 ≤ w64 (40 * (r - 1) + c + (960 - m))
      rw [w64_id (by omega)]; omega
    · refine ⟨⟨by decide, by decide⟩, by decide, ?_⟩
      show (w64 (40 * (r - 1) + c + m)) % 960 = (40 * (r - 1) + c + m * 1) % 960 ∧ 0 ≤ w64 (40 * (r - 1) + c + m)
      rw [w64_id (by omega)]; omega
    · refine ⟨⟨by decide, by decide⟩, by decide, ?_⟩
      show (w64 (40 * (r - 1) + c + 40 * m)) % 960 = (40 * (r - 1) + c + m * 40) % 960 ∧ 0 ≤ w64 (40 * (r - 1) + c + 40 * m)
      rw [w64_id (by omega)]; omega
    · refine ⟨⟨by decide, by decide⟩, by decide, ?_⟩
      show (w64 (40 * (r - 1) + c + (95040 - 40 * m))) % 960 = (40 * (r - 1) + c + m * (-40)) % 960 ∧ 0 ≤ w64 (40 * (r - 1) + c + (95040 - 40 * m))
      rw [w64_id (by omega)]; omega
  obtain ⟨hb, hd, hto, hto0⟩ := hbk
  obtain ⟨h2, p2⟩ := move_pg hw hm h1
  obtain ⟨h3, p3⟩ := move_pg hb hm h2
  have z2 : (eventS (evMove wh m) (atS r c newS)).e0 = 0 := by rw [move_e0]; exact e3
  have hplace : w64 (w64 (40 * w64 (r - 1)) + c) = place (atS r c newS) := by
    rw [hp, w64_id (x := r - 1) (by omega), w64_id (x := 40 * (r - 1)) (by omega), w64_id (by omega)]
  have hmv : mvTo (w64 (w64 (40 * w64 (r - 1)) + c)) m wh = place (eventS (evMove wh m) (atS r c newS)) := by
    unfold mvTo
    rw [hplace, p2, ← hto, Int.tmod_eq_emod_of_nonneg hto0]
  have hback : place (eventS (evMove (([0, 2, 1, 4, 3] : List Int).getD (0 + wh.toNat) 0) m) (eventS (evMove wh m) (atS r c newS))) = place (atS r c newS) := by
    rw [p3, p2, hd]
    have := h1.range
    generalize place (atS r c newS) = p at *
    generalize dist wh = d at *
    rw [Int.mul_neg]
    generalize m * d = q
    omega
  obtain ⟨a1, a2⟩ := of_place h3
  obtain ⟨b1, b2⟩ := of_place h2
  rw [hback, hp] at a1 a2
  have r2 := h2.range
  unfold movesT
  refine ⟨newS_inv, pre_move h1 e3, ?_⟩
  refine selT (dT (by omega)) (selT (dT (by omega)) (selT (dT hidx) ⟨pre_move h2 z2, ?_⟩))
  refine selT (dT (by omega)) (selT (dT (by omega)) (selT (dT hidx) ?_))
  rw [hmv]
  generalize place (eventS (evMove wh m) (atS r c newS)) = p at *
  refine selT (bT e1) (selT (bT e2) (selT (bT (by rw [a1]; omega)) (selT (bT (by rw [a2]; omega)) (selT (bT ?_) ?_))))
  · rw [Int.tdiv_eq_ediv_of_nonneg r2.1, w64_id (x := p / 40) (by omega), w64_id (x := p / 40 + 1) (by omega)]
    exact b1
  · show NS.v (.c (.b ((eventS (evMove wh m) (atS r c newS)).col == Int.tmod p 40))) = _
    rw [bT (by rw [b2, Int.tmod_eq_emod_of_nonneg r2.1])]
def shsMv : List Sh := [.i .i64, .i .i64, .i .i64, .i .i64]
end Go.Proofs.YtjfgphfdaghilaaGreatDoor.scr
end
section
namespace Go.Proofs.YtjfgphfdaghilaaGreatDoor.scr
open Go Go.Nx
set_option maxRecDepth 100000

/-! ### lists -/
theorem getD_set {α : Type} (l : List α) (i j : Nat) (a d : α) (h : i < l.length) : (l.set i a).getD j d = if i = j then a else l.getD j d := by
  rw [List.getD_eq_getElem?_getD, List.getElem?_set]
  by_cases e : i = j
  · subst e; simp [h]
  · simp [e, List.getD_eq_getElem?_getD]
theorem getD_out {α : Type} (l : List α) (j : Nat) (d : α) (h : l.length ≤ j) : l.getD j d = d := by rw [List.getD_eq_getElem?_getD, List.getElem?_eq_none h]; rfl
theorem getD_rep {α : Type} (n j : Nat) (a d : α) (h : j < n) : (List.replicate n a).getD j d = a := by rw [List.getD_eq_getElem?_getD, List.getElem?_replicate, if_pos h]; rfl
theorem getD_sub {α : Type} (l : List α) (o n j : Nat) (d : α) (h : j < n) : ((l.drop o).take n).getD j d = l.getD (o + j) d := by
  rw [List.getD_eq_getElem?_getD, List.getElem?_take, if_pos h, List.getElem?_drop, ← List.getD_eq_getElem?_getD]
theorem getD_splice {α : Type} (l ys : List α) (o j : Nat) (d : α) (h : o + ys.length ≤ l.length) : (splice l o ys).getD j d = if o ≤ j ∧ j < o + ys.length then ys.getD (j - o) d else l.getD j d := by
  simp only [splice, List.getD_eq_getElem?_getD, List.getElem?_append, List.length_take, List.length_append, List.getElem?_take, List.getElem?_drop]
  have hm : min o l.length = o := by omega
  rw [hm]
  by_cases h1 : j < o
  · have : ¬ (o ≤ j ∧ j < o + ys.length) := by omega
    rw [if_neg this]
    have h2 : j < o + ys.length := by omega
    simp [h1, h2]
  · by_cases h2 : j < o + ys.length
    · have hc : o ≤ j ∧ j < o + ys.length := ⟨by omega, h2⟩
      rw [if_pos hc]
      simp [h1, h2]
    · have : ¬ (o ≤ j ∧ j < o + ys.length) := by omega
      rw [if_neg this]
      simp only [h2, if_false]
      congr 2
      omega
theorem getD_spl {α : Type} (l ys : List α) (o n j : Nat) (d : α) (hn : ys.length = n) (h : o + n ≤ l.length) : (spl l o n ys).getD j d = if o ≤ j ∧ j < o + n then ys.getD (j - o) d else l.getD j d := by
  rw [spl_eq hn h, getD_splice _ _ _ _ _ (by omega), hn]
theorem length_spl {α : Type} (l ys : List α) (o n : Nat) (hn : ys.length = n) (h : o + n ≤ l.length) : (spl l o n ys).length = l.length := by
  rw [spl_eq hn h, splice_len _ _ _ (by omega)]
theorem wipeN_spec : ∀ (n : Nat) (sl : List (List Sc)) (i : Nat), i + n ≤ sl.length → (wipeN sl i n).length = sl.length ∧ ∀ j, (wipeN sl i n).getD j [] = if i ≤ j ∧ j < i + n then blk else sl.getD j []
  | 0, sl, i, _ => ⟨rfl, fun j => by rw [if_neg (by omega)]; rfl⟩
  | n + 1, sl, i, h => by
    obtain ⟨h1, h2⟩ := wipeN_spec n (sl.set i blk) (i + 1) (by rw [List.length_set]; omega)
    refine ⟨by rw [wipeN, h1, List.length_set], fun j => ?_⟩
    rw [wipeN, h2 j, getD_set _ _ _ _ _ (by omega)]
    by_cases e : i = j
    · rw [if_neg (by omega), if_pos e, if_pos (by omega)]
    · by_cases e2 : i + 1 ≤ j ∧ j < i + 1 + n
      · rw [if_pos e2, if_pos (by omega)]
      · rw [if_neg e2, if_neg e, if_neg (by omega)]
theorem rep40_length : (List.replicate 40 blk).length = 40 := List.length_replicate
theorem rowsN_spec : ∀ (n : Nat) (sl : List (List Sc)) (r : Nat), r * 40 + n * 40 ≤ sl.length → (rowsN sl r n).length = sl.length ∧ ∀ j, (rowsN sl r n).getD j [] = if r * 40 ≤ j ∧ j < r * 40 + n * 40 then blk else sl.getD j []
  | 0, sl, r, _ => ⟨rfl, fun j => by rw [if_neg (by omega)]; rfl⟩
  | n + 1, sl, r, h => by
    have hl := length_spl sl (List.replicate 40 blk) (r * 40) 40 rep40_length (by omega)
    obtain ⟨h1, h2⟩ := rowsN_spec n (spl sl (r * 40) 40 (List.replicate 40 blk)) (r + 1) (by rw [hl]; omega)
    refine ⟨by rw [rowsN, h1, hl], fun j => ?_⟩
    rw [rowsN, h2 j, getD_spl _ _ _ _ _ _ rep40_length (by omega)]
    by_cases e : r * 40 ≤ j ∧ j < r * 40 + 40
    · rw [if_neg (by omega), if_pos e, getD_rep _ _ _ _ (by omega), if_pos (by omega)]
    · by_cases e2 : (r + 1) * 40 ≤ j ∧ j < (r + 1) * 40 + n * 40
      · rw [if_pos e2, if_pos (by omega)]
      · rw [if_neg e2, if_neg e, if_neg (by omega)]
theorem upSl_spec {sl : List (List Sc)} (h : sl.length = 1000) : (upSl sl).length = 1000 ∧ ∀ j, (upSl sl).getD j [] = if 960 ≤ j ∧ j < 1000 then blk else if 40 ≤ j ∧ j < 960 then sl.getD (j + 40) [] else sl.getD j [] := by
  have hs : ((sl.drop 80).take 920).length = 920 := by simp; omega
  have h1 := length_spl sl _ 40 920 hs (by omega)
  refine ⟨by unfold upSl; rw [length_spl _ _ _ _ rep40_length (by rw [h1]; omega), h1]; exact h, fun j => ?_⟩
  unfold upSl
  rw [getD_spl _ _ _ _ _ _ rep40_length (by rw [h1]; omega)]
  by_cases e : 960 ≤ j ∧ j < 960 + 40
  · rw [if_pos e, getD_rep _ _ _ _ (by omega), if_pos (by omega)]
  · rw [if_neg e, if_neg (by omega), getD_spl _ _ _ _ _ _ hs (by omega)]
    by_cases e2 : 40 ≤ j ∧ j < 40 + 920
    · rw [if_pos e2, getD_sub _ _ _ _ _ (by omega), if_pos (by omega)]
      congr 1; omega
    · rw [if_neg e2, if_neg (by omega)]
theorem dnSl_spec {sl : List (List Sc)} (h : sl.length = 1000) : (dnSl sl).length = 1000 ∧ ∀ j, (dnSl sl).getD j [] = if 40 ≤ j ∧ j < 80 then blk else if 80 ≤ j ∧ j < 1000 then sl.getD (j - 40) [] else sl.getD j [] := by
  have hs : ((sl.drop 40).take 920).length = 920 := by simp; omega
  have h1 := length_spl sl _ 80 920 hs (by omega)
  refine ⟨by unfold dnSl; rw [length_spl _ _ _ _ rep40_length (by rw [h1]; omega), h1]; exact h, fun j => ?_⟩
  unfold dnSl
  rw [getD_spl _ _ _ _ _ _ rep40_length (by rw [h1]; omega)]
  by_cases e : 40 ≤ j ∧ j < 40 + 40
  · rw [if_pos e, getD_rep _ _ _ _ (by omega), if_pos (by omega)]
  · rw [if_neg e, if_neg (by omega), getD_spl _ _ _ _ _ _ hs (by omega)]
    by_cases e2 : 80 ≤ j ∧ j < 80 + 920
    · rw [if_pos e2, getD_sub _ _ _ _ _ (by omega), if_pos (by omega)]
      congr 1; omega
    · rw [if_neg e2, if_neg (by omega)]

/-! ### cells -/
def zAt (xs : List (List Sc)) : Nat → Zn
  | 0 => ⟨0, false, false⟩
  | n + 1 => zNext (zAt xs n) (xs.getD n [])
theorem zRow_spec {masks : Bool} {xs : List (List Sc)} : ∀ (n i : Nat) (out : List (List Sc)), i + n ≤ out.length → (zRow masks xs n i (zAt xs i) out).length = out.length ∧
    ∀ j, (zRow masks xs n i (zAt xs i) out).getD j [] = if i ≤ j ∧ j < i + n then zCell masks (zAt xs (j + 1)) (xs.getD j []) else out.getD j []
  | 0, i, out, _ => ⟨rfl, fun j => by rw [if_neg (by omega)]; rfl⟩
  | n + 1, i, out, h => by
    obtain ⟨h1, h2⟩ := zRow_spec (masks := masks) (xs := xs) n (i + 1) (out.set i (zCell masks (zAt xs (i + 1)) (xs.getD i []))) (by rw [List.length_set]; omega)
    refine ⟨by rw [zRow]; exact h1.trans (by rw [List.length_set]), fun j => ?_⟩
    rw [zRow]
    refine (h2 j).trans ?_
    rw [getD_set _ _ _ _ _ (by omega)]
    by_cases e : i = j
    · subst e; rw [if_neg (by omega), if_pos rfl, if_pos (by omega)]
    · by_cases e2 : i + 1 ≤ j ∧ j < i + 1 + n
      · rw [if_pos e2, if_pos (by omega)]
      · rw [if_neg e2, if_neg e, if_neg (by omega)]
theorem rowG_spec {masks : Bool} {xs : List (List Sc)} : (rowG masks xs).length = 40 ∧ ∀ j, j < 40 → (rowG masks xs).getD j [] = zCell masks (zAt xs (j + 1)) (xs.getD j []) := by
  obtain ⟨h1, h2⟩ := zRow_spec (masks := masks) (xs := xs) 40 0 (List.replicate 40 zc) (by simp)
  refine ⟨h1.trans (by simp), fun j hj => ?_⟩
  have := h2 j
  rw [if_pos (by omega)] at this
  exact this
theorem gridN_spec {masks : Bool} {sl : List (List Sc)} : ∀ (n r : Nat) (g : List (List Sc)), r * 40 + n * 40 ≤ g.length → (gridN masks sl n r g).length = g.length ∧
    ∀ q c, c < 40 → (gridN masks sl n r g).getD (q * 40 + c) [] = if r ≤ q ∧ q < r + n then (rowG masks ((sl.drop (q * 40)).take 40)).getD c [] else g.getD (q * 40 + c) []
  | 0, r, g, _ => ⟨rfl, fun q c hc => by rw [if_neg (by omega)]; rfl⟩
  | n + 1, r, g, h => by
    have hr := (rowG_spec (masks := masks) (xs := (sl.drop (r * 40)).take 40)).1
    have hl := length_spl g _ (r * 40) 40 hr (by omega)
    obtain ⟨h1, h2⟩ := gridN_spec n (r + 1) (spl g (r * 40) 40 (rowG masks ((sl.drop (r * 40)).take 40))) (by rw [hl]; omega)
    refine ⟨by rw [gridN, h1, hl], fun q c hc => ?_⟩
    rw [gridN, h2 q c hc, getD_spl _ _ _ _ _ _ hr (by omega)]
    by_cases e : q = r
    · subst e
      rw [if_neg (by omega), if_pos (by omega), if_pos (by omega), Nat.add_sub_cancel_left]
    · by_cases e2 : r + 1 ≤ q ∧ q < r + 1 + n
      · rw [if_pos e2, if_pos (by omega)]
      · rw [if_neg e2, if_neg (by omega), if_neg (by omega)]
/-- A row of slots. -/
def rowOf (sl : List (List Sc)) (r : Nat) : List (List Sc) := (sl.drop (r * 40)).take 40
theorem grid_get {masks : Bool} {sl : List (List Sc)} {r c : Nat} (hr : r < 25) (hc : c < 40) : (gridG masks sl).getD (r * 40 + c) [] = zCell masks (zAt (rowOf sl r) (c + 1)) (sl.getD (r * 40 + c) []) := by
  have := (gridN_spec (masks := masks) (sl := sl) 25 0 (List.replicate 1000 zc) (by rw [List.length_replicate]; omega)).2 r c hc
  rw [if_pos (by omega), rowG_spec.2 c hc, getD_sub _ _ _ _ _ hc] at this
  exact this
/-- A slot that begins no zone. -/
def Flat (x : List Sc) : Prop := xB x 6 = false ∧ isMos (xI x 0) = false
theorem zNext_flat {z : Zn} {x : List Sc} (h : Flat x) : zNext z x = z := by
  unfold zNext isZ
  rw [h.1, h.2]; rfl
theorem zAt_flat {xs : List (List Sc)} : ∀ (n : Nat), (∀ j, j < n → Flat (xs.getD j [])) → zAt xs n = ⟨0, false, false⟩
  | 0, _ => rfl
  | n + 1, h => by rw [zAt, zNext_flat (h n (by omega)), zAt_flat n fun j hj => h j (by omega)]
/-- The cell of a flat slot behind flat slots. -/
def flatC (x : List Sc) : List Sc := [.i (xI x 0), .i (xI x 1), .i 0, .b (xB x 2), .b false, .b false, .b false, .b (xB x 3), .i (xI x 4), .i (xI x 5)]
theorem grid_flat {masks : Bool} {sl : List (List Sc)} {r c : Nat} (hr : r < 25) (hc : c < 40) (h : ∀ j, j ≤ c → Flat (sl.getD (r * 40 + j) [])) : (gridG masks sl).getD (r * 40 + c) [] = flatC (sl.getD (r * 40 + c) []) := by
  rw [grid_get hr hc, zAt_flat (c + 1) (fun j hj => by unfold rowOf; rw [getD_sub _ _ _ _ _ (by omega)]; exact h j (by omega))]
  unfold zCell flatC
  rw [(h c (Nat.le_refl c)).2, Bool.and_false]
  rfl
theorem flat_blk : Flat blk := ⟨rfl, by decide⟩

/-! ### letters -/
def evL (code : Int) : Ev := ⟨1, 0, 0, 0, 0, 0, code⟩
/-- A letter's slot. -/
def lrow (g : Int) (s : Scr) : List Sc := [.i g, .i s.fg, .b s.fl, .b s.iv, .i 0, .i 0, .b false, .i 0, .b false, .b false]
theorem isMos_small {g : Int} (h : 0 ≤ g ∧ g < 1048576) : isMos g = false := by
  unfold isMos
  rw [w64_id (by omega), dT (by omega)]
  rfl
theorem c7_bnd (code : Int) : 0 ≤ c7 code ∧ c7 code < 128 := by
  unfold c7
  have h1 : 0 ≤ IntKind.u8.wrap code ∧ IntKind.u8.wrap code < 256 := by rw [IntKind.wrap_u8]; omega
  generalize IntKind.u8.wrap code = n at h1
  obtain ⟨m, rfl⟩ : ∃ m : Nat, n = (m : Int) := ⟨n.toNat, by omega⟩
  have hm : m < 256 := by omega
  have key : ∀ m : Fin 256, 0 ≤ bits .and .u8 ((m.val : Nat) : Int) 127 ∧ bits .and .u8 ((m.val : Nat) : Int) 127 < 128 := by decide +kernel
  exact key ⟨m, hm⟩
theorem plainG_bnd (code : Int) : 32 ≤ plainG code ∧ plainG code < 1048576 := by
  have h := c7_bnd code
  unfold plainG
  have hw : w64 (c7 code) = c7 code := w64_id (by omega)
  rw [hw]
  by_cases h0 : c7 code < 32
  · rw [dT h0]; exact ⟨by show (32 : Int) ≤ 32; omega, by show (32 : Int) < 1048576; omega⟩
  rw [dF h0]
  show 32 ≤ (bif c7 code == 94 then (0x2191 : Int) else bif c7 code == 96 then 0x2500 else bif c7 code == 123 then 0x258f else bif c7 code == 125 then 0x2595 else bif c7 code == 126 then 0x2594 else bif c7 code == 127 then 0x25a0 else c7 code) ∧ (bif c7 code == 94 then (0x2191 : Int) else bif c7 code == 96 then 0x2500 else bif c7 code == 123 then 0x258f else bif c7 code == 125 then 0x2595 else bif c7 code == 126 then 0x2594 else bif c7 code == 127 then 0x25a0 else c7 code) < 1048576
  generalize (c7 code == 94) = b1
  generalize (c7 code == 96) = b2
  generalize (c7 code == 123) = b3
  generalize (c7 code == 125) = b4
  generalize (c7 code == 126) = b5
  generalize (c7 code == 127) = b6
  cases b1 <;> cases b2 <;> cases b3 <;> cases b4 <;> cases b5 <;> cases b6 <;> simp only [cond_true, cond_false] <;> omega
theorem good_evL {e : Ev} (h : e.set = 0) : GoodE e := (gvE_0 h).1
theorem write_flat {e : Ev} {s : Scr} (h0 : e.set = 0) (h1 : s.wt = false) (h2 : s.ta = false) (h3 : s.wi = false) :
    writeS e s = stepW { wroteS s e with sl := s.sl.set (s.row.toNat * 40 + s.col.toNat) (lrow (plainG e.code) s) } false := by
  have hg := (gvE_0 h0).2
  have hm : isMos (gvE e) = false := by rw [hg]; exact isMos_small (by have := plainG_bnd e.code; omega)
  have hk : marks (wroteS s e) e = false := by unfold marks; show (s.wt && _) = false; rw [h1]; rfl
  have ht : tallB s e = false := by unfold tallB; rw [h2, Bool.and_false]; rfl
  have hw : wideB s e = false := by unfold wideB; rw [h3, Bool.and_false]; rfl
  unfold writeS
  rw [ht, hw]
  congr 1
  unfold layS slotS slX layR
  rw [hk, hm, hg]
  show Scr.mk _ _ _ _ _ _ _ _ _ _ _ _ _ _ _ (s.wt && true) _ _ _ _ _ _ _ _ _ = _
  rw [Bool.and_true]
  rfl
theorem flat_lrow {code : Int} {s : Scr} : Flat (lrow (plainG code) s) := ⟨rfl, isMos_small (by have := plainG_bnd code; show 0 ≤ plainG code ∧ plainG code < 1048576; omega)⟩
end Go.Proofs.YtjfgphfdaghilaaGreatDoor.scr
end
section
namespace Go.Proofs.YtjfgphfdaghilaaGreatDoor.scr
open Go Go.Nx
set_option maxRecDepth 100000

def Cl (x : Int) : Prop := 0 ≤ x ∧ x ≤ 7
/-- A slot: no sign below a blank, colours, parts. -/
def SlOk (x : List Sc) : Prop := 32 ≤ xI x 0 ∧ Cl (xI x 1) ∧ (0 ≤ xI x 4 ∧ xI x 4 ≤ 2) ∧ (0 ≤ xI x 5 ∧ xI x 5 ≤ 2) ∧ Cl (xI x 7)
def SlsOk (l : List (List Sc)) : Prop := l.length = 1000 ∧ ∀ j, j < 1000 → SlOk (l.getD j [])
theorem slOk_blk : SlOk blk := ⟨by decide, ⟨by decide, by decide⟩, ⟨by decide, by decide⟩, ⟨by decide, by decide⟩, ⟨by decide, by decide⟩⟩
theorem SlsOk.set {l : List (List Sc)} (h : SlsOk l) (i : Nat) {x : List Sc} (hx : SlOk x) : SlsOk (l.set i x) := by
  refine ⟨(List.length_set ..).trans h.1, fun j hj => ?_⟩
  by_cases e : i < l.length
  · rw [getD_set _ _ _ _ _ e]
    split
    · exact hx
    · exact h.2 j hj
  · rw [List.set_eq_of_length_le (by omega)]
    exact h.2 j hj
theorem SlsOk.wipeN : ∀ (n : Nat) {l : List (List Sc)} (i : Nat), SlsOk l → SlsOk (scr.wipeN l i n)
  | 0, _, _, h => h
  | n + 1, _, i, h => SlsOk.wipeN n (i + 1) (h.set i slOk_blk)
theorem SlsOk.rows {l : List (List Sc)} {r n : Nat} (h : SlsOk l) (hr : r * 40 + n * 40 ≤ 1000) : SlsOk (rowsN l r n) := by
  obtain ⟨h1, h2⟩ := rowsN_spec n l r (by rw [h.1]; exact hr)
  refine ⟨h1.trans h.1, fun j hj => ?_⟩
  rw [h2]
  split
  · exact slOk_blk
  · exact h.2 j hj
theorem SlsOk.up {l : List (List Sc)} (h : SlsOk l) : SlsOk (upSl l) := by
  obtain ⟨h1, h2⟩ := upSl_spec h.1
  refine ⟨h1, fun j hj => ?_⟩
  rw [h2]
  split
  · exact slOk_blk
  · split
    · exact h.2 _ (by omega)
    · exact h.2 j hj
theorem SlsOk.dn {l : List (List Sc)} (h : SlsOk l) : SlsOk (dnSl l) := by
  obtain ⟨h1, h2⟩ := dnSl_spec h.1
  refine ⟨h1, fun j hj => ?_⟩
  rw [h2]
  split
  · exact slOk_blk
  · split
    · exact h.2 _ (by omega)
    · exact h.2 j hj
/-- What holds. -/
structure Ins (r : Bool) (s : Scr) : Prop where
  on : On s
  ro : s.ro = r
  fg : Cl s.fg
  bg : Cl s.bg
  sl : SlsOk s.sl
theorem cl7 : Cl 7 := ⟨by decide, by decide⟩
theorem cl0 : Cl 0 := ⟨by decide, by decide⟩
section
variable {r : Bool} {s : Scr}
theorem Ins.reset (h : Ins r s) : Ins r (resetS s) := ⟨h.on, h.ro, cl7, cl0, h.sl⟩
theorem Ins.down (h : Ins r s) : Ins r (downS s) := by
  refine ⟨downS_on h.on, ?_, ?_, ?_, ?_⟩
  all_goals unfold downS
  · split; exact h.ro; split; exact h.ro; split; exact h.ro; exact h.ro
  · split; exact h.fg; split; exact h.fg; split; exact h.fg; exact h.fg
  · split; exact h.bg; split; exact h.bg; split; exact h.bg; exact h.bg
  · split; exact h.sl; split; exact h.sl; split; exact h.sl.up; exact h.sl
theorem Ins.up (h : Ins r s) : Ins r (upS s) := by
  refine ⟨upS_on h.on, ?_, ?_, ?_, ?_⟩
  all_goals unfold upS
  · split; exact h.ro; split; exact h.ro; split; exact h.ro; exact h.ro
  · split; exact h.fg; split; exact h.fg; split; exact h.fg; exact h.fg
  · split; exact h.bg; split; exact h.bg; split; exact h.bg; exact h.bg
  · split; exact h.sl; split; exact h.sl; split; exact h.sl.dn; exact h.sl
theorem Ins.back (h : Ins r s) : Ins r (backS s) := by
  have o := backS_on h.on
  have u := h.up
  unfold backS at o ⊢
  split
  · rename_i c; rw [if_pos c] at o; exact ⟨o, h.ro, h.fg, h.bg, h.sl⟩
  · rename_i c
    rw [if_neg c] at o
    split
    · rename_i d; rw [if_pos d] at o; exact ⟨o, u.ro, u.fg, u.bg, u.sl⟩
    · exact h
theorem Ins.fwd (h : Ins r s) : Ins r (fwdS s) := by
  have o := fwdS_on h.on
  have u := h.down
  unfold fwdS at o ⊢
  split
  · rename_i c; rw [if_pos c] at o; exact ⟨o, h.ro, h.fg, h.bg, h.sl⟩
  · rename_i c
    rw [if_neg c] at o
    split
    · rename_i d; rw [if_pos d] at o; exact ⟨o, u.ro, u.fg, u.bg, u.sl⟩
    · exact h
theorem Ins.step (how : Int) (h : Ins r s) : Ins r (stepS how s) := by
  unfold stepS
  split
  · exact h.back
  split
  · exact h.fwd
  split
  · exact h.down
  split
  · exact h.up
  · exact h
theorem Ins.iter {f : Scr → Scr} (hf : ∀ s, Ins r s → Ins r (f s)) : ∀ (n : Nat) {s : Scr}, Ins r s → Ins r (iterF f n s)
  | 0, _, h => h
  | n + 1, _, h => Ins.iter hf n (hf _ h)
theorem Ins.move (how n : Int) (h : Ins r s) : Ins r (moveS how n s) := by
  have o := moveS_on (how := how) (n := n) h.on
  unfold moveS at o ⊢
  split
  · rename_i c; rw [if_pos c] at o; exact ⟨o, h.ro, h.fg, h.bg, h.sl⟩
  · exact Ins.iter (fun s => Ins.step how) _ h
theorem Ins.wipe (a b c : Int) (h : Ins r s) : Ins r (wipeS a b c s) := ⟨h.on, h.ro, h.fg, h.bg, h.sl.wipeN _ _⟩
theorem Ins.wiper {a b : Int} (h : Ins r s) (ha : 0 ≤ a ∧ a ≤ 25) (hb : b ≤ 24) : Ins r (wipeRS a b s) := ⟨h.on, h.ro, h.fg, h.bg, h.sl.rows (by omega)⟩
theorem Ins.home (h : Ins r s) : Ins r (homeS s) := ⟨homeS_on h.on, h.ro, cl7, cl0, h.sl⟩
theorem Ins.clear (w : Int) (h : Ins r s) : Ins r (clearS w s) := by
  unfold clearS
  split
  · exact (h.wiper (by decide) (by decide)).home
  split
  · exact h.wipe _ _ _
  · exact h
theorem Ins.eraR (w : Int) (h : Ins r s) : Ins r (eraRS w s) := by
  unfold eraRS
  split
  · exact h.wipe _ _ _
  split
  · exact h.wipe _ _ _
  split
  · exact h.wipe _ _ _
  · exact h
theorem Ins.eraP (w : Int) (h : Ins r s) : Ins r (eraPS w s) := by
  obtain ⟨⟨r0, r1⟩, _⟩ := h.on
  unfold eraPS
  split
  · split
    · exact (h.wiper (by omega) (by decide)).eraR _
    · exact h.eraR _
  split
  · exact (h.wiper (by decide) (by omega)).eraR _
  split
  · exact h.wiper (by decide) (by decide)
  · exact h
theorem Ins.goTo (row col : Int) (h : Ins r s) : Ins r (goToS row col s) := by
  have o := goToS_on (row := row) (col := col) h.on
  unfold goToS at o ⊢
  split
  · exact h
  · rename_i c
    rw [if_neg c] at o
    split
    · rename_i d; rw [if_pos d] at o; exact ⟨o, h.ro, cl7, cl0, h.sl⟩
    · rename_i d; rw [if_neg d] at o; exact ⟨o, h.ro, cl7, cl0, h.sl⟩
theorem Ins.wait {a : Int} (h : Ins r s) (ha : (80 ≤ a ∧ a < 88) ∨ a = 88 ∨ a = 95 ∨ a = 90 ∨ a = 89) : Ins r (waitS a s) := by
  unfold waitS
  split
  · exact ⟨h.on, h.ro, h.fg, h.bg, h.sl⟩
  split
  · exact ⟨h.on, h.ro, h.fg, h.bg, h.sl⟩
  · refine ⟨h.on, h.ro, h.fg, ?_, h.sl⟩
    show Cl (w64 (a - 80))
    rw [w64_id (by omega)]
    exact ⟨by omega, by omega⟩
theorem Ins.attrB (a : Int) (h : Ins r s) : Ins r (scr.attrB a s) := by
  unfold scr.attrB
  split
  · exact ⟨h.on, h.ro, h.fg, h.bg, h.sl⟩
  split
  · exact ⟨h.on, h.ro, h.fg, h.bg, h.sl⟩
  split
  · exact ⟨h.on, h.ro, h.fg, h.bg, h.sl⟩
  · exact h
theorem Ins.attr (a : Int) (h : Ins r s) : Ins r (attrS a s) := by
  unfold attrS
  refine Ins.attrB a ?_
  split
  · rename_i c; exact ⟨h.on, h.ro, ⟨by show 0 ≤ a - 64; omega, by show a - 64 ≤ 7; omega⟩, h.bg, h.sl⟩
  split
  · rename_i c; exact h.wait c
  · exact h
theorem SlsOk.layR {l : List (List Sc)} (h : SlsOk l) {x : Sl} (hx : 32 ≤ x.g ∧ Cl x.fg ∧ Cl x.bg ∧ (0 ≤ x.w ∧ x.w ≤ 2)) {a c : Nat} {hh : Int} (h2 : 0 ≤ hh ∧ hh ≤ 2) {wide : Bool} : SlsOk (scr.layR l a c x hh wide) := by
  have k : ∀ w : Int, 0 ≤ w ∧ w ≤ 2 → SlOk (slR x hh w) := fun w hw => ⟨hx.1, hx.2.1, h2, hw, hx.2.2.1⟩
  cases wide with
  | true => exact (h.set _ (k 1 (by decide))).set _ (k 2 (by decide))
  | false => exact h.set _ (k _ hx.2.2.2)
theorem Ins.lay (h : Ins r s) {x : Sl} (hx : 32 ≤ x.g ∧ Cl x.fg ∧ Cl x.bg ∧ (0 ≤ x.w ∧ x.w ≤ 2)) {a b : Bool} : Ins r (layS s x a b) := by
  refine ⟨h.on, h.ro, h.fg, h.bg, ?_⟩
  unfold layS
  cases a with
  | true => exact (h.sl.layR hx (by decide)).layR hx (by decide)
  | false => exact h.sl.layR hx (by decide)
theorem Ins.stepW {wide : Bool} (h : Ins r s) : Ins r (scr.stepW s wide) := by
  have o := stepW_on (wide := wide) h.on
  unfold scr.stepW at o ⊢
  split
  · rename_i c; rw [if_pos c] at o; exact ⟨o, h.ro, h.fg, h.bg, h.sl⟩
  · rename_i c
    rw [if_neg c] at o
    split
    · rename_i d; rw [if_pos d] at o; exact ⟨o, h.ro, h.fg, h.bg, h.sl⟩
    · rename_i d
      rw [if_neg d] at o
      have g : ∀ x : Int, (downS { s with col := x }).ro = r ∧ Cl (downS { s with col := x }).fg ∧ Cl (downS { s with col := x }).bg ∧ SlsOk (downS { s with col := x }).sl := fun x => by
        unfold downS
        split
        · exact ⟨h.ro, h.fg, h.bg, h.sl⟩
        split
        · exact ⟨h.ro, h.fg, h.bg, h.sl⟩
        split
        · exact ⟨h.ro, h.fg, h.bg, h.sl.up⟩
        · exact ⟨h.ro, h.fg, h.bg, h.sl⟩
      obtain ⟨g1, g2, g3, g4⟩ := g (s.col + (bif wide then 2 else 1))
      exact ⟨o, g1, g2, g3, g4⟩
theorem Ins.write (e : Ev) (h : Ins r s) : Ins r (writeS e s) := by
  have h1 : Ins r (slotS (wroteS s e) e) := ⟨h.on, h.ro, h.fg, h.bg, h.sl⟩
  refine (h1.lay ⟨gvE_ge e, h.fg, ?_, by show (0 : Int) ≤ 0; omega, by show (0 : Int) ≤ 2; omega⟩).stepW
  show Cl (if (isMos (gvE e) || marks (wroteS s e) e) = true then s.bg else 0)
  split
  · exact h.bg
  · exact cl0
theorem Ins.againN : ∀ (n : Nat) {s : Scr}, Ins r s → Ins r (scr.againN n s)
  | 0, _, h => h
  | n + 1, _, h => Ins.againN n (h.write _)
theorem Ins.again (a : Int) (h : Ins r s) : Ins r (againS a s) := by
  unfold againS
  split
  · exact h.againN _
  · exact h
theorem Ins.event (e : Ev) (h : Ins r s) : Ins r (eventS e s) := by
  have st : ∀ {p : Prop} [Decidable p] {a b : Scr}, Ins r a → Ins r b → Ins r (if p then a else b) := fun ha hb => by
    split
    · exact ha
    · exact hb
  unfold eventS
  exact st (h.write e) (st (h.again _) (st (h.move _ _) (st (h.clear _) (st h.home (st (h.goTo _ _) (st (h.attr _) (st ⟨h.on, h.ro, h.fg, h.bg, h.sl⟩ (st ⟨h.on, h.ro, h.fg, h.bg, h.sl⟩ (st (st (h.eraP _) (st (h.eraR _) h)) h)))))))))
end
theorem newS_get {j : Nat} (h : j < 1000) : newS.sl.getD j [] = blk := getD_rep 1000 j blk [] h
theorem newS_len : newS.sl.length = 1000 := by show (List.replicate 1000 blk).length = 1000; rw [List.length_replicate]
theorem ins_new (r : Bool) : Ins r (rollsS r newS) := ⟨newS_inv.1, rfl, cl7, cl0, newS_len, fun j hj => by
  show SlOk (newS.sl.getD j [])
  rw [newS_get hj]; exact slOk_blk⟩
/-- A cell of the grid. -/
def CellOk (x : List Sc) : Prop := Cl (xI x 1) ∧ Cl (xI x 2) ∧ (0 ≤ xI x 8 ∧ xI x 8 ≤ 2) ∧ (0 ≤ xI x 9 ∧ xI x 9 ≤ 2) ∧ 32 ≤ xI x 0
theorem mGlV_ge (p : Int) (b : Bool) : 32 ≤ mGlV (patV p) b := by
  unfold mGlV patV
  have key : ∀ m : Fin 64, ∀ b : Bool, (32 : Int) ≤ (bif b then bits .or .i64 (bits .or .i64 1048576 ((m.val : Nat) : Int)) 64 else bits .or .i64 1048576 ((m.val : Nat) : Int)) := by decide +kernel
  generalize bits .and .i64 (w64 (p - 1048576)) 63 = y
  have e : bits .and .i64 y 63 = y % 64 := and_mask64 y 6 (by decide)
  have e2 : y % 64 = (((y % 64).toNat : Nat) : Int) := by omega
  rw [e, e2]
  exact key ⟨(y % 64).toNat, by omega⟩ b
theorem zAt_bg {xs : List (List Sc)} : ∀ (n : Nat), (∀ j, j < n → SlOk (xs.getD j [])) → Cl (zAt xs n).bg
  | 0, _ => cl0
  | n + 1, h => by
    show Cl (bif isZ (xs.getD n []) then xI (xs.getD n []) 7 else (zAt xs n).bg)
    cases isZ (xs.getD n []) with
    | true => exact (h n (by omega)).2.2.2.2
    | false => exact zAt_bg n fun j hj => h j (by omega)
theorem cell_ok {ma : Bool} {sl : List (List Sc)} (h : SlsOk sl) {r c : Nat} (hr : r < 25) (hc : c < 40) : CellOk ((gridG ma sl).getD (r * 40 + c) []) := by
  rw [grid_get hr hc]
  have hx := h.2 (r * 40 + c) (by omega)
  have hb : Cl (zAt (rowOf sl r) (c + 1)).bg := zAt_bg _ fun j hj => by unfold rowOf; rw [getD_sub _ _ _ _ _ (by omega)]; exact h.2 _ (by omega)
  generalize zAt (rowOf sl r) (c + 1) = z at hb ⊢
  generalize sl.getD (r * 40 + c) [] = x at hx ⊢
  refine ⟨hx.2.1, hb, hx.2.2.1, hx.2.2.2.1, ?_⟩
  show 32 ≤ (bif ma && z.co then 32 else bif isMos (xI x 0) then mGlV (patV (xI x 0)) z.un else xI x 0)
  cases (ma && z.co) with
  | true => exact Int.le_refl 32
  | false =>
    cases isMos (xI x 0) with
    | true => exact mGlV_ge _ _
    | false => exact hx.1
end Go.Proofs.YtjfgphfdaghilaaGreatDoor.scr
end
