/-
  The screen: the cells of a row, and of the grid.
-/
import Derived.Test.YtdijbpokklgjlaaGreatDoorScF
set_option linter.unusedVariables false
namespace Go.Proofs.YtdijbpokklgjlaaGreatDoor.scr
open Go Go.Nx
set_option maxRecDepth 100000

noncomputable def c_zis : FuncId → Option Con := conOf [(48, tOf)]
theorem kc_zis : ∀ f T, c_zis f = some T → Known Tryz.prog [] f T := (Knowns.cons kOf Knowns.nil).get
noncomputable def t_zis : Con := fun args regs => nfun Tryz.prog [] c_zis [] Tryz.f47 args regs
theorem k_zis : Known Tryz.prog [] 47 t_zis := known_inl Tryz.func47 rfl (by kernel_rfl) mixed kc_zis (by kernel_rfl)
/-- The kinds of a cell's cells. -/
def KC : List CK := [.i .i64, .i .i64, .i .i64, .b, .b, .b, .b, .b, .i .i64, .i .i64]
def zc : List Sc := [.i 0, .i 0, .i 0, .b false, .b false, .b false, .b false, .b false, .i 0, .i 0]
def xI (x : List Sc) (j : Nat) : Int := (x.getD j (.i 0)).n
def xB (x : List Sc) (j : Nat) : Bool := (x.getD j (.i 0)).t
def isZ (x : List Sc) : Bool := xB x 6 || isMos (xI x 0)
theorem zis_tree (x : List Sc) (R : Out → Prop) : (t_zis [.ag (rowCells KS x)] []).run R = sel (isMos (xI x 0)) (sel (xB x 6) (R ⟨.v (.c (.b true)), []⟩) (R ⟨.v (.c (.b true)), []⟩)) (sel (xB x 6) (R ⟨.v (.c (.b true)), []⟩) (R ⟨.v (.c (.b false)), []⟩)) := by kernel_rfl
noncomputable def tZis : Con := fun args regs => match args, regs with
  | [.ag [.i .i64 g, .i .i64 fg, .b fl, .b iv, .i .i64 h, .i .i64 w, .b mk, .i .i64 bg, .b un, .b co]], [] => .ret ⟨.v (.c (.b (mk || isMos g))), []⟩
  | _, _ => .fail
theorem kZis : Known Tryz.prog [] 47 tZis := by
  refine k_zis.less fun args regs R h => Box.out ?_
  unfold tZis at h
  split at h
  case h_2 => exact h.elim
  rename_i g fg fl iv hh w mk bg un co
  have h : R ⟨.v (.c (.b (mk || isMos g))), []⟩ := h
  refine Box.of_eq (zis_tree [.i g, .i fg, .b fl, .b iv, .i hh, .i w, .b mk, .i bg, .b un, .b co] R) (sel_b (fun a => sel_b (fun b => ?_) fun b => ?_) fun a => sel_b (fun b => ?_) fun b => ?_)
  all_goals
    have a : isMos g = _ := a
    have b : mk = _ := b
    rw [a, b] at h
    exact h
noncomputable def mGlV (p : Int) (b : Bool) : Int := bif b then bits .or .i64 (bits .or .i64 1048576 (bits .and .i64 p 63)) 64 else bits .or .i64 1048576 (bits .and .i64 p 63)
theorem mgl_tree (p : Int) (b : Bool) (R : Out → Prop) : (t_mglyph [.c (.i .i64 p), .c (.b b)] []).run R = sel b (R (gO (bits .or .i64 (bits .or .i64 1048576 (bits .and .i64 p 63)) 64))) (R (gO (bits .or .i64 1048576 (bits .and .i64 p 63)))) := by kernel_rfl
noncomputable def tMgl : Con := fun args regs => match args, regs with
  | [.c (.i .i64 p), .c (.b b)], [] => .ret (gO (mGlV p b))
  | _, _ => .fail
theorem kMgl : Known Tryz.prog [] 49 tMgl := by
  refine k_mglyph.less fun args regs R h => Box.out ?_
  unfold tMgl at h
  split at h
  case h_2 => exact h.elim
  rename_i p b
  have h : R (gO (mGlV p b)) := h
  refine Box.of_eq (mgl_tree p b R) (sel_b (fun a => ?_) fun a => ?_)
  · rw [a] at h; exact h
  · rw [a] at h; exact h

/-! ### a row -/
/-- What goes on along a row: the ground, the line, what is concealed. -/
structure Zn where
  bg : Int
  un : Bool
  co : Bool
def zNext (z : Zn) (x : List Sc) : Zn := ⟨bif isZ x then xI x 7 else z.bg, bif xB x 6 then xB x 8 else z.un, bif xB x 6 then xB x 9 else z.co⟩
/-- A cell, behind what its slot changed. -/
noncomputable def zCell (masks : Bool) (z : Zn) (x : List Sc) : List Sc :=
  [.i (bif masks && z.co then 32 else bif isMos (xI x 0) then mGlV (patV (xI x 0)) z.un else xI x 0), .i (xI x 1), .i z.bg, .b (xB x 2), .b z.co, .b false, .b (!isMos (xI x 0) && z.un), .b (xB x 3), .i (xI x 4), .i (xI x 5)]
noncomputable def zRow (masks : Bool) (xs : List (List Sc)) : Nat → Nat → Zn → List (List Sc) → List (List Sc)
  | 0, _, _, out => out
  | n + 1, i, z, out => zRow masks xs n (i + 1) (zNext z (xs.getD i [])) (out.set i (zCell masks (zNext z (xs.getD i [])) (xs.getD i [])))
noncomputable def c_zrow : FuncId → Option Con := conOf [(47, tZis), (48, tOf), (49, tMgl)]
theorem kc_zrow : ∀ f T, c_zrow f = some T → Known Tryz.prog [] f T := (Knowns.cons kZis (Knowns.cons kOf (Knowns.cons kMgl Knowns.nil))).get
noncomputable def X_zrow : Cx := { P := Tryz.prog, con := c_zrow, glob := [], m := 0, loops := [] }
noncomputable def p_zrow : List Pat := pats 69 [(1, .b), (4, .p 0 0 0), (5, .p 1 0 0), (6, .i .i64), (7, .b), (8, .b), (15, .rs KS 40), (16, .i .i64)]
noncomputable def r_zrow : List RPat := [.sg 400 42 [.recs KC 40], .sg 400 42 [.recs KC 40]]
noncomputable def b_zrow : Code := bodyLoop Tryz.f36 0
def lf_zrow (masks : Bool) (z : Zn) (xs : List (List Sc)) (i : Int) (res out : List (List Sc)) : List Leaf × List (List Leaf) := ([.b masks, .i z.bg, .b z.un, .b z.co, .r xs, .i i], [[.r res], [.r out]])
noncomputable def s_zrow (masks : Bool) (z : Zn) (xs : List (List Sc)) (i : Int) (res out : List (List Sc)) : St := mkSt p_zrow r_zrow (lf_zrow masks z xs i res out)
noncomputable def e_zrow (res out : List (List Sc)) : St := { fr := frame 69 [(4, .v (.c (.p 0 0 0))), (5, .v (.c (.p 1 0 0)))], rg := [some ⟨400, 42, .sg [.recs KC 40 res]⟩, some ⟨400, 42, .sg [.recs KC 40 out]⟩] }
noncomputable def cellT (gl fg bg : Int) (fl co un iv : Bool) (h w : Int) : List Sc := [.i gl, .i fg, .i bg, .b fl, .b co, .b false, .b un, .b iv, .i h, .i w]
noncomputable def zT (masks : Bool) (xs : List (List Sc)) (i : Int) (res out : List (List Sc)) (x : List Sc) (bg : Int) (un co : Bool) (R : RO → Prop) : Prop :=
  let N := fun (gl : Int) (u : Bool) => sel (decide (0 ≤ i)) (sel (decide (i < 40)) (sel (decide (i.toNat < 40)) (R (.next (s_zrow masks ⟨bg, un, co⟩ xs (w64 (i + 1)) res (out.set i.toNat (cellT gl (xI x 1) bg (xB x 2) co u (xB x 3) (xI x 4) (xI x 5)))))) False) False) False
  let C := fun (gl : Int) (u : Bool) => sel masks (sel co (N 32 u) (N gl u)) (N gl u)
  sel (isMos (xI x 0)) (C (mGlV (patV (xI x 0)) un) false) (C (xI x 0) un)
noncomputable def zA (masks : Bool) (z : Zn) (xs : List (List Sc)) (i : Int) (res out : List (List Sc)) (x : List Sc) (bg : Int) (R : RO → Prop) : Prop :=
  sel (xB x 6) (zT masks xs i res out x bg (xB x 8) (xB x 9) R) (zT masks xs i res out x bg z.un z.co R)
theorem round_zrow (masks : Bool) (z : Zn) (xs : List (List Sc)) (i : Int) (res out : List (List Sc)) (R : RO → Prop) : (roundT X_zrow 0 [1, 4, 5, 6, 7, 8, 15, 16] [4, 5] b_zrow (s_zrow masks z xs i res out)).run R =
    sel (decide (i < 40)) (sel (decide (0 ≤ i)) (sel (decide (i < 40)) (sel (decide (i.toNat < 40))
      (sel (isZ (xs.getD i.toNat [])) (zA masks z xs i res out (xs.getD i.toNat []) (xI (xs.getD i.toNat []) 7) R) (zA masks z xs i res out (xs.getD i.toNat []) z.bg R)) False) False) False)
      (R (.done .normal (e_zrow res out))) := by kernel_rfl
theorem zA_in {masks : Bool} {z : Zn} {xs : List (List Sc)} {i : Int} {res out : List (List Sc)} {x : List Sc} {R : RO → Prop} (h0 : 0 ≤ i) (h1 : i < 40)
    (hR : R (.next (s_zrow masks (zNext z x) xs (w64 (i + 1)) res (out.set i.toNat (zCell masks (zNext z x) x))))) : sel (isZ x) (zA masks z xs i res out x (xI x 7) R) (zA masks z xs i res out x z.bg R) := by
  have key : ∀ {bg : Int} {un co : Bool}, zNext z x = ⟨bg, un, co⟩ → zT masks xs i res out x bg un co R := by
    intro bg un co he
    rw [he] at hR
    have N : ∀ {gl : Int} {u : Bool}, zCell masks ⟨bg, un, co⟩ x = cellT gl (xI x 1) bg (xB x 2) co u (xB x 3) (xI x 4) (xI x 5) →
        sel (decide (0 ≤ i)) (sel (decide (i < 40)) (sel (decide (i.toNat < 40)) (R (.next (s_zrow masks ⟨bg, un, co⟩ xs (w64 (i + 1)) res (out.set i.toNat (cellT gl (xI x 1) bg (xB x 2) co u (xB x 3) (xI x 4) (xI x 5)))))) False) False) False := fun h => by
      rw [h] at hR
      exact selT (dT h0) (selT (dT h1) (selT (dT (by omega)) hR))
    unfold zT
    refine sel_b (fun hm => sel_b (fun ha => sel_b (fun hc => N ?_) fun hc => N ?_) fun ha => N ?_) fun hm => sel_b (fun ha => sel_b (fun hc => N ?_) fun hc => N ?_) fun ha => N ?_
    · unfold zCell cellT; rw [hm, ha, hc]; rfl
    · unfold zCell cellT; rw [hm, ha, hc]; rfl
    · unfold zCell cellT; rw [hm, ha]; rfl
    · unfold zCell cellT; rw [hm, ha, hc]; rfl
    · unfold zCell cellT; rw [hm, ha, hc]; rfl
    · unfold zCell cellT; rw [hm, ha]; rfl
  refine sel_b (fun hz => sel_b (fun h6 => key ?_) fun h6 => key ?_) fun hz => sel_b (fun h6 => key ?_) fun h6 => key ?_
  all_goals (unfold zNext; rw [hz, h6]; rfl)
noncomputable def l_zrow : List Leaf × List (List Leaf) → Tr (NExit × St) := fun a => match a with
  | ([.b masks, .i bg, .b un, .b co, .r xs, .i i], [[.r res], [.r out]]) => .must (0 ≤ i ∧ i ≤ 40) (.ret (.normal, e_zrow res (zRow masks xs (40 - i).toNat i.toNat ⟨bg, un, co⟩ out)))
  | _ => .fail
set_option maxRecDepth 100000 in
theorem loop_zrow : LOk Tryz.prog [] 0 0 b_zrow (sumP p_zrow r_zrow l_zrow) := by
  refine sumP_ok (X := X_zrow) kc_zrow mixed (LAll.none (by kernel_rfl)) [1, 4, 5, 6, 7, 8, 15, 16] [4, 5] _ _ _ (fun a => match a with
    | ([.b _, .i _, .b _, .b _, .r _, .i i], [[.r _], [.r _]]) => (40 - i).toNat
    | _ => 0) ?_
  intro a R h
  unfold l_zrow at h
  split at h
  case h_2 => exact h.elim
  rename_i masks bg un co xs i res out
  obtain ⟨⟨h1, h2⟩, h⟩ := h
  have h' : R (.normal, e_zrow res (zRow masks xs (40 - i).toNat i.toNat ⟨bg, un, co⟩ out)) := h
  clear h
  refine Box.out (Box.of_eq (round_zrow masks ⟨bg, un, co⟩ xs i res out _) (sel_by (fun e => ?_) fun e => ?_))
  · refine selT (dT h1) (selT (dT e) (selT (dT (by omega)) (zA_in h1 e ?_)))
    obtain ⟨k, hk⟩ : ∃ k : Nat, (40 - i).toNat = k + 1 := ⟨(39 - i).toNat, by omega⟩
    have hw : w64 (i + 1) = i + 1 := w64_id (by omega)
    rw [hw]
    refine ⟨lf_zrow masks (zNext ⟨bg, un, co⟩ (xs.getD i.toNat [])) xs (i + 1) res (out.set i.toNat (zCell masks (zNext ⟨bg, un, co⟩ (xs.getD i.toNat [])) (xs.getD i.toNat []))), rfl, by show (40 - (i + 1)).toNat < (40 - i).toNat; omega, ⟨by omega, by omega⟩, ?_⟩
    show R (.normal, e_zrow res (zRow masks xs (40 - (i + 1)).toNat (i + 1).toNat (zNext ⟨bg, un, co⟩ (xs.getD i.toNat [])) (out.set i.toNat (zCell masks (zNext ⟨bg, un, co⟩ (xs.getD i.toNat [])) (xs.getD i.toNat [])))))
    have e1 : (40 - (i + 1)).toNat = k := by omega
    have e2 : (i + 1).toNat = i.toNat + 1 := by omega
    rw [hk] at h'
    rw [e1, e2]
    exact h'
  · have hz : (40 - i).toNat = 0 := by omega
    rw [hz] at h'
    exact h'
noncomputable def t_zrow : Con := fun args regs => if regs.length = 0 then nfun Tryz.prog [] c_zrow [(0, [1, 4, 5, 6, 7, 8, 15, 16], sumP p_zrow r_zrow l_zrow)] Tryz.f36 args regs else .fail
theorem k_zrow : Known Tryz.prog [] 36 t_zrow := known_loops 0 Tryz.func36 rfl (by kernel_rfl) mixed kc_zrow (LAll.one (id := 0) (body := b_zrow) (by kernel_rfl) rfl loop_zrow)
noncomputable def rowG (masks : Bool) (xs : List (List Sc)) : List (List Sc) := zRow masks xs 40 0 ⟨0, false, false⟩ (List.replicate 40 zc)
theorem zrow_tree (masks : Bool) (xs : List (List Sc)) (R : Out → Prop) : (t_zrow [.sg [.recs KS 40 xs], .c (.b masks)] []).run R = (((0 : Int) ≤ 0 ∧ (0 : Int) ≤ 40) ∧ R ⟨.v (.sg [.recs KC 40 (rowG masks xs)]), []⟩) := by kernel_rfl
noncomputable def tZrow : Con := fun args regs => match args, regs with
  | [.sg [.recs ks n xs], .c (.b masks)], [] => if ks = KS ∧ n = 40 then .ret ⟨.v (.sg [.recs KC 40 (rowG masks xs)]), []⟩ else .fail
  | _, _ => .fail
theorem kZrow : Known Tryz.prog [] 36 tZrow := by
  refine k_zrow.less fun args regs R h => Box.out ?_
  unfold tZrow at h
  split at h
  case h_2 => exact h.elim
  split at h
  case isFalse => exact h.elim
  rename_i hc
  obtain ⟨rfl, rfl⟩ := hc
  exact Box.of_eq (zrow_tree _ _ R) ⟨⟨by decide, by decide⟩, h⟩

/-! ### the grid -/
noncomputable def gridN (masks : Bool) (sl : List (List Sc)) : Nat → Nat → List (List Sc) → List (List Sc)
  | 0, _, g => g
  | n + 1, r, g => gridN masks sl n (r + 1) (spl g (r * 40) 40 (rowG masks ((sl.drop (r * 40)).take 40)))
noncomputable def gridG (masks : Bool) (sl : List (List Sc)) : List (List Sc) := gridN masks sl 25 0 (List.replicate 1000 zc)
noncomputable def c_grid : FuncId → Option Con := conOf [(36, tZrow)]
theorem kc_grid : ∀ f T, c_grid f = some T → Known Tryz.prog [] f T := (Knowns.cons kZrow Knowns.nil).get
noncomputable def X_grid : Cx := { P := Tryz.prog, con := c_grid, glob := [], m := 1, loops := [] }
noncomputable def t_grid : Con := fun args regs => if regs.length = 1 then nfun Tryz.prog [] c_grid [(0, [0, 2, 3, 5], unroll X_grid 0 [0, 2, 3, 5] [2, 3] (bodyLoop Tryz.f27 0) 26)] Tryz.f27 args regs else .fail
theorem k_grid : Known Tryz.prog [] 27 t_grid := known_loops 1 Tryz.func27 rfl (by kernel_rfl) mixed kc_grid (LAll.one (id := 0) (body := bodyLoop Tryz.f27 0) (by kernel_rfl) rfl (unroll_ok (X := X_grid) kc_grid mixed (LAll.none (by kernel_rfl)) [0, 2, 3, 5] [2, 3] 26))
theorem grid_tree (s : Scr) (R : Out → Prop) : (t_grid [.c (.p 0 0 0)] [scr s]).run R = R ⟨.v (.sg [.recs KC 1000 (gridG s.ma s.sl)]), [some (scr s)]⟩ := by kernel_rfl
noncomputable def tGrid : Con := fun args regs => onS args regs fun l s => match l with
  | [] => .ret ⟨.v (.sg [.recs KC 1000 (gridG s.ma s.sl)]), [some (scr s)]⟩
  | _ => .fail
theorem kGrid : Known Tryz.prog [] 27 tGrid := by
  refine k_grid.less fun args regs R h => Box.out ?_
  obtain ⟨l, s, rfl, rfl, h'⟩ := onS_in h
  clear h
  split at h'
  case h_2 => exact h'.elim
  exact Box.of_eq (grid_tree s R) h'
end Go.Proofs.YtdijbpokklgjlaaGreatDoor.scr
