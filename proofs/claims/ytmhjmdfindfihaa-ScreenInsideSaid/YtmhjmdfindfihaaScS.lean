/-
  The screen's laws: ScreenErases: its loops, the law as a tree.
-/
import Derived.Test.YtmhjmdfindfihaaScP
set_option linter.unusedVariables false
namespace Go.Proofs.Ytmhjmdfindfihaa.scr
open Go Go.Nx

noncomputable def p_er0 : List Pat := pats 114 [(0, .i .i64), (1, .i .i64), (2, .i .i64), (3, .i .i64), (9, .b), (10, .p 0 0 0), (11, .i .i64)]
noncomputable def b_er0 : Code := bodyLoop Try.f4 0
noncomputable def s_er0 (row col wh how : Int) (ok : Bool) (i : Int) (s : Scr) : St := stS p_er0 [.i row, .i col, .i wh, .i how, .b ok, .i i] s
noncomputable def e_er0 (row col wh how : Int) (ok : Bool) (s : Scr) : St := { fr := frame 114 [(0, .v (.c (.i .i64 row))), (1, .v (.c (.i .i64 col))), (2, .v (.c (.i .i64 wh))), (3, .v (.c (.i .i64 how))), (9, .v (.c (.b ok))), (10, .v (.c (.p 0 0 0)))], rg := [some (scr s)] }
theorem round_er0 (row col wh how : Int) (ok : Bool) (i : Int) (s : Scr) (R : RO → Prop) : (roundT X_rol 0 [0, 1, 2, 3, 9, 10, 11] [0, 1, 2, 3, 9, 10] b_er0 (s_er0 row col wh how ok i s)).run R =
    sel (decide (i < 960)) (PreE (evL 120) s ∧ R (.next (s_er0 row col wh how ok (w64 (i + 1)) (eventS (evL 120) s)))) (R (.done .normal (e_er0 row col wh how ok s))) := by kernel_rfl
noncomputable def p_er : List Pat := pats 114 [(0, .i .i64), (1, .i .i64), (9, .b), (10, .p 0 0 0), (12, .p 1 0 0), (14, .i .i64), (15, .i .i64), (16, .i .i64)]
noncomputable def b_er : Code := bodyLoop Try.f4 2
noncomputable def s_er (row col : Int) (ok : Bool) (a b i : Int) (s : Scr) (G : List (List Sc)) : St := stG p_er [.i row, .i col, .b ok, .i a, .i b, .i i] s G
noncomputable def e_er (row col : Int) (ok : Bool) (s : Scr) (G : List (List Sc)) : St := { fr := frame 114 [(0, .v (.c (.i .i64 row))), (1, .v (.c (.i .i64 col))), (9, .v (.c (.b ok))), (10, .v (.c (.p 0 0 0)))], rg := [some (scr s)] }
noncomputable def f_er (row col : Int) (ok : Bool) (s : Scr) (G : List (List Sc)) : St := { fr := frame 114 [(0, .v (.c (.i .i64 row))), (1, .v (.c (.i .i64 col))), (8, .v (.c (.b false))), (9, .v (.c (.b ok))), (10, .v (.c (.p 0 0 0)))], rg := [some (scr s)] }
theorem round_er (row col : Int) (ok : Bool) (a b i : Int) (s : Scr) (G : List (List Sc)) (R : RO → Prop) : (roundT X_rol 2 [0, 1, 9, 10, 12, 14, 15, 16] [0, 1, 8, 9, 10] b_er (s_er row col ok a b i s G)).run R =
    sel (decide (i < 960))
      (let Z := fun (w : Int) => chkC (w64 (w64 (Int.tdiv i 40) + 1)) (Int.tmod i 40) (sel (xI (cellQ G (w64 (w64 (Int.tdiv i 40) + 1)) (Int.tmod i 40)) 0 != w) (R (.done .ret (f_er row col ok s G))) (R (.next (s_er row col ok a b (w64 (i + 1)) s G))))
       sel (decide (i ≥ a)) (sel (decide (i ≤ b)) (Z 32) (Z 120)) (Z 120))
      (R (.done .normal (e_er row col ok s G))) := by kernel_rfl
theorem full_is (i : Int) (s : Scr) : ∃ t, t = letsS (List.replicate (960 - i).toNat 120) s := ⟨_, rfl⟩
/-- The page, from the i-th place on, full of the sign 120. (Chosen: the kernel does not run it.) -/
noncomputable def fullS (i : Int) (s : Scr) : Scr := Classical.choose (full_is i s)
theorem fullS_eq (i : Int) (s : Scr) : fullS i s = letsS (List.replicate (960 - i).toNat 120) s := Classical.choose_spec (full_is i s)
noncomputable def l_er0 : List Leaf → Scr → Tr (NExit × St) := fun a s => match a with
  | [.i row, .i col, .i wh, .i how, .b ok, .i i] => .must (0 ≤ i ∧ Inv s) (.ret (.normal, e_er0 row col wh how ok (fullS i s)))
  | _ => .fail
set_option maxRecDepth 100000 in
theorem loop_er0 : LOk Try.prog [] 0 0 b_er0 (sumS p_er0 l_er0) := by
  refine sumS_ok (X := X_rol) kc_rol mixed (LAll.none (by kernel_rfl)) [0, 1, 2, 3, 9, 10, 11] [0, 1, 2, 3, 9, 10] _ _ (fun a x => match a with
    | [.i _, .i _, .i _, .i _, .b _, .i i] => (960 - i).toNat
    | _ => 0) ?_
  intro a s R h
  unfold l_er0 at h
  split at h
  case h_2 => exact h.elim
  rename_i row col wh how ok i
  obtain ⟨⟨h1, h2⟩, h⟩ := h
  have h' : R (.normal, e_er0 row col wh how ok (fullS i s)) := h
  clear h
  refine Box.out (Box.of_eq (round_er0 row col wh how ok i s _) (sel_by (fun e => ?_) fun e => ?_))
  · rw [w64_id (x := i + 1) (by omega), ev_let]
    refine ⟨pre_let h2, [.i row, .i col, .i wh, .i how, .b ok, .i (i + 1)], _, rfl, by show (960 - (i + 1)).toNat < (960 - i).toNat; omega, ⟨by omega, inv_let h2.1⟩, ?_⟩
    show R (.normal, e_er0 row col wh how ok (fullS (i + 1) (writeS (evL 120) s)))
    have hf : fullS i s = fullS (i + 1) (writeS (evL 120) s) := by
      rw [fullS_eq, fullS_eq, show (960 - i).toNat = (960 - (i + 1)).toNat + 1 by omega]
      rfl
    rw [← hf]
    exact h'
  · have hf : fullS i s = s := by
      rw [fullS_eq, show (960 - i).toNat = 0 by omega]
      rfl
    rw [hf] at h'
    exact h'
def want_er (a b i : Int) : Int := if a ≤ i ∧ i ≤ b then 32 else 120
theorem in_er {a b i : Int} {G : List (List Sc)} {N F : Prop} (h1 : 0 ≤ i) (h2 : i < 960) (hw : xI (cellQ G (i / 40 + 1) (i % 40)) 0 = want_er a b i) (nx : N) :
      (let Z := fun (w : Int) => chkC (w64 (w64 (Int.tdiv i 40) + 1)) (Int.tmod i 40) (sel (xI (cellQ G (w64 (w64 (Int.tdiv i 40) + 1)) (Int.tmod i 40)) 0 != w) F N)
       sel (decide (i ≥ a)) (sel (decide (i ≤ b)) (Z 32) (Z 120)) (Z 120)) := by
  simp only []
  rw [Int.tdiv_eq_ediv_of_nonneg h1, Int.tmod_eq_emod_of_nonneg h1, w64_id (x := i / 40) (by omega), w64_id (x := i / 40 + 1) (by omega)]
  have Z : ∀ {w : Int}, xI (cellQ G (i / 40 + 1) (i % 40)) 0 = w → chkC (i / 40 + 1) (i % 40) (sel (xI (cellQ G (i / 40 + 1) (i % 40)) 0 != w) F N) := fun h => chkC_in ⟨by omega, by omega⟩ ⟨by omega, by omega⟩ (selF (bneF h) nx)
  unfold want_er at hw
  refine sel_by (fun c => sel_by (fun d => ?_) fun d => ?_) fun c => ?_
  · rw [if_pos ⟨c, d⟩] at hw; exact Z hw
  · rw [if_neg (fun x => d x.2)] at hw; exact Z hw
  · rw [if_neg (fun x => c x.1)] at hw; exact Z hw
noncomputable def l_er : List Leaf → Scr → List (List Sc) → Tr (NExit × St) := fun l s G => match l with
  | [.i row, .i col, .b ok, .i a, .i b, .i i] => .must ((0 ≤ i ∧ i ≤ 960) ∧ ∀ j : Int, i ≤ j → j < 960 → xI (cellQ G (j / 40 + 1) (j % 40)) 0 = want_er a b j) (.ret (.normal, e_er row col ok s G))
  | _ => .fail
set_option maxHeartbeats 1000000 in
set_option maxRecDepth 100000 in
theorem loop_er : LOk Try.prog [] 0 2 b_er (sumG p_er l_er) := by
  refine sumG_ok (X := X_rol) kc_rol mixed (LAll.none (by kernel_rfl)) [0, 1, 9, 10, 12, 14, 15, 16] [0, 1, 8, 9, 10] _ _ (fun l => match l with
    | [.i _, .i _, .b _, .i _, .i _, .i i] => (960 - i).toNat
    | _ => 0) ?_
  intro l s G R h
  unfold l_er at h
  split at h
  case h_2 => exact h.elim
  rename_i row col ok a b i
  obtain ⟨⟨⟨h1, h2⟩, hw⟩, h⟩ := h
  have h' : R (.normal, e_er row col ok s G) := h
  clear h
  refine Box.out (Box.of_eq (round_er row col ok a b i s G _) (sel_by (fun e => ?_) fun e => ?_))
  · refine in_er h1 e (hw i (Int.le_refl i) e) ?_
    rw [w64_id (x := i + 1) (by omega)]
    exact ⟨[.i row, .i col, .b ok, .i a, .i b, .i (i + 1)], rfl, by show (960 - (i + 1)).toNat < (960 - i).toNat; omega, ⟨⟨by omega, by omega⟩, fun j x y => hw j (by omega) y⟩, h'⟩
  · exact h'
noncomputable def t_er : Con := fun args regs => if regs.length = 0 then nfun Try.prog [] c_rol [(0, [0, 1, 2, 3, 9, 10, 11], sumS p_er0 l_er0), (2, [0, 1, 9, 10, 12, 14, 15, 16], sumG p_er l_er)] Try.f4 args regs else .fail
theorem k_er : Known Try.prog [] 4 t_er := known_loops 0 Try.func4 rfl (by kernel_rfl) mixed kc_rol (LAll.two (i1 := 0) (i2 := 2) (b1 := b_er0) (b2 := b_er) (by kernel_rfl) rfl (by decide) loop_er0 loop_er)
def evEr (a b : Int) : Ev := ⟨11, a, b, 0, 0, 0, 0⟩
noncomputable def erT (row col : Int) (s : Scr) (R : Out → Prop) (a b : Int) : Prop :=
  ((((0 : Int) ≤ 0 ∧ (0 : Int) ≤ 960) ∧ ∀ j : Int, 0 ≤ j → j < 960 → xI (cellQ (gridG s.ma s.sl) (j / 40 + 1) (j % 40)) 0 = want_er a b j) ∧ sel (s.row == row) (R (bO (s.col == col))) (R (bO false)))
noncomputable def erC (row col wh how : Int) (s : Scr) (R : Out → Prop) : Prop :=
  let k := w64 (w64 (40 * w64 (row - 1)) + col)
  let D := fun (from_ to : Int) => sel (how == 1) (erT row col s R from_ k) (erT row col s R from_ to)
  let C := fun (to : Int) => sel (decide (how > 0)) (sel (wh == 2) (D (w64 (40 * w64 (row - 1))) to) (D 0 to)) (D k to)
  sel (wh == 2) (C (w64 (w64 (40 * row) - 1))) (C 959)
noncomputable def erB (row col wh how : Int) (R : Out → Prop) : Prop :=
  Inv newS ∧ ((0 : Int) ≤ 0 ∧ Inv (atS 1 0 newS)) ∧ Inv (fullS 0 (atS 1 0 newS)) ∧
   PreE (evEr wh how) (atS row col (fullS 0 (atS 1 0 newS))) ∧ erC row col wh how (eventS (evEr wh how) (atS row col (fullS 0 (atS 1 0 newS)))) R
theorem er_tree (row col wh how : Int) (R : Out → Prop) : (t_er [.c (.i .i64 row), .c (.i .i64 col), .c (.i .i64 wh), .c (.i .i64 how)] []).run R =
    (numP 24 ∧ numP 40 ∧ numP 2 ∧ numP 3 ∧ erB (w64 (row % 24 + 1)) (col % 40) (w64 (wh % 2 + 1)) (how % 3) R) := by kernel_rfl
end Go.Proofs.Ytmhjmdfindfihaa.scr
