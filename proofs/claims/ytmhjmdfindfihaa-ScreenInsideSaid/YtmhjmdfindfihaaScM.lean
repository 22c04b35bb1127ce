/-
  The screen's laws: ScreenRolls.
-/
import Derived.Test.YtmhjmdfindfihaaScL
set_option linter.unusedVariables false
namespace Go.Proofs.Ytmhjmdfindfihaa.scr
open Go Go.Nx

/-! ### ScreenRolls -/
noncomputable def c_rol : FuncId → Option Con := conOf [(12, tFirst), (13, num.tNumV), (14, tNew), (15, tAt), (19, tWri), (20, tRolls), (16, tState), (17, tEvent), (18, tGrid)]
theorem kc_rol : ∀ f T, c_rol f = some T → Known Try.prog [] f T := (Knowns.cons kFirst (Knowns.cons num.kNumV (Knowns.cons kNew (Knowns.cons kAt (Knowns.cons kWri (Knowns.cons kRolls (Knowns.cons kState (Knowns.cons kEvent (Knowns.cons kGrid Knowns.nil))))))))).get
noncomputable def X_rol : Cx := { P := Try.prog, con := c_rol, glob := [], m := 0, loops := [] }
noncomputable def p_rol0 : List Pat := pats 94 [(0, .i .i64), (1, .b), (5, .b), (6, .p 0 0 0), (7, .i .i64)]
noncomputable def b_rol0 : Code := bodyLoop Try.f11 0
noncomputable def s_rol0 (n : Int) (down ok : Bool) (r : Int) (s : Scr) : St := stS p_rol0 [.i n, .b down, .b ok, .i r] s
noncomputable def e_rol0 (n : Int) (down ok : Bool) (s : Scr) : St := { fr := frame 94 [(0, .v (.c (.i .i64 n))), (1, .v (.c (.b down))), (5, .v (.c (.b ok))), (6, .v (.c (.p 0 0 0)))], rg := [some (scr s)] }
noncomputable def rolS (r : Int) (s : Scr) : Scr := letsS (codes [IntKind.u8.wrap (w64 (65 + r))]) (atS r 0 s)
theorem round_rol0 (n : Int) (down ok : Bool) (r : Int) (s : Scr) (R : RO → Prop) : (roundT X_rol 0 [0, 1, 5, 6, 7] [0, 1, 5, 6] b_rol0 (s_rol0 n down ok r s)).run R =
    sel (decide (r < 25)) (Inv s ∧ (1 < 4611686018427387904 ∧ Inv (atS r 0 s)) ∧ R (.next (s_rol0 n down ok (w64 (r + 1)) (rolS r s)))) (R (.done .normal (e_rol0 n down ok s))) := by kernel_rfl
noncomputable def p_rol : List Pat := pats 94 [(0, .i .i64), (1, .b), (5, .b), (6, .p 0 0 0), (8, .i .i64), (10, .p 1 0 0), (11, .i .i64)]
noncomputable def b_rol : Code := bodyLoop Try.f11 2
noncomputable def s_rol (n : Int) (down ok : Bool) (row r : Int) (s : Scr) (G : List (List Sc)) : St := stG p_rol [.i n, .b down, .b ok, .i row, .i r] s G
noncomputable def e_rol (ok : Bool) (row : Int) (s : Scr) (G : List (List Sc)) : St := { fr := frame 94 [(5, .v (.c (.b ok))), (6, .v (.c (.p 0 0 0))), (8, .v (.c (.i .i64 row)))], rg := [some (scr s)] }
noncomputable def f_rol (ok : Bool) (row : Int) (s : Scr) (G : List (List Sc)) : St := { fr := frame 94 [(4, .v (.c (.b false))), (5, .v (.c (.b ok))), (6, .v (.c (.p 0 0 0))), (8, .v (.c (.i .i64 row)))], rg := [some (scr s)] }
noncomputable def cell0 (G : List (List Sc)) (r : Int) : List Sc := G.getD (r.toNat * 40) []
def chk0 (r : Int) (A : Prop) : Prop := sel (decide (0 ≤ r)) (sel (decide (r < 25)) (sel (decide (r.toNat * 40 < 1000)) A False) False) False
theorem chk0_in {r : Int} {A : Prop} (h1 : 0 ≤ r ∧ r ≤ 24) (hA : A) : chk0 r A := selT (dT h1.1) (selT (dT (by omega)) (selT (dT (by omega)) hA))
/-- The letter of a row. -/
def ltr (r : Int) : Int := w64 (bC (IntKind.u8.wrap (w64 (65 + r))))
theorem round_rol (n : Int) (down ok : Bool) (row r : Int) (s : Scr) (G : List (List Sc)) (R : RO → Prop) : (roundT X_rol 2 [0, 1, 5, 6, 8, 10, 11] [4, 5, 6, 8] b_rol (s_rol n down ok row r s G)).run R =
    sel (decide (r < 25))
      (let X := fun (want : Int) => chk0 r (sel (xI (cell0 G r) 0 != want) (R (.done .ret (f_rol ok row s G))) (R (.next (s_rol n down ok row (w64 (r + 1)) s G))))
       let F := fun (from_ : Int) => sel (decide (from_ ≥ 1)) (sel (decide (from_ ≤ 24)) (X (ltr from_)) (X 32)) (X 32)
       sel down (F (w64 (r - n))) (F (w64 (r + n))))
      (R (.done .normal (e_rol ok row s G))) := by kernel_rfl
def want_rol (n : Int) (down : Bool) (r : Int) : Int := if 1 ≤ (bif down then r - n else r + n) ∧ (bif down then r - n else r + n) ≤ 24 then ltr (bif down then r - n else r + n) else 32
noncomputable def l_rol : List Leaf → Scr → List (List Sc) → Tr (NExit × St) := fun a s G => match a with
  | [.i n, .b down, .b ok, .i row, .i r] => .must ((0 ≤ r ∧ r ≤ 25) ∧ (0 ≤ n ∧ n ≤ 24) ∧ ∀ j : Int, r ≤ j → j < 25 → xI (cell0 G j) 0 = want_rol n down j) (.ret (.normal, e_rol ok row s G))
  | _ => .fail
set_option maxRecDepth 100000 in
theorem loop_rol : LOk Try.prog [] 0 2 b_rol (sumG p_rol l_rol) := by
  refine sumG_ok (X := X_rol) kc_rol mixed (LAll.none (by kernel_rfl)) [0, 1, 5, 6, 8, 10, 11] [4, 5, 6, 8] _ _ (fun a => match a with
    | [.i _, .b _, .b _, .i _, .i r] => (25 - r).toNat
    | _ => 0) ?_
  intro a s G R h
  unfold l_rol at h
  split at h
  case h_2 => exact h.elim
  rename_i n down ok row r
  obtain ⟨⟨⟨h1, h2⟩, ⟨h3, h4⟩, hw⟩, h⟩ := h
  have h' : R (.normal, e_rol ok row s G) := h
  clear h
  refine Box.out (Box.of_eq (round_rol n down ok row r s G _) (sel_by (fun e => ?_) fun e => ?_))
  · have hwi := hw r (Int.le_refl r) e
    have hww : w64 (r + 1) = r + 1 := w64_id (by omega)
    rw [hww, w64_id (x := r - n) (by omega), w64_id (x := r + n) (by omega)]
    have nx : ∃ b, s_rol n down ok row (r + 1) s G = stG p_rol b s G ∧ (match b with
        | [.i _, .b _, .b _, .i _, .i r] => (25 - r).toNat
        | _ => 0) < (25 - r).toNat ∧ (l_rol b s G).run R :=
      ⟨[.i n, .b down, .b ok, .i row, .i (r + 1)], rfl, by show (25 - (r + 1)).toNat < _; omega, ⟨⟨by omega, by omega⟩, ⟨h3, h4⟩, fun j a b => hw j (by omega) b⟩, h'⟩
    have fin : ∀ {gl : Int}, xI (cell0 G r) 0 = gl → chk0 r (sel (xI (cell0 G r) 0 != gl) (R (.ret, f_rol ok row s G)) (∃ b, s_rol n down ok row (r + 1) s G = stG p_rol b s G ∧ (match b with
        | [.i _, .b _, .b _, .i _, .i r] => (25 - r).toNat
        | _ => 0) < (25 - r).toNat ∧ (l_rol b s G).run R)) :=
      fun a => chk0_in ⟨h1, by omega⟩ (selF (bneF a) nx)
    unfold want_rol at hwi
    cases down with
    | true =>
      have hwi : xI (cell0 G r) 0 = if 1 ≤ r - n ∧ r - n ≤ 24 then ltr (r - n) else 32 := hwi
      refine selT rfl (sel_by (fun c => sel_by (fun d => ?_) fun d => ?_) fun c => ?_)
      · rw [if_pos ⟨c, d⟩] at hwi; exact fin hwi
      · rw [if_neg (fun x => d x.2)] at hwi; exact fin hwi
      · rw [if_neg (fun x => c x.1)] at hwi; exact fin hwi
    | false =>
      have hwi : xI (cell0 G r) 0 = if 1 ≤ r + n ∧ r + n ≤ 24 then ltr (r + n) else 32 := hwi
      refine selF rfl (sel_by (fun c => sel_by (fun d => ?_) fun d => ?_) fun c => ?_)
      · rw [if_pos ⟨c, d⟩] at hwi; exact fin hwi
      · rw [if_neg (fun x => d x.2)] at hwi; exact fin hwi
      · rw [if_neg (fun x => c x.1)] at hwi; exact fin hwi
  · exact h'
noncomputable def rolN : Nat → Int → Scr → Scr
  | 0, _, s => s
  | k + 1, r, s => rolN k (r + 1) (rolS r s)
theorem letsS_inv : ∀ (l : List Int) {s : Scr}, Inv s → Inv (letsS l s)
  | [], _, h => h
  | c :: l, s, h => letsS_inv l (inv_let h.1)
theorem rolS_inv {r : Int} {s : Scr} (h : Inv s) : Inv (rolS r s) := letsS_inv _ (at_inv h)
noncomputable def l_rol0 : List Leaf → Scr → Tr (NExit × St) := fun a s => match a with
  | [.i n, .b down, .b ok, .i r] => .must (0 ≤ r ∧ Inv s) (.ret (.normal, e_rol0 n down ok (rolN (25 - r).toNat r s)))
  | _ => .fail
theorem loop_rol0 : LOk Try.prog [] 0 0 b_rol0 (sumS p_rol0 l_rol0) := by
  refine sumS_ok (X := X_rol) kc_rol mixed (LAll.none (by kernel_rfl)) [0, 1, 5, 6, 7] [0, 1, 5, 6] _ _ (fun a x => match a with
    | [.i _, .b _, .b _, .i r] => (25 - r).toNat
    | _ => 0) ?_
  intro a s R h
  unfold l_rol0 at h
  split at h
  case h_2 => exact h.elim
  rename_i n down ok r
  obtain ⟨⟨h1, h2⟩, h⟩ := h
  have h' : R (.normal, e_rol0 n down ok (rolN (25 - r).toNat r s)) := h
  clear h
  refine Box.out (Box.of_eq (round_rol0 n down ok r s _) (sel_by (fun e => ?_) fun e => ?_))
  · obtain ⟨k, hk⟩ : ∃ k : Nat, (25 - r).toNat = k + 1 := ⟨(25 - r).toNat - 1, by omega⟩
    have hk' : (25 - (r + 1)).toNat = k := by omega
    rw [hk] at h'
    rw [w64_id (x := r + 1) (by omega)]
    refine ⟨h2, ⟨by decide, at_inv h2⟩, [.i n, .b down, .b ok, .i (r + 1)], _, rfl, by show (25 - (r + 1)).toNat < (25 - r).toNat; omega, ⟨by omega, rolS_inv h2⟩, ?_⟩
    show R (.normal, e_rol0 n down ok (rolN (25 - (r + 1)).toNat (r + 1) (rolS r s)))
    rw [hk']
    exact h'
  · have hz : (25 - r).toNat = 0 := by omega
    rw [hz] at h'
    exact h'
noncomputable def t_rol : Con := fun args regs => if regs.length = 0 then nfun Try.prog [] c_rol [(0, [0, 1, 5, 6, 7], sumS p_rol0 l_rol0), (2, [0, 1, 5, 6, 8, 10, 11], sumG p_rol l_rol)] Try.f11 args regs else .fail
theorem k_rol : Known Try.prog [] 11 t_rol := known_loops 0 Try.func11 rfl (by kernel_rfl) mixed kc_rol (LAll.two (i1 := 0) (i2 := 2) (b1 := b_rol0) (b2 := b_rol) (by kernel_rfl) rfl (by decide) loop_rol0 loop_rol)
noncomputable def rolB (n : Int) (down : Bool) (row wh : Int) (s : Scr) (R : Out → Prop) : Prop :=
  Inv (rollsS true s) ∧ PreE (evMove wh n) (atS row 5 (rollsS true s)) ∧
   (let t := eventS (evMove wh n) (atS row 5 (rollsS true s))
    let G := gridG t.ma t.sl
    ((((0 : Int) ≤ 1 ∧ (1 : Int) ≤ 25) ∧ (0 ≤ n ∧ n ≤ 24) ∧ ∀ j : Int, 1 ≤ j → j < 25 → xI (cell0 G j) 0 = want_rol n down j) ∧ sel (t.row == row) (R (bO (t.col == 5))) (R (bO false))))
theorem rol_tree (n : Int) (down : Bool) (R : Out → Prop) : (t_rol [.c (.i .i64 n), .c (.b down)] []).run R =
    (numP 23 ∧ (((0 : Int) ≤ 1 ∧ Inv newS) ∧ sel down (rolB (w64 (n % 23 + 1)) down 1 4 (rolN 24 1 newS) R) (rolB (w64 (n % 23 + 1)) down 24 3 (rolN 24 1 newS) R))) := by kernel_rfl
end Go.Proofs.Ytmhjmdfindfihaa.scr
