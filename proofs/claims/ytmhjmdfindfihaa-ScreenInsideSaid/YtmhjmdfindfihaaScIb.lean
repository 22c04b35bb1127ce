/-
  The screen's laws: ScreenInside: its loops.
-/
import Derived.Test.YtmhjmdfindfihaaScIa
set_option linter.unusedVariables false
namespace Go.Proofs.Ytmhjmdfindfihaa.scr
open Go Go.Nx

/-! ### the grid's loops -/
noncomputable def X_in : Cx := { P := Try.prog, con := c_opq, glob := [], m := 0, loops := [] }
noncomputable def r_in : List RPat := [.sg 10000 38 [.recs KC 1000]]
noncomputable def p_in4 : List Pat := pats 173 [(5, .b), (9, .p 0 0 0), (10, .i .i64), (11, .i .i64)]
noncomputable def b_in4 : Code := bodyLoop Try.f9 4
def lf4 (ok : Bool) (r k : Int) (G : List (List Sc)) : List Leaf × List (List Leaf) := ([.b ok, .i r, .i k], [[.r G]])
noncomputable def s_in4 (ok : Bool) (r k : Int) (G : List (List Sc)) : St := mkSt p_in4 r_in (lf4 ok r k G)
noncomputable def e_in4 (ok : Bool) (r : Int) (G : List (List Sc)) : St := { fr := frame 173 [(5, .v (.c (.b ok))), (9, .v (.c (.p 0 0 0))), (10, .v (.c (.i .i64 r)))], rg := [some (grd G)] }
noncomputable def f_in4 (ok : Bool) (r : Int) (G : List (List Sc)) : St := { fr := frame 173 [(4, .v (.c (.b false))), (5, .v (.c (.b ok))), (9, .v (.c (.p 0 0 0))), (10, .v (.c (.i .i64 r)))], rg := [some (grd G)] }
theorem round_in4 (ok : Bool) (r k : Int) (G : List (List Sc)) (R : RO → Prop) : (roundT X_in 4 [5, 9, 10, 11] [4, 5, 9, 10] b_in4 (s_in4 ok r k G)).run R =
    sel (decide (k < 40))
      (let x := cellQ G r k
       let F := R (.done .ret (f_in4 ok r G))
       let C := fun (b : Bool) (A : Prop) => chkC r k (sel b F A)
       C (decide (xI x 1 < 0)) (C (decide (xI x 1 > 7)) (C (decide (xI x 2 < 0)) (C (decide (xI x 2 > 7)) (C (decide (xI x 8 < 0)) (C (decide (xI x 8 > 2)) (C (decide (xI x 9 < 0)) (C (decide (xI x 9 > 2)) (C (decide (xI x 0 < 32))
        (R (.next (s_in4 ok r (w64 (k + 1)) G))))))))))))
      (R (.done .normal (e_in4 ok r G))) := by kernel_rfl
theorem in_in4 {r k : Int} {G : List (List Sc)} {F N : Prop} (hr : 0 ≤ r ∧ r ≤ 24) (hk : 0 ≤ k ∧ k ≤ 39) (hw : CellOk (cellQ G r k)) (hN : N) :
    (let x := cellQ G r k
     let C := fun (b : Bool) (A : Prop) => chkC r k (sel b F A)
     C (decide (xI x 1 < 0)) (C (decide (xI x 1 > 7)) (C (decide (xI x 2 < 0)) (C (decide (xI x 2 > 7)) (C (decide (xI x 8 < 0)) (C (decide (xI x 8 > 2)) (C (decide (xI x 9 < 0)) (C (decide (xI x 9 > 2)) (C (decide (xI x 0 < 32)) N))))))))) := by
  obtain ⟨⟨a1, a2⟩, ⟨b1, b2⟩, ⟨c1, c2⟩, ⟨d1, d2⟩, e1⟩ := hw
  have C : ∀ {p A : Prop} [Decidable p], ¬ p → A → chkC r k (sel (decide p) F A) := fun h hA => chkC_in hr hk (selF (dF h) hA)
  exact C (by omega) (C (by omega) (C (by omega) (C (by omega) (C (by omega) (C (by omega) (C (by omega) (C (by omega) (C (by omega) hN))))))))
def pre4 (r k : Int) (G : List (List Sc)) : Prop := (0 ≤ k ∧ k ≤ 40) ∧ (0 ≤ r ∧ r ≤ 24) ∧ ∀ j : Int, k ≤ j → j < 40 → CellOk (cellQ G r j)
noncomputable def l_in4 : List Leaf × List (List Leaf) → Tr (NExit × St) := fun a => match a with
  | ([.b ok, .i r, .i k], [[.r G]]) => .must (pre4 r k G) (.ret (.normal, e_in4 ok r G))
  | _ => .fail
set_option maxRecDepth 100000 in
theorem loop_in4 : LOk Try.prog [] 0 4 b_in4 (sumP p_in4 r_in l_in4) := by
  refine sumP_ok (X := X_in) kc_opq mixed (LAll.none (by kernel_rfl)) [5, 9, 10, 11] [4, 5, 9, 10] _ _ _ (fun a => match a with
    | ([.b _, .i _, .i k], [[.r _]]) => (40 - k).toNat
    | _ => 0) ?_
  intro a R h
  unfold l_in4 at h
  split at h
  case h_2 => exact h.elim
  rename_i ok r k G
  obtain ⟨⟨⟨h1, h2⟩, h3, hw⟩, h⟩ := h
  have h' : R (.normal, e_in4 ok r G) := h
  clear h
  refine Box.out (Box.of_eq (round_in4 ok r k G _) (sel_by (fun e => ?_) fun e => ?_))
  · rw [w64_id (x := k + 1) (by omega)]
    refine in_in4 h3 ⟨h1, by omega⟩ (hw k (Int.le_refl k) e) ?_
    exact ⟨lf4 ok r (k + 1) G, rfl, by show (40 - (k + 1)).toNat < (40 - k).toNat; omega, ⟨⟨by omega, by omega⟩, h3, fun j a b => hw j (by omega) b⟩, h'⟩
  · exact h'
noncomputable def X_in2 : Cx := { P := Try.prog, con := c_opq, glob := [], m := 0, loops := [(4, [5, 9, 10, 11], sumP p_in4 r_in l_in4)] }
noncomputable def p_in2 : List Pat := pats 173 [(5, .b), (9, .p 0 0 0), (10, .i .i64)]
noncomputable def b_in2 : Code := bodyLoop Try.f9 2
def lf2 (ok : Bool) (r : Int) (G : List (List Sc)) : List Leaf × List (List Leaf) := ([.b ok, .i r], [[.r G]])
noncomputable def s_in2 (ok : Bool) (r : Int) (G : List (List Sc)) : St := mkSt p_in2 r_in (lf2 ok r G)
noncomputable def e_in2 (ok : Bool) : St := { fr := frame 173 [(5, .v (.c (.b ok)))], rg := [] }
theorem round_in2 (ok : Bool) (r : Int) (G : List (List Sc)) (R : RO → Prop) : (roundT X_in2 2 [5, 9, 10] [4, 5] b_in2 (s_in2 ok r G)).run R =
    sel (decide (r < 25)) (pre4 r 0 G ∧ R (.next (s_in2 ok (w64 (r + 1)) G))) (R (.done .normal (e_in2 ok))) := by kernel_rfl
def pre2 (r : Int) (G : List (List Sc)) : Prop := (0 ≤ r ∧ r ≤ 25) ∧ ∀ q j : Int, r ≤ q → q < 25 → 0 ≤ j → j < 40 → CellOk (cellQ G q j)
noncomputable def l_in2 : List Leaf × List (List Leaf) → Tr (NExit × St) := fun a => match a with
  | ([.b ok, .i r], [[.r G]]) => .must (pre2 r G) (.ret (.normal, e_in2 ok))
  | _ => .fail
set_option maxRecDepth 100000 in
theorem loop_in2 : LOk Try.prog [] 0 2 b_in2 (sumP p_in2 r_in l_in2) := by
  refine sumP_ok (X := X_in2) kc_opq mixed (LAll.one (id := 4) (body := b_in4) (by kernel_rfl) rfl loop_in4) [5, 9, 10] [4, 5] _ _ _ (fun a => match a with
    | ([.b _, .i r], [[.r _]]) => (25 - r).toNat
    | _ => 0) ?_
  intro a R h
  unfold l_in2 at h
  split at h
  case h_2 => exact h.elim
  rename_i ok r G
  obtain ⟨⟨⟨h1, h2⟩, hw⟩, h⟩ := h
  have h' : R (.normal, e_in2 ok) := h
  clear h
  refine Box.out (Box.of_eq (round_in2 ok r G _) (sel_by (fun e => ?_) fun e => ?_))
  · rw [w64_id (x := r + 1) (by omega)]
    refine ⟨⟨⟨by omega, by omega⟩, ⟨h1, by omega⟩, fun j a b => hw r j (Int.le_refl r) e a b⟩, ?_⟩
    exact ⟨lf2 ok (r + 1) G, rfl, by show (25 - (r + 1)).toNat < (25 - r).toNat; omega, ⟨⟨by omega, by omega⟩, fun q j a b => hw q j (by omega) b⟩, h'⟩
  · exact h'

/-! ### the events -/
def KE : List CK := [.i .i64, .i .i64, .i .i64, .i .i64, .i .i64, .i .i64, .i .i64]
def evRow (x : List Sc) : Ev := ⟨xI x 0, xI x 1, xI x 2, xI x 3, xI x 4, xI x 5, xI x 6⟩
noncomputable def evsS : List (List Sc) → Scr → Scr
  | [], s => s
  | x :: l, s => evsS l (evX (evRow x) s)
noncomputable def X_in0 : Cx := { P := Try.prog, con := c_opq, glob := [], m := 0, loops := [] }
noncomputable def p_in0 : List Pat := pats 173 [(0, .lr KE), (1, .b), (5, .b), (6, .p 0 0 0), (7, .i .i64)]
noncomputable def b_in0 : Code := bodyLoop Try.f9 0
noncomputable def s_in0 (l : List (List Sc)) (roll ok : Bool) (i : Int) (s : Scr) : St := stS p_in0 [.r l, .b roll, .b ok, .i i] s
noncomputable def e_in0 (ok : Bool) (s : Scr) : St := { fr := frame 173 [(5, .v (.c (.b ok))), (6, .v (.c (.p 0 0 0)))], rg := [some (scr s)] }
noncomputable def f_in0 (ok : Bool) (s : Scr) : St := { fr := frame 173 [(4, .v (.c (.b false))), (5, .v (.c (.b ok))), (6, .v (.c (.p 0 0 0)))], rg := [some (scr s)] }
theorem round_in0 (l : List (List Sc)) (roll ok : Bool) (i : Int) (s : Scr) (R : RO → Prop) : (roundT X_in0 0 [0, 1, 5, 6, 7] [4, 5, 6] b_in0 (s_in0 l roll ok i s)).run R =
    sel (decide (i < ↑l.length)) (sel (decide (0 ≤ i)) (sel (decide (i < ↑l.length)) (sel (decide (i.toNat < l.length))
      (PreE (evRow (l.getD i.toNat [])) s ∧
       (let t := evX (evRow (l.getD i.toNat [])) s
        let F := R (.done .ret (f_in0 ok t))
        sel (decide (t.row < 0)) F (sel (decide (t.row > 24)) F (sel (decide (t.col < 0)) F (sel (decide (t.col > 39)) F (sel (decide (t.fg < 0)) F (sel (decide (t.fg > 7)) F (sel (decide (t.bg < 0)) F (sel (decide (t.bg > 7)) F (sel (!(t.ro == roll)) F
          (R (.next (s_in0 l roll ok (w64 (i + 1)) t)))))))))))))
      False) False) False)
      (R (.done .normal (e_in0 ok s))) := by kernel_rfl
theorem in_in0 {roll : Bool} {t : Scr} {F N : Prop} (h : Ins roll t) (hN : N) :
    sel (decide (t.row < 0)) F (sel (decide (t.row > 24)) F (sel (decide (t.col < 0)) F (sel (decide (t.col > 39)) F (sel (decide (t.fg < 0)) F (sel (decide (t.fg > 7)) F (sel (decide (t.bg < 0)) F (sel (decide (t.bg > 7)) F (sel (!(t.ro == roll)) F N)))))))) := by
  obtain ⟨⟨⟨a1, a2⟩, ⟨b1, b2⟩, _⟩, ro, ⟨c1, c2⟩, ⟨d1, d2⟩, _⟩ := h
  refine selF (dF (by omega)) (selF (dF (by omega)) (selF (dF (by omega)) (selF (dF (by omega)) (selF (dF (by omega)) (selF (dF (by omega)) (selF (dF (by omega)) (selF (dF (by omega)) (selF ?_ hN))))))))
  rw [ro, beq_self_eq_true]; rfl
theorem ins_ev {r : Bool} {s : Scr} (x : List Sc) (h : Ins r s) : Ins r (evX (evRow x) s) := by rw [evX_eq]; exact h.event _
theorem ins_evs {r : Bool} : ∀ (l : List (List Sc)) {s : Scr}, Ins r s → Ins r (evsS l s)
  | [], _, h => h
  | x :: l, _, h => ins_evs l (ins_ev x h)
noncomputable def l_in0 : List Leaf → Scr → Tr (NExit × St) := fun a s => match a with
  | [.r l, .b roll, .b ok, .i i] => .must (0 ≤ i ∧ l.length < 4611686018427387904 ∧ Ins roll s) (.ret (.normal, e_in0 ok (evsS (l.drop i.toNat) s)))
  | _ => .fail
set_option maxRecDepth 100000 in
theorem loop_in0 : LOk Try.prog [] 0 0 b_in0 (sumS p_in0 l_in0) := by
  refine sumS_ok (X := X_in0) kc_opq mixed (LAll.none (by kernel_rfl)) [0, 1, 5, 6, 7] [4, 5, 6] _ _ (fun a x => match a with
    | [.r l, .b _, .b _, .i i] => ((l.length : Int) - i).toNat
    | _ => 0) ?_
  intro a s R h
  unfold l_in0 at h
  split at h
  case h_2 => exact h.elim
  rename_i l roll ok i
  obtain ⟨⟨h1, h2, h3⟩, h⟩ := h
  have h' : R (.normal, e_in0 ok (evsS (l.drop i.toNat) s)) := h
  clear h
  refine Box.out (Box.of_eq (round_in0 l roll ok i s _) (sel_by (fun e => ?_) fun e => ?_))
  · have hi : i.toNat < l.length := by omega
    have hd : l.drop i.toNat = l.getD i.toNat [] :: l.drop (i.toNat + 1) := by
      rw [List.drop_eq_getElem_cons hi]
      congr 1
      rw [List.getD_eq_getElem?_getD, List.getElem?_eq_getElem hi]
      rfl
    rw [hd] at h'
    rw [w64_id (x := i + 1) (by omega)]
    have ht := ins_ev (l.getD i.toNat []) h3
    refine selT (dT h1) (selT (dT e) (selT (dT hi) ⟨⟨h3.on, fun _ => trivial, fun _ => trivial⟩, in_in0 ht ?_⟩))
    refine ⟨[.r l, .b roll, .b ok, .i (i + 1)], _, rfl, by show ((l.length : Int) - (i + 1)).toNat < ((l.length : Int) - i).toNat; omega, ⟨by omega, h2, ht⟩, ?_⟩
    show R (.normal, e_in0 ok (evsS (l.drop (i + 1).toNat) (evX (evRow (l.getD i.toNat [])) s)))
    rw [show (i + 1).toNat = i.toNat + 1 by omega]
    exact h'
  · have hd : l.drop i.toNat = [] := List.drop_eq_nil_of_le (by omega)
    rw [hd] at h'
    exact h'

/-! ### the law -/
noncomputable def t_in : Con := fun args regs => if regs.length = 0 then nfun Try.prog [] c_opq [(0, [0, 1, 5, 6, 7], sumS p_in0 l_in0), (2, [5, 9, 10], sumP p_in2 r_in l_in2)] Try.f9 args regs else .fail
theorem k_in : Known Try.prog [] 9 t_in := known_loops 0 Try.func9 rfl (by kernel_rfl) mixed kc_opq (LAll.two (i1 := 0) (i2 := 2) (b1 := b_in0) (b2 := b_in2) (by kernel_rfl) rfl (by decide) loop_in0 loop_in2)
theorem in_tree (l : List (List Sc)) (roll : Bool) (R : Out → Prop) : (t_in [.c (.lr KE l), .c (.b roll)] []).run R =
    sel (decide ((l.length : Int) > 150)) (R (bO true))
     ((0 ≤ (0 : Int) ∧ l.length < 4611686018427387904 ∧ Ins roll (rollsS roll newX)) ∧
      (let s := evsS (l.drop (0 : Int).toNat) (rollsS roll newX)
       pre2 0 (gridX s.ma s.sl) ∧ R (bO true))) := by kernel_rfl
def shsIn : List Sh := [.rows KE, .b]
theorem in_law (xs : List NV) (h : R2 ShOk shsIn xs) : Holds (t_in xs []) fun o => o.res = .v (.c (.b true)) := by
  cases h with
  | cons h1 h =>
    cases h with
    | cons h2 h =>
      cases h
      cases h1 with
      | rows _ =>
        cases h2 with
        | b =>
          rename_i l _ roll
          constructor
          rw [in_tree]
          refine sel_by (fun _ => rfl) fun e => ?_
          have h0 : Ins roll (rollsS roll newX) := by rw [newX_eq]; exact ins_new roll
          have h1 := ins_evs (l.drop (0 : Int).toNat) h0
          refine ⟨⟨by decide, by omega, h0⟩, ⟨⟨by decide, by decide⟩, fun q j a b c d => ?_⟩, rfl⟩
          rw [gridX_eq]
          unfold cellQ
          exact cell_ok h1.sl (by omega) (by omega)
end Go.Proofs.Ytmhjmdfindfihaa.scr
