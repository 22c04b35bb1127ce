/-
  The screen's laws: ScreenZones: its loops, the law as a tree.
-/
import Derived.Test.YtmhjmdfindfihaaScT
set_option linter.unusedVariables false
namespace Go.Proofs.Ytmhjmdfindfihaa.scr
open Go Go.Nx

theorem letsC_is (c : Int) (n : Nat) (s : Scr) : ∃ t, t = letsS (List.replicate n c) s := ⟨_, rfl⟩
/-- A sign n times. (Chosen: the kernel does not run it.) -/
noncomputable def letsC (c : Int) (n : Nat) (s : Scr) : Scr := Classical.choose (letsC_is c n s)
theorem letsC_eq (c : Int) (n : Nat) (s : Scr) : letsC c n s = letsS (List.replicate n c) s := Classical.choose_spec (letsC_is c n s)
noncomputable def p_zo0 : List Pat := pats 98 [(0, .i .i64), (1, .i .i64), (2, .i .i64), (3, .b), (9, .b), (10, .p 0 0 0), (11, .i .i64)]
noncomputable def p_zo2 : List Pat := pats 98 [(0, .i .i64), (1, .i .i64), (2, .i .i64), (3, .b), (9, .b), (10, .p 0 0 0), (12, .i .i64)]
noncomputable def b_zo0 : Code := bodyLoop Try.f8 0
noncomputable def b_zo2 : Code := bodyLoop Try.f8 2
noncomputable def s_zo0 (n m c : Int) (again ok : Bool) (i : Int) (s : Scr) : St := stS p_zo0 [.i n, .i m, .i c, .b again, .b ok, .i i] s
noncomputable def s_zo2 (n m c : Int) (again ok : Bool) (i : Int) (s : Scr) : St := stS p_zo2 [.i n, .i m, .i c, .b again, .b ok, .i i] s
noncomputable def e_zo0 (n m c : Int) (again ok : Bool) (s : Scr) : St := { fr := frame 98 [(0, .v (.c (.i .i64 n))), (1, .v (.c (.i .i64 m))), (2, .v (.c (.i .i64 c))), (3, .v (.c (.b again))), (9, .v (.c (.b ok))), (10, .v (.c (.p 0 0 0)))], rg := [some (scr s)] }
theorem round_zo0 (n m c : Int) (again ok : Bool) (i : Int) (s : Scr) (R : RO → Prop) : (roundT X_rol 0 [0, 1, 2, 3, 9, 10, 11] [0, 1, 2, 3, 9, 10] b_zo0 (s_zo0 n m c again ok i s)).run R =
    sel (decide (i < n)) (PreE (evL 97) s ∧ R (.next (s_zo0 n m c again ok (w64 (i + 1)) (eventS (evL 97) s)))) (R (.done .normal (e_zo0 n m c again ok s))) := by kernel_rfl
theorem round_zo2 (n m c : Int) (again ok : Bool) (i : Int) (s : Scr) (R : RO → Prop) : (roundT X_rol 2 [0, 1, 2, 3, 9, 10, 12] [0, 1, 2, 3, 9, 10] b_zo2 (s_zo2 n m c again ok i s)).run R =
    sel (decide (i < m)) (PreE (evL 98) s ∧ R (.next (s_zo2 n m c again ok (w64 (i + 1)) (eventS (evL 98) s)))) (R (.done .normal (e_zo0 n m c again ok s))) := by kernel_rfl
noncomputable def p_zo : List Pat := pats 98 [(0, .i .i64), (1, .i .i64), (2, .i .i64), (3, .b), (9, .b), (10, .p 0 0 0), (13, .p 1 0 0), (14, .i .i64)]
noncomputable def b_zo : Code := bodyLoop Try.f8 4
noncomputable def s_zo (n m c : Int) (again ok : Bool) (i : Int) (s : Scr) (G : List (List Sc)) : St := stG p_zo [.i n, .i m, .i c, .b again, .b ok, .i i] s G
noncomputable def e_zo (n m : Int) (ok : Bool) (s : Scr) : St := { fr := frame 98 [(0, .v (.c (.i .i64 n))), (1, .v (.c (.i .i64 m))), (9, .v (.c (.b ok))), (10, .v (.c (.p 0 0 0)))], rg := [some (scr s)] }
noncomputable def f_zo (n m : Int) (ok : Bool) (s : Scr) : St := { fr := frame 98 [(0, .v (.c (.i .i64 n))), (1, .v (.c (.i .i64 m))), (8, .v (.c (.b false))), (9, .v (.c (.b ok))), (10, .v (.c (.p 0 0 0)))], rg := [some (scr s)] }
noncomputable def cell2 (G : List (List Sc)) (i : Int) : List Sc := G.getD (2 * 40 + i.toNat) []
theorem round_zo (n m c : Int) (again ok : Bool) (i : Int) (s : Scr) (G : List (List Sc)) (R : RO → Prop) : (roundT X_rol 4 [0, 1, 2, 3, 9, 10, 13, 14] [0, 1, 8, 9, 10] b_zo (s_zo n m c again ok i s G)).run R =
    sel (decide (i < 40))
      (let F := R (.done .ret (f_zo n m ok s))
       let Z := fun (w : Int) => chkC 1 i (sel (xI (cell1 G i) 2 != w) F (chkC 2 i (sel (xI (cell2 G i) 2 != 0) F (R (.next (s_zo n m c again ok (w64 (i + 1)) s G))))))
       sel (decide (i ≥ n)) (sel (!again) (Z c) (Z 0)) (Z 0))
      (R (.done .normal (e_zo n m ok s))) := by kernel_rfl
noncomputable def l_zo0 (n m c : Int) (again ok : Bool) (i : Int) (s : Scr) : Tr (NExit × St) := .must (0 ≤ i ∧ n ≤ 100 ∧ Inv s) (.ret (.normal, e_zo0 n m c again ok (letsC 97 (n - i).toNat s)))
noncomputable def l_zo2 (n m c : Int) (again ok : Bool) (i : Int) (s : Scr) : Tr (NExit × St) := .must (0 ≤ i ∧ m ≤ 100 ∧ Inv s) (.ret (.normal, e_zo0 n m c again ok (letsC 98 (m - i).toNat s)))
noncomputable def onZo (f : Int → Int → Int → Bool → Bool → Int → Scr → Tr (NExit × St)) : List Leaf → Scr → Tr (NExit × St) := fun a s => match a with
  | [.i n, .i m, .i c, .b again, .b ok, .i i] => f n m c again ok i s
  | _ => .fail
theorem letsC_step {c : Int} {n i : Int} {s : Scr} (h : i < n) : letsC c (n - i).toNat s = letsC c (n - (i + 1)).toNat (writeS (evL c) s) := by
  rw [letsC_eq, letsC_eq, show (n - i).toNat = (n - (i + 1)).toNat + 1 by omega]
  rfl
theorem letsC_end {c : Int} {n i : Int} {s : Scr} (h : ¬ i < n) : letsC c (n - i).toNat s = s := by
  rw [letsC_eq, show (n - i).toNat = 0 by omega]
  rfl
set_option maxRecDepth 100000 in
theorem loop_zo0 : LOk Try.prog [] 0 0 b_zo0 (sumS p_zo0 (onZo l_zo0)) := by
  refine sumS_ok (X := X_rol) kc_rol mixed (LAll.none (by kernel_rfl)) [0, 1, 2, 3, 9, 10, 11] [0, 1, 2, 3, 9, 10] _ _ (fun a x => match a with
    | [.i n, .i _, .i _, .b _, .b _, .i i] => (n - i).toNat
    | _ => 0) ?_
  intro a s R h
  unfold onZo at h
  split at h
  case h_2 => exact h.elim
  rename_i n m c again ok i
  obtain ⟨⟨h1, h2, h3⟩, h⟩ := h
  have h' : R (.normal, e_zo0 n m c again ok (letsC 97 (n - i).toNat s)) := h
  clear h
  refine Box.out (Box.of_eq (round_zo0 n m c again ok i s _) (sel_by (fun e => ?_) fun e => ?_))
  · rw [w64_id (x := i + 1) (by omega), ev_let]
    rw [letsC_step e] at h'
    exact ⟨pre_let h3, [.i n, .i m, .i c, .b again, .b ok, .i (i + 1)], _, rfl, by show (n - (i + 1)).toNat < (n - i).toNat; omega, ⟨by omega, h2, inv_let h3.1⟩, h'⟩
  · rw [letsC_end e] at h'
    exact h'
set_option maxRecDepth 100000 in
theorem loop_zo2 : LOk Try.prog [] 0 2 b_zo2 (sumS p_zo2 (onZo l_zo2)) := by
  refine sumS_ok (X := X_rol) kc_rol mixed (LAll.none (by kernel_rfl)) [0, 1, 2, 3, 9, 10, 12] [0, 1, 2, 3, 9, 10] _ _ (fun a x => match a with
    | [.i _, .i m, .i _, .b _, .b _, .i i] => (m - i).toNat
    | _ => 0) ?_
  intro a s R h
  unfold onZo at h
  split at h
  case h_2 => exact h.elim
  rename_i n m c again ok i
  obtain ⟨⟨h1, h2, h3⟩, h⟩ := h
  have h' : R (.normal, e_zo0 n m c again ok (letsC 98 (m - i).toNat s)) := h
  clear h
  refine Box.out (Box.of_eq (round_zo2 n m c again ok i s _) (sel_by (fun e => ?_) fun e => ?_))
  · rw [w64_id (x := i + 1) (by omega), ev_let]
    rw [letsC_step e] at h'
    exact ⟨pre_let h3, [.i n, .i m, .i c, .b again, .b ok, .i (i + 1)], _, rfl, by show (m - (i + 1)).toNat < (m - i).toNat; omega, ⟨by omega, h2, inv_let h3.1⟩, h'⟩
  · rw [letsC_end e] at h'
    exact h'
def want_zo (n c : Int) (again : Bool) (i : Int) : Int := if n ≤ i ∧ again = false then c else 0
theorem in_zo {n c i : Int} {again : Bool} {G : List (List Sc)} {N F : Prop} (h1 : 0 ≤ i) (h2 : i < 40) (hw : xI (cell1 G i) 2 = want_zo n c again i ∧ xI (cell2 G i) 2 = 0) (nx : N) :
      (let Z := fun (w : Int) => chkC 1 i (sel (xI (cell1 G i) 2 != w) F (chkC 2 i (sel (xI (cell2 G i) 2 != 0) F N)))
       sel (decide (i ≥ n)) (sel (!again) (Z c) (Z 0)) (Z 0)) := by
  simp only []
  have Z : ∀ {w : Int}, xI (cell1 G i) 2 = w → chkC 1 i (sel (xI (cell1 G i) 2 != w) F (chkC 2 i (sel (xI (cell2 G i) 2 != 0) F N))) := fun h =>
    chkC_in ⟨by omega, by omega⟩ ⟨h1, by omega⟩ (selF (bneF h) (chkC_in ⟨by omega, by omega⟩ ⟨h1, by omega⟩ (selF (bneF hw.2) nx)))
  have hw := hw.1
  unfold want_zo at hw
  refine sel_by (fun a => sel_b (fun b => ?_) fun b => ?_) fun a => ?_
  · rw [if_pos ⟨a, by simpa using b⟩] at hw; exact Z hw
  · rw [if_neg (fun x => by rw [x.2] at b; exact absurd b (by decide))] at hw; exact Z hw
  · rw [if_neg (fun x => a x.1)] at hw; exact Z hw
noncomputable def l_zo : List Leaf → Scr → List (List Sc) → Tr (NExit × St) := fun l s G => match l with
  | [.i n, .i m, .i c, .b again, .b ok, .i i] => .must ((0 ≤ i ∧ i ≤ 40) ∧ ∀ j : Int, i ≤ j → j < 40 → xI (cell1 G j) 2 = want_zo n c again j ∧ xI (cell2 G j) 2 = 0) (.ret (.normal, e_zo n m ok s))
  | _ => .fail
set_option maxHeartbeats 1000000 in
set_option maxRecDepth 100000 in
theorem loop_zo : LOk Try.prog [] 0 4 b_zo (sumG p_zo l_zo) := by
  refine sumG_ok (X := X_rol) kc_rol mixed (LAll.none (by kernel_rfl)) [0, 1, 2, 3, 9, 10, 13, 14] [0, 1, 8, 9, 10] _ _ (fun l => match l with
    | [.i _, .i _, .i _, .b _, .b _, .i i] => (40 - i).toNat
    | _ => 0) ?_
  intro l s G R h
  unfold l_zo at h
  split at h
  case h_2 => exact h.elim
  rename_i n m c again ok i
  obtain ⟨⟨⟨h1, h2⟩, hw⟩, h⟩ := h
  have h' : R (.normal, e_zo n m ok s) := h
  clear h
  refine Box.out (Box.of_eq (round_zo n m c again ok i s G _) (sel_by (fun e => ?_) fun e => ?_))
  · refine in_zo h1 e (hw i (Int.le_refl i) e) ?_
    rw [w64_id (x := i + 1) (by omega)]
    exact ⟨[.i n, .i m, .i c, .b again, .b ok, .i (i + 1)], rfl, by show (40 - (i + 1)).toNat < (40 - i).toNat; omega, ⟨⟨by omega, by omega⟩, fun j x y => hw j (by omega) y⟩, h'⟩
  · exact h'
noncomputable def t_zo : Con := fun args regs => if regs.length = 0 then nfun Try.prog [] c_rol [(0, [0, 1, 2, 3, 9, 10, 11], sumS p_zo0 (onZo l_zo0)), (2, [0, 1, 2, 3, 9, 10, 12], sumS p_zo2 (onZo l_zo2)), (4, [0, 1, 2, 3, 9, 10, 13, 14], sumG p_zo l_zo)] Try.f8 args regs else .fail
theorem k_zo : Known Try.prog [] 8 t_zo := known_loops 0 Try.func8 rfl (by kernel_rfl) mixed kc_rol (LAll.list (ls := [(0, b_zo0), (2, b_zo2), (4, b_zo)]) (by kernel_rfl) fun p hp x hx => by
  rcases List.mem_cons.1 hp with rfl | hp
  · cases hx; exact loop_zo0
  rcases List.mem_cons.1 hp with rfl | hp
  · cases hx; exact loop_zo2
  rcases List.mem_cons.1 hp with rfl | hp
  · cases hx; exact loop_zo
  · cases hp)
noncomputable def zoB (n m c : Int) (again : Bool) (s0 : Scr) (R : Out → Prop) : Prop :=
  ((0 : Int) ≤ 0 ∧ n ≤ 100 ∧ Inv s0) ∧
   (let s1 := letsC 97 (n - 0).toNat s0
    let s2 := eventS (evL 32) s1
    PreE (evL 32) s1 ∧ ((0 : Int) ≤ 0 ∧ m ≤ 100 ∧ Inv s2) ∧
    (let t := letsC 98 (m - 0).toNat s2
     ((((0 : Int) ≤ 0 ∧ (0 : Int) ≤ 40) ∧ ∀ j : Int, 0 ≤ j → j < 40 → xI (cell1 (gridG t.ma t.sl) j) 2 = want_zo n c again j ∧ xI (cell2 (gridG t.ma t.sl) j) 2 = 0) ∧ R (bO (t.col == w64 (w64 (n + 1) + m))))))
theorem zo_tree (n m c : Int) (again : Bool) (R : Out → Prop) : (t_zo [.c (.i .i64 n), .c (.i .i64 m), .c (.i .i64 c), .c (.b again)] []).run R =
    (numP 10 ∧ numP 10 ∧ numP 7 ∧ PreE (evA (w64 (80 + w64 (c % 7 + 1)))) newS ∧
     (let s0 := eventS (evA (w64 (80 + w64 (c % 7 + 1)))) newS
      sel again (Inv s0 ∧ zoB (n % 10) (m % 10) (w64 (c % 7 + 1)) again (atS 1 0 s0) R) (zoB (n % 10) (m % 10) (w64 (c % 7 + 1)) again s0 R))) := by kernel_rfl
end Go.Proofs.Ytmhjmdfindfihaa.scr
