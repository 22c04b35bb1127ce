/-
  The screen's laws: ScreenTop: its loops, the law as a tree.
-/
import Derived.Test.YtmhjmdfindfihaaScN
set_option linter.unusedVariables false
namespace Go.Proofs.Ytmhjmdfindfihaa.scr
open Go Go.Nx

/-- A state's region. -/
def stRg (s : Scr) : Reg := ⟨14, 28, .cells (stC s)⟩
noncomputable def rdSt (g : Option Reg) : Option Scr := match g with
  | some ⟨st, e, .cells [.i .i64 a1, .i .i64 a2, .i .i64 a3, .i .i64 a4, .b a5, .b a6, .b a7, .b a8, .b a9, .b a10, .b a11, .b a12, .b a13, .i .i64 a14]⟩ =>
    if st = 14 ∧ e = 28 then some { newS with row := a1, col := a2, fg := a3, bg := a4, fl := a5, iv := a6, un := a7, co := a8, ta := a9, wi := a10, cu := a11, ro := a12, ma := a13, bells := a14 } else none
  | _ => none
theorem rdSt_in {g : Option Reg} {s : Scr} (h : rdSt g = some s) : g = some (stRg s) := by
  unfold rdSt at h
  split at h
  case h_2 => cases h
  split at h
  case isFalse => cases h
  rename_i hc
  obtain ⟨rfl, rfl⟩ := hc
  cases h
  rfl
/-- A state: slots by a shape, four states of screens, a grid. -/
structure Four where
  a : Scr
  b : Scr
  c : Scr
  d : Scr
noncomputable def stT (fp : List Pat) (l : List Leaf) (x : Four) (G : List (List Sc)) : St := { fr := makeL Pat.makeS fp l, rg := [some (stRg x.a), some (stRg x.b), some (stRg x.c), some (stRg x.d), some (grd G)] }
noncomputable def sumT (fp : List Pat) (f : List Leaf → Four → List (List Sc) → Tr (NExit × St)) (s : St) : Tr (NExit × St) :=
  match readL Pat.readS fp s.fr, s.rg with
  | some l, [g1, g2, g3, g4, g5] => (match rdSt g1, rdSt g2, rdSt g3, rdSt g4, rdG g5 with
    | some a, some b, some c, some d, some G => f l ⟨a, b, c, d⟩ G
    | _, _, _, _, _ => .fail)
  | _, _ => .fail
theorem sumT_ok {X : Cx} (hcon : ∀ f T, X.con f = some T → Known X.P X.glob f T) (hm : X.P.follows .mixedOrders = true) {id : Nat} {body : Code} (hl : LAll X body) (live out : List Nat) (fp : List Pat) (f : List Leaf → Four → List (List Sc) → Tr (NExit × St)) (μ : List Leaf → Nat)
    (round : ∀ a x G R, (f a x G).run R → (roundT X id live out body (stT fp a x G)).run fun o => match o with
      | .next s => ∃ b, s = stT fp b x G ∧ μ b < μ a ∧ (f b x G).run R
      | .done e s => R (e, s)) : LOk X.P X.glob X.m id body (sumT fp f) := by
  refine loop_ok hcon hm hl live out (fun x : List Leaf × Four × List (List Sc) => stT fp x.1 x.2.1 x.2.2) (fun x => μ x.1) (fun x R => (f x.1 x.2.1 x.2.2).run R) (fun s R h => ?_) (fun x R h => ?_)
  · unfold sumT at h
    split at h
    case h_2 => exact h.elim
    rename_i l g1 g2 g3 g4 g5 h1 h2
    split at h
    case h_2 => exact h.elim
    rename_i a b c d G ha hb hc hd hG
    refine ⟨(l, ⟨a, b, c, d⟩, G), ?_, h⟩
    unfold stT
    rw [readL_spec (fun p x l h => Pat.readS_spec h) h1, ← rdSt_in ha, ← rdSt_in hb, ← rdSt_in hc, ← rdSt_in hd, ← rdG_in hG, ← h2]
  · refine Tr.run_mono _ (fun o ho => ?_) (round x.1 x.2.1 x.2.2 R h)
    cases o with
    | next s =>
      obtain ⟨b, h1, h2, h3⟩ := ho
      exact ⟨(b, x.2.1, x.2.2), h1, h2, h3⟩
    | done e s => exact ho

/-! ### the letters -/
def dig (i : Int) : Int := w64 (bC (IntKind.u8.wrap (w64 (48 + Int.tmod i 10))))
noncomputable def p_top0 : List Pat := pats 146 [(0, .i .i64), (1, .i .i64), (2, .i .i64), (7, .b), (8, .p 0 0 0), (9, .i .i64)]
noncomputable def b_top0 : Code := bodyLoop Try.f7 0
noncomputable def s_top0 (row col n : Int) (ok : Bool) (i : Int) (s : Scr) : St := stS p_top0 [.i row, .i col, .i n, .b ok, .i i] s
noncomputable def e_top0 (row col n : Int) (ok : Bool) (s : Scr) : St := { fr := frame 146 [(0, .v (.c (.i .i64 row))), (1, .v (.c (.i .i64 col))), (2, .v (.c (.i .i64 n))), (7, .v (.c (.b ok))), (8, .v (.c (.p 0 0 0)))], rg := [some (scr s)] }
theorem round_top0 (row col n : Int) (ok : Bool) (i : Int) (s : Scr) (R : RO → Prop) : (roundT X_rol 0 [0, 1, 2, 7, 8, 9] [0, 1, 2, 7, 8] b_top0 (s_top0 row col n ok i s)).run R =
    sel (decide (i < n)) ((1 < 4611686018427387904 ∧ Inv s) ∧ R (.next (s_top0 row col n ok (w64 (i + 1)) (letsS [dig i] s)))) (R (.done .normal (e_top0 row col n ok s))) := by kernel_rfl
/-- k digits from the i-th on. -/
noncomputable def topN : Nat → Int → Scr → Scr
  | 0, _, s => s
  | k + 1, i, s => topN k (i + 1) (writeS (evL (dig i)) s)
noncomputable def l_top0 : List Leaf → Scr → Tr (NExit × St) := fun a s => match a with
  | [.i row, .i col, .i n, .b ok, .i i] => .must (0 ≤ i ∧ n ≤ 100 ∧ Inv s) (.ret (.normal, e_top0 row col n ok (topN (n - i).toNat i s)))
  | _ => .fail
set_option maxRecDepth 100000 in
theorem loop_top0 : LOk Try.prog [] 0 0 b_top0 (sumS p_top0 l_top0) := by
  refine sumS_ok (X := X_rol) kc_rol mixed (LAll.none (by kernel_rfl)) [0, 1, 2, 7, 8, 9] [0, 1, 2, 7, 8] _ _ (fun a x => match a with
    | [.i _, .i _, .i n, .b _, .i i] => (n - i).toNat
    | _ => 0) ?_
  intro a s R h
  unfold l_top0 at h
  split at h
  case h_2 => exact h.elim
  rename_i row col n ok i
  obtain ⟨⟨h1, h2, h3⟩, h⟩ := h
  have h' : R (.normal, e_top0 row col n ok (topN (n - i).toNat i s)) := h
  clear h
  refine Box.out (Box.of_eq (round_top0 row col n ok i s _) (sel_by (fun e => ?_) fun e => ?_))
  · obtain ⟨k, hk⟩ : ∃ k : Nat, (n - i).toNat = k + 1 := ⟨(n - i).toNat - 1, by omega⟩
    have hk' : (n - (i + 1)).toNat = k := by omega
    rw [hk] at h'
    rw [w64_id (x := i + 1) (by omega)]
    refine ⟨⟨by decide, h3⟩, [.i row, .i col, .i n, .b ok, .i (i + 1)], _, rfl, by show (n - (i + 1)).toNat < (n - i).toNat; omega, ⟨by omega, h2, inv_let h3.1⟩, ?_⟩
    show R (.normal, e_top0 row col n ok (topN (n - (i + 1)).toNat (i + 1) (writeS (evL (dig i)) s)))
    rw [hk']
    exact h'
  · have hz : (n - i).toNat = 0 := by omega
    rw [hz] at h'
    exact h'
/-! ### the line -/
noncomputable def p_top : List Pat := pats 146 [(0, .i .i64), (1, .i .i64), (2, .i .i64), (7, .b), (10, .p 0 0 0), (11, .p 1 0 0), (12, .p 2 0 0), (13, .p 3 0 0), (14, .p 4 0 0), (15, .i .i64)]
noncomputable def b_top : Code := bodyLoop Try.f7 2
noncomputable def s_top (row col n : Int) (ok : Bool) (i : Int) (x : Four) (G : List (List Sc)) : St := stT p_top [.i row, .i col, .i n, .b ok, .i i] x G
noncomputable def e_top (row col n : Int) (ok : Bool) (x : Four) : St := { fr := frame 146 [(0, .v (.c (.i .i64 row))), (1, .v (.c (.i .i64 col))), (2, .v (.c (.i .i64 n))), (7, .v (.c (.b ok))), (10, .v (.c (.p 0 0 0))), (11, .v (.c (.p 1 0 0))), (12, .v (.c (.p 2 0 0))), (13, .v (.c (.p 3 0 0)))], rg := [some (stRg x.a), some (stRg x.b), some (stRg x.c), some (stRg x.d)] }
noncomputable def f_top (row col n : Int) (ok : Bool) (x : Four) : St := { fr := frame 146 [(0, .v (.c (.i .i64 row))), (1, .v (.c (.i .i64 col))), (2, .v (.c (.i .i64 n))), (6, .v (.c (.b false))), (7, .v (.c (.b ok))), (10, .v (.c (.p 0 0 0))), (11, .v (.c (.p 1 0 0))), (12, .v (.c (.p 2 0 0))), (13, .v (.c (.p 3 0 0)))], rg := [some (stRg x.a), some (stRg x.b), some (stRg x.c), some (stRg x.d)] }
noncomputable def cellC (G : List (List Sc)) (i : Int) : List Sc := G.getD (0 * 40 + i.toNat) []
def chkL (i : Int) (A : Prop) : Prop := sel (decide (0 ≤ i)) (sel (decide (i < 40)) (sel (decide (0 * 40 + i.toNat < 1000)) A False) False) False
theorem round_top (row col n : Int) (ok : Bool) (i : Int) (x : Four) (G : List (List Sc)) (R : RO → Prop) : (roundT X_rol 2 [0, 1, 2, 7, 10, 11, 12, 13, 14, 15] [0, 1, 2, 6, 7, 10, 11, 12, 13] b_top (s_top row col n ok i x G)).run R =
    sel (decide (i < 40))
      (let Z := fun (w : Int) => chkL i (sel (xI (cellC G i) 0 != w) (R (.done .ret (f_top row col n ok x))) (R (.next (s_top row col n ok (w64 (i + 1)) x G))))
       let V := fun (w : Int) => sel (i == 39) (sel (decide (n ≥ 40)) (Z (w64 (48 + Int.tmod (w64 (n - 1)) 10))) (Z w)) (Z w)
       sel (decide (i < n)) (sel (decide (i < 39)) (V (w64 (48 + Int.tmod i 10))) (V 32)) (V 32))
      (R (.done .normal (e_top row col n ok x))) := by kernel_rfl
def want_top (n i : Int) : Int := if i < n ∧ i < 39 then 48 + i % 10 else if i = 39 ∧ 40 ≤ n then 48 + (n - 1) % 10 else 32
theorem in_top {n i : Int} {G : List (List Sc)} {N F : Prop} (h1 : 0 ≤ i) (h2 : i < 40) (hn : 1 ≤ n ∧ n ≤ 100) (hw : xI (cellC G i) 0 = want_top n i) (nx : N) :
      (let Z := fun (w : Int) => chkL i (sel (xI (cellC G i) 0 != w) F N)
       let V := fun (w : Int) => sel (i == 39) (sel (decide (n ≥ 40)) (Z (w64 (48 + Int.tmod (w64 (n - 1)) 10))) (Z w)) (Z w)
       sel (decide (i < n)) (sel (decide (i < 39)) (V (w64 (48 + Int.tmod i 10))) (V 32)) (V 32)) := by
  simp only []
  rw [w64_id (x := n - 1) (by omega), Int.tmod_eq_emod_of_nonneg (a := n - 1) (by omega), Int.tmod_eq_emod_of_nonneg h1, w64_id (x := 48 + (n - 1) % 10) (by omega), w64_id (x := 48 + i % 10) (by omega)]
  have Z : ∀ {w : Int}, xI (cellC G i) 0 = w → chkL i (sel (xI (cellC G i) 0 != w) F N) := fun h => selT (dT h1) (selT (dT h2) (selT (dT (by omega)) (selF (bneF h) nx)))
  unfold want_top at hw
  refine sel_by (fun a => sel_by (fun b => ?_) fun b => ?_) fun a => ?_
  · rw [if_pos ⟨a, b⟩] at hw
    exact sel_eq (fun c => by omega) fun c => Z hw
  · rw [if_neg (fun x => b x.2)] at hw
    refine sel_eq (fun c => sel_by (fun d => ?_) fun d => ?_) fun c => ?_
    · rw [if_pos ⟨c, d⟩] at hw; exact Z hw
    · rw [if_neg (fun x => d x.2)] at hw; exact Z hw
    · rw [if_neg (fun x => c x.1)] at hw; exact Z hw
  · rw [if_neg (fun x => a x.1)] at hw
    refine sel_eq (fun c => sel_by (fun d => ?_) fun d => ?_) fun c => ?_
    · rw [if_pos ⟨c, d⟩] at hw; exact Z hw
    · rw [if_neg (fun x => d x.2)] at hw; exact Z hw
    · rw [if_neg (fun x => c x.1)] at hw; exact Z hw
noncomputable def l_top : List Leaf → Four → List (List Sc) → Tr (NExit × St) := fun a x G => match a with
  | [.i row, .i col, .i n, .b ok, .i i] => .must ((0 ≤ i ∧ i ≤ 40) ∧ (1 ≤ n ∧ n ≤ 100) ∧ ∀ j : Int, i ≤ j → j < 40 → xI (cellC G j) 0 = want_top n j) (.ret (.normal, e_top row col n ok x))
  | _ => .fail
set_option maxHeartbeats 1000000 in
set_option maxRecDepth 100000 in
theorem loop_top : LOk Try.prog [] 0 2 b_top (sumT p_top l_top) := by
  refine sumT_ok (X := X_rol) kc_rol mixed (LAll.none (by kernel_rfl)) [0, 1, 2, 7, 10, 11, 12, 13, 14, 15] [0, 1, 2, 6, 7, 10, 11, 12, 13] _ _ (fun a => match a with
    | [.i _, .i _, .i _, .b _, .i i] => (40 - i).toNat
    | _ => 0) ?_
  intro a x G R h
  unfold l_top at h
  split at h
  case h_2 => exact h.elim
  rename_i row col n ok i
  obtain ⟨⟨⟨h1, h2⟩, h3, hw⟩, h⟩ := h
  have h' : R (.normal, e_top row col n ok x) := h
  clear h
  refine Box.out (Box.of_eq (round_top row col n ok i x G _) (sel_by (fun e => ?_) fun e => ?_))
  · refine in_top h1 e h3 (hw i (Int.le_refl i) e) ?_
    rw [w64_id (x := i + 1) (by omega)]
    exact ⟨[.i row, .i col, .i n, .b ok, .i (i + 1)], rfl, by show (40 - (i + 1)).toNat < (40 - i).toNat; omega, ⟨⟨by omega, by omega⟩, h3, fun j a b => hw j (by omega) b⟩, h'⟩
  · exact h'
noncomputable def t_top : Con := fun args regs => if regs.length = 0 then nfun Try.prog [] c_rol [(0, [0, 1, 2, 7, 8, 9], sumS p_top0 l_top0), (2, [0, 1, 2, 7, 10, 11, 12, 13, 14, 15], sumT p_top l_top)] Try.f7 args regs else .fail
theorem k_top : Known Try.prog [] 7 t_top := known_loops 0 Try.func7 rfl (by kernel_rfl) mixed kc_rol (LAll.two (i1 := 0) (i2 := 2) (b1 := b_top0) (b2 := b_top) (by kernel_rfl) rfl (by decide) loop_top0 loop_top)
def evClr (a : Int) : Ev := ⟨3, a, 0, 0, 0, 0, 0⟩
noncomputable def topC (row col n : Int) (s1 s2 s3 s4 : Scr) (R : Out → Prop) : Prop :=
  (((0 : Int) ≤ 0 ∧ (0 : Int) ≤ 40) ∧ (1 ≤ n ∧ n ≤ 100) ∧ ∀ j : Int, 0 ≤ j → j < 40 → xI (cellC (gridG s4.ma s4.sl) j) 0 = want_top n j) ∧
   sel (s1.row == 0) (sel (s1.col == mmI true n 39) (sel (s2.row == 0) (sel (s2.col == s1.col) (sel (s3.row == row) (sel (s3.col == col) (sel (s4.row == 1) (R (bO (s4.col == 0))) (R (bO false))) (R (bO false))) (R (bO false))) (R (bO false))) (R (bO false))) (R (bO false))) (R (bO false))
noncomputable def topB (row col n : Int) (R : Out → Prop) : Prop :=
  Inv newS ∧ Inv (atS row col newS) ∧ (((0 : Int) ≤ 0 ∧ n ≤ 100 ∧ Inv (atS 0 0 (atS row col newS))) ∧
   (let s1 := topN (n - 0).toNat 0 (atS 0 0 (atS row col newS))
    PreE (evMove 4 3) s1 ∧ PreE (evMove 3 1) (eventS (evMove 4 3) s1) ∧ PreE (evClr 1) (eventS (evMove 3 1) (eventS (evMove 4 3) s1)) ∧
    topC row col n s1 (eventS (evMove 4 3) s1) (eventS (evMove 3 1) (eventS (evMove 4 3) s1)) (eventS (evClr 1) (eventS (evMove 3 1) (eventS (evMove 4 3) s1))) R))
theorem top_tree (row col n : Int) (R : Out → Prop) : (t_top [.c (.i .i64 row), .c (.i .i64 col), .c (.i .i64 n)] []).run R =
    (numP 24 ∧ numP 40 ∧ numP 60 ∧ topB (w64 (row % 24 + 1)) (col % 40) (w64 (n % 60 + 1)) R) := by kernel_rfl
end Go.Proofs.Ytmhjmdfindfihaa.scr
