/-
  The screen's laws: loops over a screen and a grid; ScreenRepeats.
-/
import Derived.Test.YtmhjmdfindfihaaScJ
set_option linter.unusedVariables false
namespace Go.Proofs.Ytmhjmdfindfihaa.scr
open Go Go.Nx

/-- A grid. -/
def grd (G : List (List Sc)) : Reg := ⟨10000, 38, .sg [.recs KC 1000 G]⟩
noncomputable def rdG (g : Option Reg) : Option (List (List Sc)) := match g with
  | some ⟨st, e, .sg [.recs ks n G]⟩ => if st = 10000 ∧ e = 38 ∧ ks = KC ∧ n = 1000 then some G else none
  | _ => none
theorem rdG_in {g : Option Reg} {G : List (List Sc)} (h : rdG g = some G) : g = some (grd G) := by
  unfold rdG at h
  split at h
  case h_2 => cases h
  split at h
  case isFalse => cases h
  rename_i hc
  obtain ⟨rfl, rfl, rfl, rfl⟩ := hc
  cases h
  rfl
/-- A state: slots by a shape, a screen, a grid. -/
noncomputable def stG (fp : List Pat) (a : List Leaf) (x : Scr) (G : List (List Sc)) : St := { fr := makeL Pat.makeS fp a, rg := [some (scr x), some (grd G)] }
noncomputable def sumG (fp : List Pat) (f : List Leaf → Scr → List (List Sc) → Tr (NExit × St)) (s : St) : Tr (NExit × St) :=
  match readL Pat.readS fp s.fr, s.rg with
  | some a, [g, g'] => (match rdS g, rdG g' with
    | some x, some G => f a x G
    | _, _ => .fail)
  | _, _ => .fail
theorem sumG_ok {X : Cx} (hcon : ∀ f T, X.con f = some T → Known X.P X.glob f T) (hm : X.P.follows .mixedOrders = true) {id : Nat} {body : Code} (hl : LAll X body) (live out : List Nat) (fp : List Pat) (f : List Leaf → Scr → List (List Sc) → Tr (NExit × St)) (μ : List Leaf → Nat)
    (round : ∀ a x G R, (f a x G).run R → (roundT X id live out body (stG fp a x G)).run fun o => match o with
      | .next s => ∃ b, s = stG fp b x G ∧ μ b < μ a ∧ (f b x G).run R
      | .done e s => R (e, s)) : LOk X.P X.glob X.m id body (sumG fp f) := by
  refine loop_ok hcon hm hl live out (fun x : List Leaf × Scr × List (List Sc) => stG fp x.1 x.2.1 x.2.2) (fun x => μ x.1) (fun x R => (f x.1 x.2.1 x.2.2).run R) (fun s R h => ?_) (fun x R h => ?_)
  · unfold sumG at h
    split at h
    case h_2 => exact h.elim
    rename_i a g g' h1 h2
    split at h
    case h_2 => exact h.elim
    rename_i x G hx hG
    refine ⟨(a, x, G), ?_, h⟩
    unfold stG
    rw [readL_spec (fun p x l h => Pat.readS_spec h) h1, ← rdS_in hx, ← rdG_in hG, ← h2]
  · refine Tr.run_mono _ (fun o ho => ?_) (round x.1 x.2.1 x.2.2 R h)
    cases o with
    | next s =>
      obtain ⟨b, h1, h2, h3⟩ := ho
      exact ⟨(b, x.2.1, x.2.2), h1, h2, h3⟩
    | done e s => exact ho
/-- A cell's checks. -/
def chkC (r i : Int) (A : Prop) : Prop := sel (decide (0 ≤ r)) (sel (decide (r < 25)) (sel (decide (0 ≤ i)) (sel (decide (i < 40)) (sel (decide (r.toNat * 40 + i.toNat < 1000)) A False) False) False) False) False
theorem chkC_in {r i : Int} {A : Prop} (h1 : 0 ≤ r ∧ r ≤ 24) (h2 : 0 ≤ i ∧ i ≤ 39) (hA : A) : chkC r i A := selT (dT h1.1) (selT (dT (by omega)) (selT (dT h2.1) (selT (dT (by omega)) (selT (dT (by omega)) hA))))

/-! ### ScreenRepeats -/
noncomputable def c_rep : FuncId → Option Con := conOf [(12, tFirst), (13, num.tNumV), (14, tNew), (16, tState), (17, tEvent), (18, tGrid)]
theorem kc_rep : ∀ f T, c_rep f = some T → Known Try.prog [] f T := (Knowns.cons kFirst (Knowns.cons num.kNumV (Knowns.cons kNew (Knowns.cons kState (Knowns.cons kEvent (Knowns.cons kGrid Knowns.nil)))))).get
noncomputable def X_rep : Cx := { P := Try.prog, con := c_rep, glob := [], m := 0, loops := [] }
noncomputable def p_rep : List Pat := pats 105 [(0, .i .i64), (2, .i .i64), (3, .b), (9, .b), (10, .p 0 0 0), (11, .i .i64), (12, .p 1 0 0), (13, .i .i64)]
noncomputable def b_rep : Code := bodyLoop Try.f6 0
noncomputable def s_rep (n colour : Int) (none_ ok : Bool) (letter i : Int) (s : Scr) (G : List (List Sc)) : St := stG p_rep [.i n, .i colour, .b none_, .b ok, .i letter, .i i] s G
noncomputable def e_rep (n : Int) (none_ ok : Bool) (s : Scr) (G : List (List Sc)) : St := { fr := frame 105 [(0, .v (.c (.i .i64 n))), (3, .v (.c (.b none_))), (9, .v (.c (.b ok))), (10, .v (.c (.p 0 0 0))), (12, .v (.c (.p 1 0 0)))], rg := [some (scr s), some (grd G)] }
noncomputable def f_rep (n : Int) (none_ ok : Bool) (s : Scr) (G : List (List Sc)) : St := { fr := frame 105 [(0, .v (.c (.i .i64 n))), (3, .v (.c (.b none_))), (8, .v (.c (.b false))), (9, .v (.c (.b ok))), (10, .v (.c (.p 0 0 0))), (12, .v (.c (.p 1 0 0)))], rg := [some (scr s), some (grd G)] }
noncomputable def cell1 (G : List (List Sc)) (i : Int) : List Sc := G.getD (1 * 40 + i.toNat) []
theorem round_rep (n colour : Int) (none_ ok : Bool) (letter i : Int) (s : Scr) (G : List (List Sc)) (R : RO → Prop) : (roundT X_rep 0 [0, 2, 3, 9, 10, 11, 12, 13] [0, 3, 8, 9, 10, 12] b_rep (s_rep n colour none_ ok letter i s G)).run R =
    sel (decide (i < 40))
      (let X := fun (none' : Bool) (gl fg : Int) => chkC 1 i (sel (xI (cell1 G i) 0 != gl) (R (.done .ret (f_rep n none' ok s G))) (chkC 1 i (sel (xI (cell1 G i) 1 != fg) (R (.done .ret (f_rep n none' ok s G))) (R (.next (s_rep n colour none' ok letter (w64 (i + 1)) s G))))))
       sel (decide (i ≤ n)) (sel (!none_) (X none_ letter colour) (X none_ 32 7)) (X none_ 32 7))
      (R (.done .normal (e_rep n none_ ok s G))) := by kernel_rfl
def want_rep (n colour : Int) (none_ : Bool) (letter : Int) (G : List (List Sc)) (i : Int) : Prop :=
  xI (cell1 G i) 0 = (if i ≤ n ∧ none_ = false then letter else 32) ∧ xI (cell1 G i) 1 = (if i ≤ n ∧ none_ = false then colour else 7)
noncomputable def l_rep : List Leaf → Scr → List (List Sc) → Tr (NExit × St) := fun a s G => match a with
  | [.i n, .i colour, .b none_, .b ok, .i letter, .i i] => .must ((0 ≤ i ∧ i ≤ 40) ∧ ∀ j : Int, i ≤ j → j < 40 → want_rep n colour none_ letter G j) (.ret (.normal, e_rep n none_ ok s G))
  | _ => .fail
theorem bneF {x y : Int} (h : x = y) : (x != y) = false := by rw [h]; exact bne_self_eq_false y
set_option maxRecDepth 100000 in
theorem loop_rep : LOk Try.prog [] 0 0 b_rep (sumG p_rep l_rep) := by
  refine sumG_ok (X := X_rep) kc_rep mixed (LAll.none (by kernel_rfl)) [0, 2, 3, 9, 10, 11, 12, 13] [0, 3, 8, 9, 10, 12] _ _ (fun a => match a with
    | [.i _, .i _, .b _, .b _, .i _, .i i] => (40 - i).toNat
    | _ => 0) ?_
  intro a s G R h
  unfold l_rep at h
  split at h
  case h_2 => exact h.elim
  rename_i n colour none_ ok letter i
  obtain ⟨⟨⟨h1, h2⟩, hw⟩, h⟩ := h
  have h' : R (.normal, e_rep n none_ ok s G) := h
  clear h
  refine Box.out (Box.of_eq (round_rep n colour none_ ok letter i s G _) (sel_by (fun e => ?_) fun e => ?_))
  · have hwi := hw i (Int.le_refl i) e
    have hww : w64 (i + 1) = i + 1 := w64_id (by omega)
    rw [hww]
    have nx : ∃ b, s_rep n colour none_ ok letter (i + 1) s G = stG p_rep b s G ∧ (match b with
        | [.i _, .i _, .b _, .b _, .i _, .i i] => (40 - i).toNat
        | _ => 0) < (40 - i).toNat ∧ (l_rep b s G).run R :=
      ⟨[.i n, .i colour, .b none_, .b ok, .i letter, .i (i + 1)], rfl, by show (40 - (i + 1)).toNat < _; omega, ⟨⟨by omega, by omega⟩, fun j a b => hw j (by omega) b⟩, h'⟩
    have fin : ∀ {gl fg : Int}, xI (cell1 G i) 0 = gl → xI (cell1 G i) 1 = fg → chkC 1 i (sel (xI (cell1 G i) 0 != gl) (R (.ret, f_rep n none_ ok s G)) (chkC 1 i (sel (xI (cell1 G i) 1 != fg) (R (.ret, f_rep n none_ ok s G)) (∃ b, s_rep n colour none_ ok letter (i + 1) s G = stG p_rep b s G ∧ (match b with
        | [.i _, .i _, .b _, .b _, .i _, .i i] => (40 - i).toNat
        | _ => 0) < (40 - i).toNat ∧ (l_rep b s G).run R)))) :=
      fun a b => chkC_in ⟨by omega, by omega⟩ ⟨h1, by omega⟩ (selF (bneF a) (chkC_in ⟨by omega, by omega⟩ ⟨h1, by omega⟩ (selF (bneF b) nx)))
    obtain ⟨w1, w2⟩ := hwi
    refine sel_by (fun c => sel_b (fun d => ?_) fun d => ?_) fun c => ?_
    · have hn : none_ = false := by simpa using d
      rw [if_pos ⟨c, hn⟩] at w1 w2
      exact fin w1 w2
    · have hn : none_ = true := by simpa using d
      rw [if_neg (fun x => by rw [hn] at x; exact absurd x.2 (by decide))] at w1 w2
      exact fin w1 w2
    · rw [if_neg (fun x => c x.1)] at w1 w2
      exact fin w1 w2
  · exact h'
noncomputable def t_rep : Con := fun args regs => if regs.length = 0 then nfun Try.prog [] c_rep [(0, [0, 2, 3, 9, 10, 11, 12, 13], sumG p_rep l_rep)] Try.f6 args regs else .fail
theorem k_rep : Known Try.prog [] 6 t_rep := known_loops 0 Try.func6 rfl (by kernel_rfl) mixed kc_rep (LAll.one (id := 0) (body := b_rep) (by kernel_rfl) rfl loop_rep)
def evA (a : Int) : Ev := ⟨6, a, 0, 0, 0, 0, 0⟩
def evR (a : Int) : Ev := ⟨7, a, 0, 0, 0, 0, 0⟩
noncomputable def repB (n colour : Int) (none_ : Bool) (letter : Int) (s : Scr) (R : Out → Prop) : Prop :=
  PreE (evA (w64 (64 + colour))) s ∧ PreE (evR n) (eventS (evA (w64 (64 + colour))) s) ∧
   (let t := eventS (evR n) (eventS (evA (w64 (64 + colour))) s)
    let G := gridG t.ma t.sl
    ((((0 : Int) ≤ 1 ∧ (1 : Int) ≤ 40) ∧ ∀ j : Int, 1 ≤ j → j < 40 → want_rep n colour none_ letter G j) ∧
     (let T := sel (!none_) (sel (t.col == w64 (n + 1)) (R (bO (xI (cell1 G 0) 1 == 7))) (R (bO false))) (R (bO false))
      sel none_ (sel (t.col == 0) (R (bO true)) T) T)))
theorem rep_tree (n c colour : Int) (none_ : Bool) (R : Out → Prop) : (t_rep [.c (.i .i64 n), .c (.i .u8 c), .c (.i .i64 colour), .c (.b none_)] []).run R =
    (numP 30 ∧ numP 8 ∧ sel (!none_) (PreE (evL (w64 (65 + Int.tmod (w64 c) 26))) newS ∧ repB (n % 30) (colour % 8) none_ (w64 (65 + Int.tmod (w64 c) 26)) (eventS (evL (w64 (65 + Int.tmod (w64 c) 26))) newS) R)
      (repB (n % 30) (colour % 8) none_ (w64 (65 + Int.tmod (w64 c) 26)) newS R)) := by kernel_rfl
theorem event_attr (a : Int) (s : Scr) : eventS (evA a) s = attrS a s := by kernel_rfl
theorem event_rep (a : Int) (s : Scr) : eventS (evR a) s = againS a s := by kernel_rfl
theorem event_let (code : Int) (s : Scr) : eventS (evL code) s = writeS (evL code) s := by kernel_rfl
theorem attr_fg {c : Int} {s : Scr} (h : 0 ≤ c ∧ c ≤ 7) : attrS (64 + c) s = { s with fg := c } := by
  unfold attrS attrB
  rw [if_neg (by omega), if_neg (by omega), if_neg (by omega), if_pos (by omega)]
  have : 64 + c - 64 = c := by omega
  rw [this]
theorem plain_up {L : Int} (h : 65 ≤ L ∧ L ≤ 90) : plainG L = L := by
  have key : ∀ k : Fin 26, plainG (65 + ((k.val : Nat) : Int)) = 65 + ((k.val : Nat) : Int) := by decide +kernel
  have := key ⟨(L - 65).toNat, by omega⟩
  simp only at this
  rw [show (65 : Int) + (((L - 65).toNat : Nat) : Int) = L by omega] at this
  exact this
theorem step_in {s : Scr} (h : s.col + 1 ≤ 39) : stepW s false = { s with col := s.col + 1 } := by
  unfold stepW
  show (if s.col + 1 ≤ 39 then _ else _) = _
  rw [if_pos h]
  rfl
/-- Signs that were written in a row: the cursor, what is set, the slots. -/
theorem againN_spec : ∀ (n : Nat) (s : Scr), s.row = 1 → 0 ≤ s.col → s.col + n ≤ 39 → s.wt = false → s.ta = false → s.wi = false → s.e5 = 0 → s.sl.length = 1000 →
    (againN n s).col = s.col + n ∧ (againN n s).ma = s.ma ∧ (againN n s).sl.length = 1000 ∧ ∀ j, (againN n s).sl.getD j [] = if 40 + s.col.toNat ≤ j ∧ j < 40 + s.col.toNat + n then lrow (plainG s.e6) s else s.sl.getD j []
  | 0, s, _, _, _, _, _, _, _, hl => ⟨by show s.col = s.col + ((0 : Nat) : Int); simp, rfl, hl, fun j => by rw [if_neg (by omega)]; rfl⟩
  | n + 1, s, hr, h0, hc, h1, h2, h3, h4, hl => by
    have hw : writeS (evOf s) s = { wroteS s (evOf s) with sl := s.sl.set (s.row.toNat * 40 + s.col.toNat) (lrow (plainG s.e6) s), col := s.col + 1 } := by
      rw [write_flat (e := evOf s) h4 h1 h2 h3, step_in (by show s.col + 1 ≤ 39; omega)]
      rfl
    have hlt : s.row.toNat * 40 + s.col.toNat < s.sl.length := by rw [hr, hl]; omega
    obtain ⟨a1, a2, a3, a4⟩ := againN_spec n (writeS (evOf s) s) (by rw [hw]; exact hr) (by rw [hw]; show 0 ≤ s.col + 1; omega) (by rw [hw]; show s.col + 1 + (n : Int) ≤ 39; omega) (by rw [hw]; exact h1) (by rw [hw]; exact h2) (by rw [hw]; exact h3) (by rw [hw]; exact h4) (by rw [hw]; show (s.sl.set _ _).length = 1000; rw [List.length_set]; exact hl)
    refine ⟨?_, ?_, a3, fun j => ?_⟩
    · show (againN n (writeS (evOf s) s)).col = _
      rw [a1, hw]
      show s.col + 1 + (n : Int) = _
      omega
    · show (againN n (writeS (evOf s) s)).ma = _
      rw [a2, hw]
      rfl
    · show (againN n (writeS (evOf s) s)).sl.getD j [] = _
      rw [a4, hw]
      show (if 40 + (s.col + 1).toNat ≤ j ∧ j < 40 + (s.col + 1).toNat + n then lrow (plainG s.e6) s else (s.sl.set (s.row.toNat * 40 + s.col.toNat) (lrow (plainG s.e6) s)).getD j []) = _
      rw [getD_set _ _ _ _ _ hlt, hr]
      by_cases e : 40 + s.col.toNat = j
      · rw [if_neg (by omega), if_pos (by omega), if_pos (by omega)]
      · by_cases e2 : 40 + (s.col + 1).toNat ≤ j ∧ j < 40 + (s.col + 1).toNat + n
        · rw [if_pos e2, if_pos (by omega)]
        · rw [if_neg e2, if_neg (by omega), if_neg (by omega)]
theorem againS_yes {a : Int} {s : Scr} (h : s.e0 = 1) : againS a s = againN (many 0 63 a).toNat s := if_pos h
theorem againS_no {a : Int} {s : Scr} (h : s.e0 ≠ 1) : againS a s = s := if_neg h
theorem newS_get {j : Nat} (h : j < 1000) : newS.sl.getD j [] = blk := getD_rep 1000 j blk [] h
theorem newS_len : newS.sl.length = 1000 := by show (List.replicate 1000 blk).length = 1000; rw [List.length_replicate]
/-- The screen behind its first letter. -/
def s1L (L : Int) : Scr := { newS with sl := newS.sl.set 40 (lrow L newS), col := 1, e0 := 1, e1 := 0, e2 := 0, e3 := 0, e4 := 0, e5 := 0, e6 := L }
theorem first_let {L : Int} (hL : 65 ≤ L ∧ L ≤ 90) : writeS (evL L) newS = s1L L := by
  rw [write_flat (e := evL L) rfl rfl rfl rfl, step_in (show (0 : Int) + 1 ≤ 39 by decide)]
  show Scr.mk _ _ _ _ _ _ _ _ _ _ _ _ _ _ (newS.sl.set 40 (lrow (plainG L) newS)) _ _ _ _ _ _ _ _ _ _ = _
  rw [plain_up hL]
  rfl
theorem rep_true {n colour L : Int} {none_ : Bool} (hn : 0 ≤ n ∧ n ≤ 29) (hc : 0 ≤ colour ∧ colour ≤ 7) (hL : 65 ≤ L ∧ L ≤ 90) : sel (!none_) (PreE (evL L) newS ∧ repB n colour none_ L (eventS (evL L) newS) (fun o => o.res = .v (.c (.b true)))) (repB n colour none_ L newS (fun o => o.res = .v (.c (.b true)))) := by
  have h64 : w64 (64 + colour) = 64 + colour := w64_id (by omega)
  have hm := (many_eq (n := n) (by omega : (0 : Int) ≤ 63)).2.2.1 hn.1 (by omega)
  cases none_ with
  | true =>
    refine selF rfl ?_
    unfold repB
    rw [h64, event_attr, attr_fg hc, event_rep]
    have ha : againS n { newS with fg := colour } = { newS with fg := colour } := againS_no (show (0 : Int) ≠ 1 by decide)
    rw [ha]
    refine ⟨⟨newS_inv.1, (fun e => absurd (show (6 : Int) = 1 from e) (by decide)), newS_inv.2⟩, ⟨newS_inv.1, (fun e => absurd (show (7 : Int) = 1 from e) (by decide)), newS_inv.2⟩, ⟨⟨by decide, by decide⟩, fun j h1 h2 => ?_⟩, ?_⟩
    · have hx : cell1 (gridG true newS.sl) j = flatC blk := by
        unfold cell1
        rw [grid_flat (by omega) (by omega) (fun q hq => by rw [newS_get (by omega)]; exact flat_blk), newS_get (by omega)]
      unfold want_rep
      show xI (cell1 (gridG true newS.sl) j) 0 = _ ∧ xI (cell1 (gridG true newS.sl) j) 1 = _
      rw [hx, if_neg (fun x => absurd x.2 (by decide)), if_neg (fun x => absurd x.2 (by decide))]
      exact ⟨rfl, rfl⟩
    · exact selT rfl (selT rfl rfl)
  | false =>
    refine selT rfl ?_
    have hg : GoodE (evL L) := good_evL rfl
    refine ⟨⟨newS_inv.1, fun _ => hg, newS_inv.2⟩, ?_⟩
    rw [event_let, first_let hL]
    unfold repB
    rw [h64, event_attr, attr_fg hc, event_rep]
    have hon : On (s1L L) := ⟨⟨(by decide : (0 : Int) ≤ 1), (by decide : (1 : Int) ≤ 24)⟩, ⟨(by decide : (0 : Int) ≤ 1), (by decide : (1 : Int) ≤ 39)⟩, ⟨(by decide : (0 : Int) ≤ 1), (by decide : (1 : Int) ≤ 24)⟩, ⟨(by decide : (0 : Int) ≤ 0), (by decide : (0 : Int) ≤ 39)⟩⟩
    have ha : againS n { s1L L with fg := colour } = againN n.toNat { s1L L with fg := colour } := by
      rw [againS_yes (show (1 : Int) = 1 from rfl), hm]
    rw [ha]
    obtain ⟨a1, a2, a3, a4⟩ := againN_spec n.toNat { s1L L with fg := colour } rfl (show (0 : Int) ≤ 1 by decide) (by show (1 : Int) + n.toNat ≤ 39; omega) rfl rfl rfl rfl (by show (newS.sl.set 40 (lrow L newS)).length = 1000; rw [List.length_set]; exact newS_len)
    generalize againN n.toNat { s1L L with fg := colour } = t at *
    have a1 : t.col = 1 + n := by rw [a1]; show (1 : Int) + n.toNat = _; omega
    have a2 : t.ma = true := a2
    have a4 : ∀ j, t.sl.getD j [] = if 41 ≤ j ∧ j < 41 + n.toNat then lrow L { newS with fg := colour } else (newS.sl.set 40 (lrow L newS)).getD j [] := fun j => by
      rw [a4 j]
      show (if 40 + (1 : Int).toNat ≤ j ∧ j < 40 + (1 : Int).toNat + n.toNat then lrow (plainG L) _ else _) = _
      rw [plain_up hL]
      rfl
    have sl : ∀ c, c < 40 → t.sl.getD (1 * 40 + c) [] = if 1 ≤ c ∧ c < 1 + n.toNat then lrow L { newS with fg := colour } else if c = 0 then lrow L newS else blk := fun c hc' => by
      rw [a4, getD_set _ _ _ _ _ (by rw [newS_len]; omega)]
      by_cases e : 1 ≤ c ∧ c < 1 + n.toNat
      · rw [if_pos (by omega), if_pos e]
      · rw [if_neg (by omega), if_neg e]
        by_cases e2 : c = 0
        · rw [if_pos (by omega), if_pos e2]
        · rw [if_neg (by omega), if_neg e2, newS_get (by omega)]
    have fl : ∀ (f : Int) (x : Scr), Flat (lrow L { x with fg := f }) := fun f x => ⟨rfl, isMos_small (by show 0 ≤ L ∧ L < 1048576; omega)⟩
    have cell : ∀ c, c < 40 → (gridG t.ma t.sl).getD (1 * 40 + c) [] = flatC (t.sl.getD (1 * 40 + c) []) := fun c hc' => grid_flat (by omega) hc' fun j hj => by
      rw [sl j (by omega)]
      split
      · exact fl _ _
      · split
        · exact fl 7 newS
        · exact flat_blk
    refine ⟨⟨hon, (fun e => absurd (show (6 : Int) = 1 from e) (by decide)), fun _ => hg⟩, ⟨hon, (fun e => absurd (show (7 : Int) = 1 from e) (by decide)), fun _ => hg⟩, ⟨⟨by decide, by decide⟩, fun j h1 h2 => ?_⟩, ?_⟩
    · unfold want_rep cell1
      have hs := sl j.toNat (by omega)
      by_cases e : j ≤ n
      · rw [if_pos (by omega : 1 ≤ j.toNat ∧ j.toNat < 1 + n.toNat)] at hs
        rw [cell _ (by omega), hs, if_pos ⟨e, rfl⟩, if_pos ⟨e, rfl⟩]
        exact ⟨rfl, rfl⟩
      · rw [if_neg (by omega : ¬ (1 ≤ j.toNat ∧ j.toNat < 1 + n.toNat)), if_neg (by omega : ¬ j.toNat = 0)] at hs
        rw [cell _ (by omega), hs, if_neg (fun x => e x.1), if_neg (fun x => e x.1)]
        exact ⟨rfl, rfl⟩
    · refine selF rfl (selT rfl (selT (bT ?_) ?_))
      · rw [a1, w64_id (by omega)]; omega
      · show NS.v (.c (.b (xI (cell1 (gridG t.ma t.sl) 0) 1 == 7))) = _
        have : xI (cell1 (gridG t.ma t.sl) 0) 1 = 7 := by
          unfold cell1
          rw [cell _ (by decide), sl _ (by decide), if_neg (by omega), if_pos (by decide)]
          rfl
        rw [bT this]
def shsRep : List Sh := [.i .i64, .i .u8, .i .i64, .b]
theorem rep_law (xs : List NV) (h : R2 ShOk shsRep xs) : Holds (t_rep xs []) fun o => o.res = .v (.c (.b true)) := by
  cases h with
  | cons h1 h =>
    cases h with
    | cons h2 h =>
      cases h with
      | cons h3 h =>
        cases h with
        | cons h4 h =>
          cases h
          cases h1 with
          | i _ =>
            cases h2 with
            | i hu =>
              cases h3 with
              | i _ =>
                cases h4 with
                | b =>
                  rename_i n _ c colour _ none_
                  constructor
                  rw [rep_tree]
                  have a1 := Int.emod_nonneg n (by decide : (30 : Int) ≠ 0)
                  have a2 := Int.emod_lt_of_pos n (by decide : (0 : Int) < 30)
                  have b1 := Int.emod_nonneg colour (by decide : (8 : Int) ≠ 0)
                  have b2 := Int.emod_lt_of_pos colour (by decide : (0 : Int) < 8)
                  simp [Lit.wf, IntKind.min, IntKind.max, IntKind.signed, IntKind.bits] at hu
                  have c1 := Int.emod_nonneg c (by decide : (26 : Int) ≠ 0)
                  have c2 := Int.emod_lt_of_pos c (by decide : (0 : Int) < 26)
                  have e1 : w64 (65 + Int.tmod (w64 c) 26) = 65 + c % 26 := by
                    rw [w64_id (x := c) (by omega), Int.tmod_eq_emod_of_nonneg (by omega)]
                    exact w64_id (by omega)
                  rw [e1]
                  exact ⟨⟨by decide, by decide⟩, ⟨by decide, by decide⟩, rep_true ⟨by omega, by omega⟩ ⟨by omega, by omega⟩ ⟨by omega, by omega⟩⟩
end Go.Proofs.Ytmhjmdfindfihaa.scr
