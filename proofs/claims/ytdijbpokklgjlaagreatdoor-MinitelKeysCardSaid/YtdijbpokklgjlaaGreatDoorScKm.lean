/-
  The screen's laws: loops over a screen and a grid; ScreenRepeats.
-/
import Derived.Test.YtdijbpokklgjlaaGreatDoorScYY
set_option linter.unusedVariables false
namespace Go.Proofs.YtdijbpokklgjlaaGreatDoor.scr
open Go Go.Nx
set_option maxRecDepth 100000

/-- A grid. -/
def grd (G : List (List Sc)) : Reg := ⟨10000, 43, .sg [.recs KC 1000 G]⟩
noncomputable def rdG (g : Option Reg) : Option (List (List Sc)) := match g with
  | some ⟨st, e, .sg [.recs ks n G]⟩ => if st = 10000 ∧ e = 43 ∧ ks = KC ∧ n = 1000 then some G else none
  | _ => none
theorem rdG_in {g : Option Reg} {G : List (List Sc)} (h : rdG g = some G) : g = some (grd G) := by
  unfold rdG at h
  split at h
  case h_2 => cases h
  split at h
  case isFalse => cases h
  rename_i hc
  obtain ⟨rfl, rfl, rfl, rfl⟩ := hc
  cases h
  rfl
/-- A state: slots by a shape, a screen, a grid. -/
noncomputable def stG (fp : List Pat) (a : List Leaf) (x : Scr) (G : List (List Sc)) : St := { fr := makeL Pat.makeS fp a, rg := [some (scr x), some (grd G)] }
noncomputable def sumG (fp : List Pat) (f : List Leaf → Scr → List (List Sc) → Tr (NExit × St)) (s : St) : Tr (NExit × St) :=
  match readL Pat.readS fp s.fr, s.rg with
  | some a, [g, g'] => (match rdS g, rdG g' with
    | some x, some G => f a x G
    | _, _ => .fail)
  | _, _ => .fail
theorem sumG_ok {X : Cx} (hcon : ∀ f T, X.con f = some T → Known X.P X.glob f T) (hm : X.P.follows .mixedOrders = true) {id : Nat} {body : Code} (hl : LAll X body) (live out : List Nat) (fp : List Pat) (f : List Leaf → Scr → List (List Sc) → Tr (NExit × St)) (μ : List Leaf → Nat)
    (round : ∀ a x G R, (f a x G).run R → (roundT X id live out body (stG fp a x G)).run fun o => match o with
      | .next s => ∃ b, s = stG fp b x G ∧ μ b < μ a ∧ (f b x G).run R
      | .done e s => R (e, s)) : LOk X.P X.glob X.m id body (sumG fp f) := by
  refine loop_ok hcon hm hl live out (fun x : List Leaf × Scr × List (List Sc) => stG fp x.1 x.2.1 x.2.2) (fun x => μ x.1) (fun x R => (f x.1 x.2.1 x.2.2).run R) (fun s R h => ?_) (fun x R h => ?_)
  · unfold sumG at h
    split at h
    case h_2 => exact h.elim
    rename_i a g g' h1 h2
    split at h
    case h_2 => exact h.elim
    rename_i x G hx hG
    refine ⟨(a, x, G), ?_, h⟩
    unfold stG
    rw [readL_spec (fun p x l h => Pat.readS_spec h) h1, ← rdS_in hx, ← rdG_in hG, ← h2]
  · refine Tr.run_mono _ (fun o ho => ?_) (round x.1 x.2.1 x.2.2 R h)
    cases o with
    | next s =>
      obtain ⟨b, h1, h2, h3⟩ := ho
      exact ⟨(b, x.2.1, x.2.2), h1, h2, h3⟩
    | done e s => exact ho
/-- A cell's checks. -/
def chkC (r i : Int) (A : Prop) : Prop := sel (decide (0 ≤ r)) (sel (decide (r < 25)) (sel (decide (0 ≤ i)) (sel (decide (i < 40)) (sel (decide (r.toNat * 40 + i.toNat < 1000)) A False) False) False) False) False
theorem chkC_in {r i : Int} {A : Prop} (h1 : 0 ≤ r ∧ r ≤ 24) (h2 : 0 ≤ i ∧ i ≤ 39) (hA : A) : chkC r i A := selT (dT h1.1) (selT (dT (by omega)) (selT (dT h2.1) (selT (dT (by omega)) (selT (dT (by omega)) hA))))

/-! ### ScreenRepeats -/
noncomputable def p_rep : List Pat := pats 105 [(0, .i .i64), (2, .i .i64), (3, .b), (9, .b), (10, .p 0 0 0), (11, .i .i64), (12, .p 1 0 0), (13, .i .i64)]
noncomputable def s_rep (n colour : Int) (none_ ok : Bool) (letter i : Int) (s : Scr) (G : List (List Sc)) : St := stG p_rep [.i n, .i colour, .b none_, .b ok, .i letter, .i i] s G
noncomputable def e_rep (n : Int) (none_ ok : Bool) (s : Scr) (G : List (List Sc)) : St := { fr := frame 105 [(0, .v (.c (.i .i64 n))), (3, .v (.c (.b none_))), (9, .v (.c (.b ok))), (10, .v (.c (.p 0 0 0))), (12, .v (.c (.p 1 0 0)))], rg := [some (scr s), some (grd G)] }
noncomputable def f_rep (n : Int) (none_ ok : Bool) (s : Scr) (G : List (List Sc)) : St := { fr := frame 105 [(0, .v (.c (.i .i64 n))), (3, .v (.c (.b none_))), (8, .v (.c (.b false))), (9, .v (.c (.b ok))), (10, .v (.c (.p 0 0 0))), (12, .v (.c (.p 1 0 0)))], rg := [some (scr s), some (grd G)] }
noncomputable def cell1 (G : List (List Sc)) (i : Int) : List Sc := G.getD (1 * 40 + i.toNat) []
def want_rep (n colour : Int) (none_ : Bool) (letter : Int) (G : List (List Sc)) (i : Int) : Prop :=
  xI (cell1 G i) 0 = (if i ≤ n ∧ none_ = false then letter else 32) ∧ xI (cell1 G i) 1 = (if i ≤ n ∧ none_ = false then colour else 7)
noncomputable def l_rep : List Leaf → Scr → List (List Sc) → Tr (NExit × St) := fun a s G => match a with
  | [.i n, .i colour, .b none_, .b ok, .i letter, .i i] => .must ((0 ≤ i ∧ i ≤ 40) ∧ ∀ j : Int, i ≤ j → j < 40 → want_rep n colour none_ letter G j) (.ret (.normal, e_rep n none_ ok s G))
  | _ => .fail
theorem bneF {x y : Int} (h : x = y) : (x != y) = false := by rw [h]; exact bne_self_eq_false y
def evA (a : Int) : Ev := ⟨6, a, 0, 0, 0, 0, 0⟩
def evR (a : Int) : Ev := ⟨7, a, 0, 0, 0, 0, 0⟩
noncomputable def repB (n colour : Int) (none_ : Bool) (letter : Int) (s : Scr) (R : Out → Prop) : Prop :=
  PreE (evA (w64 (64 + colour))) s ∧ PreE (evR n) (eventS (evA (w64 (64 + colour))) s) ∧
   (let t := eventS (evR n) (eventS (evA (w64 (64 + colour))) s)
    let G := gridG t.ma t.sl
    ((((0 : Int) ≤ 1 ∧ (1 : Int) ≤ 40) ∧ ∀ j : Int, 1 ≤ j → j < 40 → want_rep n colour none_ letter G j) ∧
     (let T := sel (!none_) (sel (t.col == w64 (n + 1)) (R (bO (xI (cell1 G 0) 1 == 7))) (R (bO false))) (R (bO false))
      sel none_ (sel (t.col == 0) (R (bO true)) T) T)))
theorem event_attr (a : Int) (s : Scr) : eventS (evA a) s = attrS a s := by kernel_rfl
theorem event_rep (a : Int) (s : Scr) : eventS (evR a) s = againS a s := by kernel_rfl
theorem event_let (code : Int) (s : Scr) : eventS (evL code) s = writeS (evL code) s := by kernel_rfl
theorem attr_fg {c : Int} {s : Scr} (h : 0 ≤ c ∧ c ≤ 7) : attrS (64 + c) s = { s with fg := c } := by
  unfold attrS attrB
  rw [if_neg (by omega), if_neg (by omega), if_neg (by omega), if_pos (by omega)]
  have : 64 + c - 64 = c := by omega
  rw [this]
theorem plain_up {L : Int} (h : 65 ≤ L ∧ L ≤ 90) : plainG L = L := by
  have key : ∀ k : Fin 26, plainG (65 + ((k.val : Nat) : Int)) = 65 + ((k.val : Nat) : Int) := by decide +kernel
  have := key ⟨(L - 65).toNat, by omega⟩
  simp only at this
  rw [show (65 : Int) + (((L - 65).toNat : Nat) : Int) = L by omega] at this
  exact this
theorem step_in {s : Scr} (h : s.col + 1 ≤ 39) : stepW s false = { s with col := s.col + 1 } := by
  unfold stepW
  show (if s.col + 1 ≤ 39 then _ else _) = _
  rw [if_pos h]
  rfl
/-- Signs that were written in a row: the cursor, what is set, the slots. -/
theorem againN_spec : ∀ (n : Nat) (s : Scr), s.row = 1 → 0 ≤ s.col → s.col + n ≤ 39 → s.wt = false → s.ta = false → s.wi = false → s.e5 = 0 → s.sl.length = 1000 →
    (againN n s).col = s.col + n ∧ (againN n s).ma = s.ma ∧ (againN n s).sl.length = 1000 ∧ ∀ j, (againN n s).sl.getD j [] = if 40 + s.col.toNat ≤ j ∧ j < 40 + s.col.toNat + n then lrow (plainG s.e6) s else s.sl.getD j []
  | 0, s, _, _, _, _, _, _, _, hl => ⟨by show s.col = s.col + ((0 : Nat) : Int); simp, rfl, hl, fun j => by rw [if_neg (by omega)]; rfl⟩
  | n + 1, s, hr, h0, hc, h1, h2, h3, h4, hl => by
    have hw : writeS (evOf s) s = { wroteS s (evOf s) with sl := s.sl.set (s.row.toNat * 40 + s.col.toNat) (lrow (plainG s.e6) s), col := s.col + 1 } := by
      rw [write_flat (e := evOf s) h4 h1 h2 h3, step_in (by show s.col + 1 ≤ 39; omega)]
      rfl
    have hlt : s.row.toNat * 40 + s.col.toNat < s.sl.length := by rw [hr, hl]; omega
    obtain ⟨a1, a2, a3, a4⟩ := againN_spec n (writeS (evOf s) s) (by rw [hw]; exact hr) (by rw [hw]; show 0 ≤ s.col + 1; omega) (by rw [hw]; show s.col + 1 + (n : Int) ≤ 39; omega) (by rw [hw]; exact h1) (by rw [hw]; exact h2) (by rw [hw]; exact h3) (by rw [hw]; exact h4) (by rw [hw]; show (s.sl.set _ _).length = 1000; rw [List.length_set]; exact hl)
    refine ⟨?_, ?_, a3, fun j => ?_⟩
    · show (againN n (writeS (evOf s) s)).col = _
      rw [a1, hw]
      show s.col + 1 + (n : Int) = _
      omega
    · show (againN n (writeS (evOf s) s)).ma = _
      rw [a2, hw]
      rfl
    · show (againN n (writeS (evOf s) s)).sl.getD j [] = _
      rw [a4, hw]
      show (if 40 + (s.col + 1).toNat ≤ j ∧ j < 40 + (s.col + 1).toNat + n then lrow (plainG s.e6) s else (s.sl.set (s.row.toNat * 40 + s.col.toNat) (lrow (plainG s.e6) s)).getD j []) = _
      rw [getD_set _ _ _ _ _ hlt, hr]
      by_cases e : 40 + s.col.toNat = j
      · rw [if_neg (by omega), if_pos (by omega), if_pos (by omega)]
      · by_cases e2 : 40 + (s.col + 1).toNat ≤ j ∧ j < 40 + (s.col + 1).toNat + n
        · rw [if_pos e2, if_pos (by omega)]
        · rw [if_neg e2, if_neg (by omega), if_neg (by omega)]
theorem againS_yes {a : Int} {s : Scr} (h : s.e0 = 1) : againS a s = againN (many 0 63 a).toNat s := if_pos h
theorem againS_no {a : Int} {s : Scr} (h : s.e0 ≠ 1) : againS a s = s := if_neg h
/-- The screen behind its first letter. -/
def s1L (L : Int) : Scr := { newS with sl := newS.sl.set 40 (lrow L newS), col := 1, e0 := 1, e1 := 0, e2 := 0, e3 := 0, e4 := 0, e5 := 0, e6 := L }
theorem first_let {L : Int} (hL : 65 ≤ L ∧ L ≤ 90) : writeS (evL L) newS = s1L L := by
  rw [write_flat (e := evL L) rfl rfl rfl rfl, step_in (show (0 : Int) + 1 ≤ 39 by decide)]
  show Scr.mk _ _ _ _ _ _ _ _ _ _ _ _ _ _ (newS.sl.set 40 (lrow (plainG L) newS)) _ _ _ _ _ _ _ _ _ _ = _
  rw [plain_up hL]
  rfl
theorem rep_true {n colour L : Int} {none_ : Bool} (hn : 0 ≤ n ∧ n ≤ 29) (hc : 0 ≤ colour ∧ colour ≤ 7) (hL : 65 ≤ L ∧ L ≤ 90) : sel (!none_) (PreE (evL L) newS ∧ repB n colour none_ L (eventS (evL L) newS) (fun o => o.res = .v (.c (.b true)))) (repB n colour none_ L newS (fun o => o.res = .v (.c (.b true)))) := by
  have h64 : w64 (64 + colour) = 64 + colour := w64_id (by omega)
  have hm := (many_eq (n := n) (by omega : (0 : Int) ≤ 63)).2.2.1 hn.1 (by omega)
  cases none_ with
  | true =>
    refine selF rfl ?_
    unfold repB
    rw [h64, event_attr, attr_fg hc, event_rep]
    have ha : againS n { newS with fg := colour } = { newS with fg := colour } := againS_no (show (0 : Int) ≠ 1 by decide)
    rw [ha]
    refine ⟨⟨newS_inv.1, (fun e => absurd (show (6 : Int) = 1 from e) (by decide)), newS_inv.2⟩, ⟨newS_inv.1, (fun e => absurd (show (7 : Int) = 1 from e) (by decide)), newS_inv.2⟩, ⟨⟨by decide, by decide⟩, fun j h1 h2 => ?_⟩, ?_⟩
    · have hx : cell1 (gridG true newS.sl) j = flatC blk := by
        unfold cell1
        rw [grid_flat (by omega) (by omega) (fun q hq => by rw [newS_get (by omega)]; exact flat_blk), newS_get (by omega)]
      unfold want_rep
      show xI (cell1 (gridG true newS.sl) j) 0 = _ ∧ xI (cell1 (gridG true newS.sl) j) 1 = _
      rw [hx, if_neg (fun x => absurd x.2 (by decide)), if_neg (fun x => absurd x.2 (by decide))]
      exact ⟨rfl, rfl⟩
    · exact selT rfl (selT rfl rfl)
  | false =>
    refine selT rfl ?_
    have hg : GoodE (evL L) := good_evL rfl
    refine ⟨⟨newS_inv.1, fun _ => hg, newS_inv.2⟩, ?_⟩
    rw [event_let, first_let hL]
    unfold repB
    rw [h64, event_attr, attr_fg hc, event_rep]
    have hon : On (s1L L) := ⟨⟨(by decide : (0 : Int) ≤ 1), (by decide : (1 : Int) ≤ 24)⟩, ⟨(by decide : (0 : Int) ≤ 1), (by decide : (1 : Int) ≤ 39)⟩, ⟨(by decide : (0 : Int) ≤ 1), (by decide : (1 : Int) ≤ 24)⟩, ⟨(by decide : (0 : Int) ≤ 0), (by decide : (0 : Int) ≤ 39)⟩⟩
    have ha : againS n { s1L L with fg := colour } = againN n.toNat { s1L L with fg := colour } := by
      rw [againS_yes (show (1 : Int) = 1 from rfl), hm]
    rw [ha]
    obtain ⟨a1, a2, a3, a4⟩ := againN_spec n.toNat { s1L L with fg := colour } rfl (show (0 : Int) ≤ 1 by decide) (by show (1 : Int) + n.toNat ≤ 39; omega) rfl rfl rfl rfl (by show (newS.sl.set 40 (lrow L newS)).length = 1000; rw [List.length_set]; exact newS_len)
    generalize againN n.toNat { s1L L with fg := colour } = t at *
    have a1 : t.col = 1 + n := by rw [a1]; show (1 : Int) + n.toNat = _; omega
    have a2 : t.ma = true := a2
    have a4 : ∀ j, t.sl.getD j [] = if 41 ≤ j ∧ j < 41 + n.toNat then lrow L { newS with fg := colour } else (newS.sl.set 40 (lrow L newS)).getD j [] := fun j => by
      rw [a4 j]
      show (if 40 + (1 : Int).toNat ≤ j ∧ j < 40 + (1 : Int).toNat + n.toNat then lrow (plainG L) _ else _) = _
      rw [plain_up hL]
      rfl
    have sl : ∀ c, c < 40 → t.sl.getD (1 * 40 + c) [] = if 1 ≤ c ∧ c < 1 + n.toNat then lrow L { newS with fg := colour } else if c = 0 then lrow L newS else blk := fun c hc' => by
      rw [a4, getD_set _ _ _ _ _ (by rw [newS_len]; omega)]
      by_cases e : 1 ≤ c ∧ c < 1 + n.toNat
      · rw [if_pos (by omega), if_pos e]
      · rw [if_neg (by omega), if_neg e]
        by_cases e2 : c = 0
        · rw [if_pos (by omega), if_pos e2]
        · rw [if_neg (by omega), if_neg e2, newS_get (by omega)]
    have fl : ∀ (f : Int) (x : Scr), Flat (lrow L { x with fg := f }) := fun f x => ⟨rfl, isMos_small (by show 0 ≤ L ∧ L < 1048576; omega)⟩
    have cell : ∀ c, c < 40 → (gridG t.ma t.sl).getD (1 * 40 + c) [] = flatC (t.sl.getD (1 * 40 + c) []) := fun c hc' => grid_flat (by omega) hc' fun j hj => by
      rw [sl j (by omega)]
      split
      · exact fl _ _
      · split
        · exact fl 7 newS
        · exact flat_blk
    refine ⟨⟨hon, (fun e => absurd (show (6 : Int) = 1 from e) (by decide)), fun _ => hg⟩, ⟨hon, (fun e => absurd (show (7 : Int) = 1 from e) (by decide)), fun _ => hg⟩, ⟨⟨by decide, by decide⟩, fun j h1 h2 => ?_⟩, ?_⟩
    · unfold want_rep cell1
      have hs := sl j.toNat (by omega)
      by_cases e : j ≤ n
      · rw [if_pos (by omega : 1 ≤ j.toNat ∧ j.toNat < 1 + n.toNat)] at hs
        rw [cell _ (by omega), hs, if_pos ⟨e, rfl⟩, if_pos ⟨e, rfl⟩]
        exact ⟨rfl, rfl⟩
      · rw [if_neg (by omega : ¬ (1 ≤ j.toNat ∧ j.toNat < 1 + n.toNat)), if_neg (by omega : ¬ j.toNat = 0)] at hs
        rw [cell _ (by omega), hs, if_neg (fun x => e x.1), if_neg (fun x => e x.1)]
        exact ⟨rfl, rfl⟩
    · refine selF rfl (selT rfl (selT (bT ?_) ?_))
      · rw [a1, w64_id (by omega)]; omega
      · show NS.v (.c (.b (xI (cell1 (gridG t.ma t.sl) 0) 1 == 7))) = _
        have : xI (cell1 (gridG t.ma t.sl) 0) 1 = 7 := by
          unfold cell1
          rw [cell _ (by decide), sl _ (by decide), if_neg (by omega), if_pos (by decide)]
          rfl
        rw [bT this]
def shsRep : List Sh := [.i .i64, .i .u8, .i .i64, .b]
end Go.Proofs.YtdijbpokklgjlaaGreatDoor.scr
