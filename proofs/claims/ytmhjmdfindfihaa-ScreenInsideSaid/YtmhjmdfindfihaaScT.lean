/-
  The screen's laws: ScreenErases: what is blank.
-/
import Derived.Test.YtmhjmdfindfihaaScS
set_option linter.unusedVariables false
namespace Go.Proofs.Ytmhjmdfindfihaa.scr
open Go Go.Nx

theorem wipe_gl {s : Scr} (h : Pl s) {r f t : Int} (hr : 0 ≤ r ∧ r ≤ 24) (hf : 0 ≤ f ∧ f ≤ 39) (ht : f ≤ t ∧ t ≤ 39) : Pl (wipeS r f t s) ∧ ∀ q : Nat, gl (wipeS r f t s) q = if r * 40 + f ≤ q ∧ (q : Int) ≤ r * 40 + t then 32 else gl s q := by
  obtain ⟨h1, h2⟩ := wipeN_spec (t + 1 - f).toNat s.sl (r.toNat * 40 + f.toNat) (by rw [h.len]; omega)
  refine ⟨⟨h.on, h.wt, h.ta, h.wi, h1.trans h.len, fun j => ?_⟩, fun q => ?_⟩
  · show Flat ((wipeN s.sl _ _).getD j [])
    rw [h2]
    split
    · exact flat_blk
    · exact h.flat j
  · show xI ((wipeN s.sl _ _).getD q []) 0 = _
    rw [h2]
    by_cases c : r * 40 + f ≤ q ∧ (q : Int) ≤ r * 40 + t
    · rw [if_pos c, if_pos (by omega)]; rfl
    · rw [if_neg c, if_neg (by omega)]; rfl
theorem wiper_gl {s : Scr} (h : Pl s) {a b : Int} (ha : 0 ≤ a ∧ a ≤ b + 1) (hb : b ≤ 24) : Pl (wipeRS a b s) ∧ ∀ q : Nat, gl (wipeRS a b s) q = if a * 40 ≤ q ∧ (q : Int) < (b + 1) * 40 then 32 else gl s q := by
  obtain ⟨h1, h2⟩ := rowsN_spec (b + 1 - a).toNat s.sl a.toNat (by rw [h.len]; omega)
  refine ⟨⟨h.on, h.wt, h.ta, h.wi, h1.trans h.len, fun j => ?_⟩, fun q => ?_⟩
  · show Flat ((rowsN s.sl _ _).getD j [])
    rw [h2]
    split
    · exact flat_blk
    · exact h.flat j
  · show xI ((rowsN s.sl _ _).getD q []) 0 = _
    rw [h2]
    by_cases c : a * 40 ≤ q ∧ (q : Int) < (b + 1) * 40
    · rw [if_pos c, if_pos (by omega)]; rfl
    · rw [if_neg c, if_neg (by omega)]; rfl
theorem event_erp {how : Int} {s : Scr} : eventS (evEr 1 how) s = eraPS how s := by kernel_rfl
theorem event_err {how : Int} {s : Scr} : eventS (evEr 2 how) s = eraRS how s := by kernel_rfl
theorem pre_er {a b : Int} {s : Scr} (h : Inv s) : PreE (evEr a b) s := ⟨h.1, (fun e => absurd (show (11 : Int) = 1 from e) (by decide)), h.2⟩
/-- What the i-th place shows behind it, by what showed before. -/
def erGl (s t : Scr) (a b : Int) : Prop := Pl t ∧ t.row = s.row ∧ t.col = s.col ∧ ∀ j : Int, 0 ≤ j → j < 960 → gl t (j.toNat + 40) = if a ≤ j ∧ j ≤ b then 32 else gl s (j.toNat + 40)
theorem err_gl {how : Int} {s : Scr} (h : Pl s) (hr : 1 ≤ s.row) (hh : 0 ≤ how ∧ how ≤ 2) : erGl s (eraRS how s) (if how = 0 then 40 * (s.row - 1) + s.col else 40 * (s.row - 1)) (if how = 1 then 40 * (s.row - 1) + s.col else 40 * s.row - 1) := by
  obtain ⟨o1, o2, _⟩ := h.on
  have : how = 0 ∨ how = 1 ∨ how = 2 := by omega
  rcases this with rfl | rfl | rfl
  · obtain ⟨a1, a2⟩ := wipe_gl h (r := s.row) (f := s.col) (t := 39) o1 o2 (by omega)
    refine ⟨a1, rfl, rfl, fun j j1 j2 => (a2 _).trans ?_⟩
    show _ = if 40 * (s.row - 1) + s.col ≤ j ∧ j ≤ 40 * s.row - 1 then _ else _
    by_cases c : 40 * (s.row - 1) + s.col ≤ j ∧ j ≤ 40 * s.row - 1
    · rw [if_pos c, if_pos (by omega)]
    · rw [if_neg c, if_neg (by omega)]
  · obtain ⟨a1, a2⟩ := wipe_gl h (r := s.row) (f := 0) (t := s.col) o1 (by omega) (by omega)
    refine ⟨a1, rfl, rfl, fun j j1 j2 => (a2 _).trans ?_⟩
    show _ = if 40 * (s.row - 1) ≤ j ∧ j ≤ 40 * (s.row - 1) + s.col then _ else _
    by_cases c : 40 * (s.row - 1) ≤ j ∧ j ≤ 40 * (s.row - 1) + s.col
    · rw [if_pos c, if_pos (by omega)]
    · rw [if_neg c, if_neg (by omega)]
  · obtain ⟨a1, a2⟩ := wipe_gl h (r := s.row) (f := 0) (t := 39) o1 (by omega) (by omega)
    have e : eraRS 2 s = wipeS s.row 0 39 s := (if_neg (by decide)).trans ((if_neg (by decide)).trans (if_pos rfl))
    rw [e, if_neg (by decide : ¬ (2 : Int) = 0), if_neg (by decide : ¬ (2 : Int) = 1)]
    refine ⟨a1, by unfold wipeS; rfl, by unfold wipeS; rfl, fun j j1 j2 => ?_⟩
    rw [a2]
    by_cases c : 40 * (s.row - 1) ≤ j ∧ j ≤ 40 * s.row - 1
    · rw [if_pos c, if_pos (by omega)]
    · rw [if_neg c, if_neg (by omega)]
theorem erp_gl {how : Int} {s : Scr} (h : Pl s) (hr : 1 ≤ s.row) (hh : 0 ≤ how ∧ how ≤ 2) : erGl s (eraPS how s) (if how = 0 then 40 * (s.row - 1) + s.col else 0) (if how = 1 then 40 * (s.row - 1) + s.col else 959) := by
  obtain ⟨o1, o2, _⟩ := h.on
  have : how = 0 ∨ how = 1 ∨ how = 2 := by omega
  rcases this with rfl | rfl | rfl
  · obtain ⟨a1, a2⟩ := wiper_gl h (a := s.row + 1) (b := 24) (by omega) (by omega)
    obtain ⟨b1, b2, b3, b4⟩ := err_gl a1 (how := 0) (show 1 ≤ s.row from hr) (by decide)
    have e : eraPS 0 s = eraRS 0 (wipeRS (s.row + 1) 24 s) := (if_pos rfl).trans (if_pos (by omega))
    rw [e]
    refine ⟨b1, b2, b3, fun j j1 j2 => (b4 j j1 j2).trans ?_⟩
    rw [a2]
    show (if 40 * (s.row - 1) + s.col ≤ j ∧ j ≤ 40 * s.row - 1 then (32 : Int) else _) = if 40 * (s.row - 1) + s.col ≤ j ∧ j ≤ 959 then _ else _
    by_cases c : 40 * (s.row - 1) + s.col ≤ j ∧ j ≤ 959
    · rw [if_pos c]
      by_cases d : 40 * (s.row - 1) + s.col ≤ j ∧ j ≤ 40 * s.row - 1
      · rw [if_pos d]
      · rw [if_neg d, if_pos (by omega)]
    · rw [if_neg c, if_neg (by omega), if_neg (by omega)]
  · obtain ⟨a1, a2⟩ := wiper_gl h (a := 1) (b := s.row - 1) (by omega) (by omega)
    obtain ⟨b1, b2, b3, b4⟩ := err_gl a1 (how := 1) (show 1 ≤ s.row from hr) (by decide)
    have e : eraPS 1 s = eraRS 1 (wipeRS 1 (s.row - 1) s) := (if_neg (by decide)).trans (if_pos rfl)
    rw [e]
    refine ⟨b1, b2, b3, fun j j1 j2 => (b4 j j1 j2).trans ?_⟩
    rw [a2]
    show (if 40 * (s.row - 1) ≤ j ∧ j ≤ 40 * (s.row - 1) + s.col then (32 : Int) else _) = if 0 ≤ j ∧ j ≤ 40 * (s.row - 1) + s.col then _ else _
    by_cases c : 0 ≤ j ∧ j ≤ 40 * (s.row - 1) + s.col
    · rw [if_pos c]
      by_cases d : 40 * (s.row - 1) ≤ j ∧ j ≤ 40 * (s.row - 1) + s.col
      · rw [if_pos d]
      · rw [if_neg d, if_pos (by omega)]
    · rw [if_neg c, if_neg (by omega), if_neg (by omega)]
  · obtain ⟨a1, a2⟩ := wiper_gl h (a := 1) (b := 24) (by omega) (by omega)
    have e : eraPS 2 s = wipeRS 1 24 s := (if_neg (by decide)).trans ((if_neg (by decide)).trans (if_pos rfl))
    rw [e, if_neg (by decide : ¬ (2 : Int) = 0), if_neg (by decide : ¬ (2 : Int) = 1)]
    refine ⟨a1, by unfold wipeRS; rfl, by unfold wipeRS; rfl, fun j j1 j2 => ?_⟩
    rw [a2, if_pos (by omega), if_pos (by omega)]
theorem erT_in {row col a b : Int} {s t : Scr} (h : erGl s t a b) (hr : s.row = row) (hc : s.col = col) (hx : ∀ j : Int, 0 ≤ j → j < 960 → gl s (j.toNat + 40) = 120) : erT row col t (fun o => o.res = .v (.c (.b true))) a b := by
  obtain ⟨h1, h2, h3, h4⟩ := h
  refine ⟨⟨⟨by decide, by decide⟩, fun j j1 j2 => ?_⟩, selT (bT (h2.trans hr)) ?_⟩
  · have hcell := pl_cell h1 (r := (j / 40 + 1).toNat) (c := (j % 40).toNat) (by omega) (by omega)
    unfold cellQ
    rw [hcell, show (j / 40 + 1).toNat * 40 + (j % 40).toNat = j.toNat + 40 by omega, h4 j j1 j2, hx j j1 j2]
    rfl
  · show NS.v (.c (.b _)) = _
    rw [bT (h3.trans hc)]
theorem er_any {row col wh how : Int} {s : Scr} (hr : 1 ≤ row ∧ row ≤ 24) (hc : 0 ≤ col ∧ col ≤ 39) (hw : wh = 1 ∨ wh = 2) (hh : 0 ≤ how ∧ how ≤ 2) (h : Pl s) (h1 : s.row = row) (h2 : s.col = col) (hx : ∀ j : Int, 0 ≤ j → j < 960 → gl s (j.toNat + 40) = 120) :
    erC row col wh how (eventS (evEr wh how) s) (fun o => o.res = .v (.c (.b true))) := by
  unfold erC
  simp only []
  rw [w64_id (x := row - 1) (by omega), w64_id (x := 40 * (row - 1)) (by omega), w64_id (x := 40 * (row - 1) + col) (by omega), w64_id (x := 40 * row) (by omega), w64_id (x := 40 * row - 1) (by omega)]
  rcases hw with rfl | rfl
  · have key := erp_gl h (how := how) (by omega) hh
    rw [event_erp]
    rw [h1, h2] at key
    refine selF rfl (sel_by (fun a => selF rfl (sel_eq (fun b => ?_) fun b => ?_)) fun a => sel_eq (fun b => ?_) fun b => ?_)
    · rw [if_neg (by omega), if_pos b] at key; exact erT_in key h1 h2 hx
    · rw [if_neg (by omega), if_neg b] at key; exact erT_in key h1 h2 hx
    · omega
    · rw [if_pos (by omega), if_neg b] at key; exact erT_in key h1 h2 hx
  · have key := err_gl h (how := how) (by omega) hh
    rw [event_err]
    rw [h1, h2] at key
    refine selT rfl (sel_by (fun a => selT rfl (sel_eq (fun b => ?_) fun b => ?_)) fun a => sel_eq (fun b => ?_) fun b => ?_)
    · rw [if_neg (by omega), if_pos b] at key; exact erT_in key h1 h2 hx
    · rw [if_neg (by omega), if_neg b] at key; exact erT_in key h1 h2 hx
    · omega
    · rw [if_pos (by omega), if_neg b] at key; exact erT_in key h1 h2 hx
theorem er_true {row col wh how : Int} (hr : 1 ≤ row ∧ row ≤ 24) (hc : 0 ≤ col ∧ col ≤ 39) (hw : wh = 1 ∨ wh = 2) (hh : 0 ≤ how ∧ how ≤ 2) : erB row col wh how (fun o => o.res = .v (.c (.b true))) := by
  obtain ⟨a1, a2, a3, a4, _, _, _⟩ := at_pl pl_new (row := 1) (col := 0) (by decide) (by decide)
  have ai := at_inv (row := 1) (col := 0) newS_inv
  unfold erB
  refine ⟨newS_inv, ⟨by decide, ai⟩, ?_⟩
  have ha : At (atS 1 0 newS) 0 := ⟨a2, a3⟩
  generalize atS 1 0 newS = u at *
  have hlen : (List.replicate (960 - (0 : Int)).toNat (120 : Int)).length = 960 := List.length_replicate
  obtain ⟨k1, _, _, k4, _⟩ := lets_page (List.replicate (960 - (0 : Int)).toNat 120) u 0 a1 (by omega) ha (by rw [a4]; rfl) (by rw [hlen]; omega)
  have fi : Inv (fullS 0 u) := by rw [fullS_eq]; exact letsS_inv _ ai
  have k4 : ∀ j : Nat, j < 960 → gl (fullS 0 u) (40 + (0 + j) % 960) = 120 := fun j hj => by
    rw [fullS_eq]
    refine (k4 j (by rw [hlen]; exact hj)).trans ?_
    rw [getD_rep _ _ _ _ (show j < (960 - (0 : Int)).toNat from hj)]
    decide +kernel
  have k1 : Pl (fullS 0 u) := by rw [fullS_eq]; exact k1
  generalize fullS 0 u = v at *
  obtain ⟨b1, b2, b3, _, b5, _, _⟩ := at_pl k1 (row := row) (col := col) (by omega) hc
  have bi := at_inv (row := row) (col := col) fi
  have bg := gl_sl b5
  generalize atS row col v = w at *
  refine ⟨fi, pre_er bi, er_any hr hc hw hh b1 b2 b3 fun j j1 j2 => ?_⟩
  rw [bg]
  have := k4 j.toNat (by omega)
  rw [show 40 + (0 + j.toNat) % 960 = j.toNat + 40 by omega] at this
  exact this
def shsEr : List Sh := [.i .i64, .i .i64, .i .i64, .i .i64]
theorem er_law (xs : List NV) (h : R2 ShOk shsEr xs) : Holds (t_er xs []) fun o => o.res = .v (.c (.b true)) := by
  cases h with
  | cons h1 h =>
    cases h with
    | cons h2 h =>
      cases h with
      | cons h3 h =>
        cases h with
        | cons h4 h =>
          cases h
          cases h1 with
          | i _ =>
            cases h2 with
            | i _ =>
              cases h3 with
              | i _ =>
                cases h4 with
                | i _ =>
                  rename_i row _ col _ wh _ how _
                  constructor
                  rw [er_tree]
                  have a1 := Int.emod_nonneg row (by decide : (24 : Int) ≠ 0)
                  have a2 := Int.emod_lt_of_pos row (by decide : (0 : Int) < 24)
                  have b1 := Int.emod_nonneg col (by decide : (40 : Int) ≠ 0)
                  have b2 := Int.emod_lt_of_pos col (by decide : (0 : Int) < 40)
                  have c1 := Int.emod_nonneg wh (by decide : (2 : Int) ≠ 0)
                  have c2 := Int.emod_lt_of_pos wh (by decide : (0 : Int) < 2)
                  have d1 := Int.emod_nonneg how (by decide : (3 : Int) ≠ 0)
                  have d2 := Int.emod_lt_of_pos how (by decide : (0 : Int) < 3)
                  rw [w64_id (x := row % 24 + 1) (by omega), w64_id (x := wh % 2 + 1) (by omega)]
                  exact ⟨⟨by decide, by decide⟩, ⟨by decide, by decide⟩, ⟨by decide, by decide⟩, ⟨by decide, by decide⟩, er_true ⟨by omega, by omega⟩ ⟨by omega, by omega⟩ (by omega) ⟨by omega, by omega⟩⟩
end Go.Proofs.Ytmhjmdfindfihaa.scr
