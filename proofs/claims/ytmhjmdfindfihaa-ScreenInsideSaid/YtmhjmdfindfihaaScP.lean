/-
  The screen's laws: ScreenText: letters in a row on the page, rolling or not.
-/
import Derived.Test.YtmhjmdfindfihaaScO
set_option linter.unusedVariables false
namespace Go.Proofs.Ytmhjmdfindfihaa.scr
open Go Go.Nx

/-- At a place of the page. -/
def At (s : Scr) (p : Nat) : Prop := s.row = (p / 40 + 1 : Nat) ∧ s.col = (p % 40 : Nat)
theorem At.slot {s : Scr} {p : Nat} (h : At s p) : s.row.toNat * 40 + s.col.toNat = 40 + p := by
  rw [h.1, h.2]
  omega
theorem let_page {c : Int} {s : Scr} {p : Nat} (h : Pl s) (hp : p < 960) (ha : At s p) (ho : s.ro = false) :
    Pl (writeS (evL c) s) ∧ At (writeS (evL c) s) ((p + 1) % 960) ∧ (writeS (evL c) s).ro = false ∧ ∀ j, gl (writeS (evL c) s) j = if 40 + p = j then plainG c else gl s j := by
  obtain ⟨a1, a2⟩ := ha
  have hs := At.slot ⟨a1, a2⟩
  by_cases e : p % 40 < 39
  · obtain ⟨g1, g2, g3, g4, _, _, g7⟩ := let_in (c := c) h (by rw [a2]; omega)
    rw [hs] at g7
    exact ⟨g1, ⟨by rw [g2, a1]; omega, by rw [g3, a2]; omega⟩, g4.trans ho, g7⟩
  by_cases e2 : p / 40 < 23
  · obtain ⟨g1, g2, g3, g4, _, _, g7⟩ := let_down (c := c) h (by rw [a1]; omega) (by rw [a2]; omega)
    rw [hs] at g7
    exact ⟨g1, ⟨by rw [g2, a1]; omega, by rw [g3]; omega⟩, g4.trans ho, g7⟩
  · obtain ⟨g1, g2, g3, g4, _, _, g7⟩ := let_wrap (c := c) h (by rw [a1]; omega) (by rw [a2]; omega) ho
    rw [hs] at g7
    exact ⟨g1, ⟨by rw [g2]; omega, by rw [g3]; omega⟩, g4.trans ho, g7⟩
theorem lets_page : ∀ (l : List Int) (s : Scr) (p : Nat), Pl s → p < 960 → At s p → s.ro = false → l.length ≤ 960 →
    Pl (letsS l s) ∧ At (letsS l s) ((p + l.length) % 960) ∧ (letsS l s).ro = false ∧ (∀ j, j < l.length → gl (letsS l s) (40 + (p + j) % 960) = plainG (l.getD j 0)) ∧
    ∀ q, (∀ j, j < l.length → q ≠ 40 + (p + j) % 960) → gl (letsS l s) q = gl s q
  | [], s, p, h, hp, ha, ho, _ => ⟨h, (by show At s ((p + 0) % 960); rw [Nat.add_zero, Nat.mod_eq_of_lt hp]; exact ha), ho, fun j hj => absurd hj (Nat.not_lt_zero j), fun _ _ => rfl⟩
  | c :: l, s, p, h, hp, ha, ho, hl => by
    obtain ⟨g1, g2, g3, g4⟩ := let_page (c := c) h hp ha ho
    have hl' : l.length + 1 ≤ 960 := hl
    obtain ⟨k1, k2, k3, k4, k5⟩ := lets_page l (writeS (evL c) s) ((p + 1) % 960) g1 (by omega) g2 g3 (by omega)
    refine ⟨k1, ?_, k3, fun j hj => ?_, fun q hq => ?_⟩
    · show At (letsS l (writeS (evL c) s)) ((p + (l.length + 1)) % 960)
      rw [show (p + (l.length + 1)) % 960 = ((p + 1) % 960 + l.length) % 960 by omega]
      exact k2
    · show gl (letsS l (writeS (evL c) s)) _ = _
      match j, hj with
      | 0, _ =>
        rw [k5 _ (fun j hj => by omega), g4, if_pos (by omega)]
        rfl
      | j + 1, hj =>
        have hj' : j < l.length := Nat.lt_of_succ_lt_succ hj
        rw [show 40 + (p + (j + 1)) % 960 = 40 + ((p + 1) % 960 + j) % 960 by omega, k4 j hj']
        rfl
    · show gl (letsS l (writeS (evL c) s)) _ = _
      have h0 := hq 0 (Nat.succ_pos _)
      rw [k5 q (fun j hj => by
        have := hq (j + 1) (Nat.succ_lt_succ hj)
        omega), g4, if_neg (by omega)]
def upOf (p m : Nat) : Nat := if p + m ≥ 960 then (p + m) / 40 - 23 else 0
theorem lets_roll : ∀ (l : List Int) (s : Scr) (p : Nat), Pl s → p < 960 → At s p → s.ro = true →
    Pl (letsS l s) ∧ At (letsS l s) (p + l.length - 40 * upOf p l.length) ∧ (∀ j, j < l.length → 40 * upOf p l.length ≤ p + j → gl (letsS l s) (40 + (p + j) - 40 * upOf p l.length) = plainG (l.getD j 0)) ∧
    ∀ q, 40 + 40 * upOf p l.length ≤ q → q < 40 + p → gl (letsS l s) (q - 40 * upOf p l.length) = gl s q
  | [], s, p, h, hp, ha, ho => by
    have hu : upOf p ([] : List Int).length = 0 := if_neg (by show ¬ p + 0 ≥ 960; omega)
    rw [hu]
    exact ⟨h, ha, fun j hj => absurd hj (Nat.not_lt_zero j), fun q _ _ => rfl⟩
  | c :: l, s, p, h, hp, ha, ho => by
    obtain ⟨a1, a2⟩ := ha
    have hs := At.slot ⟨a1, a2⟩
    have hlen : (c :: l).length = l.length + 1 := rfl
    rw [hlen]
    by_cases e : p < 959
    · have step : Pl (writeS (evL c) s) ∧ At (writeS (evL c) s) (p + 1) ∧ (writeS (evL c) s).ro = true ∧ ∀ j, gl (writeS (evL c) s) j = if 40 + p = j then plainG c else gl s j := by
        by_cases e1 : p % 40 < 39
        · obtain ⟨g1, g2, g3, g4, _, _, g7⟩ := let_in (c := c) h (by rw [a2]; omega)
          rw [hs] at g7
          exact ⟨g1, ⟨by rw [g2, a1]; omega, by rw [g3, a2]; omega⟩, g4.trans ho, g7⟩
        · obtain ⟨g1, g2, g3, g4, _, _, g7⟩ := let_down (c := c) h (by rw [a1]; omega) (by rw [a2]; omega)
          rw [hs] at g7
          exact ⟨g1, ⟨by rw [g2, a1]; omega, by rw [g3]; omega⟩, g4.trans ho, g7⟩
      obtain ⟨g1, g2, g3, g4⟩ := step
      obtain ⟨k1, k2, k4, k5⟩ := lets_roll l (writeS (evL c) s) (p + 1) g1 (by omega) g2 g3
      have hu : upOf p (l.length + 1) = upOf (p + 1) l.length := by unfold upOf; rw [show p + 1 + l.length = p + (l.length + 1) by omega]
      rw [hu]
      generalize upOf (p + 1) l.length = u at *
      refine ⟨k1, ?_, fun j hj hju => ?_, fun q q1 q2 => ?_⟩
      · rw [show p + (l.length + 1) = p + 1 + l.length by omega]; exact k2
      · show gl (letsS l (writeS (evL c) s)) _ = _
        match j, hj with
        | 0, _ =>
          rw [show 40 + (p + 0) - 40 * u = (40 + p) - 40 * u by omega, k5 (40 + p) (by omega) (by omega), g4, if_pos rfl]
          rfl
        | j + 1, hj =>
          rw [show 40 + (p + (j + 1)) - 40 * u = 40 + (p + 1 + j) - 40 * u by omega, k4 j (Nat.lt_of_succ_lt_succ hj) (by omega)]
          rfl
      · show gl (letsS l (writeS (evL c) s)) _ = _
        rw [k5 q q1 (by omega), g4, if_neg (by omega)]
    · obtain ⟨g1, g2, g3, g4, _, _, g7⟩ := let_roll (c := c) h (by rw [a1]; omega) (by rw [a2]; omega) ho
      obtain ⟨k1, k2, k4, k5⟩ := lets_roll l (writeS (evL c) s) 920 g1 (by omega) ⟨by rw [g2]; rfl, by rw [g3]; rfl⟩ (g4.trans ho)
      have hu : upOf p (l.length + 1) = upOf 920 l.length + 1 := by
        unfold upOf
        rw [if_pos (by omega)]
        split
        · omega
        · omega
      rw [hu]
      have hpg := put_gl (c := c) h
      rw [hs] at hpg
      generalize upOf 920 l.length = u at *
      have ep : p = 959 := by omega
      subst ep
      refine ⟨k1, ?_, fun j hj hju => ?_, fun q q1 q2 => ?_⟩
      · rw [show 959 + (l.length + 1) - 40 * (u + 1) = 920 + l.length - 40 * u by omega]; exact k2
      · show gl (letsS l (writeS (evL c) s)) _ = _
        match j, hj with
        | 0, _ =>
          rw [show 40 + (959 + 0) - 40 * (u + 1) = 959 - 40 * u by omega, k5 959 (by omega) (by omega), g7, if_neg (by omega), if_pos (by omega), hpg, if_pos rfl]
          rfl
        | j + 1, hj =>
          rw [show 40 + (959 + (j + 1)) - 40 * (u + 1) = 40 + (920 + j) - 40 * u by omega, k4 j (Nat.lt_of_succ_lt_succ hj) (by omega)]
          rfl
      · show gl (letsS l (writeS (evL c) s)) _ = _
        rw [show q - 40 * (u + 1) = (q - 40) - 40 * u by omega, k5 (q - 40) (by omega) (by omega), g7, if_neg (by omega), if_pos (by omega), hpg, if_neg (by omega)]
        congr 1; omega
theorem letter_plain {x : Int} (h : 0 ≤ x ∧ x < 256) : w64 (bC x) = 96 ∨ 123 ≤ w64 (bC x) ∨ plainG (w64 (bC x)) = w64 (bC x) := by
  have key : ∀ k : Fin 256, w64 (bC ((k.val : Nat) : Int)) = 96 ∨ 123 ≤ w64 (bC ((k.val : Nat) : Int)) ∨ plainG (w64 (bC ((k.val : Nat) : Int))) = w64 (bC ((k.val : Nat) : Int)) := by decide +kernel
  have := key ⟨x.toNat, by omega⟩
  simp only at this
  rw [show (((x.toNat : Nat)) : Int) = x by omega] at this
  exact this
theorem codes_get {bs : List Int} {j : Nat} (h : j < bs.length) : (codes bs).getD j 0 = wantT bs j := by
  unfold codes wantT
  rw [List.getD_eq_getElem?_getD, List.getElem?_map, List.getElem?_eq_getElem h, List.getD_eq_getElem?_getD, List.getElem?_eq_getElem h]
  rfl
/-- The law from what the letters leave. -/
theorem txt_any {row col : Int} {bs : List Int} {roll : Bool} {t : Scr} (hr : 1 ≤ row ∧ row ≤ 24) (hc : 0 ≤ col ∧ col ≤ 39) (hl : bs.length ≤ 200) (hb : ∀ x ∈ bs, 0 ≤ x ∧ x < 256) {up : Nat} {p : Nat} (hp : (p : Int) = 40 * (row - 1) + col) (hpl : Pl t)
    (hup : up ≤ 100) (hru : roll = false → up = 0) (hend : t.row = rowT roll up (p + bs.length)) (hcol : t.col = (p + bs.length : Nat) % 40)
    (hg : ∀ j : Nat, j < bs.length → (1 ≤ rowT roll up ((p + j : Nat) : Int) → rowT roll up ((p + j : Nat) : Int) ≤ 24 ∧ gl t ((rowT roll up ((p + j : Nat) : Int)).toNat * 40 + (p + j) % 40) = plainG (wantT bs j))) :
   (let G := gridG t.ma t.sl
    let n := w64 (w64 (w64 (40 * w64 (row - 1)) + col) + bs.length)
    let F := fun (e : Int) => sel (t.col == Int.tmod n 40) ((bO (t.row == e)).res = .v (.c (.b true))) ((bO false).res = .v (.c (.b true)))
    (((0 : Int) ≤ 0 ∧ (1 ≤ row ∧ row ≤ 24) ∧ (0 ≤ col ∧ col ≤ 39) ∧ bs.length ≤ 200 ∧ (0 ≤ (up : Int) ∧ (up : Int) ≤ 100) ∧ (roll = false → (up : Int) = 0) ∧
      ∀ j : Nat, (0 : Int) ≤ j → j < bs.length → okT roll up (40 * (row - 1) + col + j) (wantT bs j) G) ∧
      sel (!roll) (F (w64 (Int.tmod (w64 (w64 (w64 (w64 (Int.tdiv n 40) + 1) - up) - 1)) 24 + 1))) (F (w64 (w64 (w64 (Int.tdiv n 40) + 1) - up))))) := by
  simp only []
  have en : w64 (w64 (w64 (40 * w64 (row - 1)) + col) + bs.length) = ((p + bs.length : Nat) : Int) := by
    rw [w64_id (x := row - 1) (by omega), w64_id (x := 40 * (row - 1)) (by omega), w64_id (x := 40 * (row - 1) + col) (by omega), w64_id (by omega)]
    omega
  rw [en]
  refine ⟨⟨by decide, hr, hc, hl, ⟨by omega, by omega⟩, (fun h => by rw [hru h]; rfl), fun j _ hj => ?_⟩, ?_⟩
  · have hx : 0 ≤ bs.getD j 0 ∧ bs.getD j 0 < 256 := by
      rw [List.getD_eq_getElem?_getD, List.getElem?_eq_getElem hj]
      exact hb _ (List.getElem_mem hj)
    rw [← hp, show (p : Int) + (j : Int) = ((p + j : Nat) : Int) by omega]
    unfold okT
    rcases letter_plain hx with h | h | h
    · exact .inl h
    · exact .inr (.inl h)
    · by_cases c : rowT roll up ((p + j : Nat) : Int) < 1
      · exact .inr (.inr (.inl c))
      · obtain ⟨g1, g2⟩ := hg j hj (by omega)
        refine .inr (.inr (.inr ⟨g1, ?_⟩))
        have hcell := pl_cell hpl (r := (rowT roll up ((p + j : Nat) : Int)).toNat) (c := (p + j) % 40) (by omega) (by omega)
        unfold cellQ
        rw [show (((p + j : Nat) : Int) % 40).toNat = (p + j) % 40 by omega, hcell, g2]
        exact h
  · generalize hm : p + bs.length = m at *
    have hm2 : m < 1200 := by omega
    rw [Int.tdiv_eq_ediv_of_nonneg (by omega), Int.tmod_eq_emod_of_nonneg (by omega), w64_id (x := (m : Int) / 40) (by omega), w64_id (x := (m : Int) / 40 + 1) (by omega), w64_id (x := (m : Int) / 40 + 1 - up) (by omega)]
    have hcm : t.col = (m : Int) % 40 := by rw [hcol]
    have hend : t.row = rowT roll up (m : Int) := by rw [hend]; congr 1; omega
    cases roll with
    | true =>
      refine selF rfl (selT (bT hcm) ?_)
      have hend : t.row = (m : Int) / 40 + 1 - up := hend
      show NS.v (.c (.b _)) = _
      rw [bT hend]
    | false =>
      have := hru rfl
      subst this
      refine selT rfl (selT (bT hcm) ?_)
      show NS.v (.c (.b _)) = _
      rw [w64_id (x := (m : Int) / 40 + 1 - ((0 : Nat) : Int) - 1) (by omega), Int.tmod_eq_emod_of_nonneg (by omega), w64_id (by omega)]
      rw [bT]
      rw [hend]
      show (m : Int) / 40 % 24 + 1 = _
      omega
theorem txt_true {row col : Int} {bs : List Int} {roll : Bool} (hr : 1 ≤ row ∧ row ≤ 24) (hc : 0 ≤ col ∧ col ≤ 39) (hl : bs.length ≤ 200) (hb : ∀ x ∈ bs, 0 ≤ x ∧ x < 256) : txtB row col bs roll (fun o => o.res = .v (.c (.b true))) := by
  have hi : Inv (rollsS roll newS) := inv_rolls newS_inv
  have h1 : Pl (rollsS roll newS) := pl_rolls pl_new
  have ho : (rollsS roll newS).ro = roll := rfl
  obtain ⟨p, hp⟩ : ∃ p : Nat, (p : Int) = 40 * (row - 1) + col := ⟨(40 * (row - 1) + col).toNat, by omega⟩
  unfold txtB
  generalize rollsS roll newS = u at hi h1 ho ⊢
  obtain ⟨b1, b2, b3, b4, _, _, _⟩ := at_pl h1 (row := row) (col := col) (by omega) hc
  refine ⟨hi, ⟨by omega, at_inv hi⟩, ?_⟩
  have ha : At (atS row col u) p := ⟨by rw [b2]; omega, by rw [b3]; omega⟩
  rw [ho] at b4
  generalize atS row col u = v at b1 b4 ha ⊢
  have hn : w64 (w64 (w64 (40 * w64 (row - 1)) + col) + bs.length) = ((p + bs.length : Nat) : Int) := by
    rw [w64_id (x := row - 1) (by omega), w64_id (x := 40 * (row - 1)) (by omega), w64_id (x := 40 * (row - 1) + col) (by omega), w64_id (by omega)]
    omega
  have hlen : (codes bs).length = bs.length := List.length_map _
  cases roll with
  | false =>
    obtain ⟨k1, k2, _, k4, _⟩ := lets_page (codes bs) v p b1 (by omega) ha b4 (by rw [hlen]; omega)
    rw [hlen] at k2 k4
    refine selF rfl (txt_any (roll := false) (up := 0) hr hc hl hb hp k1 (by omega) (fun _ => rfl) ?_ ?_ fun j hj h => ?_)
    · rw [k2.1]
      show _ = ((p : Int) + bs.length) / 40 % 24 + 1
      omega
    · rw [k2.2]; omega
    · have e1 : rowT false 0 ((p + j : Nat) : Int) = (((p + j) / 40 % 24 + 1 : Nat) : Int) := by
        show ((p + j : Nat) : Int) / 40 % 24 + 1 = _
        omega
      refine ⟨by rw [show ((0 : Nat) : Int) = 0 from rfl, e1]; omega, ?_⟩
      have := k4 j hj
      rw [codes_get hj] at this
      rw [← this]
      congr 1
      rw [show ((0 : Nat) : Int) = 0 from rfl, e1]
      omega
  | true =>
    obtain ⟨k1, k2, k4, _⟩ := lets_roll (codes bs) v p b1 (by omega) ha b4
    rw [hlen] at k2 k4
    have hub : upOf p bs.length ≤ 100 := by
      unfold upOf
      split
      · omega
      · omega
    have hpu : 40 * upOf p bs.length ≤ p + bs.length ∧ p + bs.length - 40 * upOf p bs.length < 960 := by
      unfold upOf
      split
      · omega
      · omega
    have key := txt_any (roll := true) (up := upOf p bs.length) (p := p) hr hc hl hb hp k1 hub (fun h => absurd h (by decide)) (by
        rw [k2.1]
        show _ = ((p : Int) + bs.length) / 40 + 1 - (upOf p bs.length : Int)
        omega) (by rw [k2.2]; omega) fun j hj h => by
        have h : 1 ≤ ((p + j : Nat) : Int) / 40 + 1 - (upOf p bs.length : Int) := h
        have e1 : rowT true (upOf p bs.length) ((p + j : Nat) : Int) = ((((p + j) / 40 + 1 - upOf p bs.length) : Nat) : Int) := by
          show ((p + j : Nat) : Int) / 40 + 1 - (upOf p bs.length : Int) = _
          omega
        refine ⟨by rw [e1]; omega, ?_⟩
        have := k4 j hj (by omega)
        rw [codes_get hj] at this
        rw [← this]
        congr 1
        rw [e1]
        omega
    refine selT rfl (sel_by (fun e => ?_) fun e => ?_)
    · have e' := e
      rw [hn] at e'
      have hu : (upOf p bs.length : Int) = w64 (w64 (Int.tdiv (w64 (w64 (w64 (40 * w64 (row - 1)) + col) + bs.length)) 40) - 23) := by
        rw [hn, Int.tdiv_eq_ediv_of_nonneg (by omega), w64_id (x := ((p + bs.length : Nat) : Int) / 40) (by omega), w64_id (by omega)]
        unfold upOf
        rw [if_pos (by omega)]
        omega
      rw [← hu]
      exact key
    · have e' := e
      rw [hn] at e'
      have hu : (upOf p bs.length : Int) = 0 := by
        unfold upOf
        rw [if_neg (by omega)]
        rfl
      rw [hu] at key
      exact key
def shsTxt : List Sh := [.i .i64, .i .i64, .row .u8, .b]
theorem txt_law (xs : List NV) (h : R2 ShOk shsTxt xs) : Holds (t_txt xs []) fun o => o.res = .v (.c (.b true)) := by
  cases h with
  | cons h1 h =>
    cases h with
    | cons h2 h =>
      cases h with
      | cons h3 h =>
        cases h with
        | cons h4 h =>
          cases h
          cases h1 with
          | i _ =>
            cases h2 with
            | i _ =>
              cases h3 with
              | row hb =>
                cases h4 with
                | b =>
                  rename_i row _ col _ bs roll
                  constructor
                  rw [txt_tree]
                  have a1 := Int.emod_nonneg row (by decide : (24 : Int) ≠ 0)
                  have a2 := Int.emod_lt_of_pos row (by decide : (0 : Int) < 24)
                  have b1 := Int.emod_nonneg col (by decide : (40 : Int) ≠ 0)
                  have b2 := Int.emod_lt_of_pos col (by decide : (0 : Int) < 40)
                  rw [w64_id (x := row % 24 + 1) (by omega)]
                  refine ⟨⟨by decide, by decide⟩, ⟨by decide, by decide⟩, sel_by (fun e => rfl) fun e => txt_true ⟨by omega, by omega⟩ ⟨by omega, by omega⟩ (by omega) fun x hx => ?_⟩
                  have := hb x hx
                  simp [Lit.wf, IntKind.min, IntKind.max, IntKind.signed, IntKind.bits] at this
                  omega
end Go.Proofs.Ytmhjmdfindfihaa.scr
