/-
  The screen's laws: ScreenTop: the line above.
-/
import Derived.Test.YtmhjmdfindfihaaScQ
set_option linter.unusedVariables false
namespace Go.Proofs.Ytmhjmdfindfihaa.scr
open Go Go.Nx

theorem dig_eq {i : Int} (h : 0 ≤ i) : dig i = 48 + i % 10 ∧ plainG (dig i) = 48 + i % 10 := by
  have key : ∀ k : Fin 10, w64 (bC (IntKind.u8.wrap (w64 (48 + ((k.val : Nat) : Int))))) = 48 + ((k.val : Nat) : Int) ∧ plainG (w64 (bC (IntKind.u8.wrap (w64 (48 + ((k.val : Nat) : Int)))))) = 48 + ((k.val : Nat) : Int) := by decide +kernel
  have := key ⟨(i % 10).toNat, by omega⟩
  simp only at this
  rw [show ((((i % 10).toNat : Nat)) : Int) = i % 10 by omega] at this
  unfold dig
  rw [Int.tmod_eq_emod_of_nonneg h]
  exact this
def min39 (i : Int) : Int := if i ≤ 39 then i else 39
theorem topN_spec : ∀ (k : Nat) (i : Int) (s : Scr), Pl s → Inv s → s.row = 0 → s.col = min39 i → 0 ≤ i → i + k ≤ 100 →
    Pl (topN k i s) ∧ Inv (topN k i s) ∧ (topN k i s).row = 0 ∧ (topN k i s).col = min39 (i + k) ∧ (topN k i s).kr = s.kr ∧ (topN k i s).kc = s.kc ∧
    ∀ j : Nat, j < 40 → gl (topN k i s) j = if i ≤ j ∧ (j : Int) < i + k ∧ j < 39 then 48 + (j : Int) % 10 else if j = 39 ∧ 1 ≤ k ∧ 40 ≤ i + k then 48 + (i + k - 1) % 10 else gl s j
  | 0, i, s, h, hi, hr, hc, h0, _ => ⟨h, hi, hr, by show s.col = _; rw [hc]; congr 1; simp, rfl, rfl, fun j hj => by rw [if_neg (by omega), if_neg (by omega)]; rfl⟩
  | k + 1, i, s, h, hi, hr, hc, h0, hk => by
    obtain ⟨d1, d2⟩ := dig_eq h0
    have step : Pl (writeS (evL (dig i)) s) ∧ (writeS (evL (dig i)) s).row = 0 ∧ (writeS (evL (dig i)) s).col = min39 (i + 1) ∧ (writeS (evL (dig i)) s).kr = s.kr ∧ (writeS (evL (dig i)) s).kc = s.kc ∧
        ∀ j : Nat, gl (writeS (evL (dig i)) s) j = if (min39 i).toNat = j then 48 + i % 10 else gl s j := by
      by_cases e : i < 39
      · have em : min39 i = i := if_pos (by omega)
        obtain ⟨g1, g2, g3, _, g5, g6, g7⟩ := let_in (c := dig i) h (by rw [hc, em]; exact e)
        refine ⟨g1, g2.trans hr, by rw [g3, hc, em]; unfold min39; rw [if_pos (by omega)], g5, g6, fun j => ?_⟩
        rw [g7, hr, hc, d2]
        congr 1
        simp
      · have em : min39 i = 39 := by unfold min39; split <;> omega
        have em2 : min39 (i + 1) = 39 := by unfold min39; split <;> omega
        obtain ⟨g1, g2, g3, _, g5, g6, g7⟩ := let_top (c := dig i) h hr (by rw [hc, em])
        refine ⟨g1, g2.trans hr, by rw [g3, em2], g5, g6, fun j => ?_⟩
        rw [g7, hr, hc, d2]
        congr 1
        simp
    obtain ⟨g1, g2, g3, g4, g5, g6⟩ := step
    obtain ⟨k1, k2, k3, k4, k5, k6, k7⟩ := topN_spec k (i + 1) (writeS (evL (dig i)) s) g1 (inv_let hi.1) g2 g3 (by omega) (by omega)
    have ek : i + 1 + (k : Int) = i + ((k + 1 : Nat) : Int) := by omega
    refine ⟨k1, k2, k3, ?_, k5.trans g4, k6.trans g5, fun j hj => ?_⟩
    · rw [← ek]; exact k4
    · show gl (topN k (i + 1) (writeS (evL (dig i)) s)) j = _
      rw [k7 j hj, g6, ek]
      have hm : (i ≤ 39 ∧ min39 i = i) ∨ (39 < i ∧ min39 i = 39) := by unfold min39; split <;> omega
      by_cases c1 : i ≤ (j : Int) ∧ (j : Int) < i + ((k + 1 : Nat) : Int) ∧ j < 39
      · rw [if_pos c1]
        by_cases c2 : i + 1 ≤ (j : Int) ∧ (j : Int) < i + ((k + 1 : Nat) : Int) ∧ j < 39
        · rw [if_pos c2]
        · rw [if_neg c2, if_neg (by omega), if_pos (by omega)]
          congr 2; omega
      · rw [if_neg c1, if_neg (by omega)]
        by_cases c3 : j = 39 ∧ 1 ≤ k ∧ 40 ≤ i + ((k + 1 : Nat) : Int)
        · rw [if_pos c3, if_pos (by omega)]
        · rw [if_neg c3]
          by_cases c4 : j = 39 ∧ 1 ≤ k + 1 ∧ 40 ≤ i + ((k + 1 : Nat) : Int)
          · rw [if_pos c4, if_pos (by omega)]
            congr 2; omega
          · rw [if_neg c4, if_neg (by omega)]
theorem up_top : ∀ (n : Nat) {s : Scr}, s.row = 0 → iterF (stepS 4) n s = s
  | 0, _, _ => rfl
  | n + 1, s, h => by
    have e : stepS 4 s = s := by
      show upS s = s
      unfold upS
      rw [if_pos h]
    show iterF (stepS 4) n (stepS 4 s) = s
    rw [e]
    exact up_top n h
theorem downS_top {s : Scr} (h : s.row = 0) : downS s = { s with row := s.kr, col := s.kc } := by
  unfold downS
  rw [if_pos h]
theorem event_clr {a : Int} {s : Scr} : eventS (evClr a) s = clearS a s := by kernel_rfl
theorem pre_mv {how n : Int} {s : Scr} (h : Inv s) : PreE (evMove how n) s := ⟨h.1, (fun e => absurd (show (2 : Int) = 1 from e) (by decide)), h.2⟩
theorem pre_clr {a : Int} {s : Scr} (h : Inv s) : PreE (evClr a) s := ⟨h.1, (fun e => absurd (show (3 : Int) = 1 from e) (by decide)), h.2⟩
theorem clear_pl {s : Scr} (h : Pl s) : Pl (clearS 1 s) ∧ (clearS 1 s).row = 1 ∧ (clearS 1 s).col = 0 ∧ ∀ j : Nat, j < 40 → gl (clearS 1 s) j = gl s j := by
  obtain ⟨h1, h2⟩ := rowsN_spec 24 s.sl 1 (by rw [h.len]; decide)
  refine ⟨⟨clearS_on h.on, rfl, rfl, rfl, h1.trans h.len, fun j => ?_⟩, rfl, rfl, fun j hj => ?_⟩
  · show Flat ((rowsN s.sl 1 24).getD j [])
    rw [h2]
    split
    · exact flat_blk
    · exact h.flat j
  · show xI ((rowsN s.sl 1 24).getD j []) 0 = _
    rw [h2, if_neg (by omega)]
    rfl
theorem top_any {row col n : Int} {s : Scr} (hr : 1 ≤ row ∧ row ≤ 24) (hc : 0 ≤ col ∧ col ≤ 39) (hn : 1 ≤ n ∧ n ≤ 60) (h : Pl s) (hi : Inv s) (h0 : s.row = 0) (hc1 : s.col = min39 n) (hk : s.kr = row) (hk2 : s.kc = col)
    (hg : ∀ j : Nat, j < 40 → gl s j = want_top n j) :
    PreE (evMove 4 3) s ∧ PreE (evMove 3 1) (eventS (evMove 4 3) s) ∧ PreE (evClr 1) (eventS (evMove 3 1) (eventS (evMove 4 3) s)) ∧
    topC row col n s (eventS (evMove 4 3) s) (eventS (evMove 3 1) (eventS (evMove 4 3) s)) (eventS (evClr 1) (eventS (evMove 3 1) (eventS (evMove 4 3) s))) (fun o => o.res = .v (.c (.b true))) := by
  have e2 : eventS (evMove 4 3) s = s := by rw [move_n (by decide) (by decide)]; exact up_top _ h0
  rw [e2]
  have e3 : eventS (evMove 3 1) s = { s with row := s.kr, col := s.kc } := by
    rw [move_n (by decide) (by decide)]
    exact downS_top h0
  have hi3 : Inv (eventS (evMove 3 1) s) := by
    rw [e3, ← downS_top h0]
    exact ⟨downS_on hi.1, fun e => by rw [evOf_down]; exact hi.2 (by rw [downS_top h0] at e; exact e)⟩
  have h3 : Pl (eventS (evMove 3 1) s) := ⟨hi3.1, by rw [e3]; exact h.wt, by rw [e3]; exact h.ta, by rw [e3]; exact h.wi, by rw [e3]; exact h.len, by rw [e3]; exact h.flat⟩
  have r3 : (eventS (evMove 3 1) s).row = row := by rw [e3]; exact hk
  have c3 : (eventS (evMove 3 1) s).col = col := by rw [e3]; exact hk2
  have g3 : ∀ j, gl (eventS (evMove 3 1) s) j = gl s j := fun j => by rw [e3]; rfl
  generalize eventS (evMove 3 1) s = u at *
  obtain ⟨a1, a2, a3, a4⟩ := clear_pl h3
  refine ⟨pre_mv hi, pre_mv hi, pre_clr hi3, ?_⟩
  rw [event_clr]
  generalize clearS 1 u = v at *
  refine ⟨⟨⟨by decide, by decide⟩, ⟨hn.1, by omega⟩, fun j j1 j2 => ?_⟩, ?_⟩
  · have hcell := pl_cell a1 (r := 0) (c := j.toNat) (by omega) (by omega)
    unfold cellC
    rw [hcell, Nat.zero_mul, Nat.zero_add, a4 _ (by omega), g3, hg _ (by omega), show ((j.toNat : Nat) : Int) = j by omega]
  · have hm : s.col = mmI true n 39 := by
      rw [hc1]
      unfold min39 mmI
      simp only []
      by_cases c : n ≤ 39
      · rw [if_pos c, dF (by omega)]; rfl
      · rw [if_neg c, dT (by omega)]; rfl
    refine selT (bT h0) (selT (bT hm) (selT (bT h0) (selT (bT rfl) (selT (bT r3) (selT (bT c3) (selT (bT a2) ?_))))))
    show NS.v (.c (.b _)) = _
    rw [bT a3]
theorem top_true {row col n : Int} (hr : 1 ≤ row ∧ row ≤ 24) (hc : 0 ≤ col ∧ col ≤ 39) (hn : 1 ≤ n ∧ n ≤ 60) : topB row col n (fun o => o.res = .v (.c (.b true))) := by
  obtain ⟨a1, a2, a3, _, a5, _, _⟩ := at_pl pl_new (row := row) (col := col) (by omega) hc
  have ai := at_inv (row := row) (col := col) newS_inv
  have ag := gl_sl a5
  unfold topB
  refine ⟨newS_inv, ai, ?_⟩
  generalize atS row col newS = u at *
  obtain ⟨b1, b2, b3, _, b5, b6, b7⟩ := at_pl a1 (row := 0) (col := 0) (by decide) (by decide)
  have bi := at_inv (row := 0) (col := 0) ai
  have bg := gl_sl b5
  rw [if_pos ⟨rfl, by rw [a2]; omega⟩] at b6 b7
  generalize atS 0 0 u = v at *
  obtain ⟨k1, k2, k3, k4, k5, k6, k7⟩ := topN_spec (n - 0).toNat 0 v b1 bi b2 (by rw [b3]; rfl) (by decide) (by omega)
  refine ⟨⟨by decide, by omega, bi⟩, ?_⟩
  have en : (0 : Int) + (((n - 0).toNat : Nat) : Int) = n := by omega
  rw [en] at k4
  simp only [en] at k7
  generalize topN (n - 0).toNat 0 v = w at *
  refine top_any hr hc hn k1 k2 k3 k4 (by rw [k5, b6, a2]) (by rw [k6, b7, a3]) fun j hj => ?_
  rw [k7 j hj, bg, ag, gl_new (by omega)]
  unfold want_top
  by_cases c1 : (j : Int) < n ∧ (j : Int) < 39
  · rw [if_pos c1, if_pos (by omega)]
  · rw [if_neg c1, if_neg (by omega)]
    by_cases c2 : (j : Int) = 39 ∧ 40 ≤ n
    · rw [if_pos c2, if_pos (by omega)]
    · rw [if_neg c2, if_neg (by omega)]
def shsTop : List Sh := [.i .i64, .i .i64, .i .i64]
theorem top_law (xs : List NV) (h : R2 ShOk shsTop xs) : Holds (t_top xs []) fun o => o.res = .v (.c (.b true)) := by
  cases h with
  | cons h1 h =>
    cases h with
    | cons h2 h =>
      cases h with
      | cons h3 h =>
        cases h
        cases h1 with
        | i _ =>
          cases h2 with
          | i _ =>
            cases h3 with
            | i _ =>
              rename_i row _ col _ n _
              constructor
              rw [top_tree]
              have a1 := Int.emod_nonneg row (by decide : (24 : Int) ≠ 0)
              have a2 := Int.emod_lt_of_pos row (by decide : (0 : Int) < 24)
              have b1 := Int.emod_nonneg col (by decide : (40 : Int) ≠ 0)
              have b2 := Int.emod_lt_of_pos col (by decide : (0 : Int) < 40)
              have c1 := Int.emod_nonneg n (by decide : (60 : Int) ≠ 0)
              have c2 := Int.emod_lt_of_pos n (by decide : (0 : Int) < 60)
              rw [w64_id (x := row % 24 + 1) (by omega), w64_id (x := n % 60 + 1) (by omega)]
              exact ⟨⟨by decide, by decide⟩, ⟨by decide, by decide⟩, ⟨by decide, by decide⟩, top_true ⟨by omega, by omega⟩ ⟨by omega, by omega⟩ ⟨by omega, by omega⟩⟩
end Go.Proofs.Ytmhjmdfindfihaa.scr
