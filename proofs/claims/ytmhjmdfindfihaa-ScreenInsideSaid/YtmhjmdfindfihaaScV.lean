/-
  The screen's laws: ScreenZones: where the ground is.
-/
import Derived.Test.YtmhjmdfindfihaaScU
set_option linter.unusedVariables false
namespace Go.Proofs.Ytmhjmdfindfihaa.scr
open Go Go.Nx

/-- A screen where something may wait. -/
structure Zl (s : Scr) : Prop where
  on : On s
  ta : s.ta = false
  wi : s.wi = false
  len : s.sl.length = 1000
/-- A letter's slot. -/
noncomputable def zrow (c : Int) (s : Scr) : List Sc := [.i (plainG c), .i s.fg, .b s.fl, .b s.iv, .i 0, .i 0, .b (s.wt && space (evL c)), .i (if (s.wt && space (evL c)) = true then s.bg else 0), .b ((s.wt && space (evL c)) && s.un), .b ((s.wt && space (evL c)) && s.co)]
theorem write_z {c : Int} {s : Scr} (h : Zl s) (hc : s.col < 39) :
    writeS (evL c) s = { wroteS s (evL c) with sl := s.sl.set (s.row.toNat * 40 + s.col.toNat) (zrow c s), wt := s.wt && !(s.wt && space (evL c)), col := s.col + 1 } := by
  have hg : gvE (evL c) = plainG c := (gvE_0 rfl).2
  have hm : isMos (gvE (evL c)) = false := by rw [hg]; exact isMos_small (by have := plainG_bnd c; omega)
  have hk : marks (wroteS s (evL c)) (evL c) = (s.wt && space (evL c)) := by unfold marks; rw [hm]; rfl
  have ht : tallB s (evL c) = false := by unfold tallB; rw [h.ta, Bool.and_false]; rfl
  have hw : wideB s (evL c) = false := by unfold wideB; rw [h.wi, Bool.and_false]; rfl
  have hs : slX (wroteS s (evL c)) (evL c) = ⟨plainG c, s.fg, s.fl, s.iv, 0, 0, s.wt && space (evL c), (if (s.wt && space (evL c)) = true then s.bg else 0), (s.wt && space (evL c)) && s.un, (s.wt && space (evL c)) && s.co⟩ := by
    unfold slX
    rw [hk, hm, hg]
    rfl
  unfold writeS
  rw [ht, hw, hs]
  unfold slotS
  rw [hk]
  exact (if_pos (show s.col + 1 ≤ 39 by omega)).trans rfl
theorem flat_zrow {c : Int} {s : Scr} (h : (s.wt && space (evL c)) = false) : Flat (zrow c s) := by
  unfold zrow
  rw [h]
  exact ⟨rfl, isMos_small (by have := plainG_bnd c; show 0 ≤ plainG c ∧ plainG c < 1048576; omega)⟩
theorem zl_write {c : Int} {s : Scr} (h : Zl s) (hc : s.col < 39) : Zl (writeS (evL c) s) := by
  have ho := writeS_on (e := evL c) h.on
  rw [write_z h hc] at ho ⊢
  exact ⟨ho, h.ta, h.wi, (List.length_set ..).trans h.len⟩
theorem lets_z {c : Int} (hsp : space (evL c) = false) : ∀ (n : Nat) (s : Scr), Zl s → s.row = 1 → s.col + n ≤ 39 →
    Zl (letsS (List.replicate n c) s) ∧ (letsS (List.replicate n c) s).row = 1 ∧ (letsS (List.replicate n c) s).col = s.col + n ∧ (letsS (List.replicate n c) s).bg = s.bg ∧ (letsS (List.replicate n c) s).wt = s.wt ∧
    ∀ j : Nat, ((40 + s.col ≤ j ∧ (j : Int) < 40 + s.col + n) → Flat ((letsS (List.replicate n c) s).sl.getD j [])) ∧ (¬ (40 + s.col ≤ j ∧ (j : Int) < 40 + s.col + n) → (letsS (List.replicate n c) s).sl.getD j [] = s.sl.getD j [])
  | 0, s, h, hr, hc => ⟨h, hr, by show s.col = s.col + ((0 : Nat) : Int); simp, rfl, rfl, fun j => ⟨fun x => by omega, fun _ => rfl⟩⟩
  | n + 1, s, h, hr, hc => by
    have hz := zl_write (c := c) h (by omega)
    have hw := write_z (c := c) h (by omega)
    have hcol : (writeS (evL c) s).col = s.col + 1 := by rw [hw]
    have hrow : (writeS (evL c) s).row = 1 := by rw [hw]; exact hr
    have hbg : (writeS (evL c) s).bg = s.bg := by rw [hw]; rfl
    have hwt : (writeS (evL c) s).wt = s.wt := by rw [hw]; show (s.wt && !(s.wt && space (evL c))) = s.wt; rw [hsp, Bool.and_false]; exact Bool.and_true _
    have hsl : ∀ j : Nat, (writeS (evL c) s).sl.getD j [] = if 40 + s.col.toNat = j then zrow c s else s.sl.getD j [] := fun j => by
      have ho := h.on.2.1
      have : (writeS (evL c) s).sl = s.sl.set (s.row.toNat * 40 + s.col.toNat) (zrow c s) := by rw [hw]
      rw [this, getD_set _ _ _ _ _ (by rw [hr, h.len]; omega), hr]
      rfl
    have ho := h.on.2.1
    obtain ⟨k1, k2, k3, k4, k5, k6⟩ := lets_z hsp n (writeS (evL c) s) hz hrow (by rw [hcol]; omega)
    refine ⟨k1, k2, ?_, k4.trans hbg, k5.trans hwt, fun j => ⟨fun x => ?_, fun x => ?_⟩⟩
    · show (letsS (List.replicate n c) (writeS (evL c) s)).col = _
      rw [k3, hcol]; omega
    · show Flat ((letsS (List.replicate n c) (writeS (evL c) s)).sl.getD j [])
      obtain ⟨y1, y2⟩ := k6 j
      rw [hcol] at y1 y2
      by_cases e : 40 + (s.col + 1) ≤ j ∧ (j : Int) < 40 + (s.col + 1) + n
      · exact y1 e
      · rw [y2 e, hsl, if_pos (by omega)]
        exact flat_zrow (by rw [hsp, Bool.and_false])
    · show (letsS (List.replicate n c) (writeS (evL c) s)).sl.getD j [] = _
      obtain ⟨_, y2⟩ := k6 j
      rw [hcol] at y2
      rw [y2 (by omega), hsl, if_neg (by omega)]
/-- The ground along row 1: one slot may begin a zone. -/
theorem zbg {sl : List (List Sc)} {n : Nat} {w : Bool} {c : Int} (hn : n < 40) (hf : ∀ j, j < 40 → j ≠ n → Flat (sl.getD (1 * 40 + j) [])) (hx : xB (sl.getD (1 * 40 + n) []) 6 = w) (hm : isMos (xI (sl.getD (1 * 40 + n) []) 0) = false) (hb : xI (sl.getD (1 * 40 + n) []) 7 = c) :
    ∀ k, k ≤ 40 → (zAt (rowOf sl 1) k).bg = if n < k ∧ w = true then c else 0
  | 0, _ => by rw [if_neg (by omega)]; rfl
  | k + 1, hk => by
    have ih := zbg hn hf hx hm hb k (by omega)
    have hg : (rowOf sl 1).getD k [] = sl.getD (1 * 40 + k) [] := getD_sub _ _ _ _ _ (by omega)
    rw [zAt, hg]
    by_cases e : k = n
    · subst e
      unfold zNext isZ
      rw [hx, hm, hb]
      cases w with
      | true => rw [if_pos ⟨by omega, rfl⟩]; rfl
      | false => rw [if_neg (fun x => by simp at x)]; show (zAt (rowOf sl 1) k).bg = 0; rw [ih, if_neg (fun x => by simp at x)]
    · rw [zNext_flat (hf k (by omega) e), ih]
      by_cases d : n < k ∧ w = true
      · rw [if_pos d, if_pos ⟨by omega, d.2⟩]
      · rw [if_neg d, if_neg (fun x => d ⟨by omega, x.2⟩)]
theorem zo_any {n m c : Int} {again : Bool} {s : Scr} (hn : 0 ≤ n ∧ n ≤ 9) (hm : 0 ≤ m ∧ m ≤ 9) (h : Zl s) (hi : Inv s) (hr : s.row = 1) (hc : s.col = 0) (hw : s.wt = !again) (hb : again = false → s.bg = c) (hsl : s.sl = newS.sl) :
    zoB n m c again s (fun o => o.res = .v (.c (.b true))) := by
  have hen : (n - 0).toNat = n.toNat := by omega
  have hem : (m - 0).toNat = m.toNat := by omega
  obtain ⟨a1, a2, a3, a4, a5, a6⟩ := lets_z (c := 97) (by decide +kernel) n.toNat s h hr (by omega)
  have ai := letsS_inv (List.replicate n.toNat 97) hi
  have e1 := letsC_eq 97 n.toNat s
  rw [← e1] at a1 a2 a3 a4 a5 a6 ai
  unfold zoB
  simp only []
  rw [hen, hem]
  refine ⟨⟨by decide, by omega, hi⟩, ?_⟩
  generalize letsC 97 n.toNat s = u at *
  clear e1
  rw [ev_let]
  have hcu : u.col = n := by rw [a3, hc]; omega
  have bz := zl_write (c := 32) a1 (by omega)
  have bi := inv_let (c := 32) ai.1
  have bw := write_z (c := 32) a1 (by omega)
  have hsp : space (evL 32) = true := by decide +kernel
  have bcol : (writeS (evL 32) u).col = n + 1 := by rw [bw]; show u.col + 1 = n + 1; rw [hcu]
  have brow : (writeS (evL 32) u).row = 1 := by rw [bw]; exact a2
  have bsl : ∀ j : Nat, (writeS (evL 32) u).sl.getD j [] = if 40 + n.toNat = j then zrow 32 u else u.sl.getD j [] := fun j => by
    have : (writeS (evL 32) u).sl = u.sl.set (u.row.toNat * 40 + u.col.toNat) (zrow 32 u) := by rw [bw]
    rw [this, getD_set _ _ _ _ _ (by rw [a2, hcu, a1.len]; omega), a2, hcu]
    rfl
  generalize writeS (evL 32) u = v at *
  clear bw
  refine ⟨pre_let ai, ⟨by decide, by omega, bi⟩, ?_⟩
  obtain ⟨c1, c2, c3, c4, c5, c6⟩ := lets_z (c := 98) (by decide +kernel) m.toNat v bz brow (by omega)
  rw [← letsC_eq 98 m.toNat v] at c1 c2 c3 c4 c5 c6
  generalize letsC 98 m.toNat v = t at *
  have new : ∀ j : Nat, 40 ≤ j → j < 120 → (j < 40 + n.toNat ∨ 40 + n.toNat < j) → Flat (t.sl.getD j []) := fun j j1 j2 j3 => by
    obtain ⟨y1, y2⟩ := c6 j
    by_cases e : 40 + v.col ≤ j ∧ (j : Int) < 40 + v.col + m.toNat
    · exact y1 e
    · rw [y2 e, bsl, if_neg (by omega)]
      obtain ⟨z1, z2⟩ := a6 j
      by_cases d : 40 + s.col ≤ j ∧ (j : Int) < 40 + s.col + n.toNat
      · exact z1 d
      · rw [z2 d, hsl, newS_get (by omega)]
        exact flat_blk
  have mid : t.sl.getD (1 * 40 + n.toNat) [] = zrow 32 u := by
    obtain ⟨_, y2⟩ := c6 (1 * 40 + n.toNat)
    rw [y2 (by rw [bcol]; omega), bsl, if_pos (by omega)]
  have hwu : (u.wt && space (evL 32)) = !again := by rw [hsp, Bool.and_true, a5]; exact hw
  have hbg := zbg (sl := t.sl) (n := n.toNat) (w := !again) (c := if (!again) = true then u.bg else 0) (by omega) (fun j j1 j2 => new _ (by omega) (by omega) (by omega))
    (by rw [mid]; unfold zrow; rw [hwu]; rfl) (by rw [mid]; unfold zrow; rw [hwu]; show isMos (plainG 32) = false; decide +kernel) (by rw [mid]; unfold zrow; rw [hwu]; rfl)
  refine ⟨⟨⟨by decide, by decide⟩, fun j j1 j2 => ⟨?_, ?_⟩⟩, ?_⟩
  · unfold cell1
    rw [grid_get (by omega) (by omega)]
    show (zAt (rowOf t.sl 1) (j.toNat + 1)).bg = _
    rw [hbg _ (by omega)]
    unfold want_zo
    cases again with
    | true => rw [if_neg (fun x => absurd x.2 (by decide)), if_neg (fun x => absurd x.2 (by decide))]
    | false =>
      by_cases d : n ≤ j
      · rw [if_pos (show n.toNat < j.toNat + 1 ∧ (!false) = true from ⟨by omega, rfl⟩), if_pos (show (!false) = true from rfl), if_pos ⟨d, rfl⟩, a4, hb rfl]
      · rw [if_neg (fun x => d (by omega)), if_neg (fun x => d x.1)]
  · unfold cell2
    rw [grid_flat (by omega) (by omega) fun k hk => new _ (by omega) (by omega) (by omega)]
    rfl
  · show NS.v (.c (.b _)) = _
    rw [bT]
    rw [c3, bcol, w64_id (x := n + 1) (by omega), w64_id (by omega)]
    omega
theorem attr_bg {c : Int} {s : Scr} (h : 1 ≤ c ∧ c ≤ 7) : attrS (80 + c) s = { s with bg := c, wt := true } := by
  unfold attrS attrB
  rw [if_neg (by omega), if_neg (by omega), if_neg (by omega), if_neg (by omega), if_pos (by omega)]
  unfold waitS
  rw [if_neg (by omega), if_neg (by omega), w64_id (by omega)]
  have : 80 + c - 80 = c := by omega
  rw [this]
theorem pre_attr {a : Int} {s : Scr} (h : Inv s) : PreE (evA a) s := ⟨h.1, (fun e => absurd (show (6 : Int) = 1 from e) (by decide)), h.2⟩
theorem zo_true {n m c : Int} {again : Bool} (hn : 0 ≤ n ∧ n ≤ 9) (hm : 0 ≤ m ∧ m ≤ 9) (hc : 1 ≤ c ∧ c ≤ 7) : PreE (evA (80 + c)) newS ∧
     (let s0 := eventS (evA (80 + c)) newS
      sel again (Inv s0 ∧ zoB n m c again (atS 1 0 s0) (fun o => o.res = .v (.c (.b true)))) (zoB n m c again s0 (fun o => o.res = .v (.c (.b true))))) := by
  refine ⟨pre_attr newS_inv, ?_⟩
  simp only []
  rw [event_attr, attr_bg hc]
  have hz : Zl { newS with bg := c, wt := true } := ⟨newS_inv.1, rfl, rfl, newS_len⟩
  have hi : Inv { newS with bg := c, wt := true } := newS_inv
  cases again with
  | true =>
    refine selT rfl ⟨hi, ?_⟩
    have e : atS 1 0 { newS with bg := c, wt := true } = { newS with bg := 0, wt := false } := by
      rw [at_goTo]
      show goToS 1 1 _ = _
      unfold goToS
      rw [if_neg (by decide), if_neg (fun x => absurd x.1 (by decide))]
      rfl
    have hi2 := at_inv (row := 1) (col := 0) hi
    rw [e] at hi2 ⊢
    exact zo_any hn hm ⟨hi2.1, rfl, rfl, newS_len⟩ hi2 rfl rfl rfl (fun h => absurd h (by decide)) rfl
  | false => exact selF rfl (zo_any hn hm hz hi rfl rfl rfl (fun _ => rfl) rfl)
def shsZo : List Sh := [.i .i64, .i .i64, .i .i64, .b]
theorem zo_law (xs : List NV) (h : R2 ShOk shsZo xs) : Holds (t_zo xs []) fun o => o.res = .v (.c (.b true)) := by
  cases h with
  | cons h1 h =>
    cases h with
    | cons h2 h =>
      cases h with
      | cons h3 h =>
        cases h with
        | cons h4 h =>
          cases h
          cases h1 with
          | i _ =>
            cases h2 with
            | i _ =>
              cases h3 with
              | i _ =>
                cases h4 with
                | b =>
                  rename_i n _ m _ c _ again
                  constructor
                  rw [zo_tree]
                  have a1 := Int.emod_nonneg n (by decide : (10 : Int) ≠ 0)
                  have a2 := Int.emod_lt_of_pos n (by decide : (0 : Int) < 10)
                  have b1 := Int.emod_nonneg m (by decide : (10 : Int) ≠ 0)
                  have b2 := Int.emod_lt_of_pos m (by decide : (0 : Int) < 10)
                  have c1 := Int.emod_nonneg c (by decide : (7 : Int) ≠ 0)
                  have c2 := Int.emod_lt_of_pos c (by decide : (0 : Int) < 7)
                  rw [w64_id (x := c % 7 + 1) (by omega), w64_id (x := 80 + (c % 7 + 1)) (by omega)]
                  exact ⟨⟨by decide, by decide⟩, ⟨by decide, by decide⟩, ⟨by decide, by decide⟩, zo_true ⟨by omega, by omega⟩ ⟨by omega, by omega⟩ ⟨by omega, by omega⟩⟩
end Go.Proofs.Ytmhjmdfindfihaa.scr
