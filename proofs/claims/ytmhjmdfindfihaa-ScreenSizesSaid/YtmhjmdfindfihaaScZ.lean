/-
  The screen's laws: ScreenSizes: what letters of a size leave.
-/
import Derived.Test.YtmhjmdfindfihaaScY
set_option linter.unusedVariables false
namespace Go.Proofs.Ytmhjmdfindfihaa.scr
open Go Go.Nx

theorem slR_eq {x : Sl} {h h' w w' : Int} (a : h = h') (b : w = w') : slR x h w = slR x h' w' := by subst a; subst b; rfl
theorem layR_get {sl : List (List Sc)} {r c : Nat} {x : Sl} {h : Int} {wide : Bool} (hl : r * 40 + c < sl.length) (hl2 : wide = true → r * 40 + (c + 1) < sl.length) :
    (layR sl r c x h wide).length = sl.length ∧ ∀ j, (layR sl r c x h wide).getD j [] = if r * 40 + c = j then slR x h (bif wide then 1 else x.w) else if wide = true ∧ r * 40 + (c + 1) = j then slR x h 2 else sl.getD j [] := by
  cases wide with
  | false =>
    refine ⟨List.length_set .., fun j => (getD_set _ _ _ _ _ hl).trans ?_⟩
    by_cases e : r * 40 + c = j
    · rw [if_pos e, if_pos e]; rfl
    · rw [if_neg e, if_neg e, if_neg (fun x => absurd x.1 (by decide))]
  | true =>
    have h2 := hl2 rfl
    have hls : (sl.set (r * 40 + c) (slR x h 1)).length = sl.length := List.length_set ..
    refine ⟨(List.length_set ..).trans hls, fun j => (getD_set _ _ _ _ _ (by rw [hls]; exact h2)).trans ?_⟩
    rw [getD_set _ _ _ _ _ hl]
    by_cases e : r * 40 + c = j
    · rw [if_neg (by omega), if_pos e, if_pos e]; rfl
    · rw [if_neg e, if_neg e]
      by_cases e2 : r * 40 + (c + 1) = j
      · rw [if_pos e2, if_pos ⟨rfl, e2⟩]
      · rw [if_neg e2, if_neg (fun x => e2 x.2)]
theorem lay_get {s : Scr} {x : Sl} {up on : Bool} (hl : s.sl.length = 1000) (hr : 1 ≤ s.row ∧ s.row ≤ 24) (hc : 0 ≤ s.col ∧ s.col ≤ 39) (hu : up = true → 2 ≤ s.row) (ho : on = true → s.col ≤ 38) (hw : x.w = 0) {r k : Int} (h1 : 0 ≤ r ∧ r ≤ 24) (h2 : 0 ≤ k ∧ k ≤ 39) :
    (layS s x up on).sl.getD (r.toNat * 40 + k.toNat) [] = if inR s.row up r ∧ inK s.col on k then slR x (bif up then 2 - (s.row - r) else 0) (bif on then 1 + k - s.col else 0) else s.sl.getD (r.toNat * 40 + k.toNat) [] := by
  have B : ∀ (sl : List (List Sc)) (q h : Int), sl.length = 1000 → 1 ≤ q ∧ q ≤ 24 → (layR sl q.toNat s.col.toNat x h on).length = 1000 ∧ (layR sl q.toNat s.col.toNat x h on).getD (r.toNat * 40 + k.toNat) [] = if r = q ∧ inK s.col on k then slR x h (bif on then 1 + k - s.col else 0) else sl.getD (r.toNat * 40 + k.toNat) [] := by
    intro sl q h hs hq
    obtain ⟨a1, a2⟩ := layR_get (sl := sl) (r := q.toNat) (c := s.col.toNat) (x := x) (h := h) (wide := on) (by omega) (fun e => by have := ho e; omega)
    refine ⟨a1.trans hs, (a2 _).trans ?_⟩
    unfold inK
    by_cases e : r = q ∧ k = s.col
    · rw [if_pos (by omega), if_pos ⟨e.1, .inl e.2⟩]
      refine slR_eq rfl ?_
      cases on with
      | true => show (1 : Int) = 1 + k - s.col; omega
      | false => exact hw
    · rw [if_neg (by omega)]
      by_cases e2 : on = true ∧ r = q ∧ k = s.col + 1
      · rw [if_pos ⟨e2.1, by omega⟩, if_pos ⟨e2.2.1, .inr ⟨e2.1, e2.2.2⟩⟩]
        refine slR_eq rfl ?_
        rw [e2.1]
        show (2 : Int) = 1 + k - s.col; omega
      · rw [if_neg (fun z => e2 ⟨z.1, by have := z.2; have := ho z.1; omega, by have := z.2; have := ho z.1; omega⟩), if_neg (fun z => by
          rcases z.2 with y | y
          · exact e ⟨z.1, y⟩
          · exact e2 ⟨y.1, z.1, y.2⟩)]
  unfold inR
  cases up with
  | false =>
    refine (B s.sl s.row 0 hl hr).2.trans ?_
    by_cases c : r = s.row ∧ inK s.col on k
    · rw [if_pos c, if_pos ⟨.inl c.1, c.2⟩]; rfl
    · rw [if_neg c, if_neg (fun z => by
        rcases z.1 with y | y
        · exact c ⟨y, z.2⟩
        · exact absurd y.1 (by decide))]
  | true =>
    have h2r := hu rfl
    have b1 := B s.sl s.row 2 hl hr
    have b2 := B (layR s.sl s.row.toNat s.col.toNat x 2 on) (s.row - 1) 1 b1.1 (by omega)
    have e : (layS s x true on).sl = layR (layR s.sl s.row.toNat s.col.toNat x 2 on) (s.row - 1).toNat s.col.toNat x 1 on := by
      show layR (layR s.sl s.row.toNat s.col.toNat x 2 on) (s.row.toNat - 1) s.col.toNat x 1 on = _
      rw [show (s.row - 1).toNat = s.row.toNat - 1 by omega]
    rw [e, b2.2, b1.2]
    by_cases c : r = s.row - 1 ∧ inK s.col on k
    · rw [if_pos c, if_pos ⟨.inr ⟨rfl, c.1⟩, c.2⟩]
      exact slR_eq (by show (1 : Int) = 2 - (s.row - r); omega) rfl
    · rw [if_neg c]
      by_cases d : r = s.row ∧ inK s.col on k
      · rw [if_pos d, if_pos ⟨.inl d.1, d.2⟩]
        exact slR_eq (by show (2 : Int) = 2 - (s.row - r); omega) rfl
      · rw [if_neg d, if_neg (fun z => by
          rcases z.1 with y | y
          · exact d ⟨y, z.2⟩
          · exact c ⟨y.2, z.2⟩)]
theorem attr_sz (tall wide : Bool) (s : Scr) : attrS (bif tall then (bif wide then 79 else 77) else (bif wide then 78 else 76)) s = { s with ta := tall, wi := wide } := by
  cases tall <;> cases wide <;> kernel_rfl
/-- The slot of a letter. -/
noncomputable def slL (L : Int) (s : Scr) : Sl := ⟨L, s.fg, s.fl, s.iv, 0, 0, false, 0, false, false⟩
theorem write_sz {L : Int} {s : Scr} (hL : 65 ≤ L ∧ L ≤ 90) (h1 : s.wt = false) :
    writeS (evL L) s = stepW (layS { wroteS s (evL L) with wt := false } (slL L s) (s.ta && decide (s.row > 1)) (s.wi && decide (s.col < 39))) (s.wi && decide (s.col < 39)) := by
  have hg : gvE (evL L) = L := (gvE_0 (e := evL L) rfl).2.trans (plain_up hL)
  have hm : isMos (gvE (evL L)) = false := by rw [hg]; exact isMos_small (by omega)
  have hk : marks (wroteS s (evL L)) (evL L) = false := by unfold marks; show (s.wt && _) = false; rw [h1]; rfl
  have ht : tallB s (evL L) = (s.ta && decide (s.row > 1)) := by unfold tallB; rw [hm]; rfl
  have hw : wideB s (evL L) = (s.wi && decide (s.col < 39)) := by unfold wideB; rw [hm]; rfl
  have e1 : slotS (wroteS s (evL L)) (evL L) = { wroteS s (evL L) with wt := false } := by
    unfold slotS
    rw [hk]
    show Scr.mk _ _ _ _ _ _ _ _ _ _ _ _ _ _ _ (s.wt && true) _ _ _ _ _ _ _ _ _ = _
    rw [h1]
    rfl
  have e2 : slX (wroteS s (evL L)) (evL L) = slL L s := by
    unfold slX slL
    rw [hk, hm, hg]
    rfl
  unfold writeS
  rw [ht, hw, e1, e2]
/-- Behind it, without rolling: the slots stay. -/
theorem stepW_sz {s : Scr} {on : Bool} (hr : 1 ≤ s.row ∧ s.row ≤ 24) (hc : 0 ≤ s.col ∧ s.col ≤ 39) (ho : on = true → s.col ≤ 38) (hro : s.ro = false) :
    (stepW s on).sl = s.sl ∧ (stepW s on).ma = s.ma ∧ (stepW s on).col = (s.col + (bif on then 2 else 1)) % 40 := by
  cases on with
  | true =>
    have h2 := ho rfl
    unfold stepW
    by_cases e : s.col + 2 ≤ 39
    · rw [if_pos (show s.col + (bif true then 2 else 1) ≤ 39 from e)]
      exact ⟨rfl, rfl, by show s.col + 2 = (s.col + 2) % 40; omega⟩
    · rw [if_neg (show ¬ s.col + (bif true then 2 else 1) ≤ 39 from e), if_neg (by omega)]
      have h40 : (0 : Int) = (s.col + 2) % 40 := by omega
      by_cases e2 : s.row < 24
      · rw [downS_mid (s := { s with col := s.col + (bif true then 2 else 1) }) ⟨hr.1, e2⟩]
        exact ⟨rfl, rfl, h40⟩
      · rw [downS_wrap (s := { s with col := s.col + (bif true then 2 else 1) }) (show s.row = 24 by omega) hro]
        exact ⟨rfl, rfl, h40⟩
  | false =>
    unfold stepW
    by_cases e : s.col + 1 ≤ 39
    · rw [if_pos (show s.col + (bif false then 2 else 1) ≤ 39 from e)]
      exact ⟨rfl, rfl, by show s.col + 1 = (s.col + 1) % 40; omega⟩
    · rw [if_neg (show ¬ s.col + (bif false then 2 else 1) ≤ 39 from e), if_neg (by omega)]
      have h40 : (0 : Int) = (s.col + 1) % 40 := by omega
      by_cases e2 : s.row < 24
      · rw [downS_mid (s := { s with col := s.col + (bif false then 2 else 1) }) ⟨hr.1, e2⟩]
        exact ⟨rfl, rfl, h40⟩
      · rw [downS_wrap (s := { s with col := s.col + (bif false then 2 else 1) }) (show s.row = 24 by omega) hro]
        exact ⟨rfl, rfl, h40⟩
theorem szU_in {row col c : Int} {tall wide up on : Bool} {u : Scr} (hr : 1 ≤ row ∧ row ≤ 24) (hc : 0 ≤ col ∧ col ≤ 39) (hL : 65 ≤ wC c ∧ wC c ≤ 90) (hu : up = (tall && decide (row > 1))) (ho : on = (wide && decide (col < 39)))
    (p1 : Pl u) (p2 : u.row = row) (p3 : u.col = col) (p4 : u.ro = false) (p5 : ∀ j, j < 1000 → u.sl.getD j [] = blk) :
    szU row col c up on (writeS (evL (wC c)) { u with ta := tall, wi := wide }) (fun o => o.res = .v (.c (.b true))) := by
  have hu2 : up = true → 2 ≤ row := fun e => by
    rw [hu, Bool.and_eq_true, decide_eq_true_eq] at e
    omega
  have ho2 : on = true → col ≤ 38 := fun e => by
    rw [ho, Bool.and_eq_true, decide_eq_true_eq] at e
    omega
  have hw : writeS (evL (wC c)) { u with ta := tall, wi := wide } = stepW (layS { wroteS { u with ta := tall, wi := wide } (evL (wC c)) with wt := false } (slL (wC c) u) up on) on := by
    rw [write_sz hL (show ({ u with ta := tall, wi := wide } : Scr).wt = false from p1.wt), hu, ho, ← p2, ← p3]
    rfl
  rw [hw]
  generalize hb : ({ wroteS { u with ta := tall, wi := wide } (evL (wC c)) with wt := false } : Scr) = b
  have b1 : b.sl = u.sl := by rw [← hb]; rfl
  have b2 : b.row = row := by rw [← hb]; exact p2
  have b3 : b.col = col := by rw [← hb]; exact p3
  have b4 : b.ro = false := by rw [← hb]; exact p4
  obtain ⟨s1, s2, s3⟩ := stepW_sz (s := layS b (slL (wC c) u) up on) (on := on) (by show 1 ≤ b.row ∧ b.row ≤ 24; rw [b2]; exact hr) (by show 0 ≤ b.col ∧ b.col ≤ 39; rw [b3]; exact hc) (fun e => by show b.col ≤ 38; rw [b3]; exact ho2 e) b4
  have s4 : (stepW (layS b (slL (wC c) u) up on) on).col = (b.col + (bif on then 2 else 1)) % 40 := s3
  rw [b3] at s4
  clear s3
  have G := fun (r k : Int) h1 h2 => lay_get (s := b) (x := slL (wC c) u) (up := up) (on := on) (by rw [b1]; exact p1.len) (by rw [b2]; exact hr) (by rw [b3]; exact hc) (fun e => by rw [b2]; exact hu2 e) (fun e => by rw [b3]; exact ho2 e) rfl (r := r) (k := k) h1 h2
  rw [b1, b2, b3, ← s1] at G
  generalize stepW (layS b (slL (wC c) u) up on) on = t at *
  clear hw s1 s2 hb b1 b2 b3 b4
  have G2 : ∀ r k : Int, 0 ≤ r ∧ r ≤ 24 → 0 ≤ k ∧ k ≤ 39 → t.sl.getD (r.toNat * 40 + k.toNat) [] = if inR row up r ∧ inK col on k then slR (slL (wC c) u) (bif up then 2 - (row - r) else 0) (bif on then 1 + k - col else 0) else blk := fun r k h1 h2 => by
    rw [G r k h1 h2, p5 _ (by omega)]
  have F : ∀ j : Nat, j < 1000 → Flat (t.sl.getD j []) := fun j hj => by
    have := G2 ((j / 40 : Nat) : Int) ((j % 40 : Nat) : Int) (by omega) (by omega)
    rw [show ((j / 40 : Nat) : Int).toNat * 40 + ((j % 40 : Nat) : Int).toNat = j by omega] at this
    rw [this]
    split
    · exact ⟨rfl, isMos_small (by show 0 ≤ wC c ∧ wC c < 1048576; omega)⟩
    · exact flat_blk
  unfold szU
  rw [gridX_eq]
  refine ⟨⟨⟨by omega, by omega⟩, hr, hc, ho2, ⟨by omega, by omega⟩, fun q j q1 q2 j1 j2 => ?_⟩, ?_⟩
  · have hcell : cellQ (gridG t.ma t.sl) q j = flatC (t.sl.getD (q.toNat * 40 + j.toNat) []) := by
      unfold cellQ
      exact grid_flat (by omega) (by omega) fun i hi => F _ (by omega)
    unfold okZ
    rw [hcell, G2 q j (by omega) (by omega)]
    refine ⟨fun i1 i2 => ?_, fun h => ?_⟩
    · rw [if_pos ⟨i1, i2⟩]; exact ⟨rfl, rfl, rfl⟩
    · rw [if_neg h]; show (32 : Int) ≠ wC c; omega
  · have hn : 0 + remT row up on 1 = (bif on then 2 else 1) * (bif up then 2 else 1) := by
      unfold remT
      cases up with
      | true =>
        have := hu2 rfl
        rw [if_pos (by omega), if_pos ⟨rfl, by omega⟩]
        cases on <;> rfl
      | false =>
        rw [if_pos (by omega), if_neg (fun x => absurd x.1 (by decide))]
        cases on <;> rfl
    unfold szE
    simp only []
    rw [hn, w64_id (x := col + 2) (by omega), w64_id (x := col + 1) (by omega)]
    have t1 : Int.tmod (col + 1) 40 = (col + 1) % 40 := Int.tmod_eq_emod_of_nonneg (by omega)
    have t2 : Int.tmod (col + 2) 40 = (col + 2) % 40 := Int.tmod_eq_emod_of_nonneg (by omega)
    rw [t1, t2]
    have fin : ∀ {x y : Int}, x = y → (bO (x == y)).res = .v (.c (.b true)) := fun h => by rw [bT h]; rfl
    cases on with
    | true =>
      refine selT rfl ?_
      cases up with
      | true => exact selT rfl (selT rfl (selT (by decide) (fin s4)))
      | false => exact selF rfl (selT rfl (selT (by decide) (fin s4)))
    | false =>
      refine selF rfl ?_
      cases up with
      | true => exact selT rfl (selF rfl (selT (by decide) (fin s4)))
      | false => exact selF rfl (selF rfl (selT (by decide) (fin s4)))
theorem sz_true {row col c : Int} (tall wide : Bool) (hr : 1 ≤ row ∧ row ≤ 24) (hc : 0 ≤ col ∧ col ≤ 39) (hL : 65 ≤ wC c ∧ wC c ≤ 90) {up on : Bool} (hu : up = (tall && decide (row > 1))) (ho : on = (wide && decide (col < 39))) :
    szB row col c up on (bif tall then (bif wide then 79 else 77) else (bif wide then 78 else 76)) (fun o => o.res = .v (.c (.b true))) := by
  obtain ⟨a1, a2, a3, a4, a5, _, _⟩ := at_pl pl_new (row := row) (col := col) (by omega) hc
  have ai := at_inv (row := row) (col := col) newS_inv
  have p5 : ∀ j, j < 1000 → (atS row col newS).sl.getD j [] = blk := fun j hj => by rw [a5]; exact newS_get hj
  unfold szB
  simp only []
  rw [newX_eq, atX_eq, evX_eq, evX_eq, event_attr, attr_sz, ev_let]
  generalize atS row col newS = u at *
  have inv2 : Inv { u with ta := tall, wi := wide } := ⟨ai.1, ai.2⟩
  exact ⟨⟨ai.1, (fun e => absurd (show (6 : Int) = 1 from e) (by decide)), ai.2⟩, pre_let inv2, szU_in hr hc hL hu ho a1 a2 a3 a4 p5⟩
def shsSz : List Sh := [.i .i64, .i .i64, .b, .b, .i .u8]
theorem sz_law (xs : List NV) (h : R2 ShOk shsSz xs) : Holds (t_sz xs []) fun o => o.res = .v (.c (.b true)) := by
  cases h with
  | cons h1 h =>
    cases h with
    | cons h2 h =>
      cases h with
      | cons h3 h =>
        cases h with
        | cons h4 h =>
          cases h with
          | cons h5 h =>
            cases h
            cases h1 with
            | i _ =>
              cases h2 with
              | i _ =>
                cases h3 with
                | b =>
                  cases h4 with
                  | b =>
                    cases h5 with
                    | i hu =>
                      rename_i row _ col _ tall wide c
                      constructor
                      have a1 := Int.emod_nonneg row (by decide : (24 : Int) ≠ 0)
                      have a2 := Int.emod_lt_of_pos row (by decide : (0 : Int) < 24)
                      have b1 := Int.emod_nonneg col (by decide : (40 : Int) ≠ 0)
                      have b2 := Int.emod_lt_of_pos col (by decide : (0 : Int) < 40)
                      simp [Lit.wf, IntKind.min, IntKind.max, IntKind.signed, IntKind.bits] at hu
                      have c1 := Int.emod_nonneg c (by decide : (26 : Int) ≠ 0)
                      have c2 := Int.emod_lt_of_pos c (by decide : (0 : Int) < 26)
                      have e1 : wC c = 65 + c % 26 := by
                        unfold wC
                        rw [w64_id (x := c) (by omega), Int.tmod_eq_emod_of_nonneg (by omega)]
                        exact w64_id (by omega)
                      have hL : 65 ≤ wC c ∧ wC c ≤ 90 := by omega
                      have hr : 1 ≤ row % 24 + 1 ∧ row % 24 + 1 ≤ 24 := by omega
                      have hc : 0 ≤ col % 40 ∧ col % 40 ≤ 39 := by omega
                      have hi : Inv newX := by rw [newX_eq]; exact newS_inv
                      have hd : decide (row % 24 + 1 ≥ 2) = decide (row % 24 + 1 > 1) := decide_eq_decide.2 (by omega)
                      cases tall with
                      | true =>
                        cases wide with
                        | true => rw [sz_tt, w64_id (x := row % 24 + 1) (by omega)]; exact ⟨⟨by decide, by decide⟩, ⟨by decide, by decide⟩, hi, sz_true true true hr hc hL hd rfl⟩
                        | false => rw [sz_tf, w64_id (x := row % 24 + 1) (by omega)]; exact ⟨⟨by decide, by decide⟩, ⟨by decide, by decide⟩, hi, sz_true true false hr hc hL hd rfl⟩
                      | false =>
                        cases wide with
                        | true => rw [sz_ft, w64_id (x := row % 24 + 1) (by omega)]; exact ⟨⟨by decide, by decide⟩, ⟨by decide, by decide⟩, hi, sz_true false true hr hc hL rfl rfl⟩
                        | false => rw [sz_ff, w64_id (x := row % 24 + 1) (by omega)]; exact ⟨⟨by decide, by decide⟩, ⟨by decide, by decide⟩, hi, sz_true false false hr hc hL rfl rfl⟩
end Go.Proofs.Ytmhjmdfindfihaa.scr
