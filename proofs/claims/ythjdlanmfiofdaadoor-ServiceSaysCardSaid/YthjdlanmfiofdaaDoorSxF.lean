/-
  ServiceSays: the law.
-/
import Derived.Test.YthjdlanmfiofdaaDoorSxC
import Derived.Test.YthjdlanmfiofdaaDoorSxE
import Derived.Test.YthjdlanmfiofdaaDoorSxD
namespace Go.Proofs.YthjdlanmfiofdaaDoor.sv
open Go Go.Nx Go.Proofs.YthjdlanmfiofdaaDoor.pk Go.Proofs.YthjdlanmfiofdaaDoor.ln Go.Proofs.YthjdlanmfiofdaaDoor.hd Go.Proofs.YthjdlanmfiofdaaDoor.lb

theorem goR_and (r k : Nat) (A : List Int) : (goR (r + 1) k A).1 = (okd ((stp A k).getD k 0) && (goR r (k + 1) (stp A k)).1) := by
  show (bif okd ((stp A k).getD k 0) then goR r (k + 1) (stp A k) else (false, stp A k)).1 = _
  cases okd ((stp A k).getD k 0) <;> rfl
theorem goD_and (bs : List Int) (r k : Nat) (n : Int) : (goD bs (r + 1) k n).1 = (okd (dAt bs (k : Int)) && (goD bs r (k + 1) (ac n (dAt bs (k : Int)))).1) := by
  show (bif okd (dAt bs (k : Int)) then goD bs r (k + 1) (ac n (dAt bs (k : Int))) else (false, n)).1 = _
  cases okd (dAt bs (k : Int)) <;> rfl
theorem stp_at (A : List Int) (k : Nat) (h : k < A.length) : (stp A k).getD k 0 = bD (A.getD k 0) := by
  unfold stp bD
  rw [List.getD_eq_getElem?_getD, List.getElem?_set_self h]
  rfl
theorem stp_ne (A : List Int) (k j : Nat) (h : k ≠ j) : (stp A k).getD j 0 = A.getD j 0 := by
  unfold stp
  rw [List.getD_eq_getElem?_getD, List.getElem?_set_ne h, List.getD_eq_getElem?_getD]
theorem goR_all2 : ∀ (r k : Nat) (A : List Int), k + r ≤ A.length → (goR r k A).1 = (List.range r).all fun i => okd (bD (A.getD (k + i) 0))
  | 0, _, _, _ => rfl
  | r + 1, k, A, h => by
    have hl : (stp A k).length = A.length := by unfold stp; rw [List.length_set]
    rw [goR_and, stp_at A k (by omega), goR_all2 r (k + 1) (stp A k) (by omega), List.range_succ_eq_map, List.all_cons, List.all_map]
    congr 1
    refine List.all_congr rfl ?_
    intro i
    show okd (bD ((stp A k).getD (k + 1 + i) 0)) = okd (bD (A.getD (k + (i + 1)) 0))
    rw [stp_ne A k _ (by omega), show k + 1 + i = k + (i + 1) by omega]
theorem cDg_eq (g : Nat → Int) : cDg g = (okd (lo (g 9)) && (okd (hi (g 10)) && (okd (lo (g 10)) && (okd (hi (g 11)) && (okd (lo (g 11)) && (okd (hi (g 12)) && (okd (lo (g 12)) && (okd (hi (g 13)) && (okd (lo (g 13)) && (okd (hi (g 14)) && (okd (lo (g 14)) && true))))))))))) := by
  unfold cDg
  rw [goR_all2 11 0 (dgA g) (Nat.le_refl 11)]
  rfl
theorem nib_all : ∀ m < 256, lo (Int.ofNat m) = dL (Int.ofNat m) ∧ hi (Int.ofNat m) = dH (Int.ofNat m) ∧ aU (shrv .u8 (Int.ofNat m) 6) 1 = aI (shrv .i64 (IntKind.i64.wrap (Int.ofNat m)) 6) 1 ∧ w64 (aU (shrv .u8 (Int.ofNat m) 1) 31) = aI (shrv .i64 (IntKind.i64.wrap (Int.ofNat m)) 1) 31 := by decide +kernel
theorem nib_of {b : Int} (h : 0 ≤ b ∧ b < 256) : lo b = dL b ∧ hi b = dH b ∧ aU (shrv .u8 b 6) 1 = aI (shrv .i64 (IntKind.i64.wrap b) 6) 1 ∧ w64 (aU (shrv .u8 b 1) 31) = aI (shrv .i64 (IntKind.i64.wrap b) 1) 31 := by
  obtain ⟨m, hm, rfl⟩ := byN h
  exact nib_all m hm
theorem okd_iff (d : Int) : okd d = true ↔ 0 ≤ d ∧ d ≤ 9 := by
  unfold okd
  rw [Bool.not_eq_true', Bool.or_eq_false_iff, decide_eq_false_iff_not, decide_eq_false_iff_not]
  omega
theorem okD2 (b : Int) : okD [b] 0 = (okd (dH b) && (okd (dL b) && true)) := by
  show (goD [b] 2 0 0).1 = _
  rw [goD_and, goD_and, dAt_10, dAt_11]
  rfl
theorem okD5 (a b c : Int) : okD [a, b, c] 1 = (okd (dL a) && (okd (dH b) && (okd (dL b) && (okd (dH c) && (okd (dL c) && true))))) := by
  show (goD [a, b, c] 5 1 0).1 = _
  rw [goD_and, goD_and, goD_and, goD_and, goD_and, dAt_31, dAt_32, dAt_33, dAt_34, dAt_35]
  rfl
theorem va2 {b x y : Int} (h1 : dH b = x) (h2 : dL b = y) (hx : 0 ≤ x ∧ x ≤ 9) (hy : 0 ≤ y ∧ y ≤ 9) : okD [b] 0 = true ∧ vD [b] 0 = 10 * x + y := by
  have e : goD [b] 2 0 0 = (true, 10 * x + y) := by
    rw [goD_t (r := 1) ((dAt_10 b).trans h1) hx (by omega), goD_t (r := 0) ((dAt_11 b).trans h2) hy (by omega)]
    show (true, 10 * (10 * 0 + x) + y) = _
    rw [show 10 * (10 * 0 + x) + y = 10 * x + y by omega]
  have e : goD [b] (2 * [b].length - (0 : Int).toNat) (0 : Int).toNat 0 = (true, 10 * x + y) := e
  have h1 : okD [b] 0 = true := by unfold okD; rw [e]
  refine ⟨h1, ?_⟩
  unfold vD vaD
  rw [h1, e]
  rfl
theorem va5 {a b c x1 x2 x3 x4 x5 : Int} (h1 : dL a = x1) (h2 : dH b = x2) (h3 : dL b = x3) (h4 : dH c = x4) (h5 : dL c = x5) (g1 : 0 ≤ x1 ∧ x1 ≤ 9) (g2 : 0 ≤ x2 ∧ x2 ≤ 9) (g3 : 0 ≤ x3 ∧ x3 ≤ 9) (g4 : 0 ≤ x4 ∧ x4 ≤ 9) (g5 : 0 ≤ x5 ∧ x5 ≤ 9) : okD [a, b, c] 1 = true ∧ vD [a, b, c] 1 = 10000 * x1 + 1000 * x2 + 100 * x3 + 10 * x4 + x5 := by
  have e : goD [a, b, c] 5 1 0 = (true, 10000 * x1 + 1000 * x2 + 100 * x3 + 10 * x4 + x5) := by
    rw [goD_t (r := 4) ((dAt_31 a b c).trans h1) g1 (by omega), goD_t (r := 3) ((dAt_32 a b c).trans h2) g2 (by omega), goD_t (r := 2) ((dAt_33 a b c).trans h3) g3 (by omega), goD_t (r := 1) ((dAt_34 a b c).trans h4) g4 (by omega), goD_t (r := 0) ((dAt_35 a b c).trans h5) g5 (by omega)]
    show (true, 10 * (10 * (10 * (10 * (10 * 0 + x1) + x2) + x3) + x4) + x5) = _
    rw [show 10 * (10 * (10 * (10 * (10 * 0 + x1) + x2) + x3) + x4) + x5 = 10000 * x1 + 1000 * x2 + 100 * x3 + 10 * x4 + x5 by omega]
  have e : goD [a, b, c] (2 * [a, b, c].length - (1 : Int).toNat) (1 : Int).toNat 0 = (true, 10000 * x1 + 1000 * x2 + 100 * x3 + 10 * x4 + x5) := e
  have h1 : okD [a, b, c] 1 = true := by unfold okD; rw [e]
  refine ⟨h1, ?_⟩
  unfold vD vaD
  rw [h1, e]
  rfl
/-- The digits are right: the numbers. -/
theorem nums_t {g : Nat → Int} (hb : ∀ j, 0 ≤ g j ∧ g j < 256) (h : cDg g = true) : (okD [g 9, g 10, g 11] 1 = true ∧ vD [g 9, g 10, g 11] 1 = dayR g ∧ 0 ≤ dayR g ∧ dayR g ≤ 99999) ∧ (okD [g 12] 0 = true ∧ vD [g 12] 0 = tw2 (g 12) ∧ 0 ≤ tw2 (g 12)) ∧ (okD [g 13] 0 = true ∧ vD [g 13] 0 = tw2 (g 13) ∧ 0 ≤ tw2 (g 13)) ∧ (okD [g 14] 0 = true ∧ vD [g 14] 0 = tw2 (g 14) ∧ 0 ≤ tw2 (g 14)) := by
  rw [cDg_eq] at h
  simp only [Bool.and_eq_true, okd_iff] at h
  obtain ⟨h1, h2, h3, h4, h5, h6, h7, h8, h9, h10, h11, _⟩ := h
  have tw : ∀ j, (0 ≤ hi (g j) ∧ hi (g j) ≤ 9) → (0 ≤ lo (g j) ∧ lo (g j) ≤ 9) → okD [g j] 0 = true ∧ vD [g j] 0 = tw2 (g j) ∧ 0 ≤ tw2 (g j) := by
    intro j hx hy
    have hn := nib_of (hb j)
    have hv := va2 (b := g j) hn.2.1.symm hn.1.symm hx hy
    have et : tw2 (g j) = 10 * hi (g j) + lo (g j) := by
      unfold tw2 w64
      rw [IntKind.wrap_i64, IntKind.wrap_i64]
      omega
    exact ⟨hv.1, hv.2.trans et.symm, by omega⟩
  have n9 := nib_of (hb 9)
  have n10 := nib_of (hb 10)
  have n11 := nib_of (hb 11)
  have hv := va5 (a := g 9) (b := g 10) (c := g 11) n9.1.symm n10.2.1.symm n10.1.symm n11.2.1.symm n11.1.symm h1 h2 h3 h4 h5
  have ed : dayR g = 10000 * lo (g 9) + 1000 * hi (g 10) + 100 * lo (g 10) + 10 * hi (g 11) + lo (g 11) := by
    unfold dayR w64
    rw [IntKind.wrap_i64, IntKind.wrap_i64, IntKind.wrap_i64, IntKind.wrap_i64, IntKind.wrap_i64, IntKind.wrap_i64, IntKind.wrap_i64, IntKind.wrap_i64]
    omega
  exact ⟨⟨hv.1, hv.2.trans ed.symm, by omega, by omega⟩, tw 12 h6 h7, tw 13 h8 h9, tw 14 h10 h11⟩
theorem nums_f {g : Nat → Int} (hb : ∀ j, 0 ≤ g j ∧ g j < 256) (h : cDg g = false) : clkG g = false := by
  rw [cDg_eq, (nib_of (hb 9)).1, (nib_of (hb 10)).2.1, (nib_of (hb 10)).1, (nib_of (hb 11)).2.1, (nib_of (hb 11)).1, (nib_of (hb 12)).2.1, (nib_of (hb 12)).1, (nib_of (hb 13)).2.1, (nib_of (hb 13)).1, (nib_of (hb 14)).2.1, (nib_of (hb 14)).1] at h
  unfold clkG
  rw [okD5, okD2, okD2, okD2]
  revert h
  generalize okd (dL (g 9)) = x1
  generalize okd (dH (g 10)) = x2
  generalize okd (dL (g 10)) = x3
  generalize okd (dH (g 11)) = x4
  generalize okd (dL (g 11)) = x5
  generalize okd (dH (g 12)) = x6
  generalize okd (dL (g 12)) = x7
  generalize okd (dH (g 13)) = x8
  generalize okd (dL (g 13)) = x9
  generalize okd (dH (g 14)) = x10
  generalize okd (dL (g 14)) = x11
  intro h
  cases x1 with
  | false => rfl
  | true => cases x2 with
    | false => rfl
    | true => cases x3 with
      | false => rfl
      | true => cases x4 with
        | false => rfl
        | true => cases x5 with
          | false => rfl
          | true => cases x6 with
            | false => rfl
            | true => cases x7 with
              | false => rfl
              | true => cases x8 with
                | false => rfl
                | true => cases x9 with
                  | false => rfl
                  | true => cases x10 with
                    | false => rfl
                    | true => cases x11 with
                      | false => rfl
                      | true => cases h
/-- When the digits are right: what the clock says. -/
theorem clk_of {g : Nat → Int} (hb : ∀ j, 0 ≤ g j ∧ g j < 256) (h : cDg g = true) : clkG g = (!decide (tw2 (g 12) > 23) && (!decide (tw2 (g 13) > 59) && !decide (tw2 (g 14) > 59))) := by
  obtain ⟨⟨d1, d2, d3, d4⟩, ⟨h1, h2, h3⟩, ⟨m1, m2, m3⟩, s1, s2, s3⟩ := nums_t hb h
  unfold clkG
  rw [d1, h1, m1, s1, d2, h2, m2, s2]
  unfold fairV
  rw [dT (show dayR g ≥ 0 by omega), dT (show dayR g ≤ 99999 by omega), dT (show tw2 (g 12) ≥ 0 by omega), dT (show tw2 (g 13) ≥ 0 by omega), dT (show tw2 (g 14) ≥ 0 by omega)]
  have e : ∀ (x y : Int), decide (x ≤ y) = !decide (x > y) := fun x y => by
    by_cases hx : x ≤ y
    · rw [dT hx, dF (by omega)]; rfl
    · rw [dF hx, dT (by omega)]; rfl
  rw [e (tw2 (g 12)) 23, e (tw2 (g 13)) 59, e (tw2 (g 14)) 59]
  cases decide (tw2 (g 12) > 23) <;> cases decide (tw2 (g 13) > 59) <;> cases decide (tw2 (g 14) > 59) <;> rfl
theorem mag_all : ∀ x < 16, ∀ y < 16, magOf (oI (shrv .i64 (Int.ofNat x) 3) (shlv .i64 (shrv .i64 (Int.ofNat y) 2) 1)) = (bif bits .xor .i64 ((0 : Int).tmod 8) (oI (shrv .i64 (Int.ofNat x) 3) (shlv .i64 (shrv .i64 (Int.ofNat y) 2) 1)) == 0 then 8 else bits .xor .i64 ((0 : Int).tmod 8) (oI (shrv .i64 (Int.ofNat x) 3) (shlv .i64 (shrv .i64 (Int.ofNat y) 2) 1))) := by decide +kernel
theorem getN_nat (b : Int) : ∃ m, m < 16 ∧ getN b = Int.ofNat m := by
  unfold getN
  cases h : get b with
  | none => exact ⟨0, by decide, rfl⟩
  | some n =>
    have := List.mem_of_find?_eq_some h
    rw [List.mem_range] at this
    exact ⟨n, this, rfl⟩
theorem place_of (ds : List Int) (h : all6 ds = true) : plA (gD ds) = mgV ds ∧ plB (gD ds) = pgV ds ∧ plC (gD ds) = sbV ds := by
  have h6 : ls.A6 (gD ds 0) (gD ds 1) (gD ds 2) (gD ds 3) (gD ds 4) (gD ds 5) = true := h
  refine ⟨?_, ?_, ?_⟩
  · unfold plA
    rw [h6]
    obtain ⟨x, hx, ex⟩ := getN_nat (ds.getD 3 0)
    obtain ⟨y, hy, ey⟩ := getN_nat (ds.getD 5 0)
    have := mag_all x hx y hy
    rw [← ex, ← ey] at this
    exact this.symm
  · unfold plB
    rw [h6]
    exact oI_comm _ _
  · unfold plC
    rw [h6]
    rfl
end Go.Proofs.YthjdlanmfiofdaaDoor.sv

namespace Go.Proofs.YthjdlanmfiofdaaDoor.sv
open Go Go.Nx Go.Proofs.YthjdlanmfiofdaaDoor.pk Go.Proofs.YthjdlanmfiofdaaDoor.ln Go.Proofs.YthjdlanmfiofdaaDoor.hd Go.Proofs.YthjdlanmfiofdaaDoor.lb

theorem box_road {t : Tr Out} {R : Out → Prop} (bs : List (Option Bool)) (h : Box ((t.follow bs).run R)) : Box (t.run R) := ⟨Tr.follow_run t bs h.out⟩
theorem box_ds {w c : Int} {X ds : List Int} {R : Out → Prop} (e : X = ds) (h : Box ((t_rinfo [.ag [.i .i64 8, .i .i64 w, .i .i64 7, .i .i64 c, .l .u8 X]] []).run R)) : Box ((t_rinfo [.ag [.i .i64 8, .i .i64 w, .i .i64 7, .i .i64 c, .l .u8 ds]] []).run R) := by
  subst e
  exact h
theorem mdg (ds : List Int) : mDg11 (gD ds) := ⟨rfl, rfl, by decide, by decide, by decide⟩
noncomputable def oRY (ds : List Int) (of : Int) : Out := ⟨.tu [.ag (infC (mgV ds) (pgV ds) (sbV ds) (nwV ds) of (dyV ds) (hrV ds) (miV ds) (seV ds) (txV ds)), .c (.i .i64 0)], []⟩
theorem out_eq {ds : List Int} (hb : ∀ j, 0 ≤ gD ds j ∧ gD ds j < 256) (h6 : all6 ds = true) (hd : cDg (gD ds) = true) (of : Int) : oRI (gD ds) of = oRY ds of := by
  obtain ⟨⟨_, d2, _⟩, ⟨_, h2, _⟩, ⟨_, m2, _⟩, _, s2, _⟩ := nums_t hb hd
  obtain ⟨p1, p2, p3⟩ := place_of ds h6
  have e1 : dyV ds = dayR (gD ds) := d2
  have e2 : hrV ds = tw2 (gD ds 12) := h2
  have e3 : miV ds = tw2 (gD ds 13) := m2
  have e4 : seV ds = tw2 (gD ds 14) := s2
  unfold oRI oRY
  rw [p1, p2, p3, e1, e2, e3, e4]
  rfl
set_option maxRecDepth 100000 in
theorem rin_sg {w c : Int} {ds : List Int} {R : Out → Prop} (sg : Bool) (s2 : cSg (gD ds) = sg) (gb : ∀ j, 0 ≤ gD ds j ∧ gD ds j < 256) (s0 : decide (c > 1) = false) (s1 : all6 ds = true) (h : sel (clkG (gD ds)) (R (oRY ds (bif sg then w64 (0 - of0 (gD ds)) else of0 (gD ds)))) (R (oRX 101))) : Box ((t_rinfo [.ag [.i .i64 8, .i .i64 w, .i .i64 7, .i .i64 c, .l .u8 ((List.range 39).map (gD ds))]] []).run R) := by
  cases s3 : cDg (gD ds) with
  | false =>
    rw [nums_f gb s3] at h
    have h : R (oRX 101) := h
    cases sg with
    | true => exact box_road sc_dgT (Box.of_eq (ri_dgT w c (gD ds) R) ⟨rfl, rfl, rfl, rfl, rfl, rfl, rfl, rfl, s0, rfl, rfl, rfl, rfl, rfl, rfl, rfl, s1, rfl, rfl, rfl, rfl, rfl, rfl, (gb 6), rfl, rfl, rfl, rfl, (gb 7), rfl, rfl, rfl, rfl, rfl, rfl, rfl, rfl, s2, rfl, rfl, rfl, rfl, rfl, rfl, rfl, rfl, rfl, rfl, rfl, rfl, rfl, rfl, rfl, rfl, rfl, rfl, rfl, rfl, rfl, rfl, rfl, rfl, rfl, rfl, rfl, rfl, rfl, rfl, rfl, rfl, rfl, rfl, rfl, rfl, rfl, rfl, rfl, rfl, rfl, rfl, rfl, rfl, rfl, rfl, rfl, rfl, rfl, rfl, rfl, rfl, rfl, rfl, rfl, rfl, rfl, rfl, rfl, rfl, rfl, rfl, rfl, rfl, (mdg ds), s3, h⟩)
    | false => exact box_road sc_dgF (Box.of_eq (ri_dgF w c (gD ds) R) ⟨rfl, rfl, rfl, rfl, rfl, rfl, rfl, rfl, s0, rfl, rfl, rfl, rfl, rfl, rfl, rfl, s1, rfl, rfl, rfl, rfl, rfl, rfl, (gb 6), rfl, rfl, rfl, rfl, (gb 7), rfl, rfl, rfl, rfl, rfl, rfl, rfl, rfl, s2, rfl, rfl, rfl, rfl, rfl, rfl, rfl, rfl, rfl, rfl, rfl, rfl, rfl, rfl, rfl, rfl, rfl, rfl, rfl, rfl, rfl, rfl, rfl, rfl, rfl, rfl, rfl, rfl, rfl, rfl, rfl, rfl, rfl, rfl, rfl, rfl, rfl, rfl, rfl, rfl, rfl, rfl, rfl, rfl, rfl, rfl, rfl, rfl, rfl, rfl, rfl, rfl, rfl, rfl, rfl, rfl, rfl, rfl, rfl, rfl, rfl, rfl, rfl, rfl, (mdg ds), s3, h⟩)
  | true =>
    rw [clk_of gb s3] at h
    cases s4 : decide (tw2 (gD ds 12) > 23) with
    | true =>
      rw [s4] at h
      have h : R (oRX 101) := h
      cases sg with
      | true => exact box_road sc_hrT (Box.of_eq (ri_hrT w c (gD ds) R) ⟨rfl, rfl, rfl, rfl, rfl, rfl, rfl, rfl, s0, rfl, rfl, rfl, rfl, rfl, rfl, rfl, s1, rfl, rfl, rfl, rfl, rfl, rfl, (gb 6), rfl, rfl, rfl, rfl, (gb 7), rfl, rfl, rfl, rfl, rfl, rfl, rfl, rfl, s2, rfl, rfl, rfl, rfl, rfl, rfl, rfl, rfl, rfl, rfl, rfl, rfl, rfl, rfl, rfl, rfl, rfl, rfl, rfl, rfl, rfl, rfl, rfl, rfl, rfl, rfl, rfl, rfl, rfl, rfl, rfl, rfl, rfl, rfl, rfl, rfl, rfl, rfl, rfl, rfl, rfl, rfl, rfl, rfl, rfl, rfl, rfl, rfl, rfl, rfl, rfl, rfl, rfl, rfl, rfl, rfl, rfl, rfl, rfl, rfl, rfl, rfl, rfl, rfl, (mdg ds), s3, rfl, rfl, rfl, rfl, rfl, rfl, rfl, rfl, rfl, rfl, rfl, rfl, rfl, rfl, rfl, rfl, rfl, rfl, rfl, rfl, rfl, rfl, rfl, rfl, rfl, rfl, rfl, rfl, rfl, rfl, rfl, rfl, rfl, s4, h⟩)
      | false => exact box_road sc_hrF (Box.of_eq (ri_hrF w c (gD ds) R) ⟨rfl, rfl, rfl, rfl, rfl, rfl, rfl, rfl, s0, rfl, rfl, rfl, rfl, rfl, rfl, rfl, s1, rfl, rfl, rfl, rfl, rfl, rfl, (gb 6), rfl, rfl, rfl, rfl, (gb 7), rfl, rfl, rfl, rfl, rfl, rfl, rfl, rfl, s2, rfl, rfl, rfl, rfl, rfl, rfl, rfl, rfl, rfl, rfl, rfl, rfl, rfl, rfl, rfl, rfl, rfl, rfl, rfl, rfl, rfl, rfl, rfl, rfl, rfl, rfl, rfl, rfl, rfl, rfl, rfl, rfl, rfl, rfl, rfl, rfl, rfl, rfl, rfl, rfl, rfl, rfl, rfl, rfl, rfl, rfl, rfl, rfl, rfl, rfl, rfl, rfl, rfl, rfl, rfl, rfl, rfl, rfl, rfl, rfl, rfl, rfl, rfl, rfl, (mdg ds), s3, rfl, rfl, rfl, rfl, rfl, rfl, rfl, rfl, rfl, rfl, rfl, rfl, rfl, rfl, rfl, rfl, rfl, rfl, rfl, rfl, rfl, rfl, rfl, rfl, rfl, rfl, rfl, rfl, rfl, rfl, rfl, rfl, rfl, s4, h⟩)
    | false =>
      rw [s4] at h
      cases s5 : decide (tw2 (gD ds 13) > 59) with
      | true =>
        rw [s5] at h
        have h : R (oRX 101) := h
        cases sg with
        | true => exact box_road sc_miT (Box.of_eq (ri_miT w c (gD ds) R) ⟨rfl, rfl, rfl, rfl, rfl, rfl, rfl, rfl, s0, rfl, rfl, rfl, rfl, rfl, rfl, rfl, s1, rfl, rfl, rfl, rfl, rfl, rfl, (gb 6), rfl, rfl, rfl, rfl, (gb 7), rfl, rfl, rfl, rfl, rfl, rfl, rfl, rfl, s2, rfl, rfl, rfl, rfl, rfl, rfl, rfl, rfl, rfl, rfl, rfl, rfl, rfl, rfl, rfl, rfl, rfl, rfl, rfl, rfl, rfl, rfl, rfl, rfl, rfl, rfl, rfl, rfl, rfl, rfl, rfl, rfl, rfl, rfl, rfl, rfl, rfl, rfl, rfl, rfl, rfl, rfl, rfl, rfl, rfl, rfl, rfl, rfl, rfl, rfl, rfl, rfl, rfl, rfl, rfl, rfl, rfl, rfl, rfl, rfl, rfl, rfl, rfl, rfl, (mdg ds), s3, rfl, rfl, rfl, rfl, rfl, rfl, rfl, rfl, rfl, rfl, rfl, rfl, rfl, rfl, rfl, rfl, rfl, rfl, rfl, rfl, rfl, rfl, rfl, rfl, rfl, rfl, rfl, rfl, rfl, rfl, rfl, rfl, rfl, s4, rfl, rfl, rfl, s5, h⟩)
        | false => exact box_road sc_miF (Box.of_eq (ri_miF w c (gD ds) R) ⟨rfl, rfl, rfl, rfl, rfl, rfl, rfl, rfl, s0, rfl, rfl, rfl, rfl, rfl, rfl, rfl, s1, rfl, rfl, rfl, rfl, rfl, rfl, (gb 6), rfl, rfl, rfl, rfl, (gb 7), rfl, rfl, rfl, rfl, rfl, rfl, rfl, rfl, s2, rfl, rfl, rfl, rfl, rfl, rfl, rfl, rfl, rfl, rfl, rfl, rfl, rfl, rfl, rfl, rfl, rfl, rfl, rfl, rfl, rfl, rfl, rfl, rfl, rfl, rfl, rfl, rfl, rfl, rfl, rfl, rfl, rfl, rfl, rfl, rfl, rfl, rfl, rfl, rfl, rfl, rfl, rfl, rfl, rfl, rfl, rfl, rfl, rfl, rfl, rfl, rfl, rfl, rfl, rfl, rfl, rfl, rfl, rfl, rfl, rfl, rfl, rfl, rfl, (mdg ds), s3, rfl, rfl, rfl, rfl, rfl, rfl, rfl, rfl, rfl, rfl, rfl, rfl, rfl, rfl, rfl, rfl, rfl, rfl, rfl, rfl, rfl, rfl, rfl, rfl, rfl, rfl, rfl, rfl, rfl, rfl, rfl, rfl, rfl, s4, rfl, rfl, rfl, s5, h⟩)
      | false =>
        rw [s5] at h
        cases s6 : decide (tw2 (gD ds 14) > 59) with
        | true =>
          rw [s6] at h
          have h : R (oRX 101) := h
          cases sg with
          | true => exact box_road sc_seT (Box.of_eq (ri_seT w c (gD ds) R) ⟨rfl, rfl, rfl, rfl, rfl, rfl, rfl, rfl, s0, rfl, rfl, rfl, rfl, rfl, rfl, rfl, s1, rfl, rfl, rfl, rfl, rfl, rfl, (gb 6), rfl, rfl, rfl, rfl, (gb 7), rfl, rfl, rfl, rfl, rfl, rfl, rfl, rfl, s2, rfl, rfl, rfl, rfl, rfl, rfl, rfl, rfl, rfl, rfl, rfl, rfl, rfl, rfl, rfl, rfl, rfl, rfl, rfl, rfl, rfl, rfl, rfl, rfl, rfl, rfl, rfl, rfl, rfl, rfl, rfl, rfl, rfl, rfl, rfl, rfl, rfl, rfl, rfl, rfl, rfl, rfl, rfl, rfl, rfl, rfl, rfl, rfl, rfl, rfl, rfl, rfl, rfl, rfl, rfl, rfl, rfl, rfl, rfl, rfl, rfl, rfl, rfl, rfl, (mdg ds), s3, rfl, rfl, rfl, rfl, rfl, rfl, rfl, rfl, rfl, rfl, rfl, rfl, rfl, rfl, rfl, rfl, rfl, rfl, rfl, rfl, rfl, rfl, rfl, rfl, rfl, rfl, rfl, rfl, rfl, rfl, rfl, rfl, rfl, s4, rfl, rfl, rfl, s5, rfl, rfl, rfl, s6, h⟩)
          | false => exact box_road sc_seF (Box.of_eq (ri_seF w c (gD ds) R) ⟨rfl, rfl, rfl, rfl, rfl, rfl, rfl, rfl, s0, rfl, rfl, rfl, rfl, rfl, rfl, rfl, s1, rfl, rfl, rfl, rfl, rfl, rfl, (gb 6), rfl, rfl, rfl, rfl, (gb 7), rfl, rfl, rfl, rfl, rfl, rfl, rfl, rfl, s2, rfl, rfl, rfl, rfl, rfl, rfl, rfl, rfl, rfl, rfl, rfl, rfl, rfl, rfl, rfl, rfl, rfl, rfl, rfl, rfl, rfl, rfl, rfl, rfl, rfl, rfl, rfl, rfl, rfl, rfl, rfl, rfl, rfl, rfl, rfl, rfl, rfl, rfl, rfl, rfl, rfl, rfl, rfl, rfl, rfl, rfl, rfl, rfl, rfl, rfl, rfl, rfl, rfl, rfl, rfl, rfl, rfl, rfl, rfl, rfl, rfl, rfl, rfl, rfl, (mdg ds), s3, rfl, rfl, rfl, rfl, rfl, rfl, rfl, rfl, rfl, rfl, rfl, rfl, rfl, rfl, rfl, rfl, rfl, rfl, rfl, rfl, rfl, rfl, rfl, rfl, rfl, rfl, rfl, rfl, rfl, rfl, rfl, rfl, rfl, s4, rfl, rfl, rfl, s5, rfl, rfl, rfl, s6, h⟩)
        | false =>
          rw [s6] at h
          have h : R (oRY ds (bif sg then w64 (0 - of0 (gD ds)) else of0 (gD ds))) := h
          rw [← out_eq gb s1 s3] at h
          cases sg with
          | true => exact box_road sc_fineT (Box.of_eq (ri_fineT w c (gD ds) R) ⟨rfl, rfl, rfl, rfl, rfl, rfl, rfl, rfl, s0, rfl, rfl, rfl, rfl, rfl, rfl, rfl, s1, rfl, rfl, rfl, rfl, rfl, rfl, (gb 6), rfl, rfl, rfl, rfl, (gb 7), rfl, rfl, rfl, rfl, rfl, rfl, rfl, rfl, s2, rfl, rfl, rfl, rfl, rfl, rfl, rfl, rfl, rfl, rfl, rfl, rfl, rfl, rfl, rfl, rfl, rfl, rfl, rfl, rfl, rfl, rfl, rfl, rfl, rfl, rfl, rfl, rfl, rfl, rfl, rfl, rfl, rfl, rfl, rfl, rfl, rfl, rfl, rfl, rfl, rfl, rfl, rfl, rfl, rfl, rfl, rfl, rfl, rfl, rfl, rfl, rfl, rfl, rfl, rfl, rfl, rfl, rfl, rfl, rfl, rfl, rfl, rfl, rfl, (mdg ds), s3, rfl, rfl, rfl, rfl, rfl, rfl, rfl, rfl, rfl, rfl, rfl, rfl, rfl, rfl, rfl, rfl, rfl, rfl, rfl, rfl, rfl, rfl, rfl, rfl, rfl, rfl, rfl, rfl, rfl, rfl, rfl, rfl, rfl, s4, rfl, rfl, rfl, s5, rfl, rfl, rfl, s6, rfl, rfl, rfl, rfl, (gb 19), rfl, rfl, rfl, rfl, rfl, rfl, rfl, rfl, (gb 20), rfl, rfl, rfl, rfl, rfl, rfl, rfl, rfl, (gb 21), rfl, rfl, rfl, rfl, rfl, rfl, rfl, rfl, (gb 22), rfl, rfl, rfl, rfl, rfl, rfl, rfl, rfl, (gb 23), rfl, rfl, rfl, rfl, rfl, rfl, rfl, rfl, (gb 24), rfl, rfl, rfl, rfl, rfl, rfl, rfl, rfl, (gb 25), rfl, rfl, rfl, rfl, rfl, rfl, rfl, rfl, (gb 26), rfl, rfl, rfl, rfl, rfl, rfl, rfl, rfl, (gb 27), rfl, rfl, rfl, rfl, rfl, rfl, rfl, rfl, (gb 28), rfl, rfl, rfl, rfl, rfl, rfl, rfl, rfl, (gb 29), rfl, rfl, rfl, rfl, rfl, rfl, rfl, rfl, (gb 30), rfl, rfl, rfl, rfl, rfl, rfl, rfl, rfl, (gb 31), rfl, rfl, rfl, rfl, rfl, rfl, rfl, rfl, (gb 32), rfl, rfl, rfl, rfl, rfl, rfl, rfl, rfl, (gb 33), rfl, rfl, rfl, rfl, rfl, rfl, rfl, rfl, (gb 34), rfl, rfl, rfl, rfl, rfl, rfl, rfl, rfl, (gb 35), rfl, rfl, rfl, rfl, rfl, rfl, rfl, rfl, (gb 36), rfl, rfl, rfl, rfl, rfl, rfl, rfl, rfl, (gb 37), rfl, rfl, rfl, rfl, rfl, rfl, rfl, rfl, (gb 38), h⟩)
          | false => exact box_road sc_fineF (Box.of_eq (ri_fineF w c (gD ds) R) ⟨rfl, rfl, rfl, rfl, rfl, rfl, rfl, rfl, s0, rfl, rfl, rfl, rfl, rfl, rfl, rfl, s1, rfl, rfl, rfl, rfl, rfl, rfl, (gb 6), rfl, rfl, rfl, rfl, (gb 7), rfl, rfl, rfl, rfl, rfl, rfl, rfl, rfl, s2, rfl, rfl, rfl, rfl, rfl, rfl, rfl, rfl, rfl, rfl, rfl, rfl, rfl, rfl, rfl, rfl, rfl, rfl, rfl, rfl, rfl, rfl, rfl, rfl, rfl, rfl, rfl, rfl, rfl, rfl, rfl, rfl, rfl, rfl, rfl, rfl, rfl, rfl, rfl, rfl, rfl, rfl, rfl, rfl, rfl, rfl, rfl, rfl, rfl, rfl, rfl, rfl, rfl, rfl, rfl, rfl, rfl, rfl, rfl, rfl, rfl, rfl, rfl, rfl, (mdg ds), s3, rfl, rfl, rfl, rfl, rfl, rfl, rfl, rfl, rfl, rfl, rfl, rfl, rfl, rfl, rfl, rfl, rfl, rfl, rfl, rfl, rfl, rfl, rfl, rfl, rfl, rfl, rfl, rfl, rfl, rfl, rfl, rfl, rfl, s4, rfl, rfl, rfl, s5, rfl, rfl, rfl, s6, rfl, rfl, rfl, rfl, (gb 19), rfl, rfl, rfl, rfl, rfl, rfl, rfl, rfl, (gb 20), rfl, rfl, rfl, rfl, rfl, rfl, rfl, rfl, (gb 21), rfl, rfl, rfl, rfl, rfl, rfl, rfl, rfl, (gb 22), rfl, rfl, rfl, rfl, rfl, rfl, rfl, rfl, (gb 23), rfl, rfl, rfl, rfl, rfl, rfl, rfl, rfl, (gb 24), rfl, rfl, rfl, rfl, rfl, rfl, rfl, rfl, (gb 25), rfl, rfl, rfl, rfl, rfl, rfl, rfl, rfl, (gb 26), rfl, rfl, rfl, rfl, rfl, rfl, rfl, rfl, (gb 27), rfl, rfl, rfl, rfl, rfl, rfl, rfl, rfl, (gb 28), rfl, rfl, rfl, rfl, rfl, rfl, rfl, rfl, (gb 29), rfl, rfl, rfl, rfl, rfl, rfl, rfl, rfl, (gb 30), rfl, rfl, rfl, rfl, rfl, rfl, rfl, rfl, (gb 31), rfl, rfl, rfl, rfl, rfl, rfl, rfl, rfl, (gb 32), rfl, rfl, rfl, rfl, rfl, rfl, rfl, rfl, (gb 33), rfl, rfl, rfl, rfl, rfl, rfl, rfl, rfl, (gb 34), rfl, rfl, rfl, rfl, rfl, rfl, rfl, rfl, (gb 35), rfl, rfl, rfl, rfl, rfl, rfl, rfl, rfl, (gb 36), rfl, rfl, rfl, rfl, rfl, rfl, rfl, rfl, (gb 37), rfl, rfl, rfl, rfl, rfl, rfl, rfl, rfl, (gb 38), h⟩)
theorem rin_nib {w c : Int} {ds : List Int} {R : Out → Prop} (s0 : decide (c > 1) = false) (s1 : all6 ds = false) (h : R (oRX 103)) : Box ((t_rinfo [.ag [.i .i64 8, .i .i64 w, .i .i64 7, .i .i64 c, .l .u8 ((List.range 39).map (gD ds))]] []).run R) := box_road sc_nib (Box.of_eq (ri_nib w c (gD ds) R) ⟨rfl, rfl, rfl, rfl, rfl, rfl, rfl, rfl, s0, rfl, rfl, rfl, rfl, rfl, rfl, rfl, s1, h⟩)
noncomputable def tRin : Con := fun args regs => match args, regs with
  | [.ag [.i .i64 m, .i .i64 _, .i .i64 k, .i .i64 c, .l .u8 ds]], [] => .must (0 ≤ c ∧ (okK m k c = true → ds.length = 39 ∧ ∀ x ∈ ds, 0 ≤ x ∧ x < 256)) (.br (okK m k c) (.br (all6 ds) (.br (clkG (gD ds)) (.ret (oRY ds (ofS ds))) (.ret (oRX 101))) (.ret (oRX 103))) (.ret (oRX 104)))
  | _, _ => .fail
theorem rin_ok {w c : Int} {ds : List Int} {R : Out → Prop} (hc : c = 0 ∨ c = 1) (hl : ds.length = 39) (hb : ∀ x ∈ ds, 0 ≤ x ∧ x < 256) (h : sel (all6 ds) (sel (clkG (gD ds)) (R (oRY ds (ofS ds))) (R (oRX 101))) (R (oRX 103))) : Box ((t_rinfo [.ag [.i .i64 8, .i .i64 w, .i .i64 7, .i .i64 c, .l .u8 ds]] []).run R) := by
  have gb : ∀ j, 0 ≤ gD ds j ∧ gD ds j < 256 := fun j => get_in hb j
  have s0 : decide (c > 1) = false := dF (by omega)
  refine box_ds (X := (List.range 39).map (gD ds)) (range_n hl).symm ?_
  cases s1 : all6 ds with
  | false => rw [s1] at h; exact rin_nib s0 s1 h
  | true =>
    rw [s1] at h
    refine rin_sg (cSg (gD ds)) rfl gb s0 s1 ?_
    have n8 := nib_of (gb 8)
    have e1 : cSg (gD ds) = sgV ds := by
      unfold cSg sgV
      rw [n8.2.2.1]
      rfl
    have e2 : of0 (gD ds) = ofV ds := n8.2.2.2
    have e3 : (bif cSg (gD ds) then w64 (0 - of0 (gD ds)) else of0 (gD ds)) = ofS ds := by
      rw [e1, e2]
      rfl
    rw [e3]
    exact h
theorem rin_in {m w k c : Int} {ds : List Int} {R : Out → Prop} (hm : 0 ≤ c ∧ (okK m k c = true → ds.length = 39 ∧ ∀ x ∈ ds, 0 ≤ x ∧ x < 256)) (h : sel (okK m k c) (sel (all6 ds) (sel (clkG (gD ds)) (R (oRY ds (ofS ds))) (R (oRX 101))) (R (oRX 103))) (R (oRX 104))) : Box ((t_rinfo [.ag [.i .i64 m, .i .i64 w, .i .i64 k, .i .i64 c, .l .u8 ds]] []).run R) := by
  by_cases hk : k = 7
  · by_cases h8 : m = 8
    · by_cases hc : c = 0 ∨ c = 1
      · subst hk
        subst h8
        have ho : okK 8 7 c = true := by rcases hc with rfl | rfl <;> rfl
        rw [ho] at h
        exact rin_ok hc (hm.2 ho).1 (hm.2 ho).2 h
      · have ho : okK m k c = false := by
          unfold okK
          rw [show (c == 0) = false by rw [beq_eq_false_iff_ne]; omega, show (c == 1) = false by rw [beq_eq_false_iff_ne]; omega]
          simp
        rw [ho] at h
        exact box_road [some false, some false, some false, some false, some false, some false, some false, some false, some true] (Box.of_eq (ri_c m w k c ds R) ⟨by simp [bne, hk], rfl, rfl, rfl, by simp [bne, h8], rfl, rfl, rfl, dT (by omega), h⟩)
    · have ho : okK m k c = false := by
        unfold okK
        rw [show (m == 8) = false by rw [beq_eq_false_iff_ne]; exact h8]
        simp
      rw [ho] at h
      exact box_road [some false, some false, some false, some false, some true] (Box.of_eq (ri_m m w k c ds R) ⟨by simp [bne, hk], rfl, rfl, rfl, by rw [bne_iff_ne]; exact h8, h⟩)
  · have ho : okK m k c = false := by
      unfold okK
      rw [show (k == 7) = false by rw [beq_eq_false_iff_ne]; exact hk]
      rfl
    rw [ho] at h
    exact box_road [some true] (Box.of_eq (ri_k m w k c ds R) ⟨by rw [bne_iff_ne]; exact hk, h⟩)
set_option maxRecDepth 100000 in
theorem kRin : Known Tryd.prog GL 50 tRin := by
  refine k_rinfo.less fun args regs R h => Box.out ?_
  unfold tRin at h
  split at h
  case h_2 => exact h.elim
  exact rin_in h.1 h.2
end Go.Proofs.YthjdlanmfiofdaaDoor.sv

namespace Go.Proofs.YthjdlanmfiofdaaDoor.sv
open Go Go.Nx Go.Proofs.YthjdlanmfiofdaaDoor.pk Go.Proofs.YthjdlanmfiofdaaDoor.ln Go.Proofs.YthjdlanmfiofdaaDoor.hd Go.Proofs.YthjdlanmfiofdaaDoor.lb

noncomputable def raB (bs : List Int) : Int := rowOf (getN (bs.getD 0 0)) (getN (bs.getD 1 0))
noncomputable def gaB (bs : List Int) : Bool := getB (bs.getD 0 0) && getB (bs.getD 1 0)
noncomputable def gcB (bs : List Int) : Bool := getB ((bs.drop 2).getD 0 0)
noncomputable def ncB (bs : List Int) : Int := getN ((bs.drop 2).getD 0 0)
noncomputable def mgB (bs : List Int) : Int := magOf (getN (bs.getD 0 0))
/-- What bytes are: no packet, of no kind, a coded packet, another packet. -/
noncomputable def clsV (bs : List Int) : Nat := bif gaB bs then (bif decide (kindF (raB bs) = 0) then 1 else bif decide (raB bs ≥ 26) then (bif gcB bs then 2 else 0) else 3) else 0
def l39 (bs : List Int) : List Int := (List.range 39).map fun i => bs.getD (3 + i) 0
theorem l39_eq (bs : List Int) (h : bs.length = 42) : (bs.drop 2).drop 1 = l39 bs := by
  rw [List.drop_drop]
  refine List.ext_getElem? fun j => ?_
  unfold l39
  rw [List.getElem?_drop, List.getElem?_map]
  by_cases hj : j < 39
  · rw [List.getElem?_range hj, Option.map_some, List.getD_eq_getElem?_getD, List.getElem?_eq_getElem (show 2 + 1 + j < bs.length by omega)]
    rfl
  · rw [List.getElem?_eq_none (by omega), List.getElem?_eq_none (by rw [List.length_range]; omega)]
    rfl
noncomputable def outV (bs : List Int) : Nat → Out
  | 0 => oPE 1
  | 1 => oPE 2
  | 2 => oPk (mgB bs) (raB bs) (kindF (raB bs)) (ncB bs) (l39 bs)
  | _ => oPk (mgB bs) (raB bs) (kindF (raB bs)) 0 (bs.drop 2)
noncomputable def tRdC (j : Nat) : Con := fun args regs => match args, regs with
  | [.c (.l .u8 bs)], [] => .must (bs.length = 42 ∧ clsV bs = j) (.ret (outV bs j))
  | _, _ => .fail
theorem readV_in {bs : List Int} {j : Nat} {R : Out → Prop} (hl : bs.length = 42) (hc : clsV bs = j) (h : R (outV bs j)) : (bodyT (bs.getD 0 0) (bs.getD 1 0) (bs.drop 2)).run R := by
  unfold clsV at hc
  show sel (gaB bs) (sel (decide (kindF (raB bs) = 0)) (R (oPE 2)) (sel (decide (raB bs ≥ 26)) (sel (gcB bs) (R (oPk (mgB bs) (raB bs) (kindF (raB bs)) (ncB bs) ((bs.drop 2).drop 1))) (R (oPE 1))) (R (oPk (mgB bs) (raB bs) (kindF (raB bs)) 0 (bs.drop 2))))) (R (oPE 1))
  cases h1 : gaB bs with
  | false =>
    rw [h1] at hc
    subst hc
    exact selF rfl h
  | true =>
    rw [h1] at hc
    refine selT rfl ?_
    cases h2 : decide (kindF (raB bs) = 0) with
    | true =>
      rw [h2] at hc
      subst hc
      exact selT rfl h
    | false =>
      rw [h2] at hc
      refine selF rfl ?_
      cases h3 : decide (raB bs ≥ 26) with
      | false =>
        rw [h3] at hc
        subst hc
        exact selF rfl h
      | true =>
        rw [h3] at hc
        refine selT rfl ?_
        cases h4 : gcB bs with
        | false =>
          rw [h4] at hc
          subst hc
          exact selF rfl h
        | true =>
          rw [h4] at hc
          subst hc
          rw [l39_eq bs hl]
          exact selT rfl h
set_option maxRecDepth 100000 in
theorem kRdC (j : Nat) : Known Tryd.prog GL 15 (tRdC j) := by
  refine kRead.less fun args regs R h => ?_
  unfold tRdC at h
  split at h
  case h_2 => exact h.elim
  have h1 := h.1
  have h2 := h.2
  clear h
  exact selT (dT h1.1) (readV_in h1.1 h1.2 h2)
/-- Bytes that are the same, both or none. -/
noncomputable def tSameN : Con := fun args regs => match args, regs with
  | [.c (.l .u8 xs), .c (.l .u8 ys)], [] => .must (xs = ys ∧ xs.length ≤ 1000000) (.ret (oB true))
  | [.c .sn, .c .sn], [] => .ret (oB true)
  | _, _ => .fail
set_option maxRecDepth 100000 in
theorem kSameN : Known Tryd.prog GL 23 tSameN := by
  refine kg_same.less fun args regs R h => ?_
  unfold tSameN at h
  split at h
  case h_3 => exact h.elim
  case h_1 xs ys =>
    have h1 := h.1
    have h2 : R (oB true) := h.2
    clear h
    obtain ⟨rfl, hl⟩ := h1
    refine ⟨hl, ?_⟩
    show R (oB (xs == xs))
    rw [beq_self_eq_true]
    exact h2
  case h_2 => exact ⟨by decide, h⟩
noncomputable def t_sother : Con := fun args regs => nfun Tryd.prog GL (fun _ => Option.none) [] Tryd.f51 args regs
theorem k_sother : Known Tryd.prog GL 51 t_sother := known_inl Tryd.func51 rfl (by kernel_rfl) mixed con_none (by kernel_rfl)
noncomputable def c_says (j : Nat) : FuncId → Option Con := conOf [(48, tYes), (15, (tRdC j)), (49, tSrd), (51, t_sother), (50, tRin), (19, t_is), (52, tSame), (53, tSbt), (55, t_plain), (54, tRib), (23, tSameN)]
theorem kc_says (j : Nat) : ∀ f T, (c_says j) f = some T → Known Tryd.prog GL f T := (Knowns.cons kYes (.cons (kRdC j) (.cons kSrd (.cons k_sother (.cons kRin (.cons k_is (.cons kSame (.cons kSbt (.cons k_plain (.cons kRib (.cons kSameN .nil))))))))))).get
noncomputable def t_says (j : Nat) : Con := fun args regs => nfun Tryd.prog GL (c_says j) [] Tryd.f11 args regs
theorem k_says (j : Nat) : Known Tryd.prog GL 11 (t_says j) := known_inl Tryd.func11 rfl (by kernel_rfl) mixed (kc_says j) (by kernel_rfl)
noncomputable def c42 (L : List Int) : List Int := List.take 42 (List.drop 0 L)
noncomputable def tailV (a b e n o d h mi s : Int) (z : ByteArray) (R : Out → Prop) : Prop :=
  sel (okBt a b e n o d h mi s z) (sel (okIb a b e n o d h mi s z) ((c42 (LB (decide (o < 0)) a b e n o d h mi s z) = c42 (LR (decide (o < 0)) a b e n o d h mi s z) ∧ (c42 (LB (decide (o < 0)) a b e n o d h mi s z)).length ≤ 1000000) ∧ R (oB true)) (R (oB false)))
    (sel (okIb a b e n o d h mi s z) (R (oB false)) (R (oB true)))
noncomputable def zeroC : List NC := infC 0 0 0 0 0 0 0 0 0 ⟨#[]⟩
def isInf (xs : List NC) : Prop := ∃ (a b e n o d h m s : Int) (z : ByteArray), xs = infC a b e n o d h m s z
noncomputable def infY (ds : List Int) : List NC := infC (mgV ds) (pgV ds) (sbV ds) (nwV ds) (ofS ds) (dyV ds) (hrV ds) (miV ds) (seV ds) (txV ds)
def byV (d : List Int) : Prop := ∀ x ∈ d, 0 ≤ x ∧ x < 256
def mS1 (m k c : Int) (d : List Int) : Prop := okK m k c = true → d.length = 39 ∧ byV d
def mS2 (m k c : Int) (d : List Int) : Prop := 0 ≤ c ∧ (okK m k c = true → d.length = 39 ∧ byV d)
noncomputable def refV (m k c : Int) (d : List Int) (A B C D : Prop) : Prop := sel (okK m k c) (sel (all6 d) (sel (clkG (gD d)) A B) C) D
noncomputable def midV (C : Prop → Prop) (m k c : Int) (d : List Int) (T : Prop) (R : Out → Prop) : Prop :=
  C (mS1 m k c d ∧ refV m k c d
    (C (mS2 m k c d ∧ refV m k c d ((infY d = infY d ∧ isInf (infY d)) ∧ T) (R (oB false)) (R (oB false)) (R (oB false))))
    (C (mS2 m k c d ∧ refV m k c d (R (oB false)) ((zeroC = zeroC ∧ isInf zeroC) ∧ T) (R (oB false)) (R (oB false))))
    (C (mS2 m k c d ∧ refV m k c d (R (oB false)) (R (oB false)) ((zeroC = zeroC ∧ isInf zeroC) ∧ T) (R (oB false))))
    (C (mS2 m k c d ∧ refV m k c d (R (oB false)) (R (oB false)) (R (oB false)) ((zeroC = zeroC ∧ isInf zeroC) ∧ T))))
noncomputable def chkV (ds : List Int) (X : Prop) : Prop := sel (decide (0 + ds.length ≤ ds.length)) X False
noncomputable def d2 (bs : List Int) : List Int := List.take 39 (List.drop 0 (l39 bs))
noncomputable def d3 (bs : List Int) : List Int := List.take (bs.drop 2).length (List.drop 0 (bs.drop 2))
theorem says_0 (bs : List Int) (a b e n o d h mi s : Int) (z : ByteArray) (R : Out → Prop) : (t_says 0 [.c (.l .u8 bs), .ag (infC a b e n o d h mi s z)] []).run R =
    sel ((bs.length : Int) != 42) (R (oB true)) (sel (decide ((z.size : Int) > 30)) (R (oB true)) ((bs.length = 42 ∧ clsV bs = 0) ∧ tailV a b e n o d h mi s z R)) := by kernel_rfl
theorem says_1 (bs : List Int) (a b e n o d h mi s : Int) (z : ByteArray) (R : Out → Prop) : (t_says 1 [.c (.l .u8 bs), .ag (infC a b e n o d h mi s z)] []).run R =
    sel ((bs.length : Int) != 42) (R (oB true)) (sel (decide ((z.size : Int) > 30)) (R (oB true)) ((bs.length = 42 ∧ clsV bs = 1) ∧ tailV a b e n o d h mi s z R)) := by kernel_rfl
theorem says_2 (bs : List Int) (a b e n o d h mi s : Int) (z : ByteArray) (R : Out → Prop) : (t_says 2 [.c (.l .u8 bs), .ag (infC a b e n o d h mi s z)] []).run R =
    sel ((bs.length : Int) != 42) (R (oB true)) (sel (decide ((z.size : Int) > 30)) (R (oB true)) ((bs.length = 42 ∧ clsV bs = 2) ∧ midV (fun X => X) (mgB bs) (kindF (raB bs)) (ncB bs) (d2 bs) (tailV a b e n o d h mi s z R) R)) := by kernel_rfl
theorem says_3 (bs : List Int) (a b e n o d h mi s : Int) (z : ByteArray) (R : Out → Prop) : (t_says 3 [.c (.l .u8 bs), .ag (infC a b e n o d h mi s z)] []).run R =
    sel ((bs.length : Int) != 42) (R (oB true)) (sel (decide ((z.size : Int) > 30)) (R (oB true)) ((bs.length = 42 ∧ clsV bs = 3) ∧ midV (chkV (bs.drop 2)) (mgB bs) (kindF (raB bs)) 0 (d3 bs) (tailV a b e n o d h mi s z R) R)) := by kernel_rfl
end Go.Proofs.YthjdlanmfiofdaaDoor.sv

namespace Go.Proofs.YthjdlanmfiofdaaDoor.sv
open Go Go.Nx Go.Proofs.YthjdlanmfiofdaaDoor.pk Go.Proofs.YthjdlanmfiofdaaDoor.ln Go.Proofs.YthjdlanmfiofdaaDoor.hd Go.Proofs.YthjdlanmfiofdaaDoor.lb

def In64 (s : Int) : Prop := -9223372036854775808 ≤ s ∧ s < 9223372036854775808
theorem fair_right {m p s : Int} (hs : In64 s) : fairB m p s = ls.rightB m p s := by
  unfold fairB ls.rightB
  congr 1
  congr 1
  congr 1
  congr 1
  cases h : (bits .andNot .i64 s 16255 == 0) with
  | false => rw [Bool.and_false]
  | true =>
    rw [beq_iff_eq, andNot_iff s hs] at h
    rw [dT h.1]
    rfl
theorem tail_in {a b e n o d h mi s : Int} {z : ByteArray} {R : Out → Prop} (he : In64 e) (hR : R (oB true)) : tailV a b e n o d h mi s z R := by
  unfold tailV
  rw [ok_same (n := n) (o := o) (d := d) (h := h) (mi := mi) (s := s) (z := z) (fair_right (m := a) (p := b) he)]
  cases hk : okIb a b e n o d h mi s z with
  | false => exact selF rfl (selF rfl hR)
  | true =>
    refine selT rfl (selT rfl ⟨⟨by rw [LB_same hk], ?_⟩, hR⟩)
    unfold c42
    rw [List.length_take]
    omega
theorem isY (d : List Int) : isInf (infY d) := ⟨_, _, _, _, _, _, _, _, _, _, rfl⟩
theorem isZ : isInf zeroC := ⟨_, _, _, _, _, _, _, _, _, _, rfl⟩
theorem mid_in {C : Prop → Prop} {m k c : Int} {d : List Int} {T : Prop} {R : Out → Prop} (hC : ∀ X : Prop, X → C X) (h1 : mS1 m k c d) (h2 : mS2 m k c d) (hT : T) : midV C m k c d T R := by
  unfold midV refV
  refine hC _ ⟨h1, ?_⟩
  cases okK m k c with
  | false => exact selF rfl (hC _ ⟨h2, selF rfl ⟨⟨rfl, isZ⟩, hT⟩⟩)
  | true =>
    refine selT rfl ?_
    cases all6 d with
    | false => exact selF rfl (hC _ ⟨h2, selT rfl (selF rfl ⟨⟨rfl, isZ⟩, hT⟩)⟩)
    | true =>
      refine selT rfl ?_
      cases clkG (gD d) with
      | false => exact selF rfl (hC _ ⟨h2, selT rfl (selT rfl (selF rfl ⟨⟨rfl, isZ⟩, hT⟩))⟩)
      | true => exact selT rfl (hC _ ⟨h2, selT rfl (selT rfl (selT rfl ⟨⟨rfl, isY d⟩, hT⟩))⟩)
theorem kind7 {r : Int} (h : kindF r = 7) : r ≥ 26 := by
  unfold kindF at h
  by_cases h0 : r = 0
  · rw [dT h0] at h
    have h : (1 : Int) = 7 := h
    exact absurd h (by decide)
  · rw [dF h0] at h
    by_cases h1 : r ≥ 1 ∧ r ≤ 24
    · rw [dT h1.1, dT h1.2] at h
      have h : (2 : Int) = 7 := h
      exact absurd h (by decide)
    · have e : (decide (r ≥ 1) && decide (r ≤ 24)) = false := by
        rw [← Bool.not_eq_true, Bool.and_eq_true, decide_eq_true_eq, decide_eq_true_eq]
        exact h1
      rw [e] at h
      by_cases h2 : r ≥ 26 ∧ r ≤ 30
      · exact h2.1
      · have e : (decide (r ≥ 26) && decide (r ≤ 30)) = false := by
          rw [← Bool.not_eq_true, Bool.and_eq_true, decide_eq_true_eq, decide_eq_true_eq]
          exact h2
        rw [e] at h
        have h : (0 : Int) = 7 := h
        exact absurd h (by decide)
theorem cls_in (bs : List Int) : clsV bs = 0 ∨ clsV bs = 1 ∨ clsV bs = 2 ∨ clsV bs = 3 := by
  unfold clsV
  cases gaB bs <;> cases decide (kindF (raB bs) = 0) <;> cases decide (raB bs ≥ 26) <;> cases gcB bs <;> decide
theorem cls3 {bs : List Int} (h : clsV bs = 3) : ¬ raB bs ≥ 26 := by
  intro hr
  unfold clsV at h
  rw [dT hr] at h
  revert h
  cases gaB bs <;> cases decide (kindF (raB bs) = 0) <;> cases gcB bs <;> decide
theorem l39_in {bs : List Int} (h : ∀ x ∈ bs, 0 ≤ x ∧ x < 256) : ∀ x ∈ l39 bs, 0 ≤ x ∧ x < 256 := by
  intro x hx
  unfold l39 at hx
  rw [List.mem_map] at hx
  obtain ⟨i, _, rfl⟩ := hx
  exact get_in h _
theorem nc_in (bs : List Int) : 0 ≤ ncB bs := by
  obtain ⟨m, _, e⟩ := getN_nat ((bs.drop 2).getD 0 0)
  unfold ncB
  rw [e]
  exact Int.natCast_nonneg m
theorem okK7 {m k c : Int} (h : okK m k c = true) : k = 7 := by
  unfold okK at h
  rw [Bool.and_eq_true] at h
  exact eq_of_beq h.1
theorem mid2 {bs : List Int} (hb : ∀ x ∈ bs, 0 ≤ x ∧ x < 256) : mS1 (mgB bs) (kindF (raB bs)) (ncB bs) (d2 bs) ∧ mS2 (mgB bs) (kindF (raB bs)) (ncB bs) (d2 bs) := by
  have h : (d2 bs).length = 39 ∧ byV (d2 bs) := ⟨rfl, l39_in hb⟩
  exact ⟨fun _ => h, nc_in bs, fun _ => h⟩
theorem mid3 {bs : List Int} (hc : clsV bs = 3) : mS1 (mgB bs) (kindF (raB bs)) 0 (d3 bs) ∧ mS2 (mgB bs) (kindF (raB bs)) 0 (d3 bs) := by
  have hn : ∀ {X : Prop}, okK (mgB bs) (kindF (raB bs)) 0 = true → X := fun h => (cls3 hc (kind7 (okK7 h))).elim
  exact ⟨hn, by decide, hn⟩
theorem Known_four {P : Program} {gl : List Nat} {f : FuncId} {A B C D T : Con} (ha : Known P gl f A) (hb : Known P gl f B) (hc : Known P gl f C) (hd : Known P gl f D) (h : ∀ args regs R, (T args regs).run R → Box ((A args regs).run R) ∨ Box ((B args regs).run R) ∨ Box ((C args regs).run R) ∨ Box ((D args regs).run R)) : Known P gl f T :=
  ⟨ha.goes, fun args regs R hR => by
    rcases h args regs R hR with x | x | x | x
    · exact ha.sound args regs R x.out
    · exact hb.sound args regs R x.out
    · exact hc.sound args regs R x.out
    · exact hd.sound args regs R x.out⟩
theorem in_law {bs : List Int} {z : ByteArray} {A B : Prop} (hA : A) (hB : bs.length = 42 → B) : sel ((bs.length : Int) != 42) A (sel (decide ((z.size : Int) > 30)) A B) := by
  by_cases h : bs.length = 42
  · exact selF (by simp [bne, h]) (sel_by (fun _ => hA) fun _ => hB h)
  · exact selT (by rw [bne_iff_ne]; omega) hA
noncomputable def tSaysV : Con := fun args regs => match args, regs with
  | [.c (.l .u8 bs), .ag xs], [] => .must ((∀ x ∈ bs, 0 ≤ x ∧ x < 256) ∧ ∃ (a b e n o d h m s : Int) (z : ByteArray), xs = infC a b e n o d h m s z ∧ In64 e) (.ret (oB true))
  | _, _ => .fail
theorem chk_in {ds : List Int} (X : Prop) (h : X) : chkV ds X := selT (dT (by omega)) h
theorem says_in (bs : List Int) (a b e n o d h mi s : Int) (z : ByteArray) {R : Out → Prop} (hb : ∀ x ∈ bs, 0 ≤ x ∧ x < 256) (he : In64 e) (hR : R (oB true)) : Box ((t_says 0 [.c (.l .u8 bs), .ag (infC a b e n o d h mi s z)] []).run R) ∨ Box ((t_says 1 [.c (.l .u8 bs), .ag (infC a b e n o d h mi s z)] []).run R) ∨ Box ((t_says 2 [.c (.l .u8 bs), .ag (infC a b e n o d h mi s z)] []).run R) ∨ Box ((t_says 3 [.c (.l .u8 bs), .ag (infC a b e n o d h mi s z)] []).run R) := by
  rcases cls_in bs with hc | hc | hc | hc
  · exact .inl (Box.of_eq (says_0 bs a b e n o d h mi s z R) (in_law hR fun hl => ⟨⟨hl, hc⟩, tail_in he hR⟩))
  · exact .inr (.inl (Box.of_eq (says_1 bs a b e n o d h mi s z R) (in_law hR fun hl => ⟨⟨hl, hc⟩, tail_in he hR⟩)))
  · exact .inr (.inr (.inl (Box.of_eq (says_2 bs a b e n o d h mi s z R) (in_law hR fun hl => ⟨⟨hl, hc⟩, mid_in (fun _ h => h) (mid2 hb).1 (mid2 hb).2 (tail_in he hR)⟩))))
  · exact .inr (.inr (.inr (Box.of_eq (says_3 bs a b e n o d h mi s z R) (in_law hR fun hl => ⟨⟨hl, hc⟩, mid_in chk_in (mid3 hc).1 (mid3 hc).2 (tail_in he hR)⟩))))
set_option maxRecDepth 100000 in
theorem kSaysV : Known Tryd.prog GL 11 tSaysV := by
  refine Known_four (k_says 0) (k_says 1) (k_says 2) (k_says 3) fun args regs R h => ?_
  unfold tSaysV at h
  split at h
  case h_2 => exact h.elim
  have h1 := h.1
  have h2 := h.2
  clear h
  obtain ⟨hb, a, b, e, n, o, d, h, m, s, z, rfl, he⟩ := h1
  exact says_in _ _ _ _ _ _ _ _ _ _ _ hb he h2
theorem wf_in {n : Int} (h : (Lit.int .i64 n).wf = true) : In64 n := by
  simp only [Lit.wf, Bool.and_eq_true, decide_eq_true_eq] at h
  have h1 : IntKind.i64.min = -9223372036854775808 := rfl
  have h2 : IntKind.i64.max = 9223372036854775807 := rfl
  rw [h1, h2] at h
  unfold In64
  omega
theorem mkI {x : NC} (h : MkOk (.i .i64) x) : ∃ n, x = .i .i64 n ∧ In64 n := by
  cases h with
  | i hw => exact ⟨_, rfl, wf_in hw⟩
theorem mkS {x : NC} (h : MkOk .s x) : ∃ z, x = .s z := by
  cases h with
  | s hw => exact ⟨_, rfl⟩
def msI : List MK := [.i .i64, .i .i64, .i .i64, .i .i64, .i .i64, .i .i64, .i .i64, .i .i64, .i .i64, .s]
def shsV : List Sh := [.row .u8, .mix msI]
theorem r2_cons {k : MK} {ks : List MK} {xs : List NC} (h : R2 MkOk (k :: ks) xs) : ∃ x l, xs = x :: l ∧ MkOk k x ∧ R2 MkOk ks l := by
  cases h with
  | cons h1 h2 => exact ⟨_, _, rfl, h1, h2⟩
theorem inf_of {xs : List NC} (h : R2 MkOk msI xs) : ∃ (a b e n o d h m s : Int) (z : ByteArray), xs = infC a b e n o d h m s z ∧ In64 e := by
  unfold msI at h
  obtain ⟨x0, l0, rfl, m0, h⟩ := r2_cons h
  obtain ⟨x1, l1, rfl, m1, h⟩ := r2_cons h
  obtain ⟨x2, l2, rfl, m2, h⟩ := r2_cons h
  obtain ⟨x3, l3, rfl, m3, h⟩ := r2_cons h
  obtain ⟨x4, l4, rfl, m4, h⟩ := r2_cons h
  obtain ⟨x5, l5, rfl, m5, h⟩ := r2_cons h
  obtain ⟨x6, l6, rfl, m6, h⟩ := r2_cons h
  obtain ⟨x7, l7, rfl, m7, h⟩ := r2_cons h
  obtain ⟨x8, l8, rfl, m8, h⟩ := r2_cons h
  obtain ⟨x9, l9, rfl, m9, h⟩ := r2_cons h
  cases h
  obtain ⟨n0, rfl, _⟩ := mkI m0
  obtain ⟨n1, rfl, _⟩ := mkI m1
  obtain ⟨n2, rfl, hn2⟩ := mkI m2
  obtain ⟨n3, rfl, _⟩ := mkI m3
  obtain ⟨n4, rfl, _⟩ := mkI m4
  obtain ⟨n5, rfl, _⟩ := mkI m5
  obtain ⟨n6, rfl, _⟩ := mkI m6
  obtain ⟨n7, rfl, _⟩ := mkI m7
  obtain ⟨n8, rfl, _⟩ := mkI m8
  obtain ⟨z, rfl⟩ := mkS m9
  exact ⟨n0, n1, n2, n3, n4, n5, n6, n7, n8, z, rfl, hn2⟩
theorem says_law (xs : List NV) (h : R2 ShOk shsV xs) : Holds (tSaysV xs []) fun o => o.res = .v (.c (.b true)) := by
  cases h with
  | cons h1 h =>
    cases h with
    | cons h2 h =>
      cases h
      cases h1 with
      | @row _ bs hb =>
        cases h2 with
        | mix hm => exact ⟨⟨⟨fun x hx => wf_u8 (hb x hx), inf_of hm⟩, rfl⟩⟩
end Go.Proofs.YthjdlanmfiofdaaDoor.sv
