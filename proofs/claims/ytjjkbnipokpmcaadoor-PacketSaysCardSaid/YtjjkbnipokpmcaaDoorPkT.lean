/-
  Packets: reading by classes: what is amiss, or the packet; the document's reading.
-/
import Derived.Test.YtjjkbnipokpmcaaDoorPkS
namespace Go.Proofs.YtjjkbnipokpmcaaDoor.pk
open Go Go.Nx

noncomputable def rW (bs : List Int) : Int := rowOf (getN (bs.getD 0 0)) (getN (bs.getD 1 0))
noncomputable def mW (bs : List Int) : Int := magOf (getN (bs.getD 0 0))
/-- The class of bytes: what is amiss first; or which packet. -/
noncomputable def cls (bs : List Int) : Nat :=
  if bs.length ≠ 42 then 0 else if (getB (bs.getD 0 0) && getB (bs.getD 1 0)) = false then 1 else if kindF (rW bs) = 0 then 2 else if rW bs ≥ 26 then (if getB ((bs.drop 2).getD 0 0) = true then 3 else 4) else 5
noncomputable def resA (bs : List Int) : Nat → Out
  | 0 => oPE 0
  | 1 => oPE 1
  | 2 => oPE 2
  | 3 => oPk (mW bs) (rW bs) (kindF (rW bs)) (getN ((bs.drop 2).getD 0 0)) ((bs.drop 2).drop 1)
  | 4 => oPE 1
  | _ => oPk (mW bs) (rW bs) (kindF (rW bs)) 0 (bs.drop 2)
noncomputable def tReadJ (j : Nat) : Con := fun args regs => match args, regs with
  | [.c (.l .u8 bs)], [] => .must (cls bs = j) (.ret (resA bs j))
  | _, _ => .fail
theorem readJ_in {bs : List Int} {R : Out → Prop} (h : R (resA bs (cls bs))) : (tRead [.c (.l .u8 bs)] []).run R := by
  unfold cls at h
  by_cases h1 : bs.length = 42
  · rw [if_neg (by omega)] at h
    refine selT (dT h1) ?_
    cases hg : (getB (bs.getD 0 0) && getB (bs.getD 1 0)) with
    | false =>
      rw [if_pos hg] at h
      exact selF hg h
    | true =>
      rw [if_neg (by rw [hg]; decide)] at h
      refine selT hg ?_
      by_cases h2 : kindF (rW bs) = 0
      · rw [if_pos h2] at h
        exact selT (dT h2) h
      · rw [if_neg h2] at h
        refine selF (dF h2) ?_
        by_cases h3 : rW bs ≥ 26
        · rw [if_pos h3] at h
          refine selT (dT h3) ?_
          by_cases h4 : getB ((bs.drop 2).getD 0 0) = true
          · rw [if_pos h4] at h
            exact selT h4 h
          · rw [if_neg h4] at h
            exact selF (by simpa using h4) h
        · rw [if_neg h3] at h
          exact selF (dF h3) h
  · rw [if_pos h1] at h
    exact selF (dF h1) h
set_option maxRecDepth 100000 in
theorem kReadJ (j : Nat) : Known Tryd.prog GL 8 (tReadJ j) := by
  refine kRead.less fun args regs R h => ?_
  unfold tReadJ at h
  split at h
  case h_2 => exact h.elim
  refine readJ_in ?_
  rw [h.1]
  exact h.2
def oQE (c : Int) : Out := ⟨.tu [.ag [.i .i64 0, .i .i64 0, .i .i64 0, .i .i64 0, .sn], .c (.i .i64 c)], []⟩
def oQk (mag row kind code : Int) (ds : List Int) : Out := ⟨.tu [.ag [.i .i64 mag, .i .i64 row, .i .i64 kind, .i .i64 code, .h 0 0 ds.length], .c (.i .i64 0)], [some ⟨1, 5, .ints .u8 ds⟩]⟩
noncomputable def resQ (bs : List Int) : Nat → Out
  | 0 => oQE 102
  | 1 => oQE 103
  | 2 => oQE 104
  | 3 => oQk (mW bs) (rW bs) (kindF (rW bs)) (getN ((bs.drop 2).getD 0 0)) ((bs.drop 2).drop 1)
  | 4 => oQE 103
  | _ => oQk (mW bs) (rW bs) (kindF (rW bs)) 0 (bs.drop 2)
noncomputable def rowQ (x y : Int) : Int := bits .or .i64 (shrv .i64 x 3) (shlv .i64 y 1)
noncomputable def TlN (bs : List Int) (k : Int) : List Int := List.drop k.toNat (List.take bs.length bs)
noncomputable def restQ (bs : List Int) (m r : Int) (R : Out → Prop) : Prop :=
  sel (kindF r == 0) (R (oQE 104)) (sel (decide (r ≥ 26)) (sel (decide (2 < (bs.length : Int))) (sel (decide ((2 : Int).toNat < bs.length)) (sel (!getB (bs.getD 2 0)) (R (oQE 103)) (sel (decide (3 ≤ (bs.length : Int))) ((TlN bs 3).length ≤ 1000000 ∧ R (oQk m r (kindF r) (getN (bs.getD 2 0)) (TlN bs 3))) False)) False) False) (R (oQk m r (kindF r) 0 (TlN bs 2))))
theorem rread_tree (bs : List Int) (R : Out → Prop) : (t_rread [.c (.l .u8 bs)] []).run R =
    sel ((bs.length : Int) != 42) (R (oQE 102)) (sel (decide (0 < (bs.length : Int))) (sel (decide ((0 : Int).toNat < bs.length)) (sel (decide (1 < (bs.length : Int))) (sel (decide ((1 : Int).toNat < bs.length)) (sel (!getB (bs.getD 0 0)) (R (oQE 103)) (sel (!getB (bs.getD 1 0)) (R (oQE 103)) (sel (decide (2 ≤ (bs.length : Int))) ((TlN bs 2).length ≤ 1000000 ∧
      sel (bits .and .i64 (getN (bs.getD 0 0)) 7 == 0) (restQ bs 8 (rowQ (getN (bs.getD 0 0)) (getN (bs.getD 1 0))) R) (restQ bs (bits .and .i64 (getN (bs.getD 0 0)) 7) (rowQ (getN (bs.getD 0 0)) (getN (bs.getD 1 0))) R)) False))) False) False) False) False) := by kernel_rfl
theorem nib_all : ∀ x < 16, ∀ y < 16, rowQ (Int.ofNat x) (Int.ofNat y) = rowOf (Int.ofNat x) (Int.ofNat y) ∧ (bif bits .and .i64 (Int.ofNat x) 7 == 0 then 8 else bits .and .i64 (Int.ofNat x) 7) = magOf (Int.ofNat x) := by decide +kernel
theorem getN_in (b : Int) : ∃ n : Nat, n < 16 ∧ getN b = Int.ofNat n := by
  unfold getN get
  cases h : (List.range 16).find? (hit b) with
  | none => exact ⟨0, by decide, rfl⟩
  | some n => exact ⟨n, List.mem_range.1 (List.mem_of_find?_eq_some h), rfl⟩
theorem rest_q {bs : List Int} {m : Int} {R : Out → Prop} (h42 : bs.length = 42)
    (h : sel (decide (kindF (rW bs) = 0)) (R (oQE 104)) (sel (decide (rW bs ≥ 26)) (sel (getB (bs.getD 2 0)) (R (oQk m (rW bs) (kindF (rW bs)) (getN (bs.getD 2 0)) ((bs.drop 2).drop 1))) (R (oQE 103))) (R (oQk m (rW bs) (kindF (rW bs)) 0 (bs.drop 2))))) : restQ bs m (rW bs) R := by
  have e2 : TlN bs 2 = bs.drop 2 := by
    show List.drop 2 (List.take bs.length bs) = _
    rw [List.take_length]
  have e3 : TlN bs 3 = (bs.drop 2).drop 1 := by
    show List.drop 3 (List.take bs.length bs) = _
    rw [List.take_length, List.drop_drop]
  have t2 : (2 : Int).toNat = 2 := rfl
  unfold restQ
  rw [e2, e3, t2]
  rcases sel_iff.1 h with ⟨c, h⟩ | ⟨c, h⟩
  · exact selT (by rw [beq_iff_eq]; exact of_decide_eq_true c) h
  · refine selF (by rw [beq_eq_false_iff_ne]; exact of_decide_eq_false c) ?_
    rcases sel_iff.1 h with ⟨c, h⟩ | ⟨c, h⟩
    · refine selT c (selT (dT (by omega)) (selT (dT (by omega)) ?_))
      rcases sel_iff.1 h with ⟨c, h⟩ | ⟨c, h⟩
      · exact selF (by rw [c]; rfl) (selT (dT (by omega)) ⟨by simp; omega, h⟩)
      · exact selT (by rw [c]; rfl) h
    · exact selF c h
theorem rreadJ_in {bs : List Int} {R : Out → Prop} (h : R (resQ bs (cls bs))) : Box ((t_rread [.c (.l .u8 bs)] []).run R) := by
  refine Box.of_eq (rread_tree bs R) ?_
  unfold cls at h
  have t0 : (0 : Int).toNat = 0 := rfl
  have t1 : (1 : Int).toNat = 1 := rfl
  rw [t0, t1]
  by_cases h1 : bs.length = 42
  · rw [if_neg (by omega)] at h
    refine selF (by simp [bne, h1]) (selT (dT (by omega)) (selT (dT (by omega)) (selT (dT (by omega)) (selT (dT (by omega)) ?_))))
    cases ha : getB (bs.getD 0 0) with
    | false =>
      rw [if_pos (by rw [ha]; rfl)] at h
      exact h
    | true =>
      cases hb : getB (bs.getD 1 0) with
      | false =>
        rw [if_pos (by rw [ha, hb]; rfl)] at h
        exact h
      | true =>
        rw [if_neg (by rw [ha, hb]; decide)] at h
        have h2 : (TlN bs 2).length ≤ 1000000 := by
          show (List.drop 2 (List.take bs.length bs)).length ≤ _
          simp; omega
        refine selF rfl (selF rfl (selT (dT (by omega)) ⟨h2, ?_⟩))
        obtain ⟨x, hx, ex⟩ := getN_in (bs.getD 0 0)
        obtain ⟨y, hy, ey⟩ := getN_in (bs.getD 1 0)
        obtain ⟨q1, q2⟩ := nib_all x hx y hy
        rw [← ex, ← ey] at q1
        rw [← ex] at q2
        have q1' : rowQ (getN (bs.getD 0 0)) (getN (bs.getD 1 0)) = rW bs := q1
        have q2' : (bif bits .and .i64 (getN (bs.getD 0 0)) 7 == 0 then 8 else bits .and .i64 (getN (bs.getD 0 0)) 7) = mW bs := q2
        rw [q1']
        have ed : (bs.drop 2).getD 0 0 = bs.getD 2 0 := by simp [List.getD_eq_getElem?_getD]
        have key : restQ bs (mW bs) (rW bs) R := by
          refine rest_q h1 ?_
          by_cases h2 : kindF (rW bs) = 0
          · rw [if_pos h2] at h
            exact selT (dT h2) h
          · rw [if_neg h2] at h
            refine selF (dF h2) ?_
            by_cases h3 : rW bs ≥ 26
            · rw [if_pos h3] at h
              refine selT (dT h3) ?_
              by_cases h4 : getB ((bs.drop 2).getD 0 0) = true
              · rw [if_pos h4] at h
                rw [← ed]
                exact selT h4 h
              · rw [if_neg h4] at h
                rw [← ed]
                exact selF (by simpa using h4) h
            · rw [if_neg h3] at h
              exact selF (dF h3) h
        rw [← q2'] at key
        cases hm : (bits .and .i64 (getN (bs.getD 0 0)) 7 == 0) with
        | true => rw [hm] at key; exact key
        | false => rw [hm] at key; exact key
  · rw [if_pos h1] at h
    exact selT (by rw [bne_iff_ne]; omega) h
noncomputable def tRReadJ (j : Nat) : Con := fun args regs => match args, regs with
  | [.c (.l .u8 bs)], [] => .must (cls bs = j) (.ret (resQ bs j))
  | _, _ => .fail
set_option maxRecDepth 100000 in
theorem kRReadJ (j : Nat) : Known Tryd.prog [] 9 (tRReadJ j) := by
  refine k_rread.less fun args regs R h => Box.out ?_
  unfold tRReadJ at h
  split at h
  case h_2 => exact h.elim
  refine rreadJ_in ?_
  rw [h.1]
  exact h.2
end Go.Proofs.YtjjkbnipokpmcaaDoor.pk
