/-
  LinksSay: the law.
-/
import Derived.Test.YthjdlanmfiofdaaDoorLsX
import Derived.Test.YthjdlanmfiofdaaDoorEng24
namespace Go.Proofs.YthjdlanmfiofdaaDoor.ls
open Go Go.Nx Go.Proofs.YthjdlanmfiofdaaDoor.pk Go.Proofs.YthjdlanmfiofdaaDoor.ln Go.Proofs.YthjdlanmfiofdaaDoor.hd Go.Proofs.YthjdlanmfiofdaaDoor.lb

noncomputable def raB (bs : List Int) : Int := rowOf (getN (bs.getD 0 0)) (getN (bs.getD 1 0))
noncomputable def gaB (bs : List Int) : Bool := getB (bs.getD 0 0) && getB (bs.getD 1 0)
noncomputable def gcB (bs : List Int) : Bool := getB ((bs.drop 2).getD 0 0)
noncomputable def ncB (bs : List Int) : Int := getN ((bs.drop 2).getD 0 0)
noncomputable def mgB (bs : List Int) : Int := magOf (getN (bs.getD 0 0))
/-- What bytes are: no packet, of no kind, links, another coded packet, another packet. -/
noncomputable def clsB (bs : List Int) : Nat := bif gaB bs then (bif decide (kindF (raB bs) = 0) then 1 else bif decide (raB bs ≥ 26) then (bif gcB bs then (bif decide (raB bs = 27) && decide (ncB bs = 0) then 2 else 3) else 0) else 4) else 0
def l39 (bs : List Int) : List Int := (List.range 39).map fun i => bs.getD (3 + i) 0
theorem l39_eq (bs : List Int) (h : bs.length = 42) : (bs.drop 2).drop 1 = l39 bs := by
  rw [List.drop_drop]
  refine List.ext_getElem? fun j => ?_
  unfold l39
  rw [List.getElem?_drop, List.getElem?_map]
  by_cases hj : j < 39
  · rw [List.getElem?_range hj, Option.map_some, List.getD_eq_getElem?_getD, List.getElem?_eq_getElem (show 2 + 1 + j < bs.length by omega)]
    rfl
  · rw [List.getElem?_eq_none (by omega), List.getElem?_eq_none (by rw [List.length_range]; omega)]
    rfl
noncomputable def outC (bs : List Int) : Nat → Out
  | 0 => oPE 1
  | 1 => oPE 2
  | 2 => oPk (mgB bs) 27 4 0 (l39 bs)
  | 3 => oPk (mgB bs) (raB bs) (kindF (raB bs)) (ncB bs) ((bs.drop 2).drop 1)
  | _ => oPk (mgB bs) (raB bs) (kindF (raB bs)) 0 (bs.drop 2)
noncomputable def tReadC (j : Nat) : Con := fun args regs => match args, regs with
  | [.c (.l .u8 bs)], [] => .must (bs.length = 42 ∧ clsB bs = j) (.ret (outC bs j))
  | _, _ => .fail
theorem readC_in {bs : List Int} {j : Nat} {R : Out → Prop} (hl : bs.length = 42) (hc : clsB bs = j) (h : R (outC bs j)) : (bodyT (bs.getD 0 0) (bs.getD 1 0) (bs.drop 2)).run R := by
  unfold clsB at hc
  show sel (gaB bs) (sel (decide (kindF (raB bs) = 0)) (R (oPE 2)) (sel (decide (raB bs ≥ 26)) (sel (gcB bs) (R (oPk (mgB bs) (raB bs) (kindF (raB bs)) (ncB bs) ((bs.drop 2).drop 1))) (R (oPE 1))) (R (oPk (mgB bs) (raB bs) (kindF (raB bs)) 0 (bs.drop 2))))) (R (oPE 1))
  cases h1 : gaB bs with
  | false =>
    rw [h1] at hc
    subst hc
    exact selF rfl h
  | true =>
    rw [h1] at hc
    refine selT rfl ?_
    cases h2 : decide (kindF (raB bs) = 0) with
    | true =>
      rw [h2] at hc
      subst hc
      exact selT rfl h
    | false =>
      rw [h2] at hc
      refine selF rfl ?_
      cases h3 : decide (raB bs ≥ 26) with
      | false =>
        rw [h3] at hc
        subst hc
        exact selF rfl h
      | true =>
        rw [h3] at hc
        refine selT rfl ?_
        cases h4 : gcB bs with
        | false =>
          rw [h4] at hc
          subst hc
          exact selF rfl h
        | true =>
          rw [h4] at hc
          refine selT rfl ?_
          cases h5 : (decide (raB bs = 27) && decide (ncB bs = 0)) with
          | false =>
            rw [h5] at hc
            subst hc
            exact h
          | true =>
            rw [h5] at hc
            subst hc
            rw [Bool.and_eq_true, decide_eq_true_eq, decide_eq_true_eq] at h5
            have h : R (oPk (mgB bs) 27 4 0 (l39 bs)) := h
            rw [h5.1, h5.2, l39_eq bs hl]
            exact h
set_option maxRecDepth 100000 in
theorem kReadC (j : Nat) : Known Tryd.prog GL 15 (tReadC j) := by
  refine kRead.less fun args regs R h => ?_
  unfold tReadC at h
  split at h
  case h_2 => exact h.elim
  have h1 := h.1
  have h2 := h.2
  clear h
  exact selT (dT h1.1) (readC_in h1.1 h1.2 h2)
/-! ### packets that are no links -/
noncomputable def tLreadO : Con := fun args regs => match args, regs with
  | [.ag [.i .i64 _, .i .i64 _, .i .i64 k, .i .i64 c, .l .u8 _]], [] => .must (k ≠ 4 ∨ c ≠ 0) (.ret oLE)
  | _, _ => .fail
set_option maxRecDepth 100000 in
theorem kLreadO : Known Tryd.prog GL 16 tLreadO := by
  refine k_lread.less fun args regs R h => Box.out ?_
  unfold tLreadO at h
  split at h
  case h_2 => exact h.elim
  rename_i m w k c ds
  have h1 := h.1
  have h2 : R oLE := h.2
  clear h
  refine Box.of_eq (lread_tree m w k c ds R) ?_
  by_cases hk : k = 4
  · refine selF (by simp [bne, hk]) (selT ?_ h2)
    rcases h1 with h1 | h1
    · exact (h1 hk).elim
    · rw [bne_iff_ne]; exact h1
  · exact selT (by rw [bne_iff_ne]; exact hk) h2
def oRLE : Out := ⟨.tu [.ag [.i .i64 0, .i .i64 0, .i .i64 0, .i .i64 0, .i .i64 0, .i .i64 0, .i .i64 0, .i .i64 0, .i .i64 0, .i .i64 0, .i .i64 0, .i .i64 0, .i .i64 0, .i .i64 0, .i .i64 0, .i .i64 0, .i .i64 0, .i .i64 0], .c (.i .i64 104)], []⟩
theorem rread_k (m w k c : Int) (ds : List Int) (R : Out → Prop) : ((t_rread [.ag [.i .i64 m, .i .i64 w, .i .i64 k, .i .i64 c, .l .u8 ds]] []).follow [some true]).run R = ((k != 4) = true ∧ R oRLE) := by kernel_rfl
theorem rread_c (m w k c : Int) (ds : List Int) (R : Out → Prop) : ((t_rread [.ag [.i .i64 m, .i .i64 w, .i .i64 k, .i .i64 c, .l .u8 ds]] []).follow [some false, none, none, none, some true]).run R = ((k != 4) = false ∧ ((c != 0) = true ∧ R oRLE)) := by kernel_rfl
noncomputable def tRreadO : Con := fun args regs => match args, regs with
  | [.ag [.i .i64 _, .i .i64 _, .i .i64 k, .i .i64 c, .l .u8 _]], [] => .must (k ≠ 4 ∨ c ≠ 0) (.ret oRLE)
  | _, _ => .fail
/-- A road holds: so does the tree. -/
theorem box_road {t : Tr Out} {R : Out → Prop} (bs : List (Option Bool)) (h : Box ((t.follow bs).run R)) : Box (t.run R) := ⟨Tr.follow_run t bs h.out⟩
set_option maxRecDepth 100000 in
theorem kRreadO : Known Tryd.prog GL 17 tRreadO := by
  refine k_rread.less fun args regs R h => Box.out ?_
  unfold tRreadO at h
  split at h
  case h_2 => exact h.elim
  rename_i m w k c ds
  have h1 := h.1
  have h2 : R oRLE := h.2
  clear h
  by_cases hk : k = 4
  · refine box_road [some false, none, none, none, some true] (Box.of_eq (rread_c m w k c ds R) ⟨by simp [bne, hk], ?_, h2⟩)
    rcases h1 with h1 | h1
    · exact (h1 hk).elim
    · rw [bne_iff_ne]; exact h1
  · exact box_road [some true] (Box.of_eq (rread_k m w k c ds R) ⟨by rw [bne_iff_ne]; exact hk, h2⟩)
noncomputable def lrd (j : Nat) : Con := bif j == 2 then tLread else tLreadO
noncomputable def rrd (j : Nat) : Con := bif j == 2 then t_rread else tRreadO
theorem kLrd (j : Nat) : Known Tryd.prog GL 16 (lrd j) := by
  unfold lrd
  cases (j == 2) with
  | true => exact kLread
  | false => exact kLreadO
theorem kRrd (j : Nat) : Known Tryd.prog GL 17 (rrd j) := by
  unfold rrd
  cases (j == 2) with
  | true => exact k_rread
  | false => exact kRreadO
/-- Bytes that are the same, both or none. -/
noncomputable def tSameN : Con := fun args regs => match args, regs with
  | [.c (.l .u8 xs), .c (.l .u8 ys)], [] => .must (xs = ys ∧ xs.length ≤ 1000000) (.ret (oB true))
  | [.c .sn, .c .sn], [] => .ret (oB true)
  | _, _ => .fail
set_option maxRecDepth 100000 in
theorem kSameN : Known Tryd.prog GL 23 tSameN := by
  refine kg_same.less fun args regs R h => ?_
  unfold tSameN at h
  split at h
  case h_3 => exact h.elim
  case h_1 xs ys =>
    have h1 := h.1
    have h2 : R (oB true) := h.2
    clear h
    obtain ⟨rfl, hl⟩ := h1
    refine ⟨hl, ?_⟩
    show R (oB (xs == xs))
    rw [beq_self_eq_true]
    exact h2
  case h_2 => exact ⟨by decide, h⟩
noncomputable def c_says (j : Nat) : FuncId → Option Con := conOf [(14, t_first), (15, tReadC j), (16, lrd j), (18, t_lother), (17, rrd j), (19, t_is), (20, tSLinks), (21, tLBg), (22, tRLB), (23, tSameN), (24, tSomeV), (25, tSomeV)]
theorem kc_says (j : Nat) : ∀ f T, (c_says j) f = some T → Known Tryd.prog GL f T := (Knowns.cons k_first (.cons (kReadC j) (.cons (kLrd j) (.cons k_lother (.cons (kRrd j) (.cons k_is (.cons kSLinks (.cons kLBg (.cons kRLB (.cons kSameN (.cons kSomeV (.cons kRSomeV .nil)))))))))))).get
noncomputable def t_says (j : Nat) : Con := fun args regs => nfun Tryd.prog GL (c_says j) [] Tryd.f3 args regs
theorem k_says (j : Nat) : Known Tryd.prog GL 3 (t_says j) := known_inl Tryd.func3 rfl (by kernel_rfl) mixed (kc_says j) (by kernel_rfl)
end Go.Proofs.YthjdlanmfiofdaaDoor.ls

namespace Go.Proofs.YthjdlanmfiofdaaDoor.ls
open Go Go.Nx Go.Proofs.YthjdlanmfiofdaaDoor.pk Go.Proofs.YthjdlanmfiofdaaDoor.ln Go.Proofs.YthjdlanmfiofdaaDoor.hd Go.Proofs.YthjdlanmfiofdaaDoor.lb

noncomputable def LA (mag code ctl m0 p0 s0 m1 p1 s1 m2 p2 s2 m3 p3 s3 m4 p4 s4 m5 p5 s5 : Int) : List Int := List.take 42 (List.drop 0 (adr0 mag 27 :: adr1 27 :: lbN mag code ctl m0 p0 s0 m1 p1 s1 m2 p2 s2 m3 p3 s3 m4 p4 s4 m5 p5 s5))
noncomputable def LR (mag code ctl m0 p0 s0 m1 p1 s1 m2 p2 s2 m3 p3 s3 m4 p4 s4 m5 p5 s5 : Int) : List Int := List.take 42 (List.drop 0 (put (radr mag) :: put 13 :: rlN mag code ctl m0 p0 s0 m1 p1 s1 m2 p2 s2 m3 p3 s3 m4 p4 s4 m5 p5 s5))
/-- The law behind the packet. -/
noncomputable def tailL (mag code ctl m0 p0 s0 m1 p1 s1 m2 p2 s2 m3 p3 s3 m4 p4 s4 m5 p5 s5 : Int) (R : Out → Prop) : Prop :=
  sel (okL mag code ctl m0 p0 s0 m1 p1 s1 m2 p2 s2 m3 p3 s3 m4 p4 s4 m5 p5 s5) (sel (okR mag code ctl m0 p0 s0 m1 p1 s1 m2 p2 s2 m3 p3 s3 m4 p4 s4 m5 p5 s5) ((LA mag code ctl m0 p0 s0 m1 p1 s1 m2 p2 s2 m3 p3 s3 m4 p4 s4 m5 p5 s5 = LR mag code ctl m0 p0 s0 m1 p1 s1 m2 p2 s2 m3 p3 s3 m4 p4 s4 m5 p5 s5 ∧ (LA mag code ctl m0 p0 s0 m1 p1 s1 m2 p2 s2 m3 p3 s3 m4 p4 s4 m5 p5 s5).length ≤ 1000000) ∧ R (oB (someB m0 p0 == someB m0 p0))) (R (oB false)))
    (sel (okR mag code ctl m0 p0 s0 m1 p1 s1 m2 p2 s2 m3 p3 s3 m4 p4 s4 m5 p5 s5) (R (oB false)) (R (oB (someB m0 p0 == someB m0 p0))))
noncomputable def d39 (bs : List Int) : List Int := List.take 39 (List.drop 0 (l39 bs))
noncomputable def xs18 (bs : List Int) : List Int := [(bif (asF ([0, 1, 2, 3, 4, 5].map (ALLg (d39 bs))) 0) then lkM (mgB bs) (d39 bs) 0 else 0), (bif (asF ([0, 1, 2, 3, 4, 5].map (ALLg (d39 bs))) 0) then lkP (d39 bs) 0 else 0), (bif (asF ([0, 1, 2, 3, 4, 5].map (ALLg (d39 bs))) 0) then lkS (d39 bs) 0 else 0), (bif (asF ([0, 1, 2, 3, 4, 5].map (ALLg (d39 bs))) 1) then lkM (mgB bs) (d39 bs) 1 else 0), (bif (asF ([0, 1, 2, 3, 4, 5].map (ALLg (d39 bs))) 1) then lkP (d39 bs) 1 else 0), (bif (asF ([0, 1, 2, 3, 4, 5].map (ALLg (d39 bs))) 1) then lkS (d39 bs) 1 else 0), (bif (asF ([0, 1, 2, 3, 4, 5].map (ALLg (d39 bs))) 2) then lkM (mgB bs) (d39 bs) 2 else 0), (bif (asF ([0, 1, 2, 3, 4, 5].map (ALLg (d39 bs))) 2) then lkP (d39 bs) 2 else 0), (bif (asF ([0, 1, 2, 3, 4, 5].map (ALLg (d39 bs))) 2) then lkS (d39 bs) 2 else 0), (bif (asF ([0, 1, 2, 3, 4, 5].map (ALLg (d39 bs))) 3) then lkM (mgB bs) (d39 bs) 3 else 0), (bif (asF ([0, 1, 2, 3, 4, 5].map (ALLg (d39 bs))) 3) then lkP (d39 bs) 3 else 0), (bif (asF ([0, 1, 2, 3, 4, 5].map (ALLg (d39 bs))) 3) then lkS (d39 bs) 3 else 0), (bif (asF ([0, 1, 2, 3, 4, 5].map (ALLg (d39 bs))) 4) then lkM (mgB bs) (d39 bs) 4 else 0), (bif (asF ([0, 1, 2, 3, 4, 5].map (ALLg (d39 bs))) 4) then lkP (d39 bs) 4 else 0), (bif (asF ([0, 1, 2, 3, 4, 5].map (ALLg (d39 bs))) 4) then lkS (d39 bs) 4 else 0), (bif (asF ([0, 1, 2, 3, 4, 5].map (ALLg (d39 bs))) 5) then lkM (mgB bs) (d39 bs) 5 else 0), (bif (asF ([0, 1, 2, 3, 4, 5].map (ALLg (d39 bs))) 5) then lkP (d39 bs) 5 else 0), (bif (asF ([0, 1, 2, 3, 4, 5].map (ALLg (d39 bs))) 5) then lkS (d39 bs) 5 else 0)]
noncomputable def ys18 (bs : List Int) : List Int := [(bif A6 (bs.getD 3 0) (bs.getD 4 0) (bs.getD 5 0) (bs.getD 6 0) (bs.getD 7 0) (bs.getD 8 0) then (bif rlM (bs.getD 6 0) (bs.getD 8 0) (mgB bs) == 0 then 8 else rlM (bs.getD 6 0) (bs.getD 8 0) (mgB bs)) else 0), (bif A6 (bs.getD 3 0) (bs.getD 4 0) (bs.getD 5 0) (bs.getD 6 0) (bs.getD 7 0) (bs.getD 8 0) then rpageOf (getN (bs.getD 3 0)) (getN (bs.getD 4 0)) else 0), (bif A6 (bs.getD 3 0) (bs.getD 4 0) (bs.getD 5 0) (bs.getD 6 0) (bs.getD 7 0) (bs.getD 8 0) then subOf (getN (bs.getD 5 0)) (getN (bs.getD 6 0)) (getN (bs.getD 7 0)) (getN (bs.getD 8 0)) else 0), (bif A6 (bs.getD 9 0) (bs.getD 10 0) (bs.getD 11 0) (bs.getD 12 0) (bs.getD 13 0) (bs.getD 14 0) then (bif rlM (bs.getD 12 0) (bs.getD 14 0) (mgB bs) == 0 then 8 else rlM (bs.getD 12 0) (bs.getD 14 0) (mgB bs)) else 0), (bif A6 (bs.getD 9 0) (bs.getD 10 0) (bs.getD 11 0) (bs.getD 12 0) (bs.getD 13 0) (bs.getD 14 0) then rpageOf (getN (bs.getD 9 0)) (getN (bs.getD 10 0)) else 0), (bif A6 (bs.getD 9 0) (bs.getD 10 0) (bs.getD 11 0) (bs.getD 12 0) (bs.getD 13 0) (bs.getD 14 0) then subOf (getN (bs.getD 11 0)) (getN (bs.getD 12 0)) (getN (bs.getD 13 0)) (getN (bs.getD 14 0)) else 0), (bif A6 (bs.getD 15 0) (bs.getD 16 0) (bs.getD 17 0) (bs.getD 18 0) (bs.getD 19 0) (bs.getD 20 0) then (bif rlM (bs.getD 18 0) (bs.getD 20 0) (mgB bs) == 0 then 8 else rlM (bs.getD 18 0) (bs.getD 20 0) (mgB bs)) else 0), (bif A6 (bs.getD 15 0) (bs.getD 16 0) (bs.getD 17 0) (bs.getD 18 0) (bs.getD 19 0) (bs.getD 20 0) then rpageOf (getN (bs.getD 15 0)) (getN (bs.getD 16 0)) else 0), (bif A6 (bs.getD 15 0) (bs.getD 16 0) (bs.getD 17 0) (bs.getD 18 0) (bs.getD 19 0) (bs.getD 20 0) then subOf (getN (bs.getD 17 0)) (getN (bs.getD 18 0)) (getN (bs.getD 19 0)) (getN (bs.getD 20 0)) else 0), (bif A6 (bs.getD 21 0) (bs.getD 22 0) (bs.getD 23 0) (bs.getD 24 0) (bs.getD 25 0) (bs.getD 26 0) then (bif rlM (bs.getD 24 0) (bs.getD 26 0) (mgB bs) == 0 then 8 else rlM (bs.getD 24 0) (bs.getD 26 0) (mgB bs)) else 0), (bif A6 (bs.getD 21 0) (bs.getD 22 0) (bs.getD 23 0) (bs.getD 24 0) (bs.getD 25 0) (bs.getD 26 0) then rpageOf (getN (bs.getD 21 0)) (getN (bs.getD 22 0)) else 0), (bif A6 (bs.getD 21 0) (bs.getD 22 0) (bs.getD 23 0) (bs.getD 24 0) (bs.getD 25 0) (bs.getD 26 0) then subOf (getN (bs.getD 23 0)) (getN (bs.getD 24 0)) (getN (bs.getD 25 0)) (getN (bs.getD 26 0)) else 0), (bif A6 (bs.getD 27 0) (bs.getD 28 0) (bs.getD 29 0) (bs.getD 30 0) (bs.getD 31 0) (bs.getD 32 0) then (bif rlM (bs.getD 30 0) (bs.getD 32 0) (mgB bs) == 0 then 8 else rlM (bs.getD 30 0) (bs.getD 32 0) (mgB bs)) else 0), (bif A6 (bs.getD 27 0) (bs.getD 28 0) (bs.getD 29 0) (bs.getD 30 0) (bs.getD 31 0) (bs.getD 32 0) then rpageOf (getN (bs.getD 27 0)) (getN (bs.getD 28 0)) else 0), (bif A6 (bs.getD 27 0) (bs.getD 28 0) (bs.getD 29 0) (bs.getD 30 0) (bs.getD 31 0) (bs.getD 32 0) then subOf (getN (bs.getD 29 0)) (getN (bs.getD 30 0)) (getN (bs.getD 31 0)) (getN (bs.getD 32 0)) else 0), (bif A6 (bs.getD 33 0) (bs.getD 34 0) (bs.getD 35 0) (bs.getD 36 0) (bs.getD 37 0) (bs.getD 38 0) then (bif rlM (bs.getD 36 0) (bs.getD 38 0) (mgB bs) == 0 then 8 else rlM (bs.getD 36 0) (bs.getD 38 0) (mgB bs)) else 0), (bif A6 (bs.getD 33 0) (bs.getD 34 0) (bs.getD 35 0) (bs.getD 36 0) (bs.getD 37 0) (bs.getD 38 0) then rpageOf (getN (bs.getD 33 0)) (getN (bs.getD 34 0)) else 0), (bif A6 (bs.getD 33 0) (bs.getD 34 0) (bs.getD 35 0) (bs.getD 36 0) (bs.getD 37 0) (bs.getD 38 0) then subOf (getN (bs.getD 35 0)) (getN (bs.getD 36 0)) (getN (bs.getD 37 0)) (getN (bs.getD 38 0)) else 0)]
noncomputable def midO (k c : Int) (ds : List Int) (T : Prop) : Prop := sel (decide (0 + ds.length ≤ ds.length)) ((k ≠ 4 ∨ c ≠ 0) ∧ sel (decide (0 + ds.length ≤ ds.length)) ((k ≠ 4 ∨ c ≠ 0) ∧ (([0, 0, 0, 0, 0, 0, 0, 0, 0, 0, 0, 0, 0, 0, 0, 0, 0, 0] : List Int) = [0, 0, 0, 0, 0, 0, 0, 0, 0, 0, 0, 0, 0, 0, 0, 0, 0, 0] ∧ T)) False) False
theorem says_0 (bs : List Int) (mag code ctl m0 p0 s0 m1 p1 s1 m2 p2 s2 m3 p3 s3 m4 p4 s4 m5 p5 s5 : Int) (R : Out → Prop) : (t_says 0 [.c (.l .u8 bs), .c (.i .i64 mag), .c (.i .i64 code), .ag [.i .i64 m0, .i .i64 p0, .i .i64 s0, .i .i64 m1, .i .i64 p1, .i .i64 s1, .i .i64 m2, .i .i64 p2, .i .i64 s2, .i .i64 m3, .i .i64 p3, .i .i64 s3, .i .i64 m4, .i .i64 p4, .i .i64 s4, .i .i64 m5, .i .i64 p5, .i .i64 s5], .c (.i .i64 ctl)] []).run R =
    sel ((bs.length : Int) != 42) (R (oB true)) ((bs.length = 42 ∧ clsB bs = 0) ∧ ((tailL mag code ctl m0 p0 s0 m1 p1 s1 m2 p2 s2 m3 p3 s3 m4 p4 s4 m5 p5 s5 R))) := by kernel_rfl
theorem says_1 (bs : List Int) (mag code ctl m0 p0 s0 m1 p1 s1 m2 p2 s2 m3 p3 s3 m4 p4 s4 m5 p5 s5 : Int) (R : Out → Prop) : (t_says 1 [.c (.l .u8 bs), .c (.i .i64 mag), .c (.i .i64 code), .ag [.i .i64 m0, .i .i64 p0, .i .i64 s0, .i .i64 m1, .i .i64 p1, .i .i64 s1, .i .i64 m2, .i .i64 p2, .i .i64 s2, .i .i64 m3, .i .i64 p3, .i .i64 s3, .i .i64 m4, .i .i64 p4, .i .i64 s4, .i .i64 m5, .i .i64 p5, .i .i64 s5], .c (.i .i64 ctl)] []).run R =
    sel ((bs.length : Int) != 42) (R (oB true)) ((bs.length = 42 ∧ clsB bs = 1) ∧ ((tailL mag code ctl m0 p0 s0 m1 p1 s1 m2 p2 s2 m3 p3 s3 m4 p4 s4 m5 p5 s5 R))) := by kernel_rfl
theorem says_2 (bs : List Int) (mag code ctl m0 p0 s0 m1 p1 s1 m2 p2 s2 m3 p3 s3 m4 p4 s4 m5 p5 s5 : Int) (R : Out → Prop) : (t_says 2 [.c (.l .u8 bs), .c (.i .i64 mag), .c (.i .i64 code), .ag [.i .i64 m0, .i .i64 p0, .i .i64 s0, .i .i64 m1, .i .i64 p1, .i .i64 s1, .i .i64 m2, .i .i64 p2, .i .i64 s2, .i .i64 m3, .i .i64 p3, .i .i64 s3, .i .i64 m4, .i .i64 p4, .i .i64 s4, .i .i64 m5, .i .i64 p5, .i .i64 s5], .c (.i .i64 ctl)] []).run R =
    sel ((bs.length : Int) != 42) (R (oB true)) ((bs.length = 42 ∧ clsB bs = 2) ∧ ((4 = (4 : Int) ∧ 0 = (0 : Int) ∧ 36 ≤ (d39 bs).length ∧ (d39 bs).length < 1000) ∧ (xs18 bs = ys18 bs ∧ (tailL mag code ctl m0 p0 s0 m1 p1 s1 m2 p2 s2 m3 p3 s3 m4 p4 s4 m5 p5 s5 R)))) := by kernel_rfl
theorem says_3 (bs : List Int) (mag code ctl m0 p0 s0 m1 p1 s1 m2 p2 s2 m3 p3 s3 m4 p4 s4 m5 p5 s5 : Int) (R : Out → Prop) : (t_says 3 [.c (.l .u8 bs), .c (.i .i64 mag), .c (.i .i64 code), .ag [.i .i64 m0, .i .i64 p0, .i .i64 s0, .i .i64 m1, .i .i64 p1, .i .i64 s1, .i .i64 m2, .i .i64 p2, .i .i64 s2, .i .i64 m3, .i .i64 p3, .i .i64 s3, .i .i64 m4, .i .i64 p4, .i .i64 s4, .i .i64 m5, .i .i64 p5, .i .i64 s5], .c (.i .i64 ctl)] []).run R =
    sel ((bs.length : Int) != 42) (R (oB true)) ((bs.length = 42 ∧ clsB bs = 3) ∧ (midO (kindF (raB bs)) (ncB bs) ((bs.drop 2).drop 1) (tailL mag code ctl m0 p0 s0 m1 p1 s1 m2 p2 s2 m3 p3 s3 m4 p4 s4 m5 p5 s5 R))) := by kernel_rfl
theorem says_4 (bs : List Int) (mag code ctl m0 p0 s0 m1 p1 s1 m2 p2 s2 m3 p3 s3 m4 p4 s4 m5 p5 s5 : Int) (R : Out → Prop) : (t_says 4 [.c (.l .u8 bs), .c (.i .i64 mag), .c (.i .i64 code), .ag [.i .i64 m0, .i .i64 p0, .i .i64 s0, .i .i64 m1, .i .i64 p1, .i .i64 s1, .i .i64 m2, .i .i64 p2, .i .i64 s2, .i .i64 m3, .i .i64 p3, .i .i64 s3, .i .i64 m4, .i .i64 p4, .i .i64 s4, .i .i64 m5, .i .i64 p5, .i .i64 s5], .c (.i .i64 ctl)] []).run R =
    sel ((bs.length : Int) != 42) (R (oB true)) ((bs.length = 42 ∧ clsB bs = 4) ∧ (midO (kindF (raB bs)) 0 (bs.drop 2) (tailL mag code ctl m0 p0 s0 m1 p1 s1 m2 p2 s2 m3 p3 s3 m4 p4 s4 m5 p5 s5 R))) := by kernel_rfl
end Go.Proofs.YthjdlanmfiofdaaDoor.ls

namespace Go.Proofs.YthjdlanmfiofdaaDoor.ls
open Go Go.Nx Go.Proofs.YthjdlanmfiofdaaDoor.pk Go.Proofs.YthjdlanmfiofdaaDoor.ln Go.Proofs.YthjdlanmfiofdaaDoor.hd Go.Proofs.YthjdlanmfiofdaaDoor.lb

def isT (o : Out) : Prop := o.res = .v (.c (.b true))
theorem box_holds {t : Tr Out} {R : Out → Prop} (h : Box (t.run R)) : Holds t R := ⟨h.out⟩
def In64 (s : Int) : Prop := -9223372036854775808 ≤ s ∧ s < 9223372036854775808
theorem fair_right {m p s : Int} (hs : In64 s) : fairB m p s = rightB m p s := by
  unfold fairB rightB
  congr 1
  congr 1
  congr 1
  congr 1
  cases h : (bits .andNot .i64 s 16255 == 0) with
  | false => rw [Bool.and_false]
  | true =>
    rw [beq_iff_eq, andNot_iff s hs] at h
    rw [dT h.1]
    rfl
theorem oI_comm (a b : Int) : oI a b = oI b a := by
  show IntKind.i64.wrap ((BitVec.ofInt 64 a ||| BitVec.ofInt 64 b).toNat : Nat) = IntKind.i64.wrap ((BitVec.ofInt 64 b ||| BitVec.ofInt 64 a).toNat : Nat)
  rw [BitVec.or_comm]
theorem getN_in (b : Int) : 0 ≤ getN b ∧ getN b < 16 := by
  unfold getN
  cases h : get b with
  | none => exact ⟨by decide, by decide⟩
  | some n =>
    have := List.mem_of_find?_eq_some h
    rw [List.mem_range] at this
    show 0 ≤ (n : Int) ∧ (n : Int) < 16
    omega
theorem magOf_all : ∀ n < 16, 1 ≤ magOf (Int.ofNat n) ∧ magOf (Int.ofNat n) ≤ 8 := by decide +kernel
theorem mgB_in (bs : List Int) : 1 ≤ mgB bs ∧ mgB bs ≤ 8 := by
  have h := getN_in (bs.getD 0 0)
  have := magOf_all (getN (bs.getD 0 0)).toNat (by omega)
  have e : Int.ofNat (getN (bs.getD 0 0)).toNat = getN (bs.getD 0 0) := by show (((getN (bs.getD 0 0)).toNat : Nat) : Int) = _; omega
  rw [e] at this
  exact this
theorem mags_all : ∀ g < 8, ∀ b < 8, magOf (bits .xor .i64 (aI (Int.ofNat g + 1) 7) (Int.ofNat b)) = (bif bits .xor .i64 ((Int.ofNat g + 1).tmod 8) (Int.ofNat b) == 0 then 8 else bits .xor .i64 ((Int.ofNat g + 1).tmod 8) (Int.ofNat b)) := by decide +kernel
theorem mags_eq (m d f : Int) (hm : 1 ≤ m ∧ m ≤ 8) : magOf (bits .xor .i64 (aI m 7) (oI (shrv .i64 (getN d) 3) (shlv .i64 (shrv .i64 (getN f) 2) 1))) = (bif rlM d f m == 0 then 8 else rlM d f m) := by
  have hd := getN_in d
  have hf := getN_in f
  unfold rlM
  rw [sh_3, sh_2, or1 _ _ (by omega) (by omega) (by omega) (by omega)]
  have hb : 0 ≤ getN d / 8 + getN f / 4 * 2 ∧ getN d / 8 + getN f / 4 * 2 < 8 := by omega
  generalize getN d / 8 + getN f / 4 * 2 = b at *
  have := mags_all (m - 1).toNat (by omega) b.toNat (by omega)
  have e1 : Int.ofNat (m - 1).toNat + 1 = m := by show (((m - 1).toNat : Nat) : Int) + 1 = m; omega
  have e2 : Int.ofNat b.toNat = b := by show ((b.toNat : Nat) : Int) = b; omega
  rwa [e1, e2] at this
theorem all_0 (bs : List Int) : asF ([0, 1, 2, 3, 4, 5].map (ALLg (d39 bs))) 0 = A6 (bs.getD 3 0) (bs.getD 4 0) (bs.getD 5 0) (bs.getD 6 0) (bs.getD 7 0) (bs.getD 8 0) := by kernel_rfl
theorem lkM_0 (bs : List Int) (m : Int) : lkM m (d39 bs) 0 = magOf (bits .xor .i64 (aI m 7) (oI (shrv .i64 (getN (bs.getD 6 0)) 3) (shlv .i64 (shrv .i64 (getN (bs.getD 8 0)) 2) 1))) := by kernel_rfl
theorem lkP_0 (bs : List Int) : lkP (d39 bs) 0 = oI (getN (bs.getD 3 0)) (shlv .i64 (getN (bs.getD 4 0)) 4) := by kernel_rfl
theorem lkS_0 (bs : List Int) : lkS (d39 bs) 0 = subOf (getN (bs.getD 5 0)) (getN (bs.getD 6 0)) (getN (bs.getD 7 0)) (getN (bs.getD 8 0)) := by kernel_rfl
theorem all_1 (bs : List Int) : asF ([0, 1, 2, 3, 4, 5].map (ALLg (d39 bs))) 1 = A6 (bs.getD 9 0) (bs.getD 10 0) (bs.getD 11 0) (bs.getD 12 0) (bs.getD 13 0) (bs.getD 14 0) := by kernel_rfl
theorem lkM_1 (bs : List Int) (m : Int) : lkM m (d39 bs) 1 = magOf (bits .xor .i64 (aI m 7) (oI (shrv .i64 (getN (bs.getD 12 0)) 3) (shlv .i64 (shrv .i64 (getN (bs.getD 14 0)) 2) 1))) := by kernel_rfl
theorem lkP_1 (bs : List Int) : lkP (d39 bs) 1 = oI (getN (bs.getD 9 0)) (shlv .i64 (getN (bs.getD 10 0)) 4) := by kernel_rfl
theorem lkS_1 (bs : List Int) : lkS (d39 bs) 1 = subOf (getN (bs.getD 11 0)) (getN (bs.getD 12 0)) (getN (bs.getD 13 0)) (getN (bs.getD 14 0)) := by kernel_rfl
theorem all_2 (bs : List Int) : asF ([0, 1, 2, 3, 4, 5].map (ALLg (d39 bs))) 2 = A6 (bs.getD 15 0) (bs.getD 16 0) (bs.getD 17 0) (bs.getD 18 0) (bs.getD 19 0) (bs.getD 20 0) := by kernel_rfl
theorem lkM_2 (bs : List Int) (m : Int) : lkM m (d39 bs) 2 = magOf (bits .xor .i64 (aI m 7) (oI (shrv .i64 (getN (bs.getD 18 0)) 3) (shlv .i64 (shrv .i64 (getN (bs.getD 20 0)) 2) 1))) := by kernel_rfl
theorem lkP_2 (bs : List Int) : lkP (d39 bs) 2 = oI (getN (bs.getD 15 0)) (shlv .i64 (getN (bs.getD 16 0)) 4) := by kernel_rfl
theorem lkS_2 (bs : List Int) : lkS (d39 bs) 2 = subOf (getN (bs.getD 17 0)) (getN (bs.getD 18 0)) (getN (bs.getD 19 0)) (getN (bs.getD 20 0)) := by kernel_rfl
theorem all_3 (bs : List Int) : asF ([0, 1, 2, 3, 4, 5].map (ALLg (d39 bs))) 3 = A6 (bs.getD 21 0) (bs.getD 22 0) (bs.getD 23 0) (bs.getD 24 0) (bs.getD 25 0) (bs.getD 26 0) := by kernel_rfl
theorem lkM_3 (bs : List Int) (m : Int) : lkM m (d39 bs) 3 = magOf (bits .xor .i64 (aI m 7) (oI (shrv .i64 (getN (bs.getD 24 0)) 3) (shlv .i64 (shrv .i64 (getN (bs.getD 26 0)) 2) 1))) := by kernel_rfl
theorem lkP_3 (bs : List Int) : lkP (d39 bs) 3 = oI (getN (bs.getD 21 0)) (shlv .i64 (getN (bs.getD 22 0)) 4) := by kernel_rfl
theorem lkS_3 (bs : List Int) : lkS (d39 bs) 3 = subOf (getN (bs.getD 23 0)) (getN (bs.getD 24 0)) (getN (bs.getD 25 0)) (getN (bs.getD 26 0)) := by kernel_rfl
theorem all_4 (bs : List Int) : asF ([0, 1, 2, 3, 4, 5].map (ALLg (d39 bs))) 4 = A6 (bs.getD 27 0) (bs.getD 28 0) (bs.getD 29 0) (bs.getD 30 0) (bs.getD 31 0) (bs.getD 32 0) := by kernel_rfl
theorem lkM_4 (bs : List Int) (m : Int) : lkM m (d39 bs) 4 = magOf (bits .xor .i64 (aI m 7) (oI (shrv .i64 (getN (bs.getD 30 0)) 3) (shlv .i64 (shrv .i64 (getN (bs.getD 32 0)) 2) 1))) := by kernel_rfl
theorem lkP_4 (bs : List Int) : lkP (d39 bs) 4 = oI (getN (bs.getD 27 0)) (shlv .i64 (getN (bs.getD 28 0)) 4) := by kernel_rfl
theorem lkS_4 (bs : List Int) : lkS (d39 bs) 4 = subOf (getN (bs.getD 29 0)) (getN (bs.getD 30 0)) (getN (bs.getD 31 0)) (getN (bs.getD 32 0)) := by kernel_rfl
theorem all_5 (bs : List Int) : asF ([0, 1, 2, 3, 4, 5].map (ALLg (d39 bs))) 5 = A6 (bs.getD 33 0) (bs.getD 34 0) (bs.getD 35 0) (bs.getD 36 0) (bs.getD 37 0) (bs.getD 38 0) := by kernel_rfl
theorem lkM_5 (bs : List Int) (m : Int) : lkM m (d39 bs) 5 = magOf (bits .xor .i64 (aI m 7) (oI (shrv .i64 (getN (bs.getD 36 0)) 3) (shlv .i64 (shrv .i64 (getN (bs.getD 38 0)) 2) 1))) := by kernel_rfl
theorem lkP_5 (bs : List Int) : lkP (d39 bs) 5 = oI (getN (bs.getD 33 0)) (shlv .i64 (getN (bs.getD 34 0)) 4) := by kernel_rfl
theorem lkS_5 (bs : List Int) : lkS (d39 bs) 5 = subOf (getN (bs.getD 35 0)) (getN (bs.getD 36 0)) (getN (bs.getD 37 0)) (getN (bs.getD 38 0)) := by kernel_rfl
theorem links_same (bs : List Int) : xs18 bs = ys18 bs := by
  have hm := mgB_in bs
  unfold xs18 ys18 rpageOf
  rw [all_0 bs, lkM_0 bs, lkP_0 bs, lkS_0 bs, all_1 bs, lkM_1 bs, lkP_1 bs, lkS_1 bs, all_2 bs, lkM_2 bs, lkP_2 bs, lkS_2 bs, all_3 bs, lkM_3 bs, lkP_3 bs, lkS_3 bs, all_4 bs, lkM_4 bs, lkP_4 bs, lkS_4 bs, all_5 bs, lkM_5 bs, lkP_5 bs, lkS_5 bs]
  rw [mags_eq (mgB bs) (bs.getD 6 0) (bs.getD 8 0) hm, mags_eq (mgB bs) (bs.getD 12 0) (bs.getD 14 0) hm, mags_eq (mgB bs) (bs.getD 18 0) (bs.getD 20 0) hm, mags_eq (mgB bs) (bs.getD 24 0) (bs.getD 26 0) hm, mags_eq (mgB bs) (bs.getD 30 0) (bs.getD 32 0) hm, mags_eq (mgB bs) (bs.getD 36 0) (bs.getD 38 0) hm]
  rw [oI_comm (getN (bs.getD 3 0)), oI_comm (getN (bs.getD 9 0)), oI_comm (getN (bs.getD 15 0)), oI_comm (getN (bs.getD 21 0)), oI_comm (getN (bs.getD 27 0)), oI_comm (getN (bs.getD 33 0))]
theorem kind4 {r : Int} (h : kindF r = 4) : r = 27 := by
  unfold kindF at h
  by_cases h0 : r = 0
  · rw [dT h0] at h
    have h : (1 : Int) = 4 := h
    exact absurd h (by decide)
  · rw [dF h0] at h
    by_cases h1 : r ≥ 1 ∧ r ≤ 24
    · rw [dT h1.1, dT h1.2] at h
      have h : (2 : Int) = 4 := h
      exact absurd h (by decide)
    · have e : (decide (r ≥ 1) && decide (r ≤ 24)) = false := by
        rw [← Bool.not_eq_true, Bool.and_eq_true, decide_eq_true_eq, decide_eq_true_eq]
        exact h1
      rw [e] at h
      by_cases h2 : r ≥ 26 ∧ r ≤ 30
      · rw [dT h2.1, dT h2.2] at h
        have h : r - 23 = 4 := h
        omega
      · have e : (decide (r ≥ 26) && decide (r ≤ 30)) = false := by
          rw [← Bool.not_eq_true, Bool.and_eq_true, decide_eq_true_eq, decide_eq_true_eq]
          exact h2
        rw [e] at h
        have h : (0 : Int) = 4 := h
        exact absurd h (by decide)
theorem cls3 {bs : List Int} (h : clsB bs = 3) : kindF (raB bs) ≠ 4 ∨ ncB bs ≠ 0 := by
  by_cases hn : ncB bs = 0
  · refine .inl fun hk => ?_
    have hr := kind4 hk
    unfold clsB at h
    rw [dT hr, dT hn, hk] at h
    revert h
    cases gaB bs <;> cases decide (raB bs ≥ 26) <;> cases gcB bs <;> decide
  · exact .inr hn
theorem cls4 {bs : List Int} (h : clsB bs = 4) : kindF (raB bs) ≠ 4 ∨ (0 : Int) ≠ 0 := by
  refine .inl fun hk => ?_
  have hr := kind4 hk
  unfold clsB at h
  rw [hk, dT (show raB bs ≥ 26 by omega)] at h
  revert h
  cases gaB bs <;> cases gcB bs <;> cases (decide (raB bs = 27) && decide (ncB bs = 0)) <;> decide
theorem cls_in (bs : List Int) : clsB bs = 0 ∨ clsB bs = 1 ∨ clsB bs = 2 ∨ clsB bs = 3 ∨ clsB bs = 4 := by
  unfold clsB
  cases gaB bs <;> cases decide (kindF (raB bs) = 0) <;> cases decide (raB bs ≥ 26) <;> cases gcB bs <;> cases (decide (raB bs = 27) && decide (ncB bs = 0)) <;> decide
theorem grp_eq {mag m : Int} (p s : Int) (hg : 1 ≤ mag ∧ mag ≤ 8) (hm : 1 ≤ m ∧ m ≤ 8) : plN p s (rbt mag m) = grpN mag m p s := by
  rw [rbt_eq mag m hg hm]
  rfl
theorem adr1_27 : put 13 = adr1 27 := by decide +kernel
theorem tail_in {mag code ctl m0 p0 s0 m1 p1 s1 m2 p2 s2 m3 p3 s3 m4 p4 s4 m5 p5 s5 : Int} (h0 : In64 s0) ( h1 : In64 s1) ( h2 : In64 s2) ( h3 : In64 s3) ( h4 : In64 s4) ( h5 : In64 s5) : tailL mag code ctl m0 p0 s0 m1 p1 s1 m2 p2 s2 m3 p3 s3 m4 p4 s4 m5 p5 s5 isT := by
  have e : okL mag code ctl m0 p0 s0 m1 p1 s1 m2 p2 s2 m3 p3 s3 m4 p4 s4 m5 p5 s5 = okR mag code ctl m0 p0 s0 m1 p1 s1 m2 p2 s2 m3 p3 s3 m4 p4 s4 m5 p5 s5 := by
    unfold okL okR
    rw [fair_right h0, fair_right h1, fair_right h2, fair_right h3, fair_right h4, fair_right h5]
  have z : isT (oB (someB m0 p0 == someB m0 p0)) := by
    rw [beq_self_eq_true]
    rfl
  unfold tailL
  rw [e]
  cases h : okR mag code ctl m0 p0 s0 m1 p1 s1 m2 p2 s2 m3 p3 s3 m4 p4 s4 m5 p5 s5 with
  | false => exact selF rfl (selF rfl z)
  | true =>
    have hh := h
    unfold okR at hh
    simp only [Bool.and_eq_true, decide_eq_true_eq] at hh
    obtain ⟨hc, r0, r1, r2, r3, r4, r5⟩ := hh
    have hg : 1 ≤ mag ∧ mag ≤ 8 := ⟨hc.1, hc.2.1⟩
    refine selT rfl (selT rfl ⟨⟨?_, by show 42 ≤ 1000000; decide⟩, z⟩)
    unfold LA LR
    rw [(radr_in mag hg).2, adr1_27]
    unfold rlN
    rw [grp_eq p0 s0 hg (right_in r0).1, grp_eq p1 s1 hg (right_in r1).1, grp_eq p2 s2 hg (right_in r2).1, grp_eq p3 s3 hg (right_in r3).1, grp_eq p4 s4 hg (right_in r4).1, grp_eq p5 s5 hg (right_in r5).1]
    rfl
theorem midO_in {k c : Int} {ds : List Int} {T : Prop} (h : k ≠ 4 ∨ c ≠ 0) (hT : T) : midO k c ds T :=
  selT (dT (by omega)) ⟨h, selT (dT (by omega)) ⟨h, rfl, hT⟩⟩
/-- One of several trees, by what came in. -/
theorem Known_pick {P : Program} {gl : List Nat} {f : FuncId} {ι : Type} {T : ι → Con} (h : ∀ i, Known P gl f (T i)) (p : List NV → List Reg → ι) (i0 : ι) : Known P gl f fun args regs => T (p args regs) args regs :=
  ⟨(h i0).goes, fun args regs R hR => (h (p args regs)).sound args regs R hR⟩
noncomputable def pickL : List NV → List Reg → Nat
  | .c (.l _ bs) :: _, _ => clsB bs
  | _, _ => 0
noncomputable def tSays : Con := fun args regs => t_says (pickL args regs) args regs
theorem kSays : Known Tryd.prog GL 3 tSays := Known_pick (T := fun i => t_says i) (fun i => k_says i) pickL 0
theorem says_run (bs : List Int) (mag code ctl m0 p0 s0 m1 p1 s1 m2 p2 s2 m3 p3 s3 m4 p4 s4 m5 p5 s5 : Int) {j : Nat} (hj : clsB bs = j) (h : Box ((t_says j [.c (.l .u8 bs), .c (.i .i64 mag), .c (.i .i64 code), .ag [.i .i64 m0, .i .i64 p0, .i .i64 s0, .i .i64 m1, .i .i64 p1, .i .i64 s1, .i .i64 m2, .i .i64 p2, .i .i64 s2, .i .i64 m3, .i .i64 p3, .i .i64 s3, .i .i64 m4, .i .i64 p4, .i .i64 s4, .i .i64 m5, .i .i64 p5, .i .i64 s5], .c (.i .i64 ctl)] []).run isT)) : Box ((tSays [.c (.l .u8 bs), .c (.i .i64 mag), .c (.i .i64 code), .ag [.i .i64 m0, .i .i64 p0, .i .i64 s0, .i .i64 m1, .i .i64 p1, .i .i64 s1, .i .i64 m2, .i .i64 p2, .i .i64 s2, .i .i64 m3, .i .i64 p3, .i .i64 s3, .i .i64 m4, .i .i64 p4, .i .i64 s4, .i .i64 m5, .i .i64 p5, .i .i64 s5], .c (.i .i64 ctl)] []).run isT) := by
  have e : tSays [.c (.l .u8 bs), .c (.i .i64 mag), .c (.i .i64 code), .ag [.i .i64 m0, .i .i64 p0, .i .i64 s0, .i .i64 m1, .i .i64 p1, .i .i64 s1, .i .i64 m2, .i .i64 p2, .i .i64 s2, .i .i64 m3, .i .i64 p3, .i .i64 s3, .i .i64 m4, .i .i64 p4, .i .i64 s4, .i .i64 m5, .i .i64 p5, .i .i64 s5], .c (.i .i64 ctl)] [] = t_says j [.c (.l .u8 bs), .c (.i .i64 mag), .c (.i .i64 code), .ag [.i .i64 m0, .i .i64 p0, .i .i64 s0, .i .i64 m1, .i .i64 p1, .i .i64 s1, .i .i64 m2, .i .i64 p2, .i .i64 s2, .i .i64 m3, .i .i64 p3, .i .i64 s3, .i .i64 m4, .i .i64 p4, .i .i64 s4, .i .i64 m5, .i .i64 p5, .i .i64 s5], .c (.i .i64 ctl)] [] := by
    show t_says (clsB bs) _ _ = _
    rw [hj]
  rw [e]
  exact h
theorem len_in {bs : List Int} {A B : Prop} (hA : A) (hB : bs.length = 42 → B) : sel ((bs.length : Int) != 42) A B := by
  by_cases h : bs.length = 42
  · exact selF (by simp [bne, h]) (hB h)
  · exact selT (by rw [bne_iff_ne]; omega) hA
theorem says_true (bs : List Int) (mag code ctl m0 p0 s0 m1 p1 s1 m2 p2 s2 m3 p3 s3 m4 p4 s4 m5 p5 s5 : Int) (h0 : In64 s0) ( h1 : In64 s1) ( h2 : In64 s2) ( h3 : In64 s3) ( h4 : In64 s4) ( h5 : In64 s5) : Box ((tSays [.c (.l .u8 bs), .c (.i .i64 mag), .c (.i .i64 code), .ag [.i .i64 m0, .i .i64 p0, .i .i64 s0, .i .i64 m1, .i .i64 p1, .i .i64 s1, .i .i64 m2, .i .i64 p2, .i .i64 s2, .i .i64 m3, .i .i64 p3, .i .i64 s3, .i .i64 m4, .i .i64 p4, .i .i64 s4, .i .i64 m5, .i .i64 p5, .i .i64 s5], .c (.i .i64 ctl)] []).run isT) := by
  have ht : tailL mag code ctl m0 p0 s0 m1 p1 s1 m2 p2 s2 m3 p3 s3 m4 p4 s4 m5 p5 s5 isT := tail_in h0 h1 h2 h3 h4 h5
  rcases cls_in bs with h | h | h | h | h
  · exact says_run bs mag code ctl m0 p0 s0 m1 p1 s1 m2 p2 s2 m3 p3 s3 m4 p4 s4 m5 p5 s5 h (Box.of_eq (says_0 bs mag code ctl m0 p0 s0 m1 p1 s1 m2 p2 s2 m3 p3 s3 m4 p4 s4 m5 p5 s5 isT) (len_in rfl fun hl => ⟨⟨hl, h⟩, ht⟩))
  · exact says_run bs mag code ctl m0 p0 s0 m1 p1 s1 m2 p2 s2 m3 p3 s3 m4 p4 s4 m5 p5 s5 h (Box.of_eq (says_1 bs mag code ctl m0 p0 s0 m1 p1 s1 m2 p2 s2 m3 p3 s3 m4 p4 s4 m5 p5 s5 isT) (len_in rfl fun hl => ⟨⟨hl, h⟩, ht⟩))
  · exact says_run bs mag code ctl m0 p0 s0 m1 p1 s1 m2 p2 s2 m3 p3 s3 m4 p4 s4 m5 p5 s5 h (Box.of_eq (says_2 bs mag code ctl m0 p0 s0 m1 p1 s1 m2 p2 s2 m3 p3 s3 m4 p4 s4 m5 p5 s5 isT) (len_in rfl fun hl => ⟨⟨hl, h⟩, ⟨rfl, rfl, by show 36 ≤ 39; decide, by show 39 < 1000; decide⟩, links_same bs, ht⟩))
  · exact says_run bs mag code ctl m0 p0 s0 m1 p1 s1 m2 p2 s2 m3 p3 s3 m4 p4 s4 m5 p5 s5 h (Box.of_eq (says_3 bs mag code ctl m0 p0 s0 m1 p1 s1 m2 p2 s2 m3 p3 s3 m4 p4 s4 m5 p5 s5 isT) (len_in rfl fun hl => ⟨⟨hl, h⟩, midO_in (cls3 h) ht⟩))
  · exact says_run bs mag code ctl m0 p0 s0 m1 p1 s1 m2 p2 s2 m3 p3 s3 m4 p4 s4 m5 p5 s5 h (Box.of_eq (says_4 bs mag code ctl m0 p0 s0 m1 p1 s1 m2 p2 s2 m3 p3 s3 m4 p4 s4 m5 p5 s5 isT) (len_in rfl fun hl => ⟨⟨hl, h⟩, midO_in (cls4 h) ht⟩))
theorem wf_in {n : Int} (h : (Lit.int .i64 n).wf = true) : In64 n := by
  simp only [Lit.wf, Bool.and_eq_true, decide_eq_true_eq] at h
  have h1 : IntKind.i64.min = -9223372036854775808 := rfl
  have h2 : IntKind.i64.max = 9223372036854775807 := rfl
  rw [h1, h2] at h
  unfold In64
  omega
theorem okSc_in {x : Sc} (h : okSc (.i .i64) x) : In64 x.n := by
  cases x with
  | i n => exact wf_in h
  | b y => exact h.elim
def k18 : List CK := [.i .i64, .i .i64, .i .i64, .i .i64, .i .i64, .i .i64, .i .i64, .i .i64, .i .i64, .i .i64, .i .i64, .i .i64, .i .i64, .i .i64, .i .i64, .i .i64, .i .i64, .i .i64]
def shsL : List Sh := [.row .u8, .i .i64, .i .i64, .ag k18, .i .i64]
theorem row_get {ks : List CK} {row : List Sc} (h : R2 okSc ks row) (j : Nat) (k : CK) (hk : ks[j]? = some k) : okSc k (row.getD j (Sc.i 0)) := by
  induction h generalizing j with
  | nil => cases hk
  | @cons a b la lb hab _ ih =>
    cases j with
    | zero =>
      have : a = k := by simpa using hk
      subst this
      exact hab
    | succ j => exact ih j (by simpa using hk)
theorem row18 (row : List Sc) : rowCells k18 row = [.i .i64 (row.getD 0 (Sc.i 0)).n, .i .i64 (row.getD 1 (Sc.i 0)).n, .i .i64 (row.getD 2 (Sc.i 0)).n, .i .i64 (row.getD 3 (Sc.i 0)).n, .i .i64 (row.getD 4 (Sc.i 0)).n, .i .i64 (row.getD 5 (Sc.i 0)).n, .i .i64 (row.getD 6 (Sc.i 0)).n, .i .i64 (row.getD 7 (Sc.i 0)).n, .i .i64 (row.getD 8 (Sc.i 0)).n, .i .i64 (row.getD 9 (Sc.i 0)).n, .i .i64 (row.getD 10 (Sc.i 0)).n, .i .i64 (row.getD 11 (Sc.i 0)).n, .i .i64 (row.getD 12 (Sc.i 0)).n, .i .i64 (row.getD 13 (Sc.i 0)).n, .i .i64 (row.getD 14 (Sc.i 0)).n, .i .i64 (row.getD 15 (Sc.i 0)).n, .i .i64 (row.getD 16 (Sc.i 0)).n, .i .i64 (row.getD 17 (Sc.i 0)).n] := by kernel_rfl
theorem says_law (xs : List NV) (h : R2 ShOk shsL xs) : Holds (tSays xs []) fun o => o.res = .v (.c (.b true)) := by
  cases h with
  | cons h1 h =>
    cases h with
    | cons h2 h =>
      cases h with
      | cons h3 h =>
        cases h with
        | cons h4 h =>
          cases h with
          | cons h5 h =>
            cases h
            cases h1 with
            | @row _ bs _ =>
              cases h2 with
              | @i _ n2 _ =>
                cases h3 with
                | @i _ n3 _ =>
                  cases h4 with
                  | @ag _ row hr =>
                    cases h5 with
                    | @i _ n5 _ =>
                      rw [row18]
                      exact box_holds (R := isT) (says_true bs n2 n3 n5 (row.getD 0 (Sc.i 0)).n (row.getD 1 (Sc.i 0)).n (row.getD 2 (Sc.i 0)).n (row.getD 3 (Sc.i 0)).n (row.getD 4 (Sc.i 0)).n (row.getD 5 (Sc.i 0)).n (row.getD 6 (Sc.i 0)).n (row.getD 7 (Sc.i 0)).n (row.getD 8 (Sc.i 0)).n (row.getD 9 (Sc.i 0)).n (row.getD 10 (Sc.i 0)).n (row.getD 11 (Sc.i 0)).n (row.getD 12 (Sc.i 0)).n (row.getD 13 (Sc.i 0)).n (row.getD 14 (Sc.i 0)).n (row.getD 15 (Sc.i 0)).n (row.getD 16 (Sc.i 0)).n (row.getD 17 (Sc.i 0)).n (okSc_in (row_get hr 2 (.i .i64) rfl)) (okSc_in (row_get hr 5 (.i .i64) rfl)) (okSc_in (row_get hr 8 (.i .i64) rfl)) (okSc_in (row_get hr 11 (.i .i64) rfl)) (okSc_in (row_get hr 14 (.i .i64) rfl)) (okSc_in (row_get hr 17 (.i .i64) rfl)))
end Go.Proofs.YthjdlanmfiofdaaDoor.ls
