/-
  The lexer: a byte behind a beginning, as one contract; which sequence is asked for, as literals.
-/
import Derived.Test.YtnhadghddkgjdaaLexE
namespace Go.Proofs.Ytnhadghddkgjdaa.lex
open Go Go.Nx Go.RowKit

noncomputable def byteF (b s : Int) (P : List Int) : Tr Out :=
  match P with
  | [p] => if p = 31 then .must (okC b) (.ret (went s [31, cB b])) else
      if p = 18 then .must (okC b) (.ret (ended (evt 7 (low6 (cB b)) 0 0 0 0 0) s [18])) else
      if p = 25 then .must (okC b ∧ cB b = 66) (.ret (went s [25, cB b])) else
      if p = 27 then .br (decide (cB b = 91 ∨ (57 ≤ cB b ∧ cB b ≤ 59))) (.must (okC b) (.ret (went s [27, cB b]))) (.must (okC b ∧ 64 ≤ cB b ∧ cB b ≤ 95) (.ret (ended (evt 6 (w64 (cB b)) 0 0 0 0 0) s [27]))) else .fail
  | [p, q] => if p = 31 then .must (okC b ∧ 64 ≤ q ∧ 64 ≤ cB b) (.ret (ended (evt 5 (low6 q) (low6 (cB b)) 0 0 0 0) s [31, q])) else
      if p = 25 then .must (okC b) (.ret (ended (evt 1 (w64 q) 0 0 0 2 (w64 (cB b))) s [25, q])) else
      if p = 27 then (if q = 57 then .must (okC b) (.ret (ended0 (evt 10 1 (w64 (cB b)) 0 0 0 0) s)) else
        if q = 58 then .must (okC b) (.ret (went s [27, 58, cB b])) else
        if q = 59 then .must (okC b) (.ret (went s [27, 59, cB b])) else
        if q = 91 then .must (okC b ∧ 48 ≤ cB b ∧ cB b < 64) (.ret (went s [27, 91, cB b])) else .fail) else .fail
  | [p, q, r] => if p = 27 then (if q = 58 then .must (okC b) (.ret (ended0 (evt 10 2 (w64 r) (w64 (cB b)) 0 0 0) s)) else
        if q = 59 then .must (okC b) (.ret (went s [27, 59, r, cB b])) else
        if q = 91 then .must (okC b ∧ 48 ≤ cB b ∧ cB b < 64) (.ret (went s [27, 91, r, cB b])) else .fail) else .fail
  | [p, q, r, t] => if p = 27 then (if q = 59 then .must (okC b) (.ret (ended0 (evt 10 3 (w64 r) (w64 t) (w64 (cB b)) 0 0) s)) else
        if q = 91 then .must (okC b ∧ 48 ≤ cB b ∧ cB b < 64) (.ret (went s [27, 91, r, t, cB b])) else .fail) else .fail
  | [p, q, r, t, u] => if p = 27 then (if q = 91 then .must (okC b ∧ 48 ≤ cB b ∧ cB b < 64) (.ret (went s [27, 91, r, t, u, cB b])) else .fail) else .fail
  | [p, q, r, t, u, v] => if p = 27 then (if q = 91 then .must ((okC b ∧ cB b = 72) ∧ InBytes [r, t, u, v]) (.ret (ended (evt 5 (mx (min99 (nums [r, t, u, v] 0 0 0).1)) (mx (min99 (nums [r, t, u, v] 0 0 0).2)) 0 0 0 0) s [27, 91, r, t, u, v])) else .fail) else .fail
  | _ => .fail
theorem at_in {b : Int} {A : Prop} (h : okC b) (hA : A) : at32 b A := by
  have := h.2
  exact ⟨h.1, sel_iff.2 (.inr ⟨by rw [decide_eq_false_iff_not]; omega, hA⟩)⟩
theorem selT {c : Bool} {A B : Prop} (h : c = true) (hA : A) : sel c A B := sel_iff.2 (.inl ⟨h, hA⟩)
theorem selF {c : Bool} {A B : Prop} (h : c = false) (hB : B) : sel c A B := sel_iff.2 (.inr ⟨h, hB⟩)
theorem dT {p : Prop} [Decidable p] (h : p) : decide p = true := decide_eq_true h
theorem dF {p : Prop} [Decidable p] (h : ¬ p) : decide p = false := decide_eq_false h
theorem bF {x y : Int} (h : x ≠ y) : (x == y) = false := by rw [beq_eq_false_iff_ne]; exact h
theorem bT {x y : Int} (h : x = y) : (x == y) = true := by rw [beq_iff_eq]; exact h
theorem sq_go {b s : Int} {P P' ds : List Int} {R : Out → Prop} (h : okC b ∧ 48 ≤ cB b ∧ cB b < 64) (hR : R (went s P')) : sq b s P P' ds R :=
  at_in h.1 (selT (dT h.2.1) (selT (dT h.2.2) hR))
theorem sq_H {b s : Int} {P P' ds : List Int} {R : Out → Prop} (h : okC b) (hc : cB b = 72) (hl : ds.length ≤ 100) (hd : InBytes ds) (hR : R (ended (evt 5 (mx (min99 (nums ds 0 0 0).1)) (mx (min99 (nums ds 0 0 0).2)) 0 0 0 0) s P)) : sq b s P P' ds R := by
  unfold sq swH
  rw [hc]
  exact at_in h (selT rfl (selF rfl (selF rfl (selF rfl ⟨⟨hl, hd⟩, selF rfl (selF rfl (selF rfl (selF rfl (selT rfl hR))))⟩))))
theorem esc_in {b s : Int} {R : Out → Prop} (h : 64 ≤ cB b ∧ cB b ≤ 95) (hR : R (ended (evt 6 (w64 (cB b)) 0 0 0 0 0) s [27])) : esc b s R := selT (dT h.1) (selT (dT h.2) hR)
set_option maxRecDepth 100000 in
theorem byteF_ok (b s : Int) (P : List Int) (R : Out → Prop) (h : (byteF b s P).run R) : byteL b s P R := by
  unfold byteF at h
  split at h
  · rename_i p
    split at h
    · rename_i e; subst e; rw [e31]; exact at_in h.1 h.2
    split at h
    · rename_i e; subst e; rw [e18]; exact at_in h.1 h.2
    split at h
    · rename_i e; subst e; rw [e25]
      have hc := h.1.2
      exact at_in h.1.1 (selF (bF (by omega)) (selT (bT hc) h.2))
    split at h
    · rename_i e; subst e; rw [e27]
      have h' := sel_iff.1 h
      rcases h' with ⟨hc, hm⟩ | ⟨hc, hm⟩
      · rw [decide_eq_true_eq] at hc
        have hm1 : okC b := hm.1
        have hm2 : R (went s [27, cB b]) := hm.2
        refine at_in hm1 (selF (dF (by omega)) (selF (dF (by omega)) ?_))
        by_cases c91 : cB b = 91
        · exact selT (bT c91) hm2
        · exact selF (bF c91) (selT (dT (by omega)) (selT (dT (by omega)) hm2))
      · rw [decide_eq_false_iff_not] at hc
        have hm1 : okC b ∧ 64 ≤ cB b ∧ cB b ≤ 95 := hm.1
        have hm2 : R (ended (evt 6 (w64 (cB b)) 0 0 0 0 0) s [27]) := hm.2
        exact at_in hm1.1 (selF (dF (by omega)) (selF (dF (by omega)) (selF (bF (by omega)) (selT (dT (by omega)) (selF (dF (by omega)) (esc_in hm1.2 hm2))))))
    · exact h.elim
  · rename_i p q
    split at h
    · rename_i e; subst e; rw [e31r]
      have h1 : okC b ∧ 64 ≤ q ∧ 64 ≤ cB b := h.1
      exact at_in h1.1 (selF (dF (by omega)) (selF (dF (by omega)) h.2))
    split at h
    · rename_i e; subst e; rw [e25r]; exact at_in h.1 h.2
    split at h
    · rename_i e; subst e
      split at h
      · rename_i e; subst e; rw [e2757]; exact at_in h.1 h.2
      split at h
      · rename_i e; subst e; rw [e2758]; exact at_in h.1 h.2
      split at h
      · rename_i e; subst e; rw [e2759]; exact at_in h.1 h.2
      split at h
      · rename_i e; subst e; rw [e91]; exact sq_go h.1 h.2
      · exact h.elim
    · exact h.elim
  · rename_i p q r
    split at h
    · rename_i e; subst e
      split at h
      · rename_i e; subst e; rw [e2758r]; exact at_in h.1 h.2
      split at h
      · rename_i e; subst e; rw [e2759r]; exact at_in h.1 h.2
      split at h
      · rename_i e; subst e; rw [e911]; exact sq_go h.1 h.2
      · exact h.elim
    · exact h.elim
  · rename_i p q r t
    split at h
    · rename_i e; subst e
      split at h
      · rename_i e; subst e; rw [e2759rt]; exact at_in h.1 h.2
      split at h
      · rename_i e; subst e; rw [e912]; exact sq_go h.1 h.2
      · exact h.elim
    · exact h.elim
  · rename_i p q r t u
    split at h
    · rename_i e; subst e
      split at h
      · rename_i e; subst e; rw [e913]; exact sq_go h.1 h.2
      · exact h.elim
    · exact h.elim
  · rename_i p q r t u v
    split at h
    · rename_i e; subst e
      split at h
      · rename_i e; subst e; rw [e914]
        have h1 : (okC b ∧ cB b = 72) ∧ InBytes [r, t, u, v] := h.1
        exact sq_H h1.1.1 h1.1.2 (by simp) h1.2 h.2
      · exact h.elim
    · exact h.elim
  · exact h.elim
noncomputable def tByteC : Con := fun args regs => match args, regs with
  | [.c (.p 0 0 0), .c (.i .u8 b)], [⟨2, ty, .cells [.h 1 0 n, .i .i64 s]⟩, ⟨1, te, .ints .u8 P⟩] => if ty = 43 ∧ te = 5 ∧ n = P.length then byteF b s P else .fail
  | _, _ => .fail
set_option maxRecDepth 100000 in
theorem kByteC : Known Try.prog [] 23 tByteC := by
  refine k_byteL.less fun args regs R h => ?_
  unfold tByteC at h
  split at h
  case h_2 => exact h.elim
  rename_i b ty n s te P
  split at h
  case isFalse => exact h.elim
  rename_i e
  obtain ⟨rfl, rfl, rfl⟩ := e
  exact byteF_ok b s P R h
noncomputable def tByteY : Con := fun args regs => match noneBegun regs with | true => t_byte0 args regs | false => tByteC args regs
theorem kByteY : Known Try.prog [] 23 tByteY := known_pick noneBegun k_byte0 kByteC
/-- A number below 8 as a literal; another one as it is. -/
noncomputable def tNum8 : Con := fun args regs => match args, regs with
  | [.c (.i .i64 n), .c (.i .i64 m)], [] => (match decide (m = 8) with
    | true => .br (decide (n % 8 = 0)) (.ret ⟨.v (.c (.i .i64 0)), []⟩) (.br (decide (n % 8 = 1)) (.ret ⟨.v (.c (.i .i64 1)), []⟩) (.br (decide (n % 8 = 2)) (.ret ⟨.v (.c (.i .i64 2)), []⟩)
      (.br (decide (n % 8 = 3)) (.ret ⟨.v (.c (.i .i64 3)), []⟩) (.br (decide (n % 8 = 4)) (.ret ⟨.v (.c (.i .i64 4)), []⟩) (.br (decide (n % 8 = 5)) (.ret ⟨.v (.c (.i .i64 5)), []⟩)
      (.br (decide (n % 8 = 6)) (.ret ⟨.v (.c (.i .i64 6)), []⟩) (.ret ⟨.v (.c (.i .i64 7)), []⟩)))))))
    | false => .must (0 < m ∧ m < 4611686018427387904) (.ret ⟨.v (.c (.i .i64 (n % m))), []⟩))
  | _, _ => .fail
set_option maxRecDepth 100000 in
theorem kNum8 : Known Try.prog [] 16 tNum8 := by
  refine num.kNumV.less fun args regs R h => ?_
  unfold tNum8 at h
  split at h
  case h_2 => exact h.elim
  rename_i n m
  by_cases hm : m = 8
  · subst hm
    have h' : sel (decide (n % 8 = 0)) (R ⟨.v (.c (.i .i64 0)), []⟩) (sel (decide (n % 8 = 1)) (R ⟨.v (.c (.i .i64 1)), []⟩) (sel (decide (n % 8 = 2)) (R ⟨.v (.c (.i .i64 2)), []⟩)
      (sel (decide (n % 8 = 3)) (R ⟨.v (.c (.i .i64 3)), []⟩) (sel (decide (n % 8 = 4)) (R ⟨.v (.c (.i .i64 4)), []⟩) (sel (decide (n % 8 = 5)) (R ⟨.v (.c (.i .i64 5)), []⟩)
      (sel (decide (n % 8 = 6)) (R ⟨.v (.c (.i .i64 6)), []⟩) (R ⟨.v (.c (.i .i64 7)), []⟩))))))) := h
    refine ⟨⟨by decide, by decide⟩, ?_⟩
    show R ⟨.v (.c (.i .i64 (n % 8))), []⟩
    have step : ∀ {k : Int} {B : Prop}, sel (decide (n % 8 = k)) (R ⟨.v (.c (.i .i64 k)), []⟩) B → (n % 8 ≠ k → B → R ⟨.v (.c (.i .i64 (n % 8))), []⟩) → R ⟨.v (.c (.i .i64 (n % 8))), []⟩ := by
      intro k B hs hB
      rcases sel_iff.1 hs with ⟨c, hR⟩ | ⟨c, hR⟩
      · rw [decide_eq_true_eq] at c; rw [c]; exact hR
      · rw [decide_eq_false_iff_not] at c; exact hB c hR
    refine step h' fun c0 h => step h fun c1 h => step h fun c2 h => step h fun c3 h => step h fun c4 h => step h fun c5 h => step h fun c6 h => ?_
    have : n % 8 = 7 := by omega
    rw [this]; exact h
  · rw [decide_eq_false hm] at h
    exact h
end Go.Proofs.Ytnhadghddkgjdaa.lex
