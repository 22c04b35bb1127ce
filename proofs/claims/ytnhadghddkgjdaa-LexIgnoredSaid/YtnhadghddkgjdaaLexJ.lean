/-
  The lexer: a byte behind a beginning, by one contract: the sequences that say nothing.
-/
import Derived.Test.YtnhadghddkgjdaaLexI
namespace Go.Proofs.Ytnhadghddkgjdaa.lex
open Go Go.Nx Go.RowKit

def gap (b s : Int) (P : List Int) (R : Out → Prop) : Prop := at32 b (sel (decide (cB b < 48)) (R (went s (P ++ [cB b]))) (sel (decide (cB b < 48)) (R (ended ign s P)) (R (ended ign s P))))
theorem gap0 (b s : Int) (R : Out → Prop) : byteL b s [27, 32] R = gap b s [27, 32] R := by kernel_rfl
theorem gap1 (b s x1 : Int) (R : Out → Prop) : byteL b s [27, 32, x1] R = gap b s [27, 32, x1] R := by kernel_rfl
theorem gap2 (b s x1 x2 : Int) (R : Out → Prop) : byteL b s [27, 32, x1, x2] R = gap b s [27, 32, x1, x2] R := by kernel_rfl
theorem gap3 (b s x1 x2 x3 : Int) (R : Out → Prop) : byteL b s [27, 32, x1, x2, x3] R = gap b s [27, 32, x1, x2, x3] R := by kernel_rfl
theorem gap4 (b s x1 x2 x3 x4 : Int) (R : Out → Prop) : byteL b s [27, 32, x1, x2, x3, x4] R = gap b s [27, 32, x1, x2, x3, x4] R := by kernel_rfl
theorem gap5 (b s x1 x2 x3 x4 x5 : Int) (R : Out → Prop) : byteL b s [27, 32, x1, x2, x3, x4, x5] R = gap b s [27, 32, x1, x2, x3, x4, x5] R := by kernel_rfl
theorem gap6 (b s x1 x2 x3 x4 x5 x6 : Int) (R : Out → Prop) : byteL b s [27, 32, x1, x2, x3, x4, x5, x6] R = gap b s [27, 32, x1, x2, x3, x4, x5, x6] R := by kernel_rfl
theorem gap7 (b s x1 x2 x3 x4 x5 x6 x7 : Int) (R : Out → Prop) : byteL b s [27, 32, x1, x2, x3, x4, x5, x6, x7] R = gap b s [27, 32, x1, x2, x3, x4, x5, x6, x7] R := by kernel_rfl
theorem gap8 (b s x1 x2 x3 x4 x5 x6 x7 x8 : Int) (R : Out → Prop) : byteL b s [27, 32, x1, x2, x3, x4, x5, x6, x7, x8] R = gap b s [27, 32, x1, x2, x3, x4, x5, x6, x7, x8] R := by kernel_rfl
theorem gap9 (b s x1 x2 x3 x4 x5 x6 x7 x8 x9 : Int) (R : Out → Prop) : byteL b s [27, 32, x1, x2, x3, x4, x5, x6, x7, x8, x9] R = gap b s [27, 32, x1, x2, x3, x4, x5, x6, x7, x8, x9] R := by kernel_rfl
theorem gap10 (b s x1 x2 x3 x4 x5 x6 x7 x8 x9 x10 : Int) (R : Out → Prop) : byteL b s [27, 32, x1, x2, x3, x4, x5, x6, x7, x8, x9, x10] R = gap b s [27, 32, x1, x2, x3, x4, x5, x6, x7, x8, x9, x10] R := by kernel_rfl
theorem gap11 (b s x1 x2 x3 x4 x5 x6 x7 x8 x9 x10 x11 : Int) (R : Out → Prop) : byteL b s [27, 32, x1, x2, x3, x4, x5, x6, x7, x8, x9, x10, x11] R = gap b s [27, 32, x1, x2, x3, x4, x5, x6, x7, x8, x9, x10, x11] R := by kernel_rfl
theorem gap12 (b s x1 x2 x3 x4 x5 x6 x7 x8 x9 x10 x11 x12 : Int) (R : Out → Prop) : byteL b s [27, 32, x1, x2, x3, x4, x5, x6, x7, x8, x9, x10, x11, x12] R = gap b s [27, 32, x1, x2, x3, x4, x5, x6, x7, x8, x9, x10, x11, x12] R := by kernel_rfl
theorem gap_all (b s : Int) (R : Out → Prop) : ∀ xs : List Int, xs.length ≤ 12 → byteL b s (27 :: 32 :: xs) R = gap b s (27 :: 32 :: xs) R
  | [], _ => gap0 b s R
  | [x1], _ => gap1 b s x1 R
  | [x1, x2], _ => gap2 b s x1 x2 R
  | [x1, x2, x3], _ => gap3 b s x1 x2 x3 R
  | [x1, x2, x3, x4], _ => gap4 b s x1 x2 x3 x4 R
  | [x1, x2, x3, x4, x5], _ => gap5 b s x1 x2 x3 x4 x5 R
  | [x1, x2, x3, x4, x5, x6], _ => gap6 b s x1 x2 x3 x4 x5 x6 R
  | [x1, x2, x3, x4, x5, x6, x7], _ => gap7 b s x1 x2 x3 x4 x5 x6 x7 R
  | [x1, x2, x3, x4, x5, x6, x7, x8], _ => gap8 b s x1 x2 x3 x4 x5 x6 x7 x8 R
  | [x1, x2, x3, x4, x5, x6, x7, x8, x9], _ => gap9 b s x1 x2 x3 x4 x5 x6 x7 x8 x9 R
  | [x1, x2, x3, x4, x5, x6, x7, x8, x9, x10], _ => gap10 b s x1 x2 x3 x4 x5 x6 x7 x8 x9 x10 R
  | [x1, x2, x3, x4, x5, x6, x7, x8, x9, x10, x11], _ => gap11 b s x1 x2 x3 x4 x5 x6 x7 x8 x9 x10 x11 R
  | [x1, x2, x3, x4, x5, x6, x7, x8, x9, x10, x11, x12], _ => gap12 b s x1 x2 x3 x4 x5 x6 x7 x8 x9 x10 x11 x12 R
  | _ :: _ :: _ :: _ :: _ :: _ :: _ :: _ :: _ :: _ :: _ :: _ :: _ :: _, h => by simp at h
theorem sq5 (b s x1 x2 x3 x4 x5 : Int) (R : Out → Prop) : byteL b s [27, 91, x1, x2, x3, x4, x5] R = sq b s [27, 91, x1, x2, x3, x4, x5] [27, 91, x1, x2, x3, x4, x5, cB b] [x1, x2, x3, x4, x5] R := by kernel_rfl
theorem sq6 (b s x1 x2 x3 x4 x5 x6 : Int) (R : Out → Prop) : byteL b s [27, 91, x1, x2, x3, x4, x5, x6] R = sq b s [27, 91, x1, x2, x3, x4, x5, x6] [27, 91, x1, x2, x3, x4, x5, x6, cB b] [x1, x2, x3, x4, x5, x6] R := by kernel_rfl
theorem sq7 (b s x1 x2 x3 x4 x5 x6 x7 : Int) (R : Out → Prop) : byteL b s [27, 91, x1, x2, x3, x4, x5, x6, x7] R = at32 b (sel (decide (cB b ≥ 48)) (sel (decide (cB b < 64)) (swH b s [27, 91, x1, x2, x3, x4, x5, x6, x7] [x1, x2, x3, x4, x5, x6, x7] R) (swH b s [27, 91, x1, x2, x3, x4, x5, x6, x7] [x1, x2, x3, x4, x5, x6, x7] R)) (swH b s [27, 91, x1, x2, x3, x4, x5, x6, x7] [x1, x2, x3, x4, x5, x6, x7] R)) := by kernel_rfl
theorem sq_all (b s : Int) (R : Out → Prop) : ∀ xs : List Int, xs.length < 7 → byteL b s (27 :: 91 :: xs) R = sq b s (27 :: 91 :: xs) (27 :: 91 :: xs ++ [cB b]) xs R
  | [], _ => e91 b s R
  | [x1], _ => e911 b s x1 R
  | [x1, x2], _ => e912 b s x1 x2 R
  | [x1, x2, x3], _ => e913 b s x1 x2 x3 R
  | [x1, x2, x3, x4], _ => e914 b s x1 x2 x3 x4 R
  | [x1, x2, x3, x4, x5], _ => sq5 b s x1 x2 x3 x4 x5 R
  | [x1, x2, x3, x4, x5, x6], _ => sq6 b s x1 x2 x3 x4 x5 x6 R
  | _ :: _ :: _ :: _ :: _ :: _ :: _ :: _, h => by simp at h; omega
noncomputable def byteI (b s : Int) (P : List Int) : Tr Out :=
  match P with
  | [p] => if p = 31 then .must (okC b) (.ret (went s [31, cB b])) else
      if p = 27 then .br (decide (cB b < 48 ∨ cB b = 91 ∨ (57 ≤ cB b ∧ cB b ≤ 59))) (.must (okC b) (.ret (went s [27, cB b]))) (.br (decide (96 ≤ cB b)) (.must (okC b) (.ret (ended ign s [27]))) .fail) else .fail
  | p :: q :: xs => if p = 31 then (match xs with
        | [] => .must (okC b ∧ q < 64) (.ret (ended ign s [31, q]))
        | _ => .fail) else
      if p = 27 then (if q = 32 then (if xs.length ≤ 12 then .br (decide (cB b < 48)) (.must (okC b) (.ret (went s (27 :: 32 :: xs ++ [cB b])))) (.must (okC b) (.ret (ended ign s (27 :: 32 :: xs)))) else .fail) else
        if q = 91 then (if xs.length < 7 then .br (decide (48 ≤ cB b ∧ cB b < 64)) (.must (okC b) (.ret (went s (27 :: 91 :: xs ++ [cB b])))) (.must ((okC b ∧ cB b = 109) ∧ InBytes xs) (.ret (ended ign s (27 :: 91 :: xs)))) else
          if xs.length = 7 then .br (decide (48 ≤ cB b ∧ cB b < 64)) (.must (okC b) (.ret (ended ign s (27 :: 91 :: xs)))) (.must ((okC b ∧ cB b = 109) ∧ InBytes xs) (.ret (ended ign s (27 :: 91 :: xs)))) else .fail) else .fail) else .fail
  | _ => .fail
theorem swH_m {b s : Int} {P ds : List Int} {R : Out → Prop} (hc : cB b = 109) (hl : ds.length ≤ 100) (hd : InBytes ds) (hR : R (ended ign s P)) : swH b s P ds R := by
  unfold swH
  rw [hc]
  exact selF rfl (selF rfl ⟨⟨hl, hd⟩, selF rfl (selF rfl (selF rfl (selF rfl (selF rfl (selF rfl (selF rfl hR))))))⟩)
theorem seven (b s : Int) (R : Out → Prop) : ∀ xs : List Int, xs.length = 7 → byteL b s (27 :: 91 :: xs) R = at32 b (sel (decide (cB b ≥ 48)) (sel (decide (cB b < 64)) (swH b s (27 :: 91 :: xs) xs R) (swH b s (27 :: 91 :: xs) xs R)) (swH b s (27 :: 91 :: xs) xs R))
  | [x1, x2, x3, x4, x5, x6, x7], _ => sq7 b s x1 x2 x3 x4 x5 x6 x7 R
set_option maxRecDepth 100000 in
theorem byteI_ok (b s : Int) (P : List Int) (R : Out → Prop) (h : (byteI b s P).run R) : byteL b s P R := by
  unfold byteI at h
  split at h
  · rename_i p
    split at h
    · rename_i e; subst e; rw [e31]; exact at_in h.1 h.2
    split at h
    · rename_i e; subst e; rw [e27]
      rcases sel_iff.1 h with ⟨hc, hm⟩ | ⟨hc, hm⟩
      · rw [decide_eq_true_eq] at hc
        have hm1 : okC b := hm.1
        have hm2 : R (went s [27, cB b]) := hm.2
        refine at_in hm1 ?_
        by_cases c48 : cB b < 48
        · exact selT (dT c48) hm2
        refine selF (dF c48) (selF (dF c48) ?_)
        by_cases c91 : cB b = 91
        · exact selT (bT c91) hm2
        · exact selF (bF c91) (selT (dT (by omega)) (selT (dT (by omega)) hm2))
      · rw [decide_eq_false_iff_not] at hc
        rcases sel_iff.1 hm with ⟨hk, hm⟩ | ⟨hk, hm⟩
        · rw [decide_eq_true_eq] at hk
          have hm1 : okC b := hm.1
          have hm2 : R (ended ign s [27]) := hm.2
          exact at_in hm1 (selF (dF (by omega)) (selF (dF (by omega)) (selF (bF (by omega)) (selT (dT (by omega)) (selF (dF (by omega)) (selT (dT (by omega)) (selF (dF (by omega)) hm2)))))))
        · exact hm.elim
    · exact h.elim
  · rename_i p q xs
    split at h
    · rename_i e; subst e
      split at h
      · rw [e31r]
        have h1 : okC b ∧ q < 64 := h.1
        exact at_in h1.1 (selT (dT h1.2) h.2)
      · exact h.elim
    split at h
    · rename_i e; subst e
      split at h
      · rename_i e; subst e
        split at h
        · rename_i hl
          rw [gap_all b s R xs hl]
          rcases sel_iff.1 h with ⟨hc, hm⟩ | ⟨hc, hm⟩
          · exact at_in hm.1 (selT hc hm.2)
          · exact at_in hm.1 (selF hc (selF hc hm.2))
        · exact h.elim
      split at h
      · rename_i e; subst e
        split at h
        · rename_i hl
          rw [sq_all b s R xs hl]
          rcases sel_iff.1 h with ⟨hc, hm⟩ | ⟨hc, hm⟩
          · rw [decide_eq_true_eq] at hc
            exact sq_go ⟨hm.1, hc⟩ hm.2
          · have h1 : (okC b ∧ cB b = 109) ∧ InBytes xs := hm.1
            have h2 : R (ended ign s (27 :: 91 :: xs)) := hm.2
            exact at_in h1.1.1 (selT (dT (by omega)) (selF (dF (by omega)) (swH_m h1.1.2 (by omega) h1.2 h2)))
        split at h
        · rename_i hl
          rw [seven b s R xs hl]
          rcases sel_iff.1 h with ⟨hc, hm⟩ | ⟨hc, hm⟩
          · rw [decide_eq_true_eq] at hc
            exact at_in hm.1 (selT (dT hc.1) (selT (dT hc.2) (selT (dT hc.2) hm.2)))
          · have h1 : (okC b ∧ cB b = 109) ∧ InBytes xs := hm.1
            have h2 : R (ended ign s (27 :: 91 :: xs)) := hm.2
            exact at_in h1.1.1 (selT (dT (by omega)) (selF (dF (by omega)) (swH_m h1.1.2 (by omega) h1.2 h2)))
        · exact h.elim
      · exact h.elim
    · exact h.elim
  · exact h.elim
noncomputable def tByteI : Con := fun args regs => match args, regs with
  | [.c (.p 0 0 0), .c (.i .u8 b)], [⟨2, ty, .cells [.h 1 0 n, .i .i64 s]⟩, ⟨1, te, .ints .u8 P⟩] => if ty = 43 ∧ te = 5 ∧ n = P.length then byteI b s P else .fail
  | _, _ => .fail
set_option maxRecDepth 100000 in
theorem kByteI : Known Try.prog [] 23 tByteI := by
  refine k_byteL.less fun args regs R h => ?_
  unfold tByteI at h
  split at h
  case h_2 => exact h.elim
  rename_i b ty n s te P
  split at h
  case isFalse => exact h.elim
  rename_i e
  obtain ⟨rfl, rfl, rfl⟩ := e
  exact byteI_ok b s P R h
noncomputable def tByteZ : Con := fun args regs => match noneBegun regs with | true => t_byte0 args regs | false => tByteI args regs
theorem kByteZ : Known Try.prog [] 23 tByteZ := known_pick noneBegun k_byte0 kByteI
end Go.Proofs.Ytnhadghddkgjdaa.lex
