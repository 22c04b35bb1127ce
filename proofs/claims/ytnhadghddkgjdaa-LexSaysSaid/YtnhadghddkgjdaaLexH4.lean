/-
  The document's lexer: a sequence is what the program's is, on all that may be begun.
-/
import Derived.Test.YtnhadghddkgjdaaLexH3
set_option linter.unusedVariables false
namespace Go.Proofs.Ytnhadghddkgjdaa.lxr
open Go Go.Nx Go.Proofs.Ytnhadghddkgjdaa.lex Go.Proofs.Ytnhadghddkgjdaa.lxv

/-- What may be begun. -/
inductive okR : List Int → Prop where
  | a18 : okR [18]
  | a25 : okR [25]
  | b25 (x : Int) (h : 32 ≤ x ∧ x < 128) : okR [25, x]
  | a31 : okR [31]
  | b31 (x : Int) (h : 32 ≤ x ∧ x < 128) : okR [31, x]
  | a27 : okR [27]
  | brk (ds : List Int) (h : ds.length ≤ 7) (hd : ∀ d ∈ ds, 48 ≤ d ∧ d < 64) : okR (27 :: 91 :: ds)
  | gap (x : Int) (g : List Int) (h : g.length ≤ 13) (hx : 32 ≤ x ∧ x < 48) (hg : ∀ d ∈ g, 32 ≤ d ∧ d < 48) : okR (27 :: x :: g)
  | a57 : okR [27, 57]
  | a58 : okR [27, 58]
  | b58 (r : Int) (h : 32 ≤ r ∧ r < 128) : okR [27, 58, r]
  | a59 : okR [27, 59]
  | b59 (r : Int) (h : 32 ≤ r ∧ r < 128) : okR [27, 59, r]
  | c59 (r t : Int) (h : 32 ≤ r ∧ r < 128) (ht : 32 ≤ t ∧ t < 128) : okR [27, 59, r, t]
def bodyN (P : List Int) : Prop := ∀ x ∈ P, 0 ≤ x ∧ x < 256
noncomputable def rE (P : List Int) (c : Int) : List Int := if goOn P c = true then (if P.getD 0 0 = 25 then [1, 0, 0, 0, 0, 2, w64 c] else ign7) else (endsR P c).map Sc.n
theorem fin_end {P : List Int} {c k a b d t st code : Int} {R : Out → Prop} (e : goOn P c = false) (er : endsR P c = ev k a b d t st code) (h : R (resE (seven (rE P c)) (goOn P c))) : R (resE [k, a, b, d, t, st, code] false) := by
  unfold rE at h
  rw [e, if_neg (fun h => by cases h), er] at h
  exact h
theorem fin_go {P : List Int} {c : Int} {R : Out → Prop} (e : goOn P c = true) (h0 : P.getD 0 0 ≠ 25) (h : R (resE (seven (rE P c)) (goOn P c))) : R (resE ign7 true) := by
  unfold rE at h
  rw [e, if_pos rfl, if_neg h0] at h
  exact h
theorem lastV_app {P : List Int} {c : Int} (h : P.length ≤ 100) : lastV (P ++ [c]) = c := by
  unfold lastV
  rw [List.length_append, List.length_singleton, w64_of (by omega), show (((P.length + 1 : Nat) : Int) - 1).toNat = P.length by omega]
  simp [List.getD_eq_getElem?_getD]
noncomputable def treeQ (Q : List Int) (R : Out → Prop) : Prop := ix (w64 ((Q.length : Int) - 1)) Q (ix 0 Q
    (sel (Q.getD 0 0 == 18) (R (resE [7, low6 (lastV Q), 0, 0, 0, 0, 0] false)) (sel (Q.getD 0 0 == 25) (rSign Q R) (sel (Q.getD 0 0 == 31) (rPlace Q R) (rEsc Q R)))))
theorem treeQ_in {P : List Int} {c : Int} {R : Out → Prop} (h0 : P ≠ []) (h : P.length ≤ 100) (hR : sel (P.getD 0 0 == 18) (R (resE [7, low6 c, 0, 0, 0, 0, 0] false)) (sel (P.getD 0 0 == 25) (rSign (P ++ [c]) R) (sel (P.getD 0 0 == 31) (rPlace (P ++ [c]) R) (rEsc (P ++ [c]) R)))) : treeQ (P ++ [c]) R := by
  have hl : (P ++ [c]).length = P.length + 1 := by rw [List.length_append]; rfl
  have := List.length_pos_iff.2 h0
  unfold treeQ
  refine ix_in ?_ (ix_in ?_ ?_)
  · rw [hl, w64_of (by omega)]; omega
  · rw [hl]; omega
  · rw [lastV_app h]
    have e : (P ++ [c]).getD 0 0 = P.getD 0 0 := by cases P with
      | nil => exact (h0 rfl).elim
      | cons a t => rfl
    rw [e]
    exact hR
theorem min99_more {a c : Int} (h : 0 ≤ a ∧ a ≤ 100) (hc : 48 ≤ c ∧ c ≤ 57) : min99 (more a c) = more9 (min99 a) c := by
  have m : ∀ n : Int, min99 n = if 99 < n then 99 else n := fun n => by
    unfold min99
    by_cases h : 99 < n
    · rw [if_pos h, dT h]; rfl
    · rw [if_neg h, dF h]; rfl
  rw [m, m]
  unfold more more9
  split <;> split <;> split <;> omega
theorem min99_z : min99 0 = 0 := rfl
theorem nums_eq : ∀ (ds : List Int) (k kk : Int) (a b : Int) (n : N3), (∀ d ∈ ds, 48 ≤ d ∧ d < 64) → 0 ≤ k → (k ≤ 2 → kk = k) → (2 ≤ k → kk = 2) → (0 ≤ a ∧ a ≤ 100) → (0 ≤ b ∧ b ≤ 100) → n.x = min99 a → n.y = min99 b →
    (numsR ds kk n).x = min99 (nums ds k a b).1 ∧ (numsR ds kk n).y = min99 (nums ds k a b).2
  | [], k, kk, a, b, n, _, _, _, _, _, _, hx, hy => ⟨hx, hy⟩
  | c :: ds, k, kk, a, b, n, hd, hk, hk1, hk2, ha, hb, hx, hy => by
    have hc := hd c (List.mem_cons_self ..)
    have hd' : ∀ d ∈ ds, 48 ≤ d ∧ d < 64 := fun d h => hd d (List.mem_cons_of_mem _ h)
    unfold numsR nums
    by_cases h59 : c = 59
    · rw [if_pos h59, if_pos h59]
      have e1 : k + 1 ≤ 2 → p2 kk = k + 1 := fun h => by have := hk1 (by omega); unfold p2; split <;> omega
      have e2 : 2 ≤ k + 1 → p2 kk = 2 := fun h => by
        unfold p2
        by_cases h2 : 2 ≤ k
        · have := hk2 h2; split <;> omega
        · have := hk1 (by omega); split <;> omega
      exact nums_eq ds (k + 1) (p2 kk) a b n hd' (by omega) e1 e2 ha hb hx hy
    rw [if_neg h59, if_neg h59]
    by_cases h57 : c ≤ 57
    · rw [if_pos h57]
      by_cases hlt : k < 2
      · rw [if_pos ⟨hc.1, h57, hlt⟩]
        have ek := hk1 (by omega)
        subst ek
        by_cases h0 : kk = 0
        · subst h0
          have hm := more_le a c ha.1 hc.1
          exact nums_eq ds 0 0 (more a c) b ⟨more9 n.x c, n.y, n.z⟩ hd' (by omega) hk1 hk2 hm hb (by show more9 n.x c = _; rw [hx, min99_more ha ⟨hc.1, h57⟩]) hy
        · have h1 : kk = 1 := by omega
          subst h1
          have hm := more_le b c hb.1 hc.1
          exact nums_eq ds 1 1 a (more b c) ⟨n.x, more9 n.y c, n.z⟩ hd' (by omega) hk1 hk2 ha hm hx (by show more9 n.y c = _; rw [hy, min99_more hb ⟨hc.1, h57⟩])
      · rw [if_neg (fun h => hlt h.2.2)]
        have ek := hk2 (by omega)
        subst ek
        exact nums_eq ds k 2 a b ⟨n.x, n.y, more9 n.z c⟩ hd' hk hk1 hk2 ha hb hx hy
    · rw [if_neg h57, if_neg (fun h => h57 h.2.1)]
      exact nums_eq ds k kk a b n hd' hk hk1 hk2 ha hb hx hy
theorem nums_zero (ds : List Int) (hd : ∀ d ∈ ds, 48 ≤ d ∧ d < 64) : (numsR ds 0 ⟨0, 0, 0⟩).x = min99 (nums ds 0 0 0).1 ∧ (numsR ds 0 ⟨0, 0, 0⟩).y = min99 (nums ds 0 0 0).2 :=
  nums_eq ds 0 0 0 0 ⟨0, 0, 0⟩ hd (by omega) (fun _ => rfl) (fun h => by omega) (by omega) (by omega) rfl rfl
theorem sel_false {c : Bool} {A B : Prop} (h : c = false) (hB : B) : sel c A B := selF h hB
theorem esc_in {P : List Int} {c : Int} {R : Out → Prop} (h0 : P.getD 0 0 = 27) (h : rEsc (P ++ [c]) R) : sel (P.getD 0 0 == 18) (R (resE [7, low6 c, 0, 0, 0, 0, 0] false)) (sel (P.getD 0 0 == 25) (rSign (P ++ [c]) R) (sel (P.getD 0 0 == 31) (rPlace (P ++ [c]) R) (rEsc (P ++ [c]) R))) := by
  rw [h0]
  exact h
theorem go27 {P : List Int} {c : Int} (h0 : P.getD 0 0 = 27) : goOn P c = escGo P c := by unfold goOn; rw [h0]; rfl
theorem end27 {P : List Int} {c : Int} (h0 : P.getD 0 0 = 27) : endsR P c = escR P c := by unfold endsR; rw [h0]; rfl
theorem go18 {P : List Int} {c : Int} (h0 : P.getD 0 0 = 18) : goOn P c = false := by unfold goOn; rw [h0]; rfl
theorem go25 {P : List Int} {c : Int} (h0 : P.getD 0 0 = 25) : goOn P c = signGo P c := by unfold goOn; rw [h0]; rfl
theorem go31 {P : List Int} {c : Int} (h0 : P.getD 0 0 = 31) : goOn P c = placeGo P := by unfold goOn; rw [h0]; rfl
theorem end18 {P : List Int} {c : Int} (h0 : P.getD 0 0 = 18) : endsR P c = ev 7 (low6 c) 0 0 0 0 0 := by unfold endsR; rw [h0]; rfl
theorem end25 {P : List Int} {c : Int} (h0 : P.getD 0 0 = 25) : endsR P c = signR P c := by unfold endsR; rw [h0]; rfl
theorem end31 {P : List Int} {c : Int} (h0 : P.getD 0 0 = 31) : endsR P c = placeR P c := by unfold endsR; rw [h0]; rfl
/-! ### each of what may be begun -/
theorem x18 {c : Int} {R : Out → Prop} (h : R (resE (seven (rE [18] c)) (goOn [18] c))) : treeQ ([18] ++ [c]) R :=
  treeQ_in (by simp) (by simp) (selT rfl (fin_end (P := [18]) (go18 rfl) (end18 rfl) h))
theorem x25 {c : Int} {R : Out → Prop} (hc : 32 ≤ c ∧ c < 128) (h : R (resE (seven (rE [25] c)) (goOn [25] c))) : treeQ ([25] ++ [c]) R := by
  refine treeQ_in (by simp) (by simp) (selF rfl (selT rfl (selT rfl ?_)))
  rw [lastV_app (by simp)]
  refine ⟨by omega, ?_⟩
  have hg : goOn [25] c = isAcc c := go25 rfl
  cases ha : isAcc c with
  | true =>
    rw [ha] at hg
    unfold rE at h
    rw [hg, if_pos rfl, if_pos (show ([25] : List Int).getD 0 0 = 25 from rfl)] at h
    exact h
  | false =>
    rw [ha] at hg
    exact fin_end hg (end25 rfl) h
theorem x25b {x c : Int} {R : Out → Prop} (h : R (resE (seven (rE [25, x] c)) (goOn [25, x] c))) : treeQ ([25, x] ++ [c]) R := by
  refine treeQ_in (by simp) (by simp) (selF rfl (selT rfl (selF (by rfl) (ix_in (by constructor <;> simp <;> omega) ?_))))
  rw [lastV_app (by simp)]
  exact fin_end (P := [25, x]) (go25 rfl) (end25 rfl) h
theorem x31 {c : Int} {R : Out → Prop} (h : R (resE (seven (rE [31] c)) (goOn [31] c))) : treeQ ([31] ++ [c]) R :=
  treeQ_in (by simp) (by simp) (selF rfl (selF rfl (selT rfl (selT rfl (fin_go (P := [31]) (go31 rfl) (by simp) h)))))
theorem x31b {x c : Int} {R : Out → Prop} (h : R (resE (seven (rE [31, x] c)) (goOn [31, x] c))) : treeQ ([31, x] ++ [c]) R := by
  have hg : goOn [31, x] c = false := go31 rfl
  have he : endsR [31, x] c = placeR [31, x] c := end31 rfl
  refine treeQ_in (by simp) (by simp) (selF rfl (selF rfl (selT rfl (selF rfl (ix_in (by constructor <;> simp <;> omega) ?_)))))
  show sel (decide (x < 64)) _ _
  refine sel_by (fun hx => ?_) fun hx => ix_in (by constructor <;> simp <;> omega) ?_
  · exact fin_end hg (he.trans (by unfold placeR; exact if_pos (.inl hx))) h
  show sel (decide (c < 64)) _ _
  refine sel_by (fun hx' => ?_) fun hx' => ix_in (by constructor <;> simp <;> omega) (ix_in (by constructor <;> simp <;> omega) ?_)
  · exact fin_end hg (he.trans (by unfold placeR; exact if_pos (.inr hx'))) h
  exact fin_end hg (he.trans (by unfold placeR; exact if_neg (fun h => h.elim hx hx'))) h
theorem x27 {c : Int} {R : Out → Prop} (hc : 32 ≤ c ∧ c < 128) (h : R (resE (seven (rE [27] c)) (goOn [27] c))) : treeQ ([27] ++ [c]) R := by
  have hg : goOn [27] c = decide (c < 48 ∧ 1 < 15 ∨ 48 ≤ c ∧ 1 ≤ 1 ∧ (c = 91 ∨ 57 ≤ c ∧ c ≤ 59)) := by rw [go27 rfl]; rfl
  have he : endsR [27] c = if 64 ≤ c ∧ c ≤ 95 ∧ 1 ≤ 1 then ev 6 (w64 c) 0 0 0 0 0 else ignR := by
    rw [end27 rfl]; unfold escR; rw [if_neg (by simp), if_neg (by simp)]; rfl
  have go : (c < 48 ∨ c = 91 ∨ 57 ≤ c ∧ c ≤ 59) → R (resE ign7 true) := fun hh => fin_go (hg.trans (dT (by omega))) (by simp) h
  have hl : lastV ([27] ++ [c]) = c := lastV_app (by simp)
  refine treeQ_in (by simp) (by simp) (esc_in rfl (ix_in (by constructor <;> simp <;> omega) ?_))
  show sel (decide (c ≥ 57)) (sel (decide (c ≤ 59)) (rAsk ([27] ++ [c]) (w64 (w64 c - 56)) R) (rBrk ([27] ++ [c]) c R)) (rBrk ([27] ++ [c]) c R)
  have br : ¬ (57 ≤ c ∧ c ≤ 59) → rBrk ([27] ++ [c]) c R := fun hn => by
    unfold rBrk
    by_cases h91 : c = 91
    · exact selT (bT h91) (selT rfl (go (by omega)))
    refine selF (bF h91) ?_
    unfold rAttr
    have ga : ¬ (64 ≤ c ∧ c ≤ 95) → rGap ([27] ++ [c]) c R := fun hn2 => by
      unfold rGap
      rw [hl]
      refine selT (dT (by omega)) (sel_by (fun h47 => selT (dT (by omega)) (selT (dT (by omega)) (go (by omega)))) fun h47 => ?_)
      exact fin_end (hg.trans (dF (by omega))) (he.trans (if_neg (by omega))) h
    exact sel_by (fun h64 => sel_by (fun h95 => fin_end (hg.trans (dF (by omega))) (he.trans (if_pos (by omega))) h) fun h95 => ga (by omega)) fun h64 => ga (by omega)
  refine sel_by (fun h57 => sel_by (fun h59 => ?_) fun h59 => br (by omega)) fun h57 => br (by omega)
  unfold rAsk
  refine selT (dT ?_) (go (by omega))
  rw [w64_of (n := c) (by omega), w64_of (n := c - 56) (by omega), w64_of (by omega)]
  simp only [List.length_append, List.length_singleton]
  omega
theorem getD_last {P : List Int} {c : Int} : (P ++ [c]).getD ((P ++ [c]).length - 1) 0 = c := by
  rw [List.length_append, List.length_singleton, Nat.add_sub_cancel]
  simp [List.getD_eq_getElem?_getD]
theorem xbrk {ds : List Int} {c : Int} {R : Out → Prop} (hl : ds.length ≤ 7) (hd : ∀ d ∈ ds, 48 ≤ d ∧ d < 64) (hc : 32 ≤ c ∧ c < 128) (h : R (resE (seven (rE (27 :: 91 :: ds) c)) (goOn (27 :: 91 :: ds) c))) : treeQ ((27 :: 91 :: ds) ++ [c]) R := by
  have hlen : ((27 :: 91 :: ds) ++ [c]).length = ds.length + 3 := by simp
  have hpl : (27 :: 91 :: ds).length = ds.length + 2 := by simp
  have hg : goOn (27 :: 91 :: ds) c = decide (48 ≤ c ∧ c < 64 ∧ (27 :: 91 :: ds).length < 9) := by
    rw [go27 rfl]; unfold escGo; rw [dT ⟨by omega, rfl⟩]; rfl
  have he : endsR (27 :: 91 :: ds) c = if c < 64 ∨ c = 127 then ignR else endR ds c := by
    rw [end27 rfl]; unfold escR; rw [if_pos ⟨by omega, rfl⟩]; rfl
  have hb : bodyQ ((27 :: 91 :: ds) ++ [c]) = numsR ds 0 ⟨0, 0, 0⟩ := by
    unfold bodyQ
    rw [List.dropLast_concat]; rfl
  refine treeQ_in (by simp) (by omega) (esc_in rfl (ix_in ⟨by omega, by omega⟩ (selT rfl (selF rfl (selT rfl (selF ?_ ⟨⟨by omega, by omega, fun j h2 h3 => ?_⟩, ?_⟩))))))
  · rw [hlen]; exact bF (by omega)
  · have hj : j - 2 < ds.length := by omega
    have e : ((27 :: 91 :: ds) ++ [c]).getD j 0 = ds[j - 2] := by
      obtain ⟨m, rfl⟩ : ∃ m, j = m + 2 := ⟨j - 2, by omega⟩
      have hm : m < ds.length := by omega
      simp [List.getD_eq_getElem?_getD, List.getElem?_append_left hm, List.getElem?_eq_getElem hm]
    rw [e]
    have := hd _ (List.getElem_mem hj)
    omega
  · rw [getD_last, hb]
    obtain ⟨hx, hy⟩ := nums_zero ds hd
    have eg : braGo ((27 :: 91 :: ds) ++ [c]) c = goOn (27 :: 91 :: ds) c := by
      rw [hg]; unfold braGo
      exact decide_eq_decide.2 ⟨fun h => ⟨by omega, by omega, by omega⟩, fun h => ⟨by omega, by omega, by omega⟩⟩
    rw [eg]
    have ee : seven (braE (numsR ds 0 ⟨0, 0, 0⟩) c) = seven (rE (27 :: 91 :: ds) c) := by
      unfold rE
      by_cases hgo : goOn (27 :: 91 :: ds) c = true
      · rw [if_pos hgo, if_neg (by simp)]
        rw [hg] at hgo
        have := of_decide_eq_true hgo
        unfold braE
        rw [if_pos (by omega)]
      · rw [if_neg hgo, he]
        unfold braE endR
        by_cases h1 : c < 64 ∨ c > 126
        · rw [if_pos h1, if_pos (show c < 64 ∨ c = 127 by omega)]; rfl
        rw [if_neg h1, if_neg (show ¬ (c < 64 ∨ c = 127) by omega)]
        by_cases h2 : c ≤ 68 ∧ 65 ≤ c
        · rw [if_pos h2, if_pos ⟨h2.2, h2.1⟩, hx]; rfl
        rw [if_neg h2, if_neg (show ¬ (65 ≤ c ∧ c ≤ 68) by omega)]
        by_cases h3 : c = 72
        · rw [if_pos h3, if_pos h3, hx, hy]; rfl
        rw [if_neg h3, if_neg h3]
        by_cases h4 : c = 74 ∨ c = 75
        · rw [if_pos h4, if_pos h4, hx]; rfl
        rw [if_neg h4, if_neg h4]; rfl
    rw [ee]
    exact h
theorem xgap {x : Int} {g : List Int} {c : Int} {R : Out → Prop} (hl : g.length ≤ 13) (hx : 32 ≤ x ∧ x < 48) (hc : 32 ≤ c ∧ c < 128) (h : R (resE (seven (rE (27 :: x :: g) c)) (goOn (27 :: x :: g) c))) : treeQ ((27 :: x :: g) ++ [c]) R := by
  have hlen : ((27 :: x :: g) ++ [c]).length = g.length + 3 := by simp
  have hpl : (27 :: x :: g).length = g.length + 2 := by simp
  have h1 : (27 :: x :: g).getD 1 0 = x := rfl
  have hg : goOn (27 :: x :: g) c = decide (c < 48 ∧ (27 :: x :: g).length < 15) := by
    rw [go27 rfl]; unfold escGo; rw [dF (fun h => by have := h.2; rw [h1] at this; omega), dF (fun h => by have := h.2.1; rw [h1] at this; omega)]
    exact decide_eq_decide.2 ⟨fun h => h.elim id (fun h => by omega), fun h => .inl h⟩
  have he : endsR (27 :: x :: g) c = ignR := by
    rw [end27 rfl]; unfold escR; rw [if_neg (fun h => by have := h.2; rw [h1] at this; omega), if_neg (fun h => by have := h.2.1; rw [h1] at this; omega), if_neg (by omega)]
  have hv : lastV ((27 :: x :: g) ++ [c]) = c := lastV_app (by omega)
  refine treeQ_in (by simp) (by omega) (esc_in rfl (ix_in ⟨by omega, by omega⟩ ?_))
  show sel (decide (x ≥ 57)) (sel (decide (x ≤ 59)) (rAsk ((27 :: x :: g) ++ [c]) (w64 (w64 x - 56)) R) (rBrk ((27 :: x :: g) ++ [c]) x R)) (rBrk ((27 :: x :: g) ++ [c]) x R)
  refine selF (dF (by omega)) ?_
  unfold rBrk rAttr rGap
  rw [hv, hlen]
  refine selF (bF (by omega)) (selF (dF (by omega)) (selT (dT (by omega)) (selT (dT (by omega)) (selT (dT (by omega)) (sel_by (fun h47 => ?_) fun h47 => fin_end (hg.trans (dF (by omega))) he h)))))
  by_cases h16 : g.length + 3 < 16
  · have hgo := hg.trans (dT ⟨by omega, by omega⟩)
    rw [dT (by omega)]
    exact fin_go hgo (by simp) h
  · rw [dF (by omega)]
    exact fin_end (hg.trans (dF (by omega))) he h
theorem xask {P : List Int} {n c : Int} {R : Out → Prop} (h0 : P.getD 0 0 = 27) (h1 : P.getD 1 0 = n + 56) (hn : 1 ≤ n ∧ n ≤ 3) (h2 : 2 ≤ P.length) (h4 : (P.length : Int) ≤ n + 1) (h : R (resE (seven (rE P c)) (goOn P c))) : treeQ (P ++ [c]) R := by
  have hlen : (P ++ [c]).length = P.length + 1 := by simp
  have hpne : P ≠ [] := fun e => by rw [e] at h2; simp at h2
  have hq1 : (P ++ [c]).getD 1 0 = P.getD 1 0 := by
    rw [List.getD_eq_getElem?_getD, List.getD_eq_getElem?_getD, List.getElem?_append_left (by omega)]
  have hg : goOn P c = decide ((P.length : Int) - 1 < P.getD 1 0 - 56) := by
    rw [go27 h0]; unfold escGo; rw [dF (fun h => by omega), dT ⟨by omega, by omega, by omega⟩]; rfl
  have he : endsR P c = askR P c := by
    rw [end27 h0]; unfold escR; rw [if_neg (by omega), if_pos ⟨by omega, by omega, by omega⟩]
  refine treeQ_in hpne (by omega) (esc_in h0 (ix_in ⟨by omega, by omega⟩ ?_))
  rw [hq1, h1]
  refine selT (dT (by omega)) (selT (dT (by omega)) ?_)
  rw [w64_of (n := n + 56) (by omega), w64_of (n := n + 56 - 56) (by omega), show n + 56 - 56 = n by omega]
  unfold rAsk
  rw [w64_of (n := 2 + n) (by omega), hlen]
  refine sel_by (fun hlt => fin_go (hg.trans (dT (by omega))) (by rw [h0]; decide) h) fun hlt => ix_in ⟨by omega, by omega⟩ ?_
  have fin := fin_end (hg.trans (dF (by omega))) (he.trans rfl) h
  rw [h1, show n + 56 - 56 = n by omega] at fin
  have z : ∀ j, P.length + 1 ≤ j → w64 ((P ++ [c]).getD j 0) = 0 := fun j hj => by
    rw [List.getD_eq_getElem?_getD, List.getElem?_eq_none (by omega)]; rfl
  have hPl : (P.length : Int) = n + 1 := by omega
  refine sel_by (fun ha => ix_in ⟨by omega, by omega⟩ (sel_by (fun hb => ix_in ⟨by omega, by omega⟩ fin) fun hb => ?_)) fun ha => selF (dF (by omega)) ?_
  · rw [z 4 (by omega)] at fin; exact fin
  · rw [z 3 (by omega), z 4 (by omega)] at fin; exact fin
theorem rseq_in {P : List Int} {c : Int} {R : Out → Prop} (hP : okR P) (hc : 32 ≤ c ∧ c < 128) (h : R (resE (seven (rE P c)) (goOn P c))) : treeQ (P ++ [c]) R := by
  cases hP with
  | a18 => exact x18 h
  | a25 => exact x25 hc h
  | b25 x hx => exact x25b h
  | a31 => exact x31 h
  | b31 x hx => exact x31b h
  | a27 => exact x27 hc h
  | brk ds hl hd => exact xbrk hl hd hc h
  | gap x g hl hx hg => exact xgap hl hx hc h
  | a57 => exact xask (n := 1) rfl rfl (by omega) (by simp) (by simp) h
  | a58 => exact xask (n := 2) rfl rfl (by omega) (by simp) (by simp) h
  | b58 r hr => exact xask (n := 2) rfl rfl (by omega) (by simp) (by simp) h
  | a59 => exact xask (n := 3) rfl rfl (by omega) (by simp) (by simp) h
  | b59 r hr => exact xask (n := 3) rfl rfl (by omega) (by simp) (by simp) h
  | c59 r t hr ht => exact xask (n := 3) rfl rfl (by omega) (by simp) (by simp) h
noncomputable def tRseq : Con := fun args regs => match args, regs with
  | [.c (.l .u8 Q)], [] => .must (okR Q.dropLast ∧ Q ≠ [] ∧ 32 ≤ Q.getD (Q.length - 1) 0 ∧ Q.getD (Q.length - 1) 0 < 128) (.ret (resE (seven (rE Q.dropLast (Q.getD (Q.length - 1) 0))) (goOn Q.dropLast (Q.getD (Q.length - 1) 0))))
  | _, _ => .fail
theorem split_last {Q : List Int} (h : Q ≠ []) : ∃ P c, Q = P ++ [c] := ⟨Q.dropLast, Q.getLast h, (List.dropLast_concat_getLast h).symm⟩
set_option maxRecDepth 100000 in
theorem kRseq : Known Try.prog [] 54 tRseq := by
  refine k_rseq.less fun args regs R h => Box.out ?_
  unfold tRseq at h
  split at h
  case h_2 => exact h.elim
  rename_i Q
  have h1 := h.1
  have h2 : R (resE (seven (rE Q.dropLast (Q.getD (Q.length - 1) 0))) (goOn Q.dropLast (Q.getD (Q.length - 1) 0))) := h.2
  clear h
  obtain ⟨hP, hne, hc⟩ := h1
  obtain ⟨P, c, rfl⟩ := split_last hne
  rw [getD_last, List.dropLast_concat] at h2
  rw [List.dropLast_concat] at hP
  rw [getD_last] at hc
  exact Box.of_eq (rseq_tree (P ++ [c]) R) (rseq_in hP hc h2)
end Go.Proofs.Ytnhadghddkgjdaa.lxr
