/-
  ham24: the law Ham24Far: the plain law.
-/
import Derived.Test.YtjjkbnipokpmcaaHamX
namespace Go.Proofs.Ytjjkbnipokpmcaa.ham
open Go Go.Nx

def wtTo (v : BitVec 32) : Nat → Nat
  | 0 => 0
  | n + 1 => wtTo v n + (v.getLsbD n).toNat
theorem wt_some (v : BitVec 32) : ∀ n, 0 < wtTo v n → ∃ i < n, v.getLsbD i = true
  | 0, h => by simp [wtTo] at h
  | n + 1, h => by
    cases hb : v.getLsbD n with
    | true => exact ⟨n, by omega, hb⟩
    | false =>
      simp only [wtTo, hb] at h
      obtain ⟨i, hi, e⟩ := wt_some v n (by simpa using h)
      exact ⟨i, by omega, e⟩
theorem wt_out (v : BitVec 32) (i : Nat) : ∀ n, n ≤ i → wtTo (v ^^^ BitVec.twoPow 32 i) n = wtTo v n
  | 0, _ => rfl
  | n + 1, h => by
    have hn : ¬ i = n := by omega
    simp only [wtTo, wt_out v i n (by omega), BitVec.getLsbD_xor, BitVec.getLsbD_twoPow]
    simp [hn]
theorem wt_in (v : BitVec 32) (i : Nat) (hv : v.getLsbD i = true) : ∀ n, n ≤ 32 → i < n → wtTo (v ^^^ BitVec.twoPow 32 i) n + 1 = wtTo v n
  | 0, _, h => by omega
  | n + 1, h32, h => by
    simp only [wtTo, BitVec.getLsbD_xor, BitVec.getLsbD_twoPow]
    by_cases e : i = n
    · subst e
      have h3 : i < 32 := by omega
      rw [wt_out v i i (Nat.le_refl _), hv]
      simp [h3]
    · have ih := wt_in v i hv n (by omega) (by omega)
      simp [e]
      omega
theorem wt_par (v : BitVec 32) : ∀ n, wtTo v n % 2 = (parTo v n).toNat
  | 0 => rfl
  | n + 1 => by
    have ih := wt_par v n
    simp only [wtTo, parTo]
    cases h1 : parTo v n <;> cases h2 : v.getLsbD n <;> rw [h1] at ih <;> simp at ih ⊢ <;> omega
theorem par_high (v : BitVec 32) (h : ∀ i, 24 ≤ i → v.getLsbD i = false) : parTo v 32 = parTo v 24 := by
  simp only [show parTo v 32 = (((((((parTo v 24 ^^ v.getLsbD 24) ^^ v.getLsbD 25) ^^ v.getLsbD 26) ^^ v.getLsbD 27) ^^ v.getLsbD 28) ^^ v.getLsbD 29) ^^ v.getLsbD 30 ^^ v.getLsbD 31) from by simp only [parTo, Bool.xor_assoc], h 24 (by decide), h 25 (by decide), h 26 (by decide), h 27 (by decide), h 28 (by decide), h 29 (by decide), h 30 (by decide), h 31 (by decide), Bool.xor_false]
theorem wt_none (v : BitVec 32) : ∀ n, wtTo v n = 0 → ∀ i < n, v.getLsbD i = false
  | 0, _, i, hi => by omega
  | n + 1, h, i, hi => by
    simp only [wtTo] at h
    by_cases e : i = n
    · subst e
      cases hb : v.getLsbD i with
      | false => rfl
      | true => rw [hb] at h; simp at h
    · exact wt_none v n (by omega) i (by omega)
theorem wt_zero {v : BitVec 32} (h : ∀ i, 24 ≤ i → v.getLsbD i = false) (h0 : wtTo v 24 = 0) : v = 0 := by
  apply BitVec.eq_of_getLsbD_eq
  intro i hi
  by_cases e : i < 24
  · rw [wt_none v 24 h0 i e]; simp
  · rw [h i (by omega)]; simp
theorem Nil.far {d : BitVec 32} (h : Nil d) : d = 0 ∨ 4 ≤ wtTo d 24 := by
  have hp := wt_par d 24
  rw [← par_high d h.high, h.par] at hp
  by_cases h4 : 4 ≤ wtTo d 24
  · exact .inr h4
  · left
    by_cases h0 : wtTo d 24 = 0
    · exact wt_zero h.high h0
    · exfalso
      have h2 : wtTo d 24 = 2 := by simp at hp; omega
      obtain ⟨i, hi, ei⟩ := wt_some d 24 (by omega)
      have w1 := wt_in d i ei 24 (by omega) hi
      obtain ⟨k, hk, ek⟩ := wt_some (d ^^^ BitVec.twoPow 32 i) 24 (by omega)
      have w2 := wt_in _ k ek 24 (by omega) hk
      have ne : i ≠ k := by
        intro e
        subst e
        have : i < 32 := by omega
        rw [BitVec.getLsbD_xor, ei, BitVec.getLsbD_twoPow] at ek
        simp [this] at ek
      have z := wt_zero (high_xor (high_xor h.high (bit_high hi)) (bit_high hk)) (by omega)
      have : d = BitVec.twoPow 32 i ^^^ BitVec.twoPow 32 k := by
        have e2 : d ^^^ BitVec.twoPow 32 i ^^^ BitVec.twoPow 32 k ^^^ (BitVec.twoPow 32 i ^^^ BitVec.twoPow 32 k) = d := by
          rw [BitVec.xor_assoc, BitVec.xor_assoc, BitVec.xor_comm (BitVec.twoPow 32 i) (BitVec.twoPow 32 k), ← BitVec.xor_assoc (BitVec.twoPow 32 k), BitVec.xor_self, BitVec.zero_xor, BitVec.xor_self, BitVec.xor_zero]
        rw [z] at e2
        rw [← e2]; simp
      have hs := h.syn
      rw [this, synv_xor, syn_one i hi, syn_one k hk] at hs
      exact sy_ne i hi k hk ne hs

theorem and_one8 (v : BitVec 8) (j : Nat) (hj : j ≤ 8) : bits .and .u8 (shrv .u8 (u8 v) (Int.ofNat j)) 1 = (v.getLsbD j).toNat := by
  rw [show Int.ofNat j = ((j : Nat) : Int) from rfl, shr_u8 v j (by omega), bits_u8, bvop_and, Nx.ofInt_u8_8]
  rw [show BitVec.ofInt 8 1 = 1#8 from rfl]
  have e : (v >>> j &&& 1#8) = bif v.getLsbD j then 1#8 else 0#8 := by
    apply BitVec.eq_of_getLsbD_eq
    intro i hi
    rw [BitVec.getLsbD_and, BitVec.getLsbD_ushiftRight]
    cases i with
    | zero => cases v.getLsbD j <;> simp
    | succ i => cases v.getLsbD j <;> simp
  rw [e]
  cases v.getLsbD j <;> rfl
def sumB : List (BitVec 8 × Nat) → Nat
  | [] => 0
  | x :: l => (x.1.getLsbD x.2).toNat + sumB l
theorem sumB_app (l m : List (BitVec 8 × Nat)) : sumB (l ++ m) = sumB l + sumB m := by
  induction l with
  | nil => simp [sumB]
  | cons x l ih => simp only [List.cons_append, sumB, ih]; omega
theorem cnt_bv : ∀ (l : List (BitVec 8 × Nat)) (n : Nat), n + l.length < 1000 → (∀ x ∈ l, x.2 ≤ 8) → cnt (l.map fun x => (u8 x.1, x.2)) (n : Int) = ((n + sumB l : Nat) : Int)
  | [], n, _, _ => by simp [cnt, sumB]
  | x :: l, n, h, hx => by
    have h1 := hx x (by simp)
    simp only [List.length_cons] at h
    simp only [List.map_cons, cnt, sumB]
    have hb : (x.1.getLsbD x.2).toNat ≤ 1 := by cases x.1.getLsbD x.2 <;> decide
    rw [and_one8 x.1 x.2 h1, wrap_small ((x.1.getLsbD x.2).toNat : Int) (by omega) (by omega), wrap_small _ (by omega) (by omega)]
    have := cnt_bv l (n + (x.1.getLsbD x.2).toNat) (by omega) fun y hy => hx y (by simp [hy])
    rw [Int.natCast_add] at this
    rw [this]
    omega
def l8 (v : BitVec 8) : List (BitVec 8 × Nat) := r8.map fun j => (v, j)
theorem cnt3 (a b c : BitVec 8) : cnt (of3 (u8 a) (u8 b) (u8 c)) 0 = ((sumB (l8 a) + (sumB (l8 b) + sumB (l8 c)) : Nat) : Int) := by
  have := cnt_bv (l8 a ++ (l8 b ++ l8 c)) 0 (by simp [l8, r8]) (by
    intro x hx
    simp only [List.mem_append, l8, r8, List.mem_map] at hx
    rcases hx with ⟨j, hj, rfl⟩ | ⟨j, hj, rfl⟩ | ⟨j, hj, rfl⟩ <;> simp at hj ⊢ <;> omega)
  rw [sumB_app, sumB_app, Nat.zero_add] at this
  rw [← this]
  rfl
theorem sum_wt (v : BitVec 32) : sumB (l8 (b0 v)) + (sumB (l8 (b1 v)) + sumB (l8 (b2 v))) = wtTo v 24 := by
  have h0 : ∀ j < 8, (b0 v).getLsbD j = v.getLsbD j := fun j hj => by unfold b0; rw [BitVec.getLsbD_setWidth]; simp [hj]
  have h1 : ∀ j < 8, (b1 v).getLsbD j = v.getLsbD (8 + j) := fun j hj => by unfold b1; rw [BitVec.getLsbD_setWidth, BitVec.getLsbD_ushiftRight]; simp [hj]
  have h2 : ∀ j < 8, (b2 v).getLsbD j = v.getLsbD (16 + j) := fun j hj => by unfold b2; rw [BitVec.getLsbD_setWidth, BitVec.getLsbD_ushiftRight]; simp [hj]
  simp only [l8, r8, List.map_cons, List.map_nil, sumB]
  simp only [h0 0 (by decide), h0 1 (by decide), h0 2 (by decide), h0 3 (by decide), h0 4 (by decide), h0 5 (by decide), h0 6 (by decide), h0 7 (by decide),
    h1 0 (by decide), h1 1 (by decide), h1 2 (by decide), h1 3 (by decide), h1 4 (by decide), h1 5 (by decide), h1 6 (by decide), h1 7 (by decide),
    h2 0 (by decide), h2 1 (by decide), h2 2 (by decide), h2 3 (by decide), h2 4 (by decide), h2 5 (by decide), h2 6 (by decide), h2 7 (by decide)]
  simp only [wtTo, Nat.reduceAdd]
  omega
theorem cntA_eq (v : BitVec 32) : cntA v = (wtTo v 24 : Int) := by unfold cntA; rw [cnt3, sum_wt]
theorem cntD_eq (v w : BitVec 32) : cntD v w = (wtTo (v ^^^ w) 24 : Int) := by
  unfold cntD xb
  rw [bits_u8, bits_u8, bits_u8, bvop_xor, bvop_xor, bvop_xor, ofInt_u8_8, ofInt_u8_8, ofInt_u8_8, ofInt_u8_8, ofInt_u8_8, ofInt_u8_8, cnt3, ← b0_xor, ← b1_xor, ← b2_xor, sum_wt]
theorem wn_inj {a b : Int} (h : wn a = wn b) : a % 262144 = b % 262144 := by
  have ea : i64 (datv (wn a)) = a % 262144 := dat_word (by omega) (by omega)
  have eb : i64 (datv (wn b)) = b % 262144 := dat_word (by omega) (by omega)
  rw [← ea, ← eb, h]
theorem far_true (a b : Int) : Holds (tFar [.c (.i .i64 a), .c (.i .i64 b)] []) fun o => o.res = .v (.c (.b true)) := by
  constructor
  rw [far_tree]
  have en : (InNum 262144) := ⟨by decide, by decide⟩
  refine ⟨en, en, num_in64 (by omega) (by omega), num_in64 (by omega) (by omega), ?_⟩
  have ha : Code (wn a) := wordv_code _
  have hb : Code (wn b) := wordv_code _
  have hf := (ha.nil hb).far
  have hw : ((cntA (wn a)).tmod 2 == 1) = true := by
    rw [cntA_eq, beq_iff_eq, Int.tmod_eq_emod_of_nonneg (Int.natCast_nonneg _)]
    have := wt_par (wn a) 24
    rw [← par_high _ ha.high, ha.par] at this
    simp at this
    omega
  rw [cntD_eq, hw]
  rcases hf with h0 | h4
  · have e : wn a = wn b := by
      have := congrArg (fun x => x ^^^ wn b) h0
      simpa [BitVec.xor_assoc] using this
    have e2 := wn_inj e
    rw [h0]
    have : wtTo 0 24 = 0 := by decide +kernel
    rw [this, e2]
    exact sel_iff.2 (.inl ⟨by simp, sel_iff.2 (.inl ⟨by simp, rfl⟩)⟩)
  · have ne : ¬ a % 262144 = b % 262144 := by
      intro e
      have : wn a = wn b := by unfold wn; rw [e]
      rw [this, BitVec.xor_self] at h4
      revert h4
      decide +kernel
    refine sel_iff.2 (.inl ⟨?_, sel_iff.2 (.inr ⟨?_, sel_iff.2 (.inl ⟨?_, rfl⟩)⟩)⟩)
    · have h1 : (a % 262144 == b % 262144) = false := by rw [beq_eq_false_iff_ne]; exact ne
      have h2 : ((wtTo (wn a ^^^ wn b) 24 : Int) == 0) = false := by rw [beq_eq_false_iff_ne]; omega
      rw [h1, h2]; rfl
    · rw [beq_eq_false_iff_ne]; omega
    · rw [decide_eq_true_eq]; omega
theorem far_calls (a b : Int) (w : World) : Calls Try.prog 6 #[.int .i64 a, .int .i64 b] w fun e w' => e = .returned (.bool true) ∧ RowKit.Grown w w' := by
  have hr : R2 (VRel (topEnv w fun _ => Option.none)) [NV.c (NC.i .i64 a), NV.c (NC.i .i64 b)] [Value.int .i64 a, .int .i64 b] :=
    R2.cons (int_rel _ _ _) (R2.cons (int_rel _ _ _) .nil)
  exact kFar.law (fun _ => Option.none) (globOk_nil _) hr (far_true a b)
end Go.Proofs.Ytjjkbnipokpmcaa.ham
