/-
  ham24: the document's words are the program's.
-/
import Derived.Test.YtjjkbnipokpmcaaHamA
namespace Go.Proofs.Ytjjkbnipokpmcaa.ham
open Go Go.Nx
open ones (bl)

theorem u32_i64 (v : BitVec 32) : u32 v = i64 (v.setWidth 64) := by
  unfold u32 i64
  have := v.isLt
  rw [BitVec.toInt_eq_toNat_bmod, BitVec.toNat_setWidth, Int.bmod_def]
  split <;> omega
theorem or_u32i (v w : BitVec 32) : bits .or .i64 (u32 v) (u32 w) = u32 (v ||| w) := by
  rw [u32_i64, u32_i64, or_i64, u32_i64, BitVec.setWidth_or]
theorem xor_u32i (v w : BitVec 32) : bits .xor .i64 (u32 v) (u32 w) = u32 (v ^^^ w) := by
  rw [u32_i64, u32_i64, xor_i64, u32_i64, BitVec.setWidth_xor]
theorem shl_biti (b : Bool) (j : Nat) (hj : j < 64) : shlv .i64 (b.toNat : Int) (Int.ofNat j) = i64 (bif b then BitVec.twoPow 64 j else 0) := by
  rw [← shl_bit64 b j hj]
  cases b <;> rfl
theorem shl_bitu (b : Bool) (j : Nat) (hj : j < 32) : shlv .i64 (b.toNat : Int) (Int.ofNat j) = u32 (bif b then BitVec.twoPow 32 j else 0) := by
  rw [shl_biti b j (by omega), u32_i64]
  congr 1
  cases b with
  | false => simp
  | true =>
    apply BitVec.eq_of_toNat_eq
    show (BitVec.twoPow 64 j).toNat = ((BitVec.twoPow 32 j).setWidth 64).toNat
    have h1 : 2 ^ j < 2 ^ 32 := Nat.pow_lt_pow_right (by decide) hj
    rw [BitVec.toNat_setWidth, BitVec.toNat_twoPow, BitVec.toNat_twoPow]
    rw [Nat.mod_eq_of_lt (by omega : 2 ^ j < 2 ^ 64), Nat.mod_eq_of_lt (by omega : 2 ^ j < 2 ^ 32), Nat.mod_eq_of_lt (by omega)]
theorem and_onei (v : BitVec 32) (j : Nat) (hj : j < 64) : bits .and .i64 (shrv .i64 (u32 v) (Int.ofNat j)) 1 = (v.getLsbD j).toNat := by
  rw [u32_i64, shr_and_one _ j hj, BitVec.getLsbD_setWidth]
  simp [hj]
theorem rplace_bv (n : BitVec 64) : ∀ (ps : List Nat) (w : BitVec 32) (k : Nat), k + ps.length ≤ 64 → (∀ p ∈ ps, p ≤ 32 ∧ 0 < p) → rplace (i64 n) ps (u32 w) k = u32 (placev n ps w k)
  | [], _, _, _, _ => rfl
  | p :: ps, w, k, hk, hp => by
    have h1 := hp p (by simp)
    simp only [List.length_cons] at hk
    simp only [rplace, placev]
    rw [shr_and_one n k (by omega), shl_bitu _ (p - 1) (by omega), or_u32i, rplace_bv n ps _ (k + 1) (by omega) fun q hq => hp q (by simp [hq])]
theorem rdat_bv (v : BitVec 32) : ∀ (ps : List Nat) (n : BitVec 64) (k : Nat), k + ps.length ≤ 64 → (∀ p ∈ ps, p ≤ 32) → rdat (u32 v) ps (i64 n) k = i64 (datw v ps n k)
  | [], _, _, _, _ => rfl
  | p :: ps, n, k, hk, hp => by
    have h1 := hp p (by simp)
    simp only [List.length_cons] at hk
    simp only [rdat, datw]
    rw [and_onei v (p - 1) (by omega), shl_biti _ k (by omega), or_i64, rdat_bv v ps _ (k + 1) (by omega) fun q hq => hp q (by simp [hq])]

/-- Whether an odd number of places is set. -/
def oddb (v : BitVec 32) : List Nat → Bool → Bool
  | [], b => b
  | p :: ps, b => oddb v ps (b ^^ v.getLsbD (p - 1))
theorem oddR_bv (v : BitVec 32) : ∀ (ps : List Nat) (b : Bool), (∀ p ∈ ps, p ≤ 32) → oddR (u32 v) ps (b.toNat : Int) = ((oddb v ps b).toNat : Int)
  | [], _, _ => rfl
  | p :: ps, b, hp => by
    have h1 := hp p (by simp)
    simp only [oddR, oddb]
    rw [and_onei v (p - 1) (by omega)]
    have e : bits .xor .i64 (b.toNat : Int) ((v.getLsbD (p - 1)).toNat : Int) = ((b ^^ v.getLsbD (p - 1)).toNat : Int) := by
      cases b <;> cases v.getLsbD (p - 1) <;> decide
    rw [e, oddR_bv v ps _ fun q hq => hp q (by simp [hq])]
theorem oddb_ext {v w : BitVec 32} : ∀ (ps : List Nat) (b : Bool), (∀ p ∈ ps, v.getLsbD (p - 1) = w.getLsbD (p - 1)) → oddb v ps b = oddb w ps b
  | [], _, _ => rfl
  | p :: ps, b, h => by
    simp only [oddb]
    rw [h p (by simp), oddb_ext ps _ fun q hq => h q (by simp [hq])]
theorem oddb_start (v : BitVec 32) : ∀ (ps : List Nat) (b : Bool), oddb v ps b = (b ^^ oddb v ps false)
  | [], b => by simp [oddb]
  | p :: ps, b => by
    simp only [oddb]
    rw [oddb_start v ps (b ^^ _), oddb_start v ps (false ^^ _), Bool.false_xor, Bool.xor_assoc]
def synl (v : BitVec 32) : List Nat → BitVec 64
  | [] => 0
  | p :: ps => (bif v.getLsbD (p - 1) then BitVec.ofNat 64 p else 0) ^^^ synl v ps
theorem synl_bit (v : BitVec 32) (k : Nat) (hk : k < 64) : ∀ ps, (synl v ps).getLsbD k = oddb v (ps.filter fun p => p.testBit k) false
  | [] => by simp [synl, oddb]
  | p :: ps => by
    simp only [synl, BitVec.getLsbD_xor]
    rw [synl_bit v k hk ps, List.filter_cons]
    have e : (bif v.getLsbD (p - 1) then BitVec.ofNat 64 p else 0).getLsbD k = (v.getLsbD (p - 1) && p.testBit k) := by
      cases v.getLsbD (p - 1) with
      | false => simp
      | true =>
        show (BitVec.ofNat 64 p).getLsbD k = _
        rw [BitVec.getLsbD_ofNat]
        simp [hk]
    rw [e]
    cases p.testBit k with
    | false => simp
    | true =>
      simp only [if_true, oddb]
      rw [oddb_start v _ (false ^^ _)]
      simp
theorem synv_synl (v : BitVec 32) : synv v 23 = synl v (List.range 24).tail := by
  simp only [synv]
  rfl
theorem those_tail : ∀ k < 5, those k = (List.range 24).tail.filter fun p => p.testBit k := by decide
theorem syn_odd (v : BitVec 32) (k : Nat) (hk : k < 5) : (synv v 23).getLsbD k = oddb v (those k) false := by
  rw [synv_synl, synl_bit v k (by omega), those_tail k hk]
def keepO : List Nat → BitVec 32 → BitVec 32
  | [], w => w
  | k :: ks, w => keepO ks (bif oddb w (those k) false then w else w ||| BitVec.twoPow 32 (2 ^ k - 1))
theorem those_le : ∀ k < 5, ∀ p ∈ those k, p ≤ 32 := by decide
theorem pow_u32 : ∀ k < 5, Int.ofNat (2 ^ (2 ^ k - 1)) = u32 (BitVec.twoPow 32 (2 ^ k - 1)) := by decide +kernel
theorem keepI_bv : ∀ (ks : List Nat) (w : BitVec 32), (∀ k ∈ ks, k < 5) → keepI ks (u32 w) = u32 (keepO ks w)
  | [], _, _ => rfl
  | k :: ks, w, hk => by
    have h1 := hk k (by simp)
    have e := oddR_bv w (those k) false (those_le k h1)
    simp only [keepI, keepO]
    rw [show oddR (u32 w) (those k) 0 = oddR (u32 w) (those k) (false.toNat : Int) from rfl, e, pow_u32 k h1, or_u32i]
    cases ho : oddb w (those k) false with
    | true =>
      rw [if_neg (by decide)]
      exact keepI_bv ks _ fun q hq => hk q (by simp [hq])
    | false =>
      rw [if_pos (by decide)]
      exact keepI_bv ks _ fun q hq => hk q (by simp [hq])
theorem watch_own : ∀ k < 5, ∀ q < 5, k ≠ q → ∀ p ∈ those q, 2 ^ k - 1 ≠ p - 1 := by decide
theorem keepO_v (s : BitVec 64) : ∀ (ks : List Nat) (w : BitVec 32), ks.Nodup → (∀ k ∈ ks, k < 5) → (∀ k ∈ ks, oddb w (those k) false = s.getLsbD k) → keepO ks w = keepv s ks w
  | [], _, _, _, _ => rfl
  | k :: ks, w, hn, hk, h => by
    rw [List.nodup_cons] at hn
    have h1 := h k (by simp)
    have k5 := hk k (by simp)
    simp only [keepO, keepv]
    have e : (bif oddb w (those k) false then w else w ||| BitVec.twoPow 32 (2 ^ k - 1)) = w ||| (bif !s.getLsbD k then BitVec.twoPow 32 (2 ^ k - 1) else 0) := by
      rw [h1]
      cases s.getLsbD k <;> simp
    rw [e]
    refine keepO_v s ks _ hn.2 (fun q hq => hk q (by simp [hq])) fun q hq => ?_
    rw [← h q (by simp [hq])]
    apply oddb_ext
    intro p hp
    have ne := watch_own k k5 q (hk q (by simp [hq])) (fun e => hn.1 (e ▸ hq)) p hp
    rw [BitVec.getLsbD_or]
    cases s.getLsbD k with
    | true => simp
    | false => simp [BitVec.getLsbD_twoPow, ne]
theorem keepO_p1 (n : BitVec 64) : keepO [0, 1, 2, 3, 4] (p0v n) = p1v n :=
  keepO_v (synv (p0v n) 23) [0, 1, 2, 3, 4] (p0v n) (by decide) (by decide) fun k hk => (syn_odd _ k (by simp at hk; omega)).symm
theorem par_bv (v : BitVec 32) : ∀ n, ones.par v.toNat n = parTo v n
  | 0 => rfl
  | n + 1 => by
    simp only [ones.par, parTo]
    rw [par_bv v n, BitVec.testBit_toNat]
theorem bl_even (v : BitVec 32) : ((bl (u32 v).toNat : Int).tmod 2 == 0) = !parTo v 32 := by
  have h := ones.bl_par 32 v.toNat v.isLt
  rw [par_bv] at h
  rw [Int.tmod_eq_emod_of_nonneg (Int.natCast_nonneg _)]
  have e : (u32 v).toNat = v.toNat := by simp [u32]
  rw [e]
  cases hp : parTo v 32 <;> rw [hp] at h <;> simp [Bool.toNat] at h ⊢ <;> omega
/-- What is known of the document's put24. -/
noncomputable def tPutR : Con := fun args regs => match args, regs with
  | [.c (.i .i64 n)], [] => .must (In64 n) (.ret ⟨.v (.c (.i .i64 (u32 (wordv (BitVec.ofInt 64 n))))), []⟩)
  | _, _ => .fail
set_option maxRecDepth 100000 in
theorem kPutR : Known Try.prog [] 21 tPutR := by
  refine kPut24a.less fun args regs R h => ?_
  unfold tPutR at h
  split at h
  case h_2 => exact h.elim
  rename_i n
  have h1 := h.1
  have h2 : R ⟨.v (.c (.i .i64 (u32 (wordv (BitVec.ofInt 64 n))))), []⟩ := h.2
  clear h
  have hn := fit_i64 h1.1 h1.2
  generalize BitVec.ofInt 64 n = v at *
  subst hn
  rw [put24_tree]
  have e0 : rplace (i64 v) spots 0 0 = u32 (p0v v) := rplace_bv v spots 0 0 (by decide) spots_le
  rw [e0, keepI_bv _ _ (by decide), keepO_p1]
  have hf := u32_fits (p1v v)
  refine ⟨⟨by decide, by decide⟩, ⟨hf.1, by omega⟩, ?_⟩
  rw [bl_even, show (8388608 : Int) = u32 8388608#32 from rfl, or_u32i]
  unfold wordv at h2
  cases hp : parTo (p1v v) 32 with
  | true =>
    rw [hp] at h2
    exact sel_iff.2 (.inr ⟨rfl, h2⟩)
  | false =>
    rw [hp] at h2
    exact sel_iff.2 (.inl ⟨rfl, h2⟩)
/-- What is known of the document's data24. -/
noncomputable def tDataR : Con := fun args regs => match args, regs with
  | [.c (.i .i64 w)], [] => .must (0 ≤ w ∧ w < 4294967296) (.ret ⟨.v (.c (.i .i64 (i64 (datv (BitVec.ofInt 32 w))))), []⟩)
  | _, _ => .fail
set_option maxRecDepth 100000 in
theorem kDataR : Known Try.prog [] 23 tDataR := by
  refine kData0.less fun args regs R h => ?_
  unfold tDataR at h
  split at h
  case h_2 => exact h.elim
  rename_i w
  have h1 := h.1
  have h2 : R ⟨.v (.c (.i .i64 (i64 (datv (BitVec.ofInt 32 w))))), []⟩ := h.2
  clear h
  have hn := fit_u32 h1.1 h1.2
  generalize BitVec.ofInt 32 w = v at *
  subst hn
  rw [data_tree]
  have e0 : rdat (u32 v) spots 0 0 = i64 (datv v) := rdat_bv v spots 0 0 (by decide) (by decide)
  rw [e0]
  exact h2
end Go.Proofs.Ytjjkbnipokpmcaa.ham
