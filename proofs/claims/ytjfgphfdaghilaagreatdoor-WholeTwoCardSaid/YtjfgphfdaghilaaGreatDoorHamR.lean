/-
  ham24: the plain law: the word that Put makes; it is the only one of its kind.
-/
import Derived.Test.YtjfgphfdaghilaaGreatDoorHamQ
namespace Go.Proofs.YtjfgphfdaghilaaGreatDoor.ham
open Go Go.Nx

/-- The bits that are set where the sums' bits are not. -/
def kpv (s : BitVec 64) : BitVec 32 := keepv s [0, 1, 2, 3, 4] 0
def p0v (n : BitVec 64) : BitVec 32 := placev n spots 0 0
def p1v (n : BitVec 64) : BitVec 32 := keepv (synv (p0v n) 23) [0, 1, 2, 3, 4] (p0v n)
/-- The word that Put makes of a number. -/
def wordv (n : BitVec 64) : BitVec 32 := bif parTo (p1v n) 32 then p1v n else p1v n ||| 8388608#32

theorem spots_pos : ∀ p ∈ spots, 0 < p := by decide
theorem spots_le : ∀ p ∈ spots, p ≤ 32 ∧ 0 < p := by decide
theorem spots_nodup : spots.Nodup := by decide
theorem p0v_off (n : BitVec 64) (i : Nat) (h : i + 1 ∉ spots) : (p0v n).getLsbD i = false := by
  unfold p0v
  rw [placev_off n i spots 0 0 spots_pos h]
  simp
theorem p0v_on (n : BitVec 64) (i j : Nat) (h : spots[j]? = some (i + 1)) : (p0v n).getLsbD i = n.getLsbD j := by
  have hi : i < 32 := by
    have := (spots_le _ (List.mem_of_getElem? h)).1
    omega
  unfold p0v
  rw [placev_on n i hi spots 0 0 j spots_pos spots_nodup h (by simp), Nat.zero_add]
theorem keepv_or (s : BitVec 64) : ∀ (ks : List Nat) (v w : BitVec 32), keepv s ks (v ||| w) = v ||| keepv s ks w
  | [], _, _ => rfl
  | k :: ks, v, w => by
    simp only [keepv]
    rw [BitVec.or_assoc, keepv_or s ks]
theorem keepv_off (s : BitVec 64) (i : Nat) : ∀ (ks : List Nat) (w : BitVec 32), (∀ k ∈ ks, i ≠ 2 ^ k - 1) → (keepv s ks w).getLsbD i = w.getLsbD i
  | [], _, _ => rfl
  | k :: ks, w, h => by
    have h1 := h k (by simp)
    simp only [keepv]
    rw [keepv_off s i ks _ fun q hq => h q (by simp [hq]), BitVec.getLsbD_or]
    cases s.getLsbD k with
    | false => simp [BitVec.getLsbD_twoPow, Ne.symm h1]
    | true => simp
theorem disj_xor (v w : BitVec 32) (h : ∀ i < 32, v.getLsbD i = true → w.getLsbD i = false) : v ||| w = v ^^^ w := by
  apply BitVec.eq_of_getLsbD_eq
  intro i hi
  rw [BitVec.getLsbD_or, BitVec.getLsbD_xor]
  have := h i hi
  cases hv : v.getLsbD i with
  | false => simp
  | true => rw [this hv]; rfl
theorem watch_off : ∀ i < 32, i + 1 ∈ spots → ∀ k ∈ [0, 1, 2, 3, 4], i ≠ 2 ^ k - 1 := by decide
theorem p1v_xor (n : BitVec 64) : p1v n = p0v n ^^^ kpv (synv (p0v n) 23) := by
  unfold p1v kpv
  rw [← disj_xor]
  · have := keepv_or (synv (p0v n) 23) [0, 1, 2, 3, 4] (p0v n) 0
    rw [← this]
    simp
  · intro i hi h
    have hm : i + 1 ∈ spots := by
      apply Classical.byContradiction
      intro hn
      rw [p0v_off n i hn] at h
      cases h
    rw [keepv_off _ i _ _ (watch_off i hi hm)]
    simp
theorem synv_lt (v : BitVec 32) : ∀ n, n ≤ 23 → (synv v n).toNat < 32
  | 0, _ => by simp [synv]
  | n + 1, hn => by
    have ih := synv_lt v n (by omega)
    simp only [synv]
    rw [BitVec.toNat_xor]
    have h1 : (bif v.getLsbD (22 - n) then BitVec.ofNat 64 (23 - n) else 0#64).toNat < 2 ^ 5 := by
      cases v.getLsbD (22 - n) with
      | false => exact (by decide : (0#64).toNat < 2 ^ 5)
      | true =>
        show (BitVec.ofNat 64 (23 - n)).toNat < 32
        rw [BitVec.toNat_ofNat]
        omega
    exact Nat.xor_lt_two_pow h1 ih
theorem syn_kp_all : ∀ s < 32, synv (kpv (BitVec.ofNat 64 s)) 23 = BitVec.ofNat 64 s ^^^ 31#64 := by decide +kernel
theorem syn_kp (s : BitVec 64) (h : s.toNat < 32) : synv (kpv s) 23 = s ^^^ 31#64 := by
  have := syn_kp_all s.toNat h
  rwa [BitVec.ofNat_toNat, BitVec.setWidth_eq] at this
theorem p1v_syn (n : BitVec 64) : synv (p1v n) 23 = 31#64 := by
  rw [p1v_xor, synv_xor, syn_kp _ (synv_lt _ 23 (by decide)), ← BitVec.xor_assoc, BitVec.xor_self, BitVec.zero_xor]
theorem kpv_off (s : BitVec 64) (i : Nat) (h : ∀ k ∈ [0, 1, 2, 3, 4], i ≠ 2 ^ k - 1) : (kpv s).getLsbD i = false := by
  unfold kpv
  rw [keepv_off s i _ _ h]
  simp
theorem p1v_off (n : BitVec 64) (i : Nat) (h : i + 1 ∉ spots) (h2 : ∀ k ∈ [0, 1, 2, 3, 4], i ≠ 2 ^ k - 1) : (p1v n).getLsbD i = false := by
  rw [p1v_xor, BitVec.getLsbD_xor, p0v_off n i h, kpv_off _ i h2]
  rfl
theorem p1v_on (n : BitVec 64) (i j : Nat) (h : spots[j]? = some (i + 1)) : (p1v n).getLsbD i = n.getLsbD j := by
  have hm := List.mem_of_getElem? h
  have hi : i < 32 := by
    have := (spots_le _ hm).1
    omega
  rw [p1v_xor, BitVec.getLsbD_xor, p0v_on n i j h, kpv_off _ i (watch_off i hi hm)]
  simp
theorem last_xor (n : BitVec 64) : p1v n ||| 8388608#32 = p1v n ^^^ 8388608#32 := by
  apply disj_xor
  intro i hi h
  have : i ≠ 23 := by
    intro e
    subst e
    rw [p1v_off n 23 (by decide) (by decide)] at h
    cases h
  show (BitVec.twoPow 32 23).getLsbD i = false
  rw [BitVec.getLsbD_twoPow]
  simp [Ne.symm this]
theorem wordv_xor (n : BitVec 64) : wordv n = p1v n ^^^ (bif parTo (p1v n) 32 then 0#32 else 8388608#32) := by
  unfold wordv
  rw [last_xor]
  cases parTo (p1v n) 32 <;> simp
theorem wordv_syn (n : BitVec 64) : synv (wordv n) 23 = 31#64 := by
  rw [wordv_xor, synv_xor, p1v_syn]
  have : synv (bif parTo (p1v n) 32 then 0#32 else 8388608#32) 23 = 0#64 := by
    cases parTo (p1v n) 32 <;> decide +kernel
  rw [this, BitVec.xor_zero]
theorem wordv_par (n : BitVec 64) : parTo (wordv n) 32 = true := by
  rw [wordv_xor, parTo_xor]
  have h1 : parTo (0#32) 32 = false := by decide +kernel
  have h2 : parTo (8388608#32) 32 = true := by decide +kernel
  cases parTo (p1v n) 32
  · exact h2
  · show (true ^^ parTo (0#32) 32) = true
    rw [h1]; rfl
theorem wordv_on (n : BitVec 64) (i j : Nat) (h : spots[j]? = some (i + 1)) : (wordv n).getLsbD i = n.getLsbD j := by
  have hm := List.mem_of_getElem? h
  have h23 : i ≠ 23 := by
    intro e
    subst e
    revert hm
    decide
  rw [wordv_xor, BitVec.getLsbD_xor, p1v_on n i j h]
  have : (bif parTo (p1v n) 32 then 0#32 else 8388608#32).getLsbD i = false := by
    cases parTo (p1v n) 32
    · show (BitVec.twoPow 32 23).getLsbD i = false
      rw [BitVec.getLsbD_twoPow]
      simp [Ne.symm h23]
    · simp
  rw [this, Bool.xor_false]
theorem far_off : ∀ i < 32, 24 ≤ i → i + 1 ∉ spots ∧ ∀ k ∈ [0, 1, 2, 3, 4], i ≠ 2 ^ k - 1 := by decide
theorem wordv_high (n : BitVec 64) (i : Nat) (h : 24 ≤ i) : (wordv n).getLsbD i = false := by
  by_cases hi : i < 32
  · have hf := far_off i hi h
    rw [wordv_xor, BitVec.getLsbD_xor, p1v_off n i hf.1 hf.2]
    have : (bif parTo (p1v n) 32 then 0#32 else 8388608#32).getLsbD i = false := by
      cases parTo (p1v n) 32
      · show (BitVec.twoPow 32 23).getLsbD i = false
        rw [BitVec.getLsbD_twoPow]
        have : ¬ 23 = i := by omega
        simp [this]
      · simp
    rw [this]; rfl
  · exact BitVec.getLsbD_of_ge _ _ (by omega)

/-- A word of the kind that Put makes: each watch sees an odd number, all together are odd, nothing above. -/
structure Code (v : BitVec 32) : Prop where
  syn : synv v 23 = 31#64
  par : parTo v 32 = true
  high : ∀ i, 24 ≤ i → v.getLsbD i = false
theorem wordv_code (n : BitVec 64) : Code (wordv n) := ⟨wordv_syn n, wordv_par n, wordv_high n⟩
/-- A word without data whose watches see nothing is nothing. -/
structure Nil (d : BitVec 32) : Prop where
  syn : synv d 23 = 0#64
  par : parTo d 32 = false
  high : ∀ i, 24 ≤ i → d.getLsbD i = false
theorem Code.nil {v w : BitVec 32} (hv : Code v) (hw : Code w) : Nil (v ^^^ w) := by
  refine ⟨?_, ?_, fun i hi => ?_⟩
  · rw [synv_xor, hv.syn, hw.syn, BitVec.xor_self]
  · rw [parTo_xor, hv.par, hw.par]; rfl
  · rw [BitVec.getLsbD_xor, hv.high i hi, hw.high i hi]; rfl
theorem spots_cases : ∀ i < 24, i + 1 ∈ spots ∨ i = 0 ∨ i = 1 ∨ i = 3 ∨ i = 7 ∨ i = 15 ∨ i = 23 := by decide
def sixv (a b c d e f : Bool) : BitVec 32 := (bif a then 1#32 else 0#32) ||| (bif b then 2#32 else 0#32) ||| (bif c then 8#32 else 0#32) ||| (bif d then 128#32 else 0#32) ||| (bif e then 32768#32 else 0#32) ||| (bif f then 8388608#32 else 0#32)
theorem six_all : ∀ a b c d e f : Bool, synv (sixv a b c d e f) 23 = 0#64 → parTo (sixv a b c d e f) 32 = false → sixv a b c d e f = 0#32 := by decide +kernel
theorem six_bit : ∀ a b c d e f : Bool, ∀ i < 32, (sixv a b c d e f).getLsbD i = (if i = 0 then a else if i = 1 then b else if i = 3 then c else if i = 7 then d else if i = 15 then e else if i = 23 then f else false) := by decide +kernel
theorem Nil.zero {d : BitVec 32} (h : Nil d) (hs : ∀ i, i + 1 ∈ spots → d.getLsbD i = false) : d = 0#32 := by
  have e : d = sixv (d.getLsbD 0) (d.getLsbD 1) (d.getLsbD 3) (d.getLsbD 7) (d.getLsbD 15) (d.getLsbD 23) := by
    apply BitVec.eq_of_getLsbD_eq
    intro i hi
    rw [six_bit _ _ _ _ _ _ i hi]
    by_cases h24 : 24 ≤ i
    · rw [h.high i h24]
      repeat rw [if_neg (by omega)]
    · rcases spots_cases i (by omega) with hm | h | h | h | h | h | h
      · rw [hs i hm]
        have hk := watch_off i hi hm
        have h23 : i ≠ 23 := by
          intro e
          subst e
          revert hm
          decide
        have a0 := hk 0 (by decide)
        have a1 := hk 1 (by decide)
        have a3 := hk 2 (by decide)
        have a7 := hk 3 (by decide)
        have a15 := hk 4 (by decide)
        repeat rw [if_neg (by omega)]
      all_goals subst h; rfl
  have hy := h.syn
  have hp := h.par
  rw [e] at hy hp ⊢
  exact six_all _ _ _ _ _ _ hy hp
theorem Code.uniq {v w : BitVec 32} (hv : Code v) (hw : Code w) (h : ∀ i, i + 1 ∈ spots → v.getLsbD i = w.getLsbD i) : v = w := by
  have hz := (hv.nil hw).zero fun i hi => by rw [BitVec.getLsbD_xor, h i hi, Bool.xor_self]
  apply BitVec.eq_of_getLsbD_eq
  intro i _
  have := congrArg (fun x : BitVec 32 => x.getLsbD i) hz
  rw [BitVec.getLsbD_xor] at this
  simp at this
  exact this
end Go.Proofs.YtjfgphfdaghilaaGreatDoor.ham
