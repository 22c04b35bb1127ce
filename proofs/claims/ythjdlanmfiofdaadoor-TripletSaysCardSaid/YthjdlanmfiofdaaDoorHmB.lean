/-
  Twenty-four bits: Put and Get over words.
-/
import Derived.Test.YthjdlanmfiofdaaDoorHmA
namespace Go.Proofs.YthjdlanmfiofdaaDoor.ham
open Go Go.Nx

def synv (v : BitVec 32) : Nat → BitVec 64
  | 0 => 0
  | n + 1 => (bif v.getLsbD (22 - n) then BitVec.ofNat 64 (23 - n) else 0) ^^^ synv v n
theorem isSet_bv (v : BitVec 32) (p : Nat) (hp : p ≤ 32) : isSet (u32 v) p = v.getLsbD (p - 1) := by
  unfold isSet
  rw [shr_u32 v (p - 1) (by omega), bits_u32, bvop_and, Nx.ofInt_u32]
  have e : (1 : Int) = u32 1#32 := rfl
  rw [show BitVec.ofInt 32 1 = 1#32 from rfl, e]
  have h1 : (u32 (BitVec.setWidth 32 (v >>> (p - 1)) &&& 1#32) == u32 1#32) = ((v >>> (p - 1)) &&& 1#32 == 1#32) := by
    rw [Bool.eq_iff_iff, beq_iff_eq, beq_iff_eq, u32_inj, BitVec.setWidth_eq]
  rw [h1, Bool.eq_iff_iff, beq_iff_eq]
  constructor
  · intro h
    have := congrArg (fun x : BitVec 32 => x.getLsbD 0) h
    simpa using this
  · intro h
    apply BitVec.eq_of_getLsbD_eq
    intro i hi
    rw [BitVec.getLsbD_and, BitVec.getLsbD_ushiftRight]
    cases i with
    | zero => simpa using h
    | succ i => simp
theorem syn_bv (v : BitVec 32) : ∀ (n : Nat) (a : BitVec 64), n ≤ 23 → syn (u32 v) (i64 a) n = i64 (a ^^^ synv v n)
  | 0, a, _ => by simp [syn, synv]
  | n + 1, a, hn => by
    simp only [syn, synv]
    rw [isSet_bv v (23 - n) (by omega)]
    have e1 : 23 - n - 1 = 22 - n := by omega
    rw [e1]
    cases v.getLsbD (22 - n) with
    | true =>
      rw [if_pos rfl, bits_i64, bvop_xor, Nx.ofInt_i64_64, BitVec.ofInt_natCast, syn_bv v n _ (by omega)]
      simp [BitVec.xor_assoc]
    | false =>
      rw [if_neg (by decide), syn_bv v n _ (by omega)]
      simp
theorem synv_xor (v w : BitVec 32) : ∀ n, synv (v ^^^ w) n = synv v n ^^^ synv w n
  | 0 => by simp [synv]
  | n + 1 => by
    simp only [synv, synv_xor v w n, BitVec.getLsbD_xor]
    generalize synv v n = a
    generalize synv w n = b
    generalize BitVec.ofNat 64 (23 - n) = c
    apply BitVec.eq_of_getLsbD_eq
    intro i _
    cases v.getLsbD (22 - n) <;> cases w.getLsbD (22 - n) <;> simp <;> cases a.getLsbD i <;> cases b.getLsbD i <;> cases c.getLsbD i <;> rfl
/-- A number's bits at their places, from the k-th on. -/
def placev (n : BitVec 64) : List Nat → BitVec 32 → Nat → BitVec 32
  | [], w, _ => w
  | p :: ps, w, k => placev n ps (w ||| (bif n.getLsbD k then BitVec.twoPow 32 (p - 1) else 0)) (k + 1)
theorem shr_and_one (n : BitVec 64) (k : Nat) (hk : k < 64) : bits .and .i64 (shrv .i64 (i64 n) (Int.ofNat k)) 1 = (n.getLsbD k).toNat := by
  rw [show Int.ofNat k = ((k : Nat) : Int) from rfl, shr_i64 n k (by omega), bits_i64, bvop_and, Nx.ofInt_i64_64]
  rw [show BitVec.ofInt 64 1 = 1#64 from rfl]
  have e : (n.sshiftRight k &&& 1#64) = bif n.getLsbD k then 1#64 else 0#64 := by
    apply BitVec.eq_of_getLsbD_eq
    intro i hi
    rw [BitVec.getLsbD_and, BitVec.getLsbD_sshiftRight]
    cases i with
    | zero =>
      have h1 : k + 0 < 64 := by omega
      cases n.getLsbD k <;> simp [hk]
    | succ i => cases n.getLsbD k <;> simp
  rw [e]
  cases n.getLsbD k <;> rfl
theorem shl_bit (b : Bool) (j : Nat) (hj : j < 32) : shlv .u32 (IntKind.u32.wrap (b.toNat : Int)) (Int.ofNat j) = u32 (bif b then BitVec.twoPow 32 j else 0) := by
  rw [show Int.ofNat j = ((j : Nat) : Int) from rfl, shl_u32 _ j (by omega), wrap_u32, Nx.ofInt_u32, BitVec.ofInt_natCast]
  congr 1
  cases b with
  | true =>
    show (BitVec.setWidth 32 (BitVec.ofNat 32 1)) <<< j = BitVec.twoPow 32 j
    rw [BitVec.setWidth_eq]
    rfl
  | false => simp
theorem or_u32 (v w : BitVec 32) : bits .or .u32 (u32 v) (u32 w) = u32 (v ||| w) := by
  rw [bits_u32, bvop_or, Nx.ofInt_u32, Nx.ofInt_u32, BitVec.setWidth_eq, BitVec.setWidth_eq]
theorem place_bv (n : BitVec 64) : ∀ (ps : List Nat) (w : BitVec 32) (k : Nat), k + ps.length ≤ 64 → (∀ p ∈ ps, p ≤ 32 ∧ 0 < p) → place (i64 n) ps (u32 w) k = u32 (placev n ps w k)
  | [], _, _, _, _ => rfl
  | p :: ps, w, k, hk, hp => by
    have h1 := hp p (by simp)
    simp only [List.length_cons] at hk
    simp only [place, placev]
    rw [shr_and_one n k (by omega), shl_bit _ (p - 1) (by omega), or_u32, place_bv n ps _ (k + 1) (by omega) fun q hq => hp q (by simp [hq])]
def keepv (s : BitVec 64) : List Nat → BitVec 32 → BitVec 32
  | [], w => w
  | k :: ks, w => keepv s ks (w ||| (bif !s.getLsbD k then BitVec.twoPow 32 (2 ^ k - 1) else 0))
theorem xor_bit (b : Bool) : bits .xor .i64 1 (b.toNat : Int) = ((!b).toNat : Int) := by cases b <;> decide
theorem keep_bv (s : BitVec 64) : ∀ (ks : List Nat) (w : BitVec 32), (∀ k ∈ ks, k < 5) → keep (i64 s) ks (u32 w) = u32 (keepv s ks w)
  | [], _, _ => rfl
  | k :: ks, w, h => by
    have h1 := h k (by simp)
    have h2 : 2 ^ k ≤ 2 ^ 4 := Nat.pow_le_pow_right (by decide) (by omega)
    simp only [keep, keepv]
    rw [shr_and_one s k (by omega), xor_bit, shl_bit _ (2 ^ k - 1) (by omega), or_u32, keep_bv s ks _ fun q hq => h q (by simp [hq])]
theorem placev_off (n : BitVec 64) (i : Nat) : ∀ (ps : List Nat) (w : BitVec 32) (k : Nat), (∀ p ∈ ps, 0 < p) → i + 1 ∉ ps → (placev n ps w k).getLsbD i = w.getLsbD i
  | [], _, _, _, _ => rfl
  | p :: ps, w, k, h0, h => by
    have hp := h0 p (by simp)
    have hne : i ≠ p - 1 := by
      intro e
      apply h
      have : i + 1 = p := by omega
      rw [this]; simp
    simp only [placev]
    rw [placev_off n i ps _ (k + 1) (fun q hq => h0 q (by simp [hq])) (fun hq => h (by simp [hq])), BitVec.getLsbD_or]
    cases n.getLsbD k with
    | true => simp [BitVec.getLsbD_twoPow, Ne.symm hne]
    | false => simp
theorem placev_on (n : BitVec 64) (i : Nat) (hi : i < 32) : ∀ (ps : List Nat) (w : BitVec 32) (k j : Nat), (∀ p ∈ ps, 0 < p) → ps.Nodup → ps[j]? = some (i + 1) → w.getLsbD i = false → (placev n ps w k).getLsbD i = n.getLsbD (k + j)
  | [], _, _, _, _, _, h, _ => by simp at h
  | p :: ps, w, k, j, h0, hn, h, hw => by
    have hp := h0 p (by simp)
    rw [List.nodup_cons] at hn
    simp only [placev]
    cases j with
    | zero =>
      simp at h
      subst h
      rw [placev_off n i ps _ (k + 1) (fun q hq => h0 q (by simp [hq])) hn.1, BitVec.getLsbD_or, hw]
      cases n.getLsbD k <;> simp [hi]
    | succ j =>
      simp at h
      have hne : i ≠ p - 1 := by
        intro e
        have : p = i + 1 := by omega
        subst this
        exact hn.1 (List.mem_of_getElem? h)
      rw [placev_on n i hi ps _ (k + 1) j (fun q hq => h0 q (by simp [hq])) hn.2 h ?_]
      · congr 1; omega
      · rw [BitVec.getLsbD_or, hw]
        cases n.getLsbD k with
        | true => simp [BitVec.getLsbD_twoPow, Ne.symm hne]
        | false => simp
/-- The bits that are set where the sums' bits are not. -/
def kpv (s : BitVec 64) : BitVec 32 := keepv s [0, 1, 2, 3, 4] 0
def p0v (n : BitVec 64) : BitVec 32 := placev n spots 0 0
def p1v (n : BitVec 64) : BitVec 32 := keepv (synv (p0v n) 23) [0, 1, 2, 3, 4] (p0v n)
/-- The word that Put makes of a number. -/
def wordv (n : BitVec 64) : BitVec 32 := bif parTo (p1v n) 32 then p1v n else p1v n ||| 8388608#32

theorem spots_pos : ∀ p ∈ spots, 0 < p := by decide
theorem spots_le : ∀ p ∈ spots, p ≤ 32 ∧ 0 < p := by decide
theorem spots_nodup : spots.Nodup := by decide
theorem p0v_off (n : BitVec 64) (i : Nat) (h : i + 1 ∉ spots) : (p0v n).getLsbD i = false := by
  unfold p0v
  rw [placev_off n i spots 0 0 spots_pos h]
  simp
theorem p0v_on (n : BitVec 64) (i j : Nat) (h : spots[j]? = some (i + 1)) : (p0v n).getLsbD i = n.getLsbD j := by
  have hi : i < 32 := by
    have := (spots_le _ (List.mem_of_getElem? h)).1
    omega
  unfold p0v
  rw [placev_on n i hi spots 0 0 j spots_pos spots_nodup h (by simp), Nat.zero_add]
theorem keepv_or (s : BitVec 64) : ∀ (ks : List Nat) (v w : BitVec 32), keepv s ks (v ||| w) = v ||| keepv s ks w
  | [], _, _ => rfl
  | k :: ks, v, w => by
    simp only [keepv]
    rw [BitVec.or_assoc, keepv_or s ks]
theorem keepv_off (s : BitVec 64) (i : Nat) : ∀ (ks : List Nat) (w : BitVec 32), (∀ k ∈ ks, i ≠ 2 ^ k - 1) → (keepv s ks w).getLsbD i = w.getLsbD i
  | [], _, _ => rfl
  | k :: ks, w, h => by
    have h1 := h k (by simp)
    simp only [keepv]
    rw [keepv_off s i ks _ fun q hq => h q (by simp [hq]), BitVec.getLsbD_or]
    cases s.getLsbD k with
    | false => simp [BitVec.getLsbD_twoPow, Ne.symm h1]
    | true => simp
theorem disj_xor (v w : BitVec 32) (h : ∀ i < 32, v.getLsbD i = true → w.getLsbD i = false) : v ||| w = v ^^^ w := by
  apply BitVec.eq_of_getLsbD_eq
  intro i hi
  rw [BitVec.getLsbD_or, BitVec.getLsbD_xor]
  have := h i hi
  cases hv : v.getLsbD i with
  | false => simp
  | true => rw [this hv]; rfl
theorem watch_off : ∀ i < 32, i + 1 ∈ spots → ∀ k ∈ [0, 1, 2, 3, 4], i ≠ 2 ^ k - 1 := by decide
theorem p1v_xor (n : BitVec 64) : p1v n = p0v n ^^^ kpv (synv (p0v n) 23) := by
  unfold p1v kpv
  rw [← disj_xor]
  · have := keepv_or (synv (p0v n) 23) [0, 1, 2, 3, 4] (p0v n) 0
    rw [← this]
    simp
  · intro i hi h
    have hm : i + 1 ∈ spots := by
      apply Classical.byContradiction
      intro hn
      rw [p0v_off n i hn] at h
      cases h
    rw [keepv_off _ i _ _ (watch_off i hi hm)]
    simp
theorem synv_lt (v : BitVec 32) : ∀ n, n ≤ 23 → (synv v n).toNat < 32
  | 0, _ => by simp [synv]
  | n + 1, hn => by
    have ih := synv_lt v n (by omega)
    simp only [synv]
    rw [BitVec.toNat_xor]
    have h1 : (bif v.getLsbD (22 - n) then BitVec.ofNat 64 (23 - n) else 0#64).toNat < 2 ^ 5 := by
      cases v.getLsbD (22 - n) with
      | false => exact (by decide : (0#64).toNat < 2 ^ 5)
      | true =>
        show (BitVec.ofNat 64 (23 - n)).toNat < 32
        rw [BitVec.toNat_ofNat]
        omega
    exact Nat.xor_lt_two_pow h1 ih
theorem syn_kp_all : ∀ s < 32, synv (kpv (BitVec.ofNat 64 s)) 23 = BitVec.ofNat 64 s ^^^ 31#64 := by decide +kernel
theorem syn_kp (s : BitVec 64) (h : s.toNat < 32) : synv (kpv s) 23 = s ^^^ 31#64 := by
  have := syn_kp_all s.toNat h
  rwa [BitVec.ofNat_toNat, BitVec.setWidth_eq] at this
theorem p1v_syn (n : BitVec 64) : synv (p1v n) 23 = 31#64 := by
  rw [p1v_xor, synv_xor, syn_kp _ (synv_lt _ 23 (by decide)), ← BitVec.xor_assoc, BitVec.xor_self, BitVec.zero_xor]
theorem kpv_off (s : BitVec 64) (i : Nat) (h : ∀ k ∈ [0, 1, 2, 3, 4], i ≠ 2 ^ k - 1) : (kpv s).getLsbD i = false := by
  unfold kpv
  rw [keepv_off s i _ _ h]
  simp
theorem p1v_off (n : BitVec 64) (i : Nat) (h : i + 1 ∉ spots) (h2 : ∀ k ∈ [0, 1, 2, 3, 4], i ≠ 2 ^ k - 1) : (p1v n).getLsbD i = false := by
  rw [p1v_xor, BitVec.getLsbD_xor, p0v_off n i h, kpv_off _ i h2]
  rfl
theorem p1v_on (n : BitVec 64) (i j : Nat) (h : spots[j]? = some (i + 1)) : (p1v n).getLsbD i = n.getLsbD j := by
  have hm := List.mem_of_getElem? h
  have hi : i < 32 := by
    have := (spots_le _ hm).1
    omega
  rw [p1v_xor, BitVec.getLsbD_xor, p0v_on n i j h, kpv_off _ i (watch_off i hi hm)]
  simp
theorem last_xor (n : BitVec 64) : p1v n ||| 8388608#32 = p1v n ^^^ 8388608#32 := by
  apply disj_xor
  intro i hi h
  have : i ≠ 23 := by
    intro e
    subst e
    rw [p1v_off n 23 (by decide) (by decide)] at h
    cases h
  show (BitVec.twoPow 32 23).getLsbD i = false
  rw [BitVec.getLsbD_twoPow]
  simp [Ne.symm this]
theorem wordv_xor (n : BitVec 64) : wordv n = p1v n ^^^ (bif parTo (p1v n) 32 then 0#32 else 8388608#32) := by
  unfold wordv
  rw [last_xor]
  cases parTo (p1v n) 32 <;> simp
theorem wordv_syn (n : BitVec 64) : synv (wordv n) 23 = 31#64 := by
  rw [wordv_xor, synv_xor, p1v_syn]
  have : synv (bif parTo (p1v n) 32 then 0#32 else 8388608#32) 23 = 0#64 := by
    cases parTo (p1v n) 32 <;> decide +kernel
  rw [this, BitVec.xor_zero]
theorem wordv_par (n : BitVec 64) : parTo (wordv n) 32 = true := by
  rw [wordv_xor, parTo_xor]
  have h1 : parTo (0#32) 32 = false := by decide +kernel
  have h2 : parTo (8388608#32) 32 = true := by decide +kernel
  cases parTo (p1v n) 32
  · exact h2
  · show (true ^^ parTo (0#32) 32) = true
    rw [h1]; rfl
theorem wordv_on (n : BitVec 64) (i j : Nat) (h : spots[j]? = some (i + 1)) : (wordv n).getLsbD i = n.getLsbD j := by
  have hm := List.mem_of_getElem? h
  have h23 : i ≠ 23 := by
    intro e
    subst e
    revert hm
    decide
  rw [wordv_xor, BitVec.getLsbD_xor, p1v_on n i j h]
  have : (bif parTo (p1v n) 32 then 0#32 else 8388608#32).getLsbD i = false := by
    cases parTo (p1v n) 32
    · show (BitVec.twoPow 32 23).getLsbD i = false
      rw [BitVec.getLsbD_twoPow]
      simp [Ne.symm h23]
    · simp
  rw [this, Bool.xor_false]
theorem far_off : ∀ i < 32, 24 ≤ i → i + 1 ∉ spots ∧ ∀ k ∈ [0, 1, 2, 3, 4], i ≠ 2 ^ k - 1 := by decide
theorem wordv_high (n : BitVec 64) (i : Nat) (h : 24 ≤ i) : (wordv n).getLsbD i = false := by
  by_cases hi : i < 32
  · have hf := far_off i hi h
    rw [wordv_xor, BitVec.getLsbD_xor, p1v_off n i hf.1 hf.2]
    have : (bif parTo (p1v n) 32 then 0#32 else 8388608#32).getLsbD i = false := by
      cases parTo (p1v n) 32
      · show (BitVec.twoPow 32 23).getLsbD i = false
        rw [BitVec.getLsbD_twoPow]
        have : ¬ 23 = i := by omega
        simp [this]
      · simp
    rw [this]; rfl
  · exact BitVec.getLsbD_of_ge _ _ (by omega)

/-- A word of the kind that Put makes: each watch sees an odd number, all together are odd, nothing above. -/
structure Code (v : BitVec 32) : Prop where
  syn : synv v 23 = 31#64
  par : parTo v 32 = true
  high : ∀ i, 24 ≤ i → v.getLsbD i = false
theorem wordv_code (n : BitVec 64) : Code (wordv n) := ⟨wordv_syn n, wordv_par n, wordv_high n⟩
/-- A word without data whose watches see nothing is nothing. -/
structure Nil (d : BitVec 32) : Prop where
  syn : synv d 23 = 0#64
  par : parTo d 32 = false
  high : ∀ i, 24 ≤ i → d.getLsbD i = false
theorem Code.nil {v w : BitVec 32} (hv : Code v) (hw : Code w) : Nil (v ^^^ w) := by
  refine ⟨?_, ?_, fun i hi => ?_⟩
  · rw [synv_xor, hv.syn, hw.syn, BitVec.xor_self]
  · rw [parTo_xor, hv.par, hw.par]; rfl
  · rw [BitVec.getLsbD_xor, hv.high i hi, hw.high i hi]; rfl
theorem spots_cases : ∀ i < 24, i + 1 ∈ spots ∨ i = 0 ∨ i = 1 ∨ i = 3 ∨ i = 7 ∨ i = 15 ∨ i = 23 := by decide
def sixv (a b c d e f : Bool) : BitVec 32 := (bif a then 1#32 else 0#32) ||| (bif b then 2#32 else 0#32) ||| (bif c then 8#32 else 0#32) ||| (bif d then 128#32 else 0#32) ||| (bif e then 32768#32 else 0#32) ||| (bif f then 8388608#32 else 0#32)
theorem six_all : ∀ a b c d e f : Bool, synv (sixv a b c d e f) 23 = 0#64 → parTo (sixv a b c d e f) 32 = false → sixv a b c d e f = 0#32 := by decide +kernel
theorem six_bit : ∀ a b c d e f : Bool, ∀ i < 32, (sixv a b c d e f).getLsbD i = (if i = 0 then a else if i = 1 then b else if i = 3 then c else if i = 7 then d else if i = 15 then e else if i = 23 then f else false) := by decide +kernel
theorem Nil.zero {d : BitVec 32} (h : Nil d) (hs : ∀ i, i + 1 ∈ spots → d.getLsbD i = false) : d = 0#32 := by
  have e : d = sixv (d.getLsbD 0) (d.getLsbD 1) (d.getLsbD 3) (d.getLsbD 7) (d.getLsbD 15) (d.getLsbD 23) := by
    apply BitVec.eq_of_getLsbD_eq
    intro i hi
    rw [six_bit _ _ _ _ _ _ i hi]
    by_cases h24 : 24 ≤ i
    · rw [h.high i h24]
      repeat rw [if_neg (by omega)]
    · rcases spots_cases i (by omega) with hm | h | h | h | h | h | h
      · rw [hs i hm]
        have hk := watch_off i hi hm
        have h23 : i ≠ 23 := by
          intro e
          subst e
          revert hm
          decide
        have a0 := hk 0 (by decide)
        have a1 := hk 1 (by decide)
        have a3 := hk 2 (by decide)
        have a7 := hk 3 (by decide)
        have a15 := hk 4 (by decide)
        repeat rw [if_neg (by omega)]
      all_goals subst h; rfl
  have hy := h.syn
  have hp := h.par
  rw [e] at hy hp ⊢
  exact six_all _ _ _ _ _ _ hy hp
theorem Code.uniq {v w : BitVec 32} (hv : Code v) (hw : Code w) (h : ∀ i, i + 1 ∈ spots → v.getLsbD i = w.getLsbD i) : v = w := by
  have hz := (hv.nil hw).zero fun i hi => by rw [BitVec.getLsbD_xor, h i hi, Bool.xor_self]
  apply BitVec.eq_of_getLsbD_eq
  intro i _
  have := congrArg (fun x : BitVec 32 => x.getLsbD i) hz
  rw [BitVec.getLsbD_xor] at this
  simp at this
  exact this
def datw (v : BitVec 32) : List Nat → BitVec 64 → Nat → BitVec 64
  | [], n, _ => n
  | p :: ps, n, k => datw v ps (n ||| (bif v.getLsbD (p - 1) then BitVec.twoPow 64 k else 0)) (k + 1)
/-- The number that stands in a word. -/
def datv (v : BitVec 32) : BitVec 64 := datw v spots 0 0
theorem and_one (v : BitVec 32) (j : Nat) (hj : j ≤ 32) : bits .and .u32 (shrv .u32 (u32 v) (Int.ofNat j)) 1 = (v.getLsbD j).toNat := by
  rw [show Int.ofNat j = ((j : Nat) : Int) from rfl, shr_u32 v j (by omega), bits_u32, bvop_and, Nx.ofInt_u32]
  rw [show BitVec.ofInt 32 1 = 1#32 from rfl]
  have e : (BitVec.setWidth 32 (v >>> j) &&& 1#32) = bif v.getLsbD j then 1#32 else 0#32 := by
    apply BitVec.eq_of_getLsbD_eq
    intro i hi
    rw [BitVec.setWidth_eq, BitVec.getLsbD_and, BitVec.getLsbD_ushiftRight]
    cases i with
    | zero => cases v.getLsbD j <;> simp
    | succ i => cases v.getLsbD j <;> simp
  rw [e]
  cases v.getLsbD j <;> rfl
theorem shl_bit64 (b : Bool) (j : Nat) (hj : j < 64) : shlv .i64 (IntKind.i64.wrap (b.toNat : Int)) (Int.ofNat j) = i64 (bif b then BitVec.twoPow 64 j else 0) := by
  rw [show Int.ofNat j = ((j : Nat) : Int) from rfl, shl_i64 _ j (by omega), wrap_i64, Nx.ofInt_i64_64, BitVec.ofInt_natCast]
  congr 1
  cases b with
  | true => rfl
  | false => simp
theorem or_i64 (v w : BitVec 64) : bits .or .i64 (i64 v) (i64 w) = i64 (v ||| w) := by
  rw [bits_i64, bvop_or, Nx.ofInt_i64_64, Nx.ofInt_i64_64]
theorem xor_i64 (v w : BitVec 64) : bits .xor .i64 (i64 v) (i64 w) = i64 (v ^^^ w) := by
  rw [bits_i64, bvop_xor, Nx.ofInt_i64_64, Nx.ofInt_i64_64]
theorem xor_u32 (v w : BitVec 32) : bits .xor .u32 (u32 v) (u32 w) = u32 (v ^^^ w) := by
  rw [bits_u32, bvop_xor, Nx.ofInt_u32, Nx.ofInt_u32, BitVec.setWidth_eq, BitVec.setWidth_eq]
theorem dat_bv (v : BitVec 32) : ∀ (ps : List Nat) (n : BitVec 64) (k : Nat), k + ps.length ≤ 64 → (∀ p ∈ ps, p ≤ 32) → dat (u32 v) ps (i64 n) k = i64 (datw v ps n k)
  | [], _, _, _, _ => rfl
  | p :: ps, n, k, hk, hp => by
    have h1 := hp p (by simp)
    simp only [List.length_cons] at hk
    simp only [dat, datw]
    rw [and_one v (p - 1) (by omega), shl_bit64 _ k (by omega), or_i64, dat_bv v ps _ (k + 1) (by omega) fun q hq => hp q (by simp [hq])]
theorem dat_datv (v : BitVec 32) : dat (u32 v) spots 0 0 = i64 (datv v) :=
  dat_bv v spots 0 0 (by decide) (by decide)
theorem datw_ext (v w : BitVec 32) : ∀ (ps : List Nat) (n : BitVec 64) (k : Nat), (∀ p ∈ ps, v.getLsbD (p - 1) = w.getLsbD (p - 1)) → datw v ps n k = datw w ps n k
  | [], _, _, _ => rfl
  | p :: ps, n, k, h => by
    simp only [datw]
    rw [h p (by simp), datw_ext v w ps _ _ fun q hq => h q (by simp [hq])]
theorem datw_bit (v : BitVec 32) (j : Nat) (hj : j < 64) : ∀ (ps : List Nat) (n : BitVec 64) (k : Nat), (datw v ps n k).getLsbD j = (n.getLsbD j || (decide (k ≤ j) && match ps[j - k]? with | some p => v.getLsbD (p - 1) | none => false))
  | [], n, k => by simp [datw]
  | p :: ps, n, k => by
    simp only [datw]
    rw [datw_bit v j hj ps _ (k + 1), BitVec.getLsbD_or]
    by_cases h : j = k
    · subst h
      have d1 : decide (j + 1 ≤ j) = false := by simp
      rw [d1, Nat.sub_self]
      cases hv : v.getLsbD (p - 1) <;> simp [hj, hv]
    · have h0 : (bif v.getLsbD (p - 1) then BitVec.twoPow 64 k else 0).getLsbD j = false := by
        cases v.getLsbD (p - 1) with
        | false => simp
        | true => simp [BitVec.getLsbD_twoPow, Ne.symm h]
      rw [h0, Bool.or_false]
      by_cases hk : k < j
      · have e : j - k = (j - (k + 1)) + 1 := by omega
        rw [e, List.getElem?_cons_succ]
        have d1 : decide (k + 1 ≤ j) = true := by simp; omega
        have d2 : decide (k ≤ j) = true := by simp; omega
        rw [d1, d2]
      · have d1 : decide (k + 1 ≤ j) = false := by simp; omega
        have d2 : decide (k ≤ j) = false := by simp; omega
        rw [d1, d2]
        simp
theorem datv_bit (v : BitVec 32) (j : Nat) (hj : j < 64) : (datv v).getLsbD j = (match spots[j]? with | some p => v.getLsbD (p - 1) | none => false) := by
  unfold datv
  rw [datw_bit v j hj spots 0 0]
  simp
theorem datv_ext {v w : BitVec 32} (h : ∀ i, i + 1 ∈ spots → v.getLsbD i = w.getLsbD i) : datv v = datv w := by
  apply datw_ext
  intro p hp
  apply h
  have := spots_pos p hp
  have e : p - 1 + 1 = p := by omega
  rw [e]; exact hp
theorem datv_wordv (n : BitVec 64) (h : ∀ j, 18 ≤ j → n.getLsbD j = false) : datv (wordv n) = n := by
  apply BitVec.eq_of_getLsbD_eq
  intro j hj
  rw [datv_bit _ j hj]
  cases hs : spots[j]? with
  | some p =>
    have hm := List.mem_of_getElem? hs
    have := spots_pos p hm
    have e : p - 1 + 1 = p := by omega
    exact wordv_on n (p - 1) j (by rw [hs, e])
  | none =>
    have : 18 ≤ j := by
      have := List.getElem?_eq_none_iff.mp hs
      exact this
    rw [h j this]
theorem pop_nonneg (v : BitVec 32) : (pop (u32 v)).tmod 2 = ((parTo v 32).toNat : Int) := by
  rw [← pop_par, pop_eq]
  rw [Int.tmod_eq_emod_of_nonneg (Int.natCast_nonneg _)]
theorem pop_odd (v : BitVec 32) : ((pop (u32 v)).tmod 2 == 1) = parTo v 32 := by
  rw [pop_nonneg]
  cases parTo v 32 <;> rfl
theorem pop_even (v : BitVec 32) : ((pop (u32 v)).tmod 2 == 0) = !parTo v 32 := by
  rw [pop_nonneg]
  cases parTo v 32 <;> rfl

def b0 (v : BitVec 32) : BitVec 8 := v.setWidth 8
def b1 (v : BitVec 32) : BitVec 8 := (v >>> 8).setWidth 8
def b2 (v : BitVec 32) : BitVec 8 := (v >>> 16).setWidth 8
/-- Three bytes as a word. -/
def w3 (a b c : BitVec 8) : BitVec 32 := a.setWidth 32 ||| (b.setWidth 32 <<< 8) ||| (c.setWidth 32 <<< 16)
theorem word_bv (a b c : BitVec 8) : word (u8 a) (u8 b) (u8 c) = u32 (w3 a b c) := by
  unfold word w3
  rw [wrap_u32, wrap_u32, wrap_u32, Nx.ofInt_u8, Nx.ofInt_u8, Nx.ofInt_u8]
  have e8 : shlv .u32 (u32 (BitVec.setWidth 32 b)) 8 = _ := shl_u32 _ 8 (by decide)
  have e16 : shlv .u32 (u32 (BitVec.setWidth 32 c)) 16 = _ := shl_u32 _ 16 (by decide)
  rw [e8, e16, Nx.ofInt_u32, Nx.ofInt_u32, or_u32, or_u32, BitVec.setWidth_eq, BitVec.setWidth_eq]
theorem w3_bit (a b c : BitVec 8) (i : Nat) : (w3 a b c).getLsbD i = if i < 8 then a.getLsbD i else if i < 16 then b.getLsbD (i - 8) else if i < 24 then c.getLsbD (i - 16) else false := by
  unfold w3
  rw [BitVec.getLsbD_or, BitVec.getLsbD_or, BitVec.getLsbD_shiftLeft, BitVec.getLsbD_shiftLeft, BitVec.getLsbD_setWidth, BitVec.getLsbD_setWidth, BitVec.getLsbD_setWidth]
  have ge : ∀ (x : BitVec 8) (k : Nat), 8 ≤ k → x.getLsbD k = false := fun x k h => BitVec.getLsbD_of_ge _ _ h
  by_cases h1 : i < 8
  · have h2 : i < 16 := by omega
    have h3 : i < 32 := by omega
    simp [h1, h2, h3]
  · by_cases h2 : i < 16
    · have h3 : i < 32 := by omega
      have h4 : i - 8 < 32 := by omega
      simp [h1, h2, h3, h4, ge a i (by omega)]
    · by_cases h3 : i < 24
      · have h4 : i < 32 := by omega
        have h5 : i - 8 < 32 := by omega
        have h6 : i - 16 < 32 := by omega
        simp [h1, h2, h3, h4, h5, h6, ge a i (by omega), ge b (i - 8) (by omega)]
      · simp [h1, h2, h3, ge a i (by omega), ge b (i - 8) (by omega), ge c (i - 16) (by omega)]
theorem w3_b (v : BitVec 32) (h : ∀ i, 24 ≤ i → v.getLsbD i = false) : w3 (b0 v) (b1 v) (b2 v) = v := by
  apply BitVec.eq_of_getLsbD_eq
  intro i hi
  rw [w3_bit]
  unfold b0 b1 b2
  by_cases h1 : i < 8
  · rw [if_pos h1, BitVec.getLsbD_setWidth]; simp [h1]
  · rw [if_neg h1]
    by_cases h2 : i < 16
    · have e : 8 + (i - 8) = i := by omega
      have h4 : i - 8 < 8 := by omega
      rw [if_pos h2, BitVec.getLsbD_setWidth, BitVec.getLsbD_ushiftRight, e]; simp [h4]
    · rw [if_neg h2]
      by_cases h3 : i < 24
      · have e : 16 + (i - 16) = i := by omega
        have h4 : i - 16 < 8 := by omega
        rw [if_pos h3, BitVec.getLsbD_setWidth, BitVec.getLsbD_ushiftRight, e]; simp [h4]
      · rw [if_neg h3, h i (by omega)]
def bytesv (v : BitVec 32) : NS := .v (.ag [.i .u8 (u8 (b0 v)), .i .u8 (u8 (b1 v)), .i .u8 (u8 (b2 v))])
theorem bytes3_bv (v : BitVec 32) : bytes3 (u32 v) = bytesv v := by
  unfold bytes3 bytesv
  have e8 : shrv .u32 (u32 v) 8 = _ := shr_u32 v 8 (by decide)
  have e16 : shrv .u32 (u32 v) 16 = _ := shr_u32 v 16 (by decide)
  rw [e8, e16, wrap_u8, wrap_u8, wrap_u8, Nx.ofInt_u32, Nx.ofInt_u32, Nx.ofInt_u32]
  rfl
theorem put0_bv (n : BitVec 64) : put0 (i64 n) = u32 (p0v n) := place_bv n spots 0 0 (by decide) spots_le
theorem put1_bv (n : BitVec 64) : put1 (i64 n) = u32 (p1v n) := by
  unfold put1
  rw [put0_bv]
  have := syn_bv (p0v n) 23 0 (by decide)
  rw [show syn (u32 (p0v n)) 0 23 = i64 (0 ^^^ synv (p0v n) 23) from this]
  rw [show (0 : BitVec 64) ^^^ synv (p0v n) 23 = synv (p0v n) 23 from BitVec.zero_xor, keep_bv _ _ _ (by decide)]
  rfl
theorem u32_fits (v : BitVec 32) : 0 ≤ u32 v ∧ u32 v < 4294967296 := by
  have := v.isLt
  unfold u32
  omega
theorem put_word (n : BitVec 64) : (bif (pop (put1 (i64 n))).tmod 2 == 0 then bits .or .u32 (put1 (i64 n)) 8388608 else put1 (i64 n)) = u32 (wordv n) := by
  rw [put1_bv, pop_even, show (8388608 : Int) = u32 8388608#32 from rfl, or_u32]
  unfold wordv
  cases parTo (p1v n) 32 <;> rfl
/-- What is known of Put. -/
noncomputable def tPutV : Con := fun args regs => match args, regs with
  | [.c (.i .i64 n)], [] => .must (-9223372036854775808 ≤ n ∧ n < 9223372036854775808) (.ret ⟨bytesv (wordv (BitVec.ofInt 64 n)), []⟩)
  | _, _ => .fail
set_option maxRecDepth 100000 in
theorem kPutV : Known Tryd.prog [] 80 tPutV := by
  refine kPut.less fun args regs R h => ?_
  unfold tPutV at h
  split at h
  case h_2 => exact h.elim
  rename_i n
  have h1 := h.1
  have h2 := h.2
  clear h
  have hn := fit_i64 h1.1 h1.2
  generalize BitVec.ofInt 64 n = v at *
  subst hn
  have e : bytes3 (bif (pop (put1 (i64 v))).tmod 2 == 0 then bits .or .u32 (put1 (i64 v)) 8388608 else put1 (i64 v)) = bytesv (wordv v) := by rw [put_word, bytes3_bv]
  have f0 := u32_fits (p0v v)
  have f1 := u32_fits (p1v v)
  rw [← put0_bv] at f0
  rw [← put1_bv] at f1
  refine And.intro (And.intro f0 f1) ?_
  show R ⟨bytes3 _, []⟩
  rw [e]
  exact h2

/-- Where a word is amiss: 0 is nowhere. -/
def atv (v : BitVec 32) : BitVec 64 := synv v 23 ^^^ 31#64
def getN (v : BitVec 32) : BitVec 64 := bif atv v == 0 then datv v else bif parTo v 32 then 0 else bif decide (24 ≤ (atv v).toNat) then 0 else datv (v ^^^ BitVec.twoPow 32 ((atv v).toNat - 1))
def getB (v : BitVec 32) : Bool := bif atv v == 0 then true else bif parTo v 32 then false else bif decide (24 ≤ (atv v).toNat) then false else true
theorem atv_lt (v : BitVec 32) : (atv v).toNat < 32 := by
  unfold atv
  rw [BitVec.toNat_xor]
  exact Nat.xor_lt_two_pow (n := 5) (synv_lt v 23 (by decide)) (by decide)
theorem i64_small (a : BitVec 64) (h : a.toNat < 32) : i64 a = (a.toNat : Int) := by
  unfold i64
  rw [BitVec.toInt_eq_toNat_bmod, Int.bmod_def]
  split <;> omega
theorem place31_bv (v : BitVec 32) : place31 (u32 v) = ((atv v).toNat : Int) := by
  unfold place31
  have := syn_bv v 23 0 (by decide)
  rw [show syn (u32 v) 0 23 = i64 (0 ^^^ synv v 23) from this]
  rw [show (31 : Int) = i64 31#64 from rfl, xor_i64, ← i64_small _ (atv_lt v)]
  unfold atv
  rw [show (0 : BitVec 64) ^^^ synv v 23 = synv v 23 from BitVec.zero_xor]
noncomputable def tGetV : Con := fun args regs => match args, regs with
  | [.ag [.i .u8 a, .i .u8 b, .i .u8 c]], [] => .must ((0 ≤ a ∧ a < 256) ∧ (0 ≤ b ∧ b < 256) ∧ (0 ≤ c ∧ c < 256)) (.ret ⟨.tu [.c (.i .i64 (i64 (getN (w3 (BitVec.ofInt 8 a) (BitVec.ofInt 8 b) (BitVec.ofInt 8 c))))), .c (.b (getB (w3 (BitVec.ofInt 8 a) (BitVec.ofInt 8 b) (BitVec.ofInt 8 c))))], []⟩)
  | _, _ => .fail
theorem sel_bif {c : Bool} {p q : Prop} (h : (c = true → p) ∧ (c = false → q)) : sel c p q := by
  cases c
  · exact h.2 rfl
  · exact h.1 rfl
set_option maxRecDepth 100000 in
theorem kGetV : Known Tryd.prog [] 106 tGetV := by
  refine kGet.less fun args regs R h => ?_
  unfold tGetV at h
  split at h
  case h_2 => exact h.elim
  rename_i a b c
  have h1 := h.1
  have h2 := h.2
  clear h
  have ha := fit_u8 h1.1.1 h1.1.2
  have hb := fit_u8 h1.2.1.1 h1.2.1.2
  have hc := fit_u8 h1.2.2.1 h1.2.2.2
  generalize BitVec.ofInt 8 a = a' at *
  generalize BitVec.ofInt 8 b = b' at *
  generalize BitVec.ofInt 8 c = c' at *
  subst ha hb hc
  have h3 : R ⟨.tu [.c (.i .i64 (i64 (getN (w3 a' b' c')))), .c (.b (getB (w3 a' b' c')))], []⟩ := h2
  clear h2
  rw [get_tree, word_bv]
  generalize w3 a' b' c' = v at *
  refine And.intro (u32_fits v) ?_
  rw [place31_bv, pop_odd, dat_datv]
  have hlt := atv_lt v
  unfold getN getB at h3
  have e0 : (((atv v).toNat : Int) == 0) = (atv v == 0) := by
    rw [Bool.eq_iff_iff, beq_iff_eq, beq_iff_eq]
    constructor
    · intro h
      apply BitVec.eq_of_toNat_eq
      have : (atv v).toNat = 0 := by omega
      rw [this]; rfl
    · intro h; rw [h]; rfl
  have e24 : decide ((((atv v).toNat : Int)) ≥ 24) = decide (24 ≤ (atv v).toNat) := by
    rw [decide_eq_decide]; omega
  rw [e0, e24]
  cases z : atv v == 0
  case true => rw [z] at h3; exact h3
  rw [z] at h3
  cases p : parTo v 32
  case true => rw [p] at h3; exact h3
  rw [p] at h3
  cases g : decide (24 ≤ (atv v).toNat)
  case true => rw [g] at h3; exact h3
  rw [g] at h3
  have hz : (atv v).toNat ≠ 0 := by
    intro h
    have : ((atv v).toNat : Int) = 0 := by omega
    rw [this] at e0
    rw [← e0] at z
    cases z
  have ew : IntKind.i64.wrap (((atv v).toNat : Int) - 1) = (((atv v).toNat - 1 : Nat) : Int) := by
    rw [IntKind.wrap_i64]; omega
  have es : shlv .u32 1 (((atv v).toNat - 1 : Nat) : Int) = u32 (BitVec.twoPow 32 ((atv v).toNat - 1)) := by
    rw [shl_u32 _ _ (by omega)]
    congr 1
  rw [ew, es, xor_u32, dat_datv]
  have ed : decide (0 ≤ (((atv v).toNat - 1 : Nat) : Int)) = true := by simp
  rw [ed]
  exact h3
end Go.Proofs.YthjdlanmfiofdaaDoor.ham
