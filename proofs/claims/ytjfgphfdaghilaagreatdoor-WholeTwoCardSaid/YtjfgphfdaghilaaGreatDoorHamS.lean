/-
  ham24: Put and Get by contracts over words of 32 bits.
-/
import Derived.Test.YtjfgphfdaghilaaGreatDoorHamR
namespace Go.Proofs.YtjfgphfdaghilaaGreatDoor.ham
open Go Go.Nx

def datw (v : BitVec 32) : List Nat → BitVec 64 → Nat → BitVec 64
  | [], n, _ => n
  | p :: ps, n, k => datw v ps (n ||| (bif v.getLsbD (p - 1) then BitVec.twoPow 64 k else 0)) (k + 1)
/-- The number that stands in a word. -/
def datv (v : BitVec 32) : BitVec 64 := datw v spots 0 0
theorem and_one (v : BitVec 32) (j : Nat) (hj : j ≤ 32) : bits .and .u32 (shrv .u32 (u32 v) (Int.ofNat j)) 1 = (v.getLsbD j).toNat := by
  rw [show Int.ofNat j = ((j : Nat) : Int) from rfl, shr_u32 v j (by omega), bits_u32, bvop_and, Nx.ofInt_u32]
  rw [show BitVec.ofInt 32 1 = 1#32 from rfl]
  have e : (BitVec.setWidth 32 (v >>> j) &&& 1#32) = bif v.getLsbD j then 1#32 else 0#32 := by
    apply BitVec.eq_of_getLsbD_eq
    intro i hi
    rw [BitVec.setWidth_eq, BitVec.getLsbD_and, BitVec.getLsbD_ushiftRight]
    cases i with
    | zero => cases v.getLsbD j <;> simp
    | succ i => cases v.getLsbD j <;> simp
  rw [e]
  cases v.getLsbD j <;> rfl
theorem shl_bit64 (b : Bool) (j : Nat) (hj : j < 64) : shlv .i64 (IntKind.i64.wrap (b.toNat : Int)) (Int.ofNat j) = i64 (bif b then BitVec.twoPow 64 j else 0) := by
  rw [show Int.ofNat j = ((j : Nat) : Int) from rfl, shl_i64 _ j (by omega), wrap_i64, Nx.ofInt_i64_64, BitVec.ofInt_natCast]
  congr 1
  cases b with
  | true => rfl
  | false => simp
theorem or_i64 (v w : BitVec 64) : bits .or .i64 (i64 v) (i64 w) = i64 (v ||| w) := by
  rw [bits_i64, bvop_or, Nx.ofInt_i64_64, Nx.ofInt_i64_64]
theorem xor_i64 (v w : BitVec 64) : bits .xor .i64 (i64 v) (i64 w) = i64 (v ^^^ w) := by
  rw [bits_i64, bvop_xor, Nx.ofInt_i64_64, Nx.ofInt_i64_64]
theorem xor_u32 (v w : BitVec 32) : bits .xor .u32 (u32 v) (u32 w) = u32 (v ^^^ w) := by
  rw [bits_u32, bvop_xor, Nx.ofInt_u32, Nx.ofInt_u32, BitVec.setWidth_eq, BitVec.setWidth_eq]
theorem dat_bv (v : BitVec 32) : ∀ (ps : List Nat) (n : BitVec 64) (k : Nat), k + ps.length ≤ 64 → (∀ p ∈ ps, p ≤ 32) → dat (u32 v) ps (i64 n) k = i64 (datw v ps n k)
  | [], _, _, _, _ => rfl
  | p :: ps, n, k, hk, hp => by
    have h1 := hp p (by simp)
    simp only [List.length_cons] at hk
    simp only [dat, datw]
    rw [and_one v (p - 1) (by omega), shl_bit64 _ k (by omega), or_i64, dat_bv v ps _ (k + 1) (by omega) fun q hq => hp q (by simp [hq])]
theorem dat_datv (v : BitVec 32) : dat (u32 v) spots 0 0 = i64 (datv v) :=
  dat_bv v spots 0 0 (by decide) (by decide)
theorem datw_ext (v w : BitVec 32) : ∀ (ps : List Nat) (n : BitVec 64) (k : Nat), (∀ p ∈ ps, v.getLsbD (p - 1) = w.getLsbD (p - 1)) → datw v ps n k = datw w ps n k
  | [], _, _, _ => rfl
  | p :: ps, n, k, h => by
    simp only [datw]
    rw [h p (by simp), datw_ext v w ps _ _ fun q hq => h q (by simp [hq])]
theorem datw_bit (v : BitVec 32) (j : Nat) (hj : j < 64) : ∀ (ps : List Nat) (n : BitVec 64) (k : Nat), (datw v ps n k).getLsbD j = (n.getLsbD j || (decide (k ≤ j) && match ps[j - k]? with | some p => v.getLsbD (p - 1) | none => false))
  | [], n, k => by simp [datw]
  | p :: ps, n, k => by
    simp only [datw]
    rw [datw_bit v j hj ps _ (k + 1), BitVec.getLsbD_or]
    by_cases h : j = k
    · subst h
      have d1 : decide (j + 1 ≤ j) = false := by simp
      rw [d1, Nat.sub_self]
      cases hv : v.getLsbD (p - 1) <;> simp [hj, hv]
    · have h0 : (bif v.getLsbD (p - 1) then BitVec.twoPow 64 k else 0).getLsbD j = false := by
        cases v.getLsbD (p - 1) with
        | false => simp
        | true => simp [BitVec.getLsbD_twoPow, Ne.symm h]
      rw [h0, Bool.or_false]
      by_cases hk : k < j
      · have e : j - k = (j - (k + 1)) + 1 := by omega
        rw [e, List.getElem?_cons_succ]
        have d1 : decide (k + 1 ≤ j) = true := by simp; omega
        have d2 : decide (k ≤ j) = true := by simp; omega
        rw [d1, d2]
      · have d1 : decide (k + 1 ≤ j) = false := by simp; omega
        have d2 : decide (k ≤ j) = false := by simp; omega
        rw [d1, d2]
        simp
theorem datv_bit (v : BitVec 32) (j : Nat) (hj : j < 64) : (datv v).getLsbD j = (match spots[j]? with | some p => v.getLsbD (p - 1) | none => false) := by
  unfold datv
  rw [datw_bit v j hj spots 0 0]
  simp
theorem datv_ext {v w : BitVec 32} (h : ∀ i, i + 1 ∈ spots → v.getLsbD i = w.getLsbD i) : datv v = datv w := by
  apply datw_ext
  intro p hp
  apply h
  have := spots_pos p hp
  have e : p - 1 + 1 = p := by omega
  rw [e]; exact hp
theorem datv_wordv (n : BitVec 64) (h : ∀ j, 18 ≤ j → n.getLsbD j = false) : datv (wordv n) = n := by
  apply BitVec.eq_of_getLsbD_eq
  intro j hj
  rw [datv_bit _ j hj]
  cases hs : spots[j]? with
  | some p =>
    have hm := List.mem_of_getElem? hs
    have := spots_pos p hm
    have e : p - 1 + 1 = p := by omega
    exact wordv_on n (p - 1) j (by rw [hs, e])
  | none =>
    have : 18 ≤ j := by
      have := List.getElem?_eq_none_iff.mp hs
      exact this
    rw [h j this]
theorem pop_nonneg (v : BitVec 32) : (pop (u32 v)).tmod 2 = ((parTo v 32).toNat : Int) := by
  rw [← pop_par, pop_eq]
  rw [Int.tmod_eq_emod_of_nonneg (Int.natCast_nonneg _)]
theorem pop_odd (v : BitVec 32) : ((pop (u32 v)).tmod 2 == 1) = parTo v 32 := by
  rw [pop_nonneg]
  cases parTo v 32 <;> rfl
theorem pop_even (v : BitVec 32) : ((pop (u32 v)).tmod 2 == 0) = !parTo v 32 := by
  rw [pop_nonneg]
  cases parTo v 32 <;> rfl

def b0 (v : BitVec 32) : BitVec 8 := v.setWidth 8
def b1 (v : BitVec 32) : BitVec 8 := (v >>> 8).setWidth 8
def b2 (v : BitVec 32) : BitVec 8 := (v >>> 16).setWidth 8
/-- Three bytes as a word. -/
def w3 (a b c : BitVec 8) : BitVec 32 := a.setWidth 32 ||| (b.setWidth 32 <<< 8) ||| (c.setWidth 32 <<< 16)
theorem word_bv (a b c : BitVec 8) : word (u8 a) (u8 b) (u8 c) = u32 (w3 a b c) := by
  unfold word w3
  rw [wrap_u32, wrap_u32, wrap_u32, Nx.ofInt_u8, Nx.ofInt_u8, Nx.ofInt_u8]
  have e8 : shlv .u32 (u32 (BitVec.setWidth 32 b)) 8 = _ := shl_u32 _ 8 (by decide)
  have e16 : shlv .u32 (u32 (BitVec.setWidth 32 c)) 16 = _ := shl_u32 _ 16 (by decide)
  rw [e8, e16, Nx.ofInt_u32, Nx.ofInt_u32, or_u32, or_u32, BitVec.setWidth_eq, BitVec.setWidth_eq]
theorem w3_bit (a b c : BitVec 8) (i : Nat) : (w3 a b c).getLsbD i = if i < 8 then a.getLsbD i else if i < 16 then b.getLsbD (i - 8) else if i < 24 then c.getLsbD (i - 16) else false := by
  unfold w3
  rw [BitVec.getLsbD_or, BitVec.getLsbD_or, BitVec.getLsbD_shiftLeft, BitVec.getLsbD_shiftLeft, BitVec.getLsbD_setWidth, BitVec.getLsbD_setWidth, BitVec.getLsbD_setWidth]
  have ge : ∀ (x : BitVec 8) (k : Nat), 8 ≤ k → x.getLsbD k = false := fun x k h => BitVec.getLsbD_of_ge _ _ h
  by_cases h1 : i < 8
  · have h2 : i < 16 := by omega
    have h3 : i < 32 := by omega
    simp [h1, h2, h3]
  · by_cases h2 : i < 16
    · have h3 : i < 32 := by omega
      have h4 : i - 8 < 32 := by omega
      simp [h1, h2, h3, h4, ge a i (by omega)]
    · by_cases h3 : i < 24
      · have h4 : i < 32 := by omega
        have h5 : i - 8 < 32 := by omega
        have h6 : i - 16 < 32 := by omega
        simp [h1, h2, h3, h4, h5, h6, ge a i (by omega), ge b (i - 8) (by omega)]
      · simp [h1, h2, h3, ge a i (by omega), ge b (i - 8) (by omega), ge c (i - 16) (by omega)]
theorem w3_b (v : BitVec 32) (h : ∀ i, 24 ≤ i → v.getLsbD i = false) : w3 (b0 v) (b1 v) (b2 v) = v := by
  apply BitVec.eq_of_getLsbD_eq
  intro i hi
  rw [w3_bit]
  unfold b0 b1 b2
  by_cases h1 : i < 8
  · rw [if_pos h1, BitVec.getLsbD_setWidth]; simp [h1]
  · rw [if_neg h1]
    by_cases h2 : i < 16
    · have e : 8 + (i - 8) = i := by omega
      have h4 : i - 8 < 8 := by omega
      rw [if_pos h2, BitVec.getLsbD_setWidth, BitVec.getLsbD_ushiftRight, e]; simp [h4]
    · rw [if_neg h2]
      by_cases h3 : i < 24
      · have e : 16 + (i - 16) = i := by omega
        have h4 : i - 16 < 8 := by omega
        rw [if_pos h3, BitVec.getLsbD_setWidth, BitVec.getLsbD_ushiftRight, e]; simp [h4]
      · rw [if_neg h3, h i (by omega)]
def bytesv (v : BitVec 32) : NS := .v (.ag [.i .u8 (u8 (b0 v)), .i .u8 (u8 (b1 v)), .i .u8 (u8 (b2 v))])
theorem bytes3_bv (v : BitVec 32) : bytes3 (u32 v) = bytesv v := by
  unfold bytes3 bytesv
  have e8 : shrv .u32 (u32 v) 8 = _ := shr_u32 v 8 (by decide)
  have e16 : shrv .u32 (u32 v) 16 = _ := shr_u32 v 16 (by decide)
  rw [e8, e16, wrap_u8, wrap_u8, wrap_u8, Nx.ofInt_u32, Nx.ofInt_u32, Nx.ofInt_u32]
  rfl
theorem put0_bv (n : BitVec 64) : put0 (i64 n) = u32 (p0v n) := place_bv n spots 0 0 (by decide) spots_le
theorem put1_bv (n : BitVec 64) : put1 (i64 n) = u32 (p1v n) := by
  unfold put1
  rw [put0_bv]
  have := syn_bv (p0v n) 23 0 (by decide)
  rw [show syn (u32 (p0v n)) 0 23 = i64 (0 ^^^ synv (p0v n) 23) from this]
  rw [show (0 : BitVec 64) ^^^ synv (p0v n) 23 = synv (p0v n) 23 from BitVec.zero_xor, keep_bv _ _ _ (by decide)]
  rfl
theorem u32_fits (v : BitVec 32) : 0 ≤ u32 v ∧ u32 v < 4294967296 := by
  have := v.isLt
  unfold u32
  omega
theorem put_word (n : BitVec 64) : (bif (pop (put1 (i64 n))).tmod 2 == 0 then bits .or .u32 (put1 (i64 n)) 8388608 else put1 (i64 n)) = u32 (wordv n) := by
  rw [put1_bv, pop_even, show (8388608 : Int) = u32 8388608#32 from rfl, or_u32]
  unfold wordv
  cases parTo (p1v n) 32 <;> rfl
/-- What is known of Put. -/
noncomputable def tPutV : Con := fun args regs => match args, regs with
  | [.c (.i .i64 n)], [] => .must (-9223372036854775808 ≤ n ∧ n < 9223372036854775808) (.ret ⟨bytesv (wordv (BitVec.ofInt 64 n)), []⟩)
  | _, _ => .fail
set_option maxRecDepth 100000 in
theorem kPutV : Known Tryz.prog [] 30 tPutV := by
  refine kPut.less fun args regs R h => ?_
  unfold tPutV at h
  split at h
  case h_2 => exact h.elim
  rename_i n
  have h1 := h.1
  have h2 := h.2
  clear h
  have hn := fit_i64 h1.1 h1.2
  generalize BitVec.ofInt 64 n = v at *
  subst hn
  have e : bytes3 (bif (pop (put1 (i64 v))).tmod 2 == 0 then bits .or .u32 (put1 (i64 v)) 8388608 else put1 (i64 v)) = bytesv (wordv v) := by rw [put_word, bytes3_bv]
  have f0 := u32_fits (p0v v)
  have f1 := u32_fits (p1v v)
  rw [← put0_bv] at f0
  rw [← put1_bv] at f1
  refine And.intro (And.intro f0 f1) ?_
  show R ⟨bytes3 _, []⟩
  rw [e]
  exact h2

/-- Where a word is amiss: 0 is nowhere. -/
def atv (v : BitVec 32) : BitVec 64 := synv v 23 ^^^ 31#64
def getN (v : BitVec 32) : BitVec 64 := bif atv v == 0 then datv v else bif parTo v 32 then 0 else bif decide (24 ≤ (atv v).toNat) then 0 else datv (v ^^^ BitVec.twoPow 32 ((atv v).toNat - 1))
def getB (v : BitVec 32) : Bool := bif atv v == 0 then true else bif parTo v 32 then false else bif decide (24 ≤ (atv v).toNat) then false else true
theorem atv_lt (v : BitVec 32) : (atv v).toNat < 32 := by
  unfold atv
  rw [BitVec.toNat_xor]
  exact Nat.xor_lt_two_pow (n := 5) (synv_lt v 23 (by decide)) (by decide)
theorem i64_small (a : BitVec 64) (h : a.toNat < 32) : i64 a = (a.toNat : Int) := by
  unfold i64
  rw [BitVec.toInt_eq_toNat_bmod, Int.bmod_def]
  split <;> omega
theorem place31_bv (v : BitVec 32) : place31 (u32 v) = ((atv v).toNat : Int) := by
  unfold place31
  have := syn_bv v 23 0 (by decide)
  rw [show syn (u32 v) 0 23 = i64 (0 ^^^ synv v 23) from this]
  rw [show (31 : Int) = i64 31#64 from rfl, xor_i64, ← i64_small _ (atv_lt v)]
  unfold atv
  rw [show (0 : BitVec 64) ^^^ synv v 23 = synv v 23 from BitVec.zero_xor]
noncomputable def tGetV : Con := fun args regs => match args, regs with
  | [.ag [.i .u8 a, .i .u8 b, .i .u8 c]], [] => .must ((0 ≤ a ∧ a < 256) ∧ (0 ≤ b ∧ b < 256) ∧ (0 ≤ c ∧ c < 256)) (.ret ⟨.tu [.c (.i .i64 (i64 (getN (w3 (BitVec.ofInt 8 a) (BitVec.ofInt 8 b) (BitVec.ofInt 8 c))))), .c (.b (getB (w3 (BitVec.ofInt 8 a) (BitVec.ofInt 8 b) (BitVec.ofInt 8 c))))], []⟩)
  | _, _ => .fail
theorem sel_bif {c : Bool} {p q : Prop} (h : (c = true → p) ∧ (c = false → q)) : sel c p q := by
  cases c
  · exact h.2 rfl
  · exact h.1 rfl
set_option maxRecDepth 100000 in
theorem kGetV : Known Tryz.prog [] 31 tGetV := by
  refine kGet.less fun args regs R h => ?_
  unfold tGetV at h
  split at h
  case h_2 => exact h.elim
  rename_i a b c
  have h1 := h.1
  have h2 := h.2
  clear h
  have ha := fit_u8 h1.1.1 h1.1.2
  have hb := fit_u8 h1.2.1.1 h1.2.1.2
  have hc := fit_u8 h1.2.2.1 h1.2.2.2
  generalize BitVec.ofInt 8 a = a' at *
  generalize BitVec.ofInt 8 b = b' at *
  generalize BitVec.ofInt 8 c = c' at *
  subst ha hb hc
  have h3 : R ⟨.tu [.c (.i .i64 (i64 (getN (w3 a' b' c')))), .c (.b (getB (w3 a' b' c')))], []⟩ := h2
  clear h2
  rw [get_tree, word_bv]
  generalize w3 a' b' c' = v at *
  refine And.intro (u32_fits v) ?_
  rw [place31_bv, pop_odd, dat_datv]
  have hlt := atv_lt v
  unfold getN getB at h3
  have e0 : (((atv v).toNat : Int) == 0) = (atv v == 0) := by
    rw [Bool.eq_iff_iff, beq_iff_eq, beq_iff_eq]
    constructor
    · intro h
      apply BitVec.eq_of_toNat_eq
      have : (atv v).toNat = 0 := by omega
      rw [this]; rfl
    · intro h; rw [h]; rfl
  have e24 : decide ((((atv v).toNat : Int)) ≥ 24) = decide (24 ≤ (atv v).toNat) := by
    rw [decide_eq_decide]; omega
  rw [e0, e24]
  cases z : atv v == 0
  case true => rw [z] at h3; exact h3
  rw [z] at h3
  cases p : parTo v 32
  case true => rw [p] at h3; exact h3
  rw [p] at h3
  cases g : decide (24 ≤ (atv v).toNat)
  case true => rw [g] at h3; exact h3
  rw [g] at h3
  have hz : (atv v).toNat ≠ 0 := by
    intro h
    have : ((atv v).toNat : Int) = 0 := by omega
    rw [this] at e0
    rw [← e0] at z
    cases z
  have ew : IntKind.i64.wrap (((atv v).toNat : Int) - 1) = (((atv v).toNat - 1 : Nat) : Int) := by
    rw [IntKind.wrap_i64]; omega
  have es : shlv .u32 1 (((atv v).toNat - 1 : Nat) : Int) = u32 (BitVec.twoPow 32 ((atv v).toNat - 1)) := by
    rw [shl_u32 _ _ (by omega)]
    congr 1
  rw [ew, es, xor_u32, dat_datv]
  have ed : decide (0 ≤ (((atv v).toNat - 1 : Nat) : Int)) = true := by simp
  rw [ed]
  exact h3
end Go.Proofs.YtjfgphfdaghilaaGreatDoor.ham
