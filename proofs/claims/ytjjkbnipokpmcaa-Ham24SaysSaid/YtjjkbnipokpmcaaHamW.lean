/-
  ham24: the laws Ham24Mends and Ham24Adds.
-/
import Derived.Test.YtjjkbnipokpmcaaHamV
namespace Go.Proofs.Ytjjkbnipokpmcaa.ham
open Go Go.Nx

noncomputable def tMends : Con := fun args regs => nfun Try.prog [] cLaw [] Try.f5 args regs
theorem kMends : Known Try.prog [] 5 tMends := known_inl Try.func5 rfl (by kernel_rfl) mixed kcLaw (by kernel_rfl)
def wn (n : Int) : BitVec 32 := wordv (BitVec.ofInt 64 (n % 262144))
def w1 (n i : Int) : BitVec 32 := low (wn n) ^^^ BitVec.twoPow 32 (i % 24).toNat
def w2 (n i k : Int) : BitVec 32 := low (w1 n i) ^^^ BitVec.twoPow 32 (k % 24).toNat
def no : Out := ⟨.v (.c (.b false)), []⟩
theorem mends_tree (n i k : Int) (R : Out → Prop) : (tMends [.c (.i .i64 n), .c (.i .i64 i), .c (.i .i64 k)] []).run R =
    (InNum 262144 ∧ (InNum 24 ∧ (InNum 24 ∧ (In64 (n % 262144) ∧ (In8 (wn n) ∧ ((In8 (wn n) ∧ In24 (i % 24)) ∧ (In8 (w1 n i) ∧ ((In8 (wn n) ∧ In24 (i % 24)) ∧ ((In8 (w1 n i) ∧ In24 (k % 24)) ∧ (In8 (w2 n i k) ∧
      sel (getB (low (wn n))) (sel (i64 (getN (low (wn n))) == n % 262144) (sel (getB (low (w1 n i))) (sel (i64 (getN (low (w1 n i))) == n % 262144)
        (R ⟨.v (.c (.b (getB (low (w2 n i k)) == (i % 24 == k % 24)))), []⟩) (R no)) (R no)) (R no)) (R no))))))))))) := by kernel_rfl
theorem mends_true (n i k : Int) : Holds (tMends [.c (.i .i64 n), .c (.i .i64 i), .c (.i .i64 k)] []) fun o => o.res = .v (.c (.b true)) := by
  constructor
  rw [mends_tree]
  have n0 : 0 ≤ n % 262144 := by omega
  have n1 : n % 262144 < 262144 := by omega
  have hi : (i % 24).toNat < 24 := by omega
  have hk : (k % 24).toNat < 24 := by omega
  have ii : In24 (i % 24) := ⟨by omega, by omega⟩
  have ik : In24 (k % 24) := ⟨by omega, by omega⟩
  have hc : Code (wn n) := wordv_code _
  have d : i64 (datv (wn n)) = n % 262144 := dat_word n0 n1
  have e0 : low (wn n) = wn n := low_eq _ hc.high
  have e1 : low (w1 n i) = w1 n i := low_eq _ (by unfold w1; rw [e0]; exact high_xor hc.high (bit_high hi))
  have e2 : low (w2 n i k) = w2 n i k := low_eq _ (by unfold w2; rw [e1]; unfold w1; rw [e0]; exact high_xor (high_xor hc.high (bit_high hi)) (bit_high hk))
  have g1 := hc.get1 hi
  have g2 := hc.get2 hi hk
  rw [e1, e2]
  unfold w2
  rw [e1]
  unfold w1
  rw [e0, hc.getB, hc.getN, d, g1.1, g1.2, d, g2]
  have en : (InNum 262144) := ⟨by decide, by decide⟩
  have e24 : (InNum 24) := ⟨by decide, by decide⟩
  have eq : (decide ((i % 24).toNat = (k % 24).toNat) == (i % 24 == k % 24)) = true := by
    by_cases e : i % 24 = k % 24
    · rw [e]; simp
    · have : ¬ (i % 24).toNat = (k % 24).toNat := by omega
      simp [e, this]
  refine ⟨en, e24, e24, num_in64 n0 n1, in8 _, ⟨in8 _, ii⟩, in8 _, ⟨in8 _, ii⟩, ⟨in8 _, ik⟩, in8 _, ?_⟩
  refine sel_iff.2 (.inl ⟨rfl, sel_iff.2 (.inl ⟨by simp, sel_iff.2 (.inl ⟨rfl, sel_iff.2 (.inl ⟨by simp, ?_⟩)⟩)⟩)⟩)
  show NS.v (.c (.b _)) = _
  rw [eq]
theorem mends_calls (n i k : Int) (w : World) : Calls Try.prog 5 #[.int .i64 n, .int .i64 i, .int .i64 k] w fun e w' => e = .returned (.bool true) ∧ RowKit.Grown w w' := by
  have hr : R2 (VRel (topEnv w fun _ => Option.none)) [NV.c (NC.i .i64 n), NV.c (NC.i .i64 i), NV.c (NC.i .i64 k)] [Value.int .i64 n, .int .i64 i, .int .i64 k] :=
    R2.cons (int_rel _ _ _) (R2.cons (int_rel _ _ _) (R2.cons (int_rel _ _ _) .nil))
  exact kMends.law (fun _ => Option.none) (globOk_nil _) hr (mends_true n i k)

noncomputable def tAdds : Con := fun args regs => nfun Try.prog [] cLaw [] Try.f7 args regs
theorem kAdds : Known Try.prog [] 7 tAdds := known_inl Try.func7 rfl (by kernel_rfl) mixed kcLaw (by kernel_rfl)
noncomputable def wx (a b : Int) : BitVec 32 := wordv (BitVec.ofInt 64 (bits .xor .i64 (a % 262144) (b % 262144)))
def wz : BitVec 32 := wordv (BitVec.ofInt 64 0)
noncomputable def x3 (a b c : BitVec 8) : Int := bits .xor .u8 (bits .xor .u8 (u8 a) (u8 b)) (u8 c)
theorem adds_tree (a b : Int) (R : Out → Prop) : (tAdds [.c (.i .i64 a), .c (.i .i64 b)] []).run R =
    (InNum 262144 ∧ (InNum 262144 ∧ (In64 (a % 262144) ∧ (In64 (b % 262144) ∧ (In64 0 ∧ (In64 (bits .xor .i64 (a % 262144) (b % 262144)) ∧
      sel (u8 (b0 (wx a b)) == x3 (b0 (wn a)) (b0 (wn b)) (b0 wz)) (sel (u8 (b1 (wx a b)) == x3 (b1 (wn a)) (b1 (wn b)) (b1 wz))
        (R ⟨.v (.c (.b (u8 (b2 (wx a b)) == x3 (b2 (wn a)) (b2 (wn b)) (b2 wz)))), []⟩) (R no)) (R no))))))) := by kernel_rfl
theorem x3_bv (a b c : BitVec 8) : x3 a b c = u8 (a ^^^ b ^^^ c) := by
  unfold x3
  rw [bits_u8, bvop_xor, ofInt_u8_8, bits_u8, bvop_xor, ofInt_u8_8, ofInt_u8_8, ofInt_u8_8]
theorem adds_word (a b : BitVec 64) : wordv (a ^^^ b) = wordv a ^^^ wordv b ^^^ wordv (BitVec.ofInt 64 0) := by
  have ha := wordv_code a
  have hb := wordv_code b
  have hz := wordv_code (BitVec.ofInt 64 0)
  refine (wordv_code _).uniq ⟨?_, ?_, ?_⟩ fun i hi => ?_
  · rw [synv_xor, synv_xor, ha.syn, hb.syn, hz.syn]; rfl
  · rw [parTo_xor, parTo_xor, ha.par, hb.par, hz.par]; rfl
  · exact high_xor (high_xor ha.high hb.high) hz.high
  · obtain ⟨j, hj⟩ := List.getElem?_of_mem hi
    rw [BitVec.getLsbD_xor, BitVec.getLsbD_xor, wordv_on _ i j hj, wordv_on _ i j hj, wordv_on _ i j hj, wordv_on _ i j hj, BitVec.getLsbD_xor]
    have : (BitVec.ofInt 64 0).getLsbD j = false := by
      show (0#64).getLsbD j = false
      simp
    rw [this, Bool.xor_false]
theorem i64_fits (v : BitVec 64) : In64 (i64 v) := by
  have h1 := BitVec.toInt_lt (x := v)
  have h2 := BitVec.le_toInt (x := v)
  unfold i64 In64
  constructor <;> omega
theorem adds_true (a b : Int) : Holds (tAdds [.c (.i .i64 a), .c (.i .i64 b)] []) fun o => o.res = .v (.c (.b true)) := by
  constructor
  rw [adds_tree]
  have e : wx a b = wn a ^^^ wn b ^^^ wz := by
    unfold wx wn wz
    rw [bits_i64, bvop_xor, Nx.ofInt_i64_64, adds_word]
  have en : (InNum 262144) := ⟨by decide, by decide⟩
  have ex : In64 (bits .xor .i64 (a % 262144) (b % 262144)) := by rw [bits_i64]; exact i64_fits _
  refine ⟨en, en, num_in64 (by omega) (by omega), num_in64 (by omega) (by omega), ⟨by decide, by decide⟩, ex, ?_⟩
  rw [e, x3_bv, x3_bv, x3_bv, b0_xor, b0_xor, b1_xor, b1_xor, b2_xor, b2_xor]
  refine sel_iff.2 (.inl ⟨by simp, sel_iff.2 (.inl ⟨by simp, ?_⟩)⟩)
  show NS.v (.c (.b _)) = _
  simp
theorem adds_calls (a b : Int) (w : World) : Calls Try.prog 7 #[.int .i64 a, .int .i64 b] w fun e w' => e = .returned (.bool true) ∧ RowKit.Grown w w' := by
  have hr : R2 (VRel (topEnv w fun _ => Option.none)) [NV.c (NC.i .i64 a), NV.c (NC.i .i64 b)] [Value.int .i64 a, .int .i64 b] :=
    R2.cons (int_rel _ _ _) (R2.cons (int_rel _ _ _) .nil)
  exact kAdds.law (fun _ => Option.none) (globOk_nil _) hr (adds_true a b)
end Go.Proofs.Ytjjkbnipokpmcaa.ham
