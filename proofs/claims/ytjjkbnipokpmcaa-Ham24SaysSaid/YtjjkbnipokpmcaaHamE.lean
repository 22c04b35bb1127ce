/-
  ham24: what the document reads of a word is what the program reads; the law Ham24Says.
-/
import Derived.Test.YtjjkbnipokpmcaaHamD
import Derived.Test.YtjjkbnipokpmcaaHamW
namespace Go.Proofs.Ytjjkbnipokpmcaa.ham
open Go Go.Nx

theorem spots_at {i : Nat} (h : i + 1 ∈ spots) : ∃ j, j < 64 ∧ spots[j]? = some (i + 1) := by
  obtain ⟨j, hj⟩ := List.getElem?_of_mem h
  refine ⟨j, ?_, hj⟩
  have := (List.getElem?_eq_some_iff.mp hj).1
  have h2 : spots.length = 18 := rfl
  omega
theorem code_iff (v : BitVec 32) : wordv (datv v) = v ↔ Code v := by
  constructor
  · intro h
    rw [← h]
    exact wordv_code _
  · intro h
    refine (wordv_code _).uniq h fun i hi => ?_
    obtain ⟨j, hj, e⟩ := spots_at hi
    rw [wordv_on _ i j e, datv_bit v j hj, e]
    rfl
theorem in32 (v : BitVec 32) : In32 (u32 v) := u32_fits v
theorem dI_bv (v : BitVec 32) : dI (u32 v) = i64 (datv v) := by
  unfold dI
  rw [Nx.ofInt_u32, BitVec.setWidth_eq]
theorem tryW_bv {v : BitVec 32} {R : Out → Prop} {K : Prop} (h1 : Code v → R (some2 (i64 (datv v)))) (h2 : ¬ Code v → K) : tryW (u32 v) R K := by
  unfold tryW
  rw [dI_bv, Nx.ofInt_i64_64]
  refine ⟨in32 v, i64_fits _, ?_⟩
  by_cases c : Code v
  · rw [(code_iff v).2 c]
    exact sel_iff.2 (.inl ⟨by simp, in32 v, h1 c⟩)
  · refine sel_iff.2 (.inr ⟨?_, h2 c⟩)
    rw [beq_eq_false_iff_ne]
    intro e
    exact c ((code_iff v).1 (u32_inj.1 e))
theorem turn_bv (v : BitVec 32) (i : Nat) (hi : i < 32) : bits .xor .i64 (u32 v) (shlv .i64 1 (Int.ofNat i)) = u32 (v ^^^ BitVec.twoPow 32 i) := by
  rw [show shlv .i64 1 (Int.ofNat i) = shlv .i64 ((true.toNat : Nat) : Int) (Int.ofNat i) from rfl, shl_bitu true i hi, xor_u32i]
  rfl
theorem chain_none {v : BitVec 32} {R : Out → Prop} (h : R none2) : ∀ is : List Nat, (∀ i ∈ is, i < 24) → (∀ i ∈ is, ¬ Code (v ^^^ BitVec.twoPow 32 i)) → chain (u32 v) R is
  | [], _, _ => h
  | i :: is, hi, hc => by
    have h1 := hi i (by simp)
    simp only [chain]
    rw [turn_bv v i (by omega)]
    exact tryW_bv (fun c => (hc i (by simp) c).elim) fun _ => chain_none h is (fun q hq => hi q (by simp [hq])) fun q hq => hc q (by simp [hq])
theorem chain_some {v : BitVec 32} {R : Out → Prop} {k : Nat} (hk : Code (v ^^^ BitVec.twoPow 32 k)) (h : R (some2 (i64 (datv (v ^^^ BitVec.twoPow 32 k))))) : ∀ is : List Nat, k ∈ is → (∀ i ∈ is, i < 24) → (∀ i ∈ is, Code (v ^^^ BitVec.twoPow 32 i) → i = k) → chain (u32 v) R is
  | [], hm, _, _ => by simp at hm
  | i :: is, hm, hi, hc => by
    have h1 := hi i (by simp)
    simp only [chain]
    rw [turn_bv v i (by omega)]
    refine tryW_bv (fun c => ?_) fun c => ?_
    · rw [hc i (by simp) c]; exact h
    · have hm2 : k ∈ is := by
        simp only [List.mem_cons] at hm
        rcases hm with e | e
        · subst e; exact (c hk).elim
        · exact e
      exact chain_some hk h is hm2 (fun q hq => hi q (by simp [hq])) fun q hq => hc q (by simp [hq])
theorem turned {v : BitVec 32} {i : Nat} (hi : i < 24) (c : Code (v ^^^ BitVec.twoPow 32 i)) : atv v = sy i ∧ parTo v 32 = false := by
  have h1 := c.at1 hi
  have h2 := c.par1 hi
  rw [xor_back] at h1 h2
  exact ⟨h1, h2⟩
theorem mended {v : BitVec 32} (hv : ∀ i, 24 ≤ i → v.getLsbD i = false) {i : Nat} (hi : i < 24) (ha : atv v = sy i) (hp : parTo v 32 = false) : Code (v ^^^ BitVec.twoPow 32 i) := by
  refine ⟨?_, ?_, high_xor hv (bit_high hi)⟩
  · rw [synv_xor, syn_one i hi, ← ha]
    unfold atv
    rw [← BitVec.xor_assoc, BitVec.xor_self, BitVec.zero_xor]
  · rw [parTo_xor, hp, par_one i hi]; rfl
theorem sy_inj {i k : Nat} (hi : i < 24) (hk : k < 24) (h : sy i = sy k) : i = k := by
  apply Classical.byContradiction
  intro ne
  apply sy_ne i hi k hk ne
  rw [h, BitVec.xor_self]
theorem below (i : Nat) (h : i ∈ List.range 24) : i < 24 := by simpa using h
theorem get_same {v : BitVec 32} (hv : ∀ i, 24 ≤ i → v.getLsbD i = false) {R : Out → Prop} (h : R ⟨.tu [.c (.i .i64 (i64 (getN v))), .c (.b (getB v))], []⟩) : tryW (u32 v) R (chain (u32 v) R (List.range 24)) := by
  unfold getN getB at h
  cases z : atv v == 0 with
  | true =>
    have z' : atv v = 0 := by rwa [beq_iff_eq] at z
    rw [z] at h
    cases p : parTo v 32 with
    | true =>
      refine tryW_bv (fun _ => h) fun c => (c ⟨?_, p, hv⟩).elim
      unfold atv at z'
      have := congrArg (fun x => x ^^^ 31#64) z'
      simpa [BitVec.xor_assoc] using this
    | false =>
      refine tryW_bv (fun _ => h) fun _ => ?_
      have c23 : Code (v ^^^ BitVec.twoPow 32 23) := mended hv (by decide) z' p
      have e : datv (v ^^^ BitVec.twoPow 32 23) = datv v := by
        apply datv_ext
        intro j hj
        have : ¬ 23 = j := by
          intro e
          subst e
          revert hj
          decide
        rw [BitVec.getLsbD_xor, BitVec.getLsbD_twoPow]
        simp [this]
      refine chain_some c23 (by rw [e]; exact h) _ (by simp) below fun i hi c => ?_
      exact sy_inj (below i hi) (by decide) ((turned (below i hi) c).1.symm.trans z')
  | false =>
    have z' : atv v ≠ 0 := by rwa [beq_eq_false_iff_ne] at z
    rw [z] at h
    have nc : ¬ Code v := fun c => z' c.at
    refine tryW_bv (fun c => (nc c).elim) fun _ => ?_
    cases p : parTo v 32 with
    | true =>
      rw [p] at h
      refine chain_none h _ below fun i hi c => ?_
      have := (turned (below i hi) c).2
      rw [p] at this
      cases this
    | false =>
      rw [p] at h
      cases g : decide (24 ≤ (atv v).toNat) with
      | true =>
        rw [g] at h
        refine chain_none h _ below fun i hi c => ?_
        have e := (turned (below i hi) c).1
        rw [decide_eq_true_eq] at g
        by_cases h23 : i < 23
        · have := (sy_toNat i h23).2
          rw [← e] at this
          omega
        · have : i = 23 := by have := below i hi; omega
          subst this
          exact z' e
      | false =>
        rw [g] at h
        rw [decide_eq_false_iff_not] at g
        have nz : (atv v).toNat ≠ 0 := fun e => z' (BitVec.eq_of_toNat_eq e)
        have i23 : (atv v).toNat - 1 < 23 := by omega
        have e : atv v = sy ((atv v).toNat - 1) := by
          apply BitVec.eq_of_toNat_eq
          rw [(sy_toNat _ i23).2]
          omega
        have c0 := mended hv (i := (atv v).toNat - 1) (by omega) e p
        refine chain_some c0 h _ (by simp; omega) below fun i hi c => ?_
        exact sy_inj (below i hi) (by omega) ((turned (below i hi) c).1.symm.trans e)
theorem wordi_bv (a b c : BitVec 8) : wordi (u8 a) (u8 b) (u8 c) = u32 (w3 a b c) := by
  have e : ∀ x : BitVec 8, IntKind.i64.wrap (u8 x) = u32 (x.setWidth 32) := fun x => by
    have := x.isLt
    rw [IntKind.wrap_i64]
    unfold u8 u32
    rw [BitVec.toNat_setWidth]
    omega
  have s : ∀ (x : BitVec 8) (j : Nat), j ≤ 16 → shlv .i64 (u32 (x.setWidth 32)) (j : Int) = u32 (x.setWidth 32 <<< j) := fun x j hj => by
    have h8 := x.isLt
    rw [shl_i64 _ j (by omega), Nx.ofInt_u32, u32_i64]
    congr 1
    apply BitVec.eq_of_toNat_eq
    rw [BitVec.toNat_shiftLeft, BitVec.toNat_setWidth, BitVec.toNat_setWidth, BitVec.toNat_setWidth, BitVec.toNat_shiftLeft, BitVec.toNat_setWidth, Nat.shiftLeft_eq, Nat.shiftLeft_eq]
    have hp : 2 ^ j ≤ 2 ^ 16 := Nat.pow_le_pow_right (by decide) hj
    have hm : x.toNat * 2 ^ j ≤ 255 * 2 ^ 16 := Nat.mul_le_mul (by omega) hp
    have q1 : x.toNat % 2 ^ 32 = x.toNat := Nat.mod_eq_of_lt (by omega)
    rw [q1]
    have q2 : x.toNat % 2 ^ 64 = x.toNat := Nat.mod_eq_of_lt (by omega)
    rw [q2]
    have q3 : x.toNat * 2 ^ j % 2 ^ 32 = x.toNat * 2 ^ j := Nat.mod_eq_of_lt (by omega)
    rw [q3]
  unfold wordi w3
  have s8 : shlv .i64 (u32 (b.setWidth 32)) 8 = _ := s b 8 (by decide)
  have s16 : shlv .i64 (u32 (c.setWidth 32)) 16 = _ := s c 16 (by decide)
  rw [e, e, e, s8, s16, or_u32i, or_u32i]
theorem w3_high (a b c : BitVec 8) (i : Nat) (hi : 24 ≤ i) : (w3 a b c).getLsbD i = false := by
  rw [w3_bit, if_neg (by omega), if_neg (by omega), if_neg (by omega)]
set_option maxRecDepth 100000 in
theorem kGetRV : Known Try.prog [] 15 tGetV := by
  refine kGetRB.less fun args regs R h => ?_
  unfold tGetV at h
  split at h
  case h_2 => exact h.elim
  rename_i a b c
  have h1 := h.1
  have h2 := h.2
  clear h
  have ha := fit_u8 h1.1.1 h1.1.2
  have hb := fit_u8 h1.2.1.1 h1.2.1.2
  have hc := fit_u8 h1.2.2.1 h1.2.2.2
  generalize BitVec.ofInt 8 a = a' at *
  generalize BitVec.ofInt 8 b = b' at *
  generalize BitVec.ofInt 8 c = c' at *
  subst ha hb hc
  have h3 : R ⟨.tu [.c (.i .i64 (i64 (getN (w3 a' b' c')))), .c (.b (getB (w3 a' b' c')))], []⟩ := h2
  clear h2
  rw [getRB_tree, wordi_bv]
  exact get_same (w3_high a' b' c') h3

/-! ### The law Ham24Says -/
noncomputable def cSays : FuncId → Option Con := conOf [(12, tPutV), (14, tGetV), (13, tPutV), (15, tGetV), (11, tYes)]
theorem kcSays : ∀ f T, cSays f = some T → Known Try.prog [] f T := (Knowns.cons kPutV (Knowns.cons kGetV (Knowns.cons kPutRV (Knowns.cons kGetRV (Knowns.cons kYes Knowns.nil))))).get
noncomputable def tSays : Con := fun args regs => nfun Try.prog [] cSays [] Try.f4 args regs
theorem kSays : Known Try.prog [] 4 tSays := known_inl Try.func4 rfl (by kernel_rfl) mixed kcSays (by kernel_rfl)
def wN (n : Int) : BitVec 32 := wordv (BitVec.ofInt 64 n)
def In8i (a b c : Int) : Prop := (0 ≤ a ∧ a < 256) ∧ (0 ≤ b ∧ b < 256) ∧ (0 ≤ c ∧ c < 256)
theorem says_tree (n a b c : Int) (R : Out → Prop) : (tSays [.c (.i .i64 n), .ag [.i .u8 a, .i .u8 b, .i .u8 c]] []).run R =
    (In64 n ∧ (In64 n ∧ (In8i a b c ∧ (In8i a b c ∧
      sel (u8 (b0 (wN n)) == u8 (b0 (wN n))) (sel (u8 (b1 (wN n)) == u8 (b1 (wN n))) (sel (u8 (b2 (wN n)) == u8 (b2 (wN n)))
        (sel (i64 (getN (w3i a b c)) == i64 (getN (w3i a b c))) (R ⟨.v (.c (.b (getB (w3i a b c) == getB (w3i a b c)))), []⟩) (R no)) (R no)) (R no)) (R no))))) := by kernel_rfl
theorem says_true (n a b c : Int) (hn : In64 n) (h : In8i a b c) : Holds (tSays [.c (.i .i64 n), .ag [.i .u8 a, .i .u8 b, .i .u8 c]] []) fun o => o.res = .v (.c (.b true)) := by
  constructor
  rw [says_tree]
  refine ⟨hn, hn, h, h, sel_iff.2 (.inl ⟨by simp, sel_iff.2 (.inl ⟨by simp, sel_iff.2 (.inl ⟨by simp, sel_iff.2 (.inl ⟨by simp, ?_⟩)⟩)⟩)⟩)⟩
  show NS.v (.c (.b _)) = _
  simp
theorem says_calls (n a b c : Int) (hn : In64 n) (h : In8i a b c) (w : World) : Calls Try.prog 4 #[.int .i64 n, .agg #[.int .u8 a, .int .u8 b, .int .u8 c]] w fun e w' => e = .returned (.bool true) ∧ RowKit.Grown w w' := by
  have hr : R2 (VRel (topEnv w fun _ => Option.none)) [NV.c (NC.i .i64 n), NV.ag [NC.i .u8 a, NC.i .u8 b, NC.i .u8 c]] [Value.int .i64 n, Value.agg #[.int .u8 a, .int .u8 b, .int .u8 c]] :=
    R2.cons (int_rel _ _ _) (R2.cons (ints_rel _ .u8 [a, b, c]) .nil)
  exact kSays.law (fun _ => Option.none) (globOk_nil _) hr (says_true n a b c hn h)
end Go.Proofs.Ytjjkbnipokpmcaa.ham
