/-
  TripletBack: plain facts; the law.
-/
import Derived.Test.YthjdlanmfiofdaaDoorTrH
import Derived.Test.YthjdlanmfiofdaaDoorEng24
namespace Go.Proofs.YthjdlanmfiofdaaDoor.tr
open Go Go.Nx Go.Proofs.YthjdlanmfiofdaaDoor.pk Go.Proofs.YthjdlanmfiofdaaDoor.ln Go.Proofs.YthjdlanmfiofdaaDoor.hd

def isT (o : Out) : Prop := o.res = .v (.c (.b true))
theorem box_holds {t : Tr Out} {R : Out → Prop} (h : Box (t.run R)) : Holds t R := ⟨h.out⟩
theorem wrap8_in (n : Int) : 1 ≤ wrap8 n ∧ wrap8 n ≤ 8 := by
  unfold wrap8
  rw [IntKind.wrap_i64]
  omega
theorem or6 (y x : Int) (hy0 : 0 ≤ y) (hy : y < 64) (hx0 : 0 ≤ x) (hx : x < 65536) : oI y (shlv .i64 x 6) = y + x * 64 := or_parts y x 6 (by decide) hy0 hy hx0 hx
theorem or11 (y x : Int) (hy0 : 0 ≤ y) (hy : y < 2048) (hx0 : 0 ≤ x) (hx : x < 65536) : oI y (shlv .i64 x 11) = y + x * 2048 := or_parts y x 11 (by decide) hy0 hy hx0 hx
theorem aI_63 (n : Int) : aI n 63 = n % 64 := and_mask64 n 6 (by decide)
theorem aI_31 (n : Int) : aI n 31 = n % 32 := and_mask64 n 5 (by decide)
theorem aI_127 (n : Int) : aI n 127 = n % 128 := and_mask64 n 7 (by decide)
theorem sh_6 (n : Int) : shrv .i64 n 6 = n / 64 := shrv64 n 6 (by decide)
theorem sh_11 (n : Int) : shrv .i64 n 11 = n / 2048 := shrv64 n 11 (by decide)
theorem tw_in (r : List Sc) : ∀ x ∈ tw r, 0 ≤ x ∧ x < 256 := by
  intro x hx
  unfold tw at hx
  simp only [List.mem_cons, List.not_mem_nil, or_false] at hx
  rcases hx with rfl | rfl | rfl <;> exact ham.u8_fits _
theorem nR_rowX (X : Int) : nR (rowX X) = X % 262144 := by
  show oI (oI (aI (aI X 63) 63) (shlv .i64 (aI (aI (shrv .i64 X 6) 31) 31) 6)) (shlv .i64 (aI (aI (shrv .i64 X 11) 127) 127) 11) = _
  rw [aI_63, aI_63, aI_31, aI_31, aI_127, aI_127, sh_6, sh_11, or6 _ _ (by omega) (by omega) (by omega) (by omega), or11 _ _ (by omega) (by omega) (by omega) (by omega)]
  omega
theorem rowX_nR (X : Int) : rowX (nR (rowX X)) = rowX X := by
  rw [nR_rowX]
  unfold rowX
  rw [aI_63, aI_63, aI_31, aI_31, aI_127, aI_127, sh_6, sh_6, sh_11, sh_11, show X % 262144 % 64 = X % 64 by omega, show X % 262144 / 64 % 32 = X / 64 % 32 by omega, show X % 262144 / 2048 % 128 = X / 2048 % 128 by omega]
/-! ### words -/
noncomputable def wA (A : List Int) (j : Nat) : BitVec 32 := ham.w3 (BitVec.ofInt 8 (A.getD (3 + 3 * j) 0)) (BitVec.ofInt 8 (A.getD (3 + 3 * j + 1) 0)) (BitVec.ofInt 8 (A.getD (3 + 3 * j + 2) 0))
theorem w3_xor (a b c x y z : BitVec 8) : ham.w3 (a ^^^ x) (b ^^^ y) (c ^^^ z) = ham.w3 a b c ^^^ ham.w3 x y z := by
  apply BitVec.eq_of_getLsbD_eq
  intro i _
  rw [BitVec.getLsbD_xor, ham.w3_bit, ham.w3_bit, ham.w3_bit, BitVec.getLsbD_xor, BitVec.getLsbD_xor, BitVec.getLsbD_xor]
  split
  · rfl
  · split
    · rfl
    · split <;> rfl
def pw (k q : Nat) : BitVec 8 := if k / 8 = q then BitVec.twoPow 8 (k % 8) else 0
theorem w3_pw : ∀ k < 24, ham.w3 (pw k 0) (pw k 1) (pw k 2) = BitVec.twoPow 32 k := by decide +kernel
theorem sh_pow : ∀ j < 8, BitVec.ofInt 8 (shlv .u8 1 ((j : Nat) : Int)) = BitVec.twoPow 8 j := by decide +kernel
theorem x8_bv (a b : Int) : BitVec.ofInt 8 (x8 a b) = BitVec.ofInt 8 a ^^^ BitVec.ofInt 8 b := by
  unfold x8
  have e := bits_u8 .xor a b
  rw [e, ofInt_u8_8]
  rfl
theorem getD_set_self (A : List Int) (p : Nat) (y : Int) (h : p < A.length) : (A.set p y).getD p 0 = y := by
  rw [List.getD_eq_getElem?_getD, List.getElem?_set_self h]
  rfl
theorem getD_set_ne (A : List Int) (p q : Nat) (y : Int) (h : p ≠ q) : (A.set p y).getD q 0 = A.getD q 0 := by
  rw [List.getD_eq_getElem?_getD, List.getD_eq_getElem?_getD, List.getElem?_set_ne h]
theorem T1_at (A : List Int) (i k q : Nat) (hA : A.length = 42) (hi : i < 13) (hk : k < 24) (hq : q < 3) : BitVec.ofInt 8 ((T1 A i k).getD (3 + 3 * i + q) 0) = BitVec.ofInt 8 (A.getD (3 + 3 * i + q) 0) ^^^ pw k q := by
  have _ := hk
  unfold T1 pw
  by_cases h : k / 8 = q
  · rw [if_pos h, h, getD_set_self _ _ _ (by omega), x8_bv, sh_pow (k % 8) (by omega)]
  · rw [if_neg h, getD_set_ne _ _ _ _ (by omega)]
    exact BitVec.xor_zero.symm
theorem T1_word (A : List Int) (i k : Nat) (hA : A.length = 42) (hi : i < 13) (hk : k < 24) : wA (T1 A i k) i = wA A i ^^^ BitVec.twoPow 32 k := by
  unfold wA
  have h0 := T1_at A i k 0 hA hi hk (by decide)
  have h1 := T1_at A i k 1 hA hi hk (by decide)
  have h2 := T1_at A i k 2 hA hi hk (by decide)
  rw [Nat.add_zero] at h0
  rw [h0, h1, h2, w3_xor, w3_pw k hk]
theorem T1_other (A : List Int) (i k j : Nat) (hk : k < 24) (h : j ≠ i) : wA (T1 A i k) j = wA A j := by
  unfold wA T1
  rw [getD_set_ne _ _ _ _ (by omega), getD_set_ne _ _ _ _ (by omega), getD_set_ne _ _ _ _ (by omega)]
theorem T1_head (A : List Int) (i k p : Nat) (h : p < 3) : (T1 A i k).getD p 0 = A.getD p 0 := by
  unfold T1
  rw [getD_set_ne _ _ _ _ (by omega)]
theorem T1_in (A : List Int) (i k : Nat) (h : ∀ x ∈ A, 0 ≤ x ∧ x < 256) : ∀ x ∈ T1 A i k, 0 ≤ x ∧ x < 256 := by
  intro x hx
  unfold T1 at hx
  rcases List.mem_or_eq_of_mem_set hx with hx | rfl
  · exact h x hx
  · exact x8_in _ _
noncomputable def mix (bs : List Int) (a : Int) (j : Nat) (w : BitVec 32) : BitVec 32 := bif ((j : Int) == a) then w ^^^ BitVec.twoPow 32 (k9 bs j) ^^^ BitVec.twoPow 32 ((k9 bs j + 1) % 24) else w ^^^ BitVec.twoPow 32 (k9 bs j)
theorem step9_word (bs : List Int) (a : Int) (A : List Int) (i : Nat) (hA : A.length = 42) (hi : i < 13) : wA (step9 bs a A i) i = mix bs a i (wA A i) := by
  have hk := k9_in bs i
  unfold step9 mix
  cases ((i : Int) == a) with
  | true => exact (T1_word _ i _ ((T1_len _ _ _).trans hA) hi (by omega)).trans (by rw [T1_word A i _ hA hi hk]; rfl)
  | false => exact T1_word A i _ hA hi hk
theorem step9_other (bs : List Int) (a : Int) (A : List Int) (i j : Nat) (h : j ≠ i) : wA (step9 bs a A i) j = wA A j := by
  have hk := k9_in bs i
  unfold step9
  cases ((i : Int) == a) with
  | true => exact (T1_other _ i _ j (by omega) h).trans (T1_other A i _ j hk h)
  | false => exact T1_other A i _ j hk h
theorem step9_head (bs : List Int) (a : Int) (A : List Int) (i p : Nat) (h : p < 3) : (step9 bs a A i).getD p 0 = A.getD p 0 := by
  unfold step9
  cases ((i : Int) == a) with
  | true => exact (T1_head _ i _ p h).trans (T1_head A i _ p h)
  | false => exact T1_head A i _ p h
theorem step9_in (bs : List Int) (a : Int) (A : List Int) (i : Nat) (h : ∀ x ∈ A, 0 ≤ x ∧ x < 256) : ∀ x ∈ step9 bs a A i, 0 ≤ x ∧ x < 256 := by
  unfold step9
  cases ((i : Int) == a) with
  | true => exact T1_in _ _ _ (T1_in _ _ _ h)
  | false => exact T1_in _ _ _ h
theorem trn_head (bs : List Int) (a : Int) (p : Nat) (h : p < 3) : ∀ (n : Nat) (A : List Int), (trn bs a n A).getD p 0 = A.getD p 0
  | 0, _ => rfl
  | n + 1, A => (trn_head bs a p h n _).trans (step9_head bs a A _ p h)
theorem trn_in (bs : List Int) (a : Int) : ∀ (n : Nat) (A : List Int), (∀ x ∈ A, 0 ≤ x ∧ x < 256) → ∀ x ∈ trn bs a n A, 0 ≤ x ∧ x < 256
  | 0, _, h => h
  | n + 1, A, h => trn_in bs a n _ (step9_in bs a A _ h)
theorem trn_word (bs : List Int) (a : Int) : ∀ (n : Nat) (A : List Int), n ≤ 13 → A.length = 42 → ∀ j < 13, wA (trn bs a n A) j = if 13 - n ≤ j then mix bs a j (wA A j) else wA A j
  | 0, A, _, _, j, hj => by rw [if_neg (by omega)]; rfl
  | n + 1, A, hn, hA, j, hj => by
    have ih := trn_word bs a n (step9 bs a A (12 - n)) (by omega) ((step9_len _ _ _ _).trans hA) j hj
    show wA (trn bs a n (step9 bs a A (12 - n))) j = _
    rw [ih]
    by_cases h : j = 12 - n
    · rw [if_neg (by omega), if_pos (by omega), h]
      exact step9_word bs a A (12 - n) hA (by omega)
    · rw [step9_other bs a A (12 - n) j h]
      by_cases h2 : 13 - n ≤ j
      · rw [if_pos h2, if_pos (by omega)]
      · rw [if_neg h2, if_neg (by omega)]
/-! ### what is read -/
section
variable (l bs : List Int) (mg cd a : Int)
theorem put_all : ∀ j < 16, 0 ≤ putL.getD j 0 ∧ putL.getD j 0 < 256 := by decide
theorem put_in (n : Int) : 0 ≤ put n ∧ put n < 256 := put_all _ (by omega)
noncomputable def TT : List Int := trn bs a (13 - (0 : Int).toNat) (AT l mg cd)
theorem AT_len : (AT l mg cd).length = 42 := rfl
theorem TT_len : (TT l bs mg cd a).length = 42 := (trn_len bs a _ _).trans (AT_len l mg cd)
theorem AT_in : ∀ x ∈ AT l mg cd, 0 ≤ x ∧ x < 256 := by
  intro x hx
  unfold AT LT at hx
  simp only [List.mem_cons, List.mem_append] at hx
  rcases hx with rfl | rfl | rfl | h | h | h | h | h | h | h | h | h | h | h | h | h
  · exact put_in _
  · exact put_in _
  · exact put_in _
  all_goals exact tw_in _ x h
theorem get_L42 (X : List Int) (h : X.length = 42) : tk (L42 X) = X := by
  unfold tk
  rw [L42_eq X h, List.drop_zero, ← h, List.take_length]
theorem BT_eq : BT l bs mg cd a = TT l bs mg cd a := get_L42 _ (TT_len l bs mg cd a)
theorem TT_head (p : Nat) (h : p < 3) : (TT l bs mg cd a).getD p 0 = (AT l mg cd).getD p 0 := trn_head bs a p h _ _
theorem getD_drop9 (X : List Int) (m p : Nat) : (X.drop m).getD p 0 = X.getD (m + p) 0 := by
  rw [List.getD_eq_getElem?_getD, List.getD_eq_getElem?_getD, List.getElem?_drop]
theorem ds_len : (dsT (BT l bs mg cd a)).length = 39 := rfl
theorem ds_eq : dsT (BT l bs mg cd a) = (TT l bs mg cd a).drop 3 := by
  have hl := TT_len l bs mg cd a
  rw [BT_eq]
  unfold dsT
  show List.take 39 (List.drop 0 (((TT l bs mg cd a).drop 2).drop 1)) = _
  have e : List.drop 0 (((TT l bs mg cd a).drop 2).drop 1) = ((TT l bs mg cd a).drop 2).drop 1 := rfl
  rw [e, List.drop_drop, List.take_of_length_le (by rw [List.length_drop]; omega)]
theorem wK_eq (j : Nat) : wK (dsT (BT l bs mg cd a)) j = wA (TT l bs mg cd a) j := by
  unfold wK wA
  rw [ds_eq, getD_drop9, getD_drop9, getD_drop9]
  rfl
theorem num_in : mustNum (dsT (BT l bs mg cd a)) := by
  refine ⟨by rw [ds_len]; decide, by rw [ds_len]; decide, fun x hx => ?_⟩
  rw [ds_eq] at hx
  exact trn_in bs a _ _ (AT_in l mg cd) x (List.mem_of_mem_drop hx)
theorem wA_0 : wA (AT l mg cd) 0 = wR (rowX (l.getD 0 0)) := ham.low_eq _ (ham.wordv_code _).high
theorem wA_1 : wA (AT l mg cd) 1 = wR (rowX (l.getD 1 0)) := ham.low_eq _ (ham.wordv_code _).high
theorem wA_2 : wA (AT l mg cd) 2 = wR (rowX (l.getD 2 0)) := ham.low_eq _ (ham.wordv_code _).high
theorem wA_3 : wA (AT l mg cd) 3 = wR (rowX (l.getD 3 0)) := ham.low_eq _ (ham.wordv_code _).high
theorem wA_4 : wA (AT l mg cd) 4 = wR (rowX (l.getD 4 0)) := ham.low_eq _ (ham.wordv_code _).high
theorem wA_5 : wA (AT l mg cd) 5 = wR (rowX (l.getD 5 0)) := ham.low_eq _ (ham.wordv_code _).high
theorem wA_6 : wA (AT l mg cd) 6 = wR (rowX (l.getD 6 0)) := ham.low_eq _ (ham.wordv_code _).high
theorem wA_7 : wA (AT l mg cd) 7 = wR (rowX (l.getD 7 0)) := ham.low_eq _ (ham.wordv_code _).high
theorem wA_8 : wA (AT l mg cd) 8 = wR (rowX (l.getD 8 0)) := ham.low_eq _ (ham.wordv_code _).high
theorem wA_9 : wA (AT l mg cd) 9 = wR (rowX (l.getD 9 0)) := ham.low_eq _ (ham.wordv_code _).high
theorem wA_10 : wA (AT l mg cd) 10 = wR (rowX (l.getD 10 0)) := ham.low_eq _ (ham.wordv_code _).high
theorem wA_11 : wA (AT l mg cd) 11 = wR (rowX (l.getD 11 0)) := ham.low_eq _ (ham.wordv_code _).high
theorem wA_12 : wA (AT l mg cd) 12 = wR (rowX (l.getD 12 0)) := ham.low_eq _ (ham.wordv_code _).high
theorem wA_all (j : Nat) (h : j < 13) : wA (AT l mg cd) j = wR (rowX (l.getD j 0)) := by
  have h13 : j = 0 ∨ j = 1 ∨ j = 2 ∨ j = 3 ∨ j = 4 ∨ j = 5 ∨ j = 6 ∨ j = 7 ∨ j = 8 ∨ j = 9 ∨ j = 10 ∨ j = 11 ∨ j = 12 := by omega
  rcases h13 with rfl | rfl | rfl | rfl | rfl | rfl | rfl | rfl | rfl | rfl | rfl | rfl | rfl
  · exact wA_0 l mg cd
  · exact wA_1 l mg cd
  · exact wA_2 l mg cd
  · exact wA_3 l mg cd
  · exact wA_4 l mg cd
  · exact wA_5 l mg cd
  · exact wA_6 l mg cd
  · exact wA_7 l mg cd
  · exact wA_8 l mg cd
  · exact wA_9 l mg cd
  · exact wA_10 l mg cd
  · exact wA_11 l mg cd
  · exact wA_12 l mg cd
theorem word_read (j : Nat) (h : j < 13) : wK (dsT (BT l bs mg cd a)) j = mix bs a j (wR (rowX (l.getD j 0))) := by
  rw [wK_eq]
  unfold TT
  rw [trn_word bs a _ _ (by decide) (AT_len l mg cd) j h, if_pos (by show 13 - 13 ≤ j; omega), wA_all l mg cd j h]
theorem good_read (j : Nat) (h : j < 13) : gK (dsT (BT l bs mg cd a)) j = !decide ((j : Int) = a) := by
  have hk := k9_in bs j
  have hc : ham.Code (wR (rowX (l.getD j 0))) := ham.wordv_code _
  unfold gK
  rw [word_read l bs mg cd a j h]
  unfold mix
  by_cases hj : (j : Int) = a
  · rw [dT hj, show ((j : Int) == a) = true by simpa using hj]
    show ham.getB (wR (rowX (l.getD j 0)) ^^^ BitVec.twoPow 32 (k9 bs j) ^^^ BitVec.twoPow 32 ((k9 bs j + 1) % 24)) = false
    rw [hc.get2 hk (by omega)]
    exact dF (by omega)
  · rw [dF hj, show ((j : Int) == a) = false by simpa using hj]
    exact (hc.get1 hk).1
theorem num_read (j : Nat) (h : j < 13) (hj : (j : Int) ≠ a) : rowX (nK (dsT (BT l bs mg cd a)) j) = rowX (l.getD j 0) := by
  have hk := k9_in bs j
  have hc : ham.Code (wR (rowX (l.getD j 0))) := ham.wordv_code _
  unfold nK
  rw [word_read l bs mg cd a j h]
  unfold mix
  rw [show ((j : Int) == a) = false by simpa using hj]
  show rowX (i64 (ham.getN (wR (rowX (l.getD j 0)) ^^^ BitVec.twoPow 32 (k9 bs j)))) = _
  have hn := nR_rowX (l.getD j 0)
  rw [(hc.get1 hk).2]
  unfold wR
  rw [ham.dat_word (by omega) (by omega), rowX_nR]
theorem alike_all (j : Nat) (h : j < 13) : alike9 (WT l) (XT (dsT (BT l bs mg cd a))) (GT (dsT (BT l bs mg cd a))) a j := by
  have g := good_read l bs mg cd a j h
  have n := num_read l bs mg cd a j h
  generalize dsT (BT l bs mg cd a) = ds at g n
  have key : ∀ (x y : List Sc) (b : Bool), (XT ds).getD j [] = x → (WT l).getD j [] = y → bR9 (GT ds) j = b → b = gK ds j → x = rowX (nK ds j) → y = rowX (l.getD j 0) → alike9 (WT l) (XT ds) (GT ds) a j := by
    intro x y b hx hy hb hb2 hx2 hy2
    refine ⟨by rw [hb, hb2, g], fun hj c _ => ?_⟩
    unfold vR9
    rw [hx, hy, hx2, hy2, n hj]
  have h13 : j = 0 ∨ j = 1 ∨ j = 2 ∨ j = 3 ∨ j = 4 ∨ j = 5 ∨ j = 6 ∨ j = 7 ∨ j = 8 ∨ j = 9 ∨ j = 10 ∨ j = 11 ∨ j = 12 := by omega
  rcases h13 with rfl | rfl | rfl | rfl | rfl | rfl | rfl | rfl | rfl | rfl | rfl | rfl | rfl <;> exact key _ _ _ rfl rfl rfl rfl rfl rfl
theorem rd_all (hg : 1 ≤ mg ∧ mg ≤ 8) : mustRd (BT l bs mg cd a) ∧ raT (BT l bs mg cd a) = 26 ∧ getN (((BT l bs mg cd a).drop 2).getD 0 0) = cd % 16 := by
  have ha := adr_of (M := mg) (r := 26) ⟨hg.1, hg.2, by decide, by decide⟩
  have hl := TT_len l bs mg cd a
  have h0 : (TT l bs mg cd a).getD 0 0 = adr0 mg 26 := TT_head l bs mg cd a 0 (by decide)
  have h1 : (TT l bs mg cd a).getD 1 0 = adr1 26 := TT_head l bs mg cd a 1 (by decide)
  have h2 : (TT l bs mg cd a).getD 2 0 = put cd := TT_head l bs mg cd a 2 (by decide)
  rw [BT_eq]
  have e : raT (TT l bs mg cd a) = 26 := by
    unfold raT
    rw [h0, h1]
    exact ha.2
  refine ⟨⟨hl, ?_, ?_, ?_, ?_⟩, e, ?_⟩
  · rw [h0]; unfold adr0; exact getB_put _
  · rw [h1]; unfold adr1; exact getB_put _
  · rw [e]; exact ⟨by decide, by decide⟩
  · rw [getD_drop9, h2]; exact getB_put cd
  · rw [getD_drop9, h2]; exact getN_put cd
theorem body_in (hg : 1 ≤ mg ∧ mg ≤ 8) (hc : 0 ≤ cd ∧ cd < 16) : bodyB l bs mg cd a isT := by
  have rd := rd_all l bs mg cd a hg
  refine ⟨⟨hg, by omega, .inl rfl⟩, ⟨AT_len l mg cd, rfl, by decide, by decide⟩, rd.1, ⟨by rw [rd.2.1]; rfl, num_in l bs mg cd a⟩, selF ?_ ⟨⟨⟨rfl, rfl, rfl⟩, ⟨rfl, rfl, rfl⟩, by decide, by decide, fun j _ hj => alike_all l bs mg cd a j hj⟩, rfl⟩⟩
  rw [rd.2.2, show cd % 16 = cd by omega]
  simp [bne]
end
theorem tback_true (n c a : Int) (l bs : List Int) : Box ((t_tback [.c (.i .i64 n), .c (.i .i64 c), .c (.l .i64 l), .c (.l .i64 bs), .c (.i .i64 a)] []).run isT) := by
  refine Box.of_eq (tback_tree n c a l bs isT) ?_
  by_cases hl : l.length = 13
  · exact selF (by simp [bne, hl]) ⟨⟨by decide, by decide⟩, ⟨by decide, by decide⟩, ⟨by decide, by decide⟩, selT (dT (by omega)) (selT (dT (by omega)) (selT (dT (by omega)) (selT (dT (by omega)) (selT (dT (by omega)) (selT (dT (by omega)) (selT (dT (by omega)) (selT (dT (by omega)) (selT (dT (by omega)) (selT (dT (by omega)) (selT (dT (by omega)) (selT (dT (by omega)) (selT (dT (by omega)) (selT (dT (by omega)) (selT (dT (by omega)) (selT (dT (by omega)) (selT (dT (by omega)) (selT (dT (by omega)) (selT (dT (by omega)) (selT (dT (by omega)) (selT (dT (by omega)) (selT (dT (by omega)) (selT (dT (by omega)) (selT (dT (by omega)) (selT (dT (by omega)) (selT (dT (by omega)) (body_in l bs _ _ _ (wrap8_in n) ⟨by omega, by omega⟩))))))))))))))))))))))))))⟩
  · exact selT (by rw [bne_iff_ne]; omega) rfl
def shsTB : List Sh := [.i .i64, .i .i64, .row .i64, .row .i64, .i .i64]
theorem tback_law (xs : List NV) (h : R2 ShOk shsTB xs) : Holds (t_tback xs []) fun o => o.res = .v (.c (.b true)) := by
  cases h with
  | cons h1 h =>
    cases h with
    | cons h2 h =>
      cases h with
      | cons h3 h =>
        cases h with
        | cons h4 h =>
          cases h with
          | cons h5 h =>
            cases h
            cases h1 with
            | @i _ n1 _ =>
              cases h2 with
              | @i _ n2 _ =>
                cases h3 with
                | @row _ l _ =>
                  cases h4 with
                  | @row _ bs _ =>
                    cases h5 with
                    | @i _ n5 _ => exact box_holds (R := isT) (tback_true n1 n2 n5 l bs)
end Go.Proofs.YthjdlanmfiofdaaDoor.tr
