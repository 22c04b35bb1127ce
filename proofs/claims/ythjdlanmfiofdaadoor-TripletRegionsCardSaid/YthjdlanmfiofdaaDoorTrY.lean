/-
  TripletRegions: the law.
-/
import Derived.Test.YthjdlanmfiofdaaDoorTrX
import Derived.Test.YthjdlanmfiofdaaDoorEng24
namespace Go.Proofs.YthjdlanmfiofdaaDoor.tr
open Go Go.Nx Go.Proofs.YthjdlanmfiofdaaDoor.pk Go.Proofs.YthjdlanmfiofdaaDoor.ln Go.Proofs.YthjdlanmfiofdaaDoor.hd

def mustN (m : Int) : Prop := 0 < m ∧ m < 4611686018427387904
noncomputable def rowX (X : Int) : List Sc := [Sc.i (aI X 63), Sc.i (aI (shrv .i64 X 6) 31), Sc.i (aI (shrv .i64 X 11) 127)]
def row0 : List Sc := [Sc.i 0, Sc.i 0, Sc.i 0]
noncomputable def bsT (mg row cd X : Int) : List Int := adr0 mg row :: adr1 row :: LT cd (rowX X) (rowX 9999) row0 row0 row0 row0 row0 row0 row0 row0 row0 row0 row0
noncomputable def bsS (mg row cd X : Int) : List Int := setI (bsT mg row cd X) (0 + (3 : Int).toNat) (x8 ((bsT mg row cd X).getD (0 + (3 : Int).toNat) 0) 3) 0
noncomputable def tk (L : List Int) : List Int := List.take 42 (List.drop 0 L)
noncomputable def dsT (bs : List Int) : List Int := List.take 39 (List.drop 0 ((bs.drop 2).drop 1))
def mustTB (mg cd row : Int) : Prop := (1 ≤ mg ∧ mg ≤ 8) ∧ (0 ≤ cd ∧ cd ≤ 15) ∧ (row = 26 ∨ row = 28 ∨ row = 29)
def mustRd (bs : List Int) : Prop := bs.length = 42 ∧ getB (bs.getD 0 0) = true ∧ getB (bs.getD 1 0) = true ∧ (kindF (raT bs) ≠ 0 ∧ raT bs ≥ 26) ∧ getB ((bs.drop 2).getD 0 0) = true
noncomputable def rgOf (bs : List Int) : Bool := regB (kindF (raT bs)) (getN ((bs.drop 2).getD 0 0)) (dsT bs)
noncomputable def finE (b1 b2 : Bool) (r rg : Int) (want : Bool) (R : Out → Prop) : Prop := sel (b1 == want) (sel (!b1) (R (oB (!b2))) (sel (r == rg) (R (oB (!b2))) (R (oB false)))) (R (oB false))
noncomputable def wantE (cd lw : Int) (ns : Bool) (K : Bool → Prop) : Prop := sel (cd == 0) (sel (lw == 0) (K ns) (K false)) (sel (cd == 4) (sel (lw == 0) (K ns) (K false)) (K false))
noncomputable def bodyT2 (mg row cd rg lw X : Int) (B1 : List Int) (ns : Bool) (R : Out → Prop) : Prop :=
  mustTB mg cd row ∧ (mustRd B1 ∧ (mustNum (dsT B1) ∧ (mustTB mg cd 26 ∧ (mustRd (tk (bsT mg 26 cd X)) ∧ (mustNum (dsT (tk (bsT mg 26 cd X))) ∧
    wantE cd lw ns fun want => finE (rgOf B1) (rgOf (tk (bsT mg 26 cd X))) (bif rgOf B1 then regN (dsT B1) else 0) rg want R)))))
noncomputable def wrap8 (n : Int) : Int := IntKind.i64.wrap (n % 8 + 1)
noncomputable def lwN (n : Int) : Int := IntKind.i64.wrap ((n % 4).tdiv 3)
noncomputable def XN (rg lw : Int) : Int := oI (shlv .i64 rg 10) lw
theorem regs_false_false (n1 n2 n3 n4 : Int) (R : Out → Prop) : (t_tregs [.c (.i .i64 n1), .c (.i .i64 n2), .c (.i .i64 n3), .c (.i .i64 n4), .c (.b false), .c (.b false)] []).run R =
    (mustN 8 ∧ (mustN 16 ∧ (mustN 16 ∧ (mustN 4 ∧ bodyT2 (wrap8 n1) 28 (n2 % 16) (n3 % 16) (lwN n4) (XN (n3 % 16) (lwN n4)) (tk (bsT (wrap8 n1) 28 (n2 % 16) (XN (n3 % 16) (lwN n4)))) true R)))) := by kernel_rfl
theorem regs_false_true (n1 n2 n3 n4 : Int) (R : Out → Prop) : (t_tregs [.c (.i .i64 n1), .c (.i .i64 n2), .c (.i .i64 n3), .c (.i .i64 n4), .c (.b false), .c (.b true)] []).run R =
    (mustN 8 ∧ (mustN 16 ∧ (mustN 16 ∧ (mustN 4 ∧ bodyT2 (wrap8 n1) 28 (n2 % 16) (n3 % 16) (lwN n4) (XN (n3 % 16) (lwN n4)) (tk (bsS (wrap8 n1) 28 (n2 % 16) (XN (n3 % 16) (lwN n4)))) false R)))) := by kernel_rfl
theorem regs_true_false (n1 n2 n3 n4 : Int) (R : Out → Prop) : (t_tregs [.c (.i .i64 n1), .c (.i .i64 n2), .c (.i .i64 n3), .c (.i .i64 n4), .c (.b true), .c (.b false)] []).run R =
    (mustN 8 ∧ (mustN 16 ∧ (mustN 16 ∧ (mustN 4 ∧ bodyT2 (wrap8 n1) 29 (n2 % 16) (n3 % 16) (lwN n4) (XN (n3 % 16) (lwN n4)) (tk (bsT (wrap8 n1) 29 (n2 % 16) (XN (n3 % 16) (lwN n4)))) true R)))) := by kernel_rfl
theorem regs_true_true (n1 n2 n3 n4 : Int) (R : Out → Prop) : (t_tregs [.c (.i .i64 n1), .c (.i .i64 n2), .c (.i .i64 n3), .c (.i .i64 n4), .c (.b true), .c (.b true)] []).run R =
    (mustN 8 ∧ (mustN 16 ∧ (mustN 16 ∧ (mustN 4 ∧ bodyT2 (wrap8 n1) 29 (n2 % 16) (n3 % 16) (lwN n4) (XN (n3 % 16) (lwN n4)) (tk (bsS (wrap8 n1) 29 (n2 % 16) (XN (n3 % 16) (lwN n4)))) false R)))) := by kernel_rfl
end Go.Proofs.YthjdlanmfiofdaaDoor.tr

namespace Go.Proofs.YthjdlanmfiofdaaDoor.tr
open Go Go.Nx Go.Proofs.YthjdlanmfiofdaaDoor.pk Go.Proofs.YthjdlanmfiofdaaDoor.ln Go.Proofs.YthjdlanmfiofdaaDoor.hd

def isT (o : Out) : Prop := o.res = .v (.c (.b true))
theorem box_holds {t : Tr Out} {R : Out → Prop} (h : Box (t.run R)) : Holds t R := ⟨h.out⟩
theorem wrap8_in (n : Int) : 1 ≤ wrap8 n ∧ wrap8 n ≤ 8 := by
  unfold wrap8
  rw [IntKind.wrap_i64]
  omega
theorem lwN_in (n : Int) : lwN n = 0 ∨ lwN n = 1 := by
  unfold lwN
  rw [Int.tdiv_eq_ediv_of_nonneg (by omega), IntKind.wrap_i64]
  omega
theorem oI_comm (a b : Int) : oI a b = oI b a := by
  show IntKind.i64.wrap ((BitVec.ofInt 64 a ||| BitVec.ofInt 64 b).toNat : Nat) = IntKind.i64.wrap ((BitVec.ofInt 64 b ||| BitVec.ofInt 64 a).toNat : Nat)
  rw [BitVec.or_comm]
theorem or6 (y x : Int) (hy0 : 0 ≤ y) (hy : y < 64) (hx0 : 0 ≤ x) (hx : x < 65536) : oI y (shlv .i64 x 6) = y + x * 64 := or_parts y x 6 (by decide) hy0 hy hx0 hx
theorem or10 (y x : Int) (hy0 : 0 ≤ y) (hy : y < 1024) (hx0 : 0 ≤ x) (hx : x < 65536) : oI y (shlv .i64 x 10) = y + x * 1024 := or_parts y x 10 (by decide) hy0 hy hx0 hx
theorem or11 (y x : Int) (hy0 : 0 ≤ y) (hy : y < 2048) (hx0 : 0 ≤ x) (hx : x < 65536) : oI y (shlv .i64 x 11) = y + x * 2048 := or_parts y x 11 (by decide) hy0 hy hx0 hx
theorem aI_63 (n : Int) : aI n 63 = n % 64 := and_mask64 n 6 (by decide)
theorem aI_31 (n : Int) : aI n 31 = n % 32 := and_mask64 n 5 (by decide)
theorem aI_127 (n : Int) : aI n 127 = n % 128 := and_mask64 n 7 (by decide)
theorem sh_6 (n : Int) : shrv .i64 n 6 = n / 64 := shrv64 n 6 (by decide)
theorem sh_10 (n : Int) : shrv .i64 n 10 = n / 1024 := shrv64 n 10 (by decide)
theorem sh_11 (n : Int) : shrv .i64 n 11 = n / 2048 := shrv64 n 11 (by decide)
theorem XN_eq (rg lw : Int) (hr : 0 ≤ rg ∧ rg < 16) (hl : 0 ≤ lw ∧ lw < 2) : XN rg lw = rg * 1024 + lw := by
  unfold XN
  rw [oI_comm, or10 _ _ (by omega) (by omega) (by omega) (by omega)]
  omega
theorem nR_rowX (X : Int) (h : 0 ≤ X ∧ X < 262144) : nR (rowX X) = X := by
  show oI (oI (aI (aI X 63) 63) (shlv .i64 (aI (aI (shrv .i64 X 6) 31) 31) 6)) (shlv .i64 (aI (aI (shrv .i64 X 11) 127) 127) 11) = X
  rw [aI_63, aI_63, aI_31, aI_31, aI_127, aI_127, sh_6, sh_11, or6 _ _ (by omega) (by omega) (by omega) (by omega), or11 _ _ (by omega) (by omega) (by omega) (by omega)]
  omega
theorem tw_in (r : List Sc) : ∀ x ∈ tw r, 0 ≤ x ∧ x < 256 := by
  intro x hx
  unfold tw at hx
  simp only [List.mem_cons, List.not_mem_nil, or_false] at hx
  rcases hx with rfl | rfl | rfl <;> exact ham.u8_fits _
noncomputable def tl : List Int := tw (rowX 9999) ++ (tw row0 ++ (tw row0 ++ (tw row0 ++ (tw row0 ++ (tw row0 ++ (tw row0 ++ (tw row0 ++ (tw row0 ++ (tw row0 ++ (tw row0 ++ tw row0))))))))))
theorem tl_in : ∀ x ∈ tl, 0 ≤ x ∧ x < 256 := by
  intro x hx
  unfold tl at hx
  simp only [List.mem_append] at hx
  rcases hx with h | h | h | h | h | h | h | h | h | h | h | h <;> exact tw_in _ x h
theorem ds_plain (mg row cd X : Int) : dsT (tk (bsT mg row cd X)) = tw (rowX X) ++ tl := rfl
theorem ds_spoilt (mg row cd X : Int) : dsT (tk (bsS mg row cd X)) = x8 (u8 (ham.b0 (wR (rowX X)))) 3 :: u8 (ham.b1 (wR (rowX X))) :: u8 (ham.b2 (wR (rowX X))) :: tl := rfl
theorem num_plain (mg row cd X : Int) : mustNum (dsT (tk (bsT mg row cd X))) := by
  refine ⟨by show 39 ≤ 39; decide, by show 39 < 1000; decide, fun x hx => ?_⟩
  rw [ds_plain, List.mem_append] at hx
  rcases hx with h | h
  · exact tw_in _ x h
  · exact tl_in x h
theorem num_spoilt (mg row cd X : Int) : mustNum (dsT (tk (bsS mg row cd X))) := by
  refine ⟨by show 39 ≤ 39; decide, by show 39 < 1000; decide, fun x hx => ?_⟩
  rw [ds_spoilt] at hx
  simp only [List.mem_cons] at hx
  rcases hx with rfl | rfl | rfl | h
  · exact x8_in _ _
  · exact ham.u8_fits _
  · exact ham.u8_fits _
  · exact tl_in x h
theorem rd_of {mg row cd : Int} {B : List Int} (hg : 1 ≤ mg ∧ mg ≤ 8) (hr : row = 26 ∨ row = 28 ∨ row = 29) (hl : B.length = 42) (h0 : B.getD 0 0 = adr0 mg row) (h1 : B.getD 1 0 = adr1 row) (h2 : (B.drop 2).getD 0 0 = put cd) : mustRd B ∧ raT B = row := by
  have ha := adr_of (M := mg) (r := row) ⟨hg.1, hg.2, by omega, by omega⟩
  have e : raT B = row := by
    unfold raT
    rw [h0, h1]
    exact ha.2
  refine ⟨⟨hl, ?_, ?_, ?_, ?_⟩, e⟩
  · rw [h0]; unfold adr0; exact getB_put _
  · rw [h1]; unfold adr1; exact getB_put _
  · rw [e]
    rcases hr with rfl | rfl | rfl <;> exact ⟨by decide, by decide⟩
  · rw [h2]; exact getB_put cd
/-- The first triplet's word. -/
theorem word_plain (X : Int) (h : 0 ≤ X ∧ X < 262144) : ham.getB (wK (tw (rowX X) ++ tl) 0) = true ∧ i64 (ham.getN (wK (tw (rowX X) ++ tl) 0)) = X := by
  have hc : ham.Code (wR (rowX X)) := ham.wordv_code _
  have e : wK (tw (rowX X) ++ tl) 0 = wR (rowX X) := ham.low_eq _ hc.high
  rw [e, hc.getB, hc.getN]
  refine ⟨rfl, ?_⟩
  unfold wR
  rw [nR_rowX X h]
  exact ham.dat_word h.1 h.2
theorem word_spoilt (w : BitVec 32) (hc : ham.Code w) (l : List Int) : ham.getB (wK (x8 (u8 (ham.b0 w)) 3 :: u8 (ham.b1 w) :: u8 (ham.b2 w) :: l) 0) = false := by
  have hh : ∀ i, 24 ≤ i → (w ^^^ BitVec.twoPow 32 0 ^^^ BitVec.twoPow 32 1).getLsbD i = false := ham.high_xor (ham.high_xor hc.high (ham.bit_high (by decide))) (ham.bit_high (by decide))
  have e0 : ham.b0 (w ^^^ BitVec.twoPow 32 0 ^^^ BitVec.twoPow 32 1) = ham.b0 w ^^^ 3#8 := by
    rw [ham.b0_xor, ham.b0_xor, BitVec.xor_assoc]
    congr 1
  have e1 : ham.b1 (w ^^^ BitVec.twoPow 32 0 ^^^ BitVec.twoPow 32 1) = ham.b1 w := by
    rw [ham.b1_xor, ham.b1_xor, BitVec.xor_assoc, show ham.b1 (BitVec.twoPow 32 0) ^^^ ham.b1 (BitVec.twoPow 32 1) = 0#8 by decide +kernel, BitVec.xor_zero]
  have e2 : ham.b2 (w ^^^ BitVec.twoPow 32 0 ^^^ BitVec.twoPow 32 1) = ham.b2 w := by
    rw [ham.b2_xor, ham.b2_xor, BitVec.xor_assoc, show ham.b2 (BitVec.twoPow 32 0) ^^^ ham.b2 (BitVec.twoPow 32 1) = 0#8 by decide +kernel, BitVec.xor_zero]
  have e : wK (x8 (u8 (ham.b0 w)) 3 :: u8 (ham.b1 w) :: u8 (ham.b2 w) :: l) 0 = w ^^^ BitVec.twoPow 32 0 ^^^ BitVec.twoPow 32 1 := by
    show ham.w3 (BitVec.ofInt 8 (x8 (u8 (ham.b0 w)) 3)) (BitVec.ofInt 8 (u8 (ham.b1 w))) (BitVec.ofInt 8 (u8 (ham.b2 w))) = _
    have hx : x8 (u8 (ham.b0 w)) 3 = u8 (ham.b0 w ^^^ 3#8) := by
      unfold x8
      rw [bits_u8, bvop_xor, ofInt_u8_8]
      rfl
    rw [hx, ofInt_u8_8, ofInt_u8_8, ofInt_u8_8, ← e0, ← e1, ← e2]
    conv => lhs; rw [e1, e2]
    rw [← e1, ← e2]
    exact ham.w3_b _ hh
  rw [e, hc.get2 (i := 0) (k := 1) (by decide) (by decide)]
  rfl
theorem fin_in {b1 b2 want : Bool} {r rg : Int} (h : b1 = want) (h2 : b2 = false) (hr : b1 = true → r = rg) : finE b1 b2 r rg want isT := by
  subst h h2
  refine selT (beq_self_eq_true b1) ?_
  cases b1 with
  | false => exact selT rfl rfl
  | true => exact selF rfl (selT (by rw [hr rfl]; exact beq_self_eq_true rg) rfl)
theorem want_in {cd lw : Int} {ns : Bool} {K : Bool → Prop} (h : K ((cd == 0 || cd == 4) && ((lw == 0) && ns))) : wantE cd lw ns K := by
  unfold wantE
  cases h1 : (cd == 0) with
  | true =>
    rw [h1] at h
    refine selT rfl ?_
    cases h2 : (lw == 0) with
    | true => rw [h2] at h; exact selT rfl h
    | false => rw [h2] at h; exact selF rfl h
  | false =>
    rw [h1] at h
    refine selF rfl ?_
    cases h3 : (cd == 4) with
    | true =>
      rw [h3] at h
      refine selT rfl ?_
      cases h2 : (lw == 0) with
      | true => rw [h2] at h; exact selT rfl h
      | false => rw [h2] at h; exact selF rfl h
    | false => rw [h3] at h; exact selF rfl h
theorem body_of {mg row cd rg lw : Int} {B1 : List Int} {ns : Bool} (hg : 1 ≤ mg ∧ mg ≤ 8) (hc : 0 ≤ cd ∧ cd < 16) (hrow : row = 28 ∨ row = 29) (h1 : mustRd B1) (hn : mustNum (dsT B1)) (hb : rgOf B1 = ((cd == 0 || cd == 4) && ((lw == 0) && ns))) (hr : rgOf B1 = true → regN (dsT B1) = rg) : bodyT2 mg row cd rg lw (XN rg lw) B1 ns isT := by
  have r2 := rd_of (mg := mg) (row := 26) (cd := cd) (B := tk (bsT mg 26 cd (XN rg lw))) hg (.inl rfl) rfl rfl rfl rfl
  have z : rgOf (tk (bsT mg 26 cd (XN rg lw))) = false := by
    unfold rgOf
    rw [r2.2]
    rfl
  refine ⟨⟨hg, by omega, by omega⟩, h1, hn, ⟨hg, by omega, .inl rfl⟩, r2.1, num_plain mg 26 cd _, want_in (fin_in hb z fun h => ?_)⟩
  rw [h]
  exact hr h
theorem kind_56 {row : Int} (h : row = 28 ∨ row = 29) : (kindF row == 5 || kindF row == 6) = true := by rcases h with rfl | rfl <;> decide
theorem plain_in {mg row cd rg lw : Int} (hg : 1 ≤ mg ∧ mg ≤ 8) (hc : 0 ≤ cd ∧ cd < 16) (hrg : 0 ≤ rg ∧ rg < 16) (hl : lw = 0 ∨ lw = 1) (hrow : row = 28 ∨ row = 29) : bodyT2 mg row cd rg lw (XN rg lw) (tk (bsT mg row cd (XN rg lw))) true isT := by
  have r1 := rd_of (mg := mg) (row := row) (cd := cd) (B := tk (bsT mg row cd (XN rg lw))) hg (.inr hrow) rfl rfl rfl rfl
  have hX := XN_eq rg lw hrg (by omega)
  have w := word_plain (XN rg lw) (by omega)
  have hcd : getN (((tk (bsT mg row cd (XN rg lw))).drop 2).getD 0 0) = cd := by
    show getN (put cd) = cd
    rw [getN_put]
    omega
  refine body_of hg hc hrow r1.1 (num_plain mg row cd _) ?_ fun _ => ?_
  · unfold rgOf regB
    rw [r1.2, kind_56 hrow, hcd, ds_plain]
    unfold gK nK
    rw [w.1, w.2, aI_15, hX]
    rcases hl with rfl | rfl
    · rw [show (rg * 1024 + 0) % 16 = 0 by omega]
      rfl
    · rw [show (rg * 1024 + 1) % 16 = 1 by omega]
      rfl
  · unfold regN
    rw [ds_plain]
    unfold nK
    rw [w.2, sh_10, aI_15, hX]
    omega
theorem spoilt_in {mg row cd rg lw : Int} (hg : 1 ≤ mg ∧ mg ≤ 8) (hc : 0 ≤ cd ∧ cd < 16) (hrow : row = 28 ∨ row = 29) : bodyT2 mg row cd rg lw (XN rg lw) (tk (bsS mg row cd (XN rg lw))) false isT := by
  have r1 := rd_of (mg := mg) (row := row) (cd := cd) (B := tk (bsS mg row cd (XN rg lw))) hg (.inr hrow) rfl rfl rfl rfl
  have w := word_spoilt (wR (rowX (XN rg lw))) (ham.wordv_code _) tl
  have z : rgOf (tk (bsS mg row cd (XN rg lw))) = false := by
    unfold rgOf regB
    rw [ds_spoilt]
    unfold gK
    rw [w, Bool.false_and, Bool.and_false, Bool.and_false]
  refine body_of hg hc hrow r1.1 (num_spoilt mg row cd _) ?_ fun h => ?_
  · rw [z, Bool.and_false, Bool.and_false]
  · rw [z] at h
    cases h
theorem regs_true (n1 n2 n3 n4 : Int) (w s : Bool) : Box ((t_tregs [.c (.i .i64 n1), .c (.i .i64 n2), .c (.i .i64 n3), .c (.i .i64 n4), .c (.b w), .c (.b s)] []).run isT) := by
  have m8 : mustN 8 := ⟨by decide, by decide⟩
  have m16 : mustN 16 := ⟨by decide, by decide⟩
  have m4 : mustN 4 := ⟨by decide, by decide⟩
  have hg := wrap8_in n1
  have hl := lwN_in n4
  cases w <;> cases s
  · exact Box.of_eq (regs_false_false n1 n2 n3 n4 isT) ⟨m8, m16, m16, m4, plain_in hg ⟨by omega, by omega⟩ ⟨by omega, by omega⟩ hl (.inl rfl)⟩
  · exact Box.of_eq (regs_false_true n1 n2 n3 n4 isT) ⟨m8, m16, m16, m4, spoilt_in hg ⟨by omega, by omega⟩ (.inl rfl)⟩
  · exact Box.of_eq (regs_true_false n1 n2 n3 n4 isT) ⟨m8, m16, m16, m4, plain_in hg ⟨by omega, by omega⟩ ⟨by omega, by omega⟩ hl (.inr rfl)⟩
  · exact Box.of_eq (regs_true_true n1 n2 n3 n4 isT) ⟨m8, m16, m16, m4, spoilt_in hg ⟨by omega, by omega⟩ (.inr rfl)⟩
def shsR : List Sh := [.i .i64, .i .i64, .i .i64, .i .i64, .b, .b]
theorem regs_law (xs : List NV) (h : R2 ShOk shsR xs) : Holds (t_tregs xs []) fun o => o.res = .v (.c (.b true)) := by
  cases h with
  | cons h1 h =>
    cases h with
    | cons h2 h =>
      cases h with
      | cons h3 h =>
        cases h with
        | cons h4 h =>
          cases h with
          | cons h5 h =>
            cases h with
            | cons h6 h =>
              cases h
              cases h1 with
              | @i _ n1 _ =>
                cases h2 with
                | @i _ n2 _ =>
                  cases h3 with
                  | @i _ n3 _ =>
                    cases h4 with
                    | @i _ n4 _ =>
                      cases h5 with
                      | @b w =>
                        cases h6 with
                        | @b s => exact box_holds (R := isT) (regs_true n1 n2 n3 n4 w s)
end Go.Proofs.YthjdlanmfiofdaaDoor.tr
