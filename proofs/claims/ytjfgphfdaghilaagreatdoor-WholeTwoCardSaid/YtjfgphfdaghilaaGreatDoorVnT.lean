/-
  The law WholeTwo.
-/
import Derived.Test.YtjfgphfdaghilaaGreatDoorVnE
import Derived.Test.YtjfgphfdaghilaaGreatDoorHamV
import Derived.Test.YtjfgphfdaghilaaGreatDoorPkC
set_option linter.unusedVariables false
namespace Go.Proofs.YtjfgphfdaghilaaGreatDoor.two
open Go Go.Nx
open Go.Proofs.YtjfgphfdaghilaaGreatDoor.pk

theorem kgNum : Known Tryz.prog GL 33 num.tNumV := Nx.known_gl num.kNumV
theorem kgPut : Known Tryz.prog GL 29 pk.tPut := Nx.known_gl pk.kPut
theorem kgGet : Known Tryz.prog GL 28 pk.tGet := Nx.known_gl pk.kGet
theorem kgPut24 : Known Tryz.prog GL 30 ham.tPutV := Nx.known_gl ham.kPutV
theorem kgGet24 : Known Tryz.prog GL 31 ham.tGetV := Nx.known_gl ham.kGetV
noncomputable def c_num : FuncId → Option Con := conOf [(33, num.tNumV)]
theorem kc_num : ∀ f T, c_num f = some T → Known Tryz.prog GL f T := (Knowns.cons kgNum .nil).get
noncomputable def t_num : Con := fun args regs => nfun Tryz.prog GL c_num [] Tryz.f9 args regs
theorem k_num : Known Tryz.prog GL 9 t_num := known_inl Tryz.func9 rfl (by kernel_rfl) mixed kc_num (by kernel_rfl)
theorem num_tree (n m : Int) (R : Out → Prop) : (t_num [.c (.i .i64 n), .c (.i .i64 m)] []).run R = ((0 < m ∧ m < 4611686018427387904) ∧ R ⟨.v (.c (.i .i64 (n % m))), []⟩) := by kernel_rfl
theorem kNum2 : Known Tryz.prog GL 9 num.tNumV := by
  refine k_num.less fun args regs R h => Box.out ?_
  unfold num.tNumV at h
  split at h
  case h_2 => exact h.elim
  rename_i n m
  exact Box.of_eq (num_tree n m R) h
noncomputable def c_two : FuncId → Option Con := conOf [(7, vn.tYes), (9, num.tNumV), (29, pk.tPut), (28, pk.tGet), (30, ham.tPutV), (31, ham.tGetV)]
theorem kc_two : ∀ f T, c_two f = some T → Known Tryz.prog GL f T := (Knowns.cons vn.kYes_works (.cons kNum2 (.cons kgPut (.cons kgGet (.cons kgPut24 (.cons kgGet24 .nil)))))).get
noncomputable def t_two : Con := fun args regs => nfun Tryz.prog GL c_two [] Tryz.f6 args regs
theorem k_two : Known Tryz.prog GL 6 t_two := known_inl Tryz.func6 rfl (by kernel_rfl) mixed kc_two (by kernel_rfl)

/-- The three bytes of a word. -/
def L0 (v : BitVec 32) : List Int := [u8 (ham.b0 v), u8 (ham.b1 v), u8 (ham.b2 v)]
def ixB (c : Int) : Int := IntKind.i64.wrap (c.tdiv 8)
def atB (c : Int) : Nat := 0 + (ixB c).toNat
def shB (c : Int) : Int := IntKind.u64.wrap (c.tmod 8)
/-- A bit of three bytes turned. -/
def tB (L : List Int) (c : Int) : List Int := setI L (atB c) (bits .xor .u8 (L.getD (atB c) 0) (shlv .u8 1 (shB c))) 0
def ckB (L : List Int) (c : Int) (N : Prop) : Prop := sel (decide (0 ≤ ixB c)) (sel (decide (ixB c < 3)) (sel (decide (atB c < L.length)) N False) False) False
def stB (L : List Int) (c : Int) (N : Prop) : Prop := ckB L c (sel (decide (0 ≤ shB c)) (ckB L c N) False)
def InNum (m : Int) : Prop := 0 < m ∧ m < 4611686018427387904
def In64 (n : Int) : Prop := -9223372036854775808 ≤ n ∧ n < 9223372036854775808
def In8 (L : List Int) : Prop := (0 ≤ L.getD 0 0 ∧ L.getD 0 0 < 256) ∧ (0 ≤ L.getD 1 0 ∧ L.getD 1 0 < 256) ∧ (0 ≤ L.getD 2 0 ∧ L.getD 2 0 < 256)
def other (c e m : Int) : Int := (IntKind.i64.wrap (IntKind.i64.wrap (c + 1) + e)).tmod m
def turned (n a b : Int) : Int := bits .xor .u8 (bits .xor .u8 (put n) (shlv .u8 1 (IntKind.u64.wrap a))) (shlv .u8 1 (IntKind.u64.wrap b))
def wL (L : List Int) : BitVec 32 := ham.w3 (BitVec.ofInt 8 (L.getD 0 0)) (BitVec.ofInt 8 (L.getD 1 0)) (BitVec.ofInt 8 (L.getD 2 0))
def L2 (n c d : Int) : List Int := tB (tB (L0 (ham.wordv (BitVec.ofInt 64 n))) c) d
def oB (x : Bool) : Out := ⟨.v (.c (.b x)), []⟩
set_option maxRecDepth 100000 in
theorem two_tree (n i k : Int) (R : Out → Prop) : (t_two [.c (.i .i64 n), .c (.i .i64 i), .c (.i .i64 k)] []).run R =
    (InNum 8 ∧ (InNum 7 ∧ sel (decide (0 ≤ IntKind.u64.wrap (i % 8))) (sel (decide (0 ≤ IntKind.u64.wrap (other (i % 8) (k % 7) 8))) (InNum 24 ∧ (InNum 23 ∧ (In64 n ∧
      stB (L0 (ham.wordv (BitVec.ofInt 64 n))) (i % 24) (stB (tB (L0 (ham.wordv (BitVec.ofInt 64 n))) (i % 24)) (other (i % 24) (k % 23) 24)
        (In8 (L2 n (i % 24) (other (i % 24) (k % 23) 24)) ∧ sel (!getB (turned n (i % 8) (other (i % 8) (k % 7) 8))) (R (oB (!ham.getB (wL (L2 n (i % 24) (other (i % 24) (k % 23) 24)))))) (R (oB false))))))) False) False)) := by kernel_rfl
theorem two8 : ∀ m < 16, ∀ a < 8, ∀ e < 7, (0 ≤ IntKind.u64.wrap (Int.ofNat a) ∧ 0 ≤ IntKind.u64.wrap (other (Int.ofNat a) (Int.ofNat e) 8)) ∧ getB (turned (Int.ofNat m) (Int.ofNat a) (other (Int.ofNat a) (Int.ofNat e) 8)) = false := by decide +kernel
theorem ck_all : ∀ c < 24, 0 ≤ ixB (Int.ofNat c) ∧ ixB (Int.ofNat c) < 3 ∧ atB (Int.ofNat c) < 3 ∧ 0 ≤ shB (Int.ofNat c) := by decide +kernel
theorem ot_all : ∀ c < 24, ∀ e < 23, other (Int.ofNat c) (Int.ofNat e) 24 = Int.ofNat ((c + 1 + e) % 24) ∧ ¬ c = (c + 1 + e) % 24 := by decide +kernel
theorem ofN {x m : Int} (hm : 0 < m) : x % m = Int.ofNat (x % m).toNat ∧ (x % m).toNat < m.toNat := by
  have h0 := Int.emod_nonneg x (b := m) (by omega)
  have h1 := Int.emod_lt_of_pos x hm
  exact ⟨by show x % m = (((x % m).toNat : Nat) : Int); omega, by omega⟩
def t1 (a : Int) (j : Nat) : Int := bits .xor .u8 a (shlv .u8 1 (j : Int))
def threeI (a b c : Int) (k : Nat) : List Int := if k < 8 then [t1 a k, b, c] else if k < 16 then [a, t1 b (k - 8), c] else [a, b, t1 c (k - 16)]
theorem tB_three (a b c : Int) (k : Nat) (h : k < 24) : tB [a, b, c] (Int.ofNat k) = threeI a b c k := by
  rcases ham.below24 h with e | e | e | e | e | e | e | e | e | e | e | e | e | e | e | e | e | e | e | e | e | e | e | e <;> subst e <;> kernel_rfl
theorem t1_bv (v : BitVec 8) : ∀ j < 8, t1 (u8 v) j = u8 (v ^^^ BitVec.twoPow 8 j) := by
  have e : ∀ j : Nat, j < 8 → BitVec.ofInt 8 (shlv .u8 1 (j : Int)) = BitVec.twoPow 8 j := by decide +kernel
  intro j hj
  unfold t1
  rw [bits_u8, bvop_xor, ofInt_u8_8, e j hj]
theorem three_L0 (a b c : BitVec 8) (k : Nat) (h : k < 24) : threeI (u8 a) (u8 b) (u8 c) k = L0 (ham.w3 a b c ^^^ BitVec.twoPow 32 k) := by
  unfold L0 threeI
  have e := ham.one_b k h
  rw [ham.b0_xor, ham.b1_xor, ham.b2_xor, e.1, e.2.1, e.2.2, ham.b0_w3, ham.b1_w3, ham.b2_w3]
  by_cases h1 : k < 8
  · simp only [if_pos h1]
    rw [t1_bv a k h1]
    simp
  · simp only [if_neg h1]
    by_cases h2 : k < 16
    · simp only [if_pos h2]
      rw [t1_bv b (k - 8) (by omega)]
      simp
    · simp only [if_neg h2]
      rw [t1_bv c (k - 16) (by omega)]
      simp
theorem tB_bv {v : BitVec 32} (hv : ∀ i, 24 ≤ i → v.getLsbD i = false) (k : Nat) (h : k < 24) : tB (L0 v) (Int.ofNat k) = L0 (v ^^^ BitVec.twoPow 32 k) := by
  have e := tB_three (u8 (ham.b0 v)) (u8 (ham.b1 v)) (u8 (ham.b2 v)) k h
  rw [three_L0 _ _ _ k h, ham.w3_b v hv] at e
  exact e
theorem In8_L0 (v : BitVec 32) : In8 (L0 v) := ⟨ham.u8_fits _, ham.u8_fits _, ham.u8_fits _⟩
theorem wL_L0 {v : BitVec 32} (hv : ∀ i, 24 ≤ i → v.getLsbD i = false) : wL (L0 v) = v := by
  show ham.w3 (BitVec.ofInt 8 (u8 (ham.b0 v))) (BitVec.ofInt 8 (u8 (ham.b1 v))) (BitVec.ofInt 8 (u8 (ham.b2 v))) = v
  rw [ofInt_u8_8, ofInt_u8_8, ofInt_u8_8, ham.w3_b v hv]
theorem selT' {c : Bool} {p q : Prop} (hc : c = true) (h : p) : sel c p q := sel_iff.2 (.inl ⟨hc, h⟩)
theorem ckB_in {L : List Int} {k : Nat} {N : Prop} (h : k < 24) (hL : L.length = 3) (hN : N) : ckB L (Int.ofNat k) N := by
  obtain ⟨h1, h2, h3, h4⟩ := ck_all k h
  exact selT' (decide_eq_true h1) (selT' (decide_eq_true h2) (selT' (decide_eq_true (by rw [hL]; exact h3)) hN))
theorem stB_in {L : List Int} {k : Nat} {N : Prop} (h : k < 24) (hL : L.length = 3) (hN : N) : stB L (Int.ofNat k) N :=
  ckB_in h hL (selT' (decide_eq_true (ck_all k h).2.2.2) (ckB_in h hL hN))
set_option maxRecDepth 100000 in
theorem two_in (n i k : Int) (hn : In64 n) (R : Out → Prop) (hR : R (oB true)) : Box ((t_two [.c (.i .i64 n), .c (.i .i64 i), .c (.i .i64 k)] []).run R) := by
  refine Box.of_eq (two_tree n i k R) ?_
  obtain ⟨ea, la⟩ := ofN (x := i) (m := 8) (by decide)
  obtain ⟨ee, le⟩ := ofN (x := k) (m := 7) (by decide)
  obtain ⟨ec, lc⟩ := ofN (x := i) (m := 24) (by decide)
  obtain ⟨ef, lf⟩ := ofN (x := k) (m := 23) (by decide)
  obtain ⟨em, lm⟩ := ofN (x := n) (m := 16) (by decide)
  generalize (i % 8).toNat = a at *
  generalize (k % 7).toNat = e at *
  generalize (i % 24).toNat = c at *
  generalize (k % 23).toNat = f at *
  generalize (n % 16).toNat = m at *
  rw [ea, ee, ec, ef]
  obtain ⟨⟨q1, q2⟩, q3⟩ := two8 m lm a la e le
  have ht : turned n (Int.ofNat a) (other (Int.ofNat a) (Int.ofNat e) 8) = turned (Int.ofNat m) (Int.ofNat a) (other (Int.ofNat a) (Int.ofNat e) 8) := by
    unfold turned
    rw [← em, put_16]
  obtain ⟨o1, o2⟩ := ot_all c lc f lf
  rw [ht, q3, o1]
  have ld : (c + 1 + f) % 24 < 24 := Nat.mod_lt _ (by decide)
  generalize (c + 1 + f) % 24 = d at *
  have hc : ham.Code (ham.wordv (BitVec.ofInt 64 n)) := ham.wordv_code _
  unfold L2
  generalize ham.wordv (BitVec.ofInt 64 n) = v at *
  have lc' : c < 24 := lc
  have e1 := tB_bv hc.high c lc'
  have h1 := ham.high_xor hc.high (ham.bit_high lc')
  have e2 := tB_bv h1 d ld
  have h2 := ham.high_xor h1 (ham.bit_high ld)
  rw [e1, e2, wL_L0 h2, hc.get2 lc' ld, decide_eq_false o2]
  have n8 : InNum 8 := ⟨by decide, by decide⟩
  have n7 : InNum 7 := ⟨by decide, by decide⟩
  have n24 : InNum 24 := ⟨by decide, by decide⟩
  have n23 : InNum 23 := ⟨by decide, by decide⟩
  exact ⟨n8, n7, selT' (decide_eq_true q1) (selT' (decide_eq_true q2) ⟨n24, n23, hn, stB_in lc' rfl (stB_in ld rfl ⟨In8_L0 _, selT' rfl hR⟩)⟩)⟩
section
attribute [local irreducible] t_two
theorem two_holds (n i k : Int) (hn : In64 n) : Holds (t_two [.c (.i .i64 n), .c (.i .i64 i), .c (.i .i64 k)] []) fun o => o.res = .v (.c (.b true)) := ⟨Box.out (two_in n i k hn _ rfl)⟩
end
def shsT : List Sh := [.i .i64, .i .i64, .i .i64]
theorem two_law (xs : List NV) (h : R2 ShOk shsT xs) : Holds (t_two xs []) fun o => o.res = .v (.c (.b true)) := by
  cases h with
  | cons h1 h =>
    cases h with
    | cons h2 h =>
      cases h with
      | cons h3 h =>
        cases h
        cases h2
        cases h3
        cases h1 with
        | i hw =>
          refine two_holds _ _ _ ?_
          simp [Lit.wf, IntKind.min, IntKind.max, IntKind.signed, IntKind.bits] at hw
          exact ⟨by omega, by omega⟩
end Go.Proofs.YtjfgphfdaghilaaGreatDoor.two
