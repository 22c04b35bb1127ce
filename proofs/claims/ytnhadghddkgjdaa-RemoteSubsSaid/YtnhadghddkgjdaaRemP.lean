/-
  The law RemoteDigits.
-/
import Derived.Test.YtnhadghddkgjdaaRemO
import Derived.Test.YtnhadghddkgjdaaRemN
import Derived.Test.YtnhadghddkgjdaaEng24
set_option linter.unusedVariables false
namespace Go.Proofs.Ytnhadghddkgjdaa.rem
open Go Go.Nx Go.Proofs.Ytnhadghddkgjdaa.bld Go.RowKit

noncomputable abbrev fDigits := Try.f3
noncomputable def cDig (j : Nat) : FuncId → Option Con := conOf [(16, tNumR j), (18, tKeyM), (17, t_start), (19, t_same), (15, tYes), (20, t_lineS)]
theorem kcDig (j : Nat) : ∀ f T, cDig j f = some T → Known Try.prog [] f T := (Knowns.cons (kNumR j) (.cons kKeyM (.cons k_start (.cons k_same (.cons kYes (.cons k_lineS .nil)))))).get
noncomputable def XDig (j : Nat) : Cx := { P := Try.prog, con := cDig j, glob := [], m := 0, loops := [] }
def ls6 : List (List Sc) := List.replicate 6 [.i 0, .i 0, .i 0]
noncomputable def sD (a b c : Int) (xs : List Int) (r : Bool) (i : Int) : St := { fr := frame 170 [(0, .v (.c (.i .i64 a))), (1, .v (.c (.i .i64 b))), (2, .v (.c (.i .i64 c))), (3, .v (.c (.l .i64 xs))), (9, .v (.c (.b true))), (10, .v (.c (.p 0 0 0))), (11, .v (.c (.p 1 0 0))), (12, .v (.c (.i .i64 i)))], rg := [some lnks, some (rst 1 0 16255 false r false)] }
noncomputable def dD (a b c : Int) (r : Bool) : St := { fr := frame 170 [(0, .v (.c (.i .i64 a))), (1, .v (.c (.i .i64 b))), (2, .v (.c (.i .i64 c))), (9, .v (.c (.b true))), (10, .v (.c (.p 0 0 0))), (11, .v (.c (.p 1 0 0)))], rg := [some lnks, some (rst 1 0 16255 false r false)] }
noncomputable def oD1 (a b c : Int) (r : Bool) : St := { fr := frame 170 [(0, .v (.c (.i .i64 a))), (1, .v (.c (.i .i64 b))), (2, .v (.c (.i .i64 c))), (8, .v (.c (.b false))), (9, .v (.c (.b true))), (10, .v (.c (.p 0 0 0))), (11, .v (.c (.p 1 0 0)))], rg := [some lnks, some (rst 1 0 16255 false r false)] }
noncomputable def oD2 (a b c : Int) (xs : List Int) (r : Bool) (i : Int) : St := { fr := frame 170 [(0, .v (.c (.i .i64 a))), (1, .v (.c (.i .i64 b))), (2, .v (.c (.i .i64 c))), (3, .v (.c (.l .i64 xs))), (9, .v (.c (.b true))), (10, .v (.c (.p 0 0 0))), (11, .v (.c (.p 1 0 0))), (12, .v (.c (.i .i64 i)))], rg := [some lnks, some ⟨9, 29, .cells [.i .i64 1, .i .i64 0, .i .i64 16255, .sn, .sn, .b true, .b false, .b r, .b false]⟩] }
noncomputable def pD : List Pat := pats 170 [(0, .i .i64), (1, .i .i64), (2, .i .i64), (3, .l .i64), (9, .b), (10, .p 0 0 0), (11, .p 1 0 0), (12, .i .i64)]
def kys : List Int := [0, 9, 11, 21]
def kyOf (n : Int) : Int := kys.getD (0 + (n % 4).toNat) 0
theorem round_D (j : Nat) (a b c i : Int) (xs : List Int) (r : Bool) (R : RO → Prop) : (roundT (XDig j) 0 [0, 1, 2, 3, 9, 10, 11, 12] [0, 1, 2, 8, 9, 10, 11] (bodyLoop fDigits 0) (sD a b c xs r i)).run R =
    sel (decide (i < (xs.length : Int)))
     (sel (decide (0 ≤ i)) (sel (decide (i < (xs.length : Int))) (sel (decide (i.toNat < xs.length))
      ((0 < (4 : Int) ∧ (4 : Int) < 4611686018427387904) ∧
       sel (decide (0 ≤ xs.getD i.toNat 0 % 4)) (sel (decide (xs.getD i.toNat 0 % 4 < 4)) (sel (decide (0 + (xs.getD i.toNat 0 % 4).toNat < kys.length))
        (sel (decide (1 ≤ kyOf (xs.getD i.toNat 0) ∧ kyOf (xs.getD i.toNat 0) ≤ 8)) (R (.done .ret (oD1 a b c r)))
         (sel (decide (kyOf (xs.getD i.toNat 0) = 20)) (R (.next (oD2 a b c xs r (IntKind.i64.wrap (i + 1)))))
          ((kyOf (xs.getD i.toNat 0) = 0 ∨ kyOf (xs.getD i.toNat 0) = 9 ∨ kyOf (xs.getD i.toNat 0) = 11 ∨ kyOf (xs.getD i.toNat 0) = 21 ∧ false = false) ∧ R (.next (sD a b c xs (xor r (decide (kyOf (xs.getD i.toNat 0) = 11))) (IntKind.i64.wrap (i + 1)))))))
        False) False) False) False) False) False)
     (R (.done .normal (dD a b c r))) := by kernel_rfl
def noiseR (xs : List Int) (r : Bool) : Bool := xs.foldl (fun r n => xor r (decide (kyOf n = 11))) r
noncomputable def lD : List Leaf × List (List Leaf) → Tr (NExit × St) := fun a => match a with
  | ([.i a, .i b, .i c, .l xs, .b ok, .i i], [[.r ls], [.i m, .i p, .i u, .b sb, .b h, .b r, .b x]]) =>
    .must (ok = true ∧ ls = ls6 ∧ (m = 1 ∧ p = 0 ∧ u = 16255 ∧ sb = false ∧ h = false ∧ x = false) ∧ 0 ≤ i ∧ i ≤ xs.length ∧ xs.length ≤ 20) (.ret (.normal, dD a b c (noiseR (xs.drop i.toNat) r)))
  | _ => .fail
def muD : List Leaf × List (List Leaf) → Nat := fun a => match a with
  | ([_, _, _, .l xs, _, .i i], _) => (xs.length - i).toNat
  | _ => 0
def rDL : RPat := .recs 3 27 [.i .i64, .i .i64, .i .i64]
def rDS : RPat := .cells 9 29 [.i .i64, .i .i64, .i .i64, .sn, .sn, .b, .b, .b, .b]
theorem ky_all : ∀ k : Nat, k < 4 → ¬ (1 ≤ kys.getD k 0 ∧ kys.getD k 0 ≤ 8) ∧ ¬ kys.getD k 0 = 20 ∧ (kys.getD k 0 = 0 ∨ kys.getD k 0 = 9 ∨ kys.getD k 0 = 11 ∨ kys.getD k 0 = 21 ∧ false = false) := by decide
theorem ky_in (n : Int) : ¬ (1 ≤ kyOf n ∧ kyOf n ≤ 8) ∧ ¬ kyOf n = 20 ∧ (kyOf n = 0 ∨ kyOf n = 9 ∨ kyOf n = 11 ∨ kyOf n = 21 ∧ false = false) := by
  unfold kyOf
  rw [Nat.zero_add]
  exact ky_all _ (by omega)
set_option maxRecDepth 100000 in
theorem loop_D (j : Nat) : LOk Try.prog [] 0 0 (bodyLoop fDigits 0) (sumP pD [rDL, rDS] lD) := by
  refine sumP_ok (X := XDig j) (kcDig j) mixed (LAll.none (by kernel_rfl)) [0, 1, 2, 3, 9, 10, 11, 12] [0, 1, 2, 8, 9, 10, 11] _ _ _ muD ?_
  rintro ⟨a, b⟩ R hh
  unfold lD at hh
  split at hh
  case h_2 => exact hh.elim
  rename_i a b c xs ok i ls m p u sb h r x he
  cases he
  have h1 := hh.1
  have h2 : R (.normal, dD a b c (noiseR (xs.drop i.toNat) r)) := hh.2
  clear hh
  obtain ⟨e1, e2, ⟨e3, e4, e5, e6, e7, e8⟩, i0, il, n20⟩ := h1
  subst e1 e2 e3 e4 e5 e6 e7 e8
  show (roundT (XDig j) 0 [0, 1, 2, 3, 9, 10, 11, 12] [0, 1, 2, 8, 9, 10, 11] (bodyLoop fDigits 0) (sD a b c xs r i)).run _
  rw [round_D]
  refine sel_by (fun hlt => ?_) fun hge => ?_
  · have hw : IntKind.i64.wrap (i + 1) = i + 1 := by rw [IntKind.wrap_i64]; omega
    have hk : i.toNat < xs.length := by omega
    have hn := ky_in (xs.getD i.toNat 0)
    refine selT (decide_eq_true i0) (selT (decide_eq_true hlt) (selT (decide_eq_true hk) ⟨⟨by decide, by decide⟩, selT (decide_eq_true (by omega)) (selT (decide_eq_true (by omega)) (selT (decide_eq_true (by show 0 + (xs.getD i.toNat 0 % 4).toNat < 4; omega)) (selF (decide_eq_false hn.1) (selF (decide_eq_false hn.2.1) ⟨hn.2.2, ?_⟩))))⟩))
    refine ⟨([.i a, .i b, .i c, .l xs, .b true, .i (i + 1)], [[.r ls6], [.i 1, .i 0, .i 16255, .b false, .b false, .b (xor r (decide (kyOf (xs.getD i.toNat 0) = 11))), .b false]]), by rw [hw]; rfl, by show ((xs.length : Int) - (i + 1)).toNat < ((xs.length : Int) - i).toNat; omega, ⟨rfl, rfl, ⟨rfl, rfl, rfl, rfl, rfl, rfl⟩, by omega, by omega, n20⟩, ?_⟩
    show R (.normal, dD a b c (noiseR (xs.drop (i + 1).toNat) (xor r (decide (kyOf (xs.getD i.toNat 0) = 11)))))
    have e : xs.drop i.toNat = xs.getD i.toNat 0 :: xs.drop (i + 1).toNat := by
      rw [List.drop_eq_getElem_cons hk, List.getD_eq_getElem?_getD, List.getElem?_eq_getElem hk, show (i + 1).toNat = i.toNat + 1 by omega]
      rfl
    rw [e] at h2
    exact h2
  · have e : xs.drop i.toNat = [] := List.drop_eq_nil_of_le (by omega)
    rw [e] at h2
    exact h2
noncomputable def t_digits (j : Nat) : Con := fun args regs => if regs.length = 0 then nfun Try.prog [] (cDig j) [(0, [0, 1, 2, 3, 9, 10, 11, 12], sumP pD [rDL, rDS] lD)] fDigits args regs else .fail
theorem k_digits (j : Nat) : Known Try.prog [] 3 (t_digits j) := known_loops 0 Try.func3 rfl (by kernel_rfl) mixed (kcDig j) (LAll.one (id := 0) (body := bodyLoop fDigits 0) (by kernel_rfl) rfl (loop_D j))
def sP : ByteArray := ⟨#[80]⟩
def s4 : ByteArray := ⟨#[32, 32, 32, 32]⟩
def s5 : ByteArray := ⟨#[45, 32, 32, 32, 32]⟩
def wd (a : Int) : Int := IntKind.u8.wrap (IntKind.i64.wrap (48 + a))
noncomputable def hi (n : Int) : Int := bits .and .i64 (shrv .i64 (pP n) 4) 15
noncomputable def lo (n : Int) : Int := bits .and .i64 (pP n) 15
noncomputable def pageE (A B C N : Int) (R : Out → Prop) : Prop :=
  sel (M N == A) (sel (pP N == bits .or .i64 (shlv .i64 B 4) C)
   (sel (decide (0 ≤ qd (M N))) (sel (decide (qd (M N) < 16)) (sel (decide (0 ≤ hi N)) (sel (decide (hi N < 16)) (sel (decide (0 ≤ lo N)) (sel (decide (lo N < 16))
    (sel ((sP ++ strOfNums [dg (M N), byteAt hexD (hi N).toNat, byteAt hexD (lo N).toNat] ++ s4).toList == (sP ++ strOfNums [wd A, wd B, wd C] ++ s4).toList)
     (R ⟨.v (.c (.b ((sP ++ strOfNums [48 + A, 48 + B, 45] ++ s4).toList == (sP ++ strOfNums [wd A, wd B] ++ s5).toList))), []⟩) (R no))
    False) False) False) False) False) False) (R no)) (R no)
noncomputable def digE (j a A B C : Int) (xs : List Int) (R : Out → Prop) : Prop :=
  a % 8 = j ∧ ((0 < (10 : Int) ∧ (10 : Int) < 4611686018427387904) ∧ ((0 < (10 : Int) ∧ (10 : Int) < 4611686018427387904) ∧
   sel (decide ((xs.length : Int) > 20)) (R yes)
    ((true = true ∧ ls6 = ls6 ∧ ((1 : Int) = 1 ∧ (0 : Int) = 0 ∧ (16255 : Int) = 16255 ∧ false = false ∧ false = false ∧ false = false) ∧ 0 ≤ (0 : Int) ∧ (0 : Int) ≤ xs.length ∧ xs.length ≤ 20) ∧
     ((0 ≤ B ∧ B ≤ 9) ∧ (((0 ≤ A ∧ A ≤ 9) ∧ 0 ≤ B ∧ B ≤ 9) ∧ (((1 ≤ A ∧ A ≤ 8) ∧ (0 ≤ B ∧ B ≤ 9) ∧ (0 ≤ C ∧ C ≤ 9)) ∧ pageE A B C (100 * A + 10 * B + C) R))))))
theorem dig_tree0 (a b c : Int) (xs : List Int) (R : Out → Prop) : (t_digits 0 [.c (.i .i64 a), .c (.i .i64 b), .c (.i .i64 c), .c (.l .i64 xs)] []).run R = digE ((0 : Nat) : Int) a (IntKind.i64.wrap (((0 : Nat) : Int) + 1)) (b % 10) (c % 10) xs R := by kernel_rfl
theorem dig_tree1 (a b c : Int) (xs : List Int) (R : Out → Prop) : (t_digits 1 [.c (.i .i64 a), .c (.i .i64 b), .c (.i .i64 c), .c (.l .i64 xs)] []).run R = digE ((1 : Nat) : Int) a (IntKind.i64.wrap (((1 : Nat) : Int) + 1)) (b % 10) (c % 10) xs R := by kernel_rfl
theorem dig_tree2 (a b c : Int) (xs : List Int) (R : Out → Prop) : (t_digits 2 [.c (.i .i64 a), .c (.i .i64 b), .c (.i .i64 c), .c (.l .i64 xs)] []).run R = digE ((2 : Nat) : Int) a (IntKind.i64.wrap (((2 : Nat) : Int) + 1)) (b % 10) (c % 10) xs R := by kernel_rfl
theorem dig_tree3 (a b c : Int) (xs : List Int) (R : Out → Prop) : (t_digits 3 [.c (.i .i64 a), .c (.i .i64 b), .c (.i .i64 c), .c (.l .i64 xs)] []).run R = digE ((3 : Nat) : Int) a (IntKind.i64.wrap (((3 : Nat) : Int) + 1)) (b % 10) (c % 10) xs R := by kernel_rfl
theorem dig_tree4 (a b c : Int) (xs : List Int) (R : Out → Prop) : (t_digits 4 [.c (.i .i64 a), .c (.i .i64 b), .c (.i .i64 c), .c (.l .i64 xs)] []).run R = digE ((4 : Nat) : Int) a (IntKind.i64.wrap (((4 : Nat) : Int) + 1)) (b % 10) (c % 10) xs R := by kernel_rfl
theorem dig_tree5 (a b c : Int) (xs : List Int) (R : Out → Prop) : (t_digits 5 [.c (.i .i64 a), .c (.i .i64 b), .c (.i .i64 c), .c (.l .i64 xs)] []).run R = digE ((5 : Nat) : Int) a (IntKind.i64.wrap (((5 : Nat) : Int) + 1)) (b % 10) (c % 10) xs R := by kernel_rfl
theorem dig_tree6 (a b c : Int) (xs : List Int) (R : Out → Prop) : (t_digits 6 [.c (.i .i64 a), .c (.i .i64 b), .c (.i .i64 c), .c (.l .i64 xs)] []).run R = digE ((6 : Nat) : Int) a (IntKind.i64.wrap (((6 : Nat) : Int) + 1)) (b % 10) (c % 10) xs R := by kernel_rfl
theorem dig_tree7 (a b c : Int) (xs : List Int) (R : Out → Prop) : (t_digits 7 [.c (.i .i64 a), .c (.i .i64 b), .c (.i .i64 c), .c (.l .i64 xs)] []).run R = digE ((7 : Nat) : Int) a (IntKind.i64.wrap (((7 : Nat) : Int) + 1)) (b % 10) (c % 10) xs R := by kernel_rfl
theorem page_all : ∀ A : Nat, A < 8 → ∀ B : Nat, B < 10 → ∀ C : Nat, C < 10 → (M (100 * (Int.ofNat A + 1) + 10 * Int.ofNat B + Int.ofNat C) == Int.ofNat A + 1 && (pP (100 * (Int.ofNat A + 1) + 10 * Int.ofNat B + Int.ofNat C) == bits .or .i64 (shlv .i64 (Int.ofNat B) 4) (Int.ofNat C)) &&
   (hi (100 * (Int.ofNat A + 1) + 10 * Int.ofNat B + Int.ofNat C) == Int.ofNat B) && (lo (100 * (Int.ofNat A + 1) + 10 * Int.ofNat B + Int.ofNat C) == Int.ofNat C)) = true := by decide +kernel
theorem page_of {A B C : Int} (ha : 1 ≤ A ∧ A ≤ 8) (hb : 0 ≤ B ∧ B ≤ 9) (hc : 0 ≤ C ∧ C ≤ 9) : M (100 * A + 10 * B + C) = A ∧ pP (100 * A + 10 * B + C) = bits .or .i64 (shlv .i64 B 4) C ∧ hi (100 * A + 10 * B + C) = B ∧ lo (100 * A + 10 * B + C) = C := by
  have h := page_all (A - 1).toNat (by omega) B.toNat (by omega) C.toNat (by omega)
  have e1 : Int.ofNat (A - 1).toNat + 1 = A := by show (((A - 1).toNat : Nat) : Int) + 1 = A; omega
  have e2 : Int.ofNat B.toNat = B := by show ((B.toNat : Nat) : Int) = B; omega
  have e3 : Int.ofNat C.toNat = C := by show ((C.toNat : Nat) : Int) = C; omega
  rw [e1, e2, e3] at h
  simp only [Bool.and_eq_true, beq_iff_eq] at h
  exact ⟨h.1.1.1, h.1.1.2, h.1.2, h.2⟩
theorem hex_all : ∀ k : Nat, k < 10 → byteAt hexD k = 48 + Int.ofNat k := by decide +kernel
theorem hex_of {a : Int} (h : 0 ≤ a ∧ a ≤ 9) : byteAt hexD a.toNat = 48 + a := by
  have := hex_all a.toNat (by omega)
  have e : Int.ofNat a.toNat = a := by show ((a.toNat : Nat) : Int) = a; omega
  rwa [e] at this
theorem wd_all : ∀ k : Nat, k < 10 → IntKind.u8.wrap (48 + Int.ofNat k) = 48 + Int.ofNat k := by decide +kernel
theorem wd_of {a : Int} (h : 0 ≤ a ∧ a ≤ 9) : wd a = 48 + a := by
  unfold wd
  have e : IntKind.i64.wrap (48 + a) = 48 + a := by rw [IntKind.wrap_i64]; omega
  rw [e]
  have := wd_all a.toNat (by omega)
  have e : Int.ofNat a.toNat = a := by show ((a.toNat : Nat) : Int) = a; omega
  rwa [e] at this
theorem half_eq (x y : Int) : sP ++ strOfNums [x, y, 45] ++ s4 = sP ++ strOfNums [x, y] ++ s5 := by kernel_rfl
set_option maxRecDepth 100000 in
theorem page_in {A B C : Int} (ha : 1 ≤ A ∧ A ≤ 8) (hb : 0 ≤ B ∧ B ≤ 9) (hc : 0 ≤ C ∧ C ≤ 9) : pageE A B C (100 * A + 10 * B + C) isT := by
  obtain ⟨h1, h2, h3, h4⟩ := page_of ha hb hc
  have ha' : 0 ≤ A ∧ A ≤ 9 := by omega
  obtain ⟨⟨q1, q2⟩, q3⟩ := dg_of ha'
  unfold pageE
  rw [h1, h2, h3, h4, q3, hex_of hb, hex_of hc, wd_of ha', wd_of hb, wd_of hc, half_eq]
  refine selT (beq_self_eq_true _) (selT (beq_self_eq_true _) (selT (decide_eq_true q1) (selT (decide_eq_true q2) (selT (decide_eq_true hb.1) (selT (decide_eq_true (by omega)) (selT (decide_eq_true hc.1) (selT (decide_eq_true (by omega)) (selT (beq_self_eq_true _) ?_))))))))
  unfold isT
  rw [beq_self_eq_true]
theorem dig_in {j a A : Int} (b c : Int) (xs : List Int) (hj : a % 8 = j) (ha : 1 ≤ A ∧ A ≤ 8) : digE j a A (b % 10) (c % 10) xs isT := by
  have hb : 0 ≤ b % 10 ∧ b % 10 ≤ 9 := by omega
  have hc : 0 ≤ c % 10 ∧ c % 10 ≤ 9 := by omega
  refine ⟨hj, ⟨by decide, by decide⟩, ⟨by decide, by decide⟩, sel_by (fun _ => rfl) fun h20 => ⟨⟨rfl, rfl, ⟨rfl, rfl, rfl, rfl, rfl, rfl⟩, Int.le_refl _, by omega, by omega⟩, hb, ⟨by omega, hb⟩, ⟨ha, hb, hc⟩, page_in ha hb hc⟩⟩
def pickD (args : List NV) (_ : List Reg) : Nat := match args with
  | .c (.i .i64 a) :: _ => (a % 8).toNat
  | _ => 0
theorem Known_pickD {P : Program} {gl : List Nat} {f : FuncId} {ι : Type} {T : ι → Con} (h : ∀ i, Known P gl f (T i)) (p : List NV → List Reg → ι) (i0 : ι) : Known P gl f fun args regs => T (p args regs) args regs :=
  ⟨(h i0).goes, fun args regs R hr => (h (p args regs)).sound args regs R hr⟩
noncomputable def tDigitsA : Con := fun args regs => t_digits (pickD args regs) args regs
theorem kDigitsA : Known Try.prog [] 3 tDigitsA := Known_pickD k_digits pickD 0
set_option maxRecDepth 100000 in
theorem digits_true (a b c : Int) (xs : List Int) : Holds (tDigitsA [.c (.i .i64 a), .c (.i .i64 b), .c (.i .i64 c), .c (.l .i64 xs)] []) isT := by
  refine ⟨Box.out ?_⟩
  show Box ((t_digits (a % 8).toNat [.c (.i .i64 a), .c (.i .i64 b), .c (.i .i64 c), .c (.l .i64 xs)] []).run isT)
  have h := Int.emod_nonneg a (b := 8) (by decide)
  have h' := Int.emod_lt_of_pos a (b := 8) (by decide)
  have : a % 8 = 0 ∨ a % 8 = 1 ∨ a % 8 = 2 ∨ a % 8 = 3 ∨ a % 8 = 4 ∨ a % 8 = 5 ∨ a % 8 = 6 ∨ a % 8 = 7 := by omega
  rcases this with e | e | e | e | e | e | e | e
  · have e' : (a % 8).toNat = 0 := by omega
    rw [e']
    exact Box.of_eq (dig_tree0 a b c xs isT) (dig_in b c xs e (by decide))
  · have e' : (a % 8).toNat = 1 := by omega
    rw [e']
    exact Box.of_eq (dig_tree1 a b c xs isT) (dig_in b c xs e (by decide))
  · have e' : (a % 8).toNat = 2 := by omega
    rw [e']
    exact Box.of_eq (dig_tree2 a b c xs isT) (dig_in b c xs e (by decide))
  · have e' : (a % 8).toNat = 3 := by omega
    rw [e']
    exact Box.of_eq (dig_tree3 a b c xs isT) (dig_in b c xs e (by decide))
  · have e' : (a % 8).toNat = 4 := by omega
    rw [e']
    exact Box.of_eq (dig_tree4 a b c xs isT) (dig_in b c xs e (by decide))
  · have e' : (a % 8).toNat = 5 := by omega
    rw [e']
    exact Box.of_eq (dig_tree5 a b c xs isT) (dig_in b c xs e (by decide))
  · have e' : (a % 8).toNat = 6 := by omega
    rw [e']
    exact Box.of_eq (dig_tree6 a b c xs isT) (dig_in b c xs e (by decide))
  · have e' : (a % 8).toNat = 7 := by omega
    rw [e']
    exact Box.of_eq (dig_tree7 a b c xs isT) (dig_in b c xs e (by decide))
def shsDigits : List Sh := [.i .i64, .i .i64, .i .i64, .row .i64]
theorem digits_law (xs : List NV) (h : R2 ShOk shsDigits xs) : Holds (tDigitsA xs []) fun o => o.res = .v (.c (.b true)) := by
  cases h with
  | cons h1 h =>
    cases h with
    | cons h2 h =>
      cases h with
      | cons h3 h =>
        cases h with
        | cons h4 h =>
          cases h
          cases h1 with
          | @i _ a _ =>
            cases h2 with
            | @i _ b _ =>
              cases h3 with
              | @i _ c _ =>
                cases h4 with
                | @row _ xs _ => exact digits_true a b c xs
end Go.Proofs.Ytnhadghddkgjdaa.rem
