/-
  The lexer: the law LexIgnored: the plain law.
-/
import Derived.Test.YtnhadghddkgjdaaLexKa
import Derived.Test.YtnhadghddkgjdaaLexKb
import Derived.Test.YtnhadghddkgjdaaLexKc
import Derived.Test.YtnhadghddkgjdaaLexKd
namespace Go.Proofs.Ytnhadghddkgjdaa.lex
open Go Go.Nx Go.RowKit

theorem ign_bytes : ∀ n < 256, (32 ≤ xa (Int.ofNat n) ∧ xa (Int.ofNat n) < 48) ∧ (64 ≤ ya (Int.ofNat n) ∧ ya (Int.ofNat n) < 96) ∧ (96 ≤ x1 (Int.ofNat n) ∧ x1 (Int.ofNat n) < 112) ∧ (48 ≤ da (Int.ofNat n) ∧ da (Int.ofNat n) < 58) ∧ (48 ≤ ra (Int.ofNat n) ∧ ra (Int.ofNat n) < 64) := by decide +kernel
theorem ign_byte {a : Int} (h : in8 a) : (32 ≤ xa a ∧ xa a < 48) ∧ (64 ≤ ya a ∧ ya a < 96) ∧ (96 ≤ x1 a ∧ x1 a < 112) ∧ (48 ≤ da a ∧ da a < 58) ∧ (48 ≤ ra a ∧ ra a < 64) := by
  have e : a = Int.ofNat a.toNat := by
    have := h.1
    show a = ((a.toNat : Nat) : Int); omega
  have := ign_bytes a.toNat (by have := h.1; have := h.2; omega)
  rwa [← e] at this
theorem rep_in {f : Prop → Prop} {P : Prop} (hf : ∀ Q, Q → f Q) (hP : P) : ∀ k, rep f P k
  | 0 => hP
  | k + 1 => hf _ (rep_in hf hP k)
theorem in8_of {x : Int} (h0 : 0 ≤ x) (h1 : x < 128) : in8 x := ⟨h0, by omega⟩
theorem g0_in {a : Int} {R : Out → Prop} (ha : in8 a) (h : R yes) (j : Nat) : g0 a R j := by
  have hb := ign_byte ha
  have hx := ck_of (x := xa a) (by omega) (by omega)
  have hy := ck_of (x := ya a) (by omega) (by omega)
  refine ⟨in_lit (by decide), in_lit (by decide), (ck_of (x := 32) (by decide) (by decide)).1, rep_in (fun Q hQ => ⟨in8_of (by omega) (by omega), selT (dT ?_) ⟨hx.1, hQ⟩⟩) ⟨in8_of (by omega) (by omega), selF (dF ?_) ⟨hy.1, h⟩⟩ j⟩
  · rw [hx.2]; omega
  · rw [hy.2]; omega
theorem g1_in {a : Int} {R : Out → Prop} (ha : in8 a) (h : R yes) : g1 a R := by
  have hb := ign_byte ha
  have hx := ck_of (x := x1 a) (by omega) (by omega)
  refine ⟨in_lit (by decide), in8_of (by omega) (by omega), selF (dF ?_) (selT (dT ?_) ⟨hx.1, h⟩)⟩
  · rw [hx.2]; omega
  · rw [hx.2]; omega
theorem dig_in {a : Int} {R : Out → Prop} (ha : in8 a) (h : R yes) : ∀ (k : Nat) (ds : List Int), InBytes ds → dig a R k ds
  | 0, ds, hd => ⟨in_lit (by decide), ⟨ck_of (x := 109) (by decide) (by decide), hd⟩, h⟩
  | k + 1, ds, hd => by
    have hb := ign_byte ha
    have hx := ck_of (x := da a) (by omega) (by omega)
    refine ⟨in8_of (by omega) (by omega), selT (dT ?_) ⟨hx.1, dig_in ha h k _ ?_⟩⟩
    · rw [hx.2]; omega
    · intro y hy
      rw [List.mem_append, List.mem_singleton] at hy
      rcases hy with hy | rfl
      · exact hd y hy
      · rw [hx.2]; omega
theorem g2_in {a : Int} {R : Out → Prop} (ha : in8 a) (h : R yes) (j : Nat) : g2 a R j :=
  ⟨in_lit (by decide), in_lit (by decide), (ck_of (x := 91) (by decide) (by decide)).1, dig_in ha h _ [] (fun _ hx => by simp at hx)⟩
theorem runs_in {R : Out → Prop} (h : R yes) : ∀ l : List Int, (∀ x ∈ l, 32 ≤ x ∧ x < 128) → runs R l
  | [], _ => h
  | x :: l, hl => by
    have hx := hl x (by simp)
    exact ⟨in8_of (by omega) hx.2, (ck_of hx.1 hx.2).1, runs_in h l fun y hy => hl y (by simp [hy])⟩
theorem g3_in {R : Out → Prop} (h : R yes) : g3 R := ⟨in_lit (by decide), runs_in h _ (by decide)⟩
theorem g4_in {a : Int} {R : Out → Prop} (ha : in8 a) (h : R yes) : g4 a R := by
  have hb := ign_byte ha
  have hx := ck_of (x := ra a) (by omega) (by omega)
  refine ⟨in_lit (by decide), in8_of (by omega) (by omega), hx.1, in_lit (by decide), ⟨(ck_of (x := 80) (by decide) (by decide)).1, ?_⟩, h⟩
  rw [hx.2]; omega
theorem pickR_in {r : Int} {Q : Nat → Prop} (h : ∀ k, Q k) : ∀ ks : List Nat, (∃ k ∈ ks, r = (k : Int)) → pickR r Q ks
  | [], hk => by obtain ⟨k, hk, -⟩ := hk; simp at hk
  | k :: ks, hk => by
    by_cases e : r = (k : Int)
    · exact selT (dT e) (h k)
    · refine selF (dF e) (pickR_in h ks ?_)
      obtain ⟨q, hq, er⟩ := hk
      rw [List.mem_cons] at hq
      rcases hq with rfl | hq
      · exact (e er).elim
      · exact ⟨q, hq, er⟩
theorem tree_all : ∀ j < 13, TreeJ j := by
  intro j hj
  have h : j = 0 ∨ j = 1 ∨ j = 2 ∨ j = 3 ∨ j = 4 ∨ j = 5 ∨ j = 6 ∨ j = 7 ∨ j = 8 ∨ j = 9 ∨ j = 10 ∨ j = 11 ∨ j = 12 := by omega
  rcases h with rfl | rfl | rfl | rfl | rfl | rfl | rfl | rfl | rfl | rfl | rfl | rfl | rfl
  · exact tree0
  · exact tree1
  · exact tree2
  · exact tree3
  · exact tree4
  · exact tree5
  · exact tree6
  · exact tree7
  · exact tree8
  · exact tree9
  · exact tree10
  · exact tree11
  · exact tree12
theorem ign_true (w n a : Int) (ha : in8 a) : Holds (tIgn (n % 13).toNat [.c (.i .i64 w), .c (.i .i64 n), .c (.i .u8 a)] []) fun o => o.res = .v (.c (.b true)) := by
  constructor
  rw [tree_all (n % 13).toNat (by omega)]
  refine ⟨by omega, pickR_in (fun v => ?_) _ ⟨(w % 5).toNat, by rw [List.mem_range]; omega, by omega⟩⟩
  unfold gAll
  split
  · exact g0_in (R := fun o => o.res = .v (.c (.b true))) ha rfl _
  · exact g1_in ha rfl
  · exact g2_in (R := fun o => o.res = .v (.c (.b true))) ha rfl _
  · exact g3_in rfl
  · exact g4_in ha rfl
theorem ign_calls (w n a : Int) (ha : (Lit.int .u8 a).wf = true) (W : World) : Calls Try.prog 10 #[.int .i64 w, .int .i64 n, .int .u8 a] W fun e w' => e = .returned (.bool true) ∧ RowKit.Grown W w' := by
  have hr : R2 (VRel (topEnv W fun _ => Option.none)) [NV.c (NC.i .i64 w), NV.c (NC.i .i64 n), NV.c (NC.i .u8 a)] [Value.int .i64 w, .int .i64 n, .int .u8 a] :=
    R2.cons (int_rel _ _ _) (R2.cons (int_rel _ _ _) (R2.cons (int_rel _ _ _) .nil))
  have h8 : in8 a := by
    simp [Lit.wf, IntKind.min, IntKind.max, IntKind.signed, IntKind.bits] at ha
    constructor <;> omega
  exact (kIgn (n % 13).toNat).law (fun _ => Option.none) (globOk_nil _) hr (ign_true w n a h8)
end Go.Proofs.Ytnhadghddkgjdaa.lex
