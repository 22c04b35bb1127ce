/-
  The lexer: the law LexSequences: the plain law.
-/
import Derived.Test.YtnhadghddkgjdaaLexH
import Derived.Test.YtnhadghddkgjdaaPbits
namespace Go.Proofs.Ytnhadghddkgjdaa.lex
open Go Go.Nx Go.RowKit

theorem ck_of {x : Int} (h0 : 32 ≤ x) (h1 : x < 128) : ck x ∧ c x = x := by
  have h := mk_spec x (by omega) h1
  have hc : c x = x := h.1
  refine ⟨⟨⟨h.2.2, h.2.1⟩, ?_⟩, hc⟩
  show 32 ≤ c x
  omega
theorem hi_eq (a : Int) : hi a = 64 + a % 64 := by
  unfold hi
  rw [IntKind.wrap_i64, IntKind.wrap_u8]
  omega
theorem dg_eq (a : Int) : dg a = 48 + a % 64 % 10 := by
  unfold dg
  rw [Int.tmod_eq_emod_of_nonneg (by omega), IntKind.wrap_i64, IntKind.wrap_u8]
  omega
theorem at7_eq (a : Int) : at7 a = 80 + a % 64 % 8 := by
  unfold at7
  rw [show bits .and .i64 (a % 64) 7 = a % 64 % 8 from and_mask64 (a % 64) 3 (by decide), IntKind.wrap_i64, IntKind.wrap_u8]
  omega
theorem low6_all : ∀ n < 64, low6 (64 + Int.ofNat n) = Int.ofNat n := by decide +kernel
theorem low6_hi (a : Int) : low6 (64 + a % 64) = a % 64 := by
  have e : a % 64 = Int.ofNat (a % 64).toNat := by show a % 64 = (((a % 64).toNat : Nat) : Int); omega
  have := low6_all (a % 64).toNat (by omega)
  rwa [← e] at this
theorem w64_small {x : Int} (h0 : 0 ≤ x) (h1 : x < 1000) : w64 x = x := by
  unfold w64
  rw [IntKind.wrap_i64]
  omega
theorem ck_hi (a : Int) : ck (hi a) := (ck_of (by rw [hi_eq]; omega) (by rw [hi_eq]; omega)).1
theorem c_hi (a : Int) : c (hi a) = 64 + a % 64 := by rw [(ck_of (x := hi a) (by rw [hi_eq]; omega) (by rw [hi_eq]; omega)).2, hi_eq]
theorem ck_dg (a : Int) : ck (dg a) := (ck_of (by rw [dg_eq]; omega) (by rw [dg_eq]; omega)).1
theorem c_dg (a : Int) : c (dg a) = 48 + a % 64 % 10 := by rw [(ck_of (x := dg a) (by rw [dg_eq]; omega) (by rw [dg_eq]; omega)).2, dg_eq]
theorem in_hi (a : Int) : in8 (hi a) := by rw [hi_eq]; constructor <;> omega
theorem in_dg (a : Int) : in8 (dg a) := by rw [dg_eq]; constructor <;> omega
theorem in_at7 (a : Int) : in8 (at7 a) := by rw [at7_eq]; constructor <;> omega
theorem yn_in {x y : Int} {R : Out → Prop} {A : Prop} (h : x = y) (hA : A) : yn x y R A := selT (bT h) hA
theorem in_lit {x : Int} (h : 0 ≤ x ∧ x < 256) : in8 x := h
theorem nums_d0 {x : Int} {l : List Int} {a b : Int} (h : 48 ≤ x ∧ x ≤ 57) : nums (x :: l) 0 a b = nums l 0 (more a x) b := by
  rw [nums, if_neg (by omega), if_pos ⟨h.1, h.2, by decide⟩, if_pos rfl]
theorem nums_d1 {x : Int} {l : List Int} {a b : Int} (h : 48 ≤ x ∧ x ≤ 57) : nums (x :: l) 1 a b = nums l 1 a (more b x) := by
  rw [nums, if_neg (by omega), if_pos ⟨h.1, h.2, by decide⟩, if_neg (by decide)]
theorem nums_sep {l : List Int} {a b : Int} : nums (59 :: l) 0 a b = nums l 1 a b := by
  rw [nums, if_pos rfl]
  rfl
theorem nums_eq (x y z : Int) (hx : 0 ≤ x ∧ x < 10) (hy : 0 ≤ y ∧ y < 10) (hz : 0 ≤ z ∧ z < 10) : nums [48 + x, 48 + y, 59, 48 + z] 0 0 0 = (10 * x + y, z) := by
  have m1 : more 0 (48 + x) = x := by unfold more; rw [if_neg (by omega)]; omega
  have m2 : more x (48 + y) = 10 * x + y := by unfold more; rw [if_neg (by omega)]; omega
  have m3 : more 0 (48 + z) = z := by unfold more; rw [if_neg (by omega)]; omega
  rw [nums_d0 ⟨by omega, by omega⟩, m1, nums_d0 ⟨by omega, by omega⟩, m2, nums_sep, nums_d1 ⟨by omega, by omega⟩, m3, nums]
theorem min99_small {n : Int} (h : n ≤ 99) : min99 n = n := by
  unfold min99
  rw [decide_eq_false (by omega)]; rfl
theorem q0_in {a b : Int} {R : Out → Prop} (h : R yes) : q0 a b R := by
  refine ⟨in_lit (by decide), in_hi a, in_hi b, ck_hi a, ⟨ck_hi b, ?_, ?_⟩, yn_in ?_ (yn_in ?_ h)⟩
  · rw [c_hi]; omega
  · rw [c_hi]; omega
  · rw [c_hi, low6_hi]
  · rw [c_hi, low6_hi]
theorem w_hi (a : Int) : w64 (c (hi a)) = w64 (hi a) := by rw [c_hi, hi_eq]
theorem q1_in {a : Int} {R : Out → Prop} (h : R yes) : q1 a R := by
  have h66 := ck_of (x := 66) (by decide) (by decide)
  exact ⟨in_lit (by decide), in_lit (by decide), in_hi a, h66, ck_hi a, yn_in (w_hi a) h⟩
theorem q2_in {a : Int} {R : Out → Prop} (h : R yes) : q2 a R := by
  refine ⟨in_lit (by decide), in_hi a, ck_hi a, yn_in ?_ h⟩
  rw [c_hi, low6_hi]
theorem q3_in {a : Int} {R : Out → Prop} (h : R yes) : q3 a R := by
  have h7 := ck_of (x := at7 a) (by rw [at7_eq]; omega) (by rw [at7_eq]; omega)
  refine ⟨in_lit (by decide), in_at7 a, selF (dF ?_) ⟨⟨h7.1, ?_, ?_⟩, yn_in ?_ h⟩⟩
  · rw [h7.2, at7_eq]; omega
  · rw [h7.2, at7_eq]; omega
  · rw [h7.2, at7_eq]; omega
  · rw [h7.2, at7_eq, show bits .and .i64 (a % 64) 7 = a % 64 % 8 from and_mask64 (a % 64) 3 (by decide)]; rfl
theorem q4_in {a : Int} {R : Out → Prop} (h : R yes) : q4 a R :=
  ⟨in_lit (by decide), in_lit (by decide), in_hi a, (ck_of (x := 57) (by decide) (by decide)).1, ck_hi a, yn_in (w_hi a) h⟩
theorem q5_in {a b : Int} {R : Out → Prop} (h : R yes) : q5 a b R :=
  ⟨in_lit (by decide), in_lit (by decide), in_hi a, in_hi b, (ck_of (x := 58) (by decide) (by decide)).1, ck_hi a, ck_hi b, yn_in (w_hi a) (yn_in (w_hi b) h)⟩
theorem q6_in {a b d : Int} {R : Out → Prop} (h : R yes) : q6 a b d R :=
  ⟨in_lit (by decide), in_lit (by decide), in_hi a, in_hi b, in_hi d, (ck_of (x := 59) (by decide) (by decide)).1, ck_hi a, ck_hi b, ck_hi d, yn_in (w_hi a) (yn_in (w_hi b) (yn_in (w_hi d) h))⟩
theorem cd_dg (a : Int) : cd (dg a) := ⟨ck_dg a, by rw [c_dg]; omega, by rw [c_dg]; omega⟩
theorem q7_in {a b d : Int} {R : Out → Prop} (h : R yes) : q7 a b d R := by
  have h59 := ck_of (x := 59) (by decide) (by decide)
  have h72 := ck_of (x := 72) (by decide) (by decide)
  have e : ds a b d = [48 + a % 64 % 10, 48 + b % 64 % 10, 59, 48 + d % 64 % 10] := by unfold ds; rw [c_dg, c_dg, c_dg, h59.2]
  have n := nums_eq (a % 64 % 10) (b % 64 % 10) (d % 64 % 10) (by omega) (by omega) (by omega)
  refine ⟨in_lit (by decide), in_lit (by decide), in_dg a, in_dg b, in_lit (by decide), in_dg d, in_lit (by decide), (ck_of (x := 91) (by decide) (by decide)).1, cd_dg a, cd_dg b, ⟨h59.1, by rw [h59.2]; decide, by rw [h59.2]; decide⟩, cd_dg d, ⟨h72, ?_⟩, yn_in ?_ (yn_in ?_ h)⟩
  · rw [e]
    intro x hx
    simp only [List.mem_cons, List.not_mem_nil, or_false] at hx
    rcases hx with rfl | rfl | rfl | rfl <;> omega
  · rw [e, n, min99_small (by simp only; omega), Int.tmod_eq_emod_of_nonneg (by omega), Int.tmod_eq_emod_of_nonneg (by omega)]
    congr 1
    rw [IntKind.wrap_i64, IntKind.wrap_i64]
    simp only
    omega
  · rw [e, n, min99_small (by simp only; omega), Int.tmod_eq_emod_of_nonneg (by omega)]
theorem seq_true (n a b d : Int) : Holds (tSeq [.c (.i .i64 n), .c (.i .i64 a), .c (.i .i64 b), .c (.i .i64 d)] []) fun o => o.res = .v (.c (.b true)) := by
  constructor
  rw [seq_tree]
  have i64 : InN 64 := ⟨by decide, by decide⟩
  refine ⟨i64, i64, i64, ?_⟩
  by_cases h0 : n % 8 = 0
  · exact selT (dT h0) (q0_in rfl)
  refine selF (dF h0) ?_
  by_cases h1 : n % 8 = 1
  · exact selT (dT h1) (q1_in rfl)
  refine selF (dF h1) ?_
  by_cases h2 : n % 8 = 2
  · exact selT (dT h2) (q2_in rfl)
  refine selF (dF h2) ?_
  by_cases h3 : n % 8 = 3
  · exact selT (dT h3) (q3_in rfl)
  refine selF (dF h3) ?_
  by_cases h4 : n % 8 = 4
  · exact selT (dT h4) (q4_in rfl)
  refine selF (dF h4) ?_
  by_cases h5 : n % 8 = 5
  · exact selT (dT h5) (q5_in rfl)
  refine selF (dF h5) ?_
  by_cases h6 : n % 8 = 6
  · exact selT (dT h6) (q6_in rfl)
  exact selF (dF h6) (q7_in rfl)
theorem seq_calls (n a b d : Int) (w : World) : Calls Try.prog 9 #[.int .i64 n, .int .i64 a, .int .i64 b, .int .i64 d] w fun e w' => e = .returned (.bool true) ∧ RowKit.Grown w w' := by
  have hr : R2 (VRel (topEnv w fun _ => Option.none)) [NV.c (NC.i .i64 n), NV.c (NC.i .i64 a), NV.c (NC.i .i64 b), NV.c (NC.i .i64 d)] [Value.int .i64 n, .int .i64 a, .int .i64 b, .int .i64 d] :=
    R2.cons (int_rel _ _ _) (R2.cons (int_rel _ _ _) (R2.cons (int_rel _ _ _) (R2.cons (int_rel _ _ _) .nil)))
  exact kSeq.law (fun _ => Option.none) (globOk_nil _) hr (seq_true n a b d)
end Go.Proofs.Ytnhadghddkgjdaa.lex
