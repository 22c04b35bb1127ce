/-
  triplet.Of and triplet.Number, and the law of them.
-/
import Derived.Test.YtjjkbnipokpmcaaEng19
import Derived.Test.YtjjkbnipokpmcaaPbits
import Derived.Test.YtjjkbnipokpmcaaRows
namespace Go.Proofs.Ytjjkbnipokpmcaa.trip
open Go Go.Nx

theorem mixed : Try.prog.follows .mixedOrders = true := by kernel_rfl
noncomputable def tOf : Con := fun args regs => nfun Try.prog [] (fun _ => Option.none) [] Try.f9 args regs
noncomputable def tNumber : Con := fun args regs => nfun Try.prog [] (fun _ => Option.none) [] Try.f10 args regs
noncomputable def c1 : FuncId → Option Con := fun f => match f with
  | 9 => some tOf
  | 10 => some tNumber
  | _ => Option.none
noncomputable def tFirst : Con := fun args regs => nfun Try.prog [] c1 [] Try.f8 args regs
noncomputable def c2 : FuncId → Option Con := fun f => match f with
  | 9 => some tOf
  | 10 => some tNumber
  | 8 => some tFirst
  | _ => Option.none
noncomputable def tLaw : Con := fun args regs => nfun Try.prog [] c2 [] Try.f3 args regs

theorem kOf : Known Try.prog [] 9 tOf := known_inl Try.func9 rfl (by kernel_rfl) mixed con_none (by kernel_rfl)
theorem kNumber : Known Try.prog [] 10 tNumber := known_inl Try.func10 rfl (by kernel_rfl) mixed con_none (by kernel_rfl)
theorem kc1 : ∀ f T, c1 f = some T → Known Try.prog [] f T := by
  intro f T h
  unfold c1 at h
  split at h <;> cases h
  · exact kOf
  · exact kNumber
theorem kFirst : Known Try.prog [] 8 tFirst := known_inl Try.func8 rfl (by kernel_rfl) mixed kc1 (by kernel_rfl)
theorem kc2 : ∀ f T, c2 f = some T → Known Try.prog [] f T := by
  intro f T h
  unfold c2 at h
  split at h <;> cases h
  · exact kOf
  · exact kNumber
  · exact kFirst
theorem kLaw : Known Try.prog [] 3 tLaw := known_inl Try.func3 rfl (by kernel_rfl) mixed kc2 (by kernel_rfl)

/-- A number of three. -/
def num (a b c : Int) : Int := bits BinOp.or IntKind.i64 (bits BinOp.or IntKind.i64 (bits BinOp.and IntKind.i64 a 63) (shlv IntKind.i64 (bits BinOp.and IntKind.i64 b 31) 6)) (shlv IntKind.i64 (bits BinOp.and IntKind.i64 c 127) 11)
theorem law_tree (a b c n : Int) (R : Out → Prop) : (tLaw [.ag [.i .i64 a, .i .i64 b, .i .i64 c], .c (.i .i64 n)] []).run R =
    sel (bits BinOp.and IntKind.i64 (num a b c) 63 == bits BinOp.and IntKind.i64 a 63)
     (sel (bits BinOp.and IntKind.i64 (shrv IntKind.i64 (num a b c) 6) 31 == bits BinOp.and IntKind.i64 b 31)
      (sel (bits BinOp.and IntKind.i64 (shrv IntKind.i64 (num a b c) 11) 127 == bits BinOp.and IntKind.i64 c 127)
        (R (Out.mk (NS.v (NV.c (NC.b (num (bits BinOp.and IntKind.i64 n 63) (bits BinOp.and IntKind.i64 (shrv IntKind.i64 n 6) 31) (bits BinOp.and IntKind.i64 (shrv IntKind.i64 n 11) 127) == bits BinOp.and IntKind.i64 n 262143)))) []))
        (R (Out.mk (NS.v (NV.c (NC.b false))) [])))
      (R (Out.mk (NS.v (NV.c (NC.b false))) [])))
     (R (Out.mk (NS.v (NV.c (NC.b false))) [])) := by
  kernel_rfl

theorem and63 (n : Int) : bits .and .i64 n 63 = n % 64 := and_mask64 n 6 (by decide)
theorem and31 (n : Int) : bits .and .i64 n 31 = n % 32 := and_mask64 n 5 (by decide)
theorem and127 (n : Int) : bits .and .i64 n 127 = n % 128 := and_mask64 n 7 (by decide)
theorem and18 (n : Int) : bits .and .i64 n 262143 = n % 262144 := and_mask64 n 18 (by decide)
theorem num_eq (a b c : Int) : num a b c = a % 64 + b % 32 * 64 + c % 128 * 2048 := by
  unfold num
  rw [and63, and31, and127]
  rw [show shlv .i64 (b % 32) 6 = b % 32 * 2 ^ 6 from shlv64 _ 6 (by decide) (by omega) (by omega)]
  rw [show shlv .i64 (c % 128) 11 = c % 128 * 2 ^ 11 from shlv64 _ 11 (by decide) (by omega) (by omega)]
  rw [or_join64 (b % 32 * 2 ^ 6) (a % 64) 6 (by decide) (by omega) (by omega) (by omega) (by omega) (by omega)]
  rw [or_join64 (c % 128 * 2 ^ 11) _ 11 (by decide) (by omega) (by omega) (by omega) (by omega) (by omega)]
  omega
theorem law_true (a b c n : Int) : Holds (tLaw [.ag [.i .i64 a, .i .i64 b, .i .i64 c], .c (.i .i64 n)] []) fun o => o.res = .v (.c (.b true)) := by
  constructor
  rw [law_tree]
  simp only [num_eq, and63, and31, and127, and18]
  rw [show shrv .i64 (a % 64 + b % 32 * 64 + c % 128 * 2048) 6 = _ / 2 ^ 6 from shrv64 _ 6 (by decide),
    show shrv .i64 (a % 64 + b % 32 * 64 + c % 128 * 2048) 11 = _ / 2 ^ 11 from shrv64 _ 11 (by decide),
    show shrv .i64 n 6 = n / 2 ^ 6 from shrv64 _ 6 (by decide),
    show shrv .i64 n 11 = n / 2 ^ 11 from shrv64 _ 11 (by decide)]
  refine sel_iff.2 (.inl ⟨by rw [beq_iff_eq]; omega, sel_iff.2 (.inl ⟨by rw [beq_iff_eq]; omega, sel_iff.2 (.inl ⟨by rw [beq_iff_eq]; omega, ?_⟩)⟩)⟩)
  have : (n % 64 % 64 + n / 2 ^ 6 % 32 % 32 * 64 + n / 2 ^ 11 % 128 % 128 * 2048 == n % 262144) = true := by
    rw [beq_iff_eq]; omega
  rw [this]
theorem law_calls (a b c n : Int) (w : World) : Calls Try.prog 3 #[.agg #[.int .i64 a, .int .i64 b, .int .i64 c], .int .i64 n] w fun e w' => e = .returned (.bool true) ∧ RowKit.Grown w w' := by
  have hr : R2 (VRel (topEnv w fun _ => Option.none)) [NV.ag [NC.i .i64 a, NC.i .i64 b, NC.i .i64 c], NV.c (NC.i .i64 n)] [Value.agg #[.int .i64 a, .int .i64 b, .int .i64 c], .int .i64 n] :=
    R2.cons (ints_rel _ .i64 [a, b, c]) (R2.cons (int_rel _ _ _) .nil)
  exact kLaw.law (fun _ => Option.none) (globOk_nil _) hr (law_true a b c n)

end Go.Proofs.Ytjjkbnipokpmcaa.trip
