/-
  Packets: the law PacketBack: the law.
-/
import Derived.Test.YtjjkbnipokpmcaaDoorPkM
namespace Go.Proofs.YtjjkbnipokpmcaaDoor.pk
open Go Go.Nx

theorem ix_eq (n : Int) : ix n = n % 8 := by
  unfold ix
  have e : bits .and .i64 n 7 = n % 8 := and_mask64 n 3 (by decide)
  rw [e, IntKind.wrap_u64]
  have := Int.emod_nonneg n (b := 8) (by decide)
  have := Int.emod_lt_of_pos n (b := 8) (by decide)
  omega
theorem flip_all : ∀ n < 16, ∀ j < 8, get (x8 (put (Int.ofNat n)) (one (Int.ofNat j))) = some n ∧ getB (x8 (x8 (put (Int.ofNat n)) (one (Int.ofNat j))) (one (Int.ofNat ((j + 1) % 8)))) = false := by decide +kernel
theorem get_all : ∀ n < 16, get (put (Int.ofNat n)) = some n := by decide +kernel
theorem nat16 (n : Int) : ∃ m : Nat, m < 16 ∧ put n = put (Int.ofNat m) := by
  refine ⟨(n % 16).toNat, by omega, ?_⟩
  have e : Int.ofNat (n % 16).toNat = n % 16 := by show (((n % 16).toNat : Nat) : Int) = n % 16; omega
  rw [e, put_16]
theorem nat8 (n : Int) : ∃ j : Nat, j < 8 ∧ n % 8 = Int.ofNat j ∧ (n % 8 + 1) % 8 = Int.ofNat ((j + 1) % 8) := by
  refine ⟨(n % 8).toNat, by omega, ?_, ?_⟩
  · show n % 8 = (((n % 8).toNat : Nat) : Int); omega
  · show (n % 8 + 1) % 8 = ((((n % 8).toNat + 1) % 8 : Nat) : Int); omega
/-- One bit turned: it is mended. -/
theorem flip1 (n i : Int) : get (x8 (put n) (one (ix i))) = get (put n) := by
  obtain ⟨m, hm, e⟩ := nat16 n
  obtain ⟨j, hj, e2, -⟩ := nat8 i
  rw [e, ix_eq, e2, (flip_all m hm j hj).1, get_all m hm]
/-- Two bits turned: there is none. -/
theorem flip2 (n i : Int) : getB (x8 (x8 (put n) (one (ix i))) (one (ix (IntKind.i64.wrap (bits .and .i64 i 7 + 1))))) = false := by
  obtain ⟨m, hm, e⟩ := nat16 n
  obtain ⟨j, hj, e2, e3⟩ := nat8 i
  have h1 : bits .and .i64 i 7 = i % 8 := and_mask64 i 3 (by decide)
  have h2 : IntKind.i64.wrap (i % 8 + 1) = i % 8 + 1 := by rw [IntKind.wrap_i64]; omega
  rw [e, h1, h2, ix_eq, ix_eq, e2, ← e2, e3, e2]
  exact (flip_all m hm j hj).2
theorem S1_eq (M r i : Int) (ds : List Int) : S1 M r i ds = x8 (adr0 M r) (one (ix i)) :: adr1 r :: ds := by
  unfold S1
  rw [setI_set]
  rfl
theorem S2_eq (M r i k : Int) (ds : List Int) : S2 M r i k ds = x8 (adr0 M r) (one (ix i)) :: x8 (adr1 r) (one (ix k)) :: ds := by
  unfold S2
  rw [setI_set, S1_eq]
  rfl
theorem T2_eq (M r i k : Int) (ds : List Int) : T2 M r i k ds = x8 (adr0 M r) (one (ix i)) :: x8 (adr1 r) (one (ix k)) :: ds := by
  unfold T2
  rw [S2_eq, List.drop_zero, List.take_of_length_le (by simp; omega)]
theorem S3_0 (M r i k W : Int) (ds : List Int) : S3 M r i k 0 W ds = x8 (x8 (adr0 M r) (one (ix i))) (one (ix (IntKind.i64.wrap (W + 1)))) :: x8 (adr1 r) (one (ix k)) :: ds := by
  unfold S3
  rw [setI_set, S2_eq]
  rfl
theorem S3_1 (M r i k W : Int) (ds : List Int) : S3 M r i k 1 W ds = x8 (adr0 M r) (one (ix i)) :: x8 (x8 (adr1 r) (one (ix k))) (one (ix (IntKind.i64.wrap (W + 1)))) :: ds := by
  unfold S3
  rw [setI_set, S2_eq]
  rfl
theorem sec_in {M r i k a W : Int} {ds : List Int} {A B : Prop} (h40 : ds.length = 40) (ha : a = 0 ∨ a = 1) (hg : gB (T3 M r i k a W ds) = false) (hl : (S3 M r i k a W ds).length = 42) (hB : B) : secE M r i k a W ds A B := by
  have hs : (S2 M r i k ds).length = 42 := by rw [S2_eq]; simp [h40]
  have ht : (T3 M r i k a W ds).length = 42 := by
    unfold T3
    rw [List.drop_zero, List.length_take, hl]
    omega
  have h0 : 0 ≤ a := by omega
  have h8 : 0 ≤ ix (IntKind.i64.wrap (W + 1)) := by rw [ix_eq]; omega
  exact selT (dT h0) (selT (dT (by omega)) (selT (dT (by omega)) (selT (dT h8) (selT (dT h0) (selT (dT (by omega)) (selT (dT (by omega)) (selT (dT (by omega)) ⟨ht, selF hg hB⟩)))))))
theorem both_in {M r i k two : Int} {ds : List Int} {A B : Prop} (h40 : ds.length = 40) (hB : B) : bothE M r i k (atI two) ds A B := by
  have ha : atI two = 0 ∨ atI two = 1 := by
    have : atI two = two % 2 := and_mask64 two 1 (by decide)
    rw [this]; omega
  unfold bothE
  rcases ha with h | h
  · rw [h]
    refine selT rfl (sec_in h40 (.inl rfl) ?_ (by rw [S3_0]; simp [h40]) hB)
    unfold gB T3
    rw [S3_0, List.drop_zero, List.take_of_length_le (by simp; omega)]
    have : getB (x8 (x8 (adr0 M r) (one (ix i))) (one (ix (IntKind.i64.wrap (bits .and .i64 i 7 + 1))))) = false := flip2 _ i
    show (getB (x8 (x8 (adr0 M r) (one (ix i))) (one (ix (IntKind.i64.wrap (bits .and .i64 i 7 + 1))))) && _) = false
    rw [this]
    rfl
  · rw [h]
    refine selF rfl (sec_in h40 (.inr rfl) ?_ (by rw [S3_1]; simp [h40]) hB)
    unfold gB T3
    rw [S3_1, List.drop_zero, List.take_of_length_le (by simp; omega)]
    have : getB (x8 (x8 (adr1 r) (one (ix k))) (one (ix (IntKind.i64.wrap (bits .and .i64 k 7 + 1))))) = false := flip2 _ k
    show (_ && getB (x8 (x8 (adr1 r) (one (ix k))) (one (ix (IntKind.i64.wrap (bits .and .i64 k 7 + 1)))))) = false
    rw [this, Bool.and_false]
theorem kind_ok {r : Int} (h : 0 ≤ r ∧ r < 25) : kindF r ≠ 0 := by
  unfold kindF
  by_cases c : r = 0
  · rw [dT c]; exact (by decide : (1 : Int) ≠ 0)
  · rw [dF c, dT (by omega : r ≥ 1), dT (by omega : r ≤ 24)]; exact (by decide : (2 : Int) ≠ 0)
theorem back_in {M r i k two : Int} {ds : List Int} (h40 : ds.length = 40) (hM : 1 ≤ M ∧ M ≤ 8) (hr : 0 ≤ r ∧ r < 25) : backE M r i k (atI two) ds fun o => o.res = .v (.c (.b true)) := by
  have hs : (S2 M r i k ds).length = 42 := by rw [S2_eq]; simp [h40]
  have ht : (T2 M r i k ds).length = 42 := by rw [T2_eq]; simp [h40]
  have h8 : ∀ n, 0 ≤ ix n := fun n => by rw [ix_eq]; omega
  obtain ⟨a1, a2, a3, a4⟩ := adr_of (M := M) (r := r) ⟨hM.1, hM.2, by omega, by omega⟩
  have f1 : get (x8 (adr0 M r) (one (ix i))) = get (adr0 M r) := flip1 _ i
  have f2 : get (x8 (adr1 r) (one (ix k))) = get (adr1 r) := flip1 _ k
  have g1 : getB (x8 (adr0 M r) (one (ix i))) = true := by unfold getB; rw [f1]; exact a1
  have g2 : getB (x8 (adr1 r) (one (ix k))) = true := by unfold getB; rw [f2]; exact a2
  have n1 : getN (x8 (adr0 M r) (one (ix i))) = getN (adr0 M r) := by unfold getN; rw [f1]
  have n2 : getN (x8 (adr1 r) (one (ix k))) = getN (adr1 r) := by unfold getN; rw [f2]
  have e0 : (T2 M r i k ds).getD 0 0 = x8 (adr0 M r) (one (ix i)) := by rw [T2_eq]; rfl
  have e1 : (T2 M r i k ds).getD 1 0 = x8 (adr1 r) (one (ix k)) := by rw [T2_eq]; rfl
  have eD : List.drop 2 (T2 M r i k ds) = ds := by rw [T2_eq]; rfl
  unfold backE
  refine selF (by simp [bne, h40]) (selT (dT (by omega)) (selT (dT (h8 i)) (selT (dT (by omega)) (selT (dT (by omega)) (selT (dT (h8 k)) (selT (dT (by omega)) (selT (dT (by omega)) ⟨ht, selT ?_ ⟨?_, both_in h40 ?_⟩⟩)))))))
  · unfold gB
    rw [e0, e1, g1, g2]; rfl
  · unfold mK
    rw [e0, e1, n1, n2, a4]
    exact ⟨kind_ok hr, by omega⟩
  · unfold finE
    rw [e0, e1, n1, n2, a3, a4, eD]
    refine selT (beq_self_eq_true _) (selT (beq_self_eq_true _) (selT (dT (by omega)) ⟨?_, ?_⟩))
    · rw [List.drop_zero, List.take_length]; omega
    · rw [List.drop_zero, List.take_length]
      exact selT (beq_self_eq_true _) rfl
theorem back_true (mag row i k two : Int) (ds : List Int) : Box ((t_back [.c (.i .i64 mag), .c (.i .i64 row), .c (.l .u8 ds), .c (.i .i64 i), .c (.i .i64 k), .c (.i .i64 two)] []).run fun o => o.res = .v (.c (.b true))) := by
  refine Box.of_eq (back_tree mag row i k two ds _) ?_
  by_cases h1 : ds.length = 40
  · have hm := mM_in mag
    exact selF (by simp [bne, h1]) ⟨⟨by decide, by decide⟩, ⟨by decide, by decide⟩, ⟨⟨hm.1, hm.2, by omega, by omega⟩, h1⟩, back_in h1 hm ⟨by omega, by omega⟩⟩
  · exact selT (by rw [bne_iff_ne]; omega) rfl
def shsBack : List Sh := [.i .i64, .i .i64, .row .u8, .i .i64, .i .i64, .i .i64]
theorem back_law (xs : List NV) (h : R2 ShOk shsBack xs) : Holds (t_back xs []) fun o => o.res = .v (.c (.b true)) := by
  cases h with
  | cons h1 h =>
    cases h with
    | cons h2 h =>
      cases h with
      | cons h3 h =>
        cases h with
        | cons h4 h =>
          cases h with
          | cons h5 h =>
            cases h with
            | cons h6 h =>
              cases h
              cases h1 with
              | @i _ n1 _ =>
                cases h2 with
                | @i _ n2 _ =>
                  cases h3 with
                  | @row _ ds _ =>
                    cases h4 with
                    | @i _ n4 _ =>
                      cases h5 with
                      | @i _ n5 _ =>
                        cases h6 with
                        | @i _ n6 _ => exact Box.holds (back_true n1 n2 n4 n5 n6 ds)
end Go.Proofs.YtjjkbnipokpmcaaDoor.pk
