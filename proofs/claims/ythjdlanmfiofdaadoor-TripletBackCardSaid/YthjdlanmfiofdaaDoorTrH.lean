/-
  TripletBack: the loop that turns bits, the loop that compares; the law's code.
-/
import Derived.Test.YthjdlanmfiofdaaDoorTrG
namespace Go.Proofs.YthjdlanmfiofdaaDoor.tr
open Go Go.Nx Go.Proofs.YthjdlanmfiofdaaDoor.pk Go.Proofs.YthjdlanmfiofdaaDoor.ln Go.Proofs.YthjdlanmfiofdaaDoor.hd

def mustN (m : Int) : Prop := 0 < m ∧ m < 4611686018427387904
noncomputable def P9 (i k : Int) : Int := IntKind.i64.wrap (IntKind.i64.wrap (3 + IntKind.i64.wrap (3 * i)) + IntKind.i64.wrap (k.tdiv 8))
noncomputable def U9 (k : Int) : Int := IntKind.u64.wrap (k.tmod 8)
noncomputable def K9 (k : Int) : Int := (IntKind.i64.wrap (k + 1)).tmod 24
noncomputable def chk9 (i : Int) (qa : Nat) (A : List Int) (k : Int) (X : Prop) : Prop := sel (decide (0 ≤ P9 i k)) (sel (decide (P9 i k < (qa : Int))) (sel (decide (0 + (P9 i k).toNat < A.length)) (sel (decide (0 ≤ U9 k)) (sel (decide (0 ≤ P9 i k)) (sel (decide (P9 i k < (qa : Int))) (sel (decide (0 + (P9 i k).toNat < A.length)) X False) False) False) False) False) False) False
noncomputable def A9 (A : List Int) (i k : Int) : List Int := setI A (0 + (P9 i k).toNat) (x8 (A.getD (0 + (P9 i k).toNat) 0) (shlv .u8 1 (U9 k))) 0
noncomputable def nxt9 (W : List (List Sc)) (code : Int) (bs : List Int) (at1 : Int) (ok : Bool) (A : List Int) (qw qa : Nat) (i : Int) (R : RO → Prop) (k : Int) : Prop :=
  chk9 i qa A k (sel (i == at1) (chk9 i qa (A9 A i k) (K9 k) (R (.next (sB2 W code bs at1 ok (A9 (A9 A i k) i (K9 k)) qw qa (IntKind.i64.wrap (i + 1)))))) (R (.next (sB2 W code bs at1 ok (A9 A i k) qw qa (IntKind.i64.wrap (i + 1))))))
theorem round_b2 (W : List (List Sc)) (code : Int) (bs : List Int) (at1 : Int) (ok : Bool) (A : List Int) (qw qa : Nat) (i : Int) (R : RO → Prop) : (roundT X_b2 2 [1, 3, 4, 11, 12, 14, 16] [1, 4, 11, 12, 14] (bodyLoop fTBack 2) (sB2 W code bs at1 ok A qw qa i)).run R =
    sel (decide (i < 13)) (sel (decide (i < (bs.length : Int))) (sel (decide (0 ≤ i)) (sel (decide (i < (bs.length : Int))) (sel (decide (i.toNat < bs.length)) (mustN 24 ∧ nxt9 W code bs at1 ok A qw qa i R (bs.getD i.toNat 0 % 24)) False) False) False) (nxt9 W code bs at1 ok A qw qa i R 0)) (R (.done .normal (dB2 W code at1 ok A qw qa))) := by kernel_rfl
/-! ### what the turns do -/
noncomputable def T1 (A : List Int) (i k : Nat) : List Int := A.set (3 + 3 * i + k / 8) (x8 (A.getD (3 + 3 * i + k / 8) 0) (shlv .u8 1 ((k % 8 : Nat) : Int)))
noncomputable def kOf9 (bs : List Int) (j : Nat) : Int := bif decide (j < bs.length) then bs.getD j 0 % 24 else 0
noncomputable def k9 (bs : List Int) (j : Nat) : Nat := (kOf9 bs j).toNat
theorem kOf9_in (bs : List Int) (j : Nat) : 0 ≤ kOf9 bs j ∧ kOf9 bs j < 24 := by
  unfold kOf9
  cases decide (j < bs.length) with
  | false => show 0 ≤ (0 : Int) ∧ (0 : Int) < 24; decide
  | true =>
    show 0 ≤ bs.getD j 0 % 24 ∧ bs.getD j 0 % 24 < 24
    omega
theorem k9_in (bs : List Int) (j : Nat) : k9 bs j < 24 := by
  have := kOf9_in bs j
  unfold k9
  omega
noncomputable def step9 (bs : List Int) (at1 : Int) (A : List Int) (j : Nat) : List Int := bif ((j : Int) == at1) then T1 (T1 A j (k9 bs j)) j ((k9 bs j + 1) % 24) else T1 A j (k9 bs j)
noncomputable def trn (bs : List Int) (at1 : Int) : Nat → List Int → List Int
  | 0, A => A
  | n + 1, A => trn bs at1 n (step9 bs at1 A (12 - n))
def L42 (X : List Int) : List Int := (List.range 42).map fun j => X.getD j 0
theorem L42_eq (X : List Int) (h : X.length = 42) : L42 X = X := by
  unfold L42
  refine List.ext_getElem (by simp [h]) fun j h1 h2 => ?_
  rw [List.getElem_map, List.getElem_range, List.getD_eq_getElem?_getD, List.getElem?_eq_getElem h2]
  rfl
theorem T1_len (A : List Int) (i k : Nat) : (T1 A i k).length = A.length := by unfold T1; rw [List.length_set]
theorem step9_len (bs : List Int) (at1 : Int) (A : List Int) (j : Nat) : (step9 bs at1 A j).length = A.length := by
  unfold step9
  cases ((j : Int) == at1) with
  | false => exact T1_len _ _ _
  | true => exact (T1_len _ _ _).trans (T1_len _ _ _)
theorem trn_len (bs : List Int) (at1 : Int) : ∀ (n : Nat) (A : List Int), (trn bs at1 n A).length = A.length
  | 0, _ => rfl
  | n + 1, A => (trn_len bs at1 n _).trans (step9_len bs at1 A _)
theorem P9_eq (i k : Int) (hi : 0 ≤ i ∧ i < 13) (hk : 0 ≤ k ∧ k < 24) : P9 i k = 3 + 3 * i + k / 8 := by
  unfold P9
  rw [Int.tdiv_eq_ediv_of_nonneg hk.1, IntKind.wrap_i64, IntKind.wrap_i64, IntKind.wrap_i64, IntKind.wrap_i64]
  omega
theorem U9_eq (k : Int) (hk : 0 ≤ k ∧ k < 24) : U9 k = k % 8 := by
  unfold U9
  rw [Int.tmod_eq_emod_of_nonneg hk.1, IntKind.wrap_u64]
  omega
theorem K9_eq (k : Int) (hk : 0 ≤ k ∧ k < 24) : K9 k = (k + 1) % 24 := by
  unfold K9
  have e : IntKind.i64.wrap (k + 1) = k + 1 := by rw [IntKind.wrap_i64]; omega
  rw [e, Int.tmod_eq_emod_of_nonneg (by omega)]
theorem chk9_in {i : Int} {qa : Nat} {A : List Int} {k : Int} {X : Prop} (h : 0 ≤ i ∧ i < 13) (hk : 0 ≤ k ∧ k < 24) (hq : qa = 42) (hA : A.length = 42) (hX : X) : chk9 i qa A k X := by
  unfold chk9
  rw [P9_eq i k h hk, U9_eq k hk]
  exact selT (dT (by omega)) (selT (dT (by omega)) (selT (dT (by omega)) (selT (dT (by omega)) (selT (dT (by omega)) (selT (dT (by omega)) (selT (dT (by omega)) hX))))))
theorem A9_eq (A : List Int) (i k : Int) (h : 0 ≤ i ∧ i < 13) (hk : 0 ≤ k ∧ k < 24) : A9 A i k = T1 A i.toNat k.toNat := by
  unfold A9 T1
  rw [setI_set, P9_eq i k h hk, U9_eq k hk, show 0 + (3 + 3 * i + k / 8).toNat = 3 + 3 * i.toNat + k.toNat / 8 by omega, show ((k.toNat % 8 : Nat) : Int) = k % 8 by omega]
noncomputable def pB2 : List Pat := pats 190 [(1, .i .i64), (3, .l .i64), (4, .i .i64), (11, .b), (12, .h 0 0), (14, .h 1 0), (16, .i .i64)]
def rB2 : List RPat := [.recs 3 66 [.i .i64, .i .i64, .i .i64], .ints 1 5 .u8]
noncomputable def lB2 : List Leaf × List (List Leaf) → Tr (NExit × St) := fun x => match x with
  | ([.i code, .l bs, .i at1, .b ok, .n qw, .n qa, .i i], [[.r W], [.l A]]) => .must (A.length = 42 ∧ qa = 42 ∧ 0 ≤ i ∧ i ≤ 13) (.ret (.normal, dB2 W code at1 ok (L42 (trn bs at1 (13 - i.toNat) A)) qw qa))
  | _ => .fail
def muB2 : List Leaf × List (List Leaf) → Nat := fun x => match x with
  | ([.i _, .l _, .i _, .b _, .n _, .n _, .i i], _) => (13 - i).toNat
  | _ => 0
set_option maxRecDepth 100000 in
theorem loop_b2 : LOk Tryd.prog GL 0 2 (bodyLoop fTBack 2) (sumP pB2 rB2 lB2) := by
  refine sumP_ok (X := X_b2) kc_b2 mixed (LAll.none (by kernel_rfl)) [1, 3, 4, 11, 12, 14, 16] [1, 4, 11, 12, 14] _ _ _ muB2 ?_
  rintro ⟨a, b⟩ R h
  unfold lB2 at h
  split at h
  case h_2 => exact h.elim
  rename_i code bs at1 ok qw qa i W A he
  cases he
  have h1 := h.1
  have h2 : R (.normal, dB2 W code at1 ok (L42 (trn bs at1 (13 - i.toNat) A)) qw qa) := h.2
  clear h
  obtain ⟨hA, rfl, hi0, hi⟩ := h1
  rw [L42_eq _ ((trn_len bs at1 _ A).trans hA)] at h2
  show (roundT X_b2 2 [1, 3, 4, 11, 12, 14, 16] [1, 4, 11, 12, 14] (bodyLoop fTBack 2) (sB2 W code bs at1 ok A qw 42 i)).run _
  rw [round_b2]
  refine sel_by (fun hlt => ?_) fun hge => ?_
  · have w2 : IntKind.i64.wrap (i + 1) = i + 1 := by rw [IntKind.wrap_i64]; omega
    have en : 13 - i.toNat = (13 - (i + 1).toNat) + 1 := by omega
    have ei : 12 - (13 - (i + 1).toNat) = i.toNat := by omega
    have et : trn bs at1 (13 - i.toNat) A = trn bs at1 (13 - (i + 1).toNat) (step9 bs at1 A i.toNat) := by
      rw [en]
      show trn bs at1 (13 - (i + 1).toNat) (step9 bs at1 A (12 - (13 - (i + 1).toNat))) = _
      rw [ei]
    have go : ∀ A2 : List Int, A2 = step9 bs at1 A i.toNat → ∃ y, sB2 W code bs at1 ok A2 qw 42 (i + 1) = mkSt pB2 rB2 y ∧ muB2 y < muB2 ([.i code, .l bs, .i at1, .b ok, .n qw, .n 42, .i i], [[.r W], [.l A]]) ∧ (lB2 y).run R := by
      intro A2 hm
      have hl : A2.length = 42 := by rw [hm, step9_len]; exact hA
      refine ⟨([.i code, .l bs, .i at1, .b ok, .n qw, .n 42, .i (i + 1)], [[.r W], [.l A2]]), rfl, by show (13 - (i + 1)).toNat < (13 - i).toNat; omega, ⟨hl, rfl, by omega, by omega⟩, ?_⟩
      show R (.normal, dB2 W code at1 ok (L42 (trn bs at1 (13 - (i + 1).toNat) A2)) qw 42)
      rw [L42_eq _ ((trn_len bs at1 _ A2).trans hl), hm, ← et]
      exact h2
    have key : ∀ k, k = kOf9 bs i.toNat → nxt9 W code bs at1 ok A qw 42 i (fun o => match o with
      | .next s => ∃ b, s = mkSt pB2 rB2 b ∧ muB2 b < muB2 ([.i code, .l bs, .i at1, .b ok, .n qw, .n 42, .i i], [[.r W], [.l A]]) ∧ (lB2 b).run R
      | .done e s => R (e, s)) k := by
      intro k hk
      have hk24 : 0 ≤ k ∧ k < 24 := by rw [hk]; exact kOf9_in bs i.toNat
      have hK : 0 ≤ K9 k ∧ K9 k < 24 := by rw [K9_eq k hk24]; omega
      have ek : k.toNat = k9 bs i.toNat := by unfold k9; rw [hk]
      have ek2 : (K9 k).toNat = (k9 bs i.toNat + 1) % 24 := by rw [K9_eq k hk24, ← ek]; omega
      have ein : ((i.toNat : Nat) : Int) = i := by omega
      have l1 : (A9 A i k).length = 42 := by rw [A9_eq A i k ⟨hi0, hlt⟩ hk24, T1_len]; exact hA
      unfold nxt9
      rw [w2]
      refine chk9_in ⟨hi0, hlt⟩ hk24 rfl hA ?_
      cases hq : (i == at1) with
      | true =>
        refine selT rfl (chk9_in ⟨hi0, hlt⟩ hK rfl l1 (go _ ?_))
        rw [A9_eq (A9 A i k) i _ ⟨hi0, hlt⟩ hK, A9_eq A i k ⟨hi0, hlt⟩ hk24, ek, ek2]
        unfold step9
        rw [ein, hq]
        rfl
      | false =>
        refine selF rfl (go _ ?_)
        rw [A9_eq A i k ⟨hi0, hlt⟩ hk24, ek]
        unfold step9
        rw [ein, hq]
        rfl
    refine sel_by (fun hb => ?_) fun hb => ?_
    · refine selT (dT hi0) (selT (dT hb) (selT (dT (by omega)) ⟨⟨by decide, by decide⟩, key _ ?_⟩))
      unfold kOf9
      rw [dT (show i.toNat < bs.length by omega)]
      rfl
    · refine key _ ?_
      unfold kOf9
      rw [dF (show ¬ i.toNat < bs.length by omega)]
      rfl
  · have e0 : 13 - i.toNat = 0 := by omega
    rw [e0] at h2
    exact h2
/-! ### the loop that compares -/
def vR9 (X : List (List Sc)) (j c : Nat) : Int := ((X.getD j []).getD c (Sc.i 0)).n
def bR9 (B : List (List Sc)) (j : Nat) : Bool := ((B.getD j []).getD 0 (Sc.i 0)).t
noncomputable def inE9 (X : List (List Sc)) (i : Int) (K : Prop) : Prop := sel (decide (0 ≤ i)) (sel (decide (i < ((13 : Nat) : Int))) (sel (decide (0 + i.toNat < X.length)) K False) False) False
noncomputable def rB4 (ok : Bool) : St := { fr := frame 190 [(10, .v (.c (.b false))), (11, .v (.c (.b ok)))], rg := [] }
theorem round_b4 (W X B : List (List Sc)) (a i : Int) (ok : Bool) (R : RO → Prop) : (roundT X_b4 4 [4, 11, 12, 20, 21, 23] [10, 11] (bodyLoop fTBack 4) (sB4 W X B a ok i)).run R =
    sel (decide (i < 13)) (inE9 B i (sel (bR9 B (0 + i.toNat) == (i == a)) (R (.done .ret (rB4 ok))) (sel (i != a) (inE9 X i (inE9 W i ((vR9 X (0 + i.toNat) 0 = vR9 W (0 + i.toNat) 0 ∧ vR9 X (0 + i.toNat) 1 = vR9 W (0 + i.toNat) 1 ∧ vR9 X (0 + i.toNat) 2 = vR9 W (0 + i.toNat) 2) ∧ R (.next (sB4 W X B a ok (IntKind.i64.wrap (i + 1))))))) (R (.next (sB4 W X B a ok (IntKind.i64.wrap (i + 1)))))))) (R (.done .normal (dB4 ok))) := by kernel_rfl
/-- What is read is what was sent, but for one. -/
def alike9 (W X B : List (List Sc)) (a : Int) (j : Nat) : Prop := bR9 B j = !decide ((j : Int) = a) ∧ ((j : Int) ≠ a → ∀ c, c < 3 → vR9 X j c = vR9 W j c)
noncomputable def pB4 : List Pat := pats 190 [(4, .i .i64), (11, .b), (12, .h 0 0), (20, .h 1 0), (21, .h 2 0), (23, .i .i64)]
def rB4p : List RPat := [.recs 3 66 [.i .i64, .i .i64, .i .i64], .recs 3 66 [.i .i64, .i .i64, .i .i64], .recs 1 4 [.b]]
noncomputable def lB4 : List Leaf × List (List Leaf) → Tr (NExit × St) := fun x => match x with
  | ([.i a, .b ok, .n q1, .n q2, .n q3, .i i], [[.r W], [.r X], [.r B]]) => .must ((q1 = 13 ∧ q2 = 13 ∧ q3 = 13) ∧ (W.length = 13 ∧ X.length = 13 ∧ B.length = 13) ∧ 0 ≤ i ∧ i ≤ 13 ∧ ∀ j : Nat, i ≤ (j : Int) → j < 13 → alike9 W X B a j) (.ret (.normal, dB4 ok))
  | _ => .fail
def muB4 : List Leaf × List (List Leaf) → Nat := fun x => match x with
  | ([.i _, .b _, .n _, .n _, .n _, .i i], _) => (13 - i).toNat
  | _ => 0
set_option maxRecDepth 100000 in
theorem loop_b4 : LOk Tryd.prog GL 0 4 (bodyLoop fTBack 4) (sumP pB4 rB4p lB4) := by
  refine sumP_ok (X := X_b4) kc_b4 mixed (LAll.none (by kernel_rfl)) [4, 11, 12, 20, 21, 23] [10, 11] _ _ _ muB4 ?_
  rintro ⟨p, q⟩ R h
  unfold lB4 at h
  split at h
  case h_2 => exact h.elim
  rename_i a ok q1 q2 q3 i W X B he
  cases he
  have h1 := h.1
  have h2 : R (.normal, dB4 ok) := h.2
  clear h
  obtain ⟨⟨rfl, rfl, rfl⟩, ⟨hW, hX, hB⟩, hi0, hi, hall⟩ := h1
  show (roundT X_b4 4 [4, 11, 12, 20, 21, 23] [10, 11] (bodyLoop fTBack 4) (sB4 W X B a ok i)).run _
  rw [round_b4]
  refine sel_by (fun hlt => ?_) fun hge => h2
  have w2 : IntKind.i64.wrap (i + 1) = i + 1 := by rw [IntKind.wrap_i64]; omega
  have hin : ∀ (Y : List (List Sc)) (K : Prop), Y.length = 13 → K → inE9 Y i K := fun Y K hY hK => selT (dT hi0) (selT (dT (by omega)) (selT (dT (by omega)) hK))
  have go : ∃ y, sB4 W X B a ok (i + 1) = mkSt pB4 rB4p y ∧ muB4 y < muB4 ([.i a, .b ok, .n 13, .n 13, .n 13, .i i], [[.r W], [.r X], [.r B]]) ∧ (lB4 y).run R :=
    ⟨([.i a, .b ok, .n 13, .n 13, .n 13, .i (i + 1)], [[.r W], [.r X], [.r B]]), rfl, by show (13 - (i + 1)).toNat < (13 - i).toNat; omega, ⟨⟨⟨rfl, rfl, rfl⟩, ⟨hW, hX, hB⟩, by omega, by omega, fun j hj => hall j (by omega)⟩, h2⟩⟩
  have hj := hall i.toNat (by omega) (by omega)
  have ein : ((i.toNat : Nat) : Int) = i := by omega
  unfold alike9 at hj
  rw [ein] at hj
  rw [w2, Nat.zero_add]
  refine hin B _ hB ?_
  cases hq : (i == a) with
  | true =>
    have hq' : i = a := by simpa using hq
    have e1 : bR9 B i.toNat = false := by rw [hj.1, dT hq']; rfl
    rw [e1]
    exact selF rfl (selF (by simp [bne, hq]) go)
  | false =>
    have hq' : ¬ i = a := by simpa using hq
    have e1 : bR9 B i.toNat = true := by rw [hj.1, dF hq']; rfl
    have hv := hj.2 hq'
    rw [e1]
    exact selF rfl (selT (by simp [bne, hq]) (hin X _ hX (hin W _ hW ⟨⟨hv 0 (by decide), hv 1 (by decide), hv 2 (by decide)⟩, go⟩)))
noncomputable def c_tback : FuncId → Option Con := conOf [(26, num.tNumV), (34, t_first9), (35, t_tof), (36, tTB), (15, tReadV), (38, tTread)]
theorem kc_tback : ∀ f T, c_tback f = some T → Known Tryd.prog GL f T := (Knowns.cons (known_gl num.kNumV) (.cons k_first9 (.cons k_tof (.cons kTB (.cons kReadV (.cons kTread .nil)))))).get
noncomputable def X_tback : Cx := { P := Tryd.prog, con := c_tback, glob := GL, m := 0, loops := [] }
noncomputable def t_tback : Con := fun args regs => if regs.length = 0 then nfun Tryd.prog GL c_tback [(0, [0, 1, 2, 3, 4, 11, 12, 13], unroll X_tback 0 [0, 1, 2, 3, 4, 11, 12, 13] [0, 1, 3, 4, 11, 12] (bodyLoop Tryd.f9 0) 14), (2, [1, 3, 4, 11, 12, 14, 16], sumP pB2 rB2 lB2), (4, [4, 11, 12, 20, 21, 23], sumP pB4 rB4p lB4)] Tryd.f9 args regs else .fail
theorem k_tback : Known Tryd.prog GL 9 t_tback := known_loops 0 Tryd.func9 rfl (by kernel_rfl) mixed kc_tback (LAll.three (i1 := 0) (i2 := 2) (i3 := 4) (b1 := bodyLoop Tryd.f9 0) (b2 := bodyLoop Tryd.f9 2) (b3 := bodyLoop Tryd.f9 4) (by kernel_rfl) rfl (by decide) (unroll_ok (X := X_tback) kc_tback mixed (LAll.none (by kernel_rfl)) [0, 1, 2, 3, 4, 11, 12, 13] [0, 1, 3, 4, 11, 12] 14) loop_b2 loop_b4)

/-! ### what it comes to -/
noncomputable def wrap8 (n : Int) : Int := IntKind.i64.wrap (n % 8 + 1)
def idxE (l : List Int) (j : Nat) (K : Prop) : Prop := sel (decide ((j : Int) < (l.length : Int))) (sel (decide (j < l.length)) K False) False
noncomputable def WT (l : List Int) : List (List Sc) := [rowX (l.getD 0 0), rowX (l.getD 1 0), rowX (l.getD 2 0), rowX (l.getD 3 0), rowX (l.getD 4 0), rowX (l.getD 5 0), rowX (l.getD 6 0), rowX (l.getD 7 0), rowX (l.getD 8 0), rowX (l.getD 9 0), rowX (l.getD 10 0), rowX (l.getD 11 0), rowX (l.getD 12 0)]
noncomputable def AT (l : List Int) (mg cd : Int) : List Int := adr0 mg 26 :: adr1 26 :: LT cd (rowX (l.getD 0 0)) (rowX (l.getD 1 0)) (rowX (l.getD 2 0)) (rowX (l.getD 3 0)) (rowX (l.getD 4 0)) (rowX (l.getD 5 0)) (rowX (l.getD 6 0)) (rowX (l.getD 7 0)) (rowX (l.getD 8 0)) (rowX (l.getD 9 0)) (rowX (l.getD 10 0)) (rowX (l.getD 11 0)) (rowX (l.getD 12 0))
noncomputable def tk (L : List Int) : List Int := List.take 42 (List.drop 0 L)
noncomputable def dsT (bs : List Int) : List Int := List.take 39 (List.drop 0 ((bs.drop 2).drop 1))
def mustTB (mg cd row : Int) : Prop := (1 ≤ mg ∧ mg ≤ 8) ∧ (0 ≤ cd ∧ cd ≤ 15) ∧ (row = 26 ∨ row = 28 ∨ row = 29)
def mustRd (bs : List Int) : Prop := bs.length = 42 ∧ getB (bs.getD 0 0) = true ∧ getB (bs.getD 1 0) = true ∧ (kindF (raT bs) ≠ 0 ∧ raT bs ≥ 26) ∧ getB ((bs.drop 2).getD 0 0) = true
noncomputable def BT (l bs : List Int) (mg cd a : Int) : List Int := tk (L42 (trn bs a (13 - (0 : Int).toNat) (AT l mg cd)))
noncomputable def bodyB (l bs : List Int) (mg cd a : Int) (R : Out → Prop) : Prop :=
  mustTB mg cd 26 ∧ (((AT l mg cd).length = 42 ∧ 42 = (42 : Nat) ∧ 0 ≤ (0 : Int) ∧ (0 : Int) ≤ 13) ∧ (mustRd (BT l bs mg cd a) ∧ ((kindF (raT (BT l bs mg cd a)) = 3 ∧ mustNum (dsT (BT l bs mg cd a))) ∧
    sel (getN (((BT l bs mg cd a).drop 2).getD 0 0) != cd) (R (oB false))
      (((13 = 13 ∧ 13 = 13 ∧ 13 = 13) ∧ ((WT l).length = 13 ∧ (XT (dsT (BT l bs mg cd a))).length = 13 ∧ (GT (dsT (BT l bs mg cd a))).length = 13) ∧ 0 ≤ (0 : Int) ∧ (0 : Int) ≤ 13 ∧ ∀ j : Nat, (0 : Int) ≤ (j : Int) → j < 13 → alike9 (WT l) (XT (dsT (BT l bs mg cd a))) (GT (dsT (BT l bs mg cd a))) a j) ∧ R (oB true)))))
theorem tback_tree (n c a : Int) (l bs : List Int) (R : Out → Prop) : (t_tback [.c (.i .i64 n), .c (.i .i64 c), .c (.l .i64 l), .c (.l .i64 bs), .c (.i .i64 a)] []).run R =
    sel ((l.length : Int) != 13) (R (oB true)) (mustN 8 ∧ (mustN 16 ∧ (mustN 13 ∧ idxE l 0 (idxE l 1 (idxE l 2 (idxE l 3 (idxE l 4 (idxE l 5 (idxE l 6 (idxE l 7 (idxE l 8 (idxE l 9 (idxE l 10 (idxE l 11 (idxE l 12 (bodyB l bs (wrap8 n) (c % 16) (a % 13) R)))))))))))))))) := by kernel_rfl
end Go.Proofs.YthjdlanmfiofdaaDoor.tr
