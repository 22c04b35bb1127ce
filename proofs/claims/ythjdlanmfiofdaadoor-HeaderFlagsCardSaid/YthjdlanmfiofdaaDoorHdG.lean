/-
  HeaderFlags: how many bytes differ: the law's loop.
-/
import Derived.Test.YthjdlanmfiofdaaDoorHdE
namespace Go.Nx
open Go
/-- A tree along a road: 'some b' is a fork that goes to b, 'none' one that is left. -/
def Tr.follow {α : Type} : Tr α → List (Option Bool) → Tr α
  | .ret a, _ => .ret a
  | .must p x, bs => .must p (x.follow bs)
  | .br c x y, [] => .br c x y
  | .br c x y, none :: bs => .br c (x.follow bs) (y.follow bs)
  | .br c x _, some true :: bs => .must (c = true) (x.follow bs)
  | .br c _ y, some false :: bs => .must (c = false) (y.follow bs)
  | .all p h f, _ => .all p h f
  | .fail, _ => .fail
theorem Tr.follow_run {α : Type} {R : α → Prop} : ∀ (t : Tr α) (bs : List (Option Bool)), (t.follow bs).run R → t.run R
  | .ret _, _, h => h
  | .must _ x, bs, h => ⟨h.1, follow_run x bs h.2⟩
  | .br _ _ _, [], h => h
  | .br c x y, none :: bs, h => by
    rcases sel_iff.1 h with ⟨hc, h⟩ | ⟨hc, h⟩
    · exact sel_iff.2 (.inl ⟨hc, follow_run x bs h⟩)
    · exact sel_iff.2 (.inr ⟨hc, follow_run y bs h⟩)
  | .br _ x _, some true :: bs, h => sel_iff.2 (.inl ⟨h.1, follow_run x bs h.2⟩)
  | .br _ _ y, some false :: bs, h => sel_iff.2 (.inr ⟨h.1, follow_run y bs h.2⟩)
  | .all _ _ _, _, h => h
  | .fail, _, h => h
/-- So many forks that are left. -/
def skips (n : Nat) (l : List (Option Bool)) : List (Option Bool) := List.replicate n none ++ l
end Go.Nx
namespace Go.Proofs.YthjdlanmfiofdaaDoor.hd
open Go Go.Nx Go.Proofs.YthjdlanmfiofdaaDoor.pk Go.Proofs.YthjdlanmfiofdaaDoor.ln

noncomputable abbrev fFlags := Tryd.f7
noncomputable def XCmp : Cx := { P := Tryd.prog, con := fun _ => Option.none, glob := GL, m := 0, loops := [] }
noncomputable def pPl (m p s : Int) : List NC := [.i .i64 m, .i .i64 p, .i .i64 s]
def cBs (c0 c1 c2 c3 c4 c5 c6 c7 c8 c9 c10 : Bool) : List NC := [.b c0, .b c1, .b c2, .b c3, .b c4, .b c5, .b c6, .b c7, .b c8, .b c9, .b c10]
noncomputable def rgCmp (m p s m2 p2 s2 o : Int) (c0 c1 c2 c3 c4 c5 c6 c7 c8 c9 c10 : Bool) (T : List Int) : List (Option Reg) := [some ⟨3, 24, .cells [.i .i64 m, .i .i64 p, .i .i64 s]⟩, some ⟨15, 57, .cells [.i .i64 m2, .i .i64 p2, .i .i64 s2, .b c0, .b c1, .b c2, .b c3, .b c4, .b c5, .b c6, .b c7, .b c8, .b c9, .b c10, .i .i64 o]⟩, some ⟨1, 5, .ints .u8 T⟩]
noncomputable def sCmp (m p s m2 p2 s2 o : Int) (c0 c1 c2 c3 c4 c5 c6 c7 c8 c9 c10 : Bool) (T A B : List Int) (k : Int) (ok : Bool) (qt qa qb : Nat) (n i : Int) : St := { fr := frame 202 [(1, .v (.c (.i .i64 k))), (5, .v (.c (.p 0 0 0))), (7, .v (.c (.b ok))), (8, .v (.c (.p 1 0 0))), (10, .v (.c (.h 2 0 qt))), (11, .v (.c (.h 3 0 qa))), (13, .v (.c (.h 4 0 qb))), (15, .v (.c (.i .i64 n))), (16, .v (.c (.i .i64 i)))], rg := rgCmp m p s m2 p2 s2 o c0 c1 c2 c3 c4 c5 c6 c7 c8 c9 c10 T ++ [some ⟨1, 5, .ints .u8 A⟩, some ⟨1, 5, .ints .u8 B⟩] }
noncomputable def dCmp (m p s m2 p2 s2 o : Int) (c0 c1 c2 c3 c4 c5 c6 c7 c8 c9 c10 : Bool) (T B : List Int) (k : Int) (ok : Bool) (qt qb : Nat) (n : Int) : St := { fr := frame 202 [(1, .v (.c (.i .i64 k))), (5, .v (.c (.p 0 0 0))), (7, .v (.c (.b ok))), (8, .v (.c (.p 1 0 0))), (10, .v (.c (.h 2 0 qt))), (13, .v (.c (.h 3 0 qb))), (15, .v (.c (.i .i64 n)))], rg := rgCmp m p s m2 p2 s2 o c0 c1 c2 c3 c4 c5 c6 c7 c8 c9 c10 T ++ [some ⟨1, 5, .ints .u8 B⟩] }
theorem round_cmp (m p s m2 p2 s2 o : Int) (c0 c1 c2 c3 c4 c5 c6 c7 c8 c9 c10 : Bool) (T A B : List Int) (k : Int) (ok : Bool) (qt qa qb : Nat) (n i : Int) (R : RO → Prop) : (roundT XCmp 2 [1, 5, 7, 8, 10, 11, 13, 15, 16] [1, 5, 7, 8, 10, 13, 15] (bodyLoop fFlags 2) (sCmp m p s m2 p2 s2 o c0 c1 c2 c3 c4 c5 c6 c7 c8 c9 c10 T A B k ok qt qa qb n i)).run R =
    sel (decide (i < 42)) (sel (decide (0 ≤ i)) (sel (decide (i < (qa : Int))) (sel (decide (0 + i.toNat < A.length)) (sel (decide (0 ≤ i)) (sel (decide (i < (qb : Int))) (sel (decide (0 + i.toNat < B.length))
      (sel (A.getD (0 + i.toNat) 0 != B.getD (0 + i.toNat) 0)
        (R (.next (sCmp m p s m2 p2 s2 o c0 c1 c2 c3 c4 c5 c6 c7 c8 c9 c10 T A B k ok qt qa qb (IntKind.i64.wrap (n + 1)) (IntKind.i64.wrap (i + 1)))))
        (R (.next (sCmp m p s m2 p2 s2 o c0 c1 c2 c3 c4 c5 c6 c7 c8 c9 c10 T A B k ok qt qa qb n (IntKind.i64.wrap (i + 1)))))) False) False) False) False) False) False)
    (R (.done .normal (dCmp m p s m2 p2 s2 o c0 c1 c2 c3 c4 c5 c6 c7 c8 c9 c10 T B k ok qt qb n))) := by kernel_rfl
/-- In how many places two lists differ. -/
def cntL : List Int → List Int → Int
  | x :: xs, y :: ys => (bif x != y then 1 else 0) + cntL xs ys
  | _, _ => 0
noncomputable def pCmp : List Pat := pats 202 [(1, .i .i64), (5, .p 0 0 0), (7, .b), (8, .p 1 0 0), (10, .h 2 0), (11, .h 3 0), (13, .h 4 0), (15, .i .i64), (16, .i .i64)]
def rCmp : List RPat := [.cells 3 24 [.i .i64, .i .i64, .i .i64], .cells 15 57 [.i .i64, .i .i64, .i .i64, .b, .b, .b, .b, .b, .b, .b, .b, .b, .b, .b, .i .i64], .ints 1 5 .u8, .ints 1 5 .u8, .ints 1 5 .u8]
noncomputable def lCmp : List Leaf × List (List Leaf) → Tr (NExit × St) := fun x => match x with
  | ([.i k, .b ok, .n qt, .n qa, .n qb, .i n, .i i], [[.i m, .i p, .i s], [.i m2, .i p2, .i s2, .b c0, .b c1, .b c2, .b c3, .b c4, .b c5, .b c6, .b c7, .b c8, .b c9, .b c10, .i o], [.l T], [.l A], [.l B]]) => .must (A.length = 42 ∧ B.length = 42 ∧ qa = 42 ∧ qb = 42 ∧ 0 ≤ i ∧ i ≤ 42 ∧ 0 ≤ n ∧ n ≤ i) (.ret (.normal, dCmp m p s m2 p2 s2 o c0 c1 c2 c3 c4 c5 c6 c7 c8 c9 c10 T B k ok qt qb (n + cntL (A.drop i.toNat) (B.drop i.toNat))))
  | _ => .fail
def muCmp : List Leaf × List (List Leaf) → Nat := fun x => match x with
  | ([.i _, .b _, .n _, .n _, .n _, .i _, .i i], _) => (42 - i).toNat
  | _ => 0
set_option maxRecDepth 100000 in
theorem loop_cmp : LOk Tryd.prog GL 0 2 (bodyLoop fFlags 2) (sumP pCmp rCmp lCmp) := by
  refine sumP_ok (X := XCmp) con_none mixed (LAll.none (by kernel_rfl)) [1, 5, 7, 8, 10, 11, 13, 15, 16] [1, 5, 7, 8, 10, 13, 15] _ _ _ muCmp ?_
  rintro ⟨a, b⟩ R h
  unfold lCmp at h
  split at h
  case h_2 => exact h.elim
  rename_i k ok qt qa qb n i m p s m2 p2 s2 c0 c1 c2 c3 c4 c5 c6 c7 c8 c9 c10 o T A B he
  cases he
  have h1 := h.1
  have h2 : R (.normal, dCmp m p s m2 p2 s2 o c0 c1 c2 c3 c4 c5 c6 c7 c8 c9 c10 T B k ok qt qb (n + cntL (A.drop i.toNat) (B.drop i.toNat))) := h.2
  clear h
  obtain ⟨hA, hB, rfl, rfl, hi0, hi, hn0, hn⟩ := h1
  show (roundT XCmp 2 [1, 5, 7, 8, 10, 11, 13, 15, 16] [1, 5, 7, 8, 10, 13, 15] (bodyLoop fFlags 2) (sCmp m p s m2 p2 s2 o c0 c1 c2 c3 c4 c5 c6 c7 c8 c9 c10 T A B k ok qt 42 42 n i)).run _
  rw [round_cmp]
  refine sel_by (fun hlt => ?_) fun hge => ?_
  · have hx : i.toNat < A.length := by omega
    have hy : i.toNat < B.length := by omega
    have w1 : IntKind.i64.wrap (n + 1) = n + 1 := by rw [IntKind.wrap_i64]; omega
    have w2 : IntKind.i64.wrap (i + 1) = i + 1 := by rw [IntKind.wrap_i64]; omega
    have ex : A.drop i.toNat = A.getD i.toNat 0 :: A.drop (i.toNat + 1) := by
      rw [List.drop_eq_getElem_cons hx, List.getD_eq_getElem?_getD, List.getElem?_eq_getElem hx]; rfl
    have ey : B.drop i.toNat = B.getD i.toNat 0 :: B.drop (i.toNat + 1) := by
      rw [List.drop_eq_getElem_cons hy, List.getD_eq_getElem?_getD, List.getElem?_eq_getElem hy]; rfl
    rw [ex, ey] at h2
    have et : (i + 1).toNat = i.toNat + 1 := by omega
    rw [w1, w2, Nat.zero_add]
    refine selT (dT hi0) (selT (dT (by omega)) (selT (dT hx) (selT (dT hi0) (selT (dT (by omega)) (selT (dT hy) ?_)))))
    cases hq : (A.getD i.toNat 0 != B.getD i.toNat 0) with
    | true =>
      refine selT rfl ⟨([.i k, .b ok, .n qt, .n 42, .n 42, .i (n + 1), .i (i + 1)], [[.i m, .i p, .i s], [.i m2, .i p2, .i s2, .b c0, .b c1, .b c2, .b c3, .b c4, .b c5, .b c6, .b c7, .b c8, .b c9, .b c10, .i o], [.l T], [.l A], [.l B]]), rfl, by show (42 - (i + 1)).toNat < (42 - i).toNat; omega, ⟨hA, hB, rfl, rfl, by omega, by omega, by omega, by omega⟩, ?_⟩
      show R (.normal, dCmp m p s m2 p2 s2 o c0 c1 c2 c3 c4 c5 c6 c7 c8 c9 c10 T B k ok qt 42 (n + 1 + cntL (A.drop (i + 1).toNat) (B.drop (i + 1).toNat)))
      rw [et]
      rw [show cntL (A.getD i.toNat 0 :: A.drop (i.toNat + 1)) (B.getD i.toNat 0 :: B.drop (i.toNat + 1)) = 1 + cntL (A.drop (i.toNat + 1)) (B.drop (i.toNat + 1)) by show (bif _ then _ else _) + _ = _; rw [hq]; rfl, ← Int.add_assoc] at h2
      exact h2
    | false =>
      refine selF rfl ⟨([.i k, .b ok, .n qt, .n 42, .n 42, .i n, .i (i + 1)], [[.i m, .i p, .i s], [.i m2, .i p2, .i s2, .b c0, .b c1, .b c2, .b c3, .b c4, .b c5, .b c6, .b c7, .b c8, .b c9, .b c10, .i o], [.l T], [.l A], [.l B]]), rfl, by show (42 - (i + 1)).toNat < (42 - i).toNat; omega, ⟨hA, hB, rfl, rfl, by omega, by omega, by omega, by omega⟩, ?_⟩
      show R (.normal, dCmp m p s m2 p2 s2 o c0 c1 c2 c3 c4 c5 c6 c7 c8 c9 c10 T B k ok qt 42 (n + cntL (A.drop (i + 1).toNat) (B.drop (i + 1).toNat)))
      rw [et]
      rw [show cntL (A.getD i.toNat 0 :: A.drop (i.toNat + 1)) (B.getD i.toNat 0 :: B.drop (i.toNat + 1)) = cntL (A.drop (i.toNat + 1)) (B.drop (i.toNat + 1)) by show (bif _ then _ else _) + _ = _; rw [hq]; exact Int.zero_add _] at h2
      exact h2
  · have e : A.drop i.toNat = [] := List.drop_eq_nil_iff.2 (by omega)
    rw [e] at h2
    rw [show cntL [] (List.drop i.toNat B) = 0 from rfl, Int.add_zero] at h2
    exact h2
/-- Just one place differs. -/
noncomputable def lCmp1 : List Leaf × List (List Leaf) → Tr (NExit × St) := fun x => match x with
  | ([.i k, .b ok, .n qt, .n qa, .n qb, .i n, .i i], [[.i m, .i p, .i s], [.i m2, .i p2, .i s2, .b c0, .b c1, .b c2, .b c3, .b c4, .b c5, .b c6, .b c7, .b c8, .b c9, .b c10, .i o], [.l T], [.l A], [.l B]]) => .must (A.length = 42 ∧ B.length = 42 ∧ qa = 42 ∧ qb = 42 ∧ i = 0 ∧ n = 0 ∧ cntL A B = 1) (.ret (.normal, dCmp m p s m2 p2 s2 o c0 c1 c2 c3 c4 c5 c6 c7 c8 c9 c10 T B k ok qt qb 1))
  | _ => .fail
set_option maxRecDepth 100000 in
theorem lCmp1_le {x : List Leaf × List (List Leaf)} {R : NExit × St → Prop} (h : (lCmp1 x).run R) : (lCmp x).run R := by
  unfold lCmp1 at h
  split at h
  case h_2 => exact h.elim
  have h1 := h.1
  have h2 := h.2
  clear h
  obtain ⟨hA, hB, rfl, rfl, rfl, rfl, hc⟩ := h1
  refine ⟨⟨hA, hB, rfl, rfl, by decide, by decide, by decide, by decide⟩, ?_⟩
  rw [show (0 : Int).toNat = 0 from rfl, List.drop_zero, List.drop_zero, hc]
  exact h2
theorem loop_cmp1 : LOk Tryd.prog GL 0 2 (bodyLoop fFlags 2) (sumP pCmp rCmp lCmp1) := by
  intro Γ0 w0 h0 s Γ a w R Q hI hE hW hL hK
  refine loop_cmp Γ0 w0 h0 s Γ a w R Q hI hE hW ?_ hK
  unfold sumP at hL ⊢
  split at hL
  · exact lCmp1_le hL
  · exact hL
/-- A number below m: this one. -/
def tNumK (m j : Int) : Con := fun args regs => match args, regs with
  | [.c (.i .i64 n), .c (.i .i64 k)], [] => .must (k = m ∧ 0 < m ∧ m < 4611686018427387904 ∧ n % m = j) (.ret ⟨.v (.c (.i .i64 j)), []⟩)
  | _, _ => .fail
set_option maxRecDepth 100000 in
theorem kNumK (m j : Int) : Known Tryd.prog [] 26 (tNumK m j) := by
  refine num.kNumV.less fun args regs R h => ?_
  unfold tNumK at h
  split at h
  case h_2 => exact h.elim
  rename_i n k
  have h : (k = m ∧ 0 < m ∧ m < 4611686018427387904 ∧ n % m = j) ∧ R ⟨.v (.c (.i .i64 j)), []⟩ := h
  obtain ⟨⟨rfl, h1, h1b, h2⟩, h3⟩ := h
  refine ⟨⟨h1, h1b⟩, ?_⟩
  show R ⟨.v (.c (.i .i64 (n % k))), []⟩
  rw [h2]; exact h3

/-- A header's flags, one of them turned. -/
noncomputable def ckT (f : Int) (j i : Nat) : Bool := bif i == j then !ckOf f (i : Int) else ckOf f (i : Int)
noncomputable def expC (f : Int) (j : Nat) : List NC := [.i .i64 3, .i .i64 69, .i .i64 4660, .b (ckT f j 0), .b (ckT f j 1), .b (ckT f j 2), .b (ckT f j 3), .b (ckT f j 4), .b (ckT f j 5), .b (ckT f j 6), .b (ckT f j 7), .b (ckT f j 8), .b (ckT f j 9), .b (ckT f j 10), .i .i64 (optN (ckT f j 8) (ckT f j 9) (ckT f j 10))]
/-- A header that is read as this one. -/
noncomputable def tHreadX (f : Int) (j : Nat) : Con := fun args regs => match args, regs with
  | [.ag [.i .i64 m, .i .i64 _, .i .i64 k, .i .i64 _, .l .u8 ds]], [] => .must (k = 1 ∧ ds.length = 40 ∧ (B8 ds).all getB = true ∧ hdC m ds = expC f j) (.ret ⟨.tu [.ag (expC f j), .c (.h 0 0 32), .c .en], [some ⟨1, 5, .ints .u8 (T32 ds)⟩]⟩)
  | _, _ => .fail
set_option maxRecDepth 100000 in
theorem kHreadX (f : Int) (j : Nat) : Known Tryd.prog GL 31 (tHreadX f j) := by
  refine kHread.less fun args regs R h => Box.out ?_
  unfold tHreadX at h
  split at h
  case h_2 => exact h.elim
  rename_i m r k c ds
  have h1 := h.1
  have h2 : R ⟨.tu [.ag (expC f j), .c (.h 0 0 32), .c .en], [some ⟨1, 5, .ints .u8 (T32 ds)⟩]⟩ := h.2
  clear h
  obtain ⟨rfl, hl, hg, he⟩ := h1
  refine ⟨?_⟩
  show sel (decide ((1 : Int) = 1)) (ds.length = 40 ∧ sel ((B8 ds).all getB) (R (oHd m ds)) (R (oHE 1))) (R (oHE 2))
  refine selT (dT rfl) ⟨hl, selT hg ?_⟩
  unfold oHd
  rw [he]
  exact h2
noncomputable def c_flags (j : Nat) (fl : Int) : FuncId → Option Con := conOf [(26, tNumK 11 (j : Int)), (29, t_first8), (30, tHbytes), (15, tRead), (31, tHreadX fl j), (27, tSamePT), (19, t_is), (33, t_right)]
theorem kc_flags (j : Nat) (fl : Int) : ∀ f T, (c_flags j fl) f = some T → Known Tryd.prog GL f T := (Knowns.cons (known_gl (kNumK 11 (j : Int))) (.cons k_first8 (.cons kHbytes (.cons kRead (.cons (kHreadX fl j) (.cons kSamePT (.cons k_is (.cons k_right .nil)))))))).get
noncomputable def X_flags (j : Nat) (fl : Int) : Cx := { P := Tryd.prog, con := (c_flags j fl), glob := GL, m := 0, loops := [] }
noncomputable def t_flags (j : Nat) (fl : Int) : Con := fun args regs => if regs.length = 0 then nfun Tryd.prog GL (c_flags j fl) [(0, [0, 1, 5, 7, 8, 9], unroll (X_flags j fl) 0 [0, 1, 5, 7, 8, 9] [1, 5, 7, 8] (bodyLoop Tryd.f7 0) 12), (2, [1, 5, 7, 8, 10, 11, 13, 15, 16], sumP pCmp rCmp lCmp1)] Tryd.f7 args regs else .fail
theorem k_flags (j : Nat) (fl : Int) : Known Tryd.prog GL 7 (t_flags j fl) := known_loops 0 Tryd.func7 rfl (by kernel_rfl) mixed (kc_flags j fl) (LAll.two (i1 := 0) (i2 := 2) (b1 := bodyLoop Tryd.f7 0) (b2 := bodyLoop Tryd.f7 2) (by kernel_rfl) rfl (by decide) (unroll_ok (X := (X_flags j fl)) (kc_flags j fl) mixed (LAll.none (by kernel_rfl)) [0, 1, 5, 7, 8, 9] [1, 5, 7, 8] 12) loop_cmp1)

/-! ### what the law comes to -/
def Z32 : List Int := List.replicate 32 0
noncomputable def lstF (F : Int) : List Int := adr0 3 0 :: adr1 0 :: (hb 69 4660 F ++ Z32)
noncomputable def dsF (F : Int) : List Int := hb 69 4660 F ++ Z32
def mustC (A B : List Int) : Prop := A.length = 42 ∧ B.length = 42 ∧ 42 = (42 : Nat) ∧ 42 = (42 : Nat) ∧ 0 = (0 : Int) ∧ 0 = (0 : Int) ∧ cntL A B = 1
def mustH (F2 f : Int) (j : Nat) : Prop := 1 = (1 : Int) ∧ (dsF F2).length = 40 ∧ (B8 (dsF F2)).all getB = true ∧ hdC 3 (dsF F2) = expC f j
def finE (X2 i good : Bool) (R : Out → Prop) : Prop := sel X2 ((3 = (3 : Int) ∧ 69 = (69 : Int) ∧ 4660 = (4660 : Int)) ∧ sel (i == good) (R (oB true)) (R (oB false))) (R (oB false))
noncomputable def goodE (m p s : Int) (K : Bool → Prop) : Prop := decide (m ≥ 1) = true ∧ (decide (m ≤ 8) = true ∧ (decide (p ≥ 0) = true ∧ (decide (p ≤ 255) = true ∧ (decide (s ≥ 0) = true ∧ (decide (s ≤ 16255) = true ∧ K (aI s 128 == 0))))))
def roadT : List (Option Bool) := skips 99 [some true, none, some true, none, none, none, some true, none, none, none, some true, none, none, none, some true, none, none, none, some true, none, none, none, some true]
def roadA : List (Option Bool) := skips 99 [some false, some false]
def roadB : List (Option Bool) := skips 99 [some false, some true, none, none, none, some false]
def roadC : List (Option Bool) := skips 99 [some false, some true, none, none, none, some true, none, none, none, some false]
def roadD : List (Option Bool) := skips 99 [some false, some true, none, none, none, some true, none, none, none, some true]
noncomputable def chainD (p s : Int) (K : Bool → Prop) : Prop := sel (decide (p ≤ 255)) (sel (decide (s ≥ 0)) (sel (decide (s ≤ 16255)) (K (aI s 128 == 0)) (K false)) (K false)) (K false)
def mustK (k j : Int) : Prop := 11 = (11 : Int) ∧ 0 < (11 : Int) ∧ (11 : Int) < 4611686018427387904 ∧ k % 11 = j
end Go.Proofs.YthjdlanmfiofdaaDoor.hd
