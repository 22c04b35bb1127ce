/-
  The engine, part 7: the other light operations.
-/
import Derived.Test.YtnhadghddkgjdaaEng6
import Derived.WalkSpells
import Derived.LaidEql
namespace Go.Nx
open Go

theorem allT_two {a b : Prop} [Decidable a] [Decidable b] (h : allT [decide a, decide b]) : a ∧ b := by simpa [allT] using h

/-! ### numbers and bools -/
theorem nbinI_sound {P : Program} {op : BinOp} {t : TypeId} {k : IntKind} {x y : Int} {c : List Bool} {r : NC} (w : World) (Γ : Env) (h : nbinI op k x y = some (c, r)) (hc : allT c) :
    ∃ u, (binOp op t (.int k x) (.int k y)).run P w = .ok u w ∧ CR Γ r u := by
  cases op <;> simp only [nbinI, Option.some.injEq, Prod.mk.injEq, reduceCtorEq] at h <;> obtain ⟨rfl, rfl⟩ := h <;> refine ⟨_, ?_, ⟨rfl, rfl⟩⟩
  case quo =>
    have hy : y ≠ 0 := by simpa [allT] using hc
    rw [binOp_quo]; simp [Op.intDiv, hy]
  case rem =>
    have hy : y ≠ 0 := by simpa [allT] using hc
    rw [binOp_rem]; simp [Op.intDiv, hy]
  case and => rw [binOp_and, intBits_and]; rfl
  case or => rw [binOp_or, intBits_or]; rfl
  case xor => rw [binOp_xor, intBits_xor]; rfl
  case andNot => rw [binOp_andNot, intBits_andNot]; rfl
  all_goals simp [binOp, Op.intArith, Op.intCmp]
theorem run_eql_slice_none {P : Program} (w : World) (t e : TypeId) (a : Option Addr) (n c n' c' : Nat) (h : P.underlying t = some (.slice e)) :
    (binOp .eql t (.slice a n c) (.slice none n' c')).run P w = .ok (.bool a.isNone) w := by
  simp only [binOp]
  simp [Op.equal, Op.maxDepth, Lib.run_equalIn_slice_nil w 9999 t e a n c n' c' h]
theorem eqGuard_at_slice {op : BinOp} {t : TypeId} {x y : Operand} {v : Value} (a : Option Addr) (n c : Nat) : eqGuard op t x y (.slice a n c) v = pure () := by cases op <;> rfl
theorem nbin_sound {P : Program} {op : BinOp} {t : TypeId} {a b : NC} {u v : Value} {c : List Bool} {r : NC} {Γ : Env} (w : World) (x y : Operand) (ha : CR Γ a u) (hb : CR Γ b v)
    (h : nbin P op t a b = some (c, r)) (hc : allT c) :
    ∃ z, (do eqGuard op t x y u v; binOp op t u v : Sem Value).run P w = .ok z w ∧ CR Γ r z := by
  unfold nbin at h
  split at h
  · rename_i k m k' n
    obtain ⟨rfl, -⟩ := ha
    obtain ⟨rfl, -⟩ := hb
    rw [eqGuard_at_int]
    simp only [pure_bind]
    split at h
    · cases h
      have hn : 0 ≤ n := by simpa [allT] using hc
      refine ⟨.int k (shlv k m n), ?_, rfl, rfl⟩
      have : ¬ n < 0 := by omega
      simp [binOp, Op.shift, this, shlv]
    · cases h
      have hn : 0 ≤ n := by simpa [allT] using hc
      refine ⟨.int k (shrv k m n), ?_, rfl, rfl⟩
      have : ¬ n < 0 := by omega
      simp [binOp, Op.shift, this, shrv]
    · split at h
      · rename_i e; subst e
        exact nbinI_sound w Γ h hc
      · cases h
  · rename_i m n
    obtain ⟨rfl, -⟩ := ha
    obtain ⟨rfl, -⟩ := hb
    rw [eqGuard_at_bool]
    simp only [pure_bind]
    split at h
    · rename_i hu
      split at h <;> first
        | (cases h; done)
        | (cases h; exact ⟨_, run_eql_bool w t m n hu, ⟨rfl, rfl⟩⟩)
        | (cases h; exact ⟨_, run_neq_bool w t m n hu, ⟨rfl, rfl⟩⟩)
    · cases h
  · rename_i m n
    obtain ⟨rfl, -⟩ := ha
    obtain ⟨rfl, -⟩ := hb
    rw [eqGuard_at_string]
    simp only [pure_bind]
    split at h
    · cases h
      have hn : ((m.size + n.size : Nat) : Int) ≤ 9223372036854775807 := of_decide_eq_true (hc _ (List.mem_singleton.2 rfl))
      have hm : ¬ ((m.size + n.size : Nat) : Int) > IntKind.i64.max := by
        show ¬ ((m.size + n.size : Nat) : Int) > 9223372036854775807
        omega
      exact ⟨.string (m ++ n), by simp only [binOp, Op.stringOp, if_neg hm, Sem.run_pure], ⟨rfl, rfl⟩⟩
    · cases h
      exact ⟨_, by simp only [binOp, Op.stringOp, Sem.run_pure], ⟨rfl, rfl⟩⟩
    · cases h
      exact ⟨_, by simp only [binOp, Op.stringOp, Sem.run_pure], ⟨rfl, rfl⟩⟩
    · cases h
  · obtain ⟨⟨B, oo, cap, -, rfl, -⟩, -⟩ := ha
    obtain ⟨rfl, -⟩ := hb
    rw [eqGuard_at_slice]
    simp only [pure_bind]
    split at h
    · rename_i e hu
      split at h <;> first
        | (cases h; done)
        | (cases h; exact ⟨_, run_eql_slice_none w t e _ _ _ _ _ hu, ⟨rfl, rfl⟩⟩)
        | (cases h; exact ⟨_, run_neq_slice_nil_any w t e _ _ _ _ _ hu, ⟨rfl, rfl⟩⟩)
    · cases h
  · obtain ⟨⟨aa, cap, rfl, -, hx⟩, -⟩ := ha
    obtain ⟨rfl, -⟩ := hb
    rw [eqGuard_at_slice]
    simp only [pure_bind]
    split at h
    · rename_i e hu
      split at h <;> first
        | (cases h; done)
        | skip
      all_goals
        cases h
        have hne := hc _ (List.mem_singleton.2 rfl)
        rcases hx with rfl | ⟨blk, off, rfl, -⟩
        · simp at hne
        · first
            | exact ⟨_, run_eql_slice_none w t e _ _ _ _ _ hu, ⟨rfl, rfl⟩⟩
            | exact ⟨_, run_neq_slice_nil_any w t e _ _ _ _ _ hu, ⟨rfl, rfl⟩⟩
    · cases h
  · obtain ⟨⟨aa, cap, rfl, -, -, hx⟩, -⟩ := ha
    obtain ⟨rfl, -⟩ := hb
    rw [eqGuard_at_slice]
    simp only [pure_bind]
    split at h
    · rename_i e hu
      split at h <;> first
        | (cases h; done)
        | skip
      all_goals
        cases h
        have hne := hc _ (List.mem_singleton.2 rfl)
        rcases hx with rfl | ⟨blk, off, rfl, -⟩
        · simp at hne
        · first
            | exact ⟨_, run_eql_slice_none w t e _ _ _ _ _ hu, ⟨rfl, rfl⟩⟩
            | exact ⟨_, run_neq_slice_nil_any w t e _ _ _ _ _ hu, ⟨rfl, rfl⟩⟩
    · cases h
  · obtain ⟨rfl, -⟩ := ha
    obtain ⟨rfl, -⟩ := hb
    rw [eqGuard_at_slice]
    simp only [pure_bind]
    split at h
    · rename_i e hu
      split at h <;> first
        | (cases h; done)
        | (cases h; exact ⟨_, run_eql_slice_none w t e _ _ _ _ _ hu, ⟨rfl, rfl⟩⟩)
        | (cases h; exact ⟨_, run_neq_slice_nil_any w t e _ _ _ _ _ hu, ⟨rfl, rfl⟩⟩)
    · cases h
  · cases h
theorem eqGuard_at_iface {op : BinOp} {t : TypeId} {x y : Operand} {v : Value} (tx : TypeId) (vx : Value) : eqGuard op t x y (.iface tx vx) v = pure () := by cases op <;> rfl
theorem eqGuard_nil_iface {op : BinOp} {t : TypeId} {x y : Operand} (tx : TypeId) (vx : Value) : eqGuard op t x y .nilIface (.iface tx vx) = pure () := by cases op <;> rfl
theorem eqGuard_nil_nil {op : BinOp} {t : TypeId} {x y : Operand} (h : (isConst x || isConst y) = true) : eqGuard op t x y .nilIface .nilIface = pure () := by
  unfold eqGuard
  cases x <;> cases y <;> first | (simp [isConst] at h; done) | (cases op <;> rfl)
theorem isIface_spec {P : Program} {t : TypeId} (h : isIface P t = true) : ∃ ms, P.underlying t = some (.interface ms) := by
  unfold isIface at h
  split at h
  · rename_i ms hu; exact ⟨ms, hu⟩
  · cases h
theorem errEq_sound {P : Program} {gl : List Nat} {t : TypeId} {x y : Operand} {a b : NC} {u v : Value} {r : Bool} {Γ : Env} {rg : List (Option Reg)} {w : World} (hw : WRel Γ rg w) (hG : GlobOk gl Γ) (ht : isIface P t = true) (ha : CR Γ a u) (hb : CR Γ b v)
    (h : errEq P gl x y a b = some r) : (∀ op, eqGuard op t x y u v = pure ()) ∧ (Op.equal t u v).run P w = .ok r w ∧ ((∃ tx vx, u = .iface tx vx) ∨ u = .nilIface) ∧ ((∃ tx vx, v = .iface tx vx) ∨ v = .nilIface) := by
  obtain ⟨ms, hms⟩ := isIface_spec ht
  have er : ∀ {k : Nat} {z : Value}, gl.tail.contains k = true → CR Γ (.e k) z → ∃ ad ca ta, z = .iface (gl.headD 0) (.pointer (some ad)) ∧ Γ.er k = some z ∧ w.heap[ad.block]? = some (.cells ca ta (0, 0)) := by
    intro k z hk hz
    obtain ⟨ad, c, e, fz, ca, ta, h1, h2, h3, h4⟩ := hG.1 k (List.contains_iff_mem.1 hk)
    have hz1 : Γ.er k = some z := hz.1
    rw [h1] at hz1
    cases hz1
    exact ⟨ad, ca, ta, rfl, h1, hw.kp _ _ h4⟩
  unfold errEq at h
  split at h
  · rename_i k
    split at h
    · rename_i hk
      cases h
      obtain ⟨ad, ca, ta, rfl, -, -⟩ := er hk ha
      obtain ⟨rfl, -⟩ := hb
      have q : ∀ (d : Nat) (tx : TypeId) (vx : Value), (Op.equalIn (d + 1) t (.iface tx vx) .nilIface).run P w = .ok false w := fun d tx vx => by simp [Op.equalIn, run_underlying hms]
      exact ⟨fun op => eqGuard_at_iface _ _, q 9999 _ _, .inl ⟨_, _, rfl⟩, .inr rfl⟩
    · cases h
  · rename_i k
    split at h
    · rename_i hk
      cases h
      obtain ⟨ad, ca, ta, rfl, -, -⟩ := er hk hb
      obtain ⟨rfl, -⟩ := ha
      have q : ∀ (d : Nat) (tx : TypeId) (vx : Value), (Op.equalIn (d + 1) t .nilIface (.iface tx vx)).run P w = .ok false w := fun d tx vx => by simp [Op.equalIn, run_underlying hms]
      exact ⟨fun op => eqGuard_nil_iface _ _, q 9999 _ _, .inr rfl, .inl ⟨_, _, rfl⟩⟩
    · cases h
  · split at h
    · rename_i hc
      cases h
      obtain ⟨rfl, -⟩ := ha
      obtain ⟨rfl, -⟩ := hb
      have q : ∀ (d : Nat), (Op.equalIn (d + 1) t .nilIface .nilIface).run P w = .ok true w := fun d => by simp [Op.equalIn, run_underlying hms]
      exact ⟨fun op => eqGuard_nil_nil hc, q 9999, .inr rfl, .inr rfl⟩
    · cases h
  · rename_i k l
    split at h
    · rename_i hk
      simp only [Bool.and_eq_true] at hk
      obtain ⟨⟨hty, hk⟩, hl⟩ := hk
      obtain ⟨ad, ca, ta, rfl, e1, c1⟩ := er hk ha
      obtain ⟨bd, cb, tb, rfl, e2, c2⟩ := er hl hb
      unfold errTy at hty
      split at hty
      case h_2 => cases hty
      rename_i te hte
      split at hty
      case h_2 => cases hty
      rename_i i j hi hj
      simp only [Bool.and_eq_true, bne_iff_ne] at hty
      refine ⟨fun op => eqGuard_at_iface _ _, ?_, .inl ⟨_, _, rfl⟩, .inl ⟨_, _, rfl⟩⟩
      by_cases hkl : k = l
      · subst hkl
        rw [e1] at e2
        cases e2
        cases h
        rw [beq_self_eq_true]
        exact run_equalIn_iface_ptr_same w 9998 ad hms hte hi hty.1 hj
      · have hne := hG.2 k (List.contains_iff_mem.1 hk) l (List.contains_iff_mem.1 hl) hkl
        have hab : ad ≠ bd := by
          rintro rfl
          exact hne (e1.trans e2.symm)
        have hr : r = false := by
          have : (k == l) = false := by simpa using hkl
          rw [this] at h
          cases h
          rfl
        subst hr
        exact run_equalIn_iface_ptr_other w 9998 hms hte hi hty.1 hj hty.2 hab c1 c2
    · cases h
  · cases h
theorem nbinE_sound {P : Program} {gl : List Nat} {op : BinOp} {t : TypeId} {x y : Operand} {a b : NC} {u v : Value} {c : List Bool} {r : NC} {Γ : Env} {rg : List (Option Reg)} {w : World} (hw : WRel Γ rg w) (hG : GlobOk gl Γ) (ha : CR Γ a u) (hb : CR Γ b v)
    (h : nbinE P gl op t x y a b = some (c, r)) (hc : allT c) :
    ∃ z, (do eqGuard op t x y u v; binOp op t u v : Sem Value).run P w = .ok z w ∧ CR Γ r z := by
  unfold nbinE at h
  split at h
  · rename_i ht
    have fin : ∀ {q : Bool}, errEq P gl x y a b = some q → (op = .eql ∧ r = .b q ∨ op = .neq ∧ r = .b (!q)) → ∃ z, (do eqGuard op t x y u v; binOp op t u v : Sem Value).run P w = .ok z w ∧ CR Γ r z := by
      intro q hq hr
      obtain ⟨h1, h2, h3, h4⟩ := errEq_sound hw hG ht ha hb hq
      rw [h1 op]
      simp only [pure_bind]
      rcases hr with ⟨rfl, rfl⟩ | ⟨rfl, rfl⟩
      · refine ⟨.bool q, ?_, rfl, rfl⟩
        rcases h3 with ⟨tx, vx, rfl⟩ | rfl <;> rcases h4 with ⟨ty, vy, rfl⟩ | rfl <;> (simp only [binOp]; simp [h2])
      · refine ⟨.bool (!q), ?_, rfl, rfl⟩
        rcases h3 with ⟨tx, vx, rfl⟩ | rfl <;> rcases h4 with ⟨ty, vy, rfl⟩ | rfl <;> (simp only [binOp]; simp [h2])
    split at h
    · rename_i q hq; cases h; exact fin hq (.inl ⟨rfl, rfl⟩)
    · rename_i q hq; cases h; exact fin hq (.inr ⟨rfl, rfl⟩)
    · cases h
  · exact nbin_sound w x y ha hb h hc
theorem nun_sound {P : Program} {op : UnOp} {a r : NC} {u : Value} {Γ : Env} (w : World) (ha : CR Γ a u) (h : nun op a = some r) : ∃ z, (Op.unary op u).run P w = .ok z w ∧ CR Γ r z := by
  unfold nun at h
  split at h <;> first
    | (cases h; done)
    | (cases h; obtain ⟨rfl, -⟩ := ha; exact ⟨_, by simp [Op.unary, Op.intArith, Op.intBits]; try rfl, ⟨rfl, rfl⟩⟩)

/-! ### addresses -/
theorem nindexAddr_sound {P : Program} {s : St} {Γ : Env} {w : World} {t : TypeId} {x ix : NC} {v u : Value} {c : List Bool} {r : NS} (hw : WRel Γ s.rg w)
    (hx : CR Γ x v) (hix : CR Γ ix u) (h : nindexAddr P s t x ix = some (c, r)) (hc : allT c) : ∃ z, (Instr.indexAt t v u).run P w = .ok z w ∧ SRel Γ r z := by
  unfold nindexAddr at h
  split at h
  case h_2 => cases h
  rename_i k n
  obtain ⟨rfl, -⟩ := hix
  split at h
  · rename_i len e r' i cc hu
    obtain ⟨⟨B, hB, rfl⟩, -⟩ := hx
    split at h
    case h_2 => cases h
    rename_i g hg
    obtain ⟨B', hB', cs, hcs, hst, -⟩ := hw.live r' g ((reg_eq s r' g).1 hg)
    rw [hB] at hB'; cases hB'
    split at h
    case isFalse => cases h
    rename_i hl
    obtain ⟨ei, hei, -⟩ := info_of_size hl.2
    have key : ∀ {r0 : NS}, c = [decide (0 ≤ n), decide (n < len)] → r0 = .v (.c (.p r' i (cc + n.toNat * sizeT P e))) → ∃ z, (Instr.indexAt t (.pointer (some ⟨B.blk, i * B.st + cc, none⟩)) (.int k n)).run P w = .ok z w ∧ SRel Γ r0 z := by
      rintro r0 rfl rfl
      have h0 : 0 ≤ n := (allT_two hc).1
      have h1 : n < len := (allT_two hc).2
      refine ⟨.pointer (some ⟨B.blk, i * B.st + (cc + n.toNat * sizeT P e), none⟩), ?_, ⟨⟨B, hB, rfl⟩, rfl⟩⟩
      simp [Instr.indexAt, asIntOf, run_underlying hu, Instr.sureAddr, h0, h1, run_sizeOf hei, Addr.add_lit, Nat.add_assoc]
    split at h
    · rename_i hsz
      split at h
      · simp only [Option.some.injEq, Prod.mk.injEq] at h
        obtain ⟨z, hz, hr⟩ := key h.1.symm rfl
        refine ⟨z, hz, ?_⟩
        rw [← h.2]
        obtain ⟨⟨B2, hB2, hz2⟩, h1⟩ := hr
        refine ⟨⟨B2, hB2, ?_⟩, h1⟩
        rw [hB] at hB2; cases hB2
        rw [hz2, hsz, ← hst, Nat.add_mul]; simp
      · simp only [Option.some.injEq, Prod.mk.injEq] at h
        exact key h.1.symm h.2.symm
    · simp only [Option.some.injEq, Prod.mk.injEq] at h
      exact key h.1.symm h.2.symm
  · rename_i e r' off len hu
    obtain ⟨⟨B, o, cap, hB, rfl, hlc, hcm, hcap⟩, -⟩ := hx
    split at h
    case h_2 => cases h
    rename_i g hg
    obtain ⟨B', hB', cs, hcs, hst, -⟩ := hw.live r' g ((reg_eq s r' g).1 hg)
    rw [hB] at hB'; cases hB'
    split at h
    case isFalse => cases h
    rename_i hl
    cases h
    have h0 : 0 ≤ n := (allT_two hc).1
    have h1 : n < len := (allT_two hc).2
    obtain ⟨ei, hei, -⟩ := info_of_size (P := P) (t := e) (by omega)
    rcases hcap with ⟨rfl, -⟩ | hc0
    · refine ⟨.pointer (some ⟨B.blk, (off + n.toNat) * B.st + 0, none⟩), ?_, ⟨⟨B, hB, rfl⟩, rfl⟩⟩
      simp [Instr.indexAt, asIntOf, run_underlying hu, h0, h1, run_sizeOf hei, Addr.add_lit, hl.1, ← hst, Nat.add_mul]
    · omega
  · rename_i e k' xs hu
    obtain ⟨⟨a, cap, rfl, hlc, hro⟩, -⟩ := hx
    split at h
    case isFalse => cases h
    rename_i hl
    cases h
    have h0 : 0 ≤ n := (allT_two hc).1
    have h1 : n < xs.length := (allT_two hc).2
    obtain ⟨ei, hei, -⟩ := info_of_size (P := P) (t := e) (by omega)
    rcases hro with rfl | ⟨blk, off, rfl, hro⟩
    · simp at h1; omega
    · refine ⟨.pointer (some ⟨blk, off + n.toNat, none⟩), ?_, ⟨⟨blk, off, rfl, hro⟩, rfl⟩⟩
      simp [Instr.indexAt, asIntOf, run_underlying hu, h0, h1, run_sizeOf hei, Addr.add_lit, hl]
  · rename_i e ks xs hu
    obtain ⟨⟨a, cap, rfl, hlc, hks, hro⟩, -⟩ := hx
    split at h
    case isFalse => cases h
    rename_i hl
    cases h
    have h0 : 0 ≤ n := (allT_two hc).1
    have h1 : n < xs.length := (allT_two hc).2
    obtain ⟨ei, hei, -⟩ := info_of_size (P := P) (t := e) (by omega)
    rcases hro with rfl | ⟨blk, off, rfl, hro⟩
    · simp at h1; omega
    · refine ⟨.pointer (some ⟨blk, off + n.toNat * ks.length + 0, none⟩), ?_, ⟨⟨blk, off, rfl, hro⟩, rfl⟩⟩
      simp [Instr.indexAt, asIntOf, run_underlying hu, h0, h1, run_sizeOf hei, Addr.add_lit, hl]
  · cases h

theorem fieldOff_spec {P : Program} {t : TypeId} {f o : Nat} {ft : TypeId} (h : fieldOff P t f = some (o, ft)) :
    ∃ fs x i, P.underlying t = some (.struct fs) ∧ fs[f]? = some x ∧ x.offset = o ∧ x.type = ft ∧ P.info? ft = some i ∧ sizeT P ft ≠ 0 := by
  unfold fieldOff at h
  split at h
  · rename_i fs hu
    split at h
    · rename_i x hx
      split at h
      · cases h
      · rename_i hs
        cases h
        obtain ⟨i, hi, -⟩ := info_of_size (P := P) (t := x.type) (by omega)
        exact ⟨fs, x, i, hu, hx, rfl, rfl, hi, hs⟩
    · cases h
  · cases h
theorem run_fieldAt {P : Program} {w : World} {t : TypeId} {f o : Nat} {ft : TypeId} {b q : Nat} (h : fieldOff P t f = some (o, ft)) :
    (Instr.fieldAt t (.pointer (some ⟨b, q, none⟩)) f).run P w = .ok (.pointer (some ⟨b, q + o, none⟩)) w := by
  obtain ⟨fs, x, i, hu, hx, rfl, rfl, hi, hs⟩ := fieldOff_spec h
  simp [Instr.fieldAt, run_underlying hu, hx, Instr.sureAddr, fieldPlace, run_sizeOf hi, hs, Addr.add_lit]
theorem sub_rel {Γ : Env} {xs l : List NC} {vs : List Value} {o n : Nat} (h : sub xs o n = some l) (r : R2 (CR Γ) xs vs) : R2 (CR Γ) l ((vs.drop o).take n) ∧ l.length = n := by
  unfold sub at h
  simp only at h
  split at h
  · rename_i e; cases h; exact ⟨(r.drop _).take _, e⟩
  · cases h
theorem run_field {P : Program} {w : World} {Γ : Env} {t : TypeId} {f o : Nat} {ft : TypeId} {xs : List NC} {vs : List Value} (h : fieldOff P t f = some (o, ft)) (r : R2 (CR Γ) xs vs) :
    (∀ l, isAggT P ft = true → (P.underlying ft).isSome = true → sub xs o (sizeT P ft) = some l → ∃ z, (Instr.field t (.agg vs.toArray) f).run P w = .ok z w ∧ SRel Γ (.v (.ag l)) z) ∧
    (∀ y, isAggT P ft = false → (P.underlying ft).isSome = true → xs[o]? = some y → ∃ z, (Instr.field t (.agg vs.toArray) f).run P w = .ok z w ∧ SRel Γ (.v (.c y)) z) := by
  obtain ⟨fs, x, i, hu, hx, rfl, rfl, hi, hs⟩ := fieldOff_spec h
  constructor
  · intro l ha hd hsub
    obtain ⟨d, hd⟩ := Option.isSome_iff_exists.1 hd
    obtain ⟨hr, hl⟩ := sub_rel hsub r
    refine ⟨.agg ((vs.drop x.offset).take (sizeT P x.type)).toArray, ?_, ⟨_, rfl, hr⟩⟩
    simp [Instr.field, run_underlying hu, hx, part, run_isAgg hd, ha, asAgg, run_sizeOf hi]
  · intro y ha hd hy
    obtain ⟨d, hd⟩ := Option.isSome_iff_exists.1 hd
    obtain ⟨z, hz, hr⟩ := r.get hy
    exact ⟨z, by simp [Instr.field, run_underlying hu, hx, part, run_isAgg hd, ha, asAgg, hz], hr⟩

end Go.Nx
