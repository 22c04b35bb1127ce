/-
  ham24: the document's spots, data24, put24, Put24: their walks.
-/
import Derived.Test.YtjjkbnipokpmcaaHamV
import Derived.Test.YtjjkbnipokpmcaaRones
import Derived.Test.YtjjkbnipokpmcaaEng21
namespace Go.Proofs.Ytjjkbnipokpmcaa.ham
open Go Go.Nx
open ones (bl tOnes kOnes)

noncomputable def tSpots : Con := fun args regs => nfun Try.prog [] (fun _ => Option.none) [] Try.f24 args regs
theorem kSpots : Known Try.prog [] 24 tSpots := known_inl Try.func24 rfl (by kernel_rfl) mixed con_none (by kernel_rfl)
noncomputable def cRef : FuncId → Option Con := conOf [(24, tSpots), (25, ones.tOnes)]
theorem kcRef : ∀ f T, cRef f = some T → Known Try.prog [] f T := (Knowns.cons kSpots (.cons ones.kOnes .nil)).get
noncomputable def XRef : Cx := { P := Try.prog, con := cRef, glob := [], m := 0, loops := [] }
noncomputable abbrev fData24 := Try.f23
noncomputable def tData0 : Con := fun args regs => if regs.length = 0 then nfun Try.prog [] cRef [(0, [0, 3, 4, 5], unroll XRef 0 [0, 3, 4, 5] [3] (bodyLoop fData24 0) 30)] fData24 args regs else .fail
theorem kData0 : Known Try.prog [] 23 tData0 := known_loops 0 Try.func23 rfl (by kernel_rfl) mixed kcRef
  (LAll.one (id := 0) (body := bodyLoop fData24 0) (by kernel_rfl) rfl (unroll_ok (X := XRef) kcRef mixed (LAll.none (by kernel_rfl)) [0, 3, 4, 5] [3] 30))
noncomputable def rdat (w : Int) : List Nat → Int → Nat → Int
  | [], n, _ => n
  | p :: ps, n, k => rdat w ps (bits .or .i64 n (shlv .i64 (bits .and .i64 (shrv .i64 w (Int.ofNat (p - 1))) 1) (Int.ofNat k))) (k + 1)
theorem data_tree (w : Int) (R : Out → Prop) : (tData0 [.c (.i .i64 w)] []).run R = R ⟨.v (.c (.i .i64 (rdat w spots 0 0))), []⟩ := by kernel_rfl

noncomputable abbrev fPut24 := Try.f21
noncomputable def XRef2 : Cx := { P := Try.prog, con := cRef, glob := [], m := 0, loops := [(4, [3, 6, 7, 8], unroll XRef 4 [3, 6, 7, 8] [3, 6, 7] (bodyLoop fPut24 4) 30)] }
theorem loopR4 : LOk Try.prog [] 0 4 (bodyLoop fPut24 4) (unroll XRef 4 [3, 6, 7, 8] [3, 6, 7] (bodyLoop fPut24 4) 30) := unroll_ok (X := XRef) kcRef mixed (LAll.none (by kernel_rfl)) [3, 6, 7, 8] [3, 6, 7] 30
theorem loopR0 : LOk Try.prog [] 0 0 (bodyLoop fPut24 0) (unroll XRef 0 [0, 3, 4, 5] [3] (bodyLoop fPut24 0) 30) := unroll_ok (X := XRef) kcRef mixed (LAll.none (by kernel_rfl)) [0, 3, 4, 5] [3] 30
noncomputable def rplace (n : Int) : List Nat → Int → Nat → Int
  | [], w, _ => w
  | p :: ps, w, k => rplace n ps (bits .or .i64 w (shlv .i64 (bits .and .i64 (shrv .i64 n (Int.ofNat k)) 1) (Int.ofNat (p - 1)))) (k + 1)
noncomputable def oddR (w : Int) : List Nat → Int → Int
  | [], o => o
  | p :: ps, o => oddR w ps (bits .xor .i64 o (bits .and .i64 (shrv .i64 w (Int.ofNat (p - 1))) 1))
/-- The places that the k-th watch sees. -/
def those (k : Nat) : List Nat := (List.range 24).filter fun p => p.testBit k
/-- The bits that keep watch, set. -/
noncomputable def keepI : List Nat → Int → Int
  | [], w => w
  | k :: ks, w => keepI ks (if oddR w (those k) 0 = 0 then bits .or .i64 w (Int.ofNat (2 ^ (2 ^ k - 1))) else w)
noncomputable def sPut (w k : Int) : St := { fr := frame 66 [(3, .v (.c (.i .i64 w))), (6, .v (.c (.i .i64 k)))], rg := [] }
noncomputable def dPut (w : Int) : St := { fr := frame 66 [(3, .v (.c (.i .i64 w)))], rg := [] }
theorem below5 {k : Nat} (h : k < 5) : k = 0 ∨ k = 1 ∨ k = 2 ∨ k = 3 ∨ k = 4 := by omega
theorem round_put (w : Int) (R : RO → Prop) (k : Nat) (h : k < 5) : (roundT XRef2 2 [3, 6] [3] (bodyLoop fPut24 2) (sPut w (k : Int))).run R =
    sel (oddR w (those k) 0 == 0) (R (RO.next (sPut (bits .or .i64 w (Int.ofNat (2 ^ (2 ^ k - 1)))) ((k + 1 : Nat) : Int)))) (R (RO.next (sPut w ((k + 1 : Nat) : Int)))) := by
  rcases below5 h with e | e | e | e | e <;> subst e <;> kernel_rfl
theorem round_end (w : Int) (R : RO → Prop) : (roundT XRef2 2 [3, 6] [3] (bodyLoop fPut24 2) (sPut w 5)).run R = R (RO.done NExit.normal (dPut w)) := by kernel_rfl
noncomputable def lPut : List Leaf × List (List Leaf) → Tr (NExit × St) := fun x => match x with
  | ([.i w, .i k], []) => .must (0 ≤ k ∧ k ≤ 5) (.ret (.normal, dPut (keepI ([0, 1, 2, 3, 4].drop k.toNat) w)))
  | _ => .fail
noncomputable def pPut : List Pat := pats 66 [(3, .i .i64), (6, .i .i64)]
theorem drop5 : ∀ k < 5, [0, 1, 2, 3, 4].drop k = k :: [0, 1, 2, 3, 4].drop (k + 1) := by decide
theorem loopR2 : LOk Try.prog [] 0 2 (bodyLoop fPut24 2) (sumP pPut [] lPut) := by
  refine sumP_ok (X := XRef2) kcRef mixed (LAll.one (id := 4) (body := bodyLoop fPut24 4) (by kernel_rfl) rfl loopR4) [3, 6] [3] _ _ _ (fun x => match x with
    | ([.i _, .i k], []) => (5 - k).toNat
    | _ => 0) ?_
  rintro ⟨a, b⟩ R h
  unfold lPut at h
  split at h
  case h_2 => exact h.elim
  rename_i w k he
  cases he
  have h1 := h.1
  have h2 : R (.normal, dPut (keepI ([0, 1, 2, 3, 4].drop k.toNat) w)) := h.2
  clear h
  show (roundT XRef2 2 [3, 6] [3] (bodyLoop fPut24 2) (sPut w k)).run _
  by_cases hp : k = 5
  · subst hp
    rw [round_end]
    exact h2
  · obtain ⟨n, hn⟩ : ∃ n : Nat, k = (n : Int) := ⟨k.toNat, by omega⟩
    subst hn
    have h5 : n < 5 := by omega
    rw [round_put w _ n h5]
    rw [Int.toNat_natCast, drop5 n h5] at h2
    simp only [keepI] at h2
    by_cases ho : oddR w (those n) 0 = 0
    · rw [if_pos ho] at h2
      refine sel_iff.2 (.inl ⟨by rw [beq_iff_eq]; exact ho, ⟨([.i (bits .or .i64 w (Int.ofNat (2 ^ (2 ^ n - 1)))), .i ((n + 1 : Nat) : Int)], []), rfl, by simp only; omega, ⟨by omega, by omega⟩, ?_⟩⟩)
      exact h2
    · rw [if_neg ho] at h2
      refine sel_iff.2 (.inr ⟨by rw [beq_eq_false_iff_ne]; exact ho, ⟨([.i w, .i ((n + 1 : Nat) : Int)], []), rfl, by simp only; omega, ⟨by omega, by omega⟩, ?_⟩⟩)
      exact h2
noncomputable def tPut24a : Con := fun args regs => if regs.length = 0 then nfun Try.prog [] cRef [(0, [0, 3, 4, 5], unroll XRef 0 [0, 3, 4, 5] [3] (bodyLoop fPut24 0) 30), (2, [3, 6], sumP pPut [] lPut)] fPut24 args regs else .fail
theorem kPut24a : Known Try.prog [] 21 tPut24a := known_loops 0 Try.func21 rfl (by kernel_rfl) mixed kcRef
  (LAll.two (i1 := 0) (i2 := 2) (b1 := bodyLoop fPut24 0) (b2 := bodyLoop fPut24 2) (by kernel_rfl) rfl (by decide) loopR0 loopR2)
theorem put24_tree (n : Int) (R : Out → Prop) : (tPut24a [.c (.i .i64 n)] []).run R = ((0 ≤ (0 : Int) ∧ (0 : Int) ≤ 5) ∧ ((0 ≤ keepI [0, 1, 2, 3, 4] (rplace n spots 0 0) ∧ keepI [0, 1, 2, 3, 4] (rplace n spots 0 0) < 9223372036854775808) ∧
    sel ((bl (keepI [0, 1, 2, 3, 4] (rplace n spots 0 0)).toNat : Int).tmod 2 == 0) (R ⟨.v (.c (.i .i64 (bits .or .i64 (keepI [0, 1, 2, 3, 4] (rplace n spots 0 0)) 8388608))), []⟩) (R ⟨.v (.c (.i .i64 (keepI [0, 1, 2, 3, 4] (rplace n spots 0 0)))), []⟩))) := by kernel_rfl
end Go.Proofs.Ytjjkbnipokpmcaa.ham
