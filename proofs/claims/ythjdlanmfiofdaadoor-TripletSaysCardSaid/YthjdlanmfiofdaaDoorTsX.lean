/-
  The document's numbers as bytes, its words of twenty-four bits.
-/
import Derived.Test.YthjdlanmfiofdaaDoorEng20
import Derived.Test.YthjdlanmfiofdaaDoorPbv
import Derived.Test.YthjdlanmfiofdaaDoorRows
import Derived.Test.YthjdlanmfiofdaaDoorPkJ
import Derived.Test.YthjdlanmfiofdaaDoorHmC
namespace Go.Proofs.YthjdlanmfiofdaaDoor.ones
open Go Go.Nx

theorem mixed : Tryd.prog.follows .mixedOrders = true := by kernel_rfl
noncomputable abbrev fOnes := Tryd.f102
/-- How many bits are set. -/
def bl (m : Nat) : Nat := if h : m = 0 then 0 else m % 2 + bl (m / 2)
termination_by m
decreasing_by exact Nat.div_lt_self (by omega) (by decide)
theorem bl_zero : bl 0 = 0 := by rw [bl]; rfl
theorem bl_step {m : Nat} (h : m ≠ 0) : bl m = m % 2 + bl (m / 2) := by rw [bl, dif_neg h]
theorem bl_double (m : Nat) : bl m = m % 2 + bl (m / 2) := by
  by_cases h : m = 0
  · subst h; simp [bl_zero]
  · exact bl_step h
theorem bl_le : ∀ (n m : Nat), m < 2 ^ n → bl m ≤ n
  | 0, m, h => by
    have : m = 0 := by simpa using h
    rw [this, bl_zero]; exact Nat.le_refl _
  | n + 1, m, h => by
    rw [bl_double]
    have := bl_le n (m / 2) (by rw [Nat.pow_succ] at h; omega)
    omega
noncomputable def oOnes (k : Int) : St := { fr := frame 13 [(3, .v (.c (.i .i64 k)))], rg := [] }
noncomputable def XOnes : Cx := { P := Tryd.prog, con := fun _ => Option.none, glob := [], m := 0, loops := [] }
theorem round_ones (n k : Int) (R : RO → Prop) : (roundT XOnes 0 [0, 3] [3] (bodyLoop fOnes 0) { fr := frame 13 [(0, .v (.c (.i .i64 n))), (3, .v (.c (.i .i64 k)))], rg := [] }).run R =
    sel (decide (n > 0))
     (R (RO.next { fr := frame 13 [(0, .v (.c (.i .i64 (shrv .i64 n 1)))), (3, .v (.c (.i .i64 (IntKind.i64.wrap (k + bits .and .i64 n 1)))))], rg := [] }))
     (R (RO.done NExit.normal (oOnes k))) := by
  kernel_rfl
noncomputable def lOnes : List Leaf × List (List Leaf) → Tr (NExit × St) := fun x => match x with
  | ([.i n, .i k], []) => .must ((0 ≤ n ∧ n < 9223372036854775808) ∧ (0 ≤ k ∧ k + bl n.toNat ≤ 1000)) (.ret (.normal, oOnes (k + bl n.toNat)))
  | _ => .fail
noncomputable def pOnes : List Pat := pats 13 [(0, .i .i64), (3, .i .i64)]
theorem and1 (n : Int) (h0 : 0 ≤ n) (h1 : n < 9223372036854775808) : bits .and .i64 n 1 = ((n.toNat % 2 : Nat) : Int) := by
  have h := fit_i64 (n := n) (by omega) h1
  have hm : n = (n.toNat : Int) := by omega
  generalize n.toNat = m at *
  subst hm
  rw [bits_i64, bvop_and, BitVec.ofInt_natCast, show BitVec.ofInt 64 1 = 1#64 from rfl]
  have e : BitVec.ofNat 64 m &&& 1#64 = BitVec.ofNat 64 (m % 2) := by
    apply BitVec.eq_of_toNat_eq
    rw [BitVec.toNat_and, BitVec.toNat_ofNat, BitVec.toNat_ofNat, BitVec.toNat_ofNat]
    rw [show 1 % 2 ^ 64 = 2 ^ 1 - 1 from rfl, Nat.and_two_pow_sub_one_eq_mod]
    omega
  rw [e]
  rcases Nat.mod_two_eq_zero_or_one m with h | h <;> rw [h] <;> rfl
theorem shr1 (n : Int) : shrv .i64 n 1 = n / 2 := by
  show Int.fdiv n (2 ^ 1) = n / 2
  rw [Int.fdiv_eq_ediv_of_nonneg _ (by decide)]
  rfl
set_option maxRecDepth 100000 in
theorem loop_ones : LOk Tryd.prog [] 0 0 (bodyLoop fOnes 0) (sumP pOnes [] lOnes) := by
  refine sumP_ok (X := XOnes) con_none mixed (LAll.none (by kernel_rfl)) [0, 3] [3] _ _ _ (fun x => match x with
    | ([.i n, .i _], []) => n.toNat
    | _ => 0) ?_
  rintro ⟨a, b⟩ R h
  unfold lOnes at h
  split at h
  case h_2 => exact h.elim
  rename_i n k he
  cases he
  have h1 := h.1
  have h2 : R (.normal, oOnes (k + bl n.toNat)) := h.2
  clear h
  show (roundT XOnes 0 [0, 3] [3] (bodyLoop fOnes 0) { fr := frame 13 [(0, .v (.c (.i .i64 n))), (3, .v (.c (.i .i64 k)))], rg := [] }).run _
  rw [round_ones]
  by_cases hp : n > 0
  · have hd : n.toNat / 2 = (n / 2).toNat := by omega
    have hb := bl_step (m := n.toNat) (by omega)
    rw [hd] at hb
    have hw : IntKind.i64.wrap (k + ((n.toNat % 2 : Nat) : Int)) = k + ((n.toNat % 2 : Nat) : Int) := by rw [IntKind.wrap_i64]; omega
    refine sel_iff.2 (.inl ⟨by rw [decide_eq_true_eq]; exact hp, ?_⟩)
    rw [and1 n h1.1.1 h1.1.2, shr1, hw]
    refine ⟨([.i (n / 2), .i (k + ((n.toNat % 2 : Nat) : Int))], []), rfl, by simp only; omega, ⟨⟨by omega, by omega⟩, ⟨by omega, by omega⟩⟩, ?_⟩
    show R (.normal, oOnes (k + ((n.toNat % 2 : Nat) : Int) + bl (n / 2).toNat))
    have : k + ((n.toNat % 2 : Nat) : Int) + bl (n / 2).toNat = k + bl n.toNat := by omega
    rw [this]
    exact h2
  · have hz : n.toNat = 0 := by omega
    rw [hz, bl_zero] at h2
    refine sel_iff.2 (.inr ⟨by rw [decide_eq_false_iff_not]; exact hp, ?_⟩)
    have : k + ((0 : Nat) : Int) = k := by omega
    rw [this] at h2
    exact h2
noncomputable def tOnes0 : Con := fun args regs => if regs.length = 0 then nfun Tryd.prog [] (fun _ => Option.none) [(0, [0, 3], sumP pOnes [] lOnes)] fOnes args regs else .fail
theorem kOnes0 : Known Tryd.prog [] 102 tOnes0 := known_loops 0 Tryd.func102 rfl (by kernel_rfl) mixed con_none (LAll.one (id := 0) (body := bodyLoop fOnes 0) (by kernel_rfl) rfl loop_ones)
theorem ones_tree (n : Int) (R : Out → Prop) : (tOnes0 [.c (.i .i64 n)] []).run R = (((0 ≤ n ∧ n < 9223372036854775808) ∧ (0 ≤ (0 : Int) ∧ 0 + (bl n.toNat : Int) ≤ 1000)) ∧ R ⟨.v (.c (.i .i64 (0 + (bl n.toNat : Int)))), []⟩) := by kernel_rfl
/-- What is known of ones. -/
noncomputable def tOnes : Con := fun args regs => match args, regs with
  | [.c (.i .i64 n)], [] => .must (0 ≤ n ∧ n < 9223372036854775808) (.ret ⟨.v (.c (.i .i64 (bl n.toNat))), []⟩)
  | _, _ => .fail
theorem kOnes : Known Tryd.prog [] 102 tOnes := by
  refine kOnes0.less fun args regs R h => ?_
  unfold tOnes at h
  split at h
  case h_2 => exact h.elim
  rename_i n
  have h1 := h.1
  have h2 : R ⟨.v (.c (.i .i64 (bl n.toNat))), []⟩ := h.2
  clear h
  rw [ones_tree]
  have hl := bl_le 63 n.toNat (by omega)
  refine ⟨⟨h1, by omega, by omega⟩, ?_⟩
  rw [Int.zero_add]
  exact h2
/-- The parity of the lowest n bits. -/
def par (x : Nat) : Nat → Bool
  | 0 => false
  | n + 1 => par x n ^^ x.testBit n
theorem par_double (x : Nat) : ∀ n, par x (n + 1) = (x.testBit 0 ^^ par (x / 2) n)
  | 0 => by simp [par]
  | n + 1 => by
    rw [par, par_double x n, par, Nat.testBit_succ]
    cases x.testBit 0 <;> cases par (x / 2) n <;> cases (x / 2).testBit n <;> rfl
theorem bl_par : ∀ (n x : Nat), x < 2 ^ n → bl x % 2 = (par x n).toNat
  | 0, x, h => by
    have : x = 0 := by simpa using h
    rw [this, bl_zero]; rfl
  | n + 1, x, h => by
    have ih := bl_par n (x / 2) (by rw [Nat.pow_succ] at h; omega)
    rw [bl_double, par_double, Nat.testBit_zero]
    rcases Nat.mod_two_eq_zero_or_one x with hx | hx <;> cases hp : par (x / 2) n <;> rw [hp] at ih <;> rw [hx] <;> simp [Bool.toNat] at ih ⊢ <;> omega
end Go.Proofs.YthjdlanmfiofdaaDoor.ones

namespace Go.Proofs.YthjdlanmfiofdaaDoor.pk
open Go Go.Nx

noncomputable def c_rput : FuncId → Option Con := conOf [(102, ones.tOnes)]
theorem kc_rput : ∀ f T, c_rput f = some T → Known Tryd.prog [] f T := (Knowns.cons ones.kOnes Knowns.nil).get
noncomputable def t_rput : Con := fun args regs => nfun Tryd.prog [] c_rput [] Tryd.f73 args regs
theorem k_rput : Known Tryd.prog [] 73 t_rput := known_inl Tryd.func73 rfl (by kernel_rfl) mixed kc_rput (by kernel_rfl)
def o64 (a b : Int) : Int := bits .or .i64 a b
def x64 (a b : Int) : Int := bits .xor .i64 a b
noncomputable def e0 (n : Int) : Int := bits .and .i64 n 1
noncomputable def eK (n k : Int) : Int := bits .and .i64 (shrv .i64 n k) 1
def RBd (d0 d1 d2 d3 : Int) : Int := o64 (o64 (o64 (o64 (o64 (o64 (shlv .i64 d0 1) (shlv .i64 d1 3)) (shlv .i64 d2 5)) (shlv .i64 d3 7)) (x64 (x64 (x64 1 d0) d2) d3)) (shlv .i64 (x64 (x64 (x64 1 d0) d1) d3) 2)) (shlv .i64 (x64 (x64 (x64 1 d0) d1) d2) 4)
noncomputable def RB (n : Int) : Int := RBd (e0 n) (eK n 1) (eK n 2) (eK n 3)
theorem rput_tree (n : Int) (R : Out → Prop) : (t_rput [.c (.i .i64 n)] []).run R =
    ((0 ≤ RB n ∧ RB n < 9223372036854775808) ∧ sel ((ones.bl (RB n).toNat : Int).tmod 2 == 0) (R ⟨.v (.c (.i .u8 (IntKind.u8.wrap (o64 (RB n) 64)))), []⟩) (R ⟨.v (.c (.i .u8 (IntKind.u8.wrap (RB n)))), []⟩)) := by kernel_rfl
theorem rput_all : ∀ m < 16, (0 ≤ RB (Int.ofNat m) ∧ RB (Int.ofNat m) < 256) ∧ (bif ones.par (RB (Int.ofNat m)).toNat 8 then IntKind.u8.wrap (RB (Int.ofNat m)) else IntKind.u8.wrap (o64 (RB (Int.ofNat m)) 64)) = put (Int.ofNat m) := by decide +kernel
noncomputable def tRPut : Con := fun args regs => match args, regs with
  | [.c (.i .i64 n)], [] => .must (0 ≤ n ∧ n < 16) (.ret ⟨.v (.c (.i .u8 (put n))), []⟩)
  | _, _ => .fail
theorem rput_in {n : Int} {R : Out → Prop} (h1 : 0 ≤ n ∧ n < 16) (h2 : R ⟨.v (.c (.i .u8 (put n))), []⟩) : Box ((t_rput [.c (.i .i64 n)] []).run R) := by
  obtain ⟨m, hm, rfl⟩ : ∃ m : Nat, m < 16 ∧ n = Int.ofNat m := ⟨n.toNat, by omega, by show n = ((n.toNat : Nat) : Int); omega⟩
  obtain ⟨a1, a2⟩ := rput_all m hm
  refine Box.of_eq (rput_tree _ R) ⟨⟨a1.1, by omega⟩, ?_⟩
  have hp := ones.bl_par 8 (RB (Int.ofNat m)).toNat (by omega)
  rw [← a2] at h2
  cases hb : ones.par (RB (Int.ofNat m)).toNat 8 with
  | true =>
    rw [hb] at h2 hp
    refine selF ?_ h2
    rw [beq_eq_false_iff_ne, Int.tmod_eq_emod_of_nonneg (Int.natCast_nonneg _)]
    have hp' : ones.bl (RB (Int.ofNat m)).toNat % 2 = 1 := hp
    omega
  | false =>
    rw [hb] at h2 hp
    refine selT ?_ h2
    rw [beq_iff_eq, Int.tmod_eq_emod_of_nonneg (Int.natCast_nonneg _)]
    have hp' : ones.bl (RB (Int.ofNat m)).toNat % 2 = 0 := hp
    omega
set_option maxRecDepth 100000 in
theorem kRPut : Known Tryd.prog [] 73 tRPut := by
  refine k_rput.less fun args regs R h => Box.out ?_
  unfold tRPut at h
  split at h
  case h_2 => exact h.elim
  exact rput_in h.1 h.2
theorem kg_rput : Known Tryd.prog GL 73 tRPut := known_gl kRPut
noncomputable def c_rget : FuncId → Option Con := conOf [(73, tRPut), (102, ones.tOnes)]
theorem kc_rget : ∀ f T, c_rget f = some T → Known Tryd.prog [] f T := (Knowns.cons kRPut (.cons ones.kOnes .nil)).get
noncomputable def X_rget : Cx := { P := Tryd.prog, con := c_rget, glob := [], m := 0, loops := [] }
noncomputable def t_rget : Con := fun args regs => if regs.length = 0 then nfun Tryd.prog [] c_rget [(0, [0, 4], unroll X_rget 0 [0, 4] [2, 3] (bodyLoop Tryd.f112 0) 17)] Tryd.f112 args regs else .fail
theorem k_rget : Known Tryd.prog [] 112 t_rget := known_loops 0 Tryd.func112 rfl (by kernel_rfl) mixed kc_rget (LAll.one (id := 0) (body := bodyLoop Tryd.f112 0) (by kernel_rfl) rfl (unroll_ok (X := X_rget) kc_rget mixed (LAll.none (by kernel_rfl)) [0, 4] [2, 3] 17))
noncomputable def hitR (b : Int) (k : Nat) : Bool := decide ((ones.bl (IntKind.i64.wrap (x8 (put (k : Int)) b)).toNat : Int) ≤ 1)
noncomputable def rgetE (b : Int) (R : Out → Prop) : List Nat → Prop
  | [] => R (oG 0 false)
  | k :: ks => (0 ≤ (k : Int) ∧ (k : Int) < 16) ∧ ((0 ≤ IntKind.i64.wrap (x8 (put (k : Int)) b) ∧ IntKind.i64.wrap (x8 (put (k : Int)) b) < 9223372036854775808) ∧ sel (hitR b k) (R (oG (k : Int) true)) (rgetE b R ks))
theorem rget_tree (b : Int) (R : Out → Prop) : (t_rget [.c (.i .u8 b)] []).run R = rgetE b R (List.range 16) := by kernel_rfl
theorem x8_comm (a b : Int) : x8 a b = x8 b a := by
  unfold x8 bits
  simp only [BitVec.xor_comm]
theorem bl_pc : ∀ x < 256, ones.bl x = pcTo x 8 := by decide +kernel
theorem hitR_eq (b : Int) (k : Nat) : hitR b k = hit b k := by
  unfold hitR hit pc
  have h := x8_in b (put (k : Int))
  rw [x8_comm (put (k : Int)) b]
  have w : IntKind.i64.wrap (x8 b (put (k : Int))) = x8 b (put (k : Int)) := by rw [IntKind.wrap_i64]; omega
  rw [w, bl_pc _ (by omega)]
theorem rgetE_in {b : Int} {R : Out → Prop} : ∀ {l : List Nat}, (∀ k ∈ l, k < 16) → R (oG ((l.find? (hit b)).getD 0 : Nat) (l.find? (hit b)).isSome) → rgetE b R l
  | [], _, h => h
  | k :: ks, hl, h => by
    have hk16 := hl k (by simp)
    have hx := x8_in (put (k : Int)) b
    have w : IntKind.i64.wrap (x8 (put (k : Int)) b) = x8 (put (k : Int)) b := by rw [IntKind.wrap_i64]; omega
    refine ⟨⟨by omega, by omega⟩, ⟨by omega, by omega⟩, ?_⟩
    rw [hitR_eq]
    rw [List.find?_cons] at h
    cases hk : hit b k with
    | true => rw [hk] at h; exact h
    | false => rw [hk] at h; exact rgetE_in (fun j hj => hl j (by simp [hj])) h
set_option maxRecDepth 100000 in
theorem kRGet : Known Tryd.prog [] 112 tGet := by
  refine k_rget.less fun args regs R h => Box.out ?_
  unfold tGet at h
  split at h
  case h_2 => exact h.elim
  rename_i b
  exact Box.of_eq (rget_tree b R) (rgetE_in (fun k hk => List.mem_range.1 hk) h)
end Go.Proofs.YthjdlanmfiofdaaDoor.pk

namespace Go.Proofs.YthjdlanmfiofdaaDoor.ham
open Go Go.Nx
open ones (bl tOnes kOnes)

noncomputable def tSpots : Con := fun args regs => nfun Tryd.prog [] (fun _ => Option.none) [] Tryd.f120 args regs
theorem kSpots : Known Tryd.prog [] 120 tSpots := known_inl Tryd.func120 rfl (by kernel_rfl) mixed con_none (by kernel_rfl)
noncomputable def cRef : FuncId → Option Con := conOf [(120, tSpots), (102, ones.tOnes)]
theorem kcRef : ∀ f T, cRef f = some T → Known Tryd.prog [] f T := (Knowns.cons kSpots (.cons ones.kOnes .nil)).get
noncomputable def XRef : Cx := { P := Tryd.prog, con := cRef, glob := [], m := 0, loops := [] }
noncomputable abbrev fData24 := Tryd.f108
noncomputable def tData0 : Con := fun args regs => if regs.length = 0 then nfun Tryd.prog [] cRef [(0, [0, 3, 4, 5], unroll XRef 0 [0, 3, 4, 5] [3] (bodyLoop fData24 0) 30)] fData24 args regs else .fail
theorem kData0 : Known Tryd.prog [] 108 tData0 := known_loops 0 Tryd.func108 rfl (by kernel_rfl) mixed kcRef
  (LAll.one (id := 0) (body := bodyLoop fData24 0) (by kernel_rfl) rfl (unroll_ok (X := XRef) kcRef mixed (LAll.none (by kernel_rfl)) [0, 3, 4, 5] [3] 30))
noncomputable def rdat (w : Int) : List Nat → Int → Nat → Int
  | [], n, _ => n
  | p :: ps, n, k => rdat w ps (bits .or .i64 n (shlv .i64 (bits .and .i64 (shrv .i64 w (Int.ofNat (p - 1))) 1) (Int.ofNat k))) (k + 1)
theorem data_tree (w : Int) (R : Out → Prop) : (tData0 [.c (.i .i64 w)] []).run R = R ⟨.v (.c (.i .i64 (rdat w spots 0 0))), []⟩ := by kernel_rfl

noncomputable abbrev fPut24 := Tryd.f107
noncomputable def XRef2 : Cx := { P := Tryd.prog, con := cRef, glob := [], m := 0, loops := [(4, [3, 6, 7, 8], unroll XRef 4 [3, 6, 7, 8] [3, 6, 7] (bodyLoop fPut24 4) 30)] }
theorem loopR4 : LOk Tryd.prog [] 0 4 (bodyLoop fPut24 4) (unroll XRef 4 [3, 6, 7, 8] [3, 6, 7] (bodyLoop fPut24 4) 30) := unroll_ok (X := XRef) kcRef mixed (LAll.none (by kernel_rfl)) [3, 6, 7, 8] [3, 6, 7] 30
theorem loopR0 : LOk Tryd.prog [] 0 0 (bodyLoop fPut24 0) (unroll XRef 0 [0, 3, 4, 5] [3] (bodyLoop fPut24 0) 30) := unroll_ok (X := XRef) kcRef mixed (LAll.none (by kernel_rfl)) [0, 3, 4, 5] [3] 30
noncomputable def rplace (n : Int) : List Nat → Int → Nat → Int
  | [], w, _ => w
  | p :: ps, w, k => rplace n ps (bits .or .i64 w (shlv .i64 (bits .and .i64 (shrv .i64 n (Int.ofNat k)) 1) (Int.ofNat (p - 1)))) (k + 1)
noncomputable def oddR (w : Int) : List Nat → Int → Int
  | [], o => o
  | p :: ps, o => oddR w ps (bits .xor .i64 o (bits .and .i64 (shrv .i64 w (Int.ofNat (p - 1))) 1))
/-- The places that the k-th watch sees. -/
def those (k : Nat) : List Nat := (List.range 24).filter fun p => p.testBit k
/-- The bits that keep watch, set. -/
noncomputable def keepI : List Nat → Int → Int
  | [], w => w
  | k :: ks, w => keepI ks (if oddR w (those k) 0 = 0 then bits .or .i64 w (Int.ofNat (2 ^ (2 ^ k - 1))) else w)
noncomputable def sPut (w k : Int) : St := { fr := frame 66 [(3, .v (.c (.i .i64 w))), (6, .v (.c (.i .i64 k)))], rg := [] }
noncomputable def dPut (w : Int) : St := { fr := frame 66 [(3, .v (.c (.i .i64 w)))], rg := [] }
theorem below5 {k : Nat} (h : k < 5) : k = 0 ∨ k = 1 ∨ k = 2 ∨ k = 3 ∨ k = 4 := by omega
theorem round_put (w : Int) (R : RO → Prop) (k : Nat) (h : k < 5) : (roundT XRef2 2 [3, 6] [3] (bodyLoop fPut24 2) (sPut w (k : Int))).run R =
    sel (oddR w (those k) 0 == 0) (R (RO.next (sPut (bits .or .i64 w (Int.ofNat (2 ^ (2 ^ k - 1)))) ((k + 1 : Nat) : Int)))) (R (RO.next (sPut w ((k + 1 : Nat) : Int)))) := by
  rcases below5 h with e | e | e | e | e <;> subst e <;> kernel_rfl
theorem round_end (w : Int) (R : RO → Prop) : (roundT XRef2 2 [3, 6] [3] (bodyLoop fPut24 2) (sPut w 5)).run R = R (RO.done NExit.normal (dPut w)) := by kernel_rfl
noncomputable def lPut : List Leaf × List (List Leaf) → Tr (NExit × St) := fun x => match x with
  | ([.i w, .i k], []) => .must (0 ≤ k ∧ k ≤ 5) (.ret (.normal, dPut (keepI ([0, 1, 2, 3, 4].drop k.toNat) w)))
  | _ => .fail
noncomputable def pPut : List Pat := pats 66 [(3, .i .i64), (6, .i .i64)]
theorem drop5 : ∀ k < 5, [0, 1, 2, 3, 4].drop k = k :: [0, 1, 2, 3, 4].drop (k + 1) := by decide
set_option maxRecDepth 100000 in
theorem loopR2 : LOk Tryd.prog [] 0 2 (bodyLoop fPut24 2) (sumP pPut [] lPut) := by
  refine sumP_ok (X := XRef2) kcRef mixed (LAll.one (id := 4) (body := bodyLoop fPut24 4) (by kernel_rfl) rfl loopR4) [3, 6] [3] _ _ _ (fun x => match x with
    | ([.i _, .i k], []) => (5 - k).toNat
    | _ => 0) ?_
  rintro ⟨a, b⟩ R h
  unfold lPut at h
  split at h
  case h_2 => exact h.elim
  rename_i w k he
  cases he
  have h1 := h.1
  have h2 : R (.normal, dPut (keepI ([0, 1, 2, 3, 4].drop k.toNat) w)) := h.2
  clear h
  show (roundT XRef2 2 [3, 6] [3] (bodyLoop fPut24 2) (sPut w k)).run _
  by_cases hp : k = 5
  · subst hp
    rw [round_end]
    exact h2
  · obtain ⟨n, hn⟩ : ∃ n : Nat, k = (n : Int) := ⟨k.toNat, by omega⟩
    subst hn
    have h5 : n < 5 := by omega
    rw [round_put w _ n h5]
    rw [Int.toNat_natCast, drop5 n h5] at h2
    simp only [keepI] at h2
    by_cases ho : oddR w (those n) 0 = 0
    · rw [if_pos ho] at h2
      refine sel_iff.2 (.inl ⟨by rw [beq_iff_eq]; exact ho, ⟨([.i (bits .or .i64 w (Int.ofNat (2 ^ (2 ^ n - 1)))), .i ((n + 1 : Nat) : Int)], []), rfl, by simp only; omega, ⟨by omega, by omega⟩, ?_⟩⟩)
      exact h2
    · rw [if_neg ho] at h2
      refine sel_iff.2 (.inr ⟨by rw [beq_eq_false_iff_ne]; exact ho, ⟨([.i w, .i ((n + 1 : Nat) : Int)], []), rfl, by simp only; omega, ⟨by omega, by omega⟩, ?_⟩⟩)
      exact h2
noncomputable def tPut24a : Con := fun args regs => if regs.length = 0 then nfun Tryd.prog [] cRef [(0, [0, 3, 4, 5], unroll XRef 0 [0, 3, 4, 5] [3] (bodyLoop fPut24 0) 30), (2, [3, 6], sumP pPut [] lPut)] fPut24 args regs else .fail
theorem kPut24a : Known Tryd.prog [] 107 tPut24a := known_loops 0 Tryd.func107 rfl (by kernel_rfl) mixed kcRef
  (LAll.two (i1 := 0) (i2 := 2) (b1 := bodyLoop fPut24 0) (b2 := bodyLoop fPut24 2) (by kernel_rfl) rfl (by decide) loopR0 loopR2)
theorem put24_tree (n : Int) (R : Out → Prop) : (tPut24a [.c (.i .i64 n)] []).run R = ((0 ≤ (0 : Int) ∧ (0 : Int) ≤ 5) ∧ ((0 ≤ keepI [0, 1, 2, 3, 4] (rplace n spots 0 0) ∧ keepI [0, 1, 2, 3, 4] (rplace n spots 0 0) < 9223372036854775808) ∧
    sel ((bl (keepI [0, 1, 2, 3, 4] (rplace n spots 0 0)).toNat : Int).tmod 2 == 0) (R ⟨.v (.c (.i .i64 (bits .or .i64 (keepI [0, 1, 2, 3, 4] (rplace n spots 0 0)) 8388608))), []⟩) (R ⟨.v (.c (.i .i64 (keepI [0, 1, 2, 3, 4] (rplace n spots 0 0)))), []⟩))) := by kernel_rfl
theorem u32_i64 (v : BitVec 32) : u32 v = i64 (v.setWidth 64) := by
  unfold u32 i64
  have := v.isLt
  rw [BitVec.toInt_eq_toNat_bmod, BitVec.toNat_setWidth, Int.bmod_def]
  split <;> omega
theorem or_u32i (v w : BitVec 32) : bits .or .i64 (u32 v) (u32 w) = u32 (v ||| w) := by
  rw [u32_i64, u32_i64, or_i64, u32_i64, BitVec.setWidth_or]
theorem xor_u32i (v w : BitVec 32) : bits .xor .i64 (u32 v) (u32 w) = u32 (v ^^^ w) := by
  rw [u32_i64, u32_i64, xor_i64, u32_i64, BitVec.setWidth_xor]
theorem shl_biti (b : Bool) (j : Nat) (hj : j < 64) : shlv .i64 (b.toNat : Int) (Int.ofNat j) = i64 (bif b then BitVec.twoPow 64 j else 0) := by
  rw [← shl_bit64 b j hj]
  cases b <;> rfl
theorem shl_bitu (b : Bool) (j : Nat) (hj : j < 32) : shlv .i64 (b.toNat : Int) (Int.ofNat j) = u32 (bif b then BitVec.twoPow 32 j else 0) := by
  rw [shl_biti b j (by omega), u32_i64]
  congr 1
  cases b with
  | false => simp
  | true =>
    apply BitVec.eq_of_toNat_eq
    show (BitVec.twoPow 64 j).toNat = ((BitVec.twoPow 32 j).setWidth 64).toNat
    have h1 : 2 ^ j < 2 ^ 32 := Nat.pow_lt_pow_right (by decide) hj
    rw [BitVec.toNat_setWidth, BitVec.toNat_twoPow, BitVec.toNat_twoPow]
    rw [Nat.mod_eq_of_lt (by omega : 2 ^ j < 2 ^ 64), Nat.mod_eq_of_lt (by omega : 2 ^ j < 2 ^ 32), Nat.mod_eq_of_lt (by omega)]
theorem and_onei (v : BitVec 32) (j : Nat) (hj : j < 64) : bits .and .i64 (shrv .i64 (u32 v) (Int.ofNat j)) 1 = (v.getLsbD j).toNat := by
  rw [u32_i64, shr_and_one _ j hj, BitVec.getLsbD_setWidth]
  simp [hj]
theorem rplace_bv (n : BitVec 64) : ∀ (ps : List Nat) (w : BitVec 32) (k : Nat), k + ps.length ≤ 64 → (∀ p ∈ ps, p ≤ 32 ∧ 0 < p) → rplace (i64 n) ps (u32 w) k = u32 (placev n ps w k)
  | [], _, _, _, _ => rfl
  | p :: ps, w, k, hk, hp => by
    have h1 := hp p (by simp)
    simp only [List.length_cons] at hk
    simp only [rplace, placev]
    rw [shr_and_one n k (by omega), shl_bitu _ (p - 1) (by omega), or_u32i, rplace_bv n ps _ (k + 1) (by omega) fun q hq => hp q (by simp [hq])]
theorem rdat_bv (v : BitVec 32) : ∀ (ps : List Nat) (n : BitVec 64) (k : Nat), k + ps.length ≤ 64 → (∀ p ∈ ps, p ≤ 32) → rdat (u32 v) ps (i64 n) k = i64 (datw v ps n k)
  | [], _, _, _, _ => rfl
  | p :: ps, n, k, hk, hp => by
    have h1 := hp p (by simp)
    simp only [List.length_cons] at hk
    simp only [rdat, datw]
    rw [and_onei v (p - 1) (by omega), shl_biti _ k (by omega), or_i64, rdat_bv v ps _ (k + 1) (by omega) fun q hq => hp q (by simp [hq])]

/-- Whether an odd number of places is set. -/
def oddb (v : BitVec 32) : List Nat → Bool → Bool
  | [], b => b
  | p :: ps, b => oddb v ps (b ^^ v.getLsbD (p - 1))
theorem oddR_bv (v : BitVec 32) : ∀ (ps : List Nat) (b : Bool), (∀ p ∈ ps, p ≤ 32) → oddR (u32 v) ps (b.toNat : Int) = ((oddb v ps b).toNat : Int)
  | [], _, _ => rfl
  | p :: ps, b, hp => by
    have h1 := hp p (by simp)
    simp only [oddR, oddb]
    rw [and_onei v (p - 1) (by omega)]
    have e : bits .xor .i64 (b.toNat : Int) ((v.getLsbD (p - 1)).toNat : Int) = ((b ^^ v.getLsbD (p - 1)).toNat : Int) := by
      cases b <;> cases v.getLsbD (p - 1) <;> decide
    rw [e, oddR_bv v ps _ fun q hq => hp q (by simp [hq])]
theorem oddb_ext {v w : BitVec 32} : ∀ (ps : List Nat) (b : Bool), (∀ p ∈ ps, v.getLsbD (p - 1) = w.getLsbD (p - 1)) → oddb v ps b = oddb w ps b
  | [], _, _ => rfl
  | p :: ps, b, h => by
    simp only [oddb]
    rw [h p (by simp), oddb_ext ps _ fun q hq => h q (by simp [hq])]
theorem oddb_start (v : BitVec 32) : ∀ (ps : List Nat) (b : Bool), oddb v ps b = (b ^^ oddb v ps false)
  | [], b => by simp [oddb]
  | p :: ps, b => by
    simp only [oddb]
    rw [oddb_start v ps (b ^^ _), oddb_start v ps (false ^^ _), Bool.false_xor, Bool.xor_assoc]
def synl (v : BitVec 32) : List Nat → BitVec 64
  | [] => 0
  | p :: ps => (bif v.getLsbD (p - 1) then BitVec.ofNat 64 p else 0) ^^^ synl v ps
theorem synl_bit (v : BitVec 32) (k : Nat) (hk : k < 64) : ∀ ps, (synl v ps).getLsbD k = oddb v (ps.filter fun p => p.testBit k) false
  | [] => by simp [synl, oddb]
  | p :: ps => by
    simp only [synl, BitVec.getLsbD_xor]
    rw [synl_bit v k hk ps, List.filter_cons]
    have e : (bif v.getLsbD (p - 1) then BitVec.ofNat 64 p else 0).getLsbD k = (v.getLsbD (p - 1) && p.testBit k) := by
      cases v.getLsbD (p - 1) with
      | false => simp
      | true =>
        show (BitVec.ofNat 64 p).getLsbD k = _
        rw [BitVec.getLsbD_ofNat]
        simp [hk]
    rw [e]
    cases p.testBit k with
    | false => simp
    | true =>
      simp only [if_true, oddb]
      rw [oddb_start v _ (false ^^ _)]
      simp
theorem synv_synl (v : BitVec 32) : synv v 23 = synl v (List.range 24).tail := by
  simp only [synv]
  rfl
theorem those_tail : ∀ k < 5, those k = (List.range 24).tail.filter fun p => p.testBit k := by decide
theorem syn_odd (v : BitVec 32) (k : Nat) (hk : k < 5) : (synv v 23).getLsbD k = oddb v (those k) false := by
  rw [synv_synl, synl_bit v k (by omega), those_tail k hk]
def keepO : List Nat → BitVec 32 → BitVec 32
  | [], w => w
  | k :: ks, w => keepO ks (bif oddb w (those k) false then w else w ||| BitVec.twoPow 32 (2 ^ k - 1))
theorem those_le : ∀ k < 5, ∀ p ∈ those k, p ≤ 32 := by decide
theorem pow_u32 : ∀ k < 5, Int.ofNat (2 ^ (2 ^ k - 1)) = u32 (BitVec.twoPow 32 (2 ^ k - 1)) := by decide +kernel
theorem keepI_bv : ∀ (ks : List Nat) (w : BitVec 32), (∀ k ∈ ks, k < 5) → keepI ks (u32 w) = u32 (keepO ks w)
  | [], _, _ => rfl
  | k :: ks, w, hk => by
    have h1 := hk k (by simp)
    have e := oddR_bv w (those k) false (those_le k h1)
    simp only [keepI, keepO]
    rw [show oddR (u32 w) (those k) 0 = oddR (u32 w) (those k) (false.toNat : Int) from rfl, e, pow_u32 k h1, or_u32i]
    cases ho : oddb w (those k) false with
    | true =>
      rw [if_neg (by decide)]
      exact keepI_bv ks _ fun q hq => hk q (by simp [hq])
    | false =>
      rw [if_pos (by decide)]
      exact keepI_bv ks _ fun q hq => hk q (by simp [hq])
theorem watch_own : ∀ k < 5, ∀ q < 5, k ≠ q → ∀ p ∈ those q, 2 ^ k - 1 ≠ p - 1 := by decide
theorem keepO_v (s : BitVec 64) : ∀ (ks : List Nat) (w : BitVec 32), ks.Nodup → (∀ k ∈ ks, k < 5) → (∀ k ∈ ks, oddb w (those k) false = s.getLsbD k) → keepO ks w = keepv s ks w
  | [], _, _, _, _ => rfl
  | k :: ks, w, hn, hk, h => by
    rw [List.nodup_cons] at hn
    have h1 := h k (by simp)
    have k5 := hk k (by simp)
    simp only [keepO, keepv]
    have e : (bif oddb w (those k) false then w else w ||| BitVec.twoPow 32 (2 ^ k - 1)) = w ||| (bif !s.getLsbD k then BitVec.twoPow 32 (2 ^ k - 1) else 0) := by
      rw [h1]
      cases s.getLsbD k <;> simp
    rw [e]
    refine keepO_v s ks _ hn.2 (fun q hq => hk q (by simp [hq])) fun q hq => ?_
    rw [← h q (by simp [hq])]
    apply oddb_ext
    intro p hp
    have ne := watch_own k k5 q (hk q (by simp [hq])) (fun e => hn.1 (e ▸ hq)) p hp
    rw [BitVec.getLsbD_or]
    cases s.getLsbD k with
    | true => simp
    | false => simp [BitVec.getLsbD_twoPow, ne]
theorem keepO_p1 (n : BitVec 64) : keepO [0, 1, 2, 3, 4] (p0v n) = p1v n :=
  keepO_v (synv (p0v n) 23) [0, 1, 2, 3, 4] (p0v n) (by decide) (by decide) fun k hk => (syn_odd _ k (by simp at hk; omega)).symm
theorem par_bv (v : BitVec 32) : ∀ n, ones.par v.toNat n = parTo v n
  | 0 => rfl
  | n + 1 => by
    simp only [ones.par, parTo]
    rw [par_bv v n, BitVec.testBit_toNat]
theorem bl_even (v : BitVec 32) : ((bl (u32 v).toNat : Int).tmod 2 == 0) = !parTo v 32 := by
  have h := ones.bl_par 32 v.toNat v.isLt
  rw [par_bv] at h
  rw [Int.tmod_eq_emod_of_nonneg (Int.natCast_nonneg _)]
  have e : (u32 v).toNat = v.toNat := by simp [u32]
  rw [e]
  cases hp : parTo v 32 <;> rw [hp] at h <;> simp [Bool.toNat] at h ⊢ <;> omega
/-- What is known of the document's put24. -/
noncomputable def tPutR : Con := fun args regs => match args, regs with
  | [.c (.i .i64 n)], [] => .must (In64 n) (.ret ⟨.v (.c (.i .i64 (u32 (wordv (BitVec.ofInt 64 n))))), []⟩)
  | _, _ => .fail
set_option maxRecDepth 100000 in
theorem kPutR : Known Tryd.prog [] 107 tPutR := by
  refine kPut24a.less fun args regs R h => ?_
  unfold tPutR at h
  split at h
  case h_2 => exact h.elim
  rename_i n
  have h1 := h.1
  have h2 : R ⟨.v (.c (.i .i64 (u32 (wordv (BitVec.ofInt 64 n))))), []⟩ := h.2
  clear h
  have hn := fit_i64 h1.1 h1.2
  generalize BitVec.ofInt 64 n = v at *
  subst hn
  rw [put24_tree]
  have e0 : rplace (i64 v) spots 0 0 = u32 (p0v v) := rplace_bv v spots 0 0 (by decide) spots_le
  rw [e0, keepI_bv _ _ (by decide), keepO_p1]
  have hf := u32_fits (p1v v)
  refine ⟨⟨by decide, by decide⟩, ⟨hf.1, by omega⟩, ?_⟩
  rw [bl_even, show (8388608 : Int) = u32 8388608#32 from rfl, or_u32i]
  unfold wordv at h2
  cases hp : parTo (p1v v) 32 with
  | true =>
    rw [hp] at h2
    exact sel_iff.2 (.inr ⟨rfl, h2⟩)
  | false =>
    rw [hp] at h2
    exact sel_iff.2 (.inl ⟨rfl, h2⟩)
/-- What is known of the document's data24. -/
noncomputable def tDataR : Con := fun args regs => match args, regs with
  | [.c (.i .i64 w)], [] => .must (0 ≤ w ∧ w < 4294967296) (.ret ⟨.v (.c (.i .i64 (i64 (datv (BitVec.ofInt 32 w))))), []⟩)
  | _, _ => .fail
set_option maxRecDepth 100000 in
theorem kDataR : Known Tryd.prog [] 108 tDataR := by
  refine kData0.less fun args regs R h => ?_
  unfold tDataR at h
  split at h
  case h_2 => exact h.elim
  rename_i w
  have h1 := h.1
  have h2 : R ⟨.v (.c (.i .i64 (i64 (datv (BitVec.ofInt 32 w))))), []⟩ := h.2
  clear h
  have hn := fit_u32 h1.1 h1.2
  generalize BitVec.ofInt 32 w = v at *
  subst hn
  rw [data_tree]
  have e0 : rdat (u32 v) spots 0 0 = i64 (datv v) := rdat_bv v spots 0 0 (by decide) (by decide)
  rw [e0]
  exact h2
noncomputable def cRG : FuncId → Option Con := conOf [(107, tPutR), (108, tDataR)]
theorem kcRG : ∀ f T, cRG f = some T → Known Tryd.prog [] f T := (Knowns.cons kPutR (Knowns.cons kDataR Knowns.nil)).get
noncomputable def tPutRB : Con := fun args regs => nfun Tryd.prog [] cRG [] Tryd.f83 args regs
theorem kPutRB : Known Tryd.prog [] 83 tPutRB := known_inl Tryd.func83 rfl (by kernel_rfl) mixed kcRG (by kernel_rfl)
noncomputable def bytes3i (w : Int) : NS := .v (.ag [.i .u8 (IntKind.u8.wrap w), .i .u8 (IntKind.u8.wrap (shrv .i64 w 8)), .i .u8 (IntKind.u8.wrap (shrv .i64 w 16))])
theorem putRB_tree (n : Int) (R : Out → Prop) : (tPutRB [.c (.i .i64 n)] []).run R = (In64 n ∧ R ⟨bytes3i (u32 (wordv (BitVec.ofInt 64 n))), []⟩) := by kernel_rfl
theorem shr_u32i (v : BitVec 32) (j : Nat) (hj : j ≤ 32) : shrv .i64 (u32 v) (j : Int) = u32 (v >>> j) := by
  rw [← shr_u32 v j hj]
  unfold shrv
  have e1 : min (j : Int).toNat IntKind.i64.bits = j := by
    show min (j : Int).toNat 64 = j
    rw [Int.toNat_natCast]; omega
  have e2 : min (j : Int).toNat IntKind.u32.bits = j := by
    show min (j : Int).toNat 32 = j
    rw [Int.toNat_natCast]; omega
  rw [e1, e2]
theorem bytes3i_bv (v : BitVec 32) : bytes3i (u32 v) = bytesv v := by
  unfold bytes3i bytesv
  have e8 : shrv .i64 (u32 v) 8 = _ := shr_u32i v 8 (by decide)
  have e16 : shrv .i64 (u32 v) 16 = _ := shr_u32i v 16 (by decide)
  rw [e8, e16, wrap_u8, wrap_u8, wrap_u8, Nx.ofInt_u32, Nx.ofInt_u32, Nx.ofInt_u32]
  rfl
set_option maxRecDepth 100000 in
theorem kPutRV : Known Tryd.prog [] 83 tPutV := by
  refine kPutRB.less fun args regs R h => ?_
  unfold tPutV at h
  split at h
  case h_2 => exact h.elim
  rename_i n
  rw [putRB_tree, bytes3i_bv]
  exact h

noncomputable abbrev fGet24 := Tryd.f82
noncomputable def XRG : Cx := { P := Tryd.prog, con := cRG, glob := [], m := 0, loops := [] }
noncomputable def tGetRB : Con := fun args regs => if regs.length = 0 then nfun Tryd.prog [] cRG [(0, [4, 5], unroll XRG 0 [4, 5] [2, 3] (bodyLoop fGet24 0) 30)] fGet24 args regs else .fail
theorem kGetRB : Known Tryd.prog [] 82 tGetRB := known_loops 0 Tryd.func82 rfl (by kernel_rfl) mixed kcRG
  (LAll.one (id := 0) (body := bodyLoop fGet24 0) (by kernel_rfl) rfl (unroll_ok (X := XRG) kcRG mixed (LAll.none (by kernel_rfl)) [4, 5] [2, 3] 30))
noncomputable def wordi (a b c : Int) : Int := bits .or .i64 (bits .or .i64 (IntKind.i64.wrap a) (shlv .i64 (IntKind.i64.wrap b) 8)) (shlv .i64 (IntKind.i64.wrap c) 16)
def In32 (w : Int) : Prop := 0 ≤ w ∧ w < 4294967296
def dI (w : Int) : Int := i64 (datv (BitVec.ofInt 32 w))
/-- A word that is some number's: it is it; another one: so says K. -/
noncomputable def tryW (w : Int) (R : Out → Prop) (K : Prop) : Prop := In32 w ∧ (In64 (dI w) ∧ sel (u32 (wordv (BitVec.ofInt 64 (dI w))) == w) (In32 w ∧ R (some2 (dI w))) K)
noncomputable def chain (w : Int) (R : Out → Prop) : List Nat → Prop
  | [] => R none2
  | i :: is => tryW (bits .xor .i64 w (shlv .i64 1 (Int.ofNat i))) R (chain w R is)
theorem getRB_tree (a b c : Int) (R : Out → Prop) : (tGetRB [.ag [.i .u8 a, .i .u8 b, .i .u8 c]] []).run R =
    tryW (wordi a b c) R (chain (wordi a b c) R (List.range 24)) := by kernel_rfl
theorem i64_fits (v : BitVec 64) : In64 (i64 v) := by
  have h1 := BitVec.toInt_lt (x := v)
  have h2 := BitVec.le_toInt (x := v)
  unfold i64 In64
  constructor <;> omega
theorem spots_at {i : Nat} (h : i + 1 ∈ spots) : ∃ j, j < 64 ∧ spots[j]? = some (i + 1) := by
  obtain ⟨j, hj⟩ := List.getElem?_of_mem h
  refine ⟨j, ?_, hj⟩
  have := (List.getElem?_eq_some_iff.mp hj).1
  have h2 : spots.length = 18 := rfl
  omega
theorem code_iff (v : BitVec 32) : wordv (datv v) = v ↔ Code v := by
  constructor
  · intro h
    rw [← h]
    exact wordv_code _
  · intro h
    refine (wordv_code _).uniq h fun i hi => ?_
    obtain ⟨j, hj, e⟩ := spots_at hi
    rw [wordv_on _ i j e, datv_bit v j hj, e]
    rfl
theorem in32 (v : BitVec 32) : In32 (u32 v) := u32_fits v
theorem dI_bv (v : BitVec 32) : dI (u32 v) = i64 (datv v) := by
  unfold dI
  rw [Nx.ofInt_u32, BitVec.setWidth_eq]
theorem tryW_bv {v : BitVec 32} {R : Out → Prop} {K : Prop} (h1 : Code v → R (some2 (i64 (datv v)))) (h2 : ¬ Code v → K) : tryW (u32 v) R K := by
  unfold tryW
  rw [dI_bv, Nx.ofInt_i64_64]
  refine ⟨in32 v, i64_fits _, ?_⟩
  by_cases c : Code v
  · rw [(code_iff v).2 c]
    exact sel_iff.2 (.inl ⟨by simp, in32 v, h1 c⟩)
  · refine sel_iff.2 (.inr ⟨?_, h2 c⟩)
    rw [beq_eq_false_iff_ne]
    intro e
    exact c ((code_iff v).1 (u32_inj.1 e))
theorem turn_bv (v : BitVec 32) (i : Nat) (hi : i < 32) : bits .xor .i64 (u32 v) (shlv .i64 1 (Int.ofNat i)) = u32 (v ^^^ BitVec.twoPow 32 i) := by
  rw [show shlv .i64 1 (Int.ofNat i) = shlv .i64 ((true.toNat : Nat) : Int) (Int.ofNat i) from rfl, shl_bitu true i hi, xor_u32i]
  rfl
theorem chain_none {v : BitVec 32} {R : Out → Prop} (h : R none2) : ∀ is : List Nat, (∀ i ∈ is, i < 24) → (∀ i ∈ is, ¬ Code (v ^^^ BitVec.twoPow 32 i)) → chain (u32 v) R is
  | [], _, _ => h
  | i :: is, hi, hc => by
    have h1 := hi i (by simp)
    simp only [chain]
    rw [turn_bv v i (by omega)]
    exact tryW_bv (fun c => (hc i (by simp) c).elim) fun _ => chain_none h is (fun q hq => hi q (by simp [hq])) fun q hq => hc q (by simp [hq])
theorem chain_some {v : BitVec 32} {R : Out → Prop} {k : Nat} (hk : Code (v ^^^ BitVec.twoPow 32 k)) (h : R (some2 (i64 (datv (v ^^^ BitVec.twoPow 32 k))))) : ∀ is : List Nat, k ∈ is → (∀ i ∈ is, i < 24) → (∀ i ∈ is, Code (v ^^^ BitVec.twoPow 32 i) → i = k) → chain (u32 v) R is
  | [], hm, _, _ => by simp at hm
  | i :: is, hm, hi, hc => by
    have h1 := hi i (by simp)
    simp only [chain]
    rw [turn_bv v i (by omega)]
    refine tryW_bv (fun c => ?_) fun c => ?_
    · rw [hc i (by simp) c]; exact h
    · have hm2 : k ∈ is := by
        simp only [List.mem_cons] at hm
        rcases hm with e | e
        · subst e; exact (c hk).elim
        · exact e
      exact chain_some hk h is hm2 (fun q hq => hi q (by simp [hq])) fun q hq => hc q (by simp [hq])
theorem turned {v : BitVec 32} {i : Nat} (hi : i < 24) (c : Code (v ^^^ BitVec.twoPow 32 i)) : atv v = sy i ∧ parTo v 32 = false := by
  have h1 := c.at1 hi
  have h2 := c.par1 hi
  rw [xor_back] at h1 h2
  exact ⟨h1, h2⟩
theorem mended {v : BitVec 32} (hv : ∀ i, 24 ≤ i → v.getLsbD i = false) {i : Nat} (hi : i < 24) (ha : atv v = sy i) (hp : parTo v 32 = false) : Code (v ^^^ BitVec.twoPow 32 i) := by
  refine ⟨?_, ?_, high_xor hv (bit_high hi)⟩
  · rw [synv_xor, syn_one i hi, ← ha]
    unfold atv
    rw [← BitVec.xor_assoc, BitVec.xor_self, BitVec.zero_xor]
  · rw [parTo_xor, hp, par_one i hi]; rfl
theorem sy_inj {i k : Nat} (hi : i < 24) (hk : k < 24) (h : sy i = sy k) : i = k := by
  apply Classical.byContradiction
  intro ne
  apply sy_ne i hi k hk ne
  rw [h, BitVec.xor_self]
theorem below (i : Nat) (h : i ∈ List.range 24) : i < 24 := by simpa using h
theorem get_same {v : BitVec 32} (hv : ∀ i, 24 ≤ i → v.getLsbD i = false) {R : Out → Prop} (h : R ⟨.tu [.c (.i .i64 (i64 (getN v))), .c (.b (getB v))], []⟩) : tryW (u32 v) R (chain (u32 v) R (List.range 24)) := by
  unfold getN getB at h
  cases z : atv v == 0 with
  | true =>
    have z' : atv v = 0 := by rwa [beq_iff_eq] at z
    rw [z] at h
    cases p : parTo v 32 with
    | true =>
      refine tryW_bv (fun _ => h) fun c => (c ⟨?_, p, hv⟩).elim
      unfold atv at z'
      have := congrArg (fun x => x ^^^ 31#64) z'
      simpa [BitVec.xor_assoc] using this
    | false =>
      refine tryW_bv (fun _ => h) fun _ => ?_
      have c23 : Code (v ^^^ BitVec.twoPow 32 23) := mended hv (by decide) z' p
      have e : datv (v ^^^ BitVec.twoPow 32 23) = datv v := by
        apply datv_ext
        intro j hj
        have : ¬ 23 = j := by
          intro e
          subst e
          revert hj
          decide
        rw [BitVec.getLsbD_xor, BitVec.getLsbD_twoPow]
        simp [this]
      refine chain_some c23 (by rw [e]; exact h) _ (by simp) below fun i hi c => ?_
      exact sy_inj (below i hi) (by decide) ((turned (below i hi) c).1.symm.trans z')
  | false =>
    have z' : atv v ≠ 0 := by rwa [beq_eq_false_iff_ne] at z
    rw [z] at h
    have nc : ¬ Code v := fun c => z' c.at
    refine tryW_bv (fun c => (nc c).elim) fun _ => ?_
    cases p : parTo v 32 with
    | true =>
      rw [p] at h
      refine chain_none h _ below fun i hi c => ?_
      have := (turned (below i hi) c).2
      rw [p] at this
      cases this
    | false =>
      rw [p] at h
      cases g : decide (24 ≤ (atv v).toNat) with
      | true =>
        rw [g] at h
        refine chain_none h _ below fun i hi c => ?_
        have e := (turned (below i hi) c).1
        rw [decide_eq_true_eq] at g
        by_cases h23 : i < 23
        · have := (sy_toNat i h23).2
          rw [← e] at this
          omega
        · have : i = 23 := by have := below i hi; omega
          subst this
          exact z' e
      | false =>
        rw [g] at h
        rw [decide_eq_false_iff_not] at g
        have nz : (atv v).toNat ≠ 0 := fun e => z' (BitVec.eq_of_toNat_eq e)
        have i23 : (atv v).toNat - 1 < 23 := by omega
        have e : atv v = sy ((atv v).toNat - 1) := by
          apply BitVec.eq_of_toNat_eq
          rw [(sy_toNat _ i23).2]
          omega
        have c0 := mended hv (i := (atv v).toNat - 1) (by omega) e p
        refine chain_some c0 h _ (by simp; omega) below fun i hi c => ?_
        exact sy_inj (below i hi) (by omega) ((turned (below i hi) c).1.symm.trans e)
theorem wordi_bv (a b c : BitVec 8) : wordi (u8 a) (u8 b) (u8 c) = u32 (w3 a b c) := by
  have e : ∀ x : BitVec 8, IntKind.i64.wrap (u8 x) = u32 (x.setWidth 32) := fun x => by
    have := x.isLt
    rw [IntKind.wrap_i64]
    unfold u8 u32
    rw [BitVec.toNat_setWidth]
    omega
  have s : ∀ (x : BitVec 8) (j : Nat), j ≤ 16 → shlv .i64 (u32 (x.setWidth 32)) (j : Int) = u32 (x.setWidth 32 <<< j) := fun x j hj => by
    have h8 := x.isLt
    rw [shl_i64 _ j (by omega), Nx.ofInt_u32, u32_i64]
    congr 1
    apply BitVec.eq_of_toNat_eq
    rw [BitVec.toNat_shiftLeft, BitVec.toNat_setWidth, BitVec.toNat_setWidth, BitVec.toNat_setWidth, BitVec.toNat_shiftLeft, BitVec.toNat_setWidth, Nat.shiftLeft_eq, Nat.shiftLeft_eq]
    have hp : 2 ^ j ≤ 2 ^ 16 := Nat.pow_le_pow_right (by decide) hj
    have hm : x.toNat * 2 ^ j ≤ 255 * 2 ^ 16 := Nat.mul_le_mul (by omega) hp
    have q1 : x.toNat % 2 ^ 32 = x.toNat := Nat.mod_eq_of_lt (by omega)
    rw [q1]
    have q2 : x.toNat % 2 ^ 64 = x.toNat := Nat.mod_eq_of_lt (by omega)
    rw [q2]
    have q3 : x.toNat * 2 ^ j % 2 ^ 32 = x.toNat * 2 ^ j := Nat.mod_eq_of_lt (by omega)
    rw [q3]
  unfold wordi w3
  have s8 : shlv .i64 (u32 (b.setWidth 32)) 8 = _ := s b 8 (by decide)
  have s16 : shlv .i64 (u32 (c.setWidth 32)) 16 = _ := s c 16 (by decide)
  rw [e, e, e, s8, s16, or_u32i, or_u32i]
theorem w3_high (a b c : BitVec 8) (i : Nat) (hi : 24 ≤ i) : (w3 a b c).getLsbD i = false := by
  rw [w3_bit, if_neg (by omega), if_neg (by omega), if_neg (by omega)]
set_option maxRecDepth 100000 in
theorem kGetRV : Known Tryd.prog [] 82 tGetV := by
  refine kGetRB.less fun args regs R h => ?_
  unfold tGetV at h
  split at h
  case h_2 => exact h.elim
  rename_i a b c
  have h1 := h.1
  have h2 := h.2
  clear h
  have ha := fit_u8 h1.1.1 h1.1.2
  have hb := fit_u8 h1.2.1.1 h1.2.1.2
  have hc := fit_u8 h1.2.2.1 h1.2.2.2
  generalize BitVec.ofInt 8 a = a' at *
  generalize BitVec.ofInt 8 b = b' at *
  generalize BitVec.ofInt 8 c = c' at *
  subst ha hb hc
  have h3 : R ⟨.tu [.c (.i .i64 (i64 (getN (w3 a' b' c')))), .c (.b (getB (w3 a' b' c')))], []⟩ := h2
  clear h2
  rw [getRB_tree, wordi_bv]
  exact get_same (w3_high a' b' c') h3

end Go.Proofs.YthjdlanmfiofdaaDoor.ham
