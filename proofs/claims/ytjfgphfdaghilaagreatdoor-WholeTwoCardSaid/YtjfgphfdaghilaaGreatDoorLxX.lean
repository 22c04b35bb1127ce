/-
  Joined: Num, LexA, Rones, LexB, LexC, LexS, LexD, LexE.
-/
import Derived.Test.YtjfgphfdaghilaaGreatDoorEngC
import Derived.Test.YtjfgphfdaghilaaGreatDoorPbv
import Derived.Test.YtjfgphfdaghilaaGreatDoorRows
set_option linter.unusedVariables false
namespace Go.Proofs.YtjfgphfdaghilaaGreatDoor.num
open Go Go.Nx

theorem mixed : Tryz.prog.follows .mixedOrders = true := by kernel_rfl
noncomputable def tNum : Con := fun args regs => nfun Tryz.prog [] (fun _ => Option.none) [] Tryz.f33 args regs
theorem kNum : Known Tryz.prog [] 33 tNum := known_inl Tryz.func33 rfl (by kernel_rfl) mixed con_none (by kernel_rfl)
theorem num_tree (n m : Int) (R : Out → Prop) : (tNum [.c (.i .i64 n), .c (.i .i64 m)] []).run R = sel (m != 0) (sel (decide (Int.tmod n m < 0)) (R ⟨.v (.c (.i .i64 (IntKind.i64.wrap (Int.tmod n m + m)))), []⟩) (R ⟨.v (.c (.i .i64 (Int.tmod n m))), []⟩)) False := by kernel_rfl
noncomputable def tNumV : Con := fun args regs => match args, regs with
  | [.c (.i .i64 n), .c (.i .i64 m)], [] => .must (0 < m ∧ m < 4611686018427387904) (.ret ⟨.v (.c (.i .i64 (n % m))), []⟩)
  | _, _ => .fail
set_option maxRecDepth 100000 in
theorem kNumV : Known Tryz.prog [] 33 tNumV := by
  refine kNum.less fun args regs R h => ?_
  unfold tNumV at h
  split at h
  case h_2 => exact h.elim
  rename_i n m
  have h1 := h.1
  have h2 : R ⟨.v (.c (.i .i64 (n % m))), []⟩ := h.2
  clear h
  rw [num_tree]
  have a1 := Int.tmod_lt_of_pos n h1.1
  have a2 : -m < Int.tmod n m := by
    have := Int.tmod_lt_of_pos (-n) h1.1
    rw [Int.neg_tmod] at this
    omega
  have a3 : n % m = if Int.tmod n m < 0 then Int.tmod n m + m else Int.tmod n m := by
    rw [Int.emod_eq_tmod]
    by_cases c : 0 ≤ n ∨ m ∣ n
    · rw [if_pos c]
      rcases c with c | c
      · have : ¬ Int.tmod n m < 0 := by
          have := Int.tmod_nonneg m c
          omega
        rw [if_neg this]; omega
      · have : Int.tmod n m = 0 := Int.tmod_eq_zero_of_dvd c
        rw [this]; simp
    · rw [if_neg c]
      have c1 : ¬ 0 ≤ n := fun h => c (.inl h)
      have c2 : ¬ m ∣ n := fun h => c (.inr h)
      have : Int.tmod n m < 0 := by
        have h0 : Int.tmod n m ≠ 0 := fun h => c2 (Int.dvd_of_tmod_eq_zero h)
        have h5 : Int.tmod n m ≤ 0 := by
          have h6 := Int.tmod_nonneg (a := -n) m (by omega)
          rw [Int.neg_tmod] at h6
          omega
        omega
      rw [if_pos this]; omega
  refine sel_iff.2 (.inl ⟨by rw [bne_iff_ne]; omega, ?_⟩)
  rw [a3] at h2
  by_cases c : Int.tmod n m < 0
  · rw [if_pos c] at h2
    refine sel_iff.2 (.inl ⟨by rw [decide_eq_true_eq]; exact c, ?_⟩)
    have w2 : IntKind.i64.wrap (Int.tmod n m + m) = Int.tmod n m + m := by rw [IntKind.wrap_i64]; omega
    rw [w2]
    exact h2
  · rw [if_neg c] at h2
    exact sel_iff.2 (.inr ⟨by rw [decide_eq_false_iff_not]; exact c, h2⟩)

end Go.Proofs.YtjfgphfdaghilaaGreatDoor.num
namespace Go.Proofs.YtjfgphfdaghilaaGreatDoor.lex
open Go Go.Nx

theorem mixed : Tryz.prog.follows .mixedOrders = true := by kernel_rfl
noncomputable def t_ignored : Con := fun args regs => nfun Tryz.prog [] (fun _ => Option.none) [] Tryz.f217 args regs
theorem k_ignored : Known Tryz.prog [] 217 t_ignored := known_inl Tryz.func217 rfl (by kernel_rfl) mixed con_none (by kernel_rfl)
noncomputable def t_one : Con := fun args regs => nfun Tryz.prog [] (fun _ => Option.none) [] Tryz.f220 args regs
theorem k_one : Known Tryz.prog [] 220 t_one := known_inl Tryz.func220 rfl (by kernel_rfl) mixed con_none (by kernel_rfl)
noncomputable def t_char : Con := fun args regs => nfun Tryz.prog [] (fun _ => Option.none) [] Tryz.f219 args regs
theorem k_char : Known Tryz.prog [] 219 t_char := known_inl Tryz.func219 rfl (by kernel_rfl) mixed con_none (by kernel_rfl)
noncomputable def t_ends : Con := fun args regs => nfun Tryz.prog [] (fun _ => Option.none) [] Tryz.f216 args regs
theorem k_ends : Known Tryz.prog [] 216 t_ends := known_inl Tryz.func216 rfl (by kernel_rfl) mixed con_none (by kernel_rfl)
noncomputable def t_goes : Con := fun args regs => nfun Tryz.prog [] (fun _ => Option.none) [] Tryz.f271 args regs
theorem k_goes : Known Tryz.prog [] 271 t_goes := known_inl Tryz.func271 rfl (by kernel_rfl) mixed con_none (by kernel_rfl)
noncomputable def t_isAccent : Con := fun args regs => nfun Tryz.prog [] (fun _ => Option.none) [] Tryz.f270 args regs
theorem k_isAccent : Known Tryz.prog [] 270 t_isAccent := known_inl Tryz.func270 rfl (by kernel_rfl) mixed con_none (by kernel_rfl)
noncomputable def c_control : FuncId → Option Con := conOf [(220, t_one), (219, t_char), (217, t_ignored)]
theorem kc_control : ∀ f T, c_control f = some T → Known Tryz.prog [] f T := (Knowns.cons k_one (Knowns.cons k_char (Knowns.cons k_ignored Knowns.nil))).get
noncomputable def t_control : Con := fun args regs => nfun Tryz.prog [] c_control [] Tryz.f218 args regs
theorem k_control : Known Tryz.prog [] 218 t_control := known_inl Tryz.func218 rfl (by kernel_rfl) mixed kc_control (by kernel_rfl)
noncomputable def t_count8 : Con := fun args regs => nfun Tryz.prog [] (fun _ => Option.none) [] Tryz.f53 args regs
theorem k_count8 : Known Tryz.prog [] 53 t_count8 := known_inl Tryz.func53 rfl (by kernel_rfl) mixed con_none (by kernel_rfl)
noncomputable def c_podd : FuncId → Option Con := conOf [(53, t_count8)]
theorem kc_podd : ∀ f T, c_podd f = some T → Known Tryz.prog [] f T := (Knowns.cons k_count8 Knowns.nil).get
noncomputable def t_podd : Con := fun args regs => nfun Tryz.prog [] c_podd [] Tryz.f97 args regs
theorem k_podd : Known Tryz.prog [] 97 t_podd := known_inl Tryz.func97 rfl (by kernel_rfl) mixed kc_podd (by kernel_rfl)
noncomputable def c_peven : FuncId → Option Con := conOf [(97, t_podd)]
theorem kc_peven : ∀ f T, c_peven f = some T → Known Tryz.prog [] f T := (Knowns.cons k_podd Knowns.nil).get
noncomputable def t_peven : Con := fun args regs => nfun Tryz.prog [] c_peven [] Tryz.f55 args regs
theorem k_peven : Known Tryz.prog [] 55 t_peven := known_inl Tryz.func55 rfl (by kernel_rfl) mixed kc_peven (by kernel_rfl)
noncomputable def c_sign : FuncId → Option Con := conOf [(219, t_char), (270, t_isAccent), (271, t_goes), (216, t_ends)]
theorem kc_sign : ∀ f T, c_sign f = some T → Known Tryz.prog [] f T := (Knowns.cons k_char (Knowns.cons k_isAccent (Knowns.cons k_goes (Knowns.cons k_ends Knowns.nil)))).get
noncomputable def t_sign : Con := fun args regs => nfun Tryz.prog [] c_sign [] Tryz.f221 args regs
theorem k_sign : Known Tryz.prog [] 221 t_sign := known_inl Tryz.func221 rfl (by kernel_rfl) mixed kc_sign (by kernel_rfl)
noncomputable def c_place : FuncId → Option Con := conOf [(271, t_goes), (216, t_ends), (217, t_ignored)]
theorem kc_place : ∀ f T, c_place f = some T → Known Tryz.prog [] f T := (Knowns.cons k_goes (Knowns.cons k_ends (Knowns.cons k_ignored Knowns.nil))).get
noncomputable def t_place : Con := fun args regs => nfun Tryz.prog [] c_place [] Tryz.f222 args regs
theorem k_place : Known Tryz.prog [] 222 t_place := known_inl Tryz.func222 rfl (by kernel_rfl) mixed kc_place (by kernel_rfl)
noncomputable def c_byte0 : FuncId → Option Con := conOf [(55, t_peven), (216, t_ends), (217, t_ignored), (218, t_control), (219, t_char), (220, t_one), (221, t_sign), (222, t_place)]
theorem kc_byte0 : ∀ f T, c_byte0 f = some T → Known Tryz.prog [] f T := (Knowns.cons k_peven (Knowns.cons k_ends (Knowns.cons k_ignored (Knowns.cons k_control (Knowns.cons k_char (Knowns.cons k_one (Knowns.cons k_sign (Knowns.cons k_place Knowns.nil)))))))).get
noncomputable def t_byte0 : Con := fun args regs => nfun Tryz.prog [] c_byte0 [] Tryz.f150 args regs
theorem k_byte0 : Known Tryz.prog [] 150 t_byte0 := known_inl Tryz.func150 rfl (by kernel_rfl) mixed kc_byte0 (by kernel_rfl)
noncomputable def t_clone : Con := fun args regs => nfun Tryz.prog [] (fun _ => Option.none) [] Tryz.f45 args regs
theorem k_clone : Known Tryz.prog [] 45 t_clone := known_inl Tryz.func45 rfl (by kernel_rfl) mixed con_none (by kernel_rfl)
noncomputable def c_pending : FuncId → Option Con := conOf [(45, t_clone)]
theorem kc_pending : ∀ f T, c_pending f = some T → Known Tryz.prog [] f T := (Knowns.cons k_clone Knowns.nil).get
noncomputable def X_ones : Cx := { P := Tryz.prog, con := (fun _ => Option.none), glob := [], m := 0, loops := [] }
noncomputable def t_ones : Con := fun args regs => if regs.length = 0 then nfun Tryz.prog [] (fun _ => Option.none) [(0, [0, 3], unroll X_ones 0 [0, 3] [3] (bodyLoop Tryz.f123 0) 20)] Tryz.f123 args regs else .fail
theorem k_ones : Known Tryz.prog [] 123 t_ones := known_loops 0 Tryz.func123 rfl (by kernel_rfl) mixed con_none (LAll.one (id := 0) (body := bodyLoop Tryz.f123 0) (by kernel_rfl) rfl (unroll_ok (X := X_ones) con_none mixed (LAll.none (by kernel_rfl)) [0, 3] [3] 20))
noncomputable def c_odd : FuncId → Option Con := conOf [(123, t_ones)]
theorem kc_odd : ∀ f T, c_odd f = some T → Known Tryz.prog [] f T := (Knowns.cons k_ones Knowns.nil).get
noncomputable def t_odd : Con := fun args regs => nfun Tryz.prog [] c_odd [] Tryz.f85 args regs
theorem k_odd : Known Tryz.prog [] 85 t_odd := known_inl Tryz.func85 rfl (by kernel_rfl) mixed kc_odd (by kernel_rfl)
noncomputable def c_makeOdd : FuncId → Option Con := conOf [(85, t_odd)]
theorem kc_makeOdd : ∀ f T, c_makeOdd f = some T → Known Tryz.prog [] f T := (Knowns.cons k_odd Knowns.nil).get
noncomputable def t_makeOdd : Con := fun args regs => nfun Tryz.prog [] c_makeOdd [] Tryz.f47 args regs
theorem k_makeOdd : Known Tryz.prog [] 47 t_makeOdd := known_inl Tryz.func47 rfl (by kernel_rfl) mixed kc_makeOdd (by kernel_rfl)
noncomputable def c_makeEven : FuncId → Option Con := conOf [(47, t_makeOdd)]
theorem kc_makeEven : ∀ f T, c_makeEven f = some T → Known Tryz.prog [] f T := (Knowns.cons k_makeOdd Knowns.nil).get
noncomputable def t_makeEven : Con := fun args regs => nfun Tryz.prog [] c_makeEven [] Tryz.f22 args regs
theorem k_makeEven : Known Tryz.prog [] 22 t_makeEven := known_inl Tryz.func22 rfl (by kernel_rfl) mixed kc_makeEven (by kernel_rfl)
end Go.Proofs.YtjfgphfdaghilaaGreatDoor.lex
namespace Go.Proofs.YtjfgphfdaghilaaGreatDoor.ones
open Go Go.Nx

theorem mixed : Tryz.prog.follows .mixedOrders = true := by kernel_rfl
noncomputable abbrev fOnes := Tryz.f123
/-- How many bits are set. -/
def bl (m : Nat) : Nat := if h : m = 0 then 0 else m % 2 + bl (m / 2)
termination_by m
decreasing_by exact Nat.div_lt_self (by omega) (by decide)
theorem bl_zero : bl 0 = 0 := by rw [bl]; rfl
theorem bl_step {m : Nat} (h : m ≠ 0) : bl m = m % 2 + bl (m / 2) := by rw [bl, dif_neg h]
theorem bl_double (m : Nat) : bl m = m % 2 + bl (m / 2) := by
  by_cases h : m = 0
  · subst h; simp [bl_zero]
  · exact bl_step h
theorem bl_le : ∀ (n m : Nat), m < 2 ^ n → bl m ≤ n
  | 0, m, h => by
    have : m = 0 := by simpa using h
    rw [this, bl_zero]; exact Nat.le_refl _
  | n + 1, m, h => by
    rw [bl_double]
    have := bl_le n (m / 2) (by rw [Nat.pow_succ] at h; omega)
    omega
noncomputable def oOnes (k : Int) : St := { fr := frame 13 [(3, .v (.c (.i .i64 k)))], rg := [] }
noncomputable def XOnes : Cx := { P := Tryz.prog, con := fun _ => Option.none, glob := [], m := 0, loops := [] }
theorem round_ones (n k : Int) (R : RO → Prop) : (roundT XOnes 0 [0, 3] [3] (bodyLoop fOnes 0) { fr := frame 13 [(0, .v (.c (.i .i64 n))), (3, .v (.c (.i .i64 k)))], rg := [] }).run R =
    sel (decide (n > 0))
     (R (RO.next { fr := frame 13 [(0, .v (.c (.i .i64 (shrv .i64 n 1)))), (3, .v (.c (.i .i64 (IntKind.i64.wrap (k + bits .and .i64 n 1)))))], rg := [] }))
     (R (RO.done NExit.normal (oOnes k))) := by
  kernel_rfl
noncomputable def lOnes : List Leaf × List (List Leaf) → Tr (NExit × St) := fun x => match x with
  | ([.i n, .i k], []) => .must ((0 ≤ n ∧ n < 9223372036854775808) ∧ (0 ≤ k ∧ k + bl n.toNat ≤ 1000)) (.ret (.normal, oOnes (k + bl n.toNat)))
  | _ => .fail
noncomputable def pOnes : List Pat := pats 13 [(0, .i .i64), (3, .i .i64)]
theorem and1 (n : Int) (h0 : 0 ≤ n) (h1 : n < 9223372036854775808) : bits .and .i64 n 1 = ((n.toNat % 2 : Nat) : Int) := by
  have h := fit_i64 (n := n) (by omega) h1
  have hm : n = (n.toNat : Int) := by omega
  generalize n.toNat = m at *
  subst hm
  rw [bits_i64, bvop_and, BitVec.ofInt_natCast, show BitVec.ofInt 64 1 = 1#64 from rfl]
  have e : BitVec.ofNat 64 m &&& 1#64 = BitVec.ofNat 64 (m % 2) := by
    apply BitVec.eq_of_toNat_eq
    rw [BitVec.toNat_and, BitVec.toNat_ofNat, BitVec.toNat_ofNat, BitVec.toNat_ofNat]
    rw [show 1 % 2 ^ 64 = 2 ^ 1 - 1 from rfl, Nat.and_two_pow_sub_one_eq_mod]
    omega
  rw [e]
  rcases Nat.mod_two_eq_zero_or_one m with h | h <;> rw [h] <;> rfl
theorem shr1 (n : Int) : shrv .i64 n 1 = n / 2 := by
  show Int.fdiv n (2 ^ 1) = n / 2
  rw [Int.fdiv_eq_ediv_of_nonneg _ (by decide)]
  rfl
set_option maxRecDepth 100000 in
theorem loop_ones : LOk Tryz.prog [] 0 0 (bodyLoop fOnes 0) (sumP pOnes [] lOnes) := by
  refine sumP_ok (X := XOnes) con_none mixed (LAll.none (by kernel_rfl)) [0, 3] [3] _ _ _ (fun x => match x with
    | ([.i n, .i _], []) => n.toNat
    | _ => 0) ?_
  rintro ⟨a, b⟩ R h
  unfold lOnes at h
  split at h
  case h_2 => exact h.elim
  rename_i n k he
  cases he
  have h1 := h.1
  have h2 : R (.normal, oOnes (k + bl n.toNat)) := h.2
  clear h
  show (roundT XOnes 0 [0, 3] [3] (bodyLoop fOnes 0) { fr := frame 13 [(0, .v (.c (.i .i64 n))), (3, .v (.c (.i .i64 k)))], rg := [] }).run _
  rw [round_ones]
  by_cases hp : n > 0
  · have hd : n.toNat / 2 = (n / 2).toNat := by omega
    have hb := bl_step (m := n.toNat) (by omega)
    rw [hd] at hb
    have hw : IntKind.i64.wrap (k + ((n.toNat % 2 : Nat) : Int)) = k + ((n.toNat % 2 : Nat) : Int) := by rw [IntKind.wrap_i64]; omega
    refine sel_iff.2 (.inl ⟨by rw [decide_eq_true_eq]; exact hp, ?_⟩)
    rw [and1 n h1.1.1 h1.1.2, shr1, hw]
    refine ⟨([.i (n / 2), .i (k + ((n.toNat % 2 : Nat) : Int))], []), rfl, by simp only; omega, ⟨⟨by omega, by omega⟩, ⟨by omega, by omega⟩⟩, ?_⟩
    show R (.normal, oOnes (k + ((n.toNat % 2 : Nat) : Int) + bl (n / 2).toNat))
    have : k + ((n.toNat % 2 : Nat) : Int) + bl (n / 2).toNat = k + bl n.toNat := by omega
    rw [this]
    exact h2
  · have hz : n.toNat = 0 := by omega
    rw [hz, bl_zero] at h2
    refine sel_iff.2 (.inr ⟨by rw [decide_eq_false_iff_not]; exact hp, ?_⟩)
    have : k + ((0 : Nat) : Int) = k := by omega
    rw [this] at h2
    exact h2
noncomputable def tOnes0 : Con := fun args regs => if regs.length = 0 then nfun Tryz.prog [] (fun _ => Option.none) [(0, [0, 3], sumP pOnes [] lOnes)] fOnes args regs else .fail
theorem kOnes0 : Known Tryz.prog [] 123 tOnes0 := known_loops 0 Tryz.func123 rfl (by kernel_rfl) mixed con_none (LAll.one (id := 0) (body := bodyLoop fOnes 0) (by kernel_rfl) rfl loop_ones)
theorem ones_tree (n : Int) (R : Out → Prop) : (tOnes0 [.c (.i .i64 n)] []).run R = (((0 ≤ n ∧ n < 9223372036854775808) ∧ (0 ≤ (0 : Int) ∧ 0 + (bl n.toNat : Int) ≤ 1000)) ∧ R ⟨.v (.c (.i .i64 (0 + (bl n.toNat : Int)))), []⟩) := by kernel_rfl
/-- What is known of ones. -/
noncomputable def tOnes : Con := fun args regs => match args, regs with
  | [.c (.i .i64 n)], [] => .must (0 ≤ n ∧ n < 9223372036854775808) (.ret ⟨.v (.c (.i .i64 (bl n.toNat))), []⟩)
  | _, _ => .fail
theorem kOnes : Known Tryz.prog [] 123 tOnes := by
  refine kOnes0.less fun args regs R h => ?_
  unfold tOnes at h
  split at h
  case h_2 => exact h.elim
  rename_i n
  have h1 := h.1
  have h2 : R ⟨.v (.c (.i .i64 (bl n.toNat))), []⟩ := h.2
  clear h
  rw [ones_tree]
  have hl := bl_le 63 n.toNat (by omega)
  refine ⟨⟨h1, by omega, by omega⟩, ?_⟩
  rw [Int.zero_add]
  exact h2
/-- The parity of the lowest n bits. -/
def par (x : Nat) : Nat → Bool
  | 0 => false
  | n + 1 => par x n ^^ x.testBit n
theorem par_double (x : Nat) : ∀ n, par x (n + 1) = (x.testBit 0 ^^ par (x / 2) n)
  | 0 => by simp [par]
  | n + 1 => by
    rw [par, par_double x n, par, Nat.testBit_succ]
    cases x.testBit 0 <;> cases par (x / 2) n <;> cases (x / 2).testBit n <;> rfl
theorem bl_par : ∀ (n x : Nat), x < 2 ^ n → bl x % 2 = (par x n).toNat
  | 0, x, h => by
    have : x = 0 := by simpa using h
    rw [this, bl_zero]; rfl
  | n + 1, x, h => by
    have ih := bl_par n (x / 2) (by rw [Nat.pow_succ] at h; omega)
    rw [bl_double, par_double, Nat.testBit_zero]
    rcases Nat.mod_two_eq_zero_or_one x with hx | hx <;> cases hp : par (x / 2) n <;> rw [hp] at ih <;> rw [hx] <;> simp [Bool.toNat] at ih ⊢ <;> omega
end Go.Proofs.YtjfgphfdaghilaaGreatDoor.ones
namespace Go.Nx
open Go
/-- What a tree of closed tests comes to. -/
def Tr.go {α : Type} : Tr α → Option α
  | .ret x => some x
  | .br c a b => match c with
    | true => a.go
    | false => b.go
  | _ => Option.none
theorem Tr.go_run {α : Type} {R : α → Prop} {x : α} (hR : R x) : ∀ {t : Tr α}, t.go = some x → t.run R
  | .ret y, h => by cases h; exact hR
  | .br c a b, h => by
    cases c with
    | true => exact Tr.go_run (t := a) hR h
    | false => exact Tr.go_run (t := b) hR h
  | .must _ _, h => by cases h
  | .fail, h => by cases h
/-- Either of two things that are known, by the arguments. -/
theorem known_pick {P : Program} {gl : List Nat} {f : FuncId} {T1 T2 : Con} (c : List Reg → Bool) (k1 : Known P gl f T1) (k2 : Known P gl f T2) :
    Known P gl f (fun args regs => match c regs with | true => T1 args regs | false => T2 args regs) := by
  refine ⟨k1.goes, fun args regs R h => ?_⟩
  cases hc : c regs with
  | true => rw [hc] at h; exact k1.sound args regs R h
  | false => rw [hc] at h; exact k2.sound args regs R h
end Go.Nx
namespace Go.Proofs.YtjfgphfdaghilaaGreatDoor.lex
open Go Go.Nx Go.RowKit

/-- Whether an odd number of the lowest n bits is set. -/
def par (x : Nat) : Nat → Bool
  | 0 => false
  | n + 1 => par x n ^^ x.testBit n
/-- A byte with even parity. -/
def mkEvN (n : Nat) : Nat := bif par (n % 128) 7 then n % 128 + 128 else n % 128
def mkEv (b : Int) : Int := (mkEvN b.toNat : Int)
def isEv (b : Int) : Bool := !par b.toNat 8
noncomputable def c_odd2 : FuncId → Option Con := conOf [(123, ones.tOnes)]
theorem kc_odd2 : ∀ f T, c_odd2 f = some T → Known Tryz.prog [] f T := (Knowns.cons ones.kOnes Knowns.nil).get
noncomputable def t_odd2 : Con := fun args regs => nfun Tryz.prog [] c_odd2 [] Tryz.f85 args regs
theorem k_odd2 : Known Tryz.prog [] 85 t_odd2 := known_inl Tryz.func85 rfl (by kernel_rfl) mixed kc_odd2 (by kernel_rfl)
noncomputable def c_makeOdd2 : FuncId → Option Con := conOf [(85, t_odd2)]
theorem kc_makeOdd2 : ∀ f T, c_makeOdd2 f = some T → Known Tryz.prog [] f T := (Knowns.cons k_odd2 Knowns.nil).get
noncomputable def t_makeOdd2 : Con := fun args regs => nfun Tryz.prog [] c_makeOdd2 [] Tryz.f47 args regs
theorem k_makeOdd2 : Known Tryz.prog [] 47 t_makeOdd2 := known_inl Tryz.func47 rfl (by kernel_rfl) mixed kc_makeOdd2 (by kernel_rfl)
noncomputable def c_makeEven2 : FuncId → Option Con := conOf [(47, t_makeOdd2)]
theorem kc_makeEven2 : ∀ f T, c_makeEven2 f = some T → Known Tryz.prog [] f T := (Knowns.cons k_makeOdd2 Knowns.nil).get
noncomputable def t_makeEven2 : Con := fun args regs => nfun Tryz.prog [] c_makeEven2 [] Tryz.f22 args regs
theorem k_makeEven2 : Known Tryz.prog [] 22 t_makeEven2 := known_inl Tryz.func22 rfl (by kernel_rfl) mixed kc_makeEven2 (by kernel_rfl)

noncomputable def c7 (b : Int) : Int := bits .and .u8 b 127
theorem make_tree (b : Int) (R : Out → Prop) : (t_makeEven2 [.c (.i .u8 b)] []).run R = ((0 ≤ IntKind.i64.wrap (c7 b) ∧ IntKind.i64.wrap (c7 b) < 9223372036854775808) ∧
    sel ((ones.bl (IntKind.i64.wrap (c7 b)).toNat : Int).tmod 2 == 1) (R ⟨.v (.c (.i .u8 (bits .xor .u8 (c7 b) 128))), []⟩) (R ⟨.v (.c (.i .u8 (bits .xor .u8 (bits .or .u8 (c7 b) 128) 128))), []⟩)) := by kernel_rfl
/-- How many of the lowest n bits are set. -/
def pcTo (x : Nat) : Nat → Nat
  | 0 => 0
  | n + 1 => pcTo x n + (x / 2 ^ n) % 2
noncomputable def tab : ByteArray := ⟨((List.range 256).map fun i => UInt8.ofNat (pcTo i 8)).toArray⟩
theorem even_tree (b : Int) (R : Out → Prop) : (t_peven [.c (.i .u8 b)] []).run R = sel (decide (0 ≤ b)) (sel (decide (b < (tab.size : Int))) (R ⟨.v (.c (.b (!((IntKind.i64.wrap (byteAt tab b.toNat)).tmod 2 == 1)))), []⟩) False) False := by kernel_rfl
theorem tab_size : tab.size = 256 := by decide +kernel
theorem tab_all : ∀ n < 256, (!((IntKind.i64.wrap (byteAt tab n)).tmod 2 == 1)) = isEv (Int.ofNat n) := by decide +kernel
theorem c7_all : ∀ n < 256, c7 (Int.ofNat n) = Int.ofNat (n % 128) := by decide +kernel
theorem mk_one : ∀ n < 256, (par (n % 128) 7 = true → bits .xor .u8 (Int.ofNat (n % 128)) 128 = mkEv (Int.ofNat n)) ∧ (par (n % 128) 7 = false → bits .xor .u8 (bits .or .u8 (Int.ofNat (n % 128)) 128) 128 = mkEv (Int.ofNat n)) := by decide +kernel
theorem par_same : ∀ n < 128, par n 7 = ones.par n 7 := by decide +kernel
noncomputable def tMake : Con := fun args regs => match args, regs with
  | [.c (.i .u8 b)], [] => .must (0 ≤ b ∧ b < 256) (.ret ⟨.v (.c (.i .u8 (mkEv b))), []⟩)
  | _, _ => .fail
set_option maxRecDepth 100000 in
theorem kMake : Known Tryz.prog [] 22 tMake := by
  refine k_makeEven2.less fun args regs R h => ?_
  unfold tMake at h
  split at h
  case h_2 => exact h.elim
  rename_i b
  have h1 := h.1
  have h2 : R ⟨.v (.c (.i .u8 (mkEv b))), []⟩ := h.2
  clear h
  have e : b = Int.ofNat b.toNat := by show b = ((b.toNat : Nat) : Int); omega
  have hn : b.toNat < 256 := by omega
  generalize b.toNat = n at *
  subst e
  have hc := c7_all n hn
  have hm : n % 128 < 128 := Nat.mod_lt _ (by decide)
  have hw : IntKind.i64.wrap (c7 (Int.ofNat n)) = ((n % 128 : Nat) : Int) := by
    rw [hc, IntKind.wrap_i64]
    show (((n % 128 : Nat) : Int) + _) % _ - _ = _
    omega
  have hp := ones.bl_par 7 (n % 128) hm
  rw [← par_same _ hm] at hp
  have ho := mk_one n hn
  rw [make_tree, hw, hc, Int.toNat_natCast]
  refine ⟨⟨by omega, by omega⟩, ?_⟩
  have hq : ((ones.bl (n % 128) : Int).tmod 2 == 1) = par (n % 128) 7 := by
    rw [Int.tmod_eq_emod_of_nonneg (Int.natCast_nonneg _)]
    cases hb : par (n % 128) 7 <;> rw [hb] at hp <;> simp [Bool.toNat] at hp ⊢ <;> omega
  rw [hq]
  cases hb : par (n % 128) 7 with
  | true =>
    rw [ho.1 hb]
    exact h2
  | false =>
    rw [ho.2 hb]
    exact h2
noncomputable def tEvenV : Con := fun args regs => match args, regs with
  | [.c (.i .u8 b)], [] => .must (0 ≤ b ∧ b < 256) (.ret ⟨.v (.c (.b (isEv b))), []⟩)
  | _, _ => .fail
set_option maxRecDepth 100000 in
theorem kEvenV : Known Tryz.prog [] 55 tEvenV := by
  refine k_peven.less fun args regs R h => ?_
  unfold tEvenV at h
  split at h
  case h_2 => exact h.elim
  rename_i b
  have h1 := h.1
  have h2 : R ⟨.v (.c (.b (isEv b))), []⟩ := h.2
  clear h
  have e : b = Int.ofNat b.toNat := by show b = ((b.toNat : Nat) : Int); omega
  have hn : b.toNat < 256 := by omega
  generalize b.toNat = n at *
  subst e
  rw [even_tree, tab_size]
  have hm := tab_all n hn
  refine sel_iff.2 (.inl ⟨by rw [decide_eq_true_eq]; exact h1.1, sel_iff.2 (.inl ⟨by rw [decide_eq_true_eq]; exact h1.2, ?_⟩)⟩)
  show R ⟨.v (.c (.b (!((IntKind.i64.wrap (byteAt tab n)).tmod 2 == 1)))), []⟩
  rw [hm]
  exact h2
/-- A byte of even parity is one. -/
noncomputable def tEvenT : Con := fun args regs => match args, regs with
  | [.c (.i .u8 b)], [] => .must ((0 ≤ b ∧ b < 256) ∧ isEv b = true) (.ret ⟨.v (.c (.b true)), []⟩)
  | _, _ => .fail
set_option maxRecDepth 100000 in
theorem kEvenT : Known Tryz.prog [] 55 tEvenT := by
  refine kEvenV.less fun args regs R h => ?_
  unfold tEvenT at h
  split at h
  case h_2 => exact h.elim
  rename_i b
  have h1 := h.1
  have h2 : R ⟨.v (.c (.b true)), []⟩ := h.2
  clear h
  refine ⟨h1.1, ?_⟩
  rw [← h1.2] at h2
  exact h2
theorem mk_all : ∀ n < 128, (bits .and .u8 (mkEv (Int.ofNat n)) 127 = Int.ofNat n) ∧ isEv (mkEv (Int.ofNat n)) = true ∧ 0 ≤ mkEv (Int.ofNat n) ∧ mkEv (Int.ofNat n) < 256 := by decide +kernel
theorem mk_spec (b : Int) (h0 : 0 ≤ b) (h1 : b < 128) : (bits .and .u8 (mkEv b) 127 = b) ∧ isEv (mkEv b) = true ∧ 0 ≤ mkEv b ∧ mkEv b < 256 := by
  have e : b = Int.ofNat b.toNat := by show b = ((b.toNat : Nat) : Int); omega
  have := mk_all b.toNat (by omega)
  rwa [← e] at this
end Go.Proofs.YtjfgphfdaghilaaGreatDoor.lex
namespace Go.Proofs.YtjfgphfdaghilaaGreatDoor.lex
open Go Go.Nx Go.RowKit

noncomputable abbrev fNumbers := Tryz.f315
/-- A number with one digit more, but no more than 100. -/
def more (a c : Int) : Int := if 100 < 10 * a + (c - 48) then 100 else 10 * a + (c - 48)
def nums : List Int → Int → Int → Int → Int × Int
  | [], _, a, b => (a, b)
  | c :: l, k, a, b => if c = 59 then nums l (k + 1) a b else if 48 ≤ c ∧ c ≤ 57 ∧ k < 2 then (if k = 0 then nums l k (more a c) b else nums l k a (more b c)) else nums l k a b
noncomputable def XNumbers : Cx := { P := Tryz.prog, con := fun _ => Option.none, glob := [], m := 0, loops := [] }
noncomputable def sNum (xs : List Int) (k n i a b : Int) : St := { fr := frame 48 [(4, .v (.c (.p 0 0 0))), (5, .v (.c (.i .i64 k))), (8, .v (.c (.l .u8 xs))), (9, .v (.c (.i .i64 n))), (10, .v (.c (.i .i64 i)))], rg := [some ⟨1, 395, .ints .i64 [a, b]⟩] }
noncomputable def dNum (a b : Int) : St := { fr := frame 48 [(4, .v (.c (.p 0 0 0)))], rg := [some ⟨1, 395, .ints .i64 [a, b]⟩] }
noncomputable def newV (a b x : Int) (k : Nat) : Int := bif decide (100 < IntKind.i64.wrap (IntKind.i64.wrap (10 * [a, b].getD (0 + k) 0) + IntKind.i64.wrap (IntKind.u8.wrap (x - 48)))) then 100 else IntKind.i64.wrap (IntKind.i64.wrap (10 * [a, b].getD (0 + k) 0) + IntKind.i64.wrap (IntKind.u8.wrap (x - 48)))
theorem round_num (xs : List Int) (k n i a b : Int) (R : RO → Prop) : (roundT XNumbers 0 [4, 5, 8, 9, 10] [4] (bodyLoop fNumbers 0) (sNum xs k n i a b)).run R =
    sel (decide (i < n)) (sel (decide (0 ≤ i)) (sel (decide (i < (xs.length : Int))) (sel (decide (i.toNat < xs.length))
     (sel (xs.getD i.toNat 0 == 59) (R (RO.next (sNum xs (IntKind.i64.wrap (k + 1)) n (IntKind.i64.wrap (i + 1)) a b)))
      (sel (decide (xs.getD i.toNat 0 ≥ 48))
       (sel (decide (xs.getD i.toNat 0 ≤ 57))
        (sel (decide (k < 2))
         (sel (decide (0 ≤ k)) (sel (decide (k < ((2 : Nat) : Int))) (sel (decide (0 + k.toNat < [a, b].length)) (sel (decide (0 ≤ k)) (sel (decide (k < ((2 : Nat) : Int))) (sel (decide (0 + k.toNat < [a, b].length))
          (R (RO.next (sNum xs k n (IntKind.i64.wrap (i + 1)) (bif 0 + k.toNat == 0 then newV a b (xs.getD i.toNat 0) k.toNat else a) (bif 0 + k.toNat == 1 then newV a b (xs.getD i.toNat 0) k.toNat else b))))
          False) False) False) False) False) False)
         (R (RO.next (sNum xs k n (IntKind.i64.wrap (i + 1)) a b))))
        (R (RO.next (sNum xs k n (IntKind.i64.wrap (i + 1)) a b))))
       (R (RO.next (sNum xs k n (IntKind.i64.wrap (i + 1)) a b))))) False) False) False)
     (R (RO.done NExit.normal (dNum a b))) := by kernel_rfl
noncomputable def lNum : List Leaf × List (List Leaf) → Tr (NExit × St) := fun x => match x with
  | ([.i k, .l xs, .i n, .i i], [[.l [a, b]]]) => .must (n = xs.length ∧ 0 ≤ i ∧ i ≤ n ∧ n ≤ 100 ∧ 0 ≤ k ∧ k ≤ i ∧ 0 ≤ a ∧ a ≤ 100 ∧ 0 ≤ b ∧ b ≤ 100 ∧ ∀ c ∈ xs, 0 ≤ c ∧ c < 256) (.ret (.normal, dNum (nums (xs.drop i.toNat) k a b).1 (nums (xs.drop i.toNat) k a b).2))
  | _ => .fail
noncomputable def pNum : List Pat := pats 48 [(4, .p 0 0 0), (5, .i .i64), (8, .l .u8), (9, .i .i64), (10, .i .i64)]
theorem newV_eq (a b x : Int) (k : Nat) (ha : 0 ≤ [a, b].getD (0 + k) 0 ∧ [a, b].getD (0 + k) 0 ≤ 100) (hx : 48 ≤ x ∧ x ≤ 57) : newV a b x k = more ([a, b].getD (0 + k) 0) x := by
  unfold newV more
  generalize [a, b].getD (0 + k) 0 = y at *
  have h1 : IntKind.u8.wrap (x - 48) = x - 48 := by rw [IntKind.wrap_u8]; omega
  have h2 : IntKind.i64.wrap (x - 48) = x - 48 := by rw [IntKind.wrap_i64]; omega
  have h3 : IntKind.i64.wrap (10 * y) = 10 * y := by rw [IntKind.wrap_i64]; omega
  have h4 : IntKind.i64.wrap (10 * y + (x - 48)) = 10 * y + (x - 48) := by rw [IntKind.wrap_i64]; omega
  rw [h1, h2, h3, h4]
  by_cases c : 100 < 10 * y + (x - 48)
  · rw [if_pos c, decide_eq_true c]; rfl
  · rw [if_neg c, decide_eq_false c]; rfl
theorem more_le (a c : Int) (ha : 0 ≤ a) (hc : 48 ≤ c) : 0 ≤ more a c ∧ more a c ≤ 100 := by
  unfold more
  split <;> omega
set_option maxRecDepth 100000 in
theorem loop_num : LOk Tryz.prog [] 0 0 (bodyLoop fNumbers 0) (sumP pNum [.ints 1 395 .i64] lNum) := by
  refine sumP_ok (X := XNumbers) con_none mixed (LAll.none (by kernel_rfl)) [4, 5, 8, 9, 10] [4] _ _ _ (fun x => match x with
    | ([.i _, .l _, .i n, .i i], [[.l _]]) => (n - i).toNat
    | _ => 0) ?_
  rintro ⟨p, q⟩ R h
  unfold lNum at h
  split at h
  case h_2 => exact h.elim
  rename_i k xs n i a b he
  cases he
  have h1 := h.1
  have h2 : R (.normal, dNum (nums (xs.drop i.toNat) k a b).1 (nums (xs.drop i.toNat) k a b).2) := h.2
  clear h
  obtain ⟨rfl, hi0, hin, hn, hk0, hki, ha0, ha1, hb0, hb1, hx⟩ := h1
  show (roundT XNumbers 0 [4, 5, 8, 9, 10] [4] (bodyLoop fNumbers 0) (sNum xs k xs.length i a b)).run _
  rw [round_num]
  by_cases hlt : i < (xs.length : Int)
  · have hj : i.toNat < xs.length := by omega
    have hd : xs.drop i.toNat = xs.getD i.toNat 0 :: xs.drop (i.toNat + 1) := by
      rw [List.drop_eq_getElem_cons hj, List.getD_eq_getElem?_getD, List.getElem?_eq_getElem hj]; rfl
    have hxm : 0 ≤ xs.getD i.toNat 0 ∧ xs.getD i.toNat 0 < 256 := by
      rw [List.getD_eq_getElem?_getD, List.getElem?_eq_getElem hj]
      exact hx _ (List.getElem_mem hj)
    have hw : IntKind.i64.wrap (i + 1) = i + 1 := by rw [IntKind.wrap_i64]; omega
    have hk1 : IntKind.i64.wrap (k + 1) = k + 1 := by rw [IntKind.wrap_i64]; omega
    have ht : (i + 1).toNat = i.toNat + 1 := by omega
    generalize hx0 : xs.getD i.toNat 0 = x at *
    rw [hd] at h2
    simp only [nums] at h2
    have go : ∀ k' a' b' : Int, 0 ≤ k' → k' ≤ i + 1 → 0 ≤ a' → a' ≤ 100 → 0 ≤ b' → b' ≤ 100 → R (.normal, dNum (nums (xs.drop (i.toNat + 1)) k' a' b').1 (nums (xs.drop (i.toNat + 1)) k' a' b').2) →
        ∃ y, sNum xs k' xs.length (IntKind.i64.wrap (i + 1)) a' b' = mkSt pNum [.ints 1 395 .i64] y ∧ (match y with
          | ([.i _, .l _, .i n, .i i], [[.l _]]) => (n - i).toNat
          | _ => 0) < ((xs.length : Int) - i).toNat ∧ (lNum y).run R := fun k' a' b' g0 g1 g2 g3 g4 g5 g6 =>
      ⟨([.i k', .l xs, .i xs.length, .i (i + 1)], [[.l [a', b']]]), by rw [hw]; rfl, by simp only; omega, ⟨rfl, by omega, by omega, hn, g0, g1, g2, g3, g4, g5, hx⟩, by rw [ht]; exact g6⟩
    refine sel_iff.2 (.inl ⟨decide_eq_true hlt, sel_iff.2 (.inl ⟨decide_eq_true hi0, sel_iff.2 (.inl ⟨decide_eq_true hlt, sel_iff.2 (.inl ⟨decide_eq_true hj, ?_⟩)⟩)⟩)⟩)
    by_cases c59 : x = 59
    · rw [if_pos c59] at h2
      refine sel_iff.2 (.inl ⟨by rw [beq_iff_eq]; exact c59, ?_⟩)
      rw [hk1]
      exact go _ _ _ (by omega) (by omega) ha0 ha1 hb0 hb1 h2
    · rw [if_neg c59] at h2
      refine sel_iff.2 (.inr ⟨by rw [beq_eq_false_iff_ne]; exact c59, ?_⟩)
      by_cases c48 : x ≥ 48
      · refine sel_iff.2 (.inl ⟨decide_eq_true c48, ?_⟩)
        by_cases c57 : x ≤ 57
        · refine sel_iff.2 (.inl ⟨decide_eq_true c57, ?_⟩)
          by_cases ck : k < 2
          · rw [if_pos ⟨c48, c57, ck⟩] at h2
            have hkk : 0 + k.toNat < [a, b].length := by
              show 0 + k.toNat < 2
              omega
            refine sel_iff.2 (.inl ⟨decide_eq_true ck, sel_iff.2 (.inl ⟨decide_eq_true hk0, sel_iff.2 (.inl ⟨decide_eq_true ck, sel_iff.2 (.inl ⟨decide_eq_true hkk, sel_iff.2 (.inl ⟨decide_eq_true hk0, sel_iff.2 (.inl ⟨decide_eq_true ck, sel_iff.2 (.inl ⟨decide_eq_true hkk, ?_⟩)⟩)⟩)⟩)⟩)⟩)⟩)
            have hk01 : k = 0 ∨ k = 1 := by omega
            rcases hk01 with rfl | rfl
            · rw [newV_eq a b x (0 : Int).toNat ⟨ha0, ha1⟩ ⟨c48, c57⟩]
              have hm := more_le a x ha0 c48
              exact go 0 (more a x) b (by omega) (by omega) hm.1 hm.2 hb0 hb1 h2
            · rw [newV_eq a b x (1 : Int).toNat ⟨hb0, hb1⟩ ⟨c48, c57⟩]
              have hm := more_le b x hb0 c48
              exact go 1 a (more b x) (by omega) (by omega) ha0 ha1 hm.1 hm.2 h2
          · rw [if_neg (fun c => ck c.2.2)] at h2
            exact sel_iff.2 (.inr ⟨decide_eq_false ck, go k a b hk0 (by omega) ha0 ha1 hb0 hb1 h2⟩)
        · rw [if_neg (fun c => c57 c.2.1)] at h2
          exact sel_iff.2 (.inr ⟨decide_eq_false c57, go k a b hk0 (by omega) ha0 ha1 hb0 hb1 h2⟩)
      · rw [if_neg (fun c => c48 c.1)] at h2
        exact sel_iff.2 (.inr ⟨decide_eq_false c48, go k a b hk0 (by omega) ha0 ha1 hb0 hb1 h2⟩)
  · have hz : xs.drop i.toNat = [] := List.drop_eq_nil_iff.2 (by omega)
    rw [hz] at h2
    exact sel_iff.2 (.inr ⟨decide_eq_false hlt, h2⟩)
noncomputable def tNumbers0 : Con := fun args regs => if regs.length = 0 then nfun Tryz.prog [] (fun _ => Option.none) [(0, [4, 5, 8, 9, 10], sumP pNum [.ints 1 395 .i64] lNum)] fNumbers args regs else .fail
theorem kNumbers0 : Known Tryz.prog [] 315 tNumbers0 := known_loops 0 Tryz.func315 rfl (by kernel_rfl) mixed con_none (LAll.one (id := 0) (body := bodyLoop fNumbers 0) (by kernel_rfl) rfl loop_num)
def InBytes (xs : List Int) : Prop := ∀ c ∈ xs, 0 ≤ c ∧ c < 256
def min99 (a : Int) : Int := bif decide (99 < a) then 99 else a
theorem numbers_tree (xs : List Int) (R : Out → Prop) : (tNumbers0 [.c (.l .u8 xs)] []).run R =
    (((xs.length : Int) = xs.length ∧ 0 ≤ (0 : Int) ∧ (0 : Int) ≤ xs.length ∧ (xs.length : Int) ≤ 100 ∧ 0 ≤ (0 : Int) ∧ (0 : Int) ≤ 0 ∧ 0 ≤ (0 : Int) ∧ (0 : Int) ≤ 100 ∧ 0 ≤ (0 : Int) ∧ (0 : Int) ≤ 100 ∧ InBytes xs) ∧
      R ⟨.tu [.c (.i .i64 (min99 (nums (xs.drop (0 : Int).toNat) 0 0 0).1)), .c (.i .i64 (min99 (nums (xs.drop (0 : Int).toNat) 0 0 0).2))], []⟩) := by kernel_rfl
noncomputable def tNumbers : Con := fun args regs => match args, regs with
  | [.c (.l .u8 xs)], [] => .must (xs.length ≤ 100 ∧ InBytes xs) (.ret ⟨.tu [.c (.i .i64 (min99 (nums xs 0 0 0).1)), .c (.i .i64 (min99 (nums xs 0 0 0).2))], []⟩)
  | _, _ => .fail
set_option maxRecDepth 100000 in
theorem kNumbers : Known Tryz.prog [] 315 tNumbers := by
  refine kNumbers0.less fun args regs R h => ?_
  unfold tNumbers at h
  split at h
  case h_2 => exact h.elim
  rename_i xs
  have h1 := h.1
  have h2 := h.2
  clear h
  rw [numbers_tree, show xs.drop (0 : Int).toNat = xs from List.drop_zero]
  refine ⟨⟨rfl, Int.le_refl _, Int.natCast_nonneg _, by omega, Int.le_refl _, Int.le_refl _, Int.le_refl _, by omega, Int.le_refl _, by omega, h1.2⟩, h2⟩
end Go.Proofs.YtjfgphfdaghilaaGreatDoor.lex
namespace Go.Proofs.YtjfgphfdaghilaaGreatDoor.lex
open Go Go.Nx Go.RowKit

noncomputable def tYes : Con := fun args regs => match args, regs with
  | [], [] => .ret ⟨.v (.c (.b true)), []⟩
  | _, _ => .fail
noncomputable def sShift (xs : List Int) (ok : Bool) (s i : Int) : St := { fr := frame 86 [(0, .v (.c (.l .i64 xs))), (3, .v (.c (.b ok))), (4, .v (.c (.p 0 0 0))), (5, .v (.c (.i .i64 s))), (6, .v (.c (.i .i64 i)))], rg := [some ⟨2, 103, .cells [.sn, .i .i64 s]⟩] }
noncomputable def dShift (ok : Bool) : St := { fr := frame 86 [(3, .v (.c (.b ok)))], rg := [] }
noncomputable def nShift (ok : Bool) : RO := RO.done NExit.ret { fr := frame 86 [(2, .v (.c (.b false))), (3, .v (.c (.b ok)))], rg := [] }
noncomputable def lShift : List Leaf × List (List Leaf) → Tr (NExit × St) := fun x => match x with
  | ([.l xs, .b ok, .i s, .i i], [[.i s']]) => .must (s = s' ∧ 0 ≤ i ∧ i ≤ xs.length ∧ xs.length ≤ 40) (.ret (.normal, dShift ok))
  | _ => .fail
noncomputable def pShift : List Pat := pats 86 [(0, .l .i64), (3, .b), (4, .p 0 0 0), (5, .i .i64), (6, .i .i64)]
def yes : Out := ⟨.v (.c (.b true)), []⟩
end Go.Proofs.YtjfgphfdaghilaaGreatDoor.lex
namespace Go.Proofs.YtjfgphfdaghilaaGreatDoor.lex
open Go Go.Nx Go.RowKit

noncomputable def c_asks : FuncId → Option Con := conOf [(271, t_goes), (216, t_ends)]
theorem kc_asks : ∀ f T, c_asks f = some T → Known Tryz.prog [] f T := (Knowns.cons k_goes (Knowns.cons k_ends Knowns.nil)).get
noncomputable def X_asks : Cx := { P := Tryz.prog, con := c_asks, glob := [], m := 2, loops := [] }
noncomputable def t_asks : Con := fun args regs => if regs.length = 2 then nfun Tryz.prog [] c_asks [(0, [0, 7, 8, 38, 39, 40], unroll X_asks 0 [0, 7, 8, 38, 39, 40] [0, 7] (bodyLoop Tryz.f273 0) 6)] Tryz.f273 args regs else .fail
theorem k_asks : Known Tryz.prog [] 273 t_asks := known_loops 2 Tryz.func273 rfl (by kernel_rfl) mixed kc_asks (LAll.one (id := 0) (body := bodyLoop Tryz.f273 0) (by kernel_rfl) rfl (unroll_ok (X := X_asks) kc_asks mixed (LAll.none (by kernel_rfl)) [0, 7, 8, 38, 39, 40] [0, 7] 6))
noncomputable def c_ended : FuncId → Option Con := conOf [(315, tNumbers), (217, t_ignored)]
theorem kc_ended : ∀ f T, c_ended f = some T → Known Tryz.prog [] f T := (Knowns.cons kNumbers (Knowns.cons k_ignored Knowns.nil)).get
noncomputable def t_ended : Con := fun args regs => nfun Tryz.prog [] c_ended [] Tryz.f299 args regs
theorem k_ended : Known Tryz.prog [] 299 t_ended := known_inl Tryz.func299 rfl (by kernel_rfl) mixed kc_ended (by kernel_rfl)
noncomputable def c_sequence : FuncId → Option Con := conOf [(271, t_goes), (216, t_ends), (299, t_ended), (217, t_ignored)]
theorem kc_sequence : ∀ f T, c_sequence f = some T → Known Tryz.prog [] f T := (Knowns.cons k_goes (Knowns.cons k_ends (Knowns.cons k_ended (Knowns.cons k_ignored Knowns.nil)))).get
noncomputable def t_sequence : Con := fun args regs => nfun Tryz.prog [] c_sequence [] Tryz.f272 args regs
theorem k_sequence : Known Tryz.prog [] 272 t_sequence := known_inl Tryz.func272 rfl (by kernel_rfl) mixed kc_sequence (by kernel_rfl)
noncomputable def c_escaped : FuncId → Option Con := conOf [(272, t_sequence), (273, t_asks), (271, t_goes), (216, t_ends), (217, t_ignored), (220, t_one)]
theorem kc_escaped : ∀ f T, c_escaped f = some T → Known Tryz.prog [] f T := (Knowns.cons k_sequence (Knowns.cons k_asks (Knowns.cons k_goes (Knowns.cons k_ends (Knowns.cons k_ignored (Knowns.cons k_one Knowns.nil)))))).get
noncomputable def t_escaped : Con := fun args regs => nfun Tryz.prog [] c_escaped [] Tryz.f223 args regs
theorem k_escaped : Known Tryz.prog [] 223 t_escaped := known_inl Tryz.func223 rfl (by kernel_rfl) mixed kc_escaped (by kernel_rfl)
noncomputable def c_byteL : FuncId → Option Con := conOf [(55, tEvenT), (216, t_ends), (217, t_ignored), (220, t_one), (221, t_sign), (222, t_place), (223, t_escaped)]
theorem kc_byteL : ∀ f T, c_byteL f = some T → Known Tryz.prog [] f T := (Knowns.cons kEvenT (Knowns.cons k_ends (Knowns.cons k_ignored (Knowns.cons k_one (Knowns.cons k_sign (Knowns.cons k_place (Knowns.cons k_escaped Knowns.nil))))))).get
noncomputable def t_byteL : Con := fun args regs => nfun Tryz.prog [] c_byteL [] Tryz.f150 args regs
theorem k_byteL : Known Tryz.prog [] 150 t_byteL := known_inl Tryz.func150 rfl (by kernel_rfl) mixed kc_byteL (by kernel_rfl)
noncomputable def c_evens : FuncId → Option Con := conOf [(22, tMake)]
theorem kc_evens : ∀ f T, c_evens f = some T → Known Tryz.prog [] f T := (Knowns.cons kMake Knowns.nil).get
noncomputable def X_evens : Cx := { P := Tryz.prog, con := c_evens, glob := [], m := 0, loops := [] }
/-- Is nothing begun? -/
def noneBegun (regs : List Reg) : Bool := match regs with
  | [⟨_, _, .cells (.sn :: _)⟩] => true
  | _ => false
noncomputable def tByteX : Con := fun args regs => match noneBegun regs with | true => t_byte0 args regs | false => t_byteL args regs
theorem kByteX : Known Tryz.prog [] 150 tByteX := known_pick noneBegun k_byte0 k_byteL
end Go.Proofs.YtjfgphfdaghilaaGreatDoor.lex
namespace Go.Proofs.YtjfgphfdaghilaaGreatDoor.lex
open Go Go.Nx Go.RowKit

def K7 : List CK := [.i .i64, .i .i64, .i .i64, .i .i64, .i .i64, .i .i64, .i .i64]
def evt (k a b c d set code : Int) : NS := .v (.c (.lr K7 [[.i k, .i a, .i b, .i c, .i d, .i set, .i code]]))
def lx (p : NC) (s : Int) : Reg := ⟨2, 103, .cells [p, .i .i64 s]⟩
def arr (P : List Int) : Reg := ⟨1, 5, .ints .u8 P⟩
noncomputable def cB (b : Int) : Int := bits .and .u8 b 127
def okB (b : Int) : Prop := (0 ≤ b ∧ b < 256) ∧ isEv b = true
def okC (b : Int) : Prop := okB b ∧ 32 ≤ cB b
def w64 (n : Int) : Int := IntKind.i64.wrap n
noncomputable def low6 (n : Int) : Int := IntKind.i64.wrap (bits .and .u8 n 63)
def went (s : Int) (P : List Int) : Out := ⟨.v (.c .sn), [some (lx (.h 2 0 P.length) s), none, some (arr P)]⟩
def ended (e : NS) (s : Int) (P : List Int) : Out := ⟨e, [some (lx .sn s), some (arr P)]⟩
def ended0 (e : NS) (s : Int) : Out := ⟨e, [some (lx .sn s), none]⟩
def ign : NS := evt 12 0 0 0 0 0 0
def mx (n : Int) : Int := bif decide (1 > n) then 1 else n
noncomputable def byteL (b s : Int) (P : List Int) (R : Out → Prop) : Prop := (t_byteL [.c (.p 0 0 0), .c (.i .u8 b)] [lx (.h 1 0 P.length) s, arr P]).run R
def at32 (b : Int) (A : Prop) : Prop := okB b ∧ sel (decide (cB b < 32)) False A
theorem e31 (b s : Int) (R : Out → Prop) : byteL b s [31] R = at32 b (R (went s [31, cB b])) := by kernel_rfl
theorem e31r (b s r : Int) (R : Out → Prop) : byteL b s [31, r] R = at32 b (sel (decide (r < 64)) (R (ended ign s [31, r])) (sel (decide (cB b < 64)) (R (ended ign s [31, r])) (R (ended (evt 5 (low6 r) (low6 (cB b)) 0 0 0 0) s [31, r])))) := by kernel_rfl
theorem e18 (b s : Int) (R : Out → Prop) : byteL b s [18] R = at32 b (R (ended (evt 7 (low6 (cB b)) 0 0 0 0 0) s [18])) := by kernel_rfl
theorem e25 (b s : Int) (R : Out → Prop) : byteL b s [25] R = at32 b (sel (cB b == 65) (R (went s [25, cB b])) (sel (cB b == 66) (R (went s [25, cB b])) (sel (cB b == 67) (R (went s [25, cB b])) (sel (cB b == 72) (R (went s [25, cB b])) (sel (cB b == 75) (R (went s [25, cB b]))
    (R (ended (evt 1 0 0 0 0 2 (w64 (cB b))) s [25]))))))) := by kernel_rfl
theorem e25r (b s r : Int) (R : Out → Prop) : byteL b s [25, r] R = at32 b (R (ended (evt 1 (w64 r) 0 0 0 2 (w64 (cB b))) s [25, r])) := by kernel_rfl
def esc (b s : Int) (R : Out → Prop) : Prop := sel (decide (cB b ≥ 64)) (sel (decide (cB b ≤ 95)) (R (ended (evt 6 (w64 (cB b)) 0 0 0 0 0) s [27])) (R (ended ign s [27]))) (R (ended ign s [27]))
theorem e27 (b s : Int) (R : Out → Prop) : byteL b s [27] R = at32 b (sel (decide (cB b < 48)) (R (went s [27, cB b])) (sel (decide (cB b < 48)) (R (ended ign s [27])) (sel (cB b == 91) (R (went s [27, cB b]))
    (sel (decide (cB b ≥ 57)) (sel (decide (cB b ≤ 59)) (R (went s [27, cB b])) (esc b s R)) (esc b s R))))) := by kernel_rfl
theorem e2757 (b s : Int) (R : Out → Prop) : byteL b s [27, 57] R = at32 b (R (ended0 (evt 10 1 (w64 (cB b)) 0 0 0 0) s)) := by kernel_rfl
theorem e2758 (b s : Int) (R : Out → Prop) : byteL b s [27, 58] R = at32 b (R (went s [27, 58, cB b])) := by kernel_rfl
theorem e2758r (b s r : Int) (R : Out → Prop) : byteL b s [27, 58, r] R = at32 b (R (ended0 (evt 10 2 (w64 r) (w64 (cB b)) 0 0 0) s)) := by kernel_rfl
theorem e2759 (b s : Int) (R : Out → Prop) : byteL b s [27, 59] R = at32 b (R (went s [27, 59, cB b])) := by kernel_rfl
theorem e2759r (b s r : Int) (R : Out → Prop) : byteL b s [27, 59, r] R = at32 b (R (went s [27, 59, r, cB b])) := by kernel_rfl
theorem e2759rt (b s r t : Int) (R : Out → Prop) : byteL b s [27, 59, r, t] R = at32 b (R (ended0 (evt 10 3 (w64 r) (w64 t) (w64 (cB b)) 0 0) s)) := by kernel_rfl
def swH (b s : Int) (P ds : List Int) (R : Out → Prop) : Prop :=
  sel (decide (cB b < 64)) (R (ended ign s P)) (sel (cB b == 127) (R (ended ign s P)) ((ds.length ≤ 100 ∧ InBytes ds) ∧
    sel (cB b == 65) (R (ended (evt 2 (w64 (IntKind.u8.wrap (69 - cB b))) (mx (min99 (nums ds 0 0 0).1)) 0 0 0 0) s P))
     (sel (cB b == 66) (R (ended (evt 2 (w64 (IntKind.u8.wrap (69 - cB b))) (mx (min99 (nums ds 0 0 0).1)) 0 0 0 0) s P))
      (sel (cB b == 67) (R (ended (evt 2 (w64 (IntKind.u8.wrap (69 - cB b))) (mx (min99 (nums ds 0 0 0).1)) 0 0 0 0) s P))
       (sel (cB b == 68) (R (ended (evt 2 (w64 (IntKind.u8.wrap (69 - cB b))) (mx (min99 (nums ds 0 0 0).1)) 0 0 0 0) s P))
        (sel (cB b == 72) (R (ended (evt 5 (mx (min99 (nums ds 0 0 0).1)) (mx (min99 (nums ds 0 0 0).2)) 0 0 0 0) s P))
         (sel (cB b == 74) (R (ended (evt 11 (w64 (w64 (IntKind.u8.wrap (cB b - 74)) + 1)) (min99 (nums ds 0 0 0).1) 0 0 0 0) s P))
          (sel (cB b == 75) (R (ended (evt 11 (w64 (w64 (IntKind.u8.wrap (cB b - 74)) + 1)) (min99 (nums ds 0 0 0).1) 0 0 0 0) s P)) (R (ended ign s P)))))))))) 
def sq (b s : Int) (P P' ds : List Int) (R : Out → Prop) : Prop := at32 b (sel (decide (cB b ≥ 48)) (sel (decide (cB b < 64)) (R (went s P')) (swH b s P ds R)) (swH b s P ds R))
theorem e91 (b s : Int) (R : Out → Prop) : byteL b s [27, 91] R = sq b s [27, 91] [27, 91, cB b] [] R := by kernel_rfl
theorem e911 (b s p : Int) (R : Out → Prop) : byteL b s [27, 91, p] R = sq b s [27, 91, p] [27, 91, p, cB b] [p] R := by kernel_rfl
theorem e912 (b s p q : Int) (R : Out → Prop) : byteL b s [27, 91, p, q] R = sq b s [27, 91, p, q] [27, 91, p, q, cB b] [p, q] R := by kernel_rfl
theorem e913 (b s p q r : Int) (R : Out → Prop) : byteL b s [27, 91, p, q, r] R = sq b s [27, 91, p, q, r] [27, 91, p, q, r, cB b] [p, q, r] R := by kernel_rfl
theorem e914 (b s p q r t : Int) (R : Out → Prop) : byteL b s [27, 91, p, q, r, t] R = sq b s [27, 91, p, q, r, t] [27, 91, p, q, r, t, cB b] [p, q, r, t] R := by kernel_rfl
end Go.Proofs.YtjfgphfdaghilaaGreatDoor.lex
