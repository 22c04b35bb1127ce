/-
  Twenty-four bits: what the functions come to.
-/
import Derived.Test.YthjdlanmfiofdaaDoorEng24
import Derived.Test.YthjdlanmfiofdaaDoorPbv
import Derived.Test.YthjdlanmfiofdaaDoorRows
namespace Go.Proofs.YthjdlanmfiofdaaDoor.ham
open Go Go.Nx

theorem mixed : Tryd.prog.follows .mixedOrders = true := by kernel_rfl
noncomputable def tOnes : Con := fun args regs => nfun Tryd.prog [] (fun _ => Option.none) [] Tryd.f105 args regs
theorem kOnes : Known Tryd.prog [] 105 tOnes := known_inl Tryd.func105 rfl (by kernel_rfl) mixed con_none (by kernel_rfl)

/-- The parity of the lowest n bits. -/
def parTo {m : Nat} (v : BitVec m) : Nat → Bool
  | 0 => false
  | n + 1 => parTo v n ^^ v.getLsbD n
theorem parTo_xor {m : Nat} (v w : BitVec m) (n : Nat) : parTo (v ^^^ w) n = (parTo v n ^^ parTo w n) := by
  induction n with
  | zero => rfl
  | succ n ih =>
    simp only [parTo, ih, BitVec.getLsbD_xor]
    cases parTo v n <;> cases parTo w n <;> cases v.getLsbD n <;> cases w.getLsbD n <;> rfl

/-- How many of the lowest n bits are set. -/
def pcTo (x : Nat) : Nat → Nat
  | 0 => 0
  | n + 1 => pcTo x n + (x / 2 ^ n) % 2
/-- The table of OnesCount32. -/
noncomputable def tab : ByteArray := ⟨((List.range 256).map fun i => UInt8.ofNat (pcTo i 8)).toArray⟩
noncomputable def pop (w : Int) : Int := IntKind.i64.wrap (IntKind.u8.wrap (IntKind.u8.wrap (IntKind.u8.wrap (byteAt tab (shrv .u32 w 24).toNat + byteAt tab (bits .and .u32 (shrv .u32 w 16) 255).toNat) + byteAt tab (bits .and .u32 (shrv .u32 w 8) 255).toNat) + byteAt tab (bits .and .u32 w 255).toNat))
theorem ones_tree (w : Int) (R : Out → Prop) : (tOnes [.c (.i .u32 w)] []).run R =
    sel (decide (0 ≤ shrv .u32 w 24)) (sel (decide (shrv .u32 w 24 < (tab.size : Int)))
     (sel (decide (0 ≤ bits .and .u32 (shrv .u32 w 16) 255)) (sel (decide (bits .and .u32 (shrv .u32 w 16) 255 < (tab.size : Int)))
      (sel (decide (0 ≤ bits .and .u32 (shrv .u32 w 8) 255)) (sel (decide (bits .and .u32 (shrv .u32 w 8) 255 < (tab.size : Int)))
       (sel (decide (0 ≤ bits .and .u32 w 255)) (sel (decide (bits .and .u32 w 255 < (tab.size : Int)))
        (R ⟨.v (.c (.i .i64 (pop w))), []⟩) False) False) False) False) False) False) False) False := by
  kernel_rfl

def parN (x : Nat) : Nat → Bool
  | 0 => false
  | n + 1 => parN x n ^^ x.testBit n
theorem pc_par (x : Nat) : ∀ n, pcTo x n % 2 = (parN x n).toNat
  | 0 => rfl
  | n + 1 => by
    have ih := pc_par x n
    simp only [pcTo, parN, Nat.testBit_eq_decide_div_mod_eq]
    cases h : parN x n <;> rw [h] at ih <;> by_cases h2 : x / 2 ^ n % 2 = 1 <;> simp [h2, Bool.toNat] at ih ⊢ <;> omega
theorem tab_at : ∀ i < 256, byteAt tab i = (pcTo i 8 : Int) := by decide +kernel
theorem pc_le (x : Nat) : ∀ n, pcTo x n ≤ n
  | 0 => Nat.le_refl _
  | n + 1 => by have := pc_le x n; simp only [pcTo]; omega

theorem pop_eq (v : BitVec 32) : pop (u32 v) = ((pcTo (v >>> 24).toNat 8 + pcTo ((v >>> 16) &&& 255#32).toNat 8 + pcTo ((v >>> 8) &&& 255#32).toNat 8 + pcTo (v &&& 255#32).toNat 8 : Nat) : Int) := by
  have s24 : shrv .u32 (u32 v) 24 = u32 (v >>> 24) := shr_u32 v 24 (by decide)
  have s16 : shrv .u32 (u32 v) 16 = u32 (v >>> 16) := shr_u32 v 16 (by decide)
  have s8 : shrv .u32 (u32 v) 8 = u32 (v >>> 8) := shr_u32 v 8 (by decide)
  have an : ∀ x : BitVec 32, bits .and .u32 (u32 x) 255 = u32 (x &&& 255#32) := fun x => by
    rw [bits_u32, bvop_and, Nx.ofInt_u32]; simp
  have lt : ∀ x : BitVec 32, (x &&& 255#32).toNat < 256 := fun x => by
    rw [BitVec.toNat_and]
    exact Nat.lt_of_le_of_lt Nat.and_le_right (by decide)
  have lt24 : (v >>> 24).toNat < 256 := by
    rw [BitVec.toNat_ushiftRight, Nat.shiftRight_eq_div_pow]
    have := v.isLt
    omega
  have un : ∀ x : BitVec 32, (u32 x).toNat = x.toNat := fun x => by simp [u32]
  unfold pop
  rw [s24, s16, s8, an, an, an, un, un, un, un, tab_at _ lt24, tab_at _ (lt _), tab_at _ (lt _), tab_at _ (lt _)]
  have h1 := pc_le (v >>> 24).toNat 8
  have h2 := pc_le ((v >>> 16) &&& 255#32).toNat 8
  have h3 := pc_le ((v >>> 8) &&& 255#32).toNat 8
  have h4 := pc_le (v &&& 255#32).toNat 8
  rw [IntKind.wrap_u8, IntKind.wrap_u8, IntKind.wrap_u8, IntKind.wrap_i64]
  omega

theorem parN_bv {m : Nat} (x : Nat) (v : BitVec m) (k : Nat) : ∀ n, (∀ i < n, x.testBit i = v.getLsbD (k + i)) → parTo v (k + n) = (parTo v k ^^ parN x n)
  | 0, _ => by simp [parN]
  | n + 1, h => by
    have ih := parN_bv x v k n fun i hi => h i (by omega)
    show parTo v (k + n + 1) = _
    simp only [parTo, parN, ih, h n (by omega), Bool.xor_assoc]
theorem pop_par (v : BitVec 32) : pop (u32 v) % 2 = ((parTo v 32).toNat : Int) := by
  have b3 : ∀ i < 8, (v >>> 24).toNat.testBit i = v.getLsbD (24 + i) := fun i hi => by
    rw [BitVec.testBit_toNat, BitVec.getLsbD_ushiftRight]
  have bb : ∀ k, ∀ i < 8, ((v >>> k) &&& 255#32).toNat.testBit i = v.getLsbD (k + i) := fun k i hi => by
    rw [BitVec.testBit_toNat, BitVec.getLsbD_and, BitVec.getLsbD_ushiftRight]
    have : (255#32).getLsbD i = true := by
      match i, hi with
      | 0, _ => rfl
      | 1, _ => rfl
      | 2, _ => rfl
      | 3, _ => rfl
      | 4, _ => rfl
      | 5, _ => rfl
      | 6, _ => rfl
      | 7, _ => rfl
    rw [this, Bool.and_true]
  have b0 : ∀ i < 8, (v &&& 255#32).toNat.testBit i = v.getLsbD (0 + i) := fun i hi => by
    have := bb 0 i hi
    simpa using this
  have e8 := parN_bv _ v 0 8 b0
  have e16 := parN_bv _ v 8 8 (bb 8)
  have e24 := parN_bv _ v 16 8 (bb 16)
  have e32 := parN_bv _ v 24 8 b3
  have z : parTo v 0 = false := rfl
  rw [z, Bool.false_xor] at e8
  have p0 := pc_par (v &&& 255#32).toNat 8
  have p1 := pc_par ((v >>> 8) &&& 255#32).toNat 8
  have p2 := pc_par ((v >>> 16) &&& 255#32).toNat 8
  have p3 := pc_par (v >>> 24).toNat 8
  have h32 : parTo v 32 = ((((parN (v &&& 255#32).toNat 8) ^^ (parN ((v >>> 8) &&& 255#32).toNat 8)) ^^ (parN ((v >>> 16) &&& 255#32).toNat 8)) ^^ (parN (v >>> 24).toNat 8)) := by
    rw [← e8, ← e16, ← e24]; exact e32
  rw [pop_eq, h32]
  generalize parN (v &&& 255#32).toNat 8 = q0 at *
  generalize parN ((v >>> 8) &&& 255#32).toNat 8 = q1 at *
  generalize parN ((v >>> 16) &&& 255#32).toNat 8 = q2 at *
  generalize parN (v >>> 24).toNat 8 = q3 at *
  generalize pcTo (v &&& 255#32).toNat 8 = c0 at *
  generalize pcTo ((v >>> 8) &&& 255#32).toNat 8 = c1 at *
  generalize pcTo ((v >>> 16) &&& 255#32).toNat 8 = c2 at *
  generalize pcTo (v >>> 24).toNat 8 = c3 at *
  cases q0 <;> cases q1 <;> cases q2 <;> cases q3 <;> simp only [Bool.toNat_true, Bool.toNat_false] at p0 p1 p2 p3 <;> simp <;> omega



theorem in_byte {x : BitVec 32} (hx : x.toNat < 256) {A : Prop} (hA : A) : sel (decide (0 ≤ u32 x)) (sel (decide (u32 x < 256)) A False) False := by
  have h0 : decide (0 ≤ u32 x) = true := by simp [u32]
  have h1 : decide (u32 x < 256) = true := by
    rw [decide_eq_true_eq]
    unfold u32
    omega
  rw [h0, h1]
  exact hA
/-- What is known of OnesCount32. -/
noncomputable def tPop : Con := fun args regs => match args, regs with
  | [.c (.i .u32 w)], [] => .must (0 ≤ w ∧ w < 4294967296) (.ret ⟨.v (.c (.i .i64 (pop w))), []⟩)
  | _, _ => .fail
set_option maxRecDepth 100000 in
theorem kPop : Known Tryd.prog [] 105 tPop := by
  refine kOnes.less fun args regs R h => ?_
  unfold tPop at h
  split at h
  case h_2 => exact h.elim
  rename_i w
  obtain ⟨⟨h0, h1⟩, hR⟩ := h
  rw [ones_tree]
  have hw := fit_u32 h0 h1
  generalize BitVec.ofInt 32 w = v at hw
  subst hw
  have s24 : shrv .u32 (u32 v) 24 = u32 (v >>> 24) := shr_u32 v 24 (by decide)
  have s16 : shrv .u32 (u32 v) 16 = u32 (v >>> 16) := shr_u32 v 16 (by decide)
  have s8 : shrv .u32 (u32 v) 8 = u32 (v >>> 8) := shr_u32 v 8 (by decide)
  have an : ∀ x : BitVec 32, bits .and .u32 (u32 x) 255 = u32 (x &&& 255#32) := fun x => by
    rw [bits_u32, bvop_and, Nx.ofInt_u32]; simp
  have lt : ∀ x : BitVec 32, (x &&& 255#32).toNat < 256 := fun x => by
    rw [BitVec.toNat_and]
    exact Nat.lt_of_le_of_lt Nat.and_le_right (by decide)
  have lt24 : (v >>> 24).toNat < 256 := by
    rw [BitVec.toNat_ushiftRight, Nat.shiftRight_eq_div_pow]
    have := v.isLt
    omega
  have sz : (tab.size : Int) = 256 := by decide +kernel
  rw [s24, s16, s8, an, an, an, sz]
  refine in_byte lt24 ?_
  refine in_byte (lt (v >>> 16)) ?_
  refine in_byte (lt (v >>> 8)) ?_
  refine in_byte (lt v) ?_
  exact hR
noncomputable abbrev fCheck := Tryd.f104
noncomputable def cOnes : FuncId → Option Con := conOf [(105, tPop)]
theorem kcOnes : ∀ f T, cOnes f = some T → Known Tryd.prog [] f T := (Knowns.cons kPop .nil).get

/-! ### check's loop: the head's state; what it comes to -/
noncomputable def oCheck (w s : Int) : St := { fr := frame 24 [(0, .v (.c (.i .u32 w))), (4, .v (.c (.i .i64 s)))], rg := [] }
/-- Is the bit of place p set? -/
noncomputable def isSet (w : Int) (p : Nat) : Bool := bits .and .u32 (shrv .u32 w ((p - 1 : Nat) : Int)) 1 == 1
/-- The places that are set, from 24 - n on, taken together with s. -/
noncomputable def syn (w : Int) : Int → Nat → Int
  | s, 0 => s
  | s, n + 1 => syn w (if isSet w (23 - n) then bits .xor .i64 s ((23 - n : Nat) : Int) else s) n
noncomputable def XCheck : Cx := { P := Tryd.prog, con := cOnes, glob := [], m := 0, loops := [] }
theorem round_check (w s p : Int) (R : RO → Prop) : (roundT XCheck 0 [0, 4, 5] [0, 4] (bodyLoop fCheck 0) { fr := frame 24 [(0, .v (.c (.i .u32 w))), (4, .v (.c (.i .i64 s))), (5, .v (.c (.i .i64 p)))], rg := [] }).run R =
    sel (decide (p < 24))
     (sel (decide (0 ≤ IntKind.i64.wrap (p - 1)))
      (sel (bits BinOp.and IntKind.u32 (shrv IntKind.u32 w (IntKind.i64.wrap (p - 1))) 1 == 1)
       (R (RO.next { fr := frame 24 [(0, .v (.c (.i .u32 w))), (4, .v (.c (.i .i64 (bits BinOp.xor IntKind.i64 s p)))), (5, .v (.c (.i .i64 (IntKind.i64.wrap (p + 1)))))], rg := [] }))
       (R (RO.next { fr := frame 24 [(0, .v (.c (.i .u32 w))), (4, .v (.c (.i .i64 s))), (5, .v (.c (.i .i64 (IntKind.i64.wrap (p + 1)))))], rg := [] })))
      False)
     (R (RO.done NExit.normal (oCheck w s))) := by
  kernel_rfl
theorem wrap_small (n : Int) (h0 : 0 ≤ n) (h1 : n < 1000) : IntKind.i64.wrap n = n := by rw [IntKind.wrap_i64]; omega
noncomputable def lCheck : List Leaf × List (List Leaf) → Tr (NExit × St) := fun x => match x with
  | ([.i w, .i s, .i p], []) => .must (1 ≤ p ∧ p ≤ 24) (.ret (.normal, oCheck w (syn w s (24 - p).toNat)))
  | _ => .fail
noncomputable def pCheck : List Pat := pats 24 [(0, .i .u32), (4, .i .i64), (5, .i .i64)]
set_option maxRecDepth 100000 in
theorem loop_check : LOk Tryd.prog [] 0 0 (bodyLoop fCheck 0) (sumP pCheck [] lCheck) := by
  refine sumP_ok (X := XCheck) kcOnes mixed (LAll.none (by kernel_rfl)) [0, 4, 5] [0, 4] _ _ _ (fun x => match x with
    | ([.i _, .i _, .i p], []) => (24 - p).toNat
    | _ => 0) ?_
  rintro ⟨a, b⟩ R h
  unfold lCheck at h
  split at h
  case h_2 => exact h.elim
  rename_i w s p he
  cases he
  have h0 := h.1
  have h := h.2
  have h1 := h0.1
  have h2 := h0.2
  clear h0
  show (roundT XCheck 0 [0, 4, 5] [0, 4] (bodyLoop fCheck 0) { fr := frame 24 [(0, .v (.c (.i .u32 w))), (4, .v (.c (.i .i64 s))), (5, .v (.c (.i .i64 p)))], rg := [] }).run _
  rw [round_check]
  have h' : R (.normal, oCheck w (syn w s (24 - p).toNat)) := h
  by_cases hp : p = 24
  · subst hp
    exact sel_iff.2 (.inr ⟨by decide, h'⟩)
  · obtain ⟨n, hn⟩ : ∃ n : Nat, (24 - p).toNat = n + 1 := ⟨(23 - p).toNat, by omega⟩
    have hpn : p = ((23 - n : Nat) : Int) := by omega
    have e2 : IntKind.i64.wrap (p - 1) = ((23 - n - 1 : Nat) : Int) := by rw [wrap_small _ (by omega) (by omega)]; omega
    have e3 : IntKind.i64.wrap (p + 1) = p + 1 := wrap_small _ (by omega) (by omega)
    have e4 : (24 - (p + 1)).toNat = n := by omega
    rw [e2, e3]
    rw [hn] at h'
    refine sel_iff.2 (.inl ⟨by rw [decide_eq_true_eq]; omega, sel_iff.2 (.inl ⟨by rw [decide_eq_true_eq]; omega, ?_⟩)⟩)
    have h'' : R (.normal, oCheck w (syn w (if isSet w (23 - n) then bits .xor .i64 s ((23 - n : Nat) : Int) else s) n)) := h'
    cases hb : isSet w (23 - n) with
    | true =>
      rw [hb] at h''
      refine sel_iff.2 (.inl ⟨hb, ⟨([.i w, .i (bits .xor .i64 s p), .i (p + 1)], []), rfl, by simp only; omega, ⟨by omega, by omega⟩, ?_⟩⟩)
      show R (.normal, oCheck w (syn w (bits .xor .i64 s p) (24 - (p + 1)).toNat))
      rw [e4, hpn]
      exact h''
    | false =>
      rw [hb] at h''
      refine sel_iff.2 (.inr ⟨hb, ⟨([.i w, .i s, .i (p + 1)], []), rfl, by simp only; omega, ⟨by omega, by omega⟩, ?_⟩⟩)
      show R (.normal, oCheck w (syn w s (24 - (p + 1)).toNat))
      rw [e4]
      exact h''
noncomputable def tCheck : Con := fun args regs => if regs.length = 0 then nfun Tryd.prog [] cOnes [(0, [0, 4, 5], sumP pCheck [] lCheck)] fCheck args regs else .fail
theorem kCheck : Known Tryd.prog [] 104 tCheck := known_loops 0 Tryd.func104 rfl (by kernel_rfl) mixed kcOnes (LAll.one (id := 0) (body := bodyLoop fCheck 0) (by kernel_rfl) rfl loop_check)
noncomputable def tData : Con := fun args regs => nfun Tryd.prog [] (fun _ => Option.none) [] Tryd.f103 args regs
theorem kData : Known Tryd.prog [] 103 tData := known_inl Tryd.func103 rfl (by kernel_rfl) mixed con_none (by kernel_rfl)
noncomputable def cData : FuncId → Option Con := conOf [(103, tData)]
theorem kcData : ∀ f T, cData f = some T → Known Tryd.prog [] f T := (Knowns.cons kData .nil).get
noncomputable abbrev fNumber := Tryd.f119
noncomputable def XNumber : Cx := { P := Tryd.prog, con := cData, glob := [], m := 0, loops := [] }
noncomputable def tNumber0 : Con := fun args regs => if regs.length = 0 then nfun Tryd.prog [] cData [(0, [0, 3, 4, 5], unroll XNumber 0 [0, 3, 4, 5] [3] (bodyLoop fNumber 0) 30)] fNumber args regs else .fail
theorem kNumber0 : Known Tryd.prog [] 119 tNumber0 := known_loops 0 Tryd.func119 rfl (by kernel_rfl) mixed kcData
  (LAll.one (id := 0) (body := bodyLoop fNumber 0) (by kernel_rfl) rfl (unroll_ok (X := XNumber) kcData mixed (LAll.none (by kernel_rfl)) [0, 3, 4, 5] [3] 30))

/-- What stands at the places, from the k-th bit on. -/
def dat (w : Int) : List Nat → Int → Nat → Int
  | [], n, _ => n
  | p :: ps, n, k => dat w ps (bits .or .i64 n (shlv .i64 (IntKind.i64.wrap (bits .and .u32 (shrv .u32 w (Int.ofNat (p - 1))) 1)) (Int.ofNat k))) (k + 1)
def spots : List Nat := [3, 5, 6, 7, 9, 10, 11, 12, 13, 14, 15, 17, 18, 19, 20, 21, 22, 23]
theorem number_tree (w : Int) (R : Out → Prop) : (tNumber0 [.c (.i .u32 w)] []).run R = R ⟨.v (.c (.i .i64 (dat w spots 0 0))), []⟩ := by kernel_rfl
noncomputable def tNumber : Con := fun args regs => match args, regs with
  | [.c (.i .u32 w)], [] => .ret ⟨.v (.c (.i .i64 (dat w spots 0 0))), []⟩
  | _, _ => .fail
theorem kNumber : Known Tryd.prog [] 119 tNumber := by
  refine kNumber0.less fun args regs R h => ?_
  unfold tNumber at h
  split at h
  case h_2 => exact h.elim
  rename_i w
  rw [number_tree]
  exact h
theorem check_tree (w : Int) (R : Out → Prop) : (tCheck [.c (.i .u32 w)] []).run R = ((1 ≤ (1 : Int) ∧ (1 : Int) ≤ 24) ∧ ((0 ≤ w ∧ w < 4294967296) ∧ R ⟨.tu [.c (.i .i64 (syn w 0 23)), .c (.b ((pop w).tmod 2 == 1))], []⟩)) := by kernel_rfl
noncomputable def tCk : Con := fun args regs => match args, regs with
  | [.c (.i .u32 w)], [] => .must (0 ≤ w ∧ w < 4294967296) (.ret ⟨.tu [.c (.i .i64 (syn w 0 23)), .c (.b ((pop w).tmod 2 == 1))], []⟩)
  | _, _ => .fail
theorem kCk : Known Tryd.prog [] 104 tCk := by
  refine kCheck.less fun args regs R h => ?_
  unfold tCk at h
  split at h
  case h_2 => exact h.elim
  rename_i w
  rw [check_tree]
  exact ⟨⟨by decide, by decide⟩, h⟩
noncomputable def cPut : FuncId → Option Con := conOf [(103, tData), (104, tCk), (105, tPop)]
theorem kcPut : ∀ f T, cPut f = some T → Known Tryd.prog [] f T := (Knowns.cons kData (.cons kCk (.cons kPop .nil))).get
noncomputable abbrev fPut := Tryd.f80
noncomputable def XPut : Cx := { P := Tryd.prog, con := cPut, glob := [], m := 0, loops := [] }
noncomputable def tPut0 : Con := fun args regs => if regs.length = 0 then nfun Tryd.prog [] cPut [(0, [0, 2, 3, 4, 5], unroll XPut 0 [0, 2, 3, 4, 5] [2, 3] (bodyLoop fPut 0) 30), (2, [2, 3, 6, 32], unroll XPut 2 [2, 3, 6, 32] [2, 3] (bodyLoop fPut 2) 30)] fPut args regs else .fail

/-- A number's bits at their places. -/
noncomputable def place (n : Int) : List Nat → Int → Nat → Int
  | [], w, _ => w
  | p :: ps, w, k => place n ps (bits .or .u32 w (shlv .u32 (IntKind.u32.wrap (bits .and .i64 (shrv .i64 n (Int.ofNat k)) 1)) (Int.ofNat (p - 1)))) (k + 1)
/-- The bits that keep watch. -/
noncomputable def keep (sum : Int) : List Nat → Int → Int
  | [], w => w
  | k :: ks, w => keep sum ks (bits .or .u32 w (shlv .u32 (IntKind.u32.wrap (bits .xor .i64 1 (bits .and .i64 (shrv .i64 sum (Int.ofNat k)) 1))) (Int.ofNat (2 ^ k - 1))))
noncomputable def put0 (n : Int) : Int := place n spots 0 0
noncomputable def put1 (n : Int) : Int := keep (syn (put0 n) 0 23) [0, 1, 2, 3, 4] (put0 n)
noncomputable def bytes3 (w : Int) : NS := .v (.ag [.i .u8 (IntKind.u8.wrap w), .i .u8 (IntKind.u8.wrap (shrv .u32 w 8)), .i .u8 (IntKind.u8.wrap (shrv .u32 w 16))])
theorem put_tree (n : Int) (R : Out → Prop) : (tPut0 [.c (.i .i64 n)] []).run R =
    ((0 ≤ put0 n ∧ put0 n < 4294967296) ∧ ((0 ≤ put1 n ∧ put1 n < 4294967296) ∧
      sel ((pop (put1 n)).tmod 2 == 0) (R ⟨bytes3 (bits .or .u32 (put1 n) 8388608), []⟩) (R ⟨bytes3 (put1 n), []⟩))) := by kernel_rfl
noncomputable def tPut : Con := fun args regs => match args, regs with
  | [.c (.i .i64 n)], [] => .must ((0 ≤ put0 n ∧ put0 n < 4294967296) ∧ (0 ≤ put1 n ∧ put1 n < 4294967296)) (.ret ⟨bytes3 (bif (pop (put1 n)).tmod 2 == 0 then bits .or .u32 (put1 n) 8388608 else put1 n), []⟩)
  | _, _ => .fail
theorem loopPut0 : LOk Tryd.prog [] 0 0 (bodyLoop fPut 0) (unroll XPut 0 [0, 2, 3, 4, 5] [2, 3] (bodyLoop fPut 0) 30) := unroll_ok (X := XPut) kcPut mixed (LAll.none (by kernel_rfl)) [0, 2, 3, 4, 5] [2, 3] 30
theorem loopPut2 : LOk Tryd.prog [] 0 2 (bodyLoop fPut 2) (unroll XPut 2 [2, 3, 6, 32] [2, 3] (bodyLoop fPut 2) 30) := unroll_ok (X := XPut) kcPut mixed (LAll.none (by kernel_rfl)) [2, 3, 6, 32] [2, 3] 30
theorem kPut0 : Known Tryd.prog [] 80 tPut0 := known_loops 0 Tryd.func80 rfl (by kernel_rfl) mixed kcPut
  (LAll.two (i1 := 0) (i2 := 2) (b1 := bodyLoop fPut 0) (b2 := bodyLoop fPut 2) (by kernel_rfl) rfl (by decide) loopPut0 loopPut2)
theorem put_pick {c : Bool} {x y : Int} {R : Out → Prop} (h : (Tr.ret (Out.mk (bytes3 (bif c then x else y)) [])).run R) : sel c (R ⟨bytes3 x, []⟩) (R ⟨bytes3 y, []⟩) := by
  cases c <;> exact h
set_option maxRecDepth 100000 in
theorem kPut : Known Tryd.prog [] 80 tPut := by
  refine kPut0.less fun args regs R h => ?_
  unfold tPut at h
  split at h
  case h_2 => exact h.elim
  rename_i n
  have h1 := h.1
  have h3 := h.2
  clear h
  rw [put_tree]
  exact And.intro (And.left h1) (And.intro (And.right h1) (put_pick (c := (pop (put1 n)).tmod 2 == 0) (x := bits .or .u32 (put1 n) 8388608) (y := put1 n) h3))

noncomputable def cGet : FuncId → Option Con := conOf [(104, tCk), (119, tNumber)]
theorem kcGet : ∀ f T, cGet f = some T → Known Tryd.prog [] f T := (Knowns.cons kCk (.cons kNumber .nil)).get
noncomputable def tGet : Con := fun args regs => nfun Tryd.prog [] cGet [] Tryd.f106 args regs
theorem kGet : Known Tryd.prog [] 106 tGet := known_inl Tryd.func106 rfl (by kernel_rfl) mixed kcGet (by kernel_rfl)
noncomputable def word (a b c : Int) : Int := bits .or .u32 (bits .or .u32 (IntKind.u32.wrap a) (shlv .u32 (IntKind.u32.wrap b) 8)) (shlv .u32 (IntKind.u32.wrap c) 16)
noncomputable def place31 (w : Int) : Int := bits .xor .i64 (syn w 0 23) 31
noncomputable def some2 (n : Int) : Out := ⟨.tu [.c (.i .i64 n), .c (.b true)], []⟩
noncomputable def none2 : Out := ⟨.tu [.c (.i .i64 0), .c (.b false)], []⟩
theorem get_tree (a b c : Int) (R : Out → Prop) : (tGet [.ag [.i .u8 a, .i .u8 b, .i .u8 c]] []).run R =
    ((0 ≤ word a b c ∧ word a b c < 4294967296) ∧
     sel (place31 (word a b c) == 0) (R (some2 (dat (word a b c) spots 0 0)))
      (sel ((pop (word a b c)).tmod 2 == 1) (R none2)
       (sel (decide (place31 (word a b c) ≥ 24)) (R none2)
        (sel (decide (0 ≤ IntKind.i64.wrap (place31 (word a b c) - 1)))
         (R (some2 (dat (bits .xor .u32 (word a b c) (shlv .u32 1 (IntKind.i64.wrap (place31 (word a b c) - 1)))) spots 0 0)))
         False)))) := by kernel_rfl
end Go.Proofs.YthjdlanmfiofdaaDoor.ham
