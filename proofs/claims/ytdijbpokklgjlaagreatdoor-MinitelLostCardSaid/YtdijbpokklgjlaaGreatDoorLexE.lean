/-
  The lexer: a byte behind a beginning, by a contract: the sequences that say something.
-/
import Derived.Test.YtdijbpokklgjlaaGreatDoorLexD
namespace Go.Proofs.YtdijbpokklgjlaaGreatDoor.lex
open Go Go.Nx Go.RowKit

def K7 : List CK := [.i .i64, .i .i64, .i .i64, .i .i64, .i .i64, .i .i64, .i .i64]
def evt (k a b c d set code : Int) : NS := .v (.c (.lr K7 [[.i k, .i a, .i b, .i c, .i d, .i set, .i code]]))
def lx (p : NC) (s : Int) : Reg := ⟨2, 58, .cells [p, .i .i64 s]⟩
def arr (P : List Int) : Reg := ⟨1, 5, .ints .u8 P⟩
noncomputable def cB (b : Int) : Int := bits .and .u8 b 127
def okB (b : Int) : Prop := (0 ≤ b ∧ b < 256) ∧ isEv b = true
def okC (b : Int) : Prop := okB b ∧ 32 ≤ cB b
def w64 (n : Int) : Int := IntKind.i64.wrap n
noncomputable def low6 (n : Int) : Int := IntKind.i64.wrap (bits .and .u8 n 63)
def went (s : Int) (P : List Int) : Out := ⟨.v (.c .sn), [some (lx (.h 2 0 P.length) s), none, some (arr P)]⟩
def ended (e : NS) (s : Int) (P : List Int) : Out := ⟨e, [some (lx .sn s), some (arr P)]⟩
def ended0 (e : NS) (s : Int) : Out := ⟨e, [some (lx .sn s), none]⟩
def ign : NS := evt 12 0 0 0 0 0 0
def mx (n : Int) : Int := bif decide (1 > n) then 1 else n
noncomputable def byteL (b s : Int) (P : List Int) (R : Out → Prop) : Prop := (t_byteL [.c (.p 0 0 0), .c (.i .u8 b)] [lx (.h 1 0 P.length) s, arr P]).run R
def at32 (b : Int) (A : Prop) : Prop := okB b ∧ sel (decide (cB b < 32)) False A
theorem e31 (b s : Int) (R : Out → Prop) : byteL b s [31] R = at32 b (R (went s [31, cB b])) := by kernel_rfl
theorem e31r (b s r : Int) (R : Out → Prop) : byteL b s [31, r] R = at32 b (sel (decide (r < 64)) (R (ended ign s [31, r])) (sel (decide (cB b < 64)) (R (ended ign s [31, r])) (R (ended (evt 5 (low6 r) (low6 (cB b)) 0 0 0 0) s [31, r])))) := by kernel_rfl
theorem e18 (b s : Int) (R : Out → Prop) : byteL b s [18] R = at32 b (R (ended (evt 7 (low6 (cB b)) 0 0 0 0 0) s [18])) := by kernel_rfl
theorem e25 (b s : Int) (R : Out → Prop) : byteL b s [25] R = at32 b (sel (cB b == 65) (R (went s [25, cB b])) (sel (cB b == 66) (R (went s [25, cB b])) (sel (cB b == 67) (R (went s [25, cB b])) (sel (cB b == 72) (R (went s [25, cB b])) (sel (cB b == 75) (R (went s [25, cB b]))
    (R (ended (evt 1 0 0 0 0 2 (w64 (cB b))) s [25]))))))) := by kernel_rfl
theorem e25r (b s r : Int) (R : Out → Prop) : byteL b s [25, r] R = at32 b (R (ended (evt 1 (w64 r) 0 0 0 2 (w64 (cB b))) s [25, r])) := by kernel_rfl
def esc (b s : Int) (R : Out → Prop) : Prop := sel (decide (cB b ≥ 64)) (sel (decide (cB b ≤ 95)) (R (ended (evt 6 (w64 (cB b)) 0 0 0 0 0) s [27])) (R (ended ign s [27]))) (R (ended ign s [27]))
theorem e27 (b s : Int) (R : Out → Prop) : byteL b s [27] R = at32 b (sel (decide (cB b < 48)) (R (went s [27, cB b])) (sel (decide (cB b < 48)) (R (ended ign s [27])) (sel (cB b == 91) (R (went s [27, cB b]))
    (sel (decide (cB b ≥ 57)) (sel (decide (cB b ≤ 59)) (R (went s [27, cB b])) (esc b s R)) (esc b s R))))) := by kernel_rfl
theorem e2757 (b s : Int) (R : Out → Prop) : byteL b s [27, 57] R = at32 b (R (ended0 (evt 10 1 (w64 (cB b)) 0 0 0 0) s)) := by kernel_rfl
theorem e2758 (b s : Int) (R : Out → Prop) : byteL b s [27, 58] R = at32 b (R (went s [27, 58, cB b])) := by kernel_rfl
theorem e2758r (b s r : Int) (R : Out → Prop) : byteL b s [27, 58, r] R = at32 b (R (ended0 (evt 10 2 (w64 r) (w64 (cB b)) 0 0 0) s)) := by kernel_rfl
theorem e2759 (b s : Int) (R : Out → Prop) : byteL b s [27, 59] R = at32 b (R (went s [27, 59, cB b])) := by kernel_rfl
theorem e2759r (b s r : Int) (R : Out → Prop) : byteL b s [27, 59, r] R = at32 b (R (went s [27, 59, r, cB b])) := by kernel_rfl
theorem e2759rt (b s r t : Int) (R : Out → Prop) : byteL b s [27, 59, r, t] R = at32 b (R (ended0 (evt 10 3 (w64 r) (w64 t) (w64 (cB b)) 0 0) s)) := by kernel_rfl
def swH (b s : Int) (P ds : List Int) (R : Out → Prop) : Prop :=
  sel (decide (cB b < 64)) (R (ended ign s P)) (sel (cB b == 127) (R (ended ign s P)) ((ds.length ≤ 100 ∧ InBytes ds) ∧
    sel (cB b == 65) (R (ended (evt 2 (w64 (IntKind.u8.wrap (69 - cB b))) (mx (min99 (nums ds 0 0 0).1)) 0 0 0 0) s P))
     (sel (cB b == 66) (R (ended (evt 2 (w64 (IntKind.u8.wrap (69 - cB b))) (mx (min99 (nums ds 0 0 0).1)) 0 0 0 0) s P))
      (sel (cB b == 67) (R (ended (evt 2 (w64 (IntKind.u8.wrap (69 - cB b))) (mx (min99 (nums ds 0 0 0).1)) 0 0 0 0) s P))
       (sel (cB b == 68) (R (ended (evt 2 (w64 (IntKind.u8.wrap (69 - cB b))) (mx (min99 (nums ds 0 0 0).1)) 0 0 0 0) s P))
        (sel (cB b == 72) (R (ended (evt 5 (mx (min99 (nums ds 0 0 0).1)) (mx (min99 (nums ds 0 0 0).2)) 0 0 0 0) s P))
         (sel (cB b == 74) (R (ended (evt 11 (w64 (w64 (IntKind.u8.wrap (cB b - 74)) + 1)) (min99 (nums ds 0 0 0).1) 0 0 0 0) s P))
          (sel (cB b == 75) (R (ended (evt 11 (w64 (w64 (IntKind.u8.wrap (cB b - 74)) + 1)) (min99 (nums ds 0 0 0).1) 0 0 0 0) s P)) (R (ended ign s P)))))))))) 
def sq (b s : Int) (P P' ds : List Int) (R : Out → Prop) : Prop := at32 b (sel (decide (cB b ≥ 48)) (sel (decide (cB b < 64)) (R (went s P')) (swH b s P ds R)) (swH b s P ds R))
theorem e91 (b s : Int) (R : Out → Prop) : byteL b s [27, 91] R = sq b s [27, 91] [27, 91, cB b] [] R := by kernel_rfl
theorem e911 (b s p : Int) (R : Out → Prop) : byteL b s [27, 91, p] R = sq b s [27, 91, p] [27, 91, p, cB b] [p] R := by kernel_rfl
theorem e912 (b s p q : Int) (R : Out → Prop) : byteL b s [27, 91, p, q] R = sq b s [27, 91, p, q] [27, 91, p, q, cB b] [p, q] R := by kernel_rfl
theorem e913 (b s p q r : Int) (R : Out → Prop) : byteL b s [27, 91, p, q, r] R = sq b s [27, 91, p, q, r] [27, 91, p, q, r, cB b] [p, q, r] R := by kernel_rfl
theorem e914 (b s p q r t : Int) (R : Out → Prop) : byteL b s [27, 91, p, q, r, t] R = sq b s [27, 91, p, q, r, t] [27, 91, p, q, r, t, cB b] [p, q, r, t] R := by kernel_rfl
end Go.Proofs.YtdijbpokklgjlaaGreatDoor.lex
