/-
  Joined: MnAp, MnAq, MnAr, MnAs.
-/
import Derived.Test.YtdijbpokklgjlaaGreatDoorMnAo
set_option linter.unusedVariables false
namespace Go.Proofs.YtdijbpokklgjlaaGreatDoor.mtl
open Go Go.Nx Go.Proofs.YtdijbpokklgjlaaGreatDoor.prt
open Go.Proofs.YtdijbpokklgjlaaGreatDoor.lex (arr lx InBytes mkEv K7 kMake)
open Go.Proofs.YtdijbpokklgjlaaGreatDoor.scr (Scr Ev eventS rollsS Ins newS)

theorem t0_0 (w u : Int) (ah : List Int) (R : Out → Prop) : (t_an 0 0 [.c (.i .i64 w), .c (.i .i64 u), .c (.l .u8 ah)] []).run R =
    sel (decide ((ah.length : Int) > 30)) (R yesO) (startR w u ah 0 0 3 (anR (AM (scAh ah newS)) [] [27, 57, 112] [27, 58, 113, 74] R)) := by kernel_rfl
theorem t0_1 (w u : Int) (ah : List Int) (R : Out → Prop) : (t_an 0 1 [.c (.i .i64 w), .c (.i .i64 u), .c (.l .u8 ah)] []).run R =
    sel (decide ((ah.length : Int) > 30)) (R yesO) (startR w u ah 0 1 3 (anR (AM (scAh ah newS)) [27] [27, 57, 112] [27, 58, 113, 74] R)) := by kernel_rfl
theorem t0_2 (w u : Int) (ah : List Int) (R : Out → Prop) : (t_an 0 2 [.c (.i .i64 w), .c (.i .i64 u), .c (.l .u8 ah)] []).run R =
    sel (decide ((ah.length : Int) > 30)) (R yesO) (startR w u ah 0 2 3 (anR (AM (scAh ah newS)) [27, 57] [27, 57, 112] [27, 58, 113, 74] R)) := by kernel_rfl
theorem t1_0 (w u : Int) (ah : List Int) (R : Out → Prop) : (t_an 1 0 [.c (.i .i64 w), .c (.i .i64 u), .c (.l .u8 ah)] []).run R =
    sel (decide ((ah.length : Int) > 30)) (R yesO) (startR w u ah 1 0 3 (anR (AM (scAh ah newS)) [] [27, 57, 114] [27, 58, 115, 64] R)) := by kernel_rfl
theorem t1_1 (w u : Int) (ah : List Int) (R : Out → Prop) : (t_an 1 1 [.c (.i .i64 w), .c (.i .i64 u), .c (.l .u8 ah)] []).run R =
    sel (decide ((ah.length : Int) > 30)) (R yesO) (startR w u ah 1 1 3 (anR (AM (scAh ah newS)) [27] [27, 57, 114] [27, 58, 115, 64] R)) := by kernel_rfl
theorem t1_2 (w u : Int) (ah : List Int) (R : Out → Prop) : (t_an 1 2 [.c (.i .i64 w), .c (.i .i64 u), .c (.l .u8 ah)] []).run R =
    sel (decide ((ah.length : Int) > 30)) (R yesO) (startR w u ah 1 2 3 (anR (AM (scAh ah newS)) [27, 57] [27, 57, 114] [27, 58, 115, 64] R)) := by kernel_rfl
end Go.Proofs.YtdijbpokklgjlaaGreatDoor.mtl
namespace Go.Proofs.YtdijbpokklgjlaaGreatDoor.mtl
open Go Go.Nx Go.Proofs.YtdijbpokklgjlaaGreatDoor.prt
open Go.Proofs.YtdijbpokklgjlaaGreatDoor.lex (arr lx InBytes mkEv K7 kMake)
open Go.Proofs.YtdijbpokklgjlaaGreatDoor.scr (Scr Ev eventS rollsS Ins newS)

theorem t2_0 (w u : Int) (ah : List Int) (R : Out → Prop) : (t_an 2 0 [.c (.i .i64 w), .c (.i .i64 u), .c (.l .u8 ah)] []).run R =
    sel (decide ((ah.length : Int) > 30)) (R yesO) (startR w u ah 2 0 3 (anR (AM (scAh ah newS)) [] [27, 57, 116] [27, 58, 117, 100] R)) := by kernel_rfl
theorem t2_1 (w u : Int) (ah : List Int) (R : Out → Prop) : (t_an 2 1 [.c (.i .i64 w), .c (.i .i64 u), .c (.l .u8 ah)] []).run R =
    sel (decide ((ah.length : Int) > 30)) (R yesO) (startR w u ah 2 1 3 (anR (AM (scAh ah newS)) [27] [27, 57, 116] [27, 58, 117, 100] R)) := by kernel_rfl
theorem t2_2 (w u : Int) (ah : List Int) (R : Out → Prop) : (t_an 2 2 [.c (.i .i64 w), .c (.i .i64 u), .c (.l .u8 ah)] []).run R =
    sel (decide ((ah.length : Int) > 30)) (R yesO) (startR w u ah 2 2 3 (anR (AM (scAh ah newS)) [27, 57] [27, 57, 116] [27, 58, 117, 100] R)) := by kernel_rfl
theorem t3_0 (w u : Int) (ah : List Int) (R : Out → Prop) : (t_an 3 0 [.c (.i .i64 w), .c (.i .i64 u), .c (.l .u8 ah)] []).run R =
    sel (decide ((ah.length : Int) > 30)) (R yesO) (startR w u ah 3 0 3 (anR (AM (scAh ah newS)) [] [27, 57, 118] [27, 58, 119, 64] R)) := by kernel_rfl
theorem t3_1 (w u : Int) (ah : List Int) (R : Out → Prop) : (t_an 3 1 [.c (.i .i64 w), .c (.i .i64 u), .c (.l .u8 ah)] []).run R =
    sel (decide ((ah.length : Int) > 30)) (R yesO) (startR w u ah 3 1 3 (anR (AM (scAh ah newS)) [27] [27, 57, 118] [27, 58, 119, 64] R)) := by kernel_rfl
theorem t3_2 (w u : Int) (ah : List Int) (R : Out → Prop) : (t_an 3 2 [.c (.i .i64 w), .c (.i .i64 u), .c (.l .u8 ah)] []).run R =
    sel (decide ((ah.length : Int) > 30)) (R yesO) (startR w u ah 3 2 3 (anR (AM (scAh ah newS)) [27, 57] [27, 57, 118] [27, 58, 119, 64] R)) := by kernel_rfl
end Go.Proofs.YtdijbpokklgjlaaGreatDoor.mtl
namespace Go.Proofs.YtdijbpokklgjlaaGreatDoor.mtl
open Go Go.Nx Go.Proofs.YtdijbpokklgjlaaGreatDoor.prt
open Go.Proofs.YtdijbpokklgjlaaGreatDoor.lex (arr lx InBytes mkEv K7 kMake)
open Go.Proofs.YtdijbpokklgjlaaGreatDoor.scr (Scr Ev eventS rollsS Ins newS)

theorem t4_0 (w u : Int) (ah : List Int) (R : Out → Prop) : (t_an 4 0 [.c (.i .i64 w), .c (.i .i64 u), .c (.l .u8 ah)] []).run R =
    sel (decide ((ah.length : Int) > 30)) (R yesO) (startR w u ah 4 0 3 (anR (AM (scAh ah newS)) [] [27, 57, 123] [1, 67, 117, 60, 4] R)) := by kernel_rfl
theorem t4_1 (w u : Int) (ah : List Int) (R : Out → Prop) : (t_an 4 1 [.c (.i .i64 w), .c (.i .i64 u), .c (.l .u8 ah)] []).run R =
    sel (decide ((ah.length : Int) > 30)) (R yesO) (startR w u ah 4 1 3 (anR (AM (scAh ah newS)) [27] [27, 57, 123] [1, 67, 117, 60, 4] R)) := by kernel_rfl
theorem t4_2 (w u : Int) (ah : List Int) (R : Out → Prop) : (t_an 4 2 [.c (.i .i64 w), .c (.i .i64 u), .c (.l .u8 ah)] []).run R =
    sel (decide ((ah.length : Int) > 30)) (R yesO) (startR w u ah 4 2 3 (anR (AM (scAh ah newS)) [27, 57] [27, 57, 123] [1, 67, 117, 60, 4] R)) := by kernel_rfl
theorem t5_0 (w u : Int) (ah : List Int) (R : Out → Prop) : (t_an 5 0 [.c (.i .i64 w), .c (.i .i64 u), .c (.l .u8 ah)] []).run R =
    sel (decide ((ah.length : Int) > 30)) (R yesO) (startR w u ah 5 0 4 (anR (AM (scAh ah newS)) [] [27, 58, 105, 67] [27, 58, 115, 66] R)) := by kernel_rfl
theorem t5_1 (w u : Int) (ah : List Int) (R : Out → Prop) : (t_an 5 1 [.c (.i .i64 w), .c (.i .i64 u), .c (.l .u8 ah)] []).run R =
    sel (decide ((ah.length : Int) > 30)) (R yesO) (startR w u ah 5 1 4 (anR (AM (scAh ah newS)) [27] [27, 58, 105, 67] [27, 58, 115, 66] R)) := by kernel_rfl
theorem t5_2 (w u : Int) (ah : List Int) (R : Out → Prop) : (t_an 5 2 [.c (.i .i64 w), .c (.i .i64 u), .c (.l .u8 ah)] []).run R =
    sel (decide ((ah.length : Int) > 30)) (R yesO) (startR w u ah 5 2 4 (anR (AM (scAh ah newS)) [27, 58] [27, 58, 105, 67] [27, 58, 115, 66] R)) := by kernel_rfl
theorem t5_3 (w u : Int) (ah : List Int) (R : Out → Prop) : (t_an 5 3 [.c (.i .i64 w), .c (.i .i64 u), .c (.l .u8 ah)] []).run R =
    sel (decide ((ah.length : Int) > 30)) (R yesO) (startR w u ah 5 3 4 (anR (AM (scAh ah newS)) [27, 58, 105] [27, 58, 105, 67] [27, 58, 115, 66] R)) := by kernel_rfl
end Go.Proofs.YtdijbpokklgjlaaGreatDoor.mtl
namespace Go.Proofs.YtdijbpokklgjlaaGreatDoor.mtl
open Go Go.Nx Go.Proofs.YtdijbpokklgjlaaGreatDoor.prt
open Go.Proofs.YtdijbpokklgjlaaGreatDoor.lex (arr lx InBytes mkEv K7 kMake)
open Go.Proofs.YtdijbpokklgjlaaGreatDoor.scr (Scr Ev eventS rollsS Ins newS)

theorem t6_0 (w u : Int) (ah : List Int) (R : Out → Prop) : (t_an 6 0 [.c (.i .i64 w), .c (.i .i64 u), .c (.l .u8 ah)] []).run R =
    sel (decide ((ah.length : Int) > 30)) (R yesO) (startR w u ah 6 0 5 (anR (AM (scAh ah newS)) [] [27, 59, 97, 88, 81] [27, 59, 99, 88, 70] R)) := by kernel_rfl
theorem t6_1 (w u : Int) (ah : List Int) (R : Out → Prop) : (t_an 6 1 [.c (.i .i64 w), .c (.i .i64 u), .c (.l .u8 ah)] []).run R =
    sel (decide ((ah.length : Int) > 30)) (R yesO) (startR w u ah 6 1 5 (anR (AM (scAh ah newS)) [27] [27, 59, 97, 88, 81] [27, 59, 99, 88, 70] R)) := by kernel_rfl
theorem t6_2 (w u : Int) (ah : List Int) (R : Out → Prop) : (t_an 6 2 [.c (.i .i64 w), .c (.i .i64 u), .c (.l .u8 ah)] []).run R =
    sel (decide ((ah.length : Int) > 30)) (R yesO) (startR w u ah 6 2 5 (anR (AM (scAh ah newS)) [27, 59] [27, 59, 97, 88, 81] [27, 59, 99, 88, 70] R)) := by kernel_rfl
theorem t6_3 (w u : Int) (ah : List Int) (R : Out → Prop) : (t_an 6 3 [.c (.i .i64 w), .c (.i .i64 u), .c (.l .u8 ah)] []).run R =
    sel (decide ((ah.length : Int) > 30)) (R yesO) (startR w u ah 6 3 5 (anR (AM (scAh ah newS)) [27, 59, 97] [27, 59, 97, 88, 81] [27, 59, 99, 88, 70] R)) := by kernel_rfl
theorem t6_4 (w u : Int) (ah : List Int) (R : Out → Prop) : (t_an 6 4 [.c (.i .i64 w), .c (.i .i64 u), .c (.l .u8 ah)] []).run R =
    sel (decide ((ah.length : Int) > 30)) (R yesO) (startR w u ah 6 4 5 (anR (AM (scAh ah newS)) [27, 59, 97, 88] [27, 59, 97, 88, 81] [27, 59, 99, 88, 70] R)) := by kernel_rfl
end Go.Proofs.YtdijbpokklgjlaaGreatDoor.mtl
