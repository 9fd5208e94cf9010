import Derived.Test.YtppccaacbpkgiaaProg
import Derived.Test.YtppccaacbpkgiaaVG
import Derived.KernelRfl
namespace Go.Proofs.Ytppccaacbpkgiaa
open Go Go.Proofs.Ytppccaacbpkgiaa.V
set_option linter.unusedVariables false

theorem mixed : Try.prog.follows .mixedOrders = true := by kernel_rfl
/-- joist/joistlaw05.WalCodes -/
abbrev F.joistlaw05_WalCodes : Nat := 3
def cmd_joistlaw05_WalCodes : Cmd :=
  .seq (.seq (.reg [⟨some 4, none, .inr (.box 3 (.t 0))⟩,
 ⟨some 8, none, .inl (.mv (.c (.bool false)))⟩])
 (.keep [1, 2, 3, 4]))
 (.seq (.seq (.reg [⟨some 19, none, .inr (.call 9 [])⟩,
 ⟨some 9, none, .inl (.mv (.t 19))⟩])
 (.keep [1, 2, 3, 4, 9]))
 (.seq (.seq (.reg [⟨some 20, none, .inl (.mv (.t 3))⟩,
 ⟨some 21, none, .inr (.call 10 [(.t 20)])⟩,
 ⟨some 10, none, .inl (.mv (.t 21))⟩])
 (.keep [1, 2, 3, 4, 9, 10]))
 (.seq (.seq (.seq (.reg [⟨some 22, none, .inl (.mv (.t 10))⟩,
 ⟨some 23, none, .inl (.un .not (.t 22))⟩])
 (.keep [1, 2, 3, 4, 9, 23]))
 (.cond (.t 23)
 (.seq (.seq (.reg [⟨some 24, none, .inl (.mv (.t 9))⟩,
 ⟨some 8, none, .inl (.mv (.t 24))⟩])
 (.keep [8]))
 (.ret))
 (.skip)))
 (.seq (.seq (.reg [⟨some 26, none, .inl (.load true 3 (.t 4))⟩,
 ⟨some 27, none, .inl (.mv (.t 3))⟩,
 ⟨some 28, none, .inr (.call 11 [(.t 26), (.t 27)])⟩,
 ⟨some 25, none, .inl (.mv (.t 28))⟩,
 ⟨some 29, none, .inl (.ext 0 (.t 25))⟩,
 ⟨some 30, none, .inl (.ext 1 (.t 25))⟩,
 ⟨some 31, none, .inl (.ext 2 (.t 25))⟩,
 ⟨some 11, none, .inl (.mv (.t 29))⟩,
 ⟨some 12, none, .inl (.mv (.t 30))⟩,
 ⟨some 13, none, .inl (.mv (.t 31))⟩])
 (.keep [1, 2, 3, 4, 9, 11, 12, 13]))
 (.seq (.seq (.reg [⟨some 33, none, .inl (.load true 3 (.t 4))⟩,
 ⟨some 34, none, .inl (.mv (.t 3))⟩,
 ⟨some 35, none, .inr (.call 12 [(.t 33), (.t 34)])⟩,
 ⟨some 32, none, .inl (.mv (.t 35))⟩,
 ⟨some 36, none, .inl (.ext 0 (.t 32))⟩,
 ⟨some 37, none, .inl (.ext 1 (.t 32))⟩,
 ⟨some 38, none, .inl (.ext 2 (.t 32))⟩,
 ⟨some 14, none, .inl (.mv (.t 36))⟩,
 ⟨some 15, none, .inl (.mv (.t 37))⟩,
 ⟨some 16, none, .inl (.mv (.t 38))⟩])
 (.keep [1, 2, 4, 9, 11, 12, 13, 14, 15, 16]))
 (.seq (.seq (.reg [⟨some 39, none, .inl (.mv (.t 11))⟩,
 ⟨some 40, none, .inl (.b2s (.t 39))⟩,
 ⟨some 41, none, .inl (.mv (.t 14))⟩,
 ⟨some 42, none, .inl (.b2s (.t 41))⟩,
 ⟨some 43, none, .inl (.bins .eql (.t 40) (.t 42))⟩,
 ⟨some 44, none, .inl (.mv (.t 43))⟩,
 ⟨some 45, (some (44, true)), .inl (.mv (.t 12))⟩,
 ⟨some 46, (some (44, true)), .inl (.b2s (.t 45))⟩,
 ⟨some 47, (some (44, true)), .inl (.mv (.t 15))⟩,
 ⟨some 48, (some (44, true)), .inl (.b2s (.t 47))⟩,
 ⟨some 49, (some (44, true)), .inl (.bins .eql (.t 46) (.t 48))⟩,
 ⟨some 50, none, .inl (.pick (.t 44) (.t 49) (.c (.bool false)))⟩,
 ⟨some 17, none, .inl (.mv (.t 50))⟩])
 (.keep [1, 2, 4, 9, 11, 12, 13, 16, 17]))
 (.seq (.seq (.reg [⟨some 51, none, .inl (.mv (.t 11))⟩,
 ⟨some 52, none, .inl (.mv (.t 12))⟩,
 ⟨some 53, none, .inr (.bslice 1 [.nils] 2 [(0, (.t 51)), (1, (.t 52))])⟩,
 ⟨some 54, none, .inr (.call 13 [(.t 53)])⟩,
 ⟨some 18, none, .inl (.mv (.t 54))⟩])
 (.keep [1, 2, 4, 9, 13, 16, 17, 18]))
 (.seq (.seq (.ord [⟨0, ⟨some 55, none, .inl (.mv (.t 9))⟩, [], false⟩,
 ⟨1, ⟨some 56, none, .inl (.mv (.t 55))⟩, [], false⟩,
 ⟨2, ⟨some 57, (some (56, true)), .inl (.mv (.t 17))⟩, [], false⟩,
 ⟨3, ⟨some 58, none, .inl (.pick (.t 56) (.t 57) (.c (.bool false)))⟩, [], false⟩,
 ⟨4, ⟨some 59, none, .inl (.mv (.t 58))⟩, [], false⟩,
 ⟨5, ⟨some 60, (some (59, true)), .inl (.mv (.t 18))⟩, [], false⟩,
 ⟨6, ⟨some 61, none, .inl (.pick (.t 59) (.t 60) (.c (.bool false)))⟩, [], false⟩,
 ⟨7, ⟨some 62, none, .inl (.mv (.t 61))⟩, [], false⟩,
 ⟨8, ⟨some 63, (some (62, true)), .inl (.mv (.t 13))⟩, [], false⟩,
 ⟨9, ⟨some 64, (some (62, true)), .inl (.mv (.t 16))⟩, [], false⟩,
 ⟨10, ⟨some 65, (some (62, true)), .inl (.bin .eql (.t 63) (.t 64))⟩, [], false⟩,
 ⟨11, ⟨some 66, none, .inl (.pick (.t 62) (.t 65) (.c (.bool false)))⟩, [], false⟩,
 ⟨12, ⟨some 67, none, .inl (.mv (.t 66))⟩, [], false⟩,
 ⟨13, ⟨some 68, (some (67, true)), .inl (.load true 3 (.t 4))⟩, [], false⟩,
 ⟨14, ⟨some 69, (some (67, true)), .inl (.mv (.t 1))⟩, [], false⟩,
 ⟨16, ⟨some 71, (some (67, true)), .inl (.load true 3 (.t 4))⟩, [], true⟩,
 ⟨17, ⟨some 72, (some (67, true)), .inl (.mv (.t 1))⟩, [], true⟩,
 ⟨15, ⟨some 70, (some (67, true)), .inr (.call 14 [(.t 68), (.t 69)])⟩, [16, 17], false⟩,
 ⟨18, ⟨some 73, (some (67, true)), .inr (.call 15 [(.t 71), (.t 72)])⟩, [], false⟩,
 ⟨19, ⟨some 74, (some (67, true)), .inl (.binb .eql (.t 70) (.t 73))⟩, [], false⟩,
 ⟨20, ⟨some 75, none, .inl (.pick (.t 67) (.t 74) (.c (.bool false)))⟩, [], false⟩,
 ⟨21, ⟨some 76, none, .inl (.mv (.t 75))⟩, [], false⟩,
 ⟨22, ⟨some 77, (some (76, true)), .inl (.load true 3 (.t 4))⟩, [], false⟩,
 ⟨23, ⟨some 78, (some (76, true)), .inl (.mv (.t 2))⟩, [], false⟩,
 ⟨25, ⟨some 80, (some (76, true)), .inl (.load true 3 (.t 4))⟩, [], true⟩,
 ⟨26, ⟨some 81, (some (76, true)), .inl (.mv (.t 2))⟩, [], true⟩,
 ⟨24, ⟨some 79, (some (76, true)), .inr (.call 16 [(.t 77), (.t 78)])⟩, [25, 26], false⟩,
 ⟨27, ⟨some 82, (some (76, true)), .inr (.call 17 [(.t 80), (.t 81)])⟩, [], false⟩,
 ⟨28, ⟨some 83, (some (76, true)), .inl (.binb .eql (.t 79) (.t 82))⟩, [], false⟩,
 ⟨29, ⟨some 84, none, .inl (.pick (.t 76) (.t 83) (.c (.bool false)))⟩, [], false⟩,
 ⟨30, ⟨some 8, none, .inl (.mv (.t 84))⟩, [], false⟩])
 (.keep [8]))
 (.ret)))))))))
def fc_joistlaw05_WalCodes : FC := ⟨85, cmd_joistlaw05_WalCodes, [.t 8]⟩
theorem fc_joistlaw05_WalCodes_ok : compF Try.prog 3 [[1, 2, 3, 4], [1, 2, 3, 4, 9], [1, 2, 3, 4, 9, 10], [1, 2, 3, 4, 9, 23], [8], [1, 2, 3, 4, 9, 11, 12, 13], [1, 2, 4, 9, 11, 12, 13, 14, 15, 16], [1, 2, 4, 9, 11, 12, 13, 16, 17], [1, 2, 4, 9, 13, 16, 17, 18], [8], [0, 1, 2, 3, 4, 5, 6, 7, 8, 9, 10, 11, 12, 13, 14, 16, 17, 15, 18, 19, 20, 21, 22, 23, 25, 26, 24, 27, 28, 29, 30]] = some fc_joistlaw05_WalCodes := by kernel_rfl
/-- joist/joistlaw05.WalRooms -/
abbrev F.joistlaw05_WalRooms : Nat := 4
def cmd_joistlaw05_WalRooms : Cmd :=
  .seq (.seq (.reg [⟨some 2, none, .inr (.box 3 (.t 0))⟩,
 ⟨some 4, none, .inl (.mv (.c (.bool false)))⟩])
 (.keep [1, 2]))
 (.seq (.seq (.reg [⟨some 10, none, .inr (.call 9 [])⟩,
 ⟨some 5, none, .inl (.mv (.t 10))⟩])
 (.keep [1, 2, 5]))
 (.seq (.seq (.reg [⟨some 11, none, .inl (.mv (.t 1))⟩,
 ⟨some 12, none, .inr (.call 10 [(.t 11)])⟩,
 ⟨some 6, none, .inl (.mv (.t 12))⟩])
 (.keep [1, 2, 5, 6]))
 (.seq (.seq (.reg [⟨some 14, none, .inl (.load true 3 (.t 2))⟩,
 ⟨some 15, none, .inl (.mv (.t 1))⟩,
 ⟨some 16, none, .inr (.call 11 [(.t 14), (.t 15)])⟩,
 ⟨some 13, none, .inl (.mv (.t 16))⟩,
 ⟨some 17, none, .inl (.ext 0 (.t 13))⟩,
 ⟨some 18, none, .inl (.ext 1 (.t 13))⟩,
 ⟨some 19, none, .inl (.ext 2 (.t 13))⟩,
 ⟨some 7, none, .inl (.mv (.t 17))⟩,
 ⟨some 8, none, .inl (.mv (.t 18))⟩,
 ⟨some 9, none, .inl (.mv (.t 19))⟩])
 (.keep [1, 2, 5, 6, 9]))
 (.seq (.seq (.seq (.reg [⟨some 20, none, .inl (.mv (.t 6))⟩,
 ⟨some 21, none, .inl (.un .not (.t 20))⟩,
 ⟨some 22, none, .inl (.mv (.t 21))⟩,
 ⟨some 23, (some (22, false)), .inl (.mv (.t 9))⟩,
 ⟨some 24, (some (22, false)), .inl (.bin .eql (.t 23) (.c (.int .i64 1)))⟩,
 ⟨some 25, none, .inl (.pick (.t 22) (.c (.bool true)) (.t 24))⟩])
 (.keep [1, 2, 5, 9, 25]))
 (.cond (.t 25)
 (.seq (.seq (.reg [⟨some 26, none, .inl (.mv (.t 5))⟩,
 ⟨some 4, none, .inl (.mv (.t 26))⟩])
 (.keep [4]))
 (.ret))
 (.skip)))
 (.seq (.seq (.reg [⟨some 27, none, .inl (.mv (.t 5))⟩,
 ⟨some 28, none, .inl (.mv (.t 27))⟩,
 ⟨some 29, (some (28, true)), .inl (.mv (.t 9))⟩,
 ⟨some 30, (some (28, true)), .inl (.bin .eql (.t 29) (.c (.int .i64 6)))⟩,
 ⟨some 31, (some (28, true)), .inl (.mv (.t 1))⟩,
 ⟨some 32, (some (28, true)), .inl (.len (.t 31))⟩,
 ⟨some 33, (some (28, true)), .inl (.faddr 2 (.t 2))⟩,
 ⟨some 34, (some (28, true)), .inl (.load false 1 (.t 33))⟩,
 ⟨some 35, (some (28, true)), .inl (.bin .gtr (.t 32) (.t 34))⟩,
 ⟨some 36, (some (28, true)), .inl (.binb .eql (.t 30) (.t 35))⟩,
 ⟨some 37, none, .inl (.pick (.t 28) (.t 36) (.c (.bool false)))⟩,
 ⟨some 38, none, .inl (.mv (.t 37))⟩,
 ⟨some 39, (some (38, true)), .inl (.mv (.t 9))⟩,
 ⟨some 40, (some (38, true)), .inl (.bin .eql (.t 39) (.c (.int .i64 0)))⟩,
 ⟨some 41, (some (38, true)), .inl (.mv (.t 1))⟩,
 ⟨some 42, (some (38, true)), .inl (.len (.t 41))⟩,
 ⟨some 43, (some (38, true)), .inl (.faddr 2 (.t 2))⟩,
 ⟨some 44, (some (38, true)), .inl (.load false 1 (.t 43))⟩,
 ⟨some 45, (some (38, true)), .inl (.bin .leq (.t 42) (.t 44))⟩,
 ⟨some 46, (some (38, true)), .inl (.binb .eql (.t 40) (.t 45))⟩,
 ⟨some 47, none, .inl (.pick (.t 38) (.t 46) (.c (.bool false)))⟩,
 ⟨some 4, none, .inl (.mv (.t 47))⟩])
 (.keep [4]))
 (.ret))))))
def fc_joistlaw05_WalRooms : FC := ⟨48, cmd_joistlaw05_WalRooms, [.t 4]⟩
theorem fc_joistlaw05_WalRooms_ok : compF Try.prog 4 [[1, 2], [1, 2, 5], [1, 2, 5, 6], [1, 2, 5, 6, 9], [1, 2, 5, 9, 25], [4], [4]] = some fc_joistlaw05_WalRooms := by kernel_rfl
/-- joist/joistlaw05.WalCounts -/
abbrev F.joistlaw05_WalCounts : Nat := 5
def cmd_joistlaw05_WalCounts : Cmd :=
  .seq (.seq (.reg [⟨some 5, none, .inr (.box 3 (.t 1))⟩,
 ⟨some 8, none, .inl (.mv (.c (.bool false)))⟩])
 (.keep [0, 2, 3, 5]))
 (.seq (.seq (.reg [⟨some 19, none, .inr (.call 9 [])⟩,
 ⟨some 9, none, .inl (.mv (.t 19))⟩])
 (.keep [0, 2, 3, 5, 9]))
 (.seq (.seq (.reg [⟨some 20, none, .inl (.mv (.t 2))⟩,
 ⟨some 21, none, .inr (.call 10 [(.t 20)])⟩,
 ⟨some 10, none, .inl (.mv (.t 21))⟩])
 (.keep [0, 2, 3, 5, 9, 10]))
 (.seq (.seq (.reg [⟨some 22, none, .inl (.mv (.t 0))⟩,
 ⟨some 23, none, .inl (.len (.t 22))⟩,
 ⟨some 24, none, .inl (.bin .quo (.t 23) (.c (.int .i64 64)))⟩,
 ⟨some 11, none, .inl (.mv (.t 24))⟩])
 (.keep [0, 2, 3, 5, 9, 10, 11]))
 (.seq (.seq (.seq (.reg [⟨some 25, none, .inl (.mv (.t 10))⟩,
 ⟨some 26, none, .inl (.un .not (.t 25))⟩,
 ⟨some 27, none, .inl (.mv (.t 26))⟩,
 ⟨some 28, (some (27, false)), .inl (.mv (.t 0))⟩,
 ⟨some 29, (some (27, false)), .inl (.len (.t 28))⟩,
 ⟨some 30, (some (27, false)), .inl (.bin .gtr (.t 29) (.c (.int .i64 4096)))⟩,
 ⟨some 31, none, .inl (.pick (.t 27) (.c (.bool true)) (.t 30))⟩,
 ⟨some 32, none, .inl (.mv (.t 31))⟩,
 ⟨some 33, (some (32, false)), .inl (.mv (.t 0))⟩,
 ⟨some 34, (some (32, false)), .inl (.len (.t 33))⟩,
 ⟨some 35, (some (32, false)), .inl (.bin .rem (.t 34) (.c (.int .i64 64)))⟩,
 ⟨some 36, (some (32, false)), .inl (.bin .neq (.t 35) (.c (.int .i64 0)))⟩,
 ⟨some 37, none, .inl (.pick (.t 32) (.c (.bool true)) (.t 36))⟩,
 ⟨some 38, none, .inl (.mv (.t 37))⟩,
 ⟨some 39, (some (38, false)), .inl (.load true 3 (.t 5))⟩,
 ⟨some 40, (some (38, false)), .inl (.mv (.t 11))⟩,
 ⟨some 41, (some (38, false)), .inr (.call 15 [(.t 39), (.t 40)])⟩,
 ⟨some 42, (some (38, false)), .inl (.un .not (.t 41))⟩,
 ⟨some 43, none, .inl (.pick (.t 38) (.c (.bool true)) (.t 42))⟩,
 ⟨some 44, none, .inl (.mv (.t 43))⟩,
 ⟨some 45, (some (44, false)), .inl (.mv (.t 11))⟩,
 ⟨some 46, (some (44, false)), .inl (.mv (.t 2))⟩,
 ⟨some 47, (some (44, false)), .inr (.call 18 [(.t 45), (.t 46)])⟩,
 ⟨some 48, (some (44, false)), .inl (.un .not (.t 47))⟩,
 ⟨some 49, none, .inl (.pick (.t 44) (.c (.bool true)) (.t 48))⟩,
 ⟨some 50, none, .inl (.mv (.t 49))⟩,
 ⟨some 51, (some (50, false)), .inl (.mv (.t 2))⟩,
 ⟨some 52, (some (50, false)), .inl (.len (.t 51))⟩,
 ⟨some 53, (some (50, false)), .inl (.bin .eql (.t 52) (.c (.int .i64 0)))⟩,
 ⟨some 54, none, .inl (.pick (.t 50) (.c (.bool true)) (.t 53))⟩])
 (.keep [0, 2, 3, 5, 9, 54]))
 (.cond (.t 54)
 (.seq (.seq (.reg [⟨some 55, none, .inl (.mv (.t 9))⟩,
 ⟨some 8, none, .inl (.mv (.t 55))⟩])
 (.keep [8]))
 (.ret))
 (.skip)))
 (.seq (.seq (.reg [⟨some 57, none, .inl (.load true 3 (.t 5))⟩,
 ⟨some 58, none, .inl (.mv (.t 2))⟩,
 ⟨some 59, none, .inr (.call 11 [(.t 57), (.t 58)])⟩,
 ⟨some 56, none, .inl (.mv (.t 59))⟩,
 ⟨some 60, none, .inl (.ext 0 (.t 56))⟩,
 ⟨some 61, none, .inl (.ext 1 (.t 56))⟩,
 ⟨some 62, none, .inl (.ext 2 (.t 56))⟩,
 ⟨some 12, none, .inl (.mv (.t 60))⟩,
 ⟨some 13, none, .inl (.mv (.t 61))⟩,
 ⟨some 14, none, .inl (.mv (.t 62))⟩])
 (.keep [0, 2, 3, 5, 9, 14]))
 (.seq (.seq (.reg [⟨some 64, none, .inl (.mv (.t 0))⟩,
 ⟨some 65, none, .inr (.call 19 [(.t 64)])⟩,
 ⟨some 63, none, .inl (.mv (.t 65))⟩,
 ⟨some 66, none, .inl (.ext 0 (.t 63))⟩,
 ⟨some 67, none, .inl (.ext 1 (.t 63))⟩,
 ⟨some 15, none, .inl (.mv (.t 66))⟩,
 ⟨some 16, none, .inl (.mv (.t 67))⟩])
 (.keep [2, 3, 5, 9, 14, 15, 16]))
 (.seq (.seq (.seq (.reg [⟨some 68, none, .inl (.mv (.t 9))⟩,
 ⟨some 69, none, .inl (.un .not (.t 68))⟩,
 ⟨some 70, none, .inl (.mv (.t 69))⟩,
 ⟨some 71, (some (70, false)), .inl (.mv (.t 16))⟩,
 ⟨some 72, (some (70, false)), .inl (.bin .neq (.t 71) (.c (.int .i64 0)))⟩,
 ⟨some 73, none, .inl (.pick (.t 70) (.c (.bool true)) (.t 72))⟩,
 ⟨some 74, none, .inl (.mv (.t 73))⟩,
 ⟨some 75, (some (74, false)), .inl (.mv (.t 15))⟩,
 ⟨some 76, (some (74, false)), .inl (.eqnilp false (.t 75))⟩,
 ⟨some 77, none, .inl (.pick (.t 74) (.c (.bool true)) (.t 76))⟩,
 ⟨some 78, none, .inl (.mv (.t 77))⟩,
 ⟨some 79, (some (78, false)), .inl (.mv (.t 14))⟩,
 ⟨some 80, (some (78, false)), .inl (.bin .neq (.t 79) (.c (.int .i64 0)))⟩,
 ⟨some 81, none, .inl (.pick (.t 78) (.c (.bool true)) (.t 80))⟩])
 (.keep [2, 3, 5, 9, 15, 16, 81]))
 (.cond (.t 81)
 (.seq (.seq (.reg [⟨some 82, none, .inl (.mv (.t 9))⟩,
 ⟨some 83, none, .inl (.mv (.t 82))⟩,
 ⟨some 84, (some (83, true)), .inl (.mv (.t 16))⟩,
 ⟨some 85, (some (83, true)), .inl (.bin .neq (.t 84) (.c (.int .i64 0)))⟩,
 ⟨some 86, (some (83, true)), .inl (.mv (.t 15))⟩,
 ⟨some 87, (some (83, true)), .inl (.eqnilp false (.t 86))⟩,
 ⟨some 88, (some (83, true)), .inl (.binb .eql (.t 85) (.t 87))⟩,
 ⟨some 89, none, .inl (.pick (.t 83) (.t 88) (.c (.bool false)))⟩,
 ⟨some 8, none, .inl (.mv (.t 89))⟩])
 (.keep [8]))
 (.ret))
 (.skip)))
 (.seq (.seq (.reg [⟨some 90, none, .inl (.mv (.t 15))⟩,
 ⟨some 91, none, .inl (.mv (.t 3))⟩,
 ⟨some 92, none, .inr (.call 20 [(.t 90), (.t 91)])⟩])
 (.keep [2, 3, 5, 15]))
 (.seq (.seq (.reg [⟨some 93, none, .inl (.mv (.t 15))⟩,
 ⟨some 94, none, .inl (.load true 3 (.t 5))⟩,
 ⟨some 95, none, .inl (.mv (.t 2))⟩,
 ⟨some 96, none, .inr (.call 21 [(.t 93), (.t 94), (.t 95)])⟩,
 ⟨some 17, none, .inl (.mv (.t 96))⟩])
 (.keep [2, 3, 15, 17]))
 (.seq (.seq (.reg [⟨some 97, none, .inl (.mv (.t 3))⟩,
 ⟨some 98, none, .inl (.bin .geq (.t 97) (.c (.int .i64 1)))⟩,
 ⟨some 99, none, .inl (.mv (.t 98))⟩,
 ⟨some 100, (some (99, true)), .inl (.mv (.t 3))⟩,
 ⟨some 101, (some (99, true)), .inl (.mv (.t 2))⟩,
 ⟨some 102, (some (99, true)), .inl (.len (.t 101))⟩,
 ⟨some 103, (some (99, true)), .inl (.bin .mul (.c (.int .i64 2)) (.t 102))⟩,
 ⟨some 104, (some (99, true)), .inl (.bin .add (.c (.int .i64 10)) (.t 103))⟩,
 ⟨some 105, (some (99, true)), .inl (.bin .leq (.t 100) (.t 104))⟩,
 ⟨some 106, none, .inl (.pick (.t 99) (.t 105) (.c (.bool false)))⟩,
 ⟨some 18, none, .inl (.mv (.t 106))⟩])
 (.keep [15, 17, 18]))
 (.seq (.seq (.reg [⟨some 107, none, .inl (.mv (.t 18))⟩,
 ⟨some 108, none, .inl (.mv (.t 17))⟩,
 ⟨some 109, none, .inl (.bin .eql (.t 108) (.c (.int .i64 5)))⟩,
 ⟨some 110, none, .inl (.binb .eql (.t 107) (.t 109))⟩,
 ⟨some 111, none, .inl (.mv (.t 110))⟩,
 ⟨some 112, (some (111, true)), .inl (.mv (.t 18))⟩,
 ⟨some 113, (some (111, true)), .inl (.mv (.t 15))⟩,
 ⟨some 114, (some (111, true)), .inr (.call 22 [(.t 113)])⟩,
 ⟨some 115, (some (111, true)), .inl (.binb .eql (.t 112) (.t 114))⟩,
 ⟨some 116, none, .inl (.pick (.t 111) (.t 115) (.c (.bool false)))⟩,
 ⟨some 117, none, .inl (.mv (.t 116))⟩,
 ⟨some 118, (some (117, true)), .inl (.mv (.t 18))⟩,
 ⟨some 119, (some (117, true)), .inl (.mv (.t 118))⟩,
 ⟨some 120, (some (119, false)), .inl (.mv (.t 17))⟩,
 ⟨some 121, (some (119, false)), .inl (.bin .eql (.t 120) (.c (.int .i64 0)))⟩,
 ⟨some 122, (some (117, true)), .inl (.pick (.t 119) (.c (.bool true)) (.t 121))⟩,
 ⟨some 123, none, .inl (.pick (.t 117) (.t 122) (.c (.bool false)))⟩,
 ⟨some 8, none, .inl (.mv (.t 123))⟩])
 (.keep [8]))
 (.ret))))))))))))
def fc_joistlaw05_WalCounts : FC := ⟨124, cmd_joistlaw05_WalCounts, [.t 8]⟩
theorem fc_joistlaw05_WalCounts_ok : compF Try.prog 5 [[0, 2, 3, 5], [0, 2, 3, 5, 9], [0, 2, 3, 5, 9, 10], [0, 2, 3, 5, 9, 10, 11], [0, 2, 3, 5, 9, 54], [8], [0, 2, 3, 5, 9, 14], [2, 3, 5, 9, 14, 15, 16], [2, 3, 5, 9, 15, 16, 81], [8], [2, 3, 5, 15], [2, 3, 15, 17], [15, 17, 18], [8]] = some fc_joistlaw05_WalCounts := by kernel_rfl
/-- joist/joistlaw05.WalReads -/
abbrev F.joistlaw05_WalReads : Nat := 6
def cmd_joistlaw05_WalReads : Cmd :=
  .seq (.seq (.reg [⟨some 2, none, .inr (.box 3 (.t 0))⟩,
 ⟨some 4, none, .inl (.mv (.c (.bool false)))⟩])
 (.keep [1, 2]))
 (.seq (.seq (.reg [⟨some 13, none, .inr (.call 9 [])⟩,
 ⟨some 5, none, .inl (.mv (.t 13))⟩])
 (.keep [1, 2, 5]))
 (.seq (.seq (.seq (.reg [⟨some 14, none, .inl (.mv (.t 1))⟩,
 ⟨some 15, none, .inl (.len (.t 14))⟩,
 ⟨some 16, none, .inl (.bin .gtr (.t 15) (.c (.int .i64 8192)))⟩])
 (.keep [1, 2, 5, 16]))
 (.cond (.t 16)
 (.seq (.seq (.reg [⟨some 17, none, .inl (.mv (.t 5))⟩,
 ⟨some 4, none, .inl (.mv (.t 17))⟩])
 (.keep [4]))
 (.ret))
 (.skip)))
 (.seq (.seq (.reg [⟨some 18, none, .inl (.mv (.t 1))⟩,
 ⟨some 19, none, .inr (.call 23 [(.t 18)])⟩,
 ⟨some 6, none, .inl (.mv (.t 19))⟩])
 (.keep [1, 2, 5, 6]))
 (.seq (.seq (.reg [⟨some 21, none, .inl (.load true 3 (.t 2))⟩,
 ⟨some 22, none, .inl (.mv (.t 6))⟩,
 ⟨some 23, none, .inr (.call 24 [(.t 21), (.t 22)])⟩,
 ⟨some 20, none, .inl (.mv (.t 23))⟩,
 ⟨some 24, none, .inl (.ext 0 (.t 20))⟩,
 ⟨some 25, none, .inl (.ext 1 (.t 20))⟩,
 ⟨some 7, none, .inl (.mv (.t 24))⟩,
 ⟨some 8, none, .inl (.mv (.t 25))⟩])
 (.keep [1, 2, 5, 6, 7, 8]))
 (.seq (.seq (.reg [⟨some 26, none, .inl (.mv (.t 6))⟩,
 ⟨some 27, none, .inl (.mv (.t 1))⟩,
 ⟨some 28, none, .inr (.call 25 [(.t 26), (.t 27)])⟩,
 ⟨some 9, none, .inl (.mv (.t 28))⟩])
 (.keep [1, 2, 5, 6, 7, 8, 9]))
 (.seq (.seq (.reg [⟨some 30, none, .inl (.load true 3 (.t 2))⟩,
 ⟨some 31, none, .inl (.mv (.t 1))⟩,
 ⟨some 32, none, .inr (.call 26 [(.t 30), (.t 31)])⟩,
 ⟨some 29, none, .inl (.mv (.t 32))⟩,
 ⟨some 33, none, .inl (.ext 0 (.t 29))⟩,
 ⟨some 34, none, .inl (.ext 1 (.t 29))⟩,
 ⟨some 10, none, .inl (.mv (.t 33))⟩,
 ⟨some 11, none, .inl (.mv (.t 34))⟩])
 (.keep [1, 5, 6, 7, 8, 9, 10, 11]))
 (.seq (.seq (.reg [⟨some 35, none, .inl (.mv (.t 7))⟩,
 ⟨some 36, none, .inl (.mv (.t 10))⟩,
 ⟨some 37, none, .inr (.call 27 [(.t 35), (.t 36)])⟩,
 ⟨some 12, none, .inl (.mv (.t 37))⟩])
 (.keep [1, 5, 6, 7, 8, 9, 11, 12]))
 (.seq (.seq (.reg [⟨some 38, none, .inl (.mv (.t 7))⟩,
 ⟨some 39, none, .inr (.call 28 [(.t 38)])⟩])
 (.keep [1, 5, 6, 8, 9, 11, 12]))
 (.seq (.seq (.reg [⟨some 40, none, .inl (.mv (.t 5))⟩,
 ⟨some 41, none, .inl (.mv (.t 40))⟩,
 ⟨some 42, (some (41, true)), .inl (.mv (.t 9))⟩,
 ⟨some 43, none, .inl (.pick (.t 41) (.t 42) (.c (.bool false)))⟩,
 ⟨some 44, none, .inl (.mv (.t 43))⟩,
 ⟨some 45, (some (44, true)), .inl (.mv (.t 12))⟩,
 ⟨some 46, none, .inl (.pick (.t 44) (.t 45) (.c (.bool false)))⟩,
 ⟨some 47, none, .inl (.mv (.t 46))⟩,
 ⟨some 48, (some (47, true)), .inl (.mv (.t 8))⟩,
 ⟨some 49, (some (47, true)), .inl (.mv (.t 11))⟩,
 ⟨some 50, (some (47, true)), .inl (.bin .eql (.t 48) (.t 49))⟩,
 ⟨some 51, none, .inl (.pick (.t 47) (.t 50) (.c (.bool false)))⟩,
 ⟨some 52, none, .inl (.mv (.t 51))⟩,
 ⟨some 53, (some (52, true)), .inl (.mv (.t 6))⟩,
 ⟨some 54, (some (52, true)), .inl (.mv (.t 1))⟩,
 ⟨some 55, (some (52, true)), .inr (.call 25 [(.t 53), (.t 54)])⟩,
 ⟨some 56, none, .inl (.pick (.t 52) (.t 55) (.c (.bool false)))⟩,
 ⟨some 4, none, .inl (.mv (.t 56))⟩])
 (.keep [4]))
 (.ret))))))))))
def fc_joistlaw05_WalReads : FC := ⟨57, cmd_joistlaw05_WalReads, [.t 4]⟩
theorem fc_joistlaw05_WalReads_ok : compF Try.prog 6 [[1, 2], [1, 2, 5], [1, 2, 5, 16], [4], [1, 2, 5, 6], [1, 2, 5, 6, 7, 8], [1, 2, 5, 6, 7, 8, 9], [1, 5, 6, 7, 8, 9, 10, 11], [1, 5, 6, 7, 8, 9, 11, 12], [1, 5, 6, 8, 9, 11, 12], [4]] = some fc_joistlaw05_WalReads := by kernel_rfl
/-- joist/joistlaw05.WalBack -/
abbrev F.joistlaw05_WalBack : Nat := 7
def cmd_joistlaw05_WalBack : Cmd :=
  .seq (.seq (.reg [⟨some 4, none, .inr (.box 3 (.t 1))⟩,
 ⟨some 6, none, .inl (.mv (.c (.bool false)))⟩])
 (.keep [0, 2, 4]))
 (.seq (.seq (.reg [⟨some 21, none, .inr (.call 9 [])⟩,
 ⟨some 7, none, .inl (.mv (.t 21))⟩])
 (.keep [0, 2, 4, 7]))
 (.seq (.seq (.reg [⟨some 22, none, .inl (.mv (.t 2))⟩,
 ⟨some 23, none, .inr (.call 10 [(.t 22)])⟩,
 ⟨some 8, none, .inl (.mv (.t 23))⟩])
 (.keep [0, 2, 4, 7, 8]))
 (.seq (.seq (.seq (.reg [⟨some 24, none, .inl (.mv (.t 8))⟩,
 ⟨some 25, none, .inl (.un .not (.t 24))⟩,
 ⟨some 26, none, .inl (.mv (.t 25))⟩,
 ⟨some 27, (some (26, false)), .inl (.mv (.t 0))⟩,
 ⟨some 28, (some (26, false)), .inl (.len (.t 27))⟩,
 ⟨some 29, (some (26, false)), .inl (.bin .gtr (.t 28) (.c (.int .i64 8192)))⟩,
 ⟨some 30, none, .inl (.pick (.t 26) (.c (.bool true)) (.t 29))⟩,
 ⟨some 31, none, .inl (.mv (.t 30))⟩,
 ⟨some 32, (some (31, false)), .inl (.mv (.t 0))⟩,
 ⟨some 33, (some (31, false)), .inl (.len (.t 32))⟩,
 ⟨some 34, (some (31, false)), .inl (.bin .rem (.t 33) (.c (.int .i64 64)))⟩,
 ⟨some 35, (some (31, false)), .inl (.bin .neq (.t 34) (.c (.int .i64 0)))⟩,
 ⟨some 36, none, .inl (.pick (.t 31) (.c (.bool true)) (.t 35))⟩])
 (.keep [0, 2, 4, 7, 36]))
 (.cond (.t 36)
 (.seq (.seq (.reg [⟨some 37, none, .inl (.mv (.t 7))⟩,
 ⟨some 6, none, .inl (.mv (.t 37))⟩])
 (.keep [6]))
 (.ret))
 (.skip)))
 (.seq (.seq (.reg [⟨some 38, none, .inl (.mv (.t 0))⟩,
 ⟨some 39, none, .inl (.len (.t 38))⟩,
 ⟨some 40, none, .inl (.bin .quo (.t 39) (.c (.int .i64 64)))⟩,
 ⟨some 9, none, .inl (.mv (.t 40))⟩])
 (.keep [0, 2, 4, 7, 9]))
 (.seq (.seq (.reg [⟨some 42, none, .inl (.load true 3 (.t 4))⟩,
 ⟨some 43, none, .inl (.mv (.t 2))⟩,
 ⟨some 44, none, .inr (.call 11 [(.t 42), (.t 43)])⟩,
 ⟨some 41, none, .inl (.mv (.t 44))⟩,
 ⟨some 45, none, .inl (.ext 0 (.t 41))⟩,
 ⟨some 46, none, .inl (.ext 1 (.t 41))⟩,
 ⟨some 47, none, .inl (.ext 2 (.t 41))⟩,
 ⟨some 10, none, .inl (.mv (.t 45))⟩,
 ⟨some 11, none, .inl (.mv (.t 46))⟩,
 ⟨some 12, none, .inl (.mv (.t 47))⟩])
 (.keep [0, 2, 4, 7, 9, 10, 11, 12]))
 (.seq (.seq (.seq (.reg [⟨some 48, none, .inl (.mv (.t 12))⟩,
 ⟨some 49, none, .inl (.bin .neq (.t 48) (.c (.int .i64 0)))⟩,
 ⟨some 50, none, .inl (.mv (.t 49))⟩,
 ⟨some 51, (some (50, false)), .inl (.load true 3 (.t 4))⟩,
 ⟨some 52, (some (50, false)), .inl (.mv (.t 9))⟩,
 ⟨some 53, (some (50, false)), .inr (.call 14 [(.t 51), (.t 52)])⟩,
 ⟨some 54, (some (50, false)), .inl (.un .not (.t 53))⟩,
 ⟨some 55, none, .inl (.pick (.t 50) (.c (.bool true)) (.t 54))⟩,
 ⟨some 56, none, .inl (.mv (.t 55))⟩,
 ⟨some 57, (some (56, false)), .inl (.mv (.t 9))⟩,
 ⟨some 58, (some (56, false)), .inl (.mv (.t 2))⟩,
 ⟨some 59, (some (56, false)), .inr (.call 18 [(.t 57), (.t 58)])⟩,
 ⟨some 60, (some (56, false)), .inl (.un .not (.t 59))⟩,
 ⟨some 61, none, .inl (.pick (.t 56) (.c (.bool true)) (.t 60))⟩,
 ⟨some 62, none, .inl (.mv (.t 61))⟩,
 ⟨some 63, (some (62, false)), .inl (.mv (.t 10))⟩,
 ⟨some 64, (some (62, false)), .inl (.len (.t 63))⟩,
 ⟨some 65, (some (62, false)), .inl (.mv (.t 0))⟩,
 ⟨some 66, (some (62, false)), .inl (.len (.t 65))⟩,
 ⟨some 67, (some (62, false)), .inl (.faddr 1 (.t 4))⟩,
 ⟨some 68, (some (62, false)), .inl (.load false 1 (.t 67))⟩,
 ⟨some 69, (some (62, false)), .inl (.bin .mul (.c (.int .i64 64)) (.t 68))⟩,
 ⟨some 70, (some (62, false)), .inl (.bin .sub (.t 66) (.t 69))⟩,
 ⟨some 71, (some (62, false)), .inl (.bin .gtr (.t 64) (.t 70))⟩,
 ⟨some 72, none, .inl (.pick (.t 62) (.c (.bool true)) (.t 71))⟩])
 (.keep [0, 2, 4, 7, 9, 10, 11, 72]))
 (.cond (.t 72)
 (.seq (.seq (.reg [⟨some 73, none, .inl (.mv (.t 7))⟩,
 ⟨some 6, none, .inl (.mv (.t 73))⟩])
 (.keep [6]))
 (.ret))
 (.skip)))
 (.seq (.seq (.reg [⟨some 74, none, .inr (.bslice 1 [(.int .u8 0)] 0 [])⟩,
 ⟨some 75, none, .inl (.mv (.t 0))⟩,
 ⟨some 76, none, .inr (.append 1 1 (.t 74) (.t 75))⟩,
 ⟨some 13, none, .inl (.mv (.t 76))⟩])
 (.keep [2, 4, 7, 9, 10, 11, 13]))
 (.seq (.seq (.seq (.reg [⟨some 14, none, .inl (.mv (.c (.int .i64 0)))⟩])
 (.keep [2, 4, 7, 9, 10, 11, 13, 14]))
 (.block 0 (.loop [2, 4, 7, 9, 10, 11, 13, 14] (.seq (.seq (.seq (.reg [⟨some 77, none, .inl (.mv (.t 14))⟩,
 ⟨some 78, none, .inl (.mv (.t 10))⟩,
 ⟨some 79, none, .inl (.len (.t 78))⟩,
 ⟨some 80, none, .inl (.bin .lss (.t 77) (.t 79))⟩])
 (.keep [2, 4, 7, 9, 10, 11, 13, 14, 80]))
 (.cond (.t 80)
 (.skip)
 (.exit 0)))
 (.seq (.block 1 (.seq (.ord [⟨0, ⟨some 83, none, .inl (.mv (.t 13))⟩, [], false⟩,
 ⟨1, ⟨some 84, none, .inl (.faddr 1 (.t 4))⟩, [], false⟩,
 ⟨2, ⟨some 85, none, .inl (.load false 1 (.t 84))⟩, [], false⟩,
 ⟨3, ⟨some 86, none, .inl (.bin .mul (.c (.int .i64 64)) (.t 85))⟩, [], false⟩,
 ⟨4, ⟨some 87, none, .inl (.mv (.t 14))⟩, [], false⟩,
 ⟨5, ⟨some 88, none, .inl (.bin .add (.t 86) (.t 87))⟩, [], false⟩,
 ⟨6, ⟨some 89, none, .inl (.mv (.t 10))⟩, [], false⟩,
 ⟨7, ⟨some 90, none, .inl (.mv (.t 14))⟩, [], false⟩,
 ⟨8, ⟨some 91, none, .inl (.iaddr 1 (.t 89) (.t 90))⟩, [], false⟩,
 ⟨9, ⟨some 92, none, .inl (.load false 1 (.t 91))⟩, [], false⟩,
 ⟨10, ⟨some 93, none, .inl (.iaddr 1 (.t 83) (.t 88))⟩, [], false⟩,
 ⟨11, ⟨none, none, .inr (.store 1 (.t 93) (.t 92))⟩, [], false⟩])
 (.keep [2, 4, 7, 9, 10, 11, 13, 14])))
 (.seq (.reg [⟨some 81, none, .inl (.mv (.t 14))⟩,
 ⟨some 82, none, .inl (.bin .add (.t 81) (.c (.int .i64 1)))⟩,
 ⟨some 14, none, .inl (.mv (.t 82))⟩])
 (.keep [2, 4, 7, 9, 10, 11, 13, 14])))))))
 (.seq (.seq (.seq (.reg [⟨some 15, none, .inl (.mv (.c (.int .i64 0)))⟩])
 (.keep [2, 4, 7, 9, 11, 13, 15]))
 (.block 2 (.loop [2, 4, 7, 9, 11, 13, 15] (.seq (.seq (.seq (.reg [⟨some 94, none, .inl (.mv (.t 15))⟩,
 ⟨some 95, none, .inl (.bin .lss (.t 94) (.c (.int .i64 64)))⟩,
 ⟨some 96, none, .inl (.mv (.t 95))⟩,
 ⟨some 97, (some (96, true)), .inl (.mv (.t 15))⟩,
 ⟨some 98, (some (96, true)), .inl (.mv (.t 11))⟩,
 ⟨some 99, (some (96, true)), .inl (.len (.t 98))⟩,
 ⟨some 100, (some (96, true)), .inl (.bin .lss (.t 97) (.t 99))⟩,
 ⟨some 101, none, .inl (.pick (.t 96) (.t 100) (.c (.bool false)))⟩])
 (.keep [2, 4, 7, 9, 11, 13, 15, 101]))
 (.cond (.t 101)
 (.skip)
 (.exit 2)))
 (.seq (.block 3 (.seq (.ord [⟨0, ⟨some 104, none, .inl (.mv (.t 13))⟩, [], false⟩,
 ⟨1, ⟨some 105, none, .inl (.faddr 0 (.t 4))⟩, [], false⟩,
 ⟨2, ⟨some 106, none, .inl (.load false 1 (.t 105))⟩, [], false⟩,
 ⟨3, ⟨some 107, none, .inl (.bin .mul (.c (.int .i64 64)) (.t 106))⟩, [], false⟩,
 ⟨4, ⟨some 108, none, .inl (.mv (.t 15))⟩, [], false⟩,
 ⟨5, ⟨some 109, none, .inl (.bin .add (.t 107) (.t 108))⟩, [], false⟩,
 ⟨6, ⟨some 110, none, .inl (.mv (.t 11))⟩, [], false⟩,
 ⟨7, ⟨some 111, none, .inl (.mv (.t 15))⟩, [], false⟩,
 ⟨8, ⟨some 112, none, .inl (.iaddr 1 (.t 110) (.t 111))⟩, [], false⟩,
 ⟨9, ⟨some 113, none, .inl (.load false 1 (.t 112))⟩, [], false⟩,
 ⟨10, ⟨some 114, none, .inl (.iaddr 1 (.t 104) (.t 109))⟩, [], false⟩,
 ⟨11, ⟨none, none, .inr (.store 1 (.t 114) (.t 113))⟩, [], false⟩])
 (.keep [2, 4, 7, 9, 11, 13, 15])))
 (.seq (.reg [⟨some 102, none, .inl (.mv (.t 15))⟩,
 ⟨some 103, none, .inl (.bin .add (.t 102) (.c (.int .i64 1)))⟩,
 ⟨some 15, none, .inl (.mv (.t 103))⟩])
 (.keep [2, 4, 7, 9, 11, 13, 15])))))))
 (.seq (.seq (.reg [⟨some 116, none, .inl (.load true 3 (.t 4))⟩,
 ⟨some 117, none, .inl (.mv (.t 13))⟩,
 ⟨some 118, none, .inr (.call 24 [(.t 116), (.t 117)])⟩,
 ⟨some 115, none, .inl (.mv (.t 118))⟩,
 ⟨some 119, none, .inl (.ext 0 (.t 115))⟩,
 ⟨some 120, none, .inl (.ext 1 (.t 115))⟩,
 ⟨some 16, none, .inl (.mv (.t 119))⟩,
 ⟨some 17, none, .inl (.mv (.t 120))⟩])
 (.keep [2, 4, 7, 9, 11, 13, 16, 17]))
 (.seq (.seq (.seq (.reg [⟨some 18, none, .inl (.mv (.c (.int .i64 0)))⟩])
 (.keep [2, 4, 7, 9, 11, 13, 16, 17, 18]))
 (.block 4 (.loop [2, 4, 7, 9, 11, 13, 16, 17, 18] (.seq (.seq (.seq (.reg [⟨some 121, none, .inl (.mv (.t 18))⟩,
 ⟨some 122, none, .inl (.bin .lss (.t 121) (.c (.int .i64 64)))⟩])
 (.keep [2, 4, 7, 9, 11, 13, 16, 17, 18, 122]))
 (.cond (.t 122)
 (.skip)
 (.exit 4)))
 (.seq (.block 5 (.seq (.reg [⟨some 125, none, .inl (.mv (.t 13))⟩,
 ⟨some 126, none, .inl (.faddr 0 (.t 4))⟩,
 ⟨some 127, none, .inl (.load false 1 (.t 126))⟩,
 ⟨some 128, none, .inl (.bin .mul (.c (.int .i64 64)) (.t 127))⟩,
 ⟨some 129, none, .inl (.mv (.t 18))⟩,
 ⟨some 130, none, .inl (.bin .add (.t 128) (.t 129))⟩,
 ⟨some 131, none, .inl (.iaddr 1 (.t 125) (.t 130))⟩,
 ⟨none, none, .inr (.store 1 (.t 131) (.c (.int .u8 0)))⟩])
 (.keep [2, 4, 7, 9, 11, 13, 16, 17, 18])))
 (.seq (.reg [⟨some 123, none, .inl (.mv (.t 18))⟩,
 ⟨some 124, none, .inl (.bin .add (.t 123) (.c (.int .i64 1)))⟩,
 ⟨some 18, none, .inl (.mv (.t 124))⟩])
 (.keep [2, 4, 7, 9, 11, 13, 16, 17, 18])))))))
 (.seq (.seq (.reg [⟨some 133, none, .inl (.load true 3 (.t 4))⟩,
 ⟨some 134, none, .inl (.mv (.t 13))⟩,
 ⟨some 135, none, .inr (.call 24 [(.t 133), (.t 134)])⟩,
 ⟨some 132, none, .inl (.mv (.t 135))⟩,
 ⟨some 136, none, .inl (.ext 0 (.t 132))⟩,
 ⟨some 137, none, .inl (.ext 1 (.t 132))⟩,
 ⟨some 19, none, .inl (.mv (.t 136))⟩,
 ⟨some 20, none, .inl (.mv (.t 137))⟩])
 (.keep [2, 4, 7, 9, 11, 16, 17, 19, 20]))
 (.seq (.seq (.reg [⟨some 138, none, .inl (.mv (.t 7))⟩,
 ⟨some 139, none, .inl (.mv (.t 138))⟩,
 ⟨some 140, (some (139, true)), .inl (.mv (.t 11))⟩,
 ⟨some 141, (some (139, true)), .inl (.len (.t 140))⟩,
 ⟨some 142, (some (139, true)), .inl (.bin .eql (.t 141) (.c (.int .i64 64)))⟩,
 ⟨some 143, none, .inl (.pick (.t 139) (.t 142) (.c (.bool false)))⟩,
 ⟨some 144, none, .inl (.mv (.t 143))⟩,
 ⟨some 145, (some (144, true)), .inl (.mv (.t 17))⟩,
 ⟨some 146, (some (144, true)), .inl (.bin .eql (.t 145) (.c (.int .i64 0)))⟩,
 ⟨some 147, none, .inl (.pick (.t 144) (.t 146) (.c (.bool false)))⟩,
 ⟨some 148, none, .inl (.mv (.t 147))⟩,
 ⟨some 149, (some (148, true)), .inl (.mv (.t 16))⟩,
 ⟨some 150, (some (148, true)), .inl (.mv (.t 2))⟩,
 ⟨some 151, (some (148, true)), .inr (.call 27 [(.t 149), (.t 150)])⟩,
 ⟨some 152, none, .inl (.pick (.t 148) (.t 151) (.c (.bool false)))⟩,
 ⟨some 153, none, .inl (.mv (.t 152))⟩,
 ⟨some 154, (some (153, true)), .inl (.mv (.t 20))⟩,
 ⟨some 155, (some (153, true)), .inl (.bin .eql (.t 154) (.c (.int .i64 0)))⟩,
 ⟨some 156, none, .inl (.pick (.t 153) (.t 155) (.c (.bool false)))⟩,
 ⟨some 157, none, .inl (.mv (.t 156))⟩,
 ⟨some 158, (some (157, true)), .inl (.mv (.t 19))⟩,
 ⟨some 159, (some (157, true)), .inl (.len (.t 158))⟩,
 ⟨some 160, (some (157, true)), .inl (.bin .eql (.t 159) (.c (.int .i64 0)))⟩,
 ⟨some 161, none, .inl (.pick (.t 157) (.t 160) (.c (.bool false)))⟩,
 ⟨some 162, none, .inl (.mv (.t 161))⟩,
 ⟨some 163, (some (162, true)), .inl (.load true 3 (.t 4))⟩,
 ⟨some 164, (some (162, true)), .inl (.mv (.t 9))⟩,
 ⟨some 165, (some (162, true)), .inr (.call 15 [(.t 163), (.t 164)])⟩,
 ⟨some 166, none, .inl (.pick (.t 162) (.t 165) (.c (.bool false)))⟩,
 ⟨some 6, none, .inl (.mv (.t 166))⟩])
 (.keep [6]))
 (.ret))))))))))))))
def fc_joistlaw05_WalBack : FC := ⟨167, cmd_joistlaw05_WalBack, [.t 6]⟩
theorem fc_joistlaw05_WalBack_ok : compF Try.prog 7 [[0, 2, 4], [0, 2, 4, 7], [0, 2, 4, 7, 8], [0, 2, 4, 7, 36], [6], [0, 2, 4, 7, 9], [0, 2, 4, 7, 9, 10, 11, 12], [0, 2, 4, 7, 9, 10, 11, 72], [6], [2, 4, 7, 9, 10, 11, 13], [2, 4, 7, 9, 10, 11, 13, 14], [2, 4, 7, 9, 10, 11, 13, 14], [2, 4, 7, 9, 10, 11, 13, 14, 80], [2, 4, 7, 9, 10, 11, 13, 14], [0, 1, 2, 3, 4, 5, 6, 7, 8, 9, 10, 11], [2, 4, 7, 9, 10, 11, 13, 14], [2, 4, 7, 9, 11, 13, 15], [2, 4, 7, 9, 11, 13, 15], [2, 4, 7, 9, 11, 13, 15, 101], [2, 4, 7, 9, 11, 13, 15], [0, 1, 2, 3, 4, 5, 6, 7, 8, 9, 10, 11], [2, 4, 7, 9, 11, 13, 15], [2, 4, 7, 9, 11, 13, 16, 17], [2, 4, 7, 9, 11, 13, 16, 17, 18], [2, 4, 7, 9, 11, 13, 16, 17, 18], [2, 4, 7, 9, 11, 13, 16, 17, 18, 122], [2, 4, 7, 9, 11, 13, 16, 17, 18], [2, 4, 7, 9, 11, 13, 16, 17, 18], [2, 4, 7, 9, 11, 16, 17, 19, 20], [6]] = some fc_joistlaw05_WalBack := by kernel_rfl
/-- joist/joistlaw05.WalAtomic -/
abbrev F.joistlaw05_WalAtomic : Nat := 8
def cmd_joistlaw05_WalAtomic : Cmd :=
  .seq (.seq (.reg [⟨some 6, none, .inr (.box 3 (.t 1))⟩,
 ⟨some 8, none, .inr (.box 2 (.t 3))⟩,
 ⟨some 10, none, .inl (.mv (.c (.bool false)))⟩])
 (.keep [0, 2, 4, 6, 8]))
 (.seq (.seq (.reg [⟨some 28, none, .inr (.call 9 [])⟩,
 ⟨some 11, none, .inl (.mv (.t 28))⟩])
 (.keep [0, 2, 4, 6, 8, 11]))
 (.seq (.seq (.reg [⟨some 29, none, .inl (.mv (.t 0))⟩,
 ⟨some 30, none, .inl (.len (.t 29))⟩,
 ⟨some 31, none, .inl (.bin .quo (.t 30) (.c (.int .i64 64)))⟩,
 ⟨some 12, none, .inl (.mv (.t 31))⟩])
 (.keep [0, 2, 4, 6, 8, 11, 12]))
 (.seq (.seq (.reg [⟨some 32, none, .inl (.mv (.t 2))⟩,
 ⟨some 33, none, .inr (.call 10 [(.t 32)])⟩,
 ⟨some 13, none, .inl (.mv (.t 33))⟩])
 (.keep [0, 2, 4, 6, 8, 11, 12, 13]))
 (.seq (.seq (.seq (.reg [⟨some 34, none, .inl (.mv (.t 13))⟩,
 ⟨some 35, none, .inl (.un .not (.t 34))⟩,
 ⟨some 36, none, .inl (.mv (.t 35))⟩,
 ⟨some 37, (some (36, false)), .inl (.mv (.t 0))⟩,
 ⟨some 38, (some (36, false)), .inl (.len (.t 37))⟩,
 ⟨some 39, (some (36, false)), .inl (.bin .gtr (.t 38) (.c (.int .i64 4096)))⟩,
 ⟨some 40, none, .inl (.pick (.t 36) (.c (.bool true)) (.t 39))⟩,
 ⟨some 41, none, .inl (.mv (.t 40))⟩,
 ⟨some 42, (some (41, false)), .inl (.mv (.t 0))⟩,
 ⟨some 43, (some (41, false)), .inl (.len (.t 42))⟩,
 ⟨some 44, (some (41, false)), .inl (.bin .rem (.t 43) (.c (.int .i64 64)))⟩,
 ⟨some 45, (some (41, false)), .inl (.bin .neq (.t 44) (.c (.int .i64 0)))⟩,
 ⟨some 46, none, .inl (.pick (.t 41) (.c (.bool true)) (.t 45))⟩,
 ⟨some 47, none, .inl (.mv (.t 46))⟩,
 ⟨some 48, (some (47, false)), .inl (.load true 3 (.t 6))⟩,
 ⟨some 49, (some (47, false)), .inl (.mv (.t 12))⟩,
 ⟨some 50, (some (47, false)), .inr (.call 15 [(.t 48), (.t 49)])⟩,
 ⟨some 51, (some (47, false)), .inl (.un .not (.t 50))⟩,
 ⟨some 52, none, .inl (.pick (.t 47) (.c (.bool true)) (.t 51))⟩])
 (.keep [0, 2, 4, 6, 8, 11, 52]))
 (.cond (.t 52)
 (.seq (.seq (.reg [⟨some 53, none, .inl (.mv (.t 11))⟩,
 ⟨some 10, none, .inl (.mv (.t 53))⟩])
 (.keep [10]))
 (.ret))
 (.skip)))
 (.seq (.seq (.seq (.reg [⟨some 14, none, .inl (.mv (.c (.int .i64 0)))⟩])
 (.keep [0, 2, 4, 6, 8, 11, 14]))
 (.block 0 (.loop [0, 2, 4, 6, 8, 11, 14] (.seq (.seq (.seq (.reg [⟨some 54, none, .inl (.mv (.t 14))⟩,
 ⟨some 55, none, .inl (.bin .lss (.t 54) (.c (.int .i64 64)))⟩])
 (.keep [0, 2, 4, 6, 8, 11, 14, 55]))
 (.cond (.t 55)
 (.skip)
 (.exit 0)))
 (.seq (.block 1 (.seq (.seq (.reg [⟨some 58, none, .inl (.mv (.t 0))⟩,
 ⟨some 59, none, .inl (.faddr 0 (.t 6))⟩,
 ⟨some 60, none, .inl (.load false 1 (.t 59))⟩,
 ⟨some 61, none, .inl (.bin .mul (.c (.int .i64 64)) (.t 60))⟩,
 ⟨some 62, none, .inl (.mv (.t 14))⟩,
 ⟨some 63, none, .inl (.bin .add (.t 61) (.t 62))⟩,
 ⟨some 64, none, .inl (.iaddr 1 (.t 58) (.t 63))⟩,
 ⟨some 65, none, .inl (.load false 1 (.t 64))⟩,
 ⟨some 66, none, .inl (.bin .neq (.t 65) (.c (.int .u8 0)))⟩])
 (.keep [0, 2, 4, 6, 8, 11, 14, 66]))
 (.cond (.t 66)
 (.seq (.seq (.reg [⟨some 67, none, .inl (.mv (.t 11))⟩,
 ⟨some 10, none, .inl (.mv (.t 67))⟩])
 (.keep [10]))
 (.ret))
 (.skip))))
 (.seq (.reg [⟨some 56, none, .inl (.mv (.t 14))⟩,
 ⟨some 57, none, .inl (.bin .add (.t 56) (.c (.int .i64 1)))⟩,
 ⟨some 14, none, .inl (.mv (.t 57))⟩])
 (.keep [0, 2, 4, 6, 8, 11, 14])))))))
 (.seq (.seq (.reg [⟨some 69, none, .inl (.mv (.t 0))⟩,
 ⟨some 70, none, .inr (.call 19 [(.t 69)])⟩,
 ⟨some 68, none, .inl (.mv (.t 70))⟩,
 ⟨some 71, none, .inl (.ext 0 (.t 68))⟩,
 ⟨some 72, none, .inl (.ext 1 (.t 68))⟩,
 ⟨some 15, none, .inl (.mv (.t 71))⟩,
 ⟨some 16, none, .inl (.mv (.t 72))⟩])
 (.keep [0, 2, 4, 6, 8, 11, 15, 16]))
 (.seq (.seq (.seq (.reg [⟨some 73, none, .inl (.mv (.t 11))⟩,
 ⟨some 74, none, .inl (.un .not (.t 73))⟩,
 ⟨some 75, none, .inl (.mv (.t 74))⟩,
 ⟨some 76, (some (75, false)), .inl (.mv (.t 16))⟩,
 ⟨some 77, (some (75, false)), .inl (.bin .neq (.t 76) (.c (.int .i64 0)))⟩,
 ⟨some 78, none, .inl (.pick (.t 75) (.c (.bool true)) (.t 77))⟩,
 ⟨some 79, none, .inl (.mv (.t 78))⟩,
 ⟨some 80, (some (79, false)), .inl (.mv (.t 15))⟩,
 ⟨some 81, (some (79, false)), .inl (.eqnilp false (.t 80))⟩,
 ⟨some 82, none, .inl (.pick (.t 79) (.c (.bool true)) (.t 81))⟩])
 (.keep [0, 2, 4, 6, 8, 15, 82]))
 (.cond (.t 82)
 (.seq (.seq (.reg [⟨some 10, none, .inl (.mv (.c (.bool false)))⟩])
 (.keep [10]))
 (.ret))
 (.skip)))
 (.seq (.seq (.reg [⟨some 83, none, .inl (.mv (.t 15))⟩,
 ⟨some 84, none, .inl (.faddr 0 (.t 8))⟩,
 ⟨some 85, none, .inl (.load false 1 (.t 84))⟩,
 ⟨some 86, none, .inr (.call 20 [(.t 83), (.t 85)])⟩])
 (.keep [0, 2, 4, 6, 8, 15]))
 (.seq (.seq (.reg [⟨some 87, none, .inl (.mv (.t 15))⟩,
 ⟨some 88, none, .inl (.load true 3 (.t 6))⟩,
 ⟨some 89, none, .inl (.mv (.t 2))⟩,
 ⟨some 90, none, .inr (.call 21 [(.t 87), (.t 88), (.t 89)])⟩,
 ⟨some 17, none, .inl (.mv (.t 90))⟩])
 (.keep [0, 2, 4, 6, 8, 15, 17]))
 (.seq (.seq (.seq (.reg [⟨some 91, none, .inl (.mv (.t 17))⟩,
 ⟨some 92, none, .inl (.bin .eql (.t 91) (.c (.int .i64 1)))⟩,
 ⟨some 93, none, .inl (.mv (.t 92))⟩,
 ⟨some 94, (some (93, false)), .inl (.mv (.t 17))⟩,
 ⟨some 95, (some (93, false)), .inl (.bin .eql (.t 94) (.c (.int .i64 6)))⟩,
 ⟨some 96, none, .inl (.pick (.t 93) (.c (.bool true)) (.t 95))⟩])
 (.keep [0, 2, 4, 6, 8, 15, 17, 96]))
 (.cond (.t 96)
 (.seq (.seq (.ord [⟨0, ⟨some 97, none, .inl (.mv (.t 15))⟩, [], false⟩,
 ⟨3, ⟨some 100, none, .inl (.mv (.t 0))⟩, [], true⟩,
 ⟨4, ⟨some 101, none, .inl (.b2s (.t 100))⟩, [], true⟩,
 ⟨1, ⟨some 98, none, .inr (.call 29 [(.t 97)])⟩, [3, 4], false⟩,
 ⟨2, ⟨some 99, none, .inl (.b2s (.t 98))⟩, [], false⟩,
 ⟨5, ⟨some 102, none, .inl (.bins .eql (.t 99) (.t 101))⟩, [], false⟩,
 ⟨6, ⟨some 103, none, .inl (.mv (.t 102))⟩, [], false⟩,
 ⟨7, ⟨some 104, (some (103, true)), .inl (.mv (.t 15))⟩, [], false⟩,
 ⟨8, ⟨some 105, (some (103, true)), .inr (.call 30 [(.t 104)])⟩, [], false⟩,
 ⟨9, ⟨some 106, (some (103, true)), .inl (.len (.t 105))⟩, [], false⟩,
 ⟨10, ⟨some 107, (some (103, true)), .inl (.bin .eql (.t 106) (.c (.int .i64 0)))⟩, [], false⟩,
 ⟨11, ⟨some 108, none, .inl (.pick (.t 103) (.t 107) (.c (.bool false)))⟩, [], false⟩,
 ⟨12, ⟨some 10, none, .inl (.mv (.t 108))⟩, [], false⟩])
 (.keep [10]))
 (.ret))
 (.skip)))
 (.seq (.seq (.reg [⟨some 110, none, .inl (.mv (.t 0))⟩,
 ⟨some 111, none, .inl (.mv (.t 2))⟩,
 ⟨some 112, none, .inr (.call 31 [(.t 110), (.t 111)])⟩,
 ⟨some 109, none, .inl (.mv (.t 112))⟩,
 ⟨some 113, none, .inl (.ext 0 (.t 109))⟩,
 ⟨some 114, none, .inl (.ext 1 (.t 109))⟩,
 ⟨some 18, none, .inl (.mv (.t 113))⟩,
 ⟨some 19, none, .inl (.mv (.t 114))⟩])
 (.keep [0, 4, 6, 8, 15, 17, 18, 19]))
 (.seq (.seq (.seq (.reg [⟨some 115, none, .inl (.mv (.t 19))⟩,
 ⟨some 116, none, .inl (.bin .neq (.t 115) (.c (.int .i64 0)))⟩])
 (.keep [0, 4, 6, 8, 15, 17, 18, 116]))
 (.cond (.t 116)
 (.seq (.seq (.reg [⟨some 10, none, .inl (.mv (.c (.bool false)))⟩])
 (.keep [10]))
 (.ret))
 (.skip)))
 (.seq (.seq (.seq (.ord [⟨0, ⟨some 117, none, .inl (.mv (.t 17))⟩, [], false⟩,
 ⟨1, ⟨some 118, none, .inl (.bin .eql (.t 117) (.c (.int .i64 0)))⟩, [], false⟩,
 ⟨2, ⟨some 119, none, .inl (.mv (.t 118))⟩, [], false⟩,
 ⟨3, ⟨some 120, (some (119, true)), .inl (.load true 3 (.t 6))⟩, [], true⟩,
 ⟨4, ⟨some 121, (some (119, true)), .inl (.mv (.t 15))⟩, [], false⟩,
 ⟨7, ⟨some 124, (some (119, true)), .inl (.load true 3 (.t 6))⟩, [], true⟩,
 ⟨8, ⟨some 125, (some (119, true)), .inl (.mv (.t 18))⟩, [], true⟩,
 ⟨5, ⟨some 122, (some (119, true)), .inr (.call 29 [(.t 121)])⟩, [3, 7, 8], false⟩,
 ⟨6, ⟨some 123, (some (119, true)), .inr (.call 32 [(.t 120), (.t 122)])⟩, [7, 8], false⟩,
 ⟨9, ⟨some 126, (some (119, true)), .inr (.call 32 [(.t 124), (.t 125)])⟩, [], false⟩,
 ⟨10, ⟨some 127, (some (119, true)), .inl (.bins .neq (.t 123) (.t 126))⟩, [], false⟩,
 ⟨11, ⟨some 128, (some (119, true)), .inl (.mv (.t 127))⟩, [], false⟩,
 ⟨12, ⟨some 129, (some (128, false)), .inl (.mv (.t 15))⟩, [], false⟩,
 ⟨13, ⟨some 130, (some (128, false)), .inr (.call 30 [(.t 129)])⟩, [], false⟩,
 ⟨14, ⟨some 131, (some (128, false)), .inl (.len (.t 130))⟩, [], false⟩,
 ⟨15, ⟨some 132, (some (128, false)), .inl (.bin .neq (.t 131) (.c (.int .i64 0)))⟩, [], false⟩,
 ⟨16, ⟨some 133, (some (119, true)), .inl (.pick (.t 128) (.c (.bool true)) (.t 132))⟩, [], false⟩,
 ⟨17, ⟨some 134, none, .inl (.pick (.t 119) (.t 133) (.c (.bool false)))⟩, [], false⟩])
 (.keep [0, 4, 6, 8, 15, 17, 18, 134]))
 (.cond (.t 134)
 (.seq (.seq (.reg [⟨some 10, none, .inl (.mv (.c (.bool false)))⟩])
 (.keep [10]))
 (.ret))
 (.skip)))
 (.seq (.seq (.reg [⟨some 135, none, .inl (.mv (.t 15))⟩,
 ⟨some 136, none, .inl (.faddr 1 (.t 8))⟩,
 ⟨some 137, none, .inl (.load false 1 (.t 136))⟩,
 ⟨some 138, none, .inr (.call 33 [(.t 135), (.t 137)])⟩])
 (.keep [0, 4, 6, 15, 17, 18]))
 (.seq (.seq (.seq (.reg [⟨some 20, none, .inl (.mv (.c (.int .i64 0)))⟩])
 (.keep [0, 4, 6, 15, 17, 18, 20]))
 (.block 2 (.loop [0, 4, 6, 15, 17, 18, 20] (.seq (.seq (.seq (.reg [⟨some 139, none, .inl (.mv (.t 20))⟩,
 ⟨some 140, none, .inl (.mv (.t 4))⟩,
 ⟨some 141, none, .inl (.len (.t 140))⟩,
 ⟨some 142, none, .inl (.bin .lss (.t 139) (.t 141))⟩,
 ⟨some 143, none, .inl (.mv (.t 142))⟩,
 ⟨some 144, (some (143, true)), .inl (.mv (.t 20))⟩,
 ⟨some 145, (some (143, true)), .inl (.bin .lss (.t 144) (.c (.int .i64 6)))⟩,
 ⟨some 146, none, .inl (.pick (.t 143) (.t 145) (.c (.bool false)))⟩])
 (.keep [0, 4, 6, 15, 17, 18, 20, 146]))
 (.cond (.t 146)
 (.skip)
 (.exit 2)))
 (.seq (.block 3 (.seq (.seq (.reg [⟨some 149, none, .inl (.mv (.t 15))⟩,
 ⟨some 150, none, .inl (.mv (.t 4))⟩,
 ⟨some 151, none, .inl (.mv (.t 20))⟩,
 ⟨some 152, none, .inl (.iaddr 2 (.t 150) (.t 151))⟩,
 ⟨some 153, none, .inl (.faddr 0 (.t 152))⟩,
 ⟨some 154, none, .inl (.load false 1 (.t 153))⟩,
 ⟨some 155, none, .inr (.call 20 [(.t 149), (.t 154)])⟩])
 (.keep [0, 4, 6, 15, 17, 18, 20]))
 (.seq (.seq (.reg [⟨some 156, none, .inl (.mv (.t 15))⟩,
 ⟨some 157, none, .inl (.load true 3 (.t 6))⟩,
 ⟨some 158, none, .inr (.call 34 [(.t 156), (.t 157)])⟩])
 (.keep [0, 4, 6, 15, 17, 18, 20]))
 (.seq (.reg [⟨some 159, none, .inl (.mv (.t 15))⟩,
 ⟨some 160, none, .inl (.mv (.t 4))⟩,
 ⟨some 161, none, .inl (.mv (.t 20))⟩,
 ⟨some 162, none, .inl (.iaddr 2 (.t 160) (.t 161))⟩,
 ⟨some 163, none, .inl (.faddr 1 (.t 162))⟩,
 ⟨some 164, none, .inl (.load false 1 (.t 163))⟩,
 ⟨some 165, none, .inr (.call 33 [(.t 159), (.t 164)])⟩])
 (.keep [0, 4, 6, 15, 17, 18, 20])))))
 (.seq (.reg [⟨some 147, none, .inl (.mv (.t 20))⟩,
 ⟨some 148, none, .inl (.bin .add (.t 147) (.c (.int .i64 1)))⟩,
 ⟨some 20, none, .inl (.mv (.t 148))⟩])
 (.keep [0, 4, 6, 15, 17, 18, 20])))))))
 (.seq (.seq (.reg [⟨some 167, none, .inl (.mv (.t 15))⟩,
 ⟨some 168, none, .inl (.load true 3 (.t 6))⟩,
 ⟨some 169, none, .inr (.call 34 [(.t 167), (.t 168)])⟩,
 ⟨some 166, none, .inl (.mv (.t 169))⟩,
 ⟨some 170, none, .inl (.ext 0 (.t 166))⟩,
 ⟨some 171, none, .inl (.ext 1 (.t 166))⟩,
 ⟨some 21, none, .inl (.mv (.t 170))⟩,
 ⟨some 22, none, .inl (.mv (.t 171))⟩])
 (.keep [0, 6, 15, 17, 18, 22]))
 (.seq (.seq (.reg [⟨some 172, none, .inl (.mv (.t 15))⟩,
 ⟨some 173, none, .inr (.call 29 [(.t 172)])⟩,
 ⟨some 23, none, .inl (.mv (.t 173))⟩])
 (.keep [0, 6, 15, 17, 18, 22, 23]))
 (.seq (.seq (.reg [⟨some 175, none, .inl (.mv (.t 15))⟩,
 ⟨some 176, none, .inl (.load true 3 (.t 6))⟩,
 ⟨some 177, none, .inr (.call 34 [(.t 175), (.t 176)])⟩,
 ⟨some 174, none, .inl (.mv (.t 177))⟩,
 ⟨some 178, none, .inl (.ext 0 (.t 174))⟩,
 ⟨some 179, none, .inl (.ext 1 (.t 174))⟩,
 ⟨some 24, none, .inl (.mv (.t 178))⟩,
 ⟨some 25, none, .inl (.mv (.t 179))⟩])
 (.keep [0, 6, 15, 17, 18, 22, 23, 24, 25]))
 (.seq (.seq (.reg [⟨some 180, none, .inl (.load true 3 (.t 6))⟩,
 ⟨some 181, none, .inl (.mv (.t 23))⟩,
 ⟨some 182, none, .inr (.call 32 [(.t 180), (.t 181)])⟩,
 ⟨some 26, none, .inl (.mv (.t 182))⟩])
 (.keep [0, 6, 15, 17, 18, 22, 23, 24, 25, 26]))
 (.seq (.seq (.reg [⟨some 183, none, .inl (.mv (.t 26))⟩,
 ⟨some 184, none, .inl (.load true 3 (.t 6))⟩,
 ⟨some 185, none, .inl (.mv (.t 18))⟩,
 ⟨some 186, none, .inr (.call 32 [(.t 184), (.t 185)])⟩,
 ⟨some 187, none, .inl (.bins .eql (.t 183) (.t 186))⟩,
 ⟨some 27, none, .inl (.mv (.t 187))⟩])
 (.keep [0, 6, 15, 17, 22, 23, 24, 25, 26, 27]))
 (.seq (.seq (.ord [⟨0, ⟨some 188, none, .inl (.mv (.t 22))⟩, [], false⟩,
 ⟨1, ⟨some 189, none, .inl (.bin .eql (.t 188) (.c (.int .i64 0)))⟩, [], false⟩,
 ⟨2, ⟨some 190, none, .inl (.mv (.t 189))⟩, [], false⟩,
 ⟨3, ⟨some 191, (some (190, true)), .inl (.mv (.t 15))⟩, [], false⟩,
 ⟨4, ⟨some 192, (some (190, true)), .inr (.call 30 [(.t 191)])⟩, [], false⟩,
 ⟨5, ⟨some 193, (some (190, true)), .inl (.len (.t 192))⟩, [], false⟩,
 ⟨6, ⟨some 194, (some (190, true)), .inl (.bin .eql (.t 193) (.c (.int .i64 0)))⟩, [], false⟩,
 ⟨7, ⟨some 195, none, .inl (.pick (.t 190) (.t 194) (.c (.bool false)))⟩, [], false⟩,
 ⟨8, ⟨some 196, none, .inl (.mv (.t 195))⟩, [], false⟩,
 ⟨9, ⟨some 197, (some (196, true)), .inl (.mv (.t 25))⟩, [], false⟩,
 ⟨10, ⟨some 198, (some (196, true)), .inl (.bin .eql (.t 197) (.c (.int .i64 0)))⟩, [], false⟩,
 ⟨11, ⟨some 199, none, .inl (.pick (.t 196) (.t 198) (.c (.bool false)))⟩, [], false⟩,
 ⟨12, ⟨some 200, none, .inl (.mv (.t 199))⟩, [], false⟩,
 ⟨13, ⟨some 201, (some (200, true)), .inl (.mv (.t 24))⟩, [], false⟩,
 ⟨14, ⟨some 202, (some (200, true)), .inl (.bin .eql (.t 201) (.c (.int .i64 0)))⟩, [], false⟩,
 ⟨15, ⟨some 203, none, .inl (.pick (.t 200) (.t 202) (.c (.bool false)))⟩, [], false⟩,
 ⟨16, ⟨some 204, none, .inl (.mv (.t 203))⟩, [], false⟩,
 ⟨17, ⟨some 205, (some (204, true)), .inl (.mv (.t 15))⟩, [], false⟩,
 ⟨20, ⟨some 208, (some (204, true)), .inl (.mv (.t 23))⟩, [], true⟩,
 ⟨21, ⟨some 209, (some (204, true)), .inl (.b2s (.t 208))⟩, [], true⟩,
 ⟨18, ⟨some 206, (some (204, true)), .inr (.call 29 [(.t 205)])⟩, [20, 21], false⟩,
 ⟨19, ⟨some 207, (some (204, true)), .inl (.b2s (.t 206))⟩, [], false⟩,
 ⟨22, ⟨some 210, (some (204, true)), .inl (.bins .eql (.t 207) (.t 209))⟩, [], false⟩,
 ⟨23, ⟨some 211, none, .inl (.pick (.t 204) (.t 210) (.c (.bool false)))⟩, [], false⟩,
 ⟨24, ⟨some 212, none, .inl (.mv (.t 211))⟩, [], false⟩,
 ⟨25, ⟨some 213, (some (212, true)), .inl (.mv (.t 27))⟩, [], false⟩,
 ⟨26, ⟨some 214, (some (212, true)), .inl (.mv (.t 213))⟩, [], false⟩,
 ⟨27, ⟨some 215, (some (214, false)), .inl (.mv (.t 17))⟩, [], false⟩,
 ⟨28, ⟨some 216, (some (214, false)), .inl (.bin .neq (.t 215) (.c (.int .i64 0)))⟩, [], false⟩,
 ⟨29, ⟨some 217, (some (214, false)), .inl (.mv (.t 216))⟩, [], false⟩,
 ⟨30, ⟨some 218, (some (217, true)), .inl (.mv (.t 26))⟩, [], true⟩,
 ⟨31, ⟨some 219, (some (217, true)), .inl (.load true 3 (.t 6))⟩, [], false⟩,
 ⟨32, ⟨some 220, (some (217, true)), .inl (.mv (.t 0))⟩, [], false⟩,
 ⟨33, ⟨some 221, (some (217, true)), .inr (.call 32 [(.t 219), (.t 220)])⟩, [30], false⟩,
 ⟨34, ⟨some 222, (some (217, true)), .inl (.bins .eql (.t 218) (.t 221))⟩, [], false⟩,
 ⟨35, ⟨some 223, (some (214, false)), .inl (.pick (.t 217) (.t 222) (.c (.bool false)))⟩, [], false⟩,
 ⟨36, ⟨some 224, (some (212, true)), .inl (.pick (.t 214) (.c (.bool true)) (.t 223))⟩, [], false⟩,
 ⟨37, ⟨some 225, none, .inl (.pick (.t 212) (.t 224) (.c (.bool false)))⟩, [], false⟩,
 ⟨38, ⟨some 10, none, .inl (.mv (.t 225))⟩, [], false⟩])
 (.keep [10]))
 (.ret))))))))))))))))))))))
def fc_joistlaw05_WalAtomic : FC := ⟨226, cmd_joistlaw05_WalAtomic, [.t 10]⟩
theorem fc_joistlaw05_WalAtomic_ok : compF Try.prog 8 [[0, 2, 4, 6, 8], [0, 2, 4, 6, 8, 11], [0, 2, 4, 6, 8, 11, 12], [0, 2, 4, 6, 8, 11, 12, 13], [0, 2, 4, 6, 8, 11, 52], [10], [0, 2, 4, 6, 8, 11, 14], [0, 2, 4, 6, 8, 11, 14], [0, 2, 4, 6, 8, 11, 14, 55], [0, 2, 4, 6, 8, 11, 14, 66], [10], [0, 2, 4, 6, 8, 11, 14], [0, 2, 4, 6, 8, 11, 15, 16], [0, 2, 4, 6, 8, 15, 82], [10], [0, 2, 4, 6, 8, 15], [0, 2, 4, 6, 8, 15, 17], [0, 2, 4, 6, 8, 15, 17, 96], [10], [0, 3, 4, 1, 2, 5, 6, 7, 8, 9, 10, 11, 12], [0, 4, 6, 8, 15, 17, 18, 19], [0, 4, 6, 8, 15, 17, 18, 116], [10], [0, 4, 6, 8, 15, 17, 18, 134], [0, 1, 2, 3, 4, 7, 8, 5, 6, 9, 10, 11, 12, 13, 14, 15, 16, 17], [10], [0, 4, 6, 15, 17, 18], [0, 4, 6, 15, 17, 18, 20], [0, 4, 6, 15, 17, 18, 20], [0, 4, 6, 15, 17, 18, 20, 146], [0, 4, 6, 15, 17, 18, 20], [0, 4, 6, 15, 17, 18, 20], [0, 4, 6, 15, 17, 18, 20], [0, 4, 6, 15, 17, 18, 20], [0, 6, 15, 17, 18, 22], [0, 6, 15, 17, 18, 22, 23], [0, 6, 15, 17, 18, 22, 23, 24, 25], [0, 6, 15, 17, 18, 22, 23, 24, 25, 26], [0, 6, 15, 17, 22, 23, 24, 25, 26, 27], [10], [0, 1, 2, 3, 4, 5, 6, 7, 8, 9, 10, 11, 12, 13, 14, 15, 16, 17, 20, 21, 18, 19, 22, 23, 24, 25, 26, 27, 28, 29, 30, 31, 32, 33, 34, 35, 36, 37, 38]] = some fc_joistlaw05_WalAtomic := by kernel_rfl
/-- joist/joistlaw05.small -/
abbrev F.joistlaw05_small : Nat := 9
def cmd_joistlaw05_small : Cmd :=
  .seq (.seq (.reg [⟨some 0, none, .inl (.mv (.c (.bool false)))⟩])
 (.keep []))
 (.seq (.seq (.reg [⟨some 8, none, .inl (.build [(.int .i64 0), (.int .i64 0), (.int .i64 0)] [(0, 1, (.c (.int .i64 1))), (1, 1, (.c (.int .i64 2))), (2, 1, (.c (.int .i64 2)))])⟩,
 ⟨some 1, none, .inr (.alloc [(.int .i64 0), (.int .i64 0), (.int .i64 0)])⟩,
 ⟨none, none, .inr (.store 3 (.t 1) (.t 8))⟩])
 (.keep [1]))
 (.seq (.seq (.reg [⟨some 10, none, .inr (.mksl 1 1 [(.int .u8 0)] (.c (.int .i64 512)) (.c (.int .i64 512)))⟩,
 ⟨some 11, none, .inr (.call 19 [(.t 10)])⟩,
 ⟨some 9, none, .inl (.mv (.t 11))⟩,
 ⟨some 12, none, .inl (.ext 0 (.t 9))⟩,
 ⟨some 13, none, .inl (.ext 1 (.t 9))⟩,
 ⟨some 2, none, .inl (.mv (.t 12))⟩,
 ⟨some 3, none, .inl (.mv (.t 13))⟩])
 (.keep [1, 2, 3]))
 (.seq (.seq (.seq (.reg [⟨some 14, none, .inl (.mv (.t 2))⟩,
 ⟨some 15, none, .inl (.eqnilp false (.t 14))⟩,
 ⟨some 16, none, .inl (.mv (.t 15))⟩,
 ⟨some 17, (some (16, false)), .inl (.mv (.t 3))⟩,
 ⟨some 18, (some (16, false)), .inl (.bin .neq (.t 17) (.c (.int .i64 0)))⟩,
 ⟨some 19, none, .inl (.pick (.t 16) (.c (.bool true)) (.t 18))⟩])
 (.keep [1, 2, 19]))
 (.cond (.t 19)
 (.seq (.seq (.reg [⟨some 0, none, .inl (.mv (.c (.bool false)))⟩])
 (.keep [0]))
 (.ret))
 (.skip)))
 (.seq (.seq (.ord [⟨0, ⟨some 20, none, .inl (.mv (.t 2))⟩, [], true⟩,
 ⟨1, ⟨some 21, none, .inl (.load true 3 (.t 1))⟩, [], true⟩,
 ⟨2, ⟨some 22, none, .inr (.call 35 [])⟩, [0, 1], false⟩,
 ⟨3, ⟨some 23, none, .inl (.build [(.int .i64 0), .nils] [(0, 1, (.c (.int .i64 7))), (1, 1, (.t 22))])⟩, [], false⟩,
 ⟨4, ⟨some 24, none, .inr (.bslice 2 [(.int .i64 0), .nils] 1 [(0, (.t 23))])⟩, [0, 1], false⟩,
 ⟨5, ⟨some 25, none, .inr (.call 21 [(.t 20), (.t 21), (.t 24)])⟩, [], false⟩,
 ⟨6, ⟨some 4, none, .inl (.mv (.t 25))⟩, [], false⟩])
 (.keep [1, 2, 4]))
 (.seq (.seq (.reg [⟨some 26, none, .inl (.mv (.t 2))⟩,
 ⟨some 27, none, .inr (.call 29 [(.t 26)])⟩,
 ⟨some 5, none, .inl (.mv (.t 27))⟩])
 (.keep [1, 2, 4, 5]))
 (.seq (.seq (.ord [⟨0, ⟨some 28, none, .inl (.mv (.t 2))⟩, [], true⟩,
 ⟨1, ⟨some 29, none, .inl (.load true 3 (.t 1))⟩, [], true⟩,
 ⟨2, ⟨some 30, none, .inr (.call 35 [])⟩, [0, 1], false⟩,
 ⟨3, ⟨some 31, none, .inl (.build [(.int .i64 0), .nils] [(0, 1, (.c (.int .i64 0))), (1, 1, (.t 30))])⟩, [], true⟩,
 ⟨4, ⟨some 32, none, .inr (.call 35 [])⟩, [0, 1, 3], false⟩,
 ⟨5, ⟨some 33, none, .inl (.build [(.int .i64 0), .nils] [(0, 1, (.c (.int .i64 6))), (1, 1, (.t 32))])⟩, [], true⟩,
 ⟨6, ⟨some 34, none, .inr (.call 35 [])⟩, [0, 1, 3, 5], false⟩,
 ⟨7, ⟨some 35, none, .inl (.build [(.int .i64 0), .nils] [(0, 1, (.c (.int .i64 7))), (1, 1, (.t 34))])⟩, [], false⟩,
 ⟨8, ⟨some 36, none, .inr (.bslice 2 [(.int .i64 0), .nils] 3 [(0, (.t 31)), (1, (.t 33)), (2, (.t 35))])⟩, [0, 1], false⟩,
 ⟨9, ⟨some 37, none, .inr (.call 21 [(.t 28), (.t 29), (.t 36)])⟩, [], false⟩,
 ⟨10, ⟨some 6, none, .inl (.mv (.t 37))⟩, [], false⟩])
 (.keep [1, 2, 4, 5, 6]))
 (.seq (.seq (.ord [⟨0, ⟨some 38, none, .inl (.mv (.t 2))⟩, [], true⟩,
 ⟨1, ⟨some 39, none, .inl (.load true 3 (.t 1))⟩, [], true⟩,
 ⟨2, ⟨some 40, none, .inr (.call 35 [])⟩, [0, 1], false⟩,
 ⟨3, ⟨some 41, none, .inl (.build [(.int .i64 0), .nils] [(0, 1, (.c (.int .i64 1))), (1, 1, (.t 40))])⟩, [], false⟩,
 ⟨4, ⟨some 42, none, .inr (.bslice 2 [(.int .i64 0), .nils] 1 [(0, (.t 41))])⟩, [0, 1], false⟩,
 ⟨5, ⟨some 43, none, .inr (.call 21 [(.t 38), (.t 39), (.t 42)])⟩, [], false⟩,
 ⟨6, ⟨some 7, none, .inl (.mv (.t 43))⟩, [], false⟩])
 (.keep [1, 4, 5, 6, 7]))
 (.seq (.seq (.reg [⟨some 44, none, .inl (.mv (.t 4))⟩,
 ⟨some 45, none, .inl (.bin .eql (.t 44) (.c (.int .i64 0)))⟩,
 ⟨some 46, none, .inl (.mv (.t 45))⟩,
 ⟨some 47, (some (46, true)), .inl (.mv (.t 5))⟩,
 ⟨some 48, (some (46, true)), .inl (.len (.t 47))⟩,
 ⟨some 49, (some (46, true)), .inl (.bin .eql (.t 48) (.c (.int .i64 512)))⟩,
 ⟨some 50, none, .inl (.pick (.t 46) (.t 49) (.c (.bool false)))⟩,
 ⟨some 51, none, .inl (.mv (.t 50))⟩,
 ⟨some 52, (some (51, true)), .inl (.mv (.t 5))⟩,
 ⟨some 53, (some (51, true)), .inl (.iaddr 1 (.t 52) (.c (.int .i64 511)))⟩,
 ⟨some 54, (some (51, true)), .inl (.load false 1 (.t 53))⟩,
 ⟨some 55, (some (51, true)), .inl (.bin .eql (.t 54) (.c (.int .u8 1)))⟩,
 ⟨some 56, none, .inl (.pick (.t 51) (.t 55) (.c (.bool false)))⟩,
 ⟨some 57, none, .inl (.mv (.t 56))⟩,
 ⟨some 58, (some (57, true)), .inl (.mv (.t 5))⟩,
 ⟨some 59, (some (57, true)), .inl (.iaddr 1 (.t 58) (.c (.int .i64 64)))⟩,
 ⟨some 60, (some (57, true)), .inl (.load false 1 (.t 59))⟩,
 ⟨some 61, (some (57, true)), .inl (.bin .eql (.t 60) (.c (.int .u8 0)))⟩,
 ⟨some 62, none, .inl (.pick (.t 57) (.t 61) (.c (.bool false)))⟩,
 ⟨some 63, none, .inl (.mv (.t 62))⟩,
 ⟨some 64, (some (63, true)), .inl (.mv (.t 6))⟩,
 ⟨some 65, (some (63, true)), .inl (.bin .eql (.t 64) (.c (.int .i64 6)))⟩,
 ⟨some 66, none, .inl (.pick (.t 63) (.t 65) (.c (.bool false)))⟩,
 ⟨some 67, none, .inl (.mv (.t 66))⟩,
 ⟨some 68, (some (67, true)), .inl (.mv (.t 7))⟩,
 ⟨some 69, (some (67, true)), .inl (.bin .eql (.t 68) (.c (.int .i64 1)))⟩,
 ⟨some 70, none, .inl (.pick (.t 67) (.t 69) (.c (.bool false)))⟩,
 ⟨some 71, none, .inl (.mv (.t 70))⟩,
 ⟨some 72, (some (71, true)), .inl (.load true 3 (.t 1))⟩,
 ⟨some 73, (some (71, true)), .inr (.call 14 [(.t 72), (.c (.int .i64 6))])⟩,
 ⟨some 74, none, .inl (.pick (.t 71) (.t 73) (.c (.bool false)))⟩,
 ⟨some 75, none, .inl (.mv (.t 74))⟩,
 ⟨some 76, (some (75, true)), .inl (.load true 3 (.t 1))⟩,
 ⟨some 77, (some (75, true)), .inr (.call 14 [(.t 76), (.c (.int .i64 5))])⟩,
 ⟨some 78, (some (75, true)), .inl (.un .not (.t 77))⟩,
 ⟨some 79, none, .inl (.pick (.t 75) (.t 78) (.c (.bool false)))⟩,
 ⟨some 80, none, .inl (.mv (.t 79))⟩,
 ⟨some 81, (some (80, true)), .inl (.load true 3 (.t 1))⟩,
 ⟨some 82, (some (80, true)), .inr (.call 16 [(.t 81), (.c (.int .i64 5))])⟩,
 ⟨some 83, none, .inl (.pick (.t 80) (.t 82) (.c (.bool false)))⟩,
 ⟨some 0, none, .inl (.mv (.t 83))⟩])
 (.keep [0]))
 (.ret)))))))))
def fc_joistlaw05_small : FC := ⟨84, cmd_joistlaw05_small, [.t 0]⟩
theorem fc_joistlaw05_small_ok : compF Try.prog 9 [[], [1], [1, 2, 3], [1, 2, 19], [0], [1, 2, 4], [0, 1, 2, 3, 4, 5, 6], [1, 2, 4, 5], [1, 2, 4, 5, 6], [0, 1, 2, 3, 4, 5, 6, 7, 8, 9, 10], [1, 4, 5, 6, 7], [0, 1, 2, 3, 4, 5, 6], [0]] = some fc_joistlaw05_small := by kernel_rfl
/-- joist/joistlaw04.Few -/
abbrev F.joistlaw04_Few : Nat := 10
def cmd_joistlaw04_Few : Cmd :=
  .seq (.seq (.reg [⟨some 2, none, .inl (.mv (.c (.bool false)))⟩])
 (.keep [0]))
 (.seq (.seq (.seq (.reg [⟨some 3, none, .inl (.mv (.c (.int .i64 0)))⟩])
 (.keep [0, 3]))
 (.block 0 (.loop [0, 3] (.seq (.seq (.seq (.reg [⟨some 4, none, .inl (.mv (.t 3))⟩,
 ⟨some 5, none, .inl (.mv (.t 0))⟩,
 ⟨some 6, none, .inl (.len (.t 5))⟩,
 ⟨some 7, none, .inl (.bin .lss (.t 4) (.t 6))⟩])
 (.keep [0, 3, 7]))
 (.cond (.t 7)
 (.skip)
 (.exit 0)))
 (.seq (.block 1 (.seq (.seq (.reg [⟨some 10, none, .inl (.mv (.t 0))⟩,
 ⟨some 11, none, .inl (.mv (.t 3))⟩,
 ⟨some 12, none, .inl (.iaddr 2 (.t 10) (.t 11))⟩,
 ⟨some 13, none, .inl (.faddr 1 (.t 12))⟩,
 ⟨some 14, none, .inl (.load false 1 (.t 13))⟩,
 ⟨some 15, none, .inl (.len (.t 14))⟩,
 ⟨some 16, none, .inl (.bin .gtr (.t 15) (.c (.int .i64 1024)))⟩])
 (.keep [0, 3, 16]))
 (.cond (.t 16)
 (.seq (.seq (.reg [⟨some 2, none, .inl (.mv (.c (.bool false)))⟩])
 (.keep [2]))
 (.ret))
 (.skip))))
 (.seq (.reg [⟨some 8, none, .inl (.mv (.t 3))⟩,
 ⟨some 9, none, .inl (.bin .add (.t 8) (.c (.int .i64 1)))⟩,
 ⟨some 3, none, .inl (.mv (.t 9))⟩])
 (.keep [0, 3])))))))
 (.seq (.seq (.reg [⟨some 17, none, .inl (.mv (.t 0))⟩,
 ⟨some 18, none, .inl (.len (.t 17))⟩,
 ⟨some 19, none, .inl (.bin .leq (.t 18) (.c (.int .i64 300)))⟩,
 ⟨some 2, none, .inl (.mv (.t 19))⟩])
 (.keep [2]))
 (.ret)))
def fc_joistlaw04_Few : FC := ⟨20, cmd_joistlaw04_Few, [.t 2]⟩
theorem fc_joistlaw04_Few_ok : compF Try.prog 10 [[0], [0, 3], [0, 3], [0, 3, 7], [0, 3, 16], [2], [0, 3], [2]] = some fc_joistlaw04_Few := by kernel_rfl
/-- joist/wal.Write -/
abbrev F.wal_Write : Nat := 11
def cmd_wal_Write : Cmd :=
  .seq (.seq (.reg [⟨some 2, none, .inr (.box 3 (.t 0))⟩,
 ⟨some 4, none, .inl (.mv (.c .nils))⟩,
 ⟨some 5, none, .inl (.mv (.c .nils))⟩,
 ⟨some 6, none, .inl (.mv (.c (.int .i64 0)))⟩])
 (.keep [1, 2]))
 (.seq (.block 0 (.seq (.seq (.seq (.reg [⟨some 11, none, .inl (.load true 3 (.t 2))⟩,
 ⟨some 12, none, .inr (.call 14 [(.t 11), (.c (.int .i64 4096))])⟩,
 ⟨some 13, none, .inl (.un .not (.t 12))⟩,
 ⟨some 10, none, .inl (.mv (.t 13))⟩])
 (.keep [1, 2, 10]))
 (.cond (.t 10)
 (.skip)
 (.seq (.seq (.reg [⟨some 14, none, .inl (.mv (.t 1))⟩,
 ⟨some 15, none, .inr (.call 18 [(.c (.int .i64 4096)), (.t 14)])⟩,
 ⟨some 16, none, .inl (.un .not (.t 15))⟩,
 ⟨some 10, none, .inl (.mv (.t 16))⟩])
 (.keep [1, 2, 10]))
 (.cond (.t 10)
 (.skip)
 (.seq (.reg [⟨some 17, none, .inl (.load true 3 (.t 2))⟩,
 ⟨some 18, none, .inl (.mv (.t 1))⟩,
 ⟨some 19, none, .inr (.call 36 [(.t 17), (.t 18)])⟩,
 ⟨some 10, none, .inl (.mv (.t 19))⟩])
 (.keep [1, 2, 10]))))))
 (.cond (.t 10)
 (.seq (.seq (.reg [⟨some 4, none, .inl (.mv (.c .nils))⟩,
 ⟨some 5, none, .inl (.mv (.c .nils))⟩,
 ⟨some 6, none, .inl (.mv (.c (.int .i64 1)))⟩])
 (.keep [4, 5, 6]))
 (.ret))
 (.seq (.seq (.reg [⟨some 21, none, .inl (.mv (.t 1))⟩,
 ⟨some 22, none, .inl (.len (.t 21))⟩,
 ⟨some 23, none, .inl (.faddr 2 (.t 2))⟩,
 ⟨some 24, none, .inl (.load false 1 (.t 23))⟩,
 ⟨some 25, none, .inl (.bin .gtr (.t 22) (.t 24))⟩,
 ⟨some 20, none, .inl (.mv (.t 25))⟩])
 (.keep [1, 20]))
 (.cond (.t 20)
 (.seq (.seq (.reg [⟨some 4, none, .inl (.mv (.c .nils))⟩,
 ⟨some 5, none, .inl (.mv (.c .nils))⟩,
 ⟨some 6, none, .inl (.mv (.c (.int .i64 6)))⟩])
 (.keep [4, 5, 6]))
 (.ret))
 (.seq (.seq (.reg [⟨some 27, none, .inl (.mv (.t 1))⟩,
 ⟨some 28, none, .inl (.len (.t 27))⟩,
 ⟨some 29, none, .inl (.bin .eql (.t 28) (.c (.int .i64 0)))⟩,
 ⟨some 26, none, .inl (.mv (.t 29))⟩])
 (.keep [1, 26]))
 (.cond (.t 26)
 (.seq (.seq (.reg [⟨some 30, none, .inr (.call 37 [(.c .nils)])⟩,
 ⟨some 4, none, .inl (.mv (.c .nils))⟩,
 ⟨some 5, none, .inl (.mv (.t 30))⟩,
 ⟨some 6, none, .inl (.mv (.c (.int .i64 0)))⟩])
 (.keep [4, 5, 6]))
 (.ret))
 (.skip))))))))
 (.seq (.seq (.reg [⟨some 7, none, .inl (.mv (.c .nils))⟩])
 (.keep [1, 7]))
 (.seq (.seq (.seq (.reg [⟨some 31, none, .inl (.mv (.t 1))⟩,
 ⟨some 32, none, .inl (.len (.t 31))⟩,
 ⟨some 33, none, .inl (.mv (.c (.int .i64 0)))⟩])
 (.keep [1, 7, 31, 32, 33]))
 (.block 1 (.loop [1, 7, 31, 32, 33] (.seq (.seq (.reg [⟨some 34, none, .inl (.bin .lss (.t 33) (.t 32))⟩])
 (.keep [1, 7, 31, 32, 33, 34]))
 (.seq (.cond (.t 34)
 (.skip)
 (.exit 1))
 (.seq (.block 2 (.seq (.seq (.reg [⟨some 35, none, .inl (.iaddr 2 (.t 31) (.t 33))⟩,
 ⟨some 36, none, .inl (.load true 2 (.t 35))⟩,
 ⟨some 9, none, .inr (.alloc [(.int .i64 0), .nils])⟩,
 ⟨none, none, .inr (.store 2 (.t 9) (.t 36))⟩])
 (.keep [1, 7, 9, 31, 32, 33]))
 (.seq (.reg [⟨some 37, none, .inl (.mv (.t 7))⟩,
 ⟨some 38, none, .inl (.load true 2 (.t 9))⟩,
 ⟨some 39, none, .inr (.call 38 [(.t 38)])⟩,
 ⟨some 40, none, .inr (.append 1 1 (.t 37) (.t 39))⟩,
 ⟨some 7, none, .inl (.mv (.t 40))⟩])
 (.keep [1, 7, 31, 32, 33]))))
 (.seq (.reg [⟨some 41, none, .inl (.bin .add (.t 33) (.c (.int .i64 1)))⟩,
 ⟨some 33, none, .inl (.mv (.t 41))⟩])
 (.keep [1, 7, 31, 32, 33]))))))))
 (.seq (.seq (.reg [⟨some 42, none, .inl (.mv (.t 7))⟩,
 ⟨some 43, none, .inl (.mv (.t 1))⟩,
 ⟨some 44, none, .inl (.len (.t 43))⟩,
 ⟨some 45, none, .inl (.mv (.t 7))⟩,
 ⟨some 46, none, .inr (.call 39 [(.t 45)])⟩,
 ⟨some 47, none, .inr (.bslice 1 [(.int .i64 0)] 2 [(0, (.t 44)), (1, (.t 46))])⟩,
 ⟨some 48, none, .inr (.call 37 [(.t 47)])⟩,
 ⟨some 4, none, .inl (.mv (.t 42))⟩,
 ⟨some 5, none, .inl (.mv (.t 48))⟩,
 ⟨some 6, none, .inl (.mv (.c (.int .i64 0)))⟩])
 (.keep [4, 5, 6]))
 (.ret)))))
def fc_wal_Write : FC := ⟨49, cmd_wal_Write, [.t 4, .t 5, .t 6]⟩
theorem fc_wal_Write_ok : compF Try.prog 11 [[1, 2], [1, 2, 10], [1, 2, 10], [1, 2, 10], [4, 5, 6], [1, 20], [4, 5, 6], [1, 26], [4, 5, 6], [1, 7], [1, 7, 31, 32, 33], [1, 7, 31, 32, 33], [1, 7, 31, 32, 33, 34], [1, 7, 9, 31, 32, 33], [1, 7, 31, 32, 33], [1, 7, 31, 32, 33], [4, 5, 6]] = some fc_wal_Write := by kernel_rfl
/-- joist/joistref05.Write -/
abbrev F.joistref05_Write : Nat := 12
def cmd_joistref05_Write : Cmd :=
  .seq (.seq (.reg [⟨some 2, none, .inr (.box 3 (.t 0))⟩,
 ⟨some 4, none, .inl (.mv (.c .nils))⟩,
 ⟨some 5, none, .inl (.mv (.c .nils))⟩,
 ⟨some 6, none, .inl (.mv (.c (.int .i64 0)))⟩])
 (.keep [1, 2]))
 (.seq (.seq (.seq (.reg [⟨some 8, none, .inl (.load true 3 (.t 2))⟩,
 ⟨some 9, none, .inr (.call 15 [(.t 8), (.c (.int .i64 4096))])⟩,
 ⟨some 10, none, .inl (.un .not (.t 9))⟩,
 ⟨some 11, none, .inl (.mv (.t 10))⟩,
 ⟨some 12, (some (11, false)), .inl (.mv (.t 1))⟩,
 ⟨some 13, (some (11, false)), .inr (.call 40 [(.c (.int .i64 4096)), (.t 12)])⟩,
 ⟨some 14, (some (11, false)), .inl (.un .not (.t 13))⟩,
 ⟨some 15, none, .inl (.pick (.t 11) (.c (.bool true)) (.t 14))⟩,
 ⟨some 16, none, .inl (.mv (.t 15))⟩,
 ⟨some 17, (some (16, false)), .inl (.load true 3 (.t 2))⟩,
 ⟨some 18, (some (16, false)), .inl (.mv (.t 1))⟩,
 ⟨some 19, (some (16, false)), .inr (.call 41 [(.t 17), (.t 18)])⟩,
 ⟨some 20, (some (16, false)), .inl (.un .not (.t 19))⟩,
 ⟨some 21, none, .inl (.pick (.t 16) (.c (.bool true)) (.t 20))⟩])
 (.keep [1, 2, 21]))
 (.cond (.t 21)
 (.seq (.seq (.reg [⟨some 4, none, .inl (.mv (.c .nils))⟩,
 ⟨some 5, none, .inl (.mv (.c .nils))⟩,
 ⟨some 6, none, .inl (.mv (.c (.int .i64 1)))⟩])
 (.keep [4, 5, 6]))
 (.ret))
 (.skip)))
 (.seq (.seq (.seq (.reg [⟨some 22, none, .inl (.mv (.t 1))⟩,
 ⟨some 23, none, .inl (.len (.t 22))⟩,
 ⟨some 24, none, .inl (.faddr 2 (.t 2))⟩,
 ⟨some 25, none, .inl (.load false 1 (.t 24))⟩,
 ⟨some 26, none, .inl (.bin .gtr (.t 23) (.t 25))⟩])
 (.keep [1, 26]))
 (.cond (.t 26)
 (.seq (.seq (.reg [⟨some 4, none, .inl (.mv (.c .nils))⟩,
 ⟨some 5, none, .inl (.mv (.c .nils))⟩,
 ⟨some 6, none, .inl (.mv (.c (.int .i64 6)))⟩])
 (.keep [4, 5, 6]))
 (.ret))
 (.skip)))
 (.seq (.seq (.reg [⟨some 27, none, .inl (.mv (.t 1))⟩,
 ⟨some 28, none, .inr (.call 42 [(.t 27)])⟩,
 ⟨some 7, none, .inl (.mv (.t 28))⟩])
 (.keep [1, 7]))
 (.seq (.seq (.reg [⟨some 29, none, .inl (.mv (.t 7))⟩,
 ⟨some 30, none, .inl (.mv (.t 1))⟩,
 ⟨some 31, none, .inl (.len (.t 30))⟩,
 ⟨some 32, none, .inl (.mv (.t 7))⟩,
 ⟨some 33, none, .inr (.call 43 [(.t 31), (.t 32)])⟩,
 ⟨some 4, none, .inl (.mv (.t 29))⟩,
 ⟨some 5, none, .inl (.mv (.t 33))⟩,
 ⟨some 6, none, .inl (.mv (.c (.int .i64 0)))⟩])
 (.keep [4, 5, 6]))
 (.ret)))))
def fc_joistref05_Write : FC := ⟨34, cmd_joistref05_Write, [.t 4, .t 5, .t 6]⟩
theorem fc_joistref05_Write_ok : compF Try.prog 12 [[1, 2], [1, 2, 21], [4, 5, 6], [1, 26], [4, 5, 6], [1, 7], [4, 5, 6]] = some fc_joistref05_Write := by kernel_rfl
/-- joist/joistlaw01.Owned -/
abbrev F.joistlaw01_Owned : Nat := 13
def cmd_joistlaw01_Owned : Cmd :=
  .seq (.seq (.reg [⟨some 2, none, .inl (.mv (.c (.bool false)))⟩])
 (.keep [0]))
 (.seq (.seq (.seq (.reg [⟨some 3, none, .inl (.mv (.c (.int .i64 0)))⟩])
 (.keep [0, 3]))
 (.block 0 (.loop [0, 3] (.seq (.seq (.seq (.reg [⟨some 9, none, .inl (.mv (.t 3))⟩,
 ⟨some 10, none, .inl (.mv (.t 0))⟩,
 ⟨some 11, none, .inl (.len (.t 10))⟩,
 ⟨some 12, none, .inl (.bin .lss (.t 9) (.t 11))⟩])
 (.keep [0, 3, 12]))
 (.cond (.t 12)
 (.skip)
 (.exit 0)))
 (.seq (.block 1 (.seq (.seq (.ord [⟨0, ⟨some 15, none, .inl (.mv (.t 0))⟩, [], false⟩,
 ⟨1, ⟨some 16, none, .inl (.mv (.t 3))⟩, [], false⟩,
 ⟨2, ⟨some 17, none, .inl (.iaddr 1 (.t 15) (.t 16))⟩, [], false⟩,
 ⟨3, ⟨some 18, none, .inl (.load false 1 (.t 17))⟩, [], false⟩,
 ⟨4, ⟨some 19, none, .inl (.mv (.t 0))⟩, [], false⟩,
 ⟨5, ⟨some 20, none, .inl (.mv (.t 3))⟩, [], false⟩,
 ⟨6, ⟨some 21, none, .inl (.iaddr 1 (.t 19) (.t 20))⟩, [], false⟩,
 ⟨7, ⟨some 22, none, .inl (.load false 1 (.t 21))⟩, [], false⟩,
 ⟨8, ⟨some 23, none, .inl (.cap (.t 22))⟩, [], false⟩,
 ⟨9, ⟨some 24, none, .inl (.slice 1 (.t 18) none (some (.t 23)) none)⟩, [], false⟩,
 ⟨10, ⟨some 4, none, .inl (.mv (.t 24))⟩, [], false⟩])
 (.keep [0, 3, 4]))
 (.seq (.seq (.reg [⟨some 5, none, .inl (.mv (.c (.int .i64 0)))⟩])
 (.keep [0, 3, 4, 5]))
 (.block 2 (.loop [0, 3, 4, 5] (.seq (.seq (.seq (.reg [⟨some 25, none, .inl (.mv (.t 5))⟩,
 ⟨some 26, none, .inl (.mv (.t 4))⟩,
 ⟨some 27, none, .inl (.len (.t 26))⟩,
 ⟨some 28, none, .inl (.bin .lss (.t 25) (.t 27))⟩])
 (.keep [0, 3, 4, 5, 28]))
 (.cond (.t 28)
 (.skip)
 (.exit 2)))
 (.seq (.block 3 (.seq (.reg [⟨some 31, none, .inl (.mv (.t 4))⟩,
 ⟨some 32, none, .inl (.mv (.t 5))⟩,
 ⟨some 33, none, .inl (.mv (.t 3))⟩,
 ⟨some 34, none, .inl (.bin .add (.t 33) (.c (.int .i64 1)))⟩,
 ⟨some 35, none, .inl (.conv .u8 (.t 34))⟩,
 ⟨some 36, none, .inl (.iaddr 1 (.t 31) (.t 32))⟩,
 ⟨none, none, .inr (.store 1 (.t 36) (.t 35))⟩])
 (.keep [0, 3, 4, 5])))
 (.seq (.reg [⟨some 29, none, .inl (.mv (.t 5))⟩,
 ⟨some 30, none, .inl (.bin .add (.t 29) (.c (.int .i64 1)))⟩,
 ⟨some 5, none, .inl (.mv (.t 30))⟩])
 (.keep [0, 3, 4, 5])))))))))
 (.seq (.reg [⟨some 13, none, .inl (.mv (.t 3))⟩,
 ⟨some 14, none, .inl (.bin .add (.t 13) (.c (.int .i64 1)))⟩,
 ⟨some 3, none, .inl (.mv (.t 14))⟩])
 (.keep [0, 3])))))))
 (.seq (.seq (.seq (.reg [⟨some 6, none, .inl (.mv (.c (.int .i64 0)))⟩])
 (.keep [0, 6]))
 (.block 4 (.loop [0, 6] (.seq (.seq (.seq (.reg [⟨some 37, none, .inl (.mv (.t 6))⟩,
 ⟨some 38, none, .inl (.mv (.t 0))⟩,
 ⟨some 39, none, .inl (.len (.t 38))⟩,
 ⟨some 40, none, .inl (.bin .lss (.t 37) (.t 39))⟩])
 (.keep [0, 6, 40]))
 (.cond (.t 40)
 (.skip)
 (.exit 4)))
 (.seq (.block 5 (.seq (.seq (.ord [⟨0, ⟨some 43, none, .inl (.mv (.t 0))⟩, [], false⟩,
 ⟨1, ⟨some 44, none, .inl (.mv (.t 6))⟩, [], false⟩,
 ⟨2, ⟨some 45, none, .inl (.iaddr 1 (.t 43) (.t 44))⟩, [], false⟩,
 ⟨3, ⟨some 46, none, .inl (.load false 1 (.t 45))⟩, [], false⟩,
 ⟨4, ⟨some 47, none, .inl (.mv (.t 0))⟩, [], false⟩,
 ⟨5, ⟨some 48, none, .inl (.mv (.t 6))⟩, [], false⟩,
 ⟨6, ⟨some 49, none, .inl (.iaddr 1 (.t 47) (.t 48))⟩, [], false⟩,
 ⟨7, ⟨some 50, none, .inl (.load false 1 (.t 49))⟩, [], false⟩,
 ⟨8, ⟨some 51, none, .inl (.cap (.t 50))⟩, [], false⟩,
 ⟨9, ⟨some 52, none, .inl (.slice 1 (.t 46) none (some (.t 51)) none)⟩, [], false⟩,
 ⟨10, ⟨some 7, none, .inl (.mv (.t 52))⟩, [], false⟩])
 (.keep [0, 6, 7]))
 (.seq (.seq (.reg [⟨some 8, none, .inl (.mv (.c (.int .i64 0)))⟩])
 (.keep [0, 6, 7, 8]))
 (.block 6 (.loop [0, 6, 7, 8] (.seq (.seq (.seq (.reg [⟨some 53, none, .inl (.mv (.t 8))⟩,
 ⟨some 54, none, .inl (.mv (.t 7))⟩,
 ⟨some 55, none, .inl (.len (.t 54))⟩,
 ⟨some 56, none, .inl (.bin .lss (.t 53) (.t 55))⟩])
 (.keep [0, 6, 7, 8, 56]))
 (.cond (.t 56)
 (.skip)
 (.exit 6)))
 (.seq (.block 7 (.seq (.seq (.reg [⟨some 59, none, .inl (.mv (.t 7))⟩,
 ⟨some 60, none, .inl (.mv (.t 8))⟩,
 ⟨some 61, none, .inl (.iaddr 1 (.t 59) (.t 60))⟩,
 ⟨some 62, none, .inl (.load false 1 (.t 61))⟩,
 ⟨some 63, none, .inl (.mv (.t 6))⟩,
 ⟨some 64, none, .inl (.bin .add (.t 63) (.c (.int .i64 1)))⟩,
 ⟨some 65, none, .inl (.conv .u8 (.t 64))⟩,
 ⟨some 66, none, .inl (.bin .neq (.t 62) (.t 65))⟩])
 (.keep [0, 6, 7, 8, 66]))
 (.cond (.t 66)
 (.seq (.seq (.reg [⟨some 2, none, .inl (.mv (.c (.bool false)))⟩])
 (.keep [2]))
 (.ret))
 (.skip))))
 (.seq (.reg [⟨some 57, none, .inl (.mv (.t 8))⟩,
 ⟨some 58, none, .inl (.bin .add (.t 57) (.c (.int .i64 1)))⟩,
 ⟨some 8, none, .inl (.mv (.t 58))⟩])
 (.keep [0, 6, 7, 8])))))))))
 (.seq (.reg [⟨some 41, none, .inl (.mv (.t 6))⟩,
 ⟨some 42, none, .inl (.bin .add (.t 41) (.c (.int .i64 1)))⟩,
 ⟨some 6, none, .inl (.mv (.t 42))⟩])
 (.keep [0, 6])))))))
 (.seq (.seq (.reg [⟨some 2, none, .inl (.mv (.c (.bool true)))⟩])
 (.keep [2]))
 (.ret))))
def fc_joistlaw01_Owned : FC := ⟨67, cmd_joistlaw01_Owned, [.t 2]⟩
theorem fc_joistlaw01_Owned_ok : compF Try.prog 13 [[0], [0, 3], [0, 3], [0, 3, 12], [0, 3, 4], [0, 1, 2, 3, 4, 5, 6, 7, 8, 9, 10], [0, 3, 4, 5], [0, 3, 4, 5], [0, 3, 4, 5, 28], [0, 3, 4, 5], [0, 3, 4, 5], [0, 3], [0, 6], [0, 6], [0, 6, 40], [0, 6, 7], [0, 1, 2, 3, 4, 5, 6, 7, 8, 9, 10], [0, 6, 7, 8], [0, 6, 7, 8], [0, 6, 7, 8, 56], [0, 6, 7, 8, 66], [2], [0, 6, 7, 8], [0, 6], [2]] = some fc_joistlaw01_Owned := by kernel_rfl
/-- joist/wal.Right -/
abbrev F.wal_Right : Nat := 14
def cmd_wal_Right : Cmd :=
  .seq (.seq (.reg [⟨some 2, none, .inr (.box 3 (.t 0))⟩,
 ⟨some 4, none, .inl (.mv (.c (.bool false)))⟩])
 (.keep [1, 2]))
 (.seq (.block 0 (.seq (.seq (.seq (.reg [⟨some 6, none, .inl (.faddr 2 (.t 2))⟩,
 ⟨some 7, none, .inl (.load false 1 (.t 6))⟩,
 ⟨some 8, none, .inl (.bin .lss (.t 7) (.c (.int .i64 1)))⟩,
 ⟨some 5, none, .inl (.mv (.t 8))⟩])
 (.keep [1, 2, 5]))
 (.cond (.t 5)
 (.skip)
 (.seq (.seq (.reg [⟨some 9, none, .inl (.faddr 2 (.t 2))⟩,
 ⟨some 10, none, .inl (.load false 1 (.t 9))⟩,
 ⟨some 11, none, .inl (.bin .gtr (.t 10) (.c (.int .i64 4096)))⟩,
 ⟨some 5, none, .inl (.mv (.t 11))⟩])
 (.keep [1, 2, 5]))
 (.cond (.t 5)
 (.skip)
 (.seq (.seq (.reg [⟨some 12, none, .inl (.faddr 1 (.t 2))⟩,
 ⟨some 13, none, .inl (.load false 1 (.t 12))⟩,
 ⟨some 14, none, .inl (.bin .lss (.t 13) (.c (.int .i64 0)))⟩,
 ⟨some 5, none, .inl (.mv (.t 14))⟩])
 (.keep [1, 2, 5]))
 (.cond (.t 5)
 (.skip)
 (.seq (.reg [⟨some 15, none, .inl (.faddr 1 (.t 2))⟩,
 ⟨some 16, none, .inl (.load false 1 (.t 15))⟩,
 ⟨some 17, none, .inl (.mv (.t 1))⟩,
 ⟨some 18, none, .inl (.bin .gtr (.t 16) (.t 17))⟩,
 ⟨some 5, none, .inl (.mv (.t 18))⟩])
 (.keep [1, 2, 5]))))))))
 (.cond (.t 5)
 (.seq (.seq (.reg [⟨some 4, none, .inl (.mv (.c (.bool false)))⟩])
 (.keep [4]))
 (.ret))
 (.seq (.seq (.seq (.reg [⟨some 20, none, .inl (.faddr 2 (.t 2))⟩,
 ⟨some 21, none, .inl (.load false 1 (.t 20))⟩,
 ⟨some 22, none, .inl (.bin .mul (.c (.int .i64 2)) (.t 21))⟩,
 ⟨some 23, none, .inl (.mv (.t 1))⟩,
 ⟨some 24, none, .inl (.faddr 1 (.t 2))⟩,
 ⟨some 25, none, .inl (.load false 1 (.t 24))⟩,
 ⟨some 26, none, .inl (.bin .sub (.t 23) (.t 25))⟩,
 ⟨some 27, none, .inl (.bin .gtr (.t 22) (.t 26))⟩,
 ⟨some 19, none, .inl (.mv (.t 27))⟩])
 (.keep [1, 2, 19]))
 (.cond (.t 19)
 (.skip)
 (.seq (.seq (.reg [⟨some 28, none, .inl (.faddr 0 (.t 2))⟩,
 ⟨some 29, none, .inl (.load false 1 (.t 28))⟩,
 ⟨some 30, none, .inl (.bin .lss (.t 29) (.c (.int .i64 0)))⟩,
 ⟨some 19, none, .inl (.mv (.t 30))⟩])
 (.keep [1, 2, 19]))
 (.cond (.t 19)
 (.skip)
 (.seq (.reg [⟨some 31, none, .inl (.faddr 0 (.t 2))⟩,
 ⟨some 32, none, .inl (.load false 1 (.t 31))⟩,
 ⟨some 33, none, .inl (.mv (.t 1))⟩,
 ⟨some 34, none, .inl (.bin .geq (.t 32) (.t 33))⟩,
 ⟨some 19, none, .inl (.mv (.t 34))⟩])
 (.keep [2, 19]))))))
 (.cond (.t 19)
 (.seq (.seq (.reg [⟨some 4, none, .inl (.mv (.c (.bool false)))⟩])
 (.keep [4]))
 (.ret))
 (.skip))))))
 (.seq (.seq (.reg [⟨some 35, none, .inl (.faddr 0 (.t 2))⟩,
 ⟨some 36, none, .inl (.load false 1 (.t 35))⟩,
 ⟨some 37, none, .inl (.faddr 1 (.t 2))⟩,
 ⟨some 38, none, .inl (.load false 1 (.t 37))⟩,
 ⟨some 39, none, .inl (.bin .lss (.t 36) (.t 38))⟩,
 ⟨some 40, none, .inl (.mv (.t 39))⟩,
 ⟨some 41, (some (40, false)), .inl (.faddr 0 (.t 2))⟩,
 ⟨some 42, (some (40, false)), .inl (.load false 1 (.t 41))⟩,
 ⟨some 43, (some (40, false)), .inl (.faddr 1 (.t 2))⟩,
 ⟨some 44, (some (40, false)), .inl (.load false 1 (.t 43))⟩,
 ⟨some 45, (some (40, false)), .inl (.bin .sub (.t 42) (.t 44))⟩,
 ⟨some 46, (some (40, false)), .inl (.faddr 2 (.t 2))⟩,
 ⟨some 47, (some (40, false)), .inl (.load false 1 (.t 46))⟩,
 ⟨some 48, (some (40, false)), .inl (.bin .mul (.c (.int .i64 2)) (.t 47))⟩,
 ⟨some 49, (some (40, false)), .inl (.bin .geq (.t 45) (.t 48))⟩,
 ⟨some 50, none, .inl (.pick (.t 40) (.c (.bool true)) (.t 49))⟩,
 ⟨some 4, none, .inl (.mv (.t 50))⟩])
 (.keep [4]))
 (.ret)))
def fc_wal_Right : FC := ⟨51, cmd_wal_Right, [.t 4]⟩
theorem fc_wal_Right_ok : compF Try.prog 14 [[1, 2], [1, 2, 5], [1, 2, 5], [1, 2, 5], [1, 2, 5], [4], [1, 2, 19], [1, 2, 19], [2, 19], [4], [4]] = some fc_wal_Right := by kernel_rfl
/-- joist/joistref05.Right -/
abbrev F.joistref05_Right : Nat := 15
def cmd_joistref05_Right : Cmd :=
  .seq (.seq (.reg [⟨some 2, none, .inr (.box 3 (.t 0))⟩,
 ⟨some 4, none, .inl (.mv (.c (.bool false)))⟩])
 (.keep [1, 2]))
 (.seq (.seq (.seq (.reg [⟨some 5, none, .inl (.faddr 2 (.t 2))⟩,
 ⟨some 6, none, .inl (.load false 1 (.t 5))⟩,
 ⟨some 7, none, .inl (.bin .lss (.t 6) (.c (.int .i64 1)))⟩,
 ⟨some 8, none, .inl (.mv (.t 7))⟩,
 ⟨some 9, (some (8, false)), .inl (.faddr 2 (.t 2))⟩,
 ⟨some 10, (some (8, false)), .inl (.load false 1 (.t 9))⟩,
 ⟨some 11, (some (8, false)), .inl (.bin .gtr (.t 10) (.c (.int .i64 4096)))⟩,
 ⟨some 12, none, .inl (.pick (.t 8) (.c (.bool true)) (.t 11))⟩,
 ⟨some 13, none, .inl (.mv (.t 12))⟩,
 ⟨some 14, (some (13, false)), .inl (.faddr 1 (.t 2))⟩,
 ⟨some 15, (some (13, false)), .inl (.load false 1 (.t 14))⟩,
 ⟨some 16, (some (13, false)), .inl (.bin .lss (.t 15) (.c (.int .i64 0)))⟩,
 ⟨some 17, none, .inl (.pick (.t 13) (.c (.bool true)) (.t 16))⟩,
 ⟨some 18, none, .inl (.mv (.t 17))⟩,
 ⟨some 19, (some (18, false)), .inl (.faddr 1 (.t 2))⟩,
 ⟨some 20, (some (18, false)), .inl (.load false 1 (.t 19))⟩,
 ⟨some 21, (some (18, false)), .inl (.mv (.t 1))⟩,
 ⟨some 22, (some (18, false)), .inl (.bin .gtr (.t 20) (.t 21))⟩,
 ⟨some 23, none, .inl (.pick (.t 18) (.c (.bool true)) (.t 22))⟩,
 ⟨some 24, none, .inl (.mv (.t 23))⟩,
 ⟨some 25, (some (24, false)), .inl (.mv (.t 1))⟩,
 ⟨some 26, (some (24, false)), .inl (.faddr 1 (.t 2))⟩,
 ⟨some 27, (some (24, false)), .inl (.load false 1 (.t 26))⟩,
 ⟨some 28, (some (24, false)), .inl (.bin .sub (.t 25) (.t 27))⟩,
 ⟨some 29, (some (24, false)), .inl (.faddr 2 (.t 2))⟩,
 ⟨some 30, (some (24, false)), .inl (.load false 1 (.t 29))⟩,
 ⟨some 31, (some (24, false)), .inl (.bin .mul (.c (.int .i64 2)) (.t 30))⟩,
 ⟨some 32, (some (24, false)), .inl (.bin .lss (.t 28) (.t 31))⟩,
 ⟨some 33, none, .inl (.pick (.t 24) (.c (.bool true)) (.t 32))⟩,
 ⟨some 34, none, .inl (.mv (.t 33))⟩,
 ⟨some 35, (some (34, false)), .inl (.faddr 0 (.t 2))⟩,
 ⟨some 36, (some (34, false)), .inl (.load false 1 (.t 35))⟩,
 ⟨some 37, (some (34, false)), .inl (.bin .lss (.t 36) (.c (.int .i64 0)))⟩,
 ⟨some 38, none, .inl (.pick (.t 34) (.c (.bool true)) (.t 37))⟩,
 ⟨some 39, none, .inl (.mv (.t 38))⟩,
 ⟨some 40, (some (39, false)), .inl (.faddr 0 (.t 2))⟩,
 ⟨some 41, (some (39, false)), .inl (.load false 1 (.t 40))⟩,
 ⟨some 42, (some (39, false)), .inl (.mv (.t 1))⟩,
 ⟨some 43, (some (39, false)), .inl (.bin .geq (.t 41) (.t 42))⟩,
 ⟨some 44, none, .inl (.pick (.t 39) (.c (.bool true)) (.t 43))⟩])
 (.keep [2, 44]))
 (.cond (.t 44)
 (.seq (.seq (.reg [⟨some 4, none, .inl (.mv (.c (.bool false)))⟩])
 (.keep [4]))
 (.ret))
 (.skip)))
 (.seq (.seq (.reg [⟨some 45, none, .inl (.faddr 0 (.t 2))⟩,
 ⟨some 46, none, .inl (.load false 1 (.t 45))⟩,
 ⟨some 47, none, .inl (.faddr 1 (.t 2))⟩,
 ⟨some 48, none, .inl (.load false 1 (.t 47))⟩,
 ⟨some 49, none, .inl (.bin .lss (.t 46) (.t 48))⟩,
 ⟨some 50, none, .inl (.mv (.t 49))⟩,
 ⟨some 51, (some (50, false)), .inl (.faddr 0 (.t 2))⟩,
 ⟨some 52, (some (50, false)), .inl (.load false 1 (.t 51))⟩,
 ⟨some 53, (some (50, false)), .inl (.faddr 1 (.t 2))⟩,
 ⟨some 54, (some (50, false)), .inl (.load false 1 (.t 53))⟩,
 ⟨some 55, (some (50, false)), .inl (.faddr 2 (.t 2))⟩,
 ⟨some 56, (some (50, false)), .inl (.load false 1 (.t 55))⟩,
 ⟨some 57, (some (50, false)), .inl (.bin .mul (.c (.int .i64 2)) (.t 56))⟩,
 ⟨some 58, (some (50, false)), .inl (.bin .add (.t 54) (.t 57))⟩,
 ⟨some 59, (some (50, false)), .inl (.bin .geq (.t 52) (.t 58))⟩,
 ⟨some 60, none, .inl (.pick (.t 50) (.c (.bool true)) (.t 59))⟩,
 ⟨some 4, none, .inl (.mv (.t 60))⟩])
 (.keep [4]))
 (.ret)))
def fc_joistref05_Right : FC := ⟨61, cmd_joistref05_Right, [.t 4]⟩
theorem fc_joistref05_Right_ok : compF Try.prog 15 [[1, 2], [2, 44], [4], [4]] = some fc_joistref05_Right := by kernel_rfl
/-- joist/wal.Mine -/
abbrev F.wal_Mine : Nat := 16
def cmd_wal_Mine : Cmd :=
  .seq (.seq (.reg [⟨some 2, none, .inr (.box 3 (.t 0))⟩,
 ⟨some 4, none, .inl (.mv (.c (.bool false)))⟩])
 (.keep [1, 2]))
 (.seq (.seq (.reg [⟨some 5, none, .inl (.load true 3 (.t 2))⟩,
 ⟨some 6, none, .inr (.call 14 [(.t 5), (.c (.int .i64 4096))])⟩,
 ⟨some 7, none, .inl (.mv (.t 6))⟩,
 ⟨some 8, (some (7, true)), .inl (.mv (.t 1))⟩,
 ⟨some 9, (some (7, true)), .inl (.faddr 0 (.t 2))⟩,
 ⟨some 10, (some (7, true)), .inl (.load false 1 (.t 9))⟩,
 ⟨some 11, (some (7, true)), .inl (.bin .eql (.t 8) (.t 10))⟩,
 ⟨some 12, (some (7, true)), .inl (.mv (.t 11))⟩,
 ⟨some 13, (some (12, false)), .inl (.mv (.t 1))⟩,
 ⟨some 14, (some (12, false)), .inl (.faddr 1 (.t 2))⟩,
 ⟨some 15, (some (12, false)), .inl (.load false 1 (.t 14))⟩,
 ⟨some 16, (some (12, false)), .inl (.bin .geq (.t 13) (.t 15))⟩,
 ⟨some 17, (some (12, false)), .inl (.mv (.t 16))⟩,
 ⟨some 18, (some (17, true)), .inl (.mv (.t 1))⟩,
 ⟨some 19, (some (17, true)), .inl (.faddr 1 (.t 2))⟩,
 ⟨some 20, (some (17, true)), .inl (.load false 1 (.t 19))⟩,
 ⟨some 21, (some (17, true)), .inl (.bin .sub (.t 18) (.t 20))⟩,
 ⟨some 22, (some (17, true)), .inl (.faddr 2 (.t 2))⟩,
 ⟨some 23, (some (17, true)), .inl (.load false 1 (.t 22))⟩,
 ⟨some 24, (some (17, true)), .inl (.bin .mul (.c (.int .i64 2)) (.t 23))⟩,
 ⟨some 25, (some (17, true)), .inl (.bin .lss (.t 21) (.t 24))⟩,
 ⟨some 26, (some (12, false)), .inl (.pick (.t 17) (.t 25) (.c (.bool false)))⟩,
 ⟨some 27, (some (7, true)), .inl (.pick (.t 12) (.c (.bool true)) (.t 26))⟩,
 ⟨some 28, none, .inl (.pick (.t 7) (.t 27) (.c (.bool false)))⟩,
 ⟨some 4, none, .inl (.mv (.t 28))⟩])
 (.keep [4]))
 (.ret))
def fc_wal_Mine : FC := ⟨29, cmd_wal_Mine, [.t 4]⟩
theorem fc_wal_Mine_ok : compF Try.prog 16 [[1, 2], [4]] = some fc_wal_Mine := by kernel_rfl
/-- joist/joistref05.Mine -/
abbrev F.joistref05_Mine : Nat := 17
def cmd_joistref05_Mine : Cmd :=
  .seq (.seq (.reg [⟨some 2, none, .inr (.box 3 (.t 0))⟩,
 ⟨some 4, none, .inl (.mv (.c (.bool false)))⟩])
 (.keep [1, 2]))
 (.seq (.seq (.reg [⟨some 6, none, .inl (.load true 3 (.t 2))⟩,
 ⟨some 7, none, .inr (.call 15 [(.t 6), (.c (.int .i64 4096))])⟩,
 ⟨some 5, none, .inl (.mv (.t 7))⟩])
 (.keep [1, 2, 5]))
 (.seq (.seq (.reg [⟨some 8, none, .inl (.mv (.t 5))⟩,
 ⟨some 9, none, .inl (.mv (.t 8))⟩,
 ⟨some 10, (some (9, true)), .inl (.mv (.t 1))⟩,
 ⟨some 11, (some (9, true)), .inl (.faddr 0 (.t 2))⟩,
 ⟨some 12, (some (9, true)), .inl (.load false 1 (.t 11))⟩,
 ⟨some 13, (some (9, true)), .inl (.bin .eql (.t 10) (.t 12))⟩,
 ⟨some 14, (some (9, true)), .inl (.mv (.t 13))⟩,
 ⟨some 15, (some (14, false)), .inl (.mv (.t 1))⟩,
 ⟨some 16, (some (14, false)), .inl (.faddr 1 (.t 2))⟩,
 ⟨some 17, (some (14, false)), .inl (.load false 1 (.t 16))⟩,
 ⟨some 18, (some (14, false)), .inl (.bin .geq (.t 15) (.t 17))⟩,
 ⟨some 19, (some (14, false)), .inl (.mv (.t 18))⟩,
 ⟨some 20, (some (19, true)), .inl (.mv (.t 1))⟩,
 ⟨some 21, (some (19, true)), .inl (.faddr 1 (.t 2))⟩,
 ⟨some 22, (some (19, true)), .inl (.load false 1 (.t 21))⟩,
 ⟨some 23, (some (19, true)), .inl (.bin .sub (.t 20) (.t 22))⟩,
 ⟨some 24, (some (19, true)), .inl (.faddr 2 (.t 2))⟩,
 ⟨some 25, (some (19, true)), .inl (.load false 1 (.t 24))⟩,
 ⟨some 26, (some (19, true)), .inl (.bin .mul (.c (.int .i64 2)) (.t 25))⟩,
 ⟨some 27, (some (19, true)), .inl (.bin .lss (.t 23) (.t 26))⟩,
 ⟨some 28, (some (14, false)), .inl (.pick (.t 19) (.t 27) (.c (.bool false)))⟩,
 ⟨some 29, (some (9, true)), .inl (.pick (.t 14) (.c (.bool true)) (.t 28))⟩,
 ⟨some 30, none, .inl (.pick (.t 9) (.t 29) (.c (.bool false)))⟩,
 ⟨some 4, none, .inl (.mv (.t 30))⟩])
 (.keep [4]))
 (.ret)))
def fc_joistref05_Mine : FC := ⟨31, cmd_joistref05_Mine, [.t 4]⟩
theorem fc_joistref05_Mine_ok : compF Try.prog 17 [[1, 2], [1, 2, 5], [4]] = some fc_joistref05_Mine := by kernel_rfl
/-- joist/lines.Right -/
abbrev F.lines_Right : Nat := 18
def cmd_lines_Right : Cmd :=
  .seq (.seq (.reg [⟨some 4, none, .inl (.mv (.c (.bool false)))⟩])
 (.keep [0, 1]))
 (.seq (.seq (.seq (.reg [⟨some 7, none, .inl (.mv (.t 1))⟩,
 ⟨some 8, none, .inl (.len (.t 7))⟩,
 ⟨some 9, none, .inl (.mv (.c (.int .i64 0)))⟩])
 (.keep [0, 1, 7, 8, 9]))
 (.block 0 (.loop [0, 1, 7, 8, 9] (.seq (.seq (.reg [⟨some 10, none, .inl (.bin .lss (.t 9) (.t 8))⟩])
 (.keep [0, 1, 7, 8, 9, 10]))
 (.seq (.cond (.t 10)
 (.skip)
 (.exit 0))
 (.seq (.block 1 (.seq (.seq (.reg [⟨some 11, none, .inl (.mv (.t 9))⟩,
 ⟨some 12, none, .inl (.iaddr 2 (.t 7) (.t 9))⟩,
 ⟨some 13, none, .inl (.load true 2 (.t 12))⟩,
 ⟨some 6, none, .inr (.alloc [(.int .i64 0), .nils])⟩,
 ⟨some 5, none, .inl (.mv (.t 11))⟩,
 ⟨none, none, .inr (.store 2 (.t 6) (.t 13))⟩])
 (.keep [0, 1, 5, 6, 7, 8, 9]))
 (.seq (.seq (.ord [⟨0, ⟨some 14, none, .inl (.mv (.t 0))⟩, [], false⟩,
 ⟨1, ⟨some 15, none, .inl (.load true 2 (.t 6))⟩, [], false⟩,
 ⟨2, ⟨some 16, none, .inr (.call 44 [(.t 14), (.t 15)])⟩, [], false⟩,
 ⟨3, ⟨some 17, none, .inl (.un .not (.t 16))⟩, [], false⟩,
 ⟨4, ⟨some 18, none, .inl (.mv (.t 17))⟩, [], false⟩,
 ⟨5, ⟨some 19, (some (18, false)), .inl (.mv (.t 5))⟩, [], false⟩,
 ⟨6, ⟨some 20, (some (18, false)), .inl (.bin .gtr (.t 19) (.c (.int .i64 0)))⟩, [], false⟩,
 ⟨7, ⟨some 21, (some (18, false)), .inl (.mv (.t 20))⟩, [], false⟩,
 ⟨8, ⟨some 22, (some (21, true)), .inl (.faddr 0 (.t 6))⟩, [], false⟩,
 ⟨9, ⟨some 23, (some (21, true)), .inl (.load false 1 (.t 22))⟩, [], false⟩,
 ⟨10, ⟨some 24, (some (21, true)), .inl (.mv (.t 1))⟩, [], false⟩,
 ⟨11, ⟨some 25, (some (21, true)), .inl (.mv (.t 5))⟩, [], false⟩,
 ⟨12, ⟨some 26, (some (21, true)), .inl (.bin .sub (.t 25) (.c (.int .i64 1)))⟩, [], false⟩,
 ⟨13, ⟨some 27, (some (21, true)), .inl (.iaddr 2 (.t 24) (.t 26))⟩, [], false⟩,
 ⟨14, ⟨some 28, (some (21, true)), .inl (.faddr 0 (.t 27))⟩, [], false⟩,
 ⟨15, ⟨some 29, (some (21, true)), .inl (.load false 1 (.t 28))⟩, [], false⟩,
 ⟨16, ⟨some 30, (some (21, true)), .inl (.bin .leq (.t 23) (.t 29))⟩, [], false⟩,
 ⟨17, ⟨some 31, (some (18, false)), .inl (.pick (.t 21) (.t 30) (.c (.bool false)))⟩, [], false⟩,
 ⟨18, ⟨some 32, none, .inl (.pick (.t 18) (.c (.bool true)) (.t 31))⟩, [], false⟩])
 (.keep [0, 1, 7, 8, 9, 32]))
 (.cond (.t 32)
 (.seq (.seq (.reg [⟨some 4, none, .inl (.mv (.c (.bool false)))⟩])
 (.keep [4]))
 (.ret))
 (.skip)))))
 (.seq (.reg [⟨some 33, none, .inl (.bin .add (.t 9) (.c (.int .i64 1)))⟩,
 ⟨some 9, none, .inl (.mv (.t 33))⟩])
 (.keep [0, 1, 7, 8, 9]))))))))
 (.seq (.seq (.reg [⟨some 4, none, .inl (.mv (.c (.bool true)))⟩])
 (.keep [4]))
 (.ret)))
def fc_lines_Right : FC := ⟨34, cmd_lines_Right, [.t 4]⟩
theorem fc_lines_Right_ok : compF Try.prog 18 [[0, 1], [0, 1, 7, 8, 9], [0, 1, 7, 8, 9], [0, 1, 7, 8, 9, 10], [0, 1, 5, 6, 7, 8, 9], [0, 1, 7, 8, 9, 32], [0, 1, 2, 3, 4, 5, 6, 7, 8, 9, 10, 11, 12, 13, 14, 15, 16, 17, 18], [4], [0, 1, 7, 8, 9], [4]] = some fc_lines_Right := by kernel_rfl
/-- joist/pmem.New -/
abbrev F.pmem_New : Nat := 19
def cmd_pmem_New : Cmd :=
  .seq (.seq (.reg [⟨some 2, none, .inl (.mv (.c .nilp))⟩,
 ⟨some 3, none, .inl (.mv (.c (.int .i64 0)))⟩])
 (.keep [0]))
 (.seq (.seq (.seq (.reg [⟨some 4, none, .inl (.mv (.t 0))⟩,
 ⟨some 5, none, .inl (.len (.t 4))⟩,
 ⟨some 6, none, .inl (.bin .eql (.t 5) (.c (.int .i64 0)))⟩,
 ⟨some 7, none, .inl (.mv (.t 6))⟩,
 ⟨some 8, (some (7, false)), .inl (.mv (.t 0))⟩,
 ⟨some 9, (some (7, false)), .inl (.len (.t 8))⟩,
 ⟨some 10, (some (7, false)), .inl (.bin .rem (.t 9) (.c (.int .i64 64)))⟩,
 ⟨some 11, (some (7, false)), .inl (.bin .neq (.t 10) (.c (.int .i64 0)))⟩,
 ⟨some 12, none, .inl (.pick (.t 7) (.c (.bool true)) (.t 11))⟩,
 ⟨some 13, none, .inl (.mv (.t 12))⟩,
 ⟨some 14, (some (13, false)), .inl (.mv (.t 0))⟩,
 ⟨some 15, (some (13, false)), .inl (.len (.t 14))⟩,
 ⟨some 16, (some (13, false)), .inl (.bin .quo (.t 15) (.c (.int .i64 64)))⟩,
 ⟨some 17, (some (13, false)), .inl (.bin .gtr (.t 16) (.c (.int .i64 4096)))⟩,
 ⟨some 18, none, .inl (.pick (.t 13) (.c (.bool true)) (.t 17))⟩])
 (.keep [0, 18]))
 (.cond (.t 18)
 (.seq (.seq (.reg [⟨some 2, none, .inl (.mv (.c .nilp))⟩,
 ⟨some 3, none, .inl (.mv (.c (.int .i64 1)))⟩])
 (.keep [2, 3]))
 (.ret))
 (.skip)))
 (.seq (.seq (.reg [⟨some 19, none, .inl (.mv (.t 0))⟩,
 ⟨some 20, none, .inr (.call 45 [(.t 19)])⟩,
 ⟨some 21, none, .inl (.mv (.t 0))⟩,
 ⟨some 22, none, .inr (.call 45 [(.t 21)])⟩,
 ⟨some 23, none, .inr (.mkmap)⟩,
 ⟨some 24, none, .inl (.build [.nils, .nils, .any, (.int .i64 0), (.bool false)] [(0, 1, (.t 20)), (1, 1, (.t 22)), (2, 1, (.t 23))])⟩,
 ⟨some 25, none, .inr (.box 5 (.t 24))⟩,
 ⟨some 2, none, .inl (.mv (.t 25))⟩,
 ⟨some 3, none, .inl (.mv (.c (.int .i64 0)))⟩])
 (.keep [2, 3]))
 (.ret)))
def fc_pmem_New : FC := ⟨26, cmd_pmem_New, [.t 2, .t 3]⟩
theorem fc_pmem_New_ok : compF Try.prog 19 [[0], [0, 18], [2, 3], [2, 3]] = some fc_pmem_New := by kernel_rfl
/-- (*joist/pmem.Device).Arm -/
abbrev F.pmem_Device_Arm : Nat := 20
def cmd_pmem_Device_Arm : Cmd :=
  .seq (.reg [⟨some 4, none, .inl (.mv (.t 0))⟩,
 ⟨some 5, none, .inl (.mv (.t 1))⟩,
 ⟨some 6, none, .inl (.mx (.t 5) (.c (.int .i64 0)))⟩,
 ⟨some 7, none, .inl (.nilchk (.t 4))⟩,
 ⟨some 8, none, .inl (.faddr 3 (.t 7))⟩,
 ⟨none, none, .inr (.store 1 (.t 8) (.t 6))⟩])
 (.keep [])
def fc_pmem_Device_Arm : FC := ⟨9, cmd_pmem_Device_Arm, []⟩
theorem fc_pmem_Device_Arm_ok : compF Try.prog 20 [[]] = some fc_pmem_Device_Arm := by kernel_rfl
/-- joist/wal.Commit -/
abbrev F.wal_Commit : Nat := 21
def cmd_wal_Commit : Cmd :=
  .seq (.seq (.reg [⟨some 4, none, .inr (.box 3 (.t 1))⟩,
 ⟨some 6, none, .inl (.mv (.c (.int .i64 0)))⟩])
 (.keep [0, 2, 4]))
 (.seq (.seq (.seq (.ord [⟨0, ⟨some 11, none, .inl (.load true 3 (.t 4))⟩, [], true⟩,
 ⟨1, ⟨some 12, none, .inl (.mv (.t 0))⟩, [], false⟩,
 ⟨2, ⟨some 13, none, .inr (.call 46 [(.t 12)])⟩, [0], false⟩,
 ⟨3, ⟨some 14, none, .inr (.call 14 [(.t 11), (.t 13)])⟩, [], false⟩,
 ⟨4, ⟨some 15, none, .inl (.un .not (.t 14))⟩, [], false⟩,
 ⟨5, ⟨some 16, none, .inl (.mv (.t 15))⟩, [], false⟩,
 ⟨6, ⟨some 17, (some (16, false)), .inl (.mv (.t 0))⟩, [], false⟩,
 ⟨8, ⟨some 19, (some (16, false)), .inl (.mv (.t 2))⟩, [], true⟩,
 ⟨7, ⟨some 18, (some (16, false)), .inr (.call 46 [(.t 17)])⟩, [8], false⟩,
 ⟨9, ⟨some 20, (some (16, false)), .inr (.call 18 [(.t 18), (.t 19)])⟩, [], false⟩,
 ⟨10, ⟨some 21, (some (16, false)), .inl (.un .not (.t 20))⟩, [], false⟩,
 ⟨11, ⟨some 22, none, .inl (.pick (.t 16) (.c (.bool true)) (.t 21))⟩, [], false⟩])
 (.keep [0, 2, 4, 22]))
 (.cond (.t 22)
 (.seq (.seq (.reg [⟨some 6, none, .inl (.mv (.c (.int .i64 1)))⟩])
 (.keep [6]))
 (.ret))
 (.skip)))
 (.seq (.seq (.reg [⟨some 24, none, .inl (.load true 3 (.t 4))⟩,
 ⟨some 25, none, .inl (.mv (.t 2))⟩,
 ⟨some 26, none, .inr (.call 11 [(.t 24), (.t 25)])⟩,
 ⟨some 23, none, .inl (.mv (.t 26))⟩,
 ⟨some 27, none, .inl (.ext 0 (.t 23))⟩,
 ⟨some 28, none, .inl (.ext 1 (.t 23))⟩,
 ⟨some 29, none, .inl (.ext 2 (.t 23))⟩,
 ⟨some 7, none, .inl (.mv (.t 27))⟩,
 ⟨some 8, none, .inl (.mv (.t 28))⟩,
 ⟨some 9, none, .inl (.mv (.t 29))⟩])
 (.keep [0, 2, 4, 7, 8, 9]))
 (.seq (.seq (.seq (.reg [⟨some 30, none, .inl (.mv (.t 9))⟩,
 ⟨some 31, none, .inl (.bin .neq (.t 30) (.c (.int .i64 0)))⟩,
 ⟨some 32, none, .inl (.mv (.t 31))⟩,
 ⟨some 33, (some (32, false)), .inl (.mv (.t 2))⟩,
 ⟨some 34, (some (32, false)), .inl (.len (.t 33))⟩,
 ⟨some 35, (some (32, false)), .inl (.bin .eql (.t 34) (.c (.int .i64 0)))⟩,
 ⟨some 36, none, .inl (.pick (.t 32) (.c (.bool true)) (.t 35))⟩])
 (.keep [0, 2, 4, 7, 8, 9, 36]))
 (.cond (.t 36)
 (.seq (.seq (.reg [⟨some 37, none, .inl (.mv (.t 9))⟩,
 ⟨some 6, none, .inl (.mv (.t 37))⟩])
 (.keep [6]))
 (.ret))
 (.skip)))
 (.seq (.seq (.reg [⟨some 38, none, .inl (.mv (.t 0))⟩,
 ⟨some 39, none, .inl (.build [.nilp, (.int .i64 0)] [(0, 1, (.t 38))])⟩,
 ⟨some 40, none, .inr (.box 2 (.t 39))⟩,
 ⟨some 10, none, .inl (.mv (.t 40))⟩])
 (.keep [2, 4, 7, 8, 10]))
 (.seq (.seq (.reg [⟨some 41, none, .inl (.mv (.t 10))⟩,
 ⟨some 42, none, .inl (.faddr 1 (.t 4))⟩,
 ⟨some 43, none, .inl (.load false 1 (.t 42))⟩,
 ⟨some 44, none, .inl (.mv (.t 7))⟩,
 ⟨some 45, none, .inr (.call 47 [(.t 41), (.t 43), (.t 44)])⟩])
 (.keep [2, 4, 8, 10]))
 (.seq (.seq (.reg [⟨some 46, none, .inl (.mv (.t 10))⟩,
 ⟨some 47, none, .inr (.call 48 [(.t 46)])⟩])
 (.keep [2, 4, 8, 10]))
 (.seq (.seq (.reg [⟨some 48, none, .inl (.mv (.t 10))⟩,
 ⟨some 49, none, .inl (.faddr 0 (.t 4))⟩,
 ⟨some 50, none, .inl (.load false 1 (.t 49))⟩,
 ⟨some 51, none, .inl (.mv (.t 8))⟩,
 ⟨some 52, none, .inr (.call 47 [(.t 48), (.t 50), (.t 51)])⟩])
 (.keep [2, 4, 10]))
 (.seq (.seq (.reg [⟨some 53, none, .inl (.mv (.t 10))⟩,
 ⟨some 54, none, .inr (.call 48 [(.t 53)])⟩])
 (.keep [2, 4, 10]))
 (.seq (.seq (.reg [⟨some 55, none, .inl (.mv (.t 10))⟩,
 ⟨some 56, none, .inl (.load true 3 (.t 4))⟩,
 ⟨some 57, none, .inl (.mv (.t 2))⟩,
 ⟨some 58, none, .inr (.call 49 [(.t 55), (.t 56), (.t 57)])⟩,
 ⟨some 6, none, .inl (.mv (.t 58))⟩])
 (.keep [6]))
 (.ret))))))))))
def fc_wal_Commit : FC := ⟨59, cmd_wal_Commit, [.t 6]⟩
theorem fc_wal_Commit_ok : compF Try.prog 21 [[0, 2, 4], [0, 2, 4, 22], [0, 1, 2, 3, 4, 5, 6, 8, 7, 9, 10, 11], [6], [0, 2, 4, 7, 8, 9], [0, 2, 4, 7, 8, 9, 36], [6], [2, 4, 7, 8, 10], [2, 4, 8, 10], [2, 4, 8, 10], [2, 4, 10], [2, 4, 10], [6]] = some fc_wal_Commit := by kernel_rfl
/-- (*joist/pmem.Device).Down -/
abbrev F.pmem_Device_Down : Nat := 22
def cmd_pmem_Device_Down : Cmd :=
  .seq (.seq (.reg [⟨some 2, none, .inl (.mv (.c (.bool false)))⟩])
 (.keep [0]))
 (.seq (.seq (.reg [⟨some 3, none, .inl (.mv (.t 0))⟩,
 ⟨some 4, none, .inl (.nilchk (.t 3))⟩,
 ⟨some 5, none, .inl (.faddr 4 (.t 4))⟩,
 ⟨some 6, none, .inl (.load false 1 (.t 5))⟩,
 ⟨some 2, none, .inl (.mv (.t 6))⟩])
 (.keep [2]))
 (.ret))
def fc_pmem_Device_Down : FC := ⟨7, cmd_pmem_Device_Down, [.t 2]⟩
theorem fc_pmem_Device_Down_ok : compF Try.prog 22 [[0], [2]] = some fc_pmem_Device_Down := by kernel_rfl
/-- joist/joistlaw01.Lent -/
abbrev F.joistlaw01_Lent : Nat := 23
def cmd_joistlaw01_Lent : Cmd :=
  .seq (.seq (.reg [⟨some 2, none, .inl (.mv (.c .nils))⟩])
 (.keep [0]))
 (.seq (.seq (.reg [⟨some 4, none, .inl (.mv (.t 0))⟩,
 ⟨some 5, none, .inl (.len (.t 4))⟩,
 ⟨some 6, none, .inl (.mv (.t 0))⟩,
 ⟨some 7, none, .inl (.len (.t 6))⟩,
 ⟨some 8, none, .inl (.bin .add (.t 7) (.c (.int .i64 1)))⟩,
 ⟨some 9, none, .inr (.mksl 1 1 [(.int .u8 0)] (.t 5) (.t 8))⟩,
 ⟨some 3, none, .inl (.mv (.t 9))⟩])
 (.keep [0, 3]))
 (.seq (.seq (.reg [⟨some 10, none, .inl (.mv (.t 3))⟩,
 ⟨some 11, none, .inl (.mv (.t 0))⟩,
 ⟨some 12, none, .inr (.copy 1 (.t 10) (.t 11))⟩])
 (.keep [0, 3]))
 (.seq (.seq (.reg [⟨some 13, none, .inl (.mv (.t 3))⟩,
 ⟨some 14, none, .inl (.mv (.t 0))⟩,
 ⟨some 15, none, .inl (.len (.t 14))⟩,
 ⟨some 16, none, .inl (.bin .add (.t 15) (.c (.int .i64 1)))⟩,
 ⟨some 17, none, .inl (.slice 1 (.t 13) none (some (.t 16)) none)⟩,
 ⟨some 18, none, .inl (.mv (.t 0))⟩,
 ⟨some 19, none, .inl (.len (.t 18))⟩,
 ⟨some 20, none, .inl (.iaddr 1 (.t 17) (.t 19))⟩,
 ⟨none, none, .inr (.store 1 (.t 20) (.c (.int .u8 77)))⟩])
 (.keep [3]))
 (.seq (.seq (.reg [⟨some 21, none, .inl (.mv (.t 3))⟩,
 ⟨some 2, none, .inl (.mv (.t 21))⟩])
 (.keep [2]))
 (.ret)))))
def fc_joistlaw01_Lent : FC := ⟨22, cmd_joistlaw01_Lent, [.t 2]⟩
theorem fc_joistlaw01_Lent_ok : compF Try.prog 23 [[0], [0, 3], [0, 3], [3], [2]] = some fc_joistlaw01_Lent := by kernel_rfl
/-- joist/wal.Read -/
abbrev F.wal_Read : Nat := 24
def cmd_wal_Read : Cmd :=
  .seq (.seq (.reg [⟨some 2, none, .inr (.box 3 (.t 0))⟩,
 ⟨some 4, none, .inl (.mv (.c .nils))⟩,
 ⟨some 5, none, .inl (.mv (.c (.int .i64 0)))⟩])
 (.keep [1, 2]))
 (.seq (.seq (.reg [⟨some 15, none, .inl (.mv (.t 1))⟩,
 ⟨some 16, none, .inl (.len (.t 15))⟩,
 ⟨some 17, none, .inl (.bin .quo (.t 16) (.c (.int .i64 64)))⟩,
 ⟨some 6, none, .inl (.mv (.t 17))⟩])
 (.keep [1, 2, 6]))
 (.seq (.seq (.seq (.reg [⟨some 18, none, .inl (.mv (.t 1))⟩,
 ⟨some 19, none, .inl (.len (.t 18))⟩,
 ⟨some 20, none, .inl (.bin .rem (.t 19) (.c (.int .i64 64)))⟩,
 ⟨some 21, none, .inl (.bin .neq (.t 20) (.c (.int .i64 0)))⟩,
 ⟨some 22, none, .inl (.mv (.t 21))⟩,
 ⟨some 23, (some (22, false)), .inl (.mv (.t 6))⟩,
 ⟨some 24, (some (22, false)), .inl (.bin .gtr (.t 23) (.c (.int .i64 4096)))⟩,
 ⟨some 25, none, .inl (.pick (.t 22) (.c (.bool true)) (.t 24))⟩,
 ⟨some 26, none, .inl (.mv (.t 25))⟩,
 ⟨some 27, (some (26, false)), .inl (.load true 3 (.t 2))⟩,
 ⟨some 28, (some (26, false)), .inl (.mv (.t 6))⟩,
 ⟨some 29, (some (26, false)), .inr (.call 14 [(.t 27), (.t 28)])⟩,
 ⟨some 30, (some (26, false)), .inl (.un .not (.t 29))⟩,
 ⟨some 31, none, .inl (.pick (.t 26) (.c (.bool true)) (.t 30))⟩])
 (.keep [1, 2, 6, 31]))
 (.cond (.t 31)
 (.seq (.seq (.reg [⟨some 4, none, .inl (.mv (.c .nils))⟩,
 ⟨some 5, none, .inl (.mv (.c (.int .i64 1)))⟩])
 (.keep [4, 5]))
 (.ret))
 (.skip)))
 (.seq (.seq (.reg [⟨some 32, none, .inl (.faddr 0 (.t 2))⟩,
 ⟨some 33, none, .inl (.load false 1 (.t 32))⟩,
 ⟨some 34, none, .inl (.bin .mul (.t 33) (.c (.int .i64 64)))⟩,
 ⟨some 7, none, .inl (.mv (.t 34))⟩])
 (.keep [1, 2, 6, 7]))
 (.seq (.seq (.reg [⟨some 35, none, .inl (.mv (.t 1))⟩,
 ⟨some 36, none, .inl (.mv (.t 7))⟩,
 ⟨some 37, none, .inl (.mv (.t 7))⟩,
 ⟨some 38, none, .inl (.bin .add (.t 37) (.c (.int .i64 64)))⟩,
 ⟨some 39, none, .inl (.slice 1 (.t 35) (some (.t 36)) (some (.t 38)) none)⟩,
 ⟨some 8, none, .inl (.mv (.t 39))⟩])
 (.keep [1, 2, 6, 8]))
 (.seq (.seq (.seq (.reg [⟨some 40, none, .inl (.mv (.t 8))⟩,
 ⟨some 41, none, .inr (.call 50 [(.t 40)])⟩])
 (.keep [1, 2, 6, 8, 41]))
 (.cond (.t 41)
 (.seq (.seq (.reg [⟨some 4, none, .inl (.mv (.c .nils))⟩,
 ⟨some 5, none, .inl (.mv (.c (.int .i64 0)))⟩])
 (.keep [4, 5]))
 (.ret))
 (.skip)))
 (.seq (.seq (.reg [⟨some 43, none, .inl (.mv (.t 8))⟩,
 ⟨some 44, none, .inr (.call 51 [(.t 43), (.c (.int .i64 0))])⟩,
 ⟨some 42, none, .inl (.mv (.t 44))⟩,
 ⟨some 45, none, .inl (.ext 0 (.t 42))⟩,
 ⟨some 46, none, .inl (.ext 1 (.t 42))⟩,
 ⟨some 9, none, .inl (.mv (.t 45))⟩,
 ⟨some 10, none, .inl (.mv (.t 46))⟩])
 (.keep [1, 2, 6, 8, 9]))
 (.seq (.seq (.seq (.reg [⟨some 47, none, .inl (.mv (.t 9))⟩,
 ⟨some 48, none, .inl (.bin .lss (.t 47) (.c (.int .i64 1)))⟩,
 ⟨some 49, none, .inl (.mv (.t 48))⟩,
 ⟨some 50, (some (49, false)), .inl (.mv (.t 9))⟩,
 ⟨some 51, (some (49, false)), .inl (.faddr 2 (.t 2))⟩,
 ⟨some 52, (some (49, false)), .inl (.load false 1 (.t 51))⟩,
 ⟨some 53, (some (49, false)), .inl (.bin .gtr (.t 50) (.t 52))⟩,
 ⟨some 54, none, .inl (.pick (.t 49) (.c (.bool true)) (.t 53))⟩])
 (.keep [1, 2, 6, 8, 9, 54]))
 (.cond (.t 54)
 (.seq (.seq (.reg [⟨some 4, none, .inl (.mv (.c .nils))⟩,
 ⟨some 5, none, .inl (.mv (.c (.int .i64 7)))⟩])
 (.keep [4, 5]))
 (.ret))
 (.skip)))
 (.seq (.seq (.reg [⟨some 55, none, .inl (.mv (.t 1))⟩,
 ⟨some 56, none, .inl (.faddr 1 (.t 2))⟩,
 ⟨some 57, none, .inl (.load false 1 (.t 56))⟩,
 ⟨some 58, none, .inl (.bin .mul (.t 57) (.c (.int .i64 64)))⟩,
 ⟨some 59, none, .inl (.slice 1 (.t 55) (some (.t 58)) none none)⟩,
 ⟨some 11, none, .inl (.mv (.t 59))⟩])
 (.keep [1, 2, 6, 8, 9, 11]))
 (.seq (.seq (.reg [⟨some 12, none, .inl (.mv (.c .nils))⟩])
 (.keep [1, 2, 6, 8, 9, 11, 12]))
 (.seq (.seq (.seq (.reg [⟨some 60, none, .inl (.mv (.t 9))⟩,
 ⟨some 61, none, .inl (.mv (.c (.int .i64 0)))⟩])
 (.keep [1, 2, 6, 8, 11, 12, 60, 61]))
 (.block 0 (.loop [1, 2, 6, 8, 11, 12, 60, 61] (.seq (.seq (.reg [⟨some 62, none, .inl (.bin .lss (.t 61) (.t 60))⟩])
 (.keep [1, 2, 6, 8, 11, 12, 60, 61, 62]))
 (.seq (.cond (.t 62)
 (.skip)
 (.exit 0))
 (.seq (.block 1 (.seq (.seq (.reg [⟨some 64, none, .inl (.mv (.t 11))⟩,
 ⟨some 65, none, .inr (.call 51 [(.t 64), (.c (.int .i64 0))])⟩,
 ⟨some 63, none, .inl (.mv (.t 65))⟩,
 ⟨some 66, none, .inl (.ext 0 (.t 63))⟩,
 ⟨some 67, none, .inl (.ext 1 (.t 63))⟩,
 ⟨some 13, none, .inl (.mv (.t 66))⟩,
 ⟨some 14, none, .inl (.mv (.t 67))⟩])
 (.keep [1, 2, 6, 8, 11, 12, 13, 60, 61]))
 (.seq (.seq (.reg [⟨some 68, none, .inl (.mv (.t 12))⟩,
 ⟨some 69, none, .inl (.mv (.t 13))⟩,
 ⟨some 70, none, .inl (.mv (.t 11))⟩,
 ⟨some 71, none, .inl (.slice 1 (.t 70) (some (.c (.int .i64 64))) (some (.c (.int .i64 128))) none)⟩,
 ⟨some 72, none, .inr (.call 45 [(.t 71)])⟩,
 ⟨some 73, none, .inl (.build [(.int .i64 0), .nils] [(0, 1, (.t 69)), (1, 1, (.t 72))])⟩,
 ⟨some 74, none, .inr (.bslice 2 [(.int .i64 0), .nils] 1 [(0, (.t 73))])⟩,
 ⟨some 75, none, .inr (.append 2 32 (.t 68) (.t 74))⟩,
 ⟨some 12, none, .inl (.mv (.t 75))⟩])
 (.keep [1, 2, 6, 8, 11, 12, 60, 61]))
 (.seq (.reg [⟨some 76, none, .inl (.mv (.t 11))⟩,
 ⟨some 77, none, .inl (.slice 1 (.t 76) (some (.c (.int .i64 128))) none none)⟩,
 ⟨some 11, none, .inl (.mv (.t 77))⟩])
 (.keep [1, 2, 6, 8, 11, 12, 60, 61])))))
 (.seq (.reg [⟨some 78, none, .inl (.bin .add (.t 61) (.c (.int .i64 1)))⟩,
 ⟨some 61, none, .inl (.mv (.t 78))⟩])
 (.keep [1, 2, 6, 8, 11, 12, 60, 61]))))))))
 (.seq (.seq (.seq (.reg [⟨some 79, none, .inl (.mv (.t 6))⟩,
 ⟨some 80, none, .inl (.mv (.t 12))⟩,
 ⟨some 81, none, .inr (.call 18 [(.t 79), (.t 80)])⟩,
 ⟨some 82, none, .inl (.un .not (.t 81))⟩,
 ⟨some 83, none, .inl (.mv (.t 82))⟩,
 ⟨some 84, (some (83, false)), .inl (.load true 3 (.t 2))⟩,
 ⟨some 85, (some (83, false)), .inl (.mv (.t 1))⟩,
 ⟨some 86, (some (83, false)), .inl (.mv (.t 8))⟩,
 ⟨some 87, (some (83, false)), .inl (.mv (.t 12))⟩,
 ⟨some 88, (some (83, false)), .inr (.call 52 [(.t 84), (.t 85), (.t 86), (.t 87)])⟩,
 ⟨some 89, (some (83, false)), .inl (.un .not (.t 88))⟩,
 ⟨some 90, none, .inl (.pick (.t 83) (.c (.bool true)) (.t 89))⟩])
 (.keep [12, 90]))
 (.cond (.t 90)
 (.seq (.seq (.reg [⟨some 4, none, .inl (.mv (.c .nils))⟩,
 ⟨some 5, none, .inl (.mv (.c (.int .i64 7)))⟩])
 (.keep [4, 5]))
 (.ret))
 (.skip)))
 (.seq (.seq (.reg [⟨some 91, none, .inl (.mv (.t 12))⟩,
 ⟨some 4, none, .inl (.mv (.t 91))⟩,
 ⟨some 5, none, .inl (.mv (.c (.int .i64 0)))⟩])
 (.keep [4, 5]))
 (.ret)))))))))))))
def fc_wal_Read : FC := ⟨92, cmd_wal_Read, [.t 4, .t 5]⟩
theorem fc_wal_Read_ok : compF Try.prog 24 [[1, 2], [1, 2, 6], [1, 2, 6, 31], [4, 5], [1, 2, 6, 7], [1, 2, 6, 8], [1, 2, 6, 8, 41], [4, 5], [1, 2, 6, 8, 9], [1, 2, 6, 8, 9, 54], [4, 5], [1, 2, 6, 8, 9, 11], [1, 2, 6, 8, 9, 11, 12], [1, 2, 6, 8, 11, 12, 60, 61], [1, 2, 6, 8, 11, 12, 60, 61], [1, 2, 6, 8, 11, 12, 60, 61, 62], [1, 2, 6, 8, 11, 12, 13, 60, 61], [1, 2, 6, 8, 11, 12, 60, 61], [1, 2, 6, 8, 11, 12, 60, 61], [1, 2, 6, 8, 11, 12, 60, 61], [12, 90], [4, 5], [4, 5]] = some fc_wal_Read := by kernel_rfl
/-- joist/joistlaw01.Kept -/
abbrev F.joistlaw01_Kept : Nat := 25
def cmd_joistlaw01_Kept : Cmd :=
  .seq (.seq (.reg [⟨some 4, none, .inl (.mv (.c (.bool false)))⟩])
 (.keep [0, 1]))
 (.seq (.seq (.reg [⟨some 5, none, .inl (.mv (.t 0))⟩,
 ⟨some 6, none, .inl (.b2s (.t 5))⟩,
 ⟨some 7, none, .inl (.mv (.t 1))⟩,
 ⟨some 8, none, .inl (.b2s (.t 7))⟩,
 ⟨some 9, none, .inl (.bins .eql (.t 6) (.t 8))⟩,
 ⟨some 10, none, .inl (.mv (.t 9))⟩,
 ⟨some 11, (some (10, true)), .inl (.mv (.t 0))⟩,
 ⟨some 12, (some (10, true)), .inl (.mv (.t 1))⟩,
 ⟨some 13, (some (10, true)), .inl (.len (.t 12))⟩,
 ⟨some 14, (some (10, true)), .inl (.bin .add (.t 13) (.c (.int .i64 1)))⟩,
 ⟨some 15, (some (10, true)), .inl (.slice 1 (.t 11) none (some (.t 14)) none)⟩,
 ⟨some 16, (some (10, true)), .inl (.mv (.t 1))⟩,
 ⟨some 17, (some (10, true)), .inl (.len (.t 16))⟩,
 ⟨some 18, (some (10, true)), .inl (.iaddr 1 (.t 15) (.t 17))⟩,
 ⟨some 19, (some (10, true)), .inl (.load false 1 (.t 18))⟩,
 ⟨some 20, (some (10, true)), .inl (.bin .eql (.t 19) (.c (.int .u8 77)))⟩,
 ⟨some 21, none, .inl (.pick (.t 10) (.t 20) (.c (.bool false)))⟩,
 ⟨some 4, none, .inl (.mv (.t 21))⟩])
 (.keep [4]))
 (.ret))
def fc_joistlaw01_Kept : FC := ⟨22, cmd_joistlaw01_Kept, [.t 4]⟩
theorem fc_joistlaw01_Kept_ok : compF Try.prog 25 [[0, 1], [4]] = some fc_joistlaw01_Kept := by kernel_rfl
/-- joist/joistref05.Read -/
abbrev F.joistref05_Read : Nat := 26
def cmd_joistref05_Read : Cmd :=
  .seq (.seq (.reg [⟨some 2, none, .inr (.box 3 (.t 0))⟩,
 ⟨some 4, none, .inl (.mv (.c .nils))⟩,
 ⟨some 5, none, .inl (.mv (.c (.int .i64 0)))⟩])
 (.keep [1, 2]))
 (.seq (.seq (.reg [⟨some 16, none, .inl (.mv (.t 1))⟩,
 ⟨some 17, none, .inl (.len (.t 16))⟩,
 ⟨some 18, none, .inl (.bin .quo (.t 17) (.c (.int .i64 64)))⟩,
 ⟨some 6, none, .inl (.mv (.t 18))⟩])
 (.keep [1, 2, 6]))
 (.seq (.seq (.seq (.reg [⟨some 19, none, .inl (.mv (.t 1))⟩,
 ⟨some 20, none, .inl (.len (.t 19))⟩,
 ⟨some 21, none, .inl (.bin .rem (.t 20) (.c (.int .i64 64)))⟩,
 ⟨some 22, none, .inl (.bin .neq (.t 21) (.c (.int .i64 0)))⟩,
 ⟨some 23, none, .inl (.mv (.t 22))⟩,
 ⟨some 24, (some (23, false)), .inl (.mv (.t 6))⟩,
 ⟨some 25, (some (23, false)), .inl (.bin .gtr (.t 24) (.c (.int .i64 4096)))⟩,
 ⟨some 26, none, .inl (.pick (.t 23) (.c (.bool true)) (.t 25))⟩,
 ⟨some 27, none, .inl (.mv (.t 26))⟩,
 ⟨some 28, (some (27, false)), .inl (.load true 3 (.t 2))⟩,
 ⟨some 29, (some (27, false)), .inl (.mv (.t 6))⟩,
 ⟨some 30, (some (27, false)), .inr (.call 15 [(.t 28), (.t 29)])⟩,
 ⟨some 31, (some (27, false)), .inl (.un .not (.t 30))⟩,
 ⟨some 32, none, .inl (.pick (.t 27) (.c (.bool true)) (.t 31))⟩])
 (.keep [1, 2, 6, 32]))
 (.cond (.t 32)
 (.seq (.seq (.reg [⟨some 4, none, .inl (.mv (.c .nils))⟩,
 ⟨some 5, none, .inl (.mv (.c (.int .i64 1)))⟩])
 (.keep [4, 5]))
 (.ret))
 (.skip)))
 (.seq (.seq (.reg [⟨some 33, none, .inl (.mv (.t 1))⟩,
 ⟨some 34, none, .inl (.faddr 0 (.t 2))⟩,
 ⟨some 35, none, .inl (.load false 1 (.t 34))⟩,
 ⟨some 36, none, .inl (.bin .mul (.c (.int .i64 64)) (.t 35))⟩,
 ⟨some 37, none, .inl (.faddr 0 (.t 2))⟩,
 ⟨some 38, none, .inl (.load false 1 (.t 37))⟩,
 ⟨some 39, none, .inl (.bin .add (.t 38) (.c (.int .i64 1)))⟩,
 ⟨some 40, none, .inl (.bin .mul (.c (.int .i64 64)) (.t 39))⟩,
 ⟨some 41, none, .inl (.slice 1 (.t 33) (some (.t 36)) (some (.t 40)) none)⟩,
 ⟨some 7, none, .inl (.mv (.t 41))⟩])
 (.keep [1, 2, 6, 7]))
 (.seq (.seq (.seq (.reg [⟨some 42, none, .inl (.mv (.t 7))⟩,
 ⟨some 43, none, .inr (.call 53 [(.t 42)])⟩])
 (.keep [1, 2, 6, 7, 43]))
 (.cond (.t 43)
 (.seq (.seq (.reg [⟨some 4, none, .inl (.mv (.c .nils))⟩,
 ⟨some 5, none, .inl (.mv (.c (.int .i64 0)))⟩])
 (.keep [4, 5]))
 (.ret))
 (.skip)))
 (.seq (.seq (.reg [⟨some 45, none, .inl (.mv (.t 7))⟩,
 ⟨some 46, none, .inr (.call 54 [(.t 45), (.c (.int .i64 0))])⟩,
 ⟨some 44, none, .inl (.mv (.t 46))⟩,
 ⟨some 47, none, .inl (.ext 0 (.t 44))⟩,
 ⟨some 48, none, .inl (.ext 1 (.t 44))⟩,
 ⟨some 8, none, .inl (.mv (.t 47))⟩,
 ⟨some 9, none, .inl (.mv (.t 48))⟩])
 (.keep [1, 2, 6, 7, 8]))
 (.seq (.seq (.seq (.reg [⟨some 49, none, .inl (.mv (.t 8))⟩,
 ⟨some 50, none, .inl (.bin .lss (.t 49) (.c (.int .i64 1)))⟩,
 ⟨some 51, none, .inl (.mv (.t 50))⟩,
 ⟨some 52, (some (51, false)), .inl (.mv (.t 8))⟩,
 ⟨some 53, (some (51, false)), .inl (.faddr 2 (.t 2))⟩,
 ⟨some 54, (some (51, false)), .inl (.load false 1 (.t 53))⟩,
 ⟨some 55, (some (51, false)), .inl (.bin .gtr (.t 52) (.t 54))⟩,
 ⟨some 56, none, .inl (.pick (.t 51) (.c (.bool true)) (.t 55))⟩])
 (.keep [1, 2, 6, 7, 8, 56]))
 (.cond (.t 56)
 (.seq (.seq (.reg [⟨some 4, none, .inl (.mv (.c .nils))⟩,
 ⟨some 5, none, .inl (.mv (.c (.int .i64 7)))⟩])
 (.keep [4, 5]))
 (.ret))
 (.skip)))
 (.seq (.seq (.reg [⟨some 57, none, .inl (.mv (.t 1))⟩,
 ⟨some 58, none, .inl (.faddr 1 (.t 2))⟩,
 ⟨some 59, none, .inl (.load false 1 (.t 58))⟩,
 ⟨some 60, none, .inl (.bin .mul (.c (.int .i64 64)) (.t 59))⟩,
 ⟨some 61, none, .inl (.faddr 1 (.t 2))⟩,
 ⟨some 62, none, .inl (.load false 1 (.t 61))⟩,
 ⟨some 63, none, .inl (.mv (.t 8))⟩,
 ⟨some 64, none, .inl (.bin .mul (.c (.int .i64 2)) (.t 63))⟩,
 ⟨some 65, none, .inl (.bin .add (.t 62) (.t 64))⟩,
 ⟨some 66, none, .inl (.bin .mul (.c (.int .i64 64)) (.t 65))⟩,
 ⟨some 67, none, .inl (.slice 1 (.t 57) (some (.t 60)) (some (.t 66)) none)⟩,
 ⟨some 10, none, .inl (.mv (.t 67))⟩])
 (.keep [2, 6, 7, 8, 10]))
 (.seq (.seq (.reg [⟨some 11, none, .inl (.mv (.c .nils))⟩])
 (.keep [2, 6, 7, 8, 10, 11]))
 (.seq (.seq (.seq (.reg [⟨some 12, none, .inl (.mv (.c (.int .i64 0)))⟩])
 (.keep [2, 6, 7, 8, 10, 11, 12]))
 (.block 0 (.loop [2, 6, 7, 8, 10, 11, 12] (.seq (.seq (.seq (.reg [⟨some 68, none, .inl (.mv (.t 12))⟩,
 ⟨some 69, none, .inl (.mv (.t 8))⟩,
 ⟨some 70, none, .inl (.bin .lss (.t 68) (.t 69))⟩])
 (.keep [2, 6, 7, 8, 10, 11, 12, 70]))
 (.cond (.t 70)
 (.skip)
 (.exit 0)))
 (.seq (.block 1 (.seq (.seq (.reg [⟨some 73, none, .inl (.mv (.t 10))⟩,
 ⟨some 74, none, .inl (.mv (.t 12))⟩,
 ⟨some 75, none, .inl (.bin .mul (.c (.int .i64 128)) (.t 74))⟩,
 ⟨some 76, none, .inl (.mv (.t 12))⟩,
 ⟨some 77, none, .inl (.bin .add (.t 76) (.c (.int .i64 1)))⟩,
 ⟨some 78, none, .inl (.bin .mul (.c (.int .i64 128)) (.t 77))⟩,
 ⟨some 79, none, .inl (.slice 1 (.t 73) (some (.t 75)) (some (.t 78)) none)⟩,
 ⟨some 13, none, .inl (.mv (.t 79))⟩])
 (.keep [2, 6, 7, 8, 10, 11, 12, 13]))
 (.seq (.seq (.reg [⟨some 81, none, .inl (.mv (.t 13))⟩,
 ⟨some 82, none, .inr (.call 54 [(.t 81), (.c (.int .i64 0))])⟩,
 ⟨some 80, none, .inl (.mv (.t 82))⟩,
 ⟨some 83, none, .inl (.ext 0 (.t 80))⟩,
 ⟨some 84, none, .inl (.ext 1 (.t 80))⟩,
 ⟨some 14, none, .inl (.mv (.t 83))⟩,
 ⟨some 15, none, .inl (.mv (.t 84))⟩])
 (.keep [2, 6, 7, 8, 10, 11, 12, 13, 14]))
 (.seq (.reg [⟨some 85, none, .inl (.mv (.t 11))⟩,
 ⟨some 86, none, .inl (.mv (.t 14))⟩,
 ⟨some 87, none, .inr (.bslice 1 [(.int .u8 0)] 0 [])⟩,
 ⟨some 88, none, .inl (.mv (.t 13))⟩,
 ⟨some 89, none, .inl (.slice 1 (.t 88) (some (.c (.int .i64 64))) none none)⟩,
 ⟨some 90, none, .inr (.append 1 1 (.t 87) (.t 89))⟩,
 ⟨some 91, none, .inl (.build [(.int .i64 0), .nils] [(0, 1, (.t 86)), (1, 1, (.t 90))])⟩,
 ⟨some 92, none, .inr (.bslice 2 [(.int .i64 0), .nils] 1 [(0, (.t 91))])⟩,
 ⟨some 93, none, .inr (.append 2 32 (.t 85) (.t 92))⟩,
 ⟨some 11, none, .inl (.mv (.t 93))⟩])
 (.keep [2, 6, 7, 8, 10, 11, 12])))))
 (.seq (.reg [⟨some 71, none, .inl (.mv (.t 12))⟩,
 ⟨some 72, none, .inl (.bin .add (.t 71) (.c (.int .i64 1)))⟩,
 ⟨some 12, none, .inl (.mv (.t 72))⟩])
 (.keep [2, 6, 7, 8, 10, 11, 12])))))))
 (.seq (.seq (.seq (.ord [⟨0, ⟨some 94, none, .inl (.mv (.t 6))⟩, [], false⟩,
 ⟨1, ⟨some 95, none, .inl (.mv (.t 11))⟩, [], false⟩,
 ⟨2, ⟨some 96, none, .inr (.call 40 [(.t 94), (.t 95)])⟩, [], false⟩,
 ⟨3, ⟨some 97, none, .inl (.un .not (.t 96))⟩, [], false⟩,
 ⟨4, ⟨some 98, none, .inl (.mv (.t 97))⟩, [], false⟩,
 ⟨5, ⟨some 99, (some (98, false)), .inl (.load true 3 (.t 2))⟩, [], false⟩,
 ⟨6, ⟨some 100, (some (98, false)), .inl (.mv (.t 11))⟩, [], false⟩,
 ⟨7, ⟨some 101, (some (98, false)), .inr (.call 41 [(.t 99), (.t 100)])⟩, [], false⟩,
 ⟨8, ⟨some 102, (some (98, false)), .inl (.un .not (.t 101))⟩, [], false⟩,
 ⟨9, ⟨some 103, none, .inl (.pick (.t 98) (.c (.bool true)) (.t 102))⟩, [], false⟩,
 ⟨10, ⟨some 104, none, .inl (.mv (.t 103))⟩, [], false⟩,
 ⟨11, ⟨some 105, (some (104, false)), .inl (.mv (.t 11))⟩, [], false⟩,
 ⟨14, ⟨some 108, (some (104, false)), .inl (.mv (.t 10))⟩, [], true⟩,
 ⟨15, ⟨some 109, (some (104, false)), .inl (.b2s (.t 108))⟩, [], true⟩,
 ⟨12, ⟨some 106, (some (104, false)), .inr (.call 42 [(.t 105)])⟩, [14, 15], false⟩,
 ⟨13, ⟨some 107, (some (104, false)), .inl (.b2s (.t 106))⟩, [], false⟩,
 ⟨16, ⟨some 110, (some (104, false)), .inl (.bins .neq (.t 107) (.t 109))⟩, [], false⟩,
 ⟨17, ⟨some 111, none, .inl (.pick (.t 104) (.c (.bool true)) (.t 110))⟩, [], false⟩,
 ⟨18, ⟨some 112, none, .inl (.mv (.t 111))⟩, [], false⟩,
 ⟨19, ⟨some 113, (some (112, false)), .inl (.mv (.t 8))⟩, [], false⟩,
 ⟨20, ⟨some 114, (some (112, false)), .inl (.mv (.t 10))⟩, [], false⟩,
 ⟨23, ⟨some 117, (some (112, false)), .inl (.mv (.t 7))⟩, [], true⟩,
 ⟨24, ⟨some 118, (some (112, false)), .inl (.b2s (.t 117))⟩, [], true⟩,
 ⟨21, ⟨some 115, (some (112, false)), .inr (.call 43 [(.t 113), (.t 114)])⟩, [23, 24], false⟩,
 ⟨22, ⟨some 116, (some (112, false)), .inl (.b2s (.t 115))⟩, [], false⟩,
 ⟨25, ⟨some 119, (some (112, false)), .inl (.bins .neq (.t 116) (.t 118))⟩, [], false⟩,
 ⟨26, ⟨some 120, none, .inl (.pick (.t 112) (.c (.bool true)) (.t 119))⟩, [], false⟩])
 (.keep [11, 120]))
 (.cond (.t 120)
 (.seq (.seq (.reg [⟨some 4, none, .inl (.mv (.c .nils))⟩,
 ⟨some 5, none, .inl (.mv (.c (.int .i64 7)))⟩])
 (.keep [4, 5]))
 (.ret))
 (.skip)))
 (.seq (.seq (.reg [⟨some 121, none, .inl (.mv (.t 11))⟩,
 ⟨some 4, none, .inl (.mv (.t 121))⟩,
 ⟨some 5, none, .inl (.mv (.c (.int .i64 0)))⟩])
 (.keep [4, 5]))
 (.ret))))))))))))
def fc_joistref05_Read : FC := ⟨122, cmd_joistref05_Read, [.t 4, .t 5]⟩
theorem fc_joistref05_Read_ok : compF Try.prog 26 [[1, 2], [1, 2, 6], [1, 2, 6, 32], [4, 5], [1, 2, 6, 7], [1, 2, 6, 7, 43], [4, 5], [1, 2, 6, 7, 8], [1, 2, 6, 7, 8, 56], [4, 5], [2, 6, 7, 8, 10], [2, 6, 7, 8, 10, 11], [2, 6, 7, 8, 10, 11, 12], [2, 6, 7, 8, 10, 11, 12], [2, 6, 7, 8, 10, 11, 12, 70], [2, 6, 7, 8, 10, 11, 12, 13], [2, 6, 7, 8, 10, 11, 12, 13, 14], [2, 6, 7, 8, 10, 11, 12], [2, 6, 7, 8, 10, 11, 12], [11, 120], [0, 1, 2, 3, 4, 5, 6, 7, 8, 9, 10, 11, 14, 15, 12, 13, 16, 17, 18, 19, 20, 23, 24, 21, 22, 25, 26], [4, 5], [4, 5]] = some fc_joistref05_Read := by kernel_rfl
/-- joist/joistref04.Same -/
abbrev F.joistref04_Same : Nat := 27
def cmd_joistref04_Same : Cmd :=
  .seq (.seq (.reg [⟨some 4, none, .inl (.mv (.c (.bool false)))⟩])
 (.keep [0, 1]))
 (.seq (.seq (.seq (.reg [⟨some 6, none, .inl (.mv (.t 0))⟩,
 ⟨some 7, none, .inl (.len (.t 6))⟩,
 ⟨some 8, none, .inl (.mv (.t 1))⟩,
 ⟨some 9, none, .inl (.len (.t 8))⟩,
 ⟨some 10, none, .inl (.bin .neq (.t 7) (.t 9))⟩])
 (.keep [0, 1, 10]))
 (.cond (.t 10)
 (.seq (.seq (.reg [⟨some 4, none, .inl (.mv (.c (.bool false)))⟩])
 (.keep [4]))
 (.ret))
 (.skip)))
 (.seq (.seq (.seq (.reg [⟨some 5, none, .inl (.mv (.c (.int .i64 0)))⟩])
 (.keep [0, 1, 5]))
 (.block 0 (.loop [0, 1, 5] (.seq (.seq (.seq (.reg [⟨some 11, none, .inl (.mv (.t 5))⟩,
 ⟨some 12, none, .inl (.mv (.t 0))⟩,
 ⟨some 13, none, .inl (.len (.t 12))⟩,
 ⟨some 14, none, .inl (.bin .lss (.t 11) (.t 13))⟩])
 (.keep [0, 1, 5, 14]))
 (.cond (.t 14)
 (.skip)
 (.exit 0)))
 (.seq (.block 1 (.seq (.seq (.ord [⟨0, ⟨some 17, none, .inl (.mv (.t 0))⟩, [], false⟩,
 ⟨1, ⟨some 18, none, .inl (.mv (.t 5))⟩, [], false⟩,
 ⟨2, ⟨some 19, none, .inl (.iaddr 2 (.t 17) (.t 18))⟩, [], false⟩,
 ⟨3, ⟨some 20, none, .inl (.faddr 0 (.t 19))⟩, [], false⟩,
 ⟨4, ⟨some 21, none, .inl (.load false 1 (.t 20))⟩, [], false⟩,
 ⟨5, ⟨some 22, none, .inl (.mv (.t 1))⟩, [], false⟩,
 ⟨6, ⟨some 23, none, .inl (.mv (.t 5))⟩, [], false⟩,
 ⟨7, ⟨some 24, none, .inl (.iaddr 2 (.t 22) (.t 23))⟩, [], false⟩,
 ⟨8, ⟨some 25, none, .inl (.faddr 0 (.t 24))⟩, [], false⟩,
 ⟨9, ⟨some 26, none, .inl (.load false 1 (.t 25))⟩, [], false⟩,
 ⟨10, ⟨some 27, none, .inl (.bin .neq (.t 21) (.t 26))⟩, [], false⟩,
 ⟨11, ⟨some 28, none, .inl (.mv (.t 27))⟩, [], false⟩,
 ⟨12, ⟨some 29, (some (28, false)), .inl (.mv (.t 0))⟩, [], false⟩,
 ⟨13, ⟨some 30, (some (28, false)), .inl (.mv (.t 5))⟩, [], false⟩,
 ⟨14, ⟨some 31, (some (28, false)), .inl (.iaddr 2 (.t 29) (.t 30))⟩, [], false⟩,
 ⟨15, ⟨some 32, (some (28, false)), .inl (.faddr 1 (.t 31))⟩, [], false⟩,
 ⟨16, ⟨some 33, (some (28, false)), .inl (.load false 1 (.t 32))⟩, [], false⟩,
 ⟨17, ⟨some 34, (some (28, false)), .inl (.b2s (.t 33))⟩, [], false⟩,
 ⟨18, ⟨some 35, (some (28, false)), .inl (.mv (.t 1))⟩, [], false⟩,
 ⟨19, ⟨some 36, (some (28, false)), .inl (.mv (.t 5))⟩, [], false⟩,
 ⟨20, ⟨some 37, (some (28, false)), .inl (.iaddr 2 (.t 35) (.t 36))⟩, [], false⟩,
 ⟨21, ⟨some 38, (some (28, false)), .inl (.faddr 1 (.t 37))⟩, [], false⟩,
 ⟨22, ⟨some 39, (some (28, false)), .inl (.load false 1 (.t 38))⟩, [], false⟩,
 ⟨23, ⟨some 40, (some (28, false)), .inl (.b2s (.t 39))⟩, [], false⟩,
 ⟨24, ⟨some 41, (some (28, false)), .inl (.bins .neq (.t 34) (.t 40))⟩, [], false⟩,
 ⟨25, ⟨some 42, none, .inl (.pick (.t 28) (.c (.bool true)) (.t 41))⟩, [], false⟩])
 (.keep [0, 1, 5, 42]))
 (.cond (.t 42)
 (.seq (.seq (.reg [⟨some 4, none, .inl (.mv (.c (.bool false)))⟩])
 (.keep [4]))
 (.ret))
 (.skip))))
 (.seq (.reg [⟨some 15, none, .inl (.mv (.t 5))⟩,
 ⟨some 16, none, .inl (.bin .add (.t 15) (.c (.int .i64 1)))⟩,
 ⟨some 5, none, .inl (.mv (.t 16))⟩])
 (.keep [0, 1, 5])))))))
 (.seq (.seq (.reg [⟨some 4, none, .inl (.mv (.c (.bool true)))⟩])
 (.keep [4]))
 (.ret))))
def fc_joistref04_Same : FC := ⟨43, cmd_joistref04_Same, [.t 4]⟩
theorem fc_joistref04_Same_ok : compF Try.prog 27 [[0, 1], [0, 1, 10], [4], [0, 1, 5], [0, 1, 5], [0, 1, 5, 14], [0, 1, 5, 42], [0, 1, 2, 3, 4, 5, 6, 7, 8, 9, 10, 11, 12, 13, 14, 15, 16, 17, 18, 19, 20, 21, 22, 23, 24, 25], [4], [0, 1, 5], [4]] = some fc_joistref04_Same := by kernel_rfl
/-- joist/joistlaw04.Spoil -/
abbrev F.joistlaw04_Spoil : Nat := 28
def cmd_joistlaw04_Spoil : Cmd :=
  .seq (.seq (.reg [⟨some 2, none, .inl (.mv (.c (.int .i64 0)))⟩])
 (.keep [0, 2]))
 (.block 0 (.loop [0, 2] (.seq (.seq (.seq (.reg [⟨some 3, none, .inl (.mv (.t 2))⟩,
 ⟨some 4, none, .inl (.mv (.t 0))⟩,
 ⟨some 5, none, .inl (.len (.t 4))⟩,
 ⟨some 6, none, .inl (.bin .lss (.t 3) (.t 5))⟩])
 (.keep [0, 2, 6]))
 (.cond (.t 6)
 (.skip)
 (.exit 0)))
 (.seq (.block 1 (.seq (.seq (.reg [⟨some 9, none, .inl (.mv (.t 0))⟩,
 ⟨some 10, none, .inl (.mv (.t 2))⟩,
 ⟨some 11, none, .inl (.iaddr 2 (.t 9) (.t 10))⟩,
 ⟨some 12, none, .inl (.faddr 1 (.t 11))⟩,
 ⟨some 13, none, .inl (.load false 1 (.t 12))⟩,
 ⟨some 14, none, .inr (.bslice 1 [.nils] 1 [(0, (.t 13))])⟩,
 ⟨some 15, none, .inr (.call 13 [(.t 14)])⟩])
 (.keep [0, 2]))
 (.seq (.reg [⟨some 16, none, .inl (.mv (.t 0))⟩,
 ⟨some 17, none, .inl (.mv (.t 2))⟩,
 ⟨some 18, none, .inl (.iaddr 2 (.t 16) (.t 17))⟩,
 ⟨some 19, none, .inl (.faddr 0 (.t 18))⟩,
 ⟨none, none, .inr (.store 1 (.t 19) (.c (.int .i64 (-7))))⟩])
 (.keep [0, 2]))))
 (.seq (.reg [⟨some 7, none, .inl (.mv (.t 2))⟩,
 ⟨some 8, none, .inl (.bin .add (.t 7) (.c (.int .i64 1)))⟩,
 ⟨some 2, none, .inl (.mv (.t 8))⟩])
 (.keep [0, 2]))))))
def fc_joistlaw04_Spoil : FC := ⟨20, cmd_joistlaw04_Spoil, []⟩
theorem fc_joistlaw04_Spoil_ok : compF Try.prog 28 [[0, 2], [0, 2], [0, 2, 6], [0, 2], [0, 2], [0, 2]] = some fc_joistlaw04_Spoil := by kernel_rfl
/-- (*joist/pmem.Device).Image -/
abbrev F.pmem_Device_Image : Nat := 29
def cmd_pmem_Device_Image : Cmd :=
  .seq (.seq (.reg [⟨some 2, none, .inl (.mv (.c .nils))⟩])
 (.keep [0]))
 (.seq (.seq (.reg [⟨some 3, none, .inl (.mv (.t 0))⟩,
 ⟨some 4, none, .inl (.nilchk (.t 3))⟩,
 ⟨some 5, none, .inl (.faddr 0 (.t 4))⟩,
 ⟨some 6, none, .inl (.load false 1 (.t 5))⟩,
 ⟨some 7, none, .inr (.call 45 [(.t 6)])⟩,
 ⟨some 2, none, .inl (.mv (.t 7))⟩])
 (.keep [2]))
 (.ret))
def fc_pmem_Device_Image : FC := ⟨8, cmd_pmem_Device_Image, [.t 2]⟩
theorem fc_pmem_Device_Image_ok : compF Try.prog 29 [[0], [2]] = some fc_pmem_Device_Image := by kernel_rfl
/-- (*joist/pmem.Device).Dirty -/
abbrev F.pmem_Device_Dirty : Nat := 30
def cmd_pmem_Device_Dirty : Cmd :=
  .seq (.seq (.reg [⟨some 2, none, .inl (.mv (.c .nils))⟩])
 (.keep [0]))
 (.seq (.seq (.reg [⟨some 3, none, .inl (.mv (.c .nils))⟩])
 (.keep [0, 3]))
 (.seq (.seq (.seq (.reg [⟨some 5, none, .inl (.mv (.t 0))⟩,
 ⟨some 6, none, .inl (.nilchk (.t 5))⟩,
 ⟨some 7, none, .inl (.faddr 2 (.t 6))⟩,
 ⟨some 8, none, .inl (.load false 1 (.t 7))⟩,
 ⟨some 9, none, .inr (.rng (.t 8))⟩])
 (.keep [3, 9]))
 (.block 0 (.loop [3, 9] (.seq (.seq (.reg [⟨some 10, none, .inr (.next (.t 9))⟩,
 ⟨some 11, none, .inl (.ext 0 (.t 10))⟩])
 (.keep [3, 9, 11]))
 (.seq (.cond (.t 11)
 (.skip)
 (.exit 0))
 (.block 1 (.seq (.seq (.reg [⟨some 12, none, .inr (.entry (.t 9))⟩,
 ⟨some 13, none, .inl (.ext 0 (.t 12))⟩,
 ⟨some 4, none, .inl (.mv (.t 13))⟩])
 (.keep [3, 4, 9]))
 (.seq (.reg [⟨some 14, none, .inl (.mv (.t 3))⟩,
 ⟨some 15, none, .inl (.mv (.t 4))⟩,
 ⟨some 16, none, .inr (.bslice 1 [(.int .i64 0)] 1 [(0, (.t 15))])⟩,
 ⟨some 17, none, .inr (.append 1 8 (.t 14) (.t 16))⟩,
 ⟨some 3, none, .inl (.mv (.t 17))⟩])
 (.keep [3, 9])))))))))
 (.seq (.seq (.reg [⟨some 18, none, .inl (.mv (.t 3))⟩,
 ⟨some 19, none, .inr (.call 55 [(.t 18)])⟩])
 (.keep [3]))
 (.seq (.seq (.reg [⟨some 20, none, .inl (.mv (.t 3))⟩,
 ⟨some 2, none, .inl (.mv (.t 20))⟩])
 (.keep [2]))
 (.ret)))))
def fc_pmem_Device_Dirty : FC := ⟨21, cmd_pmem_Device_Dirty, [.t 2]⟩
theorem fc_pmem_Device_Dirty_ok : compF Try.prog 30 [[0], [0, 3], [3, 9], [3, 9], [3, 9, 11], [3, 4, 9], [3, 9], [3], [2]] = some fc_pmem_Device_Dirty := by kernel_rfl
/-- joist/lines.Apply -/
abbrev F.lines_Apply : Nat := 31
def cmd_lines_Apply : Cmd :=
  .seq (.seq (.reg [⟨some 4, none, .inl (.mv (.c .nils))⟩,
 ⟨some 5, none, .inl (.mv (.c (.int .i64 0)))⟩])
 (.keep [0, 1]))
 (.seq (.seq (.seq (.reg [⟨some 9, none, .inl (.mv (.t 0))⟩,
 ⟨some 10, none, .inl (.len (.t 9))⟩,
 ⟨some 11, none, .inl (.bin .rem (.t 10) (.c (.int .i64 64)))⟩,
 ⟨some 12, none, .inl (.bin .neq (.t 11) (.c (.int .i64 0)))⟩])
 (.keep [0, 1, 12]))
 (.cond (.t 12)
 (.seq (.seq (.reg [⟨some 4, none, .inl (.mv (.c .nils))⟩,
 ⟨some 5, none, .inl (.mv (.c (.int .i64 1)))⟩])
 (.keep [4, 5]))
 (.ret))
 (.skip)))
 (.seq (.seq (.reg [⟨some 13, none, .inl (.mv (.t 0))⟩,
 ⟨some 14, none, .inr (.call 45 [(.t 13)])⟩,
 ⟨some 6, none, .inl (.mv (.t 14))⟩])
 (.keep [0, 1, 6]))
 (.seq (.seq (.seq (.reg [⟨some 15, none, .inl (.mv (.t 1))⟩,
 ⟨some 16, none, .inl (.len (.t 15))⟩,
 ⟨some 17, none, .inl (.mv (.c (.int .i64 0)))⟩])
 (.keep [0, 6, 15, 16, 17]))
 (.block 0 (.loop [0, 6, 15, 16, 17] (.seq (.seq (.reg [⟨some 18, none, .inl (.bin .lss (.t 17) (.t 16))⟩])
 (.keep [0, 6, 15, 16, 17, 18]))
 (.seq (.cond (.t 18)
 (.skip)
 (.exit 0))
 (.seq (.block 1 (.seq (.seq (.reg [⟨some 19, none, .inl (.iaddr 2 (.t 15) (.t 17))⟩,
 ⟨some 20, none, .inl (.load true 2 (.t 19))⟩,
 ⟨some 8, none, .inr (.alloc [(.int .i64 0), .nils])⟩,
 ⟨none, none, .inr (.store 2 (.t 8) (.t 20))⟩])
 (.keep [0, 6, 8, 15, 16, 17]))
 (.seq (.seq (.seq (.reg [⟨some 21, none, .inl (.mv (.t 0))⟩,
 ⟨some 22, none, .inl (.len (.t 21))⟩,
 ⟨some 23, none, .inl (.bin .quo (.t 22) (.c (.int .i64 64)))⟩,
 ⟨some 24, none, .inl (.load true 2 (.t 8))⟩,
 ⟨some 25, none, .inr (.call 44 [(.t 23), (.t 24)])⟩,
 ⟨some 26, none, .inl (.un .not (.t 25))⟩])
 (.keep [0, 6, 8, 15, 16, 17, 26]))
 (.cond (.t 26)
 (.seq (.seq (.reg [⟨some 4, none, .inl (.mv (.c .nils))⟩,
 ⟨some 5, none, .inl (.mv (.c (.int .i64 1)))⟩])
 (.keep [4, 5]))
 (.ret))
 (.skip)))
 (.seq (.ord [⟨0, ⟨some 27, none, .inl (.mv (.t 6))⟩, [], false⟩,
 ⟨1, ⟨some 28, none, .inl (.faddr 0 (.t 8))⟩, [], false⟩,
 ⟨2, ⟨some 29, none, .inl (.load false 1 (.t 28))⟩, [], false⟩,
 ⟨4, ⟨some 31, none, .inl (.faddr 1 (.t 8))⟩, [], true⟩,
 ⟨5, ⟨some 32, none, .inl (.load false 1 (.t 31))⟩, [], true⟩,
 ⟨3, ⟨some 30, none, .inr (.call 56 [(.t 27), (.t 29)])⟩, [4, 5], false⟩,
 ⟨6, ⟨some 33, none, .inr (.copy 1 (.t 30) (.t 32))⟩, [], false⟩])
 (.keep [0, 6, 15, 16, 17])))))
 (.seq (.reg [⟨some 34, none, .inl (.bin .add (.t 17) (.c (.int .i64 1)))⟩,
 ⟨some 17, none, .inl (.mv (.t 34))⟩])
 (.keep [0, 6, 15, 16, 17]))))))))
 (.seq (.seq (.reg [⟨some 35, none, .inl (.mv (.t 6))⟩,
 ⟨some 4, none, .inl (.mv (.t 35))⟩,
 ⟨some 5, none, .inl (.mv (.c (.int .i64 0)))⟩])
 (.keep [4, 5]))
 (.ret)))))
def fc_lines_Apply : FC := ⟨36, cmd_lines_Apply, [.t 4, .t 5]⟩
theorem fc_lines_Apply_ok : compF Try.prog 31 [[0, 1], [0, 1, 12], [4, 5], [0, 1, 6], [0, 6, 15, 16, 17], [0, 6, 15, 16, 17], [0, 6, 15, 16, 17, 18], [0, 6, 8, 15, 16, 17], [0, 6, 8, 15, 16, 17, 26], [4, 5], [0, 6, 15, 16, 17], [0, 1, 2, 4, 5, 3, 6], [0, 6, 15, 16, 17], [4, 5]] = some fc_lines_Apply := by kernel_rfl
/-- joist/joistlaw05.others -/
abbrev F.joistlaw05_others : Nat := 32
def cmd_joistlaw05_others : Cmd :=
  .seq (.seq (.reg [⟨some 2, none, .inr (.box 3 (.t 0))⟩,
 ⟨some 4, none, .inl (.mv (.c (.str [])))⟩])
 (.keep [1, 2]))
 (.seq (.seq (.reg [⟨some 5, none, .inl (.mv (.c .nils))⟩])
 (.keep [1, 2, 5]))
 (.seq (.seq (.seq (.reg [⟨some 6, none, .inl (.mv (.c (.int .i64 0)))⟩])
 (.keep [1, 2, 5, 6]))
 (.block 0 (.loop [1, 2, 5, 6] (.seq (.seq (.seq (.reg [⟨some 7, none, .inl (.mv (.t 6))⟩,
 ⟨some 8, none, .inl (.mv (.t 1))⟩,
 ⟨some 9, none, .inl (.len (.t 8))⟩,
 ⟨some 10, none, .inl (.bin .quo (.t 9) (.c (.int .i64 64)))⟩,
 ⟨some 11, none, .inl (.bin .lss (.t 7) (.t 10))⟩])
 (.keep [1, 2, 5, 6, 11]))
 (.cond (.t 11)
 (.skip)
 (.exit 0)))
 (.seq (.block 1 (.seq (.seq (.reg [⟨some 14, none, .inl (.load true 3 (.t 2))⟩,
 ⟨some 15, none, .inl (.mv (.t 6))⟩,
 ⟨some 16, none, .inr (.call 17 [(.t 14), (.t 15)])⟩,
 ⟨some 17, none, .inl (.un .not (.t 16))⟩])
 (.keep [1, 2, 5, 6, 17]))
 (.cond (.t 17)
 (.seq (.reg [⟨some 18, none, .inl (.mv (.t 5))⟩,
 ⟨some 19, none, .inl (.mv (.t 1))⟩,
 ⟨some 20, none, .inl (.mv (.t 6))⟩,
 ⟨some 21, none, .inl (.bin .mul (.c (.int .i64 64)) (.t 20))⟩,
 ⟨some 22, none, .inl (.mv (.t 6))⟩,
 ⟨some 23, none, .inl (.bin .add (.t 22) (.c (.int .i64 1)))⟩,
 ⟨some 24, none, .inl (.bin .mul (.c (.int .i64 64)) (.t 23))⟩,
 ⟨some 25, none, .inl (.slice 1 (.t 19) (some (.t 21)) (some (.t 24)) none)⟩,
 ⟨some 26, none, .inr (.append 1 1 (.t 18) (.t 25))⟩,
 ⟨some 5, none, .inl (.mv (.t 26))⟩])
 (.keep [1, 2, 5, 6]))
 (.skip))))
 (.seq (.reg [⟨some 12, none, .inl (.mv (.t 6))⟩,
 ⟨some 13, none, .inl (.bin .add (.t 12) (.c (.int .i64 1)))⟩,
 ⟨some 6, none, .inl (.mv (.t 13))⟩])
 (.keep [1, 2, 5, 6])))))))
 (.seq (.seq (.reg [⟨some 27, none, .inl (.mv (.t 5))⟩,
 ⟨some 28, none, .inl (.b2s (.t 27))⟩,
 ⟨some 4, none, .inl (.mv (.t 28))⟩])
 (.keep [4]))
 (.ret))))
def fc_joistlaw05_others : FC := ⟨29, cmd_joistlaw05_others, [.t 4]⟩
theorem fc_joistlaw05_others_ok : compF Try.prog 32 [[1, 2], [1, 2, 5], [1, 2, 5, 6], [1, 2, 5, 6], [1, 2, 5, 6, 11], [1, 2, 5, 6, 17], [1, 2, 5, 6], [1, 2, 5, 6], [4]] = some fc_joistlaw05_others := by kernel_rfl
/-- (*joist/pmem.Device).Crash -/
abbrev F.pmem_Device_Crash : Nat := 33
def cmd_pmem_Device_Crash : Cmd :=
  .seq (.seq (.seq (.reg [⟨some 6, none, .inl (.mv (.t 0))⟩,
 ⟨some 7, none, .inr (.call 30 [(.t 6)])⟩,
 ⟨some 8, none, .inl (.len (.t 7))⟩,
 ⟨some 9, none, .inl (.mv (.c (.int .i64 0)))⟩])
 (.keep [0, 1, 7, 8, 9]))
 (.block 0 (.loop [0, 1, 7, 8, 9] (.seq (.seq (.reg [⟨some 10, none, .inl (.bin .lss (.t 9) (.t 8))⟩])
 (.keep [0, 1, 7, 8, 9, 10]))
 (.seq (.cond (.t 10)
 (.skip)
 (.exit 0))
 (.seq (.block 1 (.seq (.seq (.reg [⟨some 11, none, .inl (.mv (.t 9))⟩,
 ⟨some 12, none, .inl (.iaddr 1 (.t 7) (.t 9))⟩,
 ⟨some 13, none, .inl (.load false 1 (.t 12))⟩,
 ⟨some 4, none, .inl (.mv (.t 11))⟩,
 ⟨some 5, none, .inl (.mv (.t 13))⟩])
 (.keep [0, 1, 4, 5, 7, 8, 9]))
 (.seq (.seq (.reg [⟨some 14, none, .inl (.mv (.t 4))⟩,
 ⟨some 15, none, .inl (.mv (.t 1))⟩,
 ⟨some 16, none, .inl (.len (.t 15))⟩,
 ⟨some 17, none, .inl (.bin .lss (.t 14) (.t 16))⟩,
 ⟨some 18, none, .inl (.mv (.t 17))⟩,
 ⟨some 19, (some (18, true)), .inl (.mv (.t 1))⟩,
 ⟨some 20, (some (18, true)), .inl (.mv (.t 4))⟩,
 ⟨some 21, (some (18, true)), .inl (.iaddr 1 (.t 19) (.t 20))⟩,
 ⟨some 22, (some (18, true)), .inl (.load false 1 (.t 21))⟩,
 ⟨some 23, none, .inl (.pick (.t 18) (.t 22) (.c (.bool false)))⟩])
 (.keep [0, 1, 5, 7, 8, 9, 23]))
 (.cond (.t 23)
 (.seq (.reg [⟨some 24, none, .inl (.mv (.t 0))⟩,
 ⟨some 25, none, .inl (.mv (.t 5))⟩,
 ⟨some 26, none, .inr (.call 57 [(.t 24), (.t 25)])⟩])
 (.keep [0, 1, 7, 8, 9]))
 (.skip)))))
 (.seq (.reg [⟨some 27, none, .inl (.bin .add (.t 9) (.c (.int .i64 1)))⟩,
 ⟨some 9, none, .inl (.mv (.t 27))⟩])
 (.keep [0, 1, 7, 8, 9]))))))))
 (.seq (.seq (.ord [⟨0, ⟨some 28, none, .inl (.mv (.t 0))⟩, [], false⟩,
 ⟨1, ⟨some 29, none, .inl (.nilchk (.t 28))⟩, [], false⟩,
 ⟨2, ⟨some 30, none, .inl (.faddr 1 (.t 29))⟩, [], false⟩,
 ⟨3, ⟨some 31, none, .inl (.load false 1 (.t 30))⟩, [], false⟩,
 ⟨4, ⟨some 32, none, .inl (.mv (.t 0))⟩, [], false⟩,
 ⟨5, ⟨some 33, none, .inl (.nilchk (.t 32))⟩, [], false⟩,
 ⟨6, ⟨some 34, none, .inl (.faddr 0 (.t 33))⟩, [], false⟩,
 ⟨7, ⟨some 35, none, .inl (.load false 1 (.t 34))⟩, [], false⟩,
 ⟨8, ⟨some 36, none, .inr (.copy 1 (.t 31) (.t 35))⟩, [], false⟩])
 (.keep [0]))
 (.seq (.seq (.reg [⟨some 37, none, .inl (.mv (.t 0))⟩,
 ⟨some 38, none, .inl (.nilchk (.t 37))⟩,
 ⟨some 39, none, .inl (.faddr 2 (.t 38))⟩,
 ⟨some 40, none, .inl (.load false 1 (.t 39))⟩,
 ⟨none, none, .inr (.clr (.t 40))⟩])
 (.keep [0]))
 (.seq (.reg [⟨some 41, none, .inl (.mv (.t 0))⟩,
 ⟨some 42, none, .inl (.mv (.t 0))⟩,
 ⟨some 43, none, .inl (.nilchk (.t 41))⟩,
 ⟨some 44, none, .inl (.faddr 4 (.t 43))⟩,
 ⟨none, none, .inr (.store 1 (.t 44) (.c (.bool false)))⟩,
 ⟨some 45, none, .inl (.nilchk (.t 42))⟩,
 ⟨some 46, none, .inl (.faddr 3 (.t 45))⟩,
 ⟨none, none, .inr (.store 1 (.t 46) (.c (.int .i64 0)))⟩])
 (.keep []))))
def fc_pmem_Device_Crash : FC := ⟨47, cmd_pmem_Device_Crash, []⟩
theorem fc_pmem_Device_Crash_ok : compF Try.prog 33 [[0, 1, 7, 8, 9], [0, 1, 7, 8, 9], [0, 1, 7, 8, 9, 10], [0, 1, 4, 5, 7, 8, 9], [0, 1, 5, 7, 8, 9, 23], [0, 1, 7, 8, 9], [0, 1, 7, 8, 9], [0], [0, 1, 2, 3, 4, 5, 6, 7, 8], [0], []] = some fc_pmem_Device_Crash := by kernel_rfl
/-- joist/wal.Recover -/
abbrev F.wal_Recover : Nat := 34
def cmd_wal_Recover : Cmd :=
  .seq (.seq (.reg [⟨some 3, none, .inr (.box 3 (.t 1))⟩,
 ⟨some 4, none, .inl (.mv (.c (.int .i64 0)))⟩,
 ⟨some 5, none, .inl (.mv (.c (.int .i64 0)))⟩])
 (.keep [0, 3]))
 (.seq (.seq (.seq (.reg [⟨some 10, none, .inl (.mv (.t 0))⟩,
 ⟨some 11, none, .inr (.call 22 [(.t 10)])⟩])
 (.keep [0, 3, 11]))
 (.cond (.t 11)
 (.seq (.seq (.reg [⟨some 4, none, .inl (.mv (.c (.int .i64 0)))⟩,
 ⟨some 5, none, .inl (.mv (.c (.int .i64 5)))⟩])
 (.keep [4, 5]))
 (.ret))
 (.skip)))
 (.seq (.seq (.ord [⟨0, ⟨some 13, none, .inl (.load true 3 (.t 3))⟩, [], true⟩,
 ⟨1, ⟨some 14, none, .inl (.mv (.t 0))⟩, [], false⟩,
 ⟨2, ⟨some 15, none, .inr (.call 58 [(.t 14)])⟩, [0], false⟩,
 ⟨3, ⟨some 16, none, .inr (.call 24 [(.t 13), (.t 15)])⟩, [], false⟩,
 ⟨4, ⟨some 12, none, .inl (.mv (.t 16))⟩, [], false⟩,
 ⟨5, ⟨some 17, none, .inl (.ext 0 (.t 12))⟩, [], false⟩,
 ⟨6, ⟨some 18, none, .inl (.ext 1 (.t 12))⟩, [], false⟩,
 ⟨7, ⟨some 6, none, .inl (.mv (.t 17))⟩, [], false⟩,
 ⟨8, ⟨some 7, none, .inl (.mv (.t 18))⟩, [], false⟩])
 (.keep [0, 3, 6, 7]))
 (.seq (.seq (.seq (.reg [⟨some 19, none, .inl (.mv (.t 7))⟩,
 ⟨some 20, none, .inl (.bin .neq (.t 19) (.c (.int .i64 0)))⟩,
 ⟨some 21, none, .inl (.mv (.t 20))⟩,
 ⟨some 22, (some (21, false)), .inl (.mv (.t 6))⟩,
 ⟨some 23, (some (21, false)), .inl (.len (.t 22))⟩,
 ⟨some 24, (some (21, false)), .inl (.bin .eql (.t 23) (.c (.int .i64 0)))⟩,
 ⟨some 25, none, .inl (.pick (.t 21) (.c (.bool true)) (.t 24))⟩])
 (.keep [0, 3, 6, 7, 25]))
 (.cond (.t 25)
 (.seq (.seq (.reg [⟨some 26, none, .inl (.mv (.t 7))⟩,
 ⟨some 4, none, .inl (.mv (.c (.int .i64 0)))⟩,
 ⟨some 5, none, .inl (.mv (.t 26))⟩])
 (.keep [4, 5]))
 (.ret))
 (.skip)))
 (.seq (.seq (.reg [⟨some 27, none, .inl (.mv (.t 0))⟩,
 ⟨some 28, none, .inl (.build [.nilp, (.int .i64 0)] [(0, 1, (.t 27))])⟩,
 ⟨some 29, none, .inr (.box 2 (.t 28))⟩,
 ⟨some 8, none, .inl (.mv (.t 29))⟩])
 (.keep [3, 6, 8]))
 (.seq (.seq (.seq (.reg [⟨some 30, none, .inl (.mv (.t 8))⟩,
 ⟨some 31, none, .inl (.load true 3 (.t 3))⟩,
 ⟨some 32, none, .inl (.mv (.t 6))⟩,
 ⟨some 33, none, .inr (.call 49 [(.t 30), (.t 31), (.t 32)])⟩,
 ⟨some 9, none, .inl (.mv (.t 33))⟩])
 (.keep [6, 9]))
 (.seq (.seq (.reg [⟨some 34, none, .inl (.mv (.t 9))⟩,
 ⟨some 35, none, .inl (.bin .neq (.t 34) (.c (.int .i64 0)))⟩])
 (.keep [6, 9, 35]))
 (.cond (.t 35)
 (.seq (.seq (.reg [⟨some 36, none, .inl (.mv (.t 9))⟩,
 ⟨some 4, none, .inl (.mv (.c (.int .i64 0)))⟩,
 ⟨some 5, none, .inl (.mv (.t 36))⟩])
 (.keep [4, 5]))
 (.ret))
 (.skip))))
 (.seq (.seq (.reg [⟨some 37, none, .inl (.mv (.t 6))⟩,
 ⟨some 38, none, .inl (.len (.t 37))⟩,
 ⟨some 4, none, .inl (.mv (.t 38))⟩,
 ⟨some 5, none, .inl (.mv (.c (.int .i64 0)))⟩])
 (.keep [4, 5]))
 (.ret)))))))
def fc_wal_Recover : FC := ⟨39, cmd_wal_Recover, [.t 4, .t 5]⟩
theorem fc_wal_Recover_ok : compF Try.prog 34 [[0, 3], [0, 3, 11], [4, 5], [0, 3, 6, 7], [0, 1, 2, 3, 4, 5, 6, 7, 8], [0, 3, 6, 7, 25], [4, 5], [3, 6, 8], [6, 9], [6, 9, 35], [4, 5], [4, 5]] = some fc_wal_Recover := by kernel_rfl
/-- joist/joistlaw05.ones -/
abbrev F.joistlaw05_ones : Nat := 35
def cmd_joistlaw05_ones : Cmd :=
  .seq (.seq (.reg [⟨some 0, none, .inl (.mv (.c .nils))⟩])
 (.keep []))
 (.seq (.seq (.reg [⟨some 3, none, .inr (.mksl 1 1 [(.int .u8 0)] (.c (.int .i64 64)) (.c (.int .i64 64)))⟩,
 ⟨some 1, none, .inl (.mv (.t 3))⟩])
 (.keep [1]))
 (.seq (.seq (.seq (.reg [⟨some 2, none, .inl (.mv (.c (.int .i64 0)))⟩])
 (.keep [1, 2]))
 (.block 0 (.loop [1, 2] (.seq (.seq (.seq (.reg [⟨some 4, none, .inl (.mv (.t 2))⟩,
 ⟨some 5, none, .inl (.mv (.t 1))⟩,
 ⟨some 6, none, .inl (.len (.t 5))⟩,
 ⟨some 7, none, .inl (.bin .lss (.t 4) (.t 6))⟩])
 (.keep [1, 2, 7]))
 (.cond (.t 7)
 (.skip)
 (.exit 0)))
 (.seq (.block 1 (.seq (.reg [⟨some 10, none, .inl (.mv (.t 1))⟩,
 ⟨some 11, none, .inl (.mv (.t 2))⟩,
 ⟨some 12, none, .inl (.iaddr 1 (.t 10) (.t 11))⟩,
 ⟨none, none, .inr (.store 1 (.t 12) (.c (.int .u8 1)))⟩])
 (.keep [1, 2])))
 (.seq (.reg [⟨some 8, none, .inl (.mv (.t 2))⟩,
 ⟨some 9, none, .inl (.bin .add (.t 8) (.c (.int .i64 1)))⟩,
 ⟨some 2, none, .inl (.mv (.t 9))⟩])
 (.keep [1, 2])))))))
 (.seq (.seq (.reg [⟨some 13, none, .inl (.mv (.t 1))⟩,
 ⟨some 0, none, .inl (.mv (.t 13))⟩])
 (.keep [0]))
 (.ret))))
def fc_joistlaw05_ones : FC := ⟨14, cmd_joistlaw05_ones, [.t 0]⟩
theorem fc_joistlaw05_ones_ok : compF Try.prog 35 [[], [1], [1, 2], [1, 2], [1, 2, 7], [1, 2], [1, 2], [0]] = some fc_joistlaw05_ones := by kernel_rfl
/-- joist/wal.mine -/
abbrev F.wal_mine : Nat := 36
def cmd_wal_mine : Cmd :=
  .seq (.seq (.reg [⟨some 2, none, .inr (.box 3 (.t 0))⟩,
 ⟨some 4, none, .inl (.mv (.c (.bool false)))⟩])
 (.keep [1, 2]))
 (.seq (.seq (.reg [⟨some 5, none, .inl (.mv (.t 1))⟩,
 ⟨some 6, none, .inl (.mkfn 60 [(.t 2)])⟩,
 ⟨some 7, none, .inr (.call 59 [(.t 5), (.t 6)])⟩,
 ⟨some 4, none, .inl (.mv (.t 7))⟩])
 (.keep [4]))
 (.ret))
def fc_wal_mine : FC := ⟨8, cmd_wal_mine, [.t 4]⟩
theorem fc_wal_mine_ok : compF Try.prog 36 [[1, 2], [4]] = some fc_wal_mine := by kernel_rfl
/-- joist/wal.line -/
abbrev F.wal_line : Nat := 37
def cmd_wal_line : Cmd :=
  .seq (.seq (.reg [⟨some 2, none, .inl (.mv (.c .nils))⟩])
 (.keep [0]))
 (.seq (.seq (.reg [⟨some 6, none, .inl (.mv (.t 0))⟩,
 ⟨some 7, none, .inr (.call 61 [(.t 6)])⟩,
 ⟨some 5, none, .inl (.mv (.t 7))⟩,
 ⟨some 8, none, .inl (.ext 0 (.t 5))⟩,
 ⟨some 9, none, .inl (.ext 1 (.t 5))⟩,
 ⟨some 3, none, .inl (.mv (.t 8))⟩,
 ⟨some 4, none, .inl (.mv (.t 9))⟩])
 (.keep [3]))
 (.seq (.seq (.reg [⟨some 10, none, .inl (.mv (.t 3))⟩,
 ⟨some 11, none, .inl (.mv (.t 3))⟩,
 ⟨some 12, none, .inl (.len (.t 11))⟩,
 ⟨some 13, none, .inl (.bin .sub (.c (.int .i64 64)) (.t 12))⟩,
 ⟨some 14, none, .inr (.appendz 1 1 [(.int .u8 0)] (.t 10) (.t 13))⟩,
 ⟨some 2, none, .inl (.mv (.t 14))⟩])
 (.keep [2]))
 (.ret)))
def fc_wal_line : FC := ⟨15, cmd_wal_line, [.t 2]⟩
theorem fc_wal_line_ok : compF Try.prog 37 [[0], [3], [2]] = some fc_wal_line := by kernel_rfl
/-- joist/wal.record -/
abbrev F.wal_record : Nat := 38
def cmd_wal_record : Cmd :=
  .seq (.seq (.reg [⟨some 1, none, .inr (.box 2 (.t 0))⟩,
 ⟨some 2, none, .inl (.mv (.c .nils))⟩])
 (.keep [1]))
 (.seq (.seq (.ord [⟨0, ⟨some 3, none, .inl (.faddr 0 (.t 1))⟩, [], false⟩,
 ⟨1, ⟨some 4, none, .inl (.load false 1 (.t 3))⟩, [], false⟩,
 ⟨4, ⟨some 7, none, .inl (.faddr 1 (.t 1))⟩, [], true⟩,
 ⟨5, ⟨some 8, none, .inl (.load false 1 (.t 7))⟩, [], true⟩,
 ⟨2, ⟨some 5, none, .inr (.bslice 1 [(.int .i64 0)] 1 [(0, (.t 4))])⟩, [4, 5], false⟩,
 ⟨3, ⟨some 6, none, .inr (.call 37 [(.t 5)])⟩, [4, 5], false⟩,
 ⟨6, ⟨some 9, none, .inr (.append 1 1 (.t 6) (.t 8))⟩, [], false⟩,
 ⟨7, ⟨some 2, none, .inl (.mv (.t 9))⟩, [], false⟩])
 (.keep [2]))
 (.ret))
def fc_wal_record : FC := ⟨10, cmd_wal_record, [.t 2]⟩
theorem fc_wal_record_ok : compF Try.prog 38 [[1], [2], [0, 1, 4, 5, 2, 3, 6, 7]] = some fc_wal_record := by kernel_rfl
/-- joist/crc.Sum -/
abbrev F.crc_Sum : Nat := 39
def cmd_crc_Sum : Cmd :=
  .seq (.seq (.reg [⟨some 2, none, .inl (.mv (.c (.int .i64 0)))⟩])
 (.keep [0]))
 (.seq (.seq (.reg [⟨some 3, none, .inl (.mv (.t 0))⟩,
 ⟨some 4, none, .inr (.call 62 [(.c (.int .u32 4294967295)), (.t 3)])⟩,
 ⟨some 5, none, .inl (.un .xor (.t 4))⟩,
 ⟨some 6, none, .inl (.conv .i64 (.t 5))⟩,
 ⟨some 2, none, .inl (.mv (.t 6))⟩])
 (.keep [2]))
 (.ret))
def fc_crc_Sum : FC := ⟨7, cmd_crc_Sum, [.t 2]⟩
theorem fc_crc_Sum_ok : compF Try.prog 39 [[0], [2]] = some fc_crc_Sum := by kernel_rfl
/-- joist/joistref04.Right -/
abbrev F.joistref04_Right : Nat := 40
def cmd_joistref04_Right : Cmd :=
  .seq (.seq (.reg [⟨some 4, none, .inl (.mv (.c (.bool false)))⟩])
 (.keep [0, 1]))
 (.seq (.seq (.seq (.reg [⟨some 5, none, .inl (.mv (.c (.int .i64 0)))⟩])
 (.keep [0, 1, 5]))
 (.block 0 (.loop [0, 1, 5] (.seq (.seq (.seq (.reg [⟨some 6, none, .inl (.mv (.t 5))⟩,
 ⟨some 7, none, .inl (.mv (.t 1))⟩,
 ⟨some 8, none, .inl (.len (.t 7))⟩,
 ⟨some 9, none, .inl (.bin .lss (.t 6) (.t 8))⟩])
 (.keep [0, 1, 5, 9]))
 (.cond (.t 9)
 (.skip)
 (.exit 0)))
 (.seq (.block 1 (.seq (.seq (.ord [⟨0, ⟨some 12, none, .inl (.mv (.t 1))⟩, [], false⟩,
 ⟨1, ⟨some 13, none, .inl (.mv (.t 5))⟩, [], false⟩,
 ⟨2, ⟨some 14, none, .inl (.iaddr 2 (.t 12) (.t 13))⟩, [], false⟩,
 ⟨3, ⟨some 15, none, .inl (.faddr 0 (.t 14))⟩, [], false⟩,
 ⟨4, ⟨some 16, none, .inl (.load false 1 (.t 15))⟩, [], false⟩,
 ⟨5, ⟨some 17, none, .inl (.bin .lss (.t 16) (.c (.int .i64 0)))⟩, [], false⟩,
 ⟨6, ⟨some 18, none, .inl (.mv (.t 17))⟩, [], false⟩,
 ⟨7, ⟨some 19, (some (18, false)), .inl (.mv (.t 1))⟩, [], false⟩,
 ⟨8, ⟨some 20, (some (18, false)), .inl (.mv (.t 5))⟩, [], false⟩,
 ⟨9, ⟨some 21, (some (18, false)), .inl (.iaddr 2 (.t 19) (.t 20))⟩, [], false⟩,
 ⟨10, ⟨some 22, (some (18, false)), .inl (.faddr 0 (.t 21))⟩, [], false⟩,
 ⟨11, ⟨some 23, (some (18, false)), .inl (.load false 1 (.t 22))⟩, [], false⟩,
 ⟨12, ⟨some 24, (some (18, false)), .inl (.mv (.t 0))⟩, [], false⟩,
 ⟨13, ⟨some 25, (some (18, false)), .inl (.bin .geq (.t 23) (.t 24))⟩, [], false⟩,
 ⟨14, ⟨some 26, none, .inl (.pick (.t 18) (.c (.bool true)) (.t 25))⟩, [], false⟩,
 ⟨15, ⟨some 27, none, .inl (.mv (.t 26))⟩, [], false⟩,
 ⟨16, ⟨some 28, (some (27, false)), .inl (.mv (.t 1))⟩, [], false⟩,
 ⟨17, ⟨some 29, (some (27, false)), .inl (.mv (.t 5))⟩, [], false⟩,
 ⟨18, ⟨some 30, (some (27, false)), .inl (.iaddr 2 (.t 28) (.t 29))⟩, [], false⟩,
 ⟨19, ⟨some 31, (some (27, false)), .inl (.faddr 1 (.t 30))⟩, [], false⟩,
 ⟨20, ⟨some 32, (some (27, false)), .inl (.load false 1 (.t 31))⟩, [], false⟩,
 ⟨21, ⟨some 33, (some (27, false)), .inl (.len (.t 32))⟩, [], false⟩,
 ⟨22, ⟨some 34, (some (27, false)), .inl (.bin .neq (.t 33) (.c (.int .i64 64)))⟩, [], false⟩,
 ⟨23, ⟨some 35, none, .inl (.pick (.t 27) (.c (.bool true)) (.t 34))⟩, [], false⟩,
 ⟨24, ⟨some 36, none, .inl (.mv (.t 35))⟩, [], false⟩,
 ⟨25, ⟨some 37, (some (36, false)), .inl (.mv (.t 5))⟩, [], false⟩,
 ⟨26, ⟨some 38, (some (36, false)), .inl (.bin .gtr (.t 37) (.c (.int .i64 0)))⟩, [], false⟩,
 ⟨27, ⟨some 39, (some (36, false)), .inl (.mv (.t 38))⟩, [], false⟩,
 ⟨28, ⟨some 40, (some (39, true)), .inl (.mv (.t 1))⟩, [], false⟩,
 ⟨29, ⟨some 41, (some (39, true)), .inl (.mv (.t 5))⟩, [], false⟩,
 ⟨30, ⟨some 42, (some (39, true)), .inl (.iaddr 2 (.t 40) (.t 41))⟩, [], false⟩,
 ⟨31, ⟨some 43, (some (39, true)), .inl (.faddr 0 (.t 42))⟩, [], false⟩,
 ⟨32, ⟨some 44, (some (39, true)), .inl (.load false 1 (.t 43))⟩, [], false⟩,
 ⟨33, ⟨some 45, (some (39, true)), .inl (.mv (.t 1))⟩, [], false⟩,
 ⟨34, ⟨some 46, (some (39, true)), .inl (.mv (.t 5))⟩, [], false⟩,
 ⟨35, ⟨some 47, (some (39, true)), .inl (.bin .sub (.t 46) (.c (.int .i64 1)))⟩, [], false⟩,
 ⟨36, ⟨some 48, (some (39, true)), .inl (.iaddr 2 (.t 45) (.t 47))⟩, [], false⟩,
 ⟨37, ⟨some 49, (some (39, true)), .inl (.faddr 0 (.t 48))⟩, [], false⟩,
 ⟨38, ⟨some 50, (some (39, true)), .inl (.load false 1 (.t 49))⟩, [], false⟩,
 ⟨39, ⟨some 51, (some (39, true)), .inl (.bin .leq (.t 44) (.t 50))⟩, [], false⟩,
 ⟨40, ⟨some 52, (some (36, false)), .inl (.pick (.t 39) (.t 51) (.c (.bool false)))⟩, [], false⟩,
 ⟨41, ⟨some 53, none, .inl (.pick (.t 36) (.c (.bool true)) (.t 52))⟩, [], false⟩])
 (.keep [0, 1, 5, 53]))
 (.cond (.t 53)
 (.seq (.seq (.reg [⟨some 4, none, .inl (.mv (.c (.bool false)))⟩])
 (.keep [4]))
 (.ret))
 (.skip))))
 (.seq (.reg [⟨some 10, none, .inl (.mv (.t 5))⟩,
 ⟨some 11, none, .inl (.bin .add (.t 10) (.c (.int .i64 1)))⟩,
 ⟨some 5, none, .inl (.mv (.t 11))⟩])
 (.keep [0, 1, 5])))))))
 (.seq (.seq (.reg [⟨some 4, none, .inl (.mv (.c (.bool true)))⟩])
 (.keep [4]))
 (.ret)))
def fc_joistref04_Right : FC := ⟨54, cmd_joistref04_Right, [.t 4]⟩
theorem fc_joistref04_Right_ok : compF Try.prog 40 [[0, 1], [0, 1, 5], [0, 1, 5], [0, 1, 5, 9], [0, 1, 5, 53], [0, 1, 2, 3, 4, 5, 6, 7, 8, 9, 10, 11, 12, 13, 14, 15, 16, 17, 18, 19, 20, 21, 22, 23, 24, 25, 26, 27, 28, 29, 30, 31, 32, 33, 34, 35, 36, 37, 38, 39, 40, 41], [4], [0, 1, 5], [4]] = some fc_joistref04_Right := by kernel_rfl
/-- joist/joistref05.foreign -/
abbrev F.joistref05_foreign : Nat := 41
def cmd_joistref05_foreign : Cmd :=
  .seq (.seq (.reg [⟨some 2, none, .inr (.box 3 (.t 0))⟩,
 ⟨some 4, none, .inl (.mv (.c (.bool false)))⟩])
 (.keep [1, 2]))
 (.seq (.seq (.seq (.reg [⟨some 5, none, .inl (.mv (.c (.int .i64 0)))⟩])
 (.keep [1, 2, 5]))
 (.block 0 (.loop [1, 2, 5] (.seq (.seq (.seq (.reg [⟨some 6, none, .inl (.mv (.t 5))⟩,
 ⟨some 7, none, .inl (.mv (.t 1))⟩,
 ⟨some 8, none, .inl (.len (.t 7))⟩,
 ⟨some 9, none, .inl (.bin .lss (.t 6) (.t 8))⟩])
 (.keep [1, 2, 5, 9]))
 (.cond (.t 9)
 (.skip)
 (.exit 0)))
 (.seq (.block 1 (.seq (.seq (.ord [⟨0, ⟨some 12, none, .inl (.load true 3 (.t 2))⟩, [], false⟩,
 ⟨1, ⟨some 13, none, .inl (.mv (.t 1))⟩, [], false⟩,
 ⟨2, ⟨some 14, none, .inl (.mv (.t 5))⟩, [], false⟩,
 ⟨3, ⟨some 15, none, .inl (.iaddr 2 (.t 13) (.t 14))⟩, [], false⟩,
 ⟨4, ⟨some 16, none, .inl (.faddr 0 (.t 15))⟩, [], false⟩,
 ⟨5, ⟨some 17, none, .inl (.load false 1 (.t 16))⟩, [], false⟩,
 ⟨6, ⟨some 18, none, .inr (.call 17 [(.t 12), (.t 17)])⟩, [], false⟩])
 (.keep [1, 2, 5, 18]))
 (.cond (.t 18)
 (.seq (.seq (.reg [⟨some 4, none, .inl (.mv (.c (.bool false)))⟩])
 (.keep [4]))
 (.ret))
 (.skip))))
 (.seq (.reg [⟨some 10, none, .inl (.mv (.t 5))⟩,
 ⟨some 11, none, .inl (.bin .add (.t 10) (.c (.int .i64 1)))⟩,
 ⟨some 5, none, .inl (.mv (.t 11))⟩])
 (.keep [1, 2, 5])))))))
 (.seq (.seq (.reg [⟨some 4, none, .inl (.mv (.c (.bool true)))⟩])
 (.keep [4]))
 (.ret)))
def fc_joistref05_foreign : FC := ⟨19, cmd_joistref05_foreign, [.t 4]⟩
theorem fc_joistref05_foreign_ok : compF Try.prog 41 [[1, 2], [1, 2, 5], [1, 2, 5], [1, 2, 5, 9], [1, 2, 5, 18], [0, 1, 2, 3, 4, 5, 6], [4], [1, 2, 5], [4]] = some fc_joistref05_foreign := by kernel_rfl
/-- joist/joistref05.records -/
abbrev F.joistref05_records : Nat := 42
def cmd_joistref05_records : Cmd :=
  .seq (.seq (.reg [⟨some 2, none, .inl (.mv (.c .nils))⟩])
 (.keep [0]))
 (.seq (.seq (.reg [⟨some 3, none, .inl (.mv (.c .nils))⟩])
 (.keep [0, 3]))
 (.seq (.seq (.seq (.reg [⟨some 4, none, .inl (.mv (.c (.int .i64 0)))⟩])
 (.keep [0, 3, 4]))
 (.block 0 (.loop [0, 3, 4] (.seq (.seq (.seq (.reg [⟨some 7, none, .inl (.mv (.t 4))⟩,
 ⟨some 8, none, .inl (.mv (.t 0))⟩,
 ⟨some 9, none, .inl (.len (.t 8))⟩,
 ⟨some 10, none, .inl (.bin .lss (.t 7) (.t 9))⟩])
 (.keep [0, 3, 4, 10]))
 (.cond (.t 10)
 (.skip)
 (.exit 0)))
 (.seq (.block 1 (.seq (.seq (.reg [⟨some 14, none, .inl (.mv (.t 0))⟩,
 ⟨some 15, none, .inl (.mv (.t 4))⟩,
 ⟨some 16, none, .inl (.iaddr 2 (.t 14) (.t 15))⟩,
 ⟨some 17, none, .inl (.faddr 0 (.t 16))⟩,
 ⟨some 18, none, .inl (.load false 1 (.t 17))⟩,
 ⟨some 19, none, .inr (.bslice 1 [(.int .i64 0)] 8 [(0, (.t 18)), (1, (.c (.int .i64 0))), (2, (.c (.int .i64 0))), (3, (.c (.int .i64 0))), (4, (.c (.int .i64 0))), (5, (.c (.int .i64 0))), (6, (.c (.int .i64 0))), (7, (.c (.int .i64 0)))])⟩,
 ⟨some 20, none, .inr (.call 63 [(.t 19)])⟩,
 ⟨some 13, none, .inl (.mv (.t 20))⟩,
 ⟨some 21, none, .inl (.ext 0 (.t 13))⟩,
 ⟨some 22, none, .inl (.ext 1 (.t 13))⟩,
 ⟨some 5, none, .inl (.mv (.t 21))⟩,
 ⟨some 6, none, .inl (.mv (.t 22))⟩])
 (.keep [0, 3, 4, 5]))
 (.seq (.ord [⟨0, ⟨some 23, none, .inl (.mv (.t 3))⟩, [], false⟩,
 ⟨1, ⟨some 24, none, .inl (.mv (.t 5))⟩, [], false⟩,
 ⟨3, ⟨some 26, none, .inl (.mv (.t 0))⟩, [], true⟩,
 ⟨4, ⟨some 27, none, .inl (.mv (.t 4))⟩, [], true⟩,
 ⟨5, ⟨some 28, none, .inl (.iaddr 2 (.t 26) (.t 27))⟩, [], true⟩,
 ⟨6, ⟨some 29, none, .inl (.faddr 1 (.t 28))⟩, [], true⟩,
 ⟨7, ⟨some 30, none, .inl (.load false 1 (.t 29))⟩, [], true⟩,
 ⟨2, ⟨some 25, none, .inr (.append 1 1 (.t 23) (.t 24))⟩, [3, 4, 5, 6, 7], false⟩,
 ⟨8, ⟨some 31, none, .inr (.append 1 1 (.t 25) (.t 30))⟩, [], false⟩,
 ⟨9, ⟨some 3, none, .inl (.mv (.t 31))⟩, [], false⟩])
 (.keep [0, 3, 4]))))
 (.seq (.reg [⟨some 11, none, .inl (.mv (.t 4))⟩,
 ⟨some 12, none, .inl (.bin .add (.t 11) (.c (.int .i64 1)))⟩,
 ⟨some 4, none, .inl (.mv (.t 12))⟩])
 (.keep [0, 3, 4])))))))
 (.seq (.seq (.reg [⟨some 32, none, .inl (.mv (.t 3))⟩,
 ⟨some 2, none, .inl (.mv (.t 32))⟩])
 (.keep [2]))
 (.ret))))
def fc_joistref05_records : FC := ⟨33, cmd_joistref05_records, [.t 2]⟩
theorem fc_joistref05_records_ok : compF Try.prog 42 [[0], [0, 3], [0, 3, 4], [0, 3, 4], [0, 3, 4, 10], [0, 3, 4, 5], [0, 3, 4], [0, 1, 3, 4, 5, 6, 7, 2, 8, 9], [0, 3, 4], [2]] = some fc_joistref05_records := by kernel_rfl
/-- joist/joistref05.mark -/
abbrev F.joistref05_mark : Nat := 43
def cmd_joistref05_mark : Cmd :=
  .seq (.seq (.reg [⟨some 4, none, .inl (.mv (.c .nils))⟩])
 (.keep [0, 1]))
 (.seq (.seq (.reg [⟨some 5, none, .inl (.mv (.c (.int .i64 0)))⟩])
 (.keep [0, 1, 5]))
 (.seq (.seq (.seq (.reg [⟨some 8, none, .inl (.mv (.t 0))⟩,
 ⟨some 9, none, .inl (.bin .gtr (.t 8) (.c (.int .i64 0)))⟩])
 (.keep [0, 1, 5, 9]))
 (.cond (.t 9)
 (.seq (.reg [⟨some 10, none, .inl (.mv (.t 1))⟩,
 ⟨some 11, none, .inr (.call 64 [(.t 10)])⟩,
 ⟨some 5, none, .inl (.mv (.t 11))⟩])
 (.keep [0, 5]))
 (.skip)))
 (.seq (.seq (.reg [⟨some 13, none, .inl (.mv (.t 0))⟩,
 ⟨some 14, none, .inl (.mv (.t 5))⟩,
 ⟨some 15, none, .inr (.bslice 1 [(.int .i64 0)] 8 [(0, (.t 13)), (1, (.t 14)), (2, (.c (.int .i64 0))), (3, (.c (.int .i64 0))), (4, (.c (.int .i64 0))), (5, (.c (.int .i64 0))), (6, (.c (.int .i64 0))), (7, (.c (.int .i64 0)))])⟩,
 ⟨some 16, none, .inr (.call 63 [(.t 15)])⟩,
 ⟨some 12, none, .inl (.mv (.t 16))⟩,
 ⟨some 17, none, .inl (.ext 0 (.t 12))⟩,
 ⟨some 18, none, .inl (.ext 1 (.t 12))⟩,
 ⟨some 6, none, .inl (.mv (.t 17))⟩,
 ⟨some 7, none, .inl (.mv (.t 18))⟩])
 (.keep [6]))
 (.seq (.seq (.reg [⟨some 19, none, .inl (.mv (.t 6))⟩,
 ⟨some 4, none, .inl (.mv (.t 19))⟩])
 (.keep [4]))
 (.ret)))))
def fc_joistref05_mark : FC := ⟨20, cmd_joistref05_mark, [.t 4]⟩
theorem fc_joistref05_mark_ok : compF Try.prog 43 [[0, 1], [0, 1, 5], [0, 1, 5, 9], [0, 5], [6], [4]] = some fc_joistref05_mark := by kernel_rfl
/-- joist/lines.fits -/
abbrev F.lines_fits : Nat := 44
def cmd_lines_fits : Cmd :=
  .seq (.seq (.reg [⟨some 3, none, .inr (.box 2 (.t 1))⟩,
 ⟨some 4, none, .inl (.mv (.c (.bool false)))⟩])
 (.keep [0, 3]))
 (.seq (.seq (.reg [⟨some 5, none, .inl (.faddr 0 (.t 3))⟩,
 ⟨some 6, none, .inl (.load false 1 (.t 5))⟩,
 ⟨some 7, none, .inl (.bin .geq (.t 6) (.c (.int .i64 0)))⟩,
 ⟨some 8, none, .inl (.mv (.t 7))⟩,
 ⟨some 9, (some (8, true)), .inl (.faddr 0 (.t 3))⟩,
 ⟨some 10, (some (8, true)), .inl (.load false 1 (.t 9))⟩,
 ⟨some 11, (some (8, true)), .inl (.mv (.t 0))⟩,
 ⟨some 12, (some (8, true)), .inl (.bin .lss (.t 10) (.t 11))⟩,
 ⟨some 13, none, .inl (.pick (.t 8) (.t 12) (.c (.bool false)))⟩,
 ⟨some 14, none, .inl (.mv (.t 13))⟩,
 ⟨some 15, (some (14, true)), .inl (.faddr 1 (.t 3))⟩,
 ⟨some 16, (some (14, true)), .inl (.load false 1 (.t 15))⟩,
 ⟨some 17, (some (14, true)), .inl (.len (.t 16))⟩,
 ⟨some 18, (some (14, true)), .inl (.bin .eql (.t 17) (.c (.int .i64 64)))⟩,
 ⟨some 19, none, .inl (.pick (.t 14) (.t 18) (.c (.bool false)))⟩,
 ⟨some 4, none, .inl (.mv (.t 19))⟩])
 (.keep [4]))
 (.ret))
def fc_lines_fits : FC := ⟨20, cmd_lines_fits, [.t 4]⟩
theorem fc_lines_fits_ok : compF Try.prog 44 [[0, 3], [4]] = some fc_lines_fits := by kernel_rfl
/-- bytes.Clone -/
abbrev F.bytes_Clone : Nat := 45
def cmd_bytes_Clone : Cmd :=
  .seq (.seq (.reg [⟨some 2, none, .inl (.mv (.c .nils))⟩])
 (.keep [0]))
 (.seq (.seq (.seq (.reg [⟨some 3, none, .inl (.mv (.t 0))⟩,
 ⟨some 4, none, .inl (.eqnil false (.t 3))⟩])
 (.keep [0, 4]))
 (.cond (.t 4)
 (.seq (.seq (.reg [⟨some 2, none, .inl (.mv (.c .nils))⟩])
 (.keep [2]))
 (.ret))
 (.skip)))
 (.seq (.seq (.reg [⟨some 5, none, .inr (.bslice 1 [(.int .u8 0)] 0 [])⟩,
 ⟨some 6, none, .inl (.mv (.t 0))⟩,
 ⟨some 7, none, .inr (.append 1 1 (.t 5) (.t 6))⟩,
 ⟨some 2, none, .inl (.mv (.t 7))⟩])
 (.keep [2]))
 (.ret)))
def fc_bytes_Clone : FC := ⟨8, cmd_bytes_Clone, [.t 2]⟩
theorem fc_bytes_Clone_ok : compF Try.prog 45 [[0], [0, 4], [2], [2]] = some fc_bytes_Clone := by kernel_rfl
/-- (*joist/pmem.Device).Lines -/
abbrev F.pmem_Device_Lines : Nat := 46
def cmd_pmem_Device_Lines : Cmd :=
  .seq (.seq (.reg [⟨some 2, none, .inl (.mv (.c (.int .i64 0)))⟩])
 (.keep [0]))
 (.seq (.seq (.reg [⟨some 3, none, .inl (.mv (.t 0))⟩,
 ⟨some 4, none, .inl (.nilchk (.t 3))⟩,
 ⟨some 5, none, .inl (.faddr 1 (.t 4))⟩,
 ⟨some 6, none, .inl (.load false 1 (.t 5))⟩,
 ⟨some 7, none, .inl (.len (.t 6))⟩,
 ⟨some 8, none, .inl (.bin .quo (.t 7) (.c (.int .i64 64)))⟩,
 ⟨some 2, none, .inl (.mv (.t 8))⟩])
 (.keep [2]))
 (.ret))
def fc_pmem_Device_Lines : FC := ⟨9, cmd_pmem_Device_Lines, [.t 2]⟩
theorem fc_pmem_Device_Lines_ok : compF Try.prog 46 [[0], [2]] = some fc_pmem_Device_Lines := by kernel_rfl
/-- (*joist/wal.steps).put -/
abbrev F.wal_steps_put : Nat := 47
def cmd_wal_steps_put : Cmd :=
  .seq (.seq (.reg [⟨some 3, none, .inr (.box 1 (.t 0))⟩,
 ⟨some 5, none, .inr (.box 1 (.t 2))⟩])
 (.keep [1, 3, 5]))
 (.seq (.seq (.reg [⟨some 7, none, .inl (.mv (.t 1))⟩,
 ⟨some 8, none, .inl (.bin .mul (.t 7) (.c (.int .i64 64)))⟩,
 ⟨some 6, none, .inr (.alloc [(.int .i64 0)])⟩,
 ⟨none, none, .inr (.store 1 (.t 6) (.t 8))⟩])
 (.keep [3, 5, 6]))
 (.seq (.seq (.reg [⟨some 9, none, .inl (.load false 1 (.t 3))⟩,
 ⟨some 10, none, .inl (.mkfn 66 [(.t 3), (.t 6), (.t 5)])⟩,
 ⟨some 11, none, .inr (.call 65 [(.t 9), (.t 10)])⟩])
 (.keep [3, 5, 6]))
 (.seq (.reg [⟨some 12, none, .inl (.load false 1 (.t 3))⟩,
 ⟨some 13, none, .inl (.mkfn 68 [(.t 3), (.t 6), (.t 5)])⟩,
 ⟨some 14, none, .inr (.call 65 [(.t 12), (.t 13)])⟩])
 (.keep []))))
def fc_wal_steps_put : FC := ⟨15, cmd_wal_steps_put, []⟩
theorem fc_wal_steps_put_ok : compF Try.prog 47 [[1, 3, 5], [3, 5, 6], [3, 5, 6], []] = some fc_wal_steps_put := by kernel_rfl
/-- (*joist/wal.steps).fence -/
abbrev F.wal_steps_fence : Nat := 48
def cmd_wal_steps_fence : Cmd :=
  .seq (.reg [⟨some 2, none, .inl (.mv (.t 0))⟩,
 ⟨some 3, none, .inl (.mv (.t 0))⟩,
 ⟨some 4, none, .inl (.nilchk (.t 3))⟩,
 ⟨some 5, none, .inl (.faddr 0 (.t 4))⟩,
 ⟨some 6, none, .inl (.load false 1 (.t 5))⟩,
 ⟨some 7, none, .inl (.mkfnb 70 [(.t 6)] [])⟩,
 ⟨some 8, none, .inr (.call 65 [(.t 2), (.t 7)])⟩])
 (.keep [])
def fc_wal_steps_fence : FC := ⟨9, cmd_wal_steps_fence, []⟩
theorem fc_wal_steps_fence_ok : compF Try.prog 48 [[]] = some fc_wal_steps_fence := by kernel_rfl
/-- (*joist/wal.steps).finish -/
abbrev F.wal_steps_finish : Nat := 49
def cmd_wal_steps_finish : Cmd :=
  .seq (.seq (.reg [⟨some 4, none, .inr (.box 3 (.t 1))⟩,
 ⟨some 6, none, .inl (.mv (.c (.int .i64 0)))⟩])
 (.keep [0, 2, 4]))
 (.seq (.seq (.seq (.reg [⟨some 9, none, .inl (.mv (.t 2))⟩,
 ⟨some 10, none, .inl (.len (.t 9))⟩,
 ⟨some 11, none, .inl (.mv (.c (.int .i64 0)))⟩])
 (.keep [0, 4, 9, 10, 11]))
 (.block 0 (.loop [0, 4, 9, 10, 11] (.seq (.seq (.reg [⟨some 12, none, .inl (.bin .lss (.t 11) (.t 10))⟩])
 (.keep [0, 4, 9, 10, 11, 12]))
 (.seq (.cond (.t 12)
 (.skip)
 (.exit 0))
 (.seq (.block 1 (.seq (.seq (.reg [⟨some 13, none, .inl (.iaddr 2 (.t 9) (.t 11))⟩,
 ⟨some 14, none, .inl (.load true 2 (.t 13))⟩,
 ⟨some 8, none, .inr (.alloc [(.int .i64 0), .nils])⟩,
 ⟨none, none, .inr (.store 2 (.t 8) (.t 14))⟩])
 (.keep [0, 4, 8, 9, 10, 11]))
 (.seq (.reg [⟨some 15, none, .inl (.mv (.t 0))⟩,
 ⟨some 16, none, .inl (.faddr 0 (.t 8))⟩,
 ⟨some 17, none, .inl (.load false 1 (.t 16))⟩,
 ⟨some 18, none, .inl (.faddr 1 (.t 8))⟩,
 ⟨some 19, none, .inl (.load false 1 (.t 18))⟩,
 ⟨some 20, none, .inr (.call 47 [(.t 15), (.t 17), (.t 19)])⟩])
 (.keep [0, 4, 9, 10, 11]))))
 (.seq (.reg [⟨some 21, none, .inl (.bin .add (.t 11) (.c (.int .i64 1)))⟩,
 ⟨some 11, none, .inl (.mv (.t 21))⟩])
 (.keep [0, 4, 9, 10, 11]))))))))
 (.seq (.seq (.reg [⟨some 22, none, .inl (.mv (.t 0))⟩,
 ⟨some 23, none, .inr (.call 48 [(.t 22)])⟩])
 (.keep [0, 4]))
 (.seq (.seq (.ord [⟨0, ⟨some 24, none, .inl (.mv (.t 0))⟩, [], true⟩,
 ⟨1, ⟨some 25, none, .inl (.faddr 0 (.t 4))⟩, [], true⟩,
 ⟨2, ⟨some 26, none, .inl (.load false 1 (.t 25))⟩, [], true⟩,
 ⟨3, ⟨some 27, none, .inr (.call 37 [(.c .nils)])⟩, [0, 1, 2], false⟩,
 ⟨4, ⟨some 28, none, .inr (.call 47 [(.t 24), (.t 26), (.t 27)])⟩, [], false⟩])
 (.keep [0]))
 (.seq (.seq (.reg [⟨some 29, none, .inl (.mv (.t 0))⟩,
 ⟨some 30, none, .inr (.call 48 [(.t 29)])⟩])
 (.keep [0]))
 (.seq (.seq (.reg [⟨some 31, none, .inl (.mv (.t 0))⟩,
 ⟨some 32, none, .inl (.nilchk (.t 31))⟩,
 ⟨some 33, none, .inl (.faddr 1 (.t 32))⟩,
 ⟨some 34, none, .inl (.load false 1 (.t 33))⟩,
 ⟨some 6, none, .inl (.mv (.t 34))⟩])
 (.keep [6]))
 (.ret))))))
def fc_wal_steps_finish : FC := ⟨35, cmd_wal_steps_finish, [.t 6]⟩
theorem fc_wal_steps_finish_ok : compF Try.prog 49 [[0, 2, 4], [0, 4, 9, 10, 11], [0, 4, 9, 10, 11], [0, 4, 9, 10, 11, 12], [0, 4, 8, 9, 10, 11], [0, 4, 9, 10, 11], [0, 4, 9, 10, 11], [0, 4], [0], [0, 1, 2, 3, 4], [0], [6]] = some fc_wal_steps_finish := by kernel_rfl
/-- joist/words.Zero -/
abbrev F.words_Zero : Nat := 50
def cmd_words_Zero : Cmd :=
  .seq (.seq (.reg [⟨some 2, none, .inl (.mv (.c (.bool false)))⟩])
 (.keep [0]))
 (.seq (.seq (.seq (.reg [⟨some 5, none, .inl (.mv (.t 0))⟩,
 ⟨some 6, none, .inl (.len (.t 5))⟩,
 ⟨some 7, none, .inl (.mv (.c (.int .i64 0)))⟩])
 (.keep [5, 6, 7]))
 (.block 0 (.loop [5, 6, 7] (.seq (.seq (.reg [⟨some 8, none, .inl (.bin .lss (.t 7) (.t 6))⟩])
 (.keep [5, 6, 7, 8]))
 (.seq (.cond (.t 8)
 (.skip)
 (.exit 0))
 (.seq (.block 1 (.seq (.seq (.reg [⟨some 9, none, .inl (.iaddr 1 (.t 5) (.t 7))⟩,
 ⟨some 10, none, .inl (.load false 1 (.t 9))⟩,
 ⟨some 4, none, .inl (.mv (.t 10))⟩])
 (.keep [4, 5, 6, 7]))
 (.seq (.seq (.reg [⟨some 11, none, .inl (.mv (.t 4))⟩,
 ⟨some 12, none, .inl (.bin .neq (.t 11) (.c (.int .u8 0)))⟩])
 (.keep [5, 6, 7, 12]))
 (.cond (.t 12)
 (.seq (.seq (.reg [⟨some 2, none, .inl (.mv (.c (.bool false)))⟩])
 (.keep [2]))
 (.ret))
 (.skip)))))
 (.seq (.reg [⟨some 13, none, .inl (.bin .add (.t 7) (.c (.int .i64 1)))⟩,
 ⟨some 7, none, .inl (.mv (.t 13))⟩])
 (.keep [5, 6, 7]))))))))
 (.seq (.seq (.reg [⟨some 2, none, .inl (.mv (.c (.bool true)))⟩])
 (.keep [2]))
 (.ret)))
def fc_words_Zero : FC := ⟨14, cmd_words_Zero, [.t 2]⟩
theorem fc_words_Zero_ok : compF Try.prog 50 [[0], [5, 6, 7], [5, 6, 7], [5, 6, 7, 8], [4, 5, 6, 7], [5, 6, 7, 12], [2], [5, 6, 7], [2]] = some fc_words_Zero := by kernel_rfl
/-- joist/words.Get -/
abbrev F.words_Get : Nat := 51
def cmd_words_Get : Cmd :=
  .seq (.seq (.reg [⟨some 4, none, .inl (.mv (.c (.int .i64 0)))⟩,
 ⟨some 5, none, .inl (.mv (.c (.bool false)))⟩])
 (.keep [0, 1]))
 (.seq (.seq (.reg [⟨some 7, none, .inl (.mv (.t 0))⟩,
 ⟨some 8, none, .inl (.mv (.t 1))⟩,
 ⟨some 9, none, .inr (.call 71 [(.t 7), (.t 8)])⟩,
 ⟨some 6, none, .inl (.mv (.t 9))⟩])
 (.keep [6]))
 (.seq (.seq (.seq (.reg [⟨some 10, none, .inl (.mv (.t 6))⟩,
 ⟨some 11, none, .inl (.eqnil false (.t 10))⟩])
 (.keep [6, 11]))
 (.cond (.t 11)
 (.seq (.seq (.reg [⟨some 4, none, .inl (.mv (.c (.int .i64 0)))⟩,
 ⟨some 5, none, .inl (.mv (.c (.bool false)))⟩])
 (.keep [4, 5]))
 (.ret))
 (.skip)))
 (.seq (.seq (.reg [⟨some 12, none, .inl (.mv (.t 6))⟩,
 ⟨some 13, none, .inr (.call 72 [(.t 12)])⟩,
 ⟨some 14, none, .inl (.ext 0 (.t 13))⟩,
 ⟨some 15, none, .inl (.ext 1 (.t 13))⟩,
 ⟨some 4, none, .inl (.mv (.t 14))⟩,
 ⟨some 5, none, .inl (.mv (.t 15))⟩])
 (.keep [4, 5]))
 (.ret))))
def fc_words_Get : FC := ⟨16, cmd_words_Get, [.t 4, .t 5]⟩
theorem fc_words_Get_ok : compF Try.prog 51 [[0, 1], [6], [6, 11], [4, 5], [4, 5]] = some fc_words_Get := by kernel_rfl
/-- joist/wal.told -/
abbrev F.wal_told : Nat := 52
def cmd_wal_told : Cmd :=
  .seq (.seq (.reg [⟨some 4, none, .inr (.box 3 (.t 0))⟩,
 ⟨some 8, none, .inl (.mv (.c (.bool false)))⟩])
 (.keep [1, 2, 3, 4]))
 (.seq (.seq (.reg [⟨some 13, none, .inl (.load true 3 (.t 4))⟩,
 ⟨some 14, none, .inl (.mv (.t 3))⟩,
 ⟨some 15, none, .inr (.call 11 [(.t 13), (.t 14)])⟩,
 ⟨some 12, none, .inl (.mv (.t 15))⟩,
 ⟨some 16, none, .inl (.ext 0 (.t 12))⟩,
 ⟨some 17, none, .inl (.ext 1 (.t 12))⟩,
 ⟨some 18, none, .inl (.ext 2 (.t 12))⟩,
 ⟨some 9, none, .inl (.mv (.t 16))⟩,
 ⟨some 10, none, .inl (.mv (.t 17))⟩,
 ⟨some 11, none, .inl (.mv (.t 18))⟩])
 (.keep [1, 2, 4, 9, 10, 11]))
 (.seq (.seq (.reg [⟨some 19, none, .inl (.mv (.t 11))⟩,
 ⟨some 20, none, .inl (.bin .eql (.t 19) (.c (.int .i64 0)))⟩,
 ⟨some 21, none, .inl (.mv (.t 20))⟩,
 ⟨some 22, (some (21, true)), .inl (.mv (.t 10))⟩,
 ⟨some 23, (some (21, true)), .inl (.mv (.t 2))⟩,
 ⟨some 24, (some (21, true)), .inr (.call 73 [(.t 22), (.t 23)])⟩,
 ⟨some 25, none, .inl (.pick (.t 21) (.t 24) (.c (.bool false)))⟩,
 ⟨some 26, none, .inl (.mv (.t 25))⟩,
 ⟨some 27, (some (26, true)), .inl (.mv (.t 1))⟩,
 ⟨some 28, (some (26, true)), .inl (.faddr 1 (.t 4))⟩,
 ⟨some 29, (some (26, true)), .inl (.load false 1 (.t 28))⟩,
 ⟨some 30, (some (26, true)), .inl (.bin .mul (.t 29) (.c (.int .i64 64)))⟩,
 ⟨some 31, (some (26, true)), .inl (.slice 1 (.t 27) (some (.t 30)) none none)⟩,
 ⟨some 32, (some (26, true)), .inl (.mv (.t 9))⟩,
 ⟨some 33, (some (26, true)), .inr (.call 74 [(.t 31), (.t 32)])⟩,
 ⟨some 34, none, .inl (.pick (.t 26) (.t 33) (.c (.bool false)))⟩,
 ⟨some 8, none, .inl (.mv (.t 34))⟩])
 (.keep [8]))
 (.ret)))
def fc_wal_told : FC := ⟨35, cmd_wal_told, [.t 8]⟩
theorem fc_wal_told_ok : compF Try.prog 52 [[1, 2, 3, 4], [1, 2, 4, 9, 10, 11], [8]] = some fc_wal_told := by kernel_rfl
/-- joist/joistref01.Zero -/
abbrev F.joistref01_Zero : Nat := 53
def cmd_joistref01_Zero : Cmd :=
  .seq (.seq (.reg [⟨some 2, none, .inl (.mv (.c (.bool false)))⟩])
 (.keep [0]))
 (.seq (.seq (.seq (.reg [⟨some 3, none, .inl (.mv (.c (.int .i64 0)))⟩])
 (.keep [0, 3]))
 (.block 0 (.loop [0, 3] (.seq (.seq (.seq (.reg [⟨some 4, none, .inl (.mv (.t 3))⟩,
 ⟨some 5, none, .inl (.mv (.t 0))⟩,
 ⟨some 6, none, .inl (.len (.t 5))⟩,
 ⟨some 7, none, .inl (.bin .lss (.t 4) (.t 6))⟩])
 (.keep [0, 3, 7]))
 (.cond (.t 7)
 (.skip)
 (.exit 0)))
 (.seq (.block 1 (.seq (.seq (.reg [⟨some 10, none, .inl (.mv (.t 0))⟩,
 ⟨some 11, none, .inl (.mv (.t 3))⟩,
 ⟨some 12, none, .inl (.iaddr 1 (.t 10) (.t 11))⟩,
 ⟨some 13, none, .inl (.load false 1 (.t 12))⟩,
 ⟨some 14, none, .inl (.bin .neq (.t 13) (.c (.int .u8 0)))⟩])
 (.keep [0, 3, 14]))
 (.cond (.t 14)
 (.seq (.seq (.reg [⟨some 2, none, .inl (.mv (.c (.bool false)))⟩])
 (.keep [2]))
 (.ret))
 (.skip))))
 (.seq (.reg [⟨some 8, none, .inl (.mv (.t 3))⟩,
 ⟨some 9, none, .inl (.bin .add (.t 8) (.c (.int .i64 1)))⟩,
 ⟨some 3, none, .inl (.mv (.t 9))⟩])
 (.keep [0, 3])))))))
 (.seq (.seq (.reg [⟨some 2, none, .inl (.mv (.c (.bool true)))⟩])
 (.keep [2]))
 (.ret)))
def fc_joistref01_Zero : FC := ⟨15, cmd_joistref01_Zero, [.t 2]⟩
theorem fc_joistref01_Zero_ok : compF Try.prog 53 [[0], [0, 3], [0, 3], [0, 3, 7], [0, 3, 14], [2], [0, 3], [2]] = some fc_joistref01_Zero := by kernel_rfl
/-- joist/joistref01.Get -/
abbrev F.joistref01_Get : Nat := 54
def cmd_joistref01_Get : Cmd :=
  .seq (.seq (.reg [⟨some 4, none, .inl (.mv (.c (.int .i64 0)))⟩,
 ⟨some 5, none, .inl (.mv (.c (.bool false)))⟩])
 (.keep [0, 1]))
 (.seq (.seq (.seq (.reg [⟨some 9, none, .inl (.mv (.t 1))⟩,
 ⟨some 10, none, .inl (.bin .lss (.t 9) (.c (.int .i64 0)))⟩,
 ⟨some 11, none, .inl (.mv (.t 10))⟩,
 ⟨some 12, (some (11, false)), .inl (.mv (.t 1))⟩,
 ⟨some 13, (some (11, false)), .inl (.mv (.t 0))⟩,
 ⟨some 14, (some (11, false)), .inl (.len (.t 13))⟩,
 ⟨some 15, (some (11, false)), .inl (.bin .quo (.t 14) (.c (.int .i64 8)))⟩,
 ⟨some 16, (some (11, false)), .inl (.bin .geq (.t 12) (.t 15))⟩,
 ⟨some 17, none, .inl (.pick (.t 11) (.c (.bool true)) (.t 16))⟩])
 (.keep [0, 1, 17]))
 (.cond (.t 17)
 (.seq (.seq (.reg [⟨some 4, none, .inl (.mv (.c (.int .i64 0)))⟩,
 ⟨some 5, none, .inl (.mv (.c (.bool false)))⟩])
 (.keep [4, 5]))
 (.ret))
 (.skip)))
 (.seq (.seq (.reg [⟨some 18, none, .inl (.mv (.t 0))⟩,
 ⟨some 19, none, .inl (.mv (.t 1))⟩,
 ⟨some 20, none, .inl (.bin .mul (.c (.int .i64 8)) (.t 19))⟩,
 ⟨some 21, none, .inl (.mv (.t 1))⟩,
 ⟨some 22, none, .inl (.bin .mul (.c (.int .i64 8)) (.t 21))⟩,
 ⟨some 23, none, .inl (.bin .add (.t 22) (.c (.int .i64 8)))⟩,
 ⟨some 24, none, .inl (.slice 1 (.t 18) (some (.t 20)) (some (.t 23)) none)⟩,
 ⟨some 6, none, .inl (.mv (.t 24))⟩])
 (.keep [6]))
 (.seq (.seq (.seq (.reg [⟨some 25, none, .inl (.mv (.t 6))⟩,
 ⟨some 26, none, .inl (.iaddr 1 (.t 25) (.c (.int .i64 7)))⟩,
 ⟨some 27, none, .inl (.load false 1 (.t 26))⟩,
 ⟨some 28, none, .inl (.bin .geq (.t 27) (.c (.int .u8 64)))⟩])
 (.keep [6, 28]))
 (.cond (.t 28)
 (.seq (.seq (.reg [⟨some 4, none, .inl (.mv (.c (.int .i64 0)))⟩,
 ⟨some 5, none, .inl (.mv (.c (.bool false)))⟩])
 (.keep [4, 5]))
 (.ret))
 (.skip)))
 (.seq (.seq (.reg [⟨some 7, none, .inl (.mv (.c (.int .i64 0)))⟩])
 (.keep [6, 7]))
 (.seq (.seq (.seq (.reg [⟨some 8, none, .inl (.mv (.c (.int .i64 7)))⟩])
 (.keep [6, 7, 8]))
 (.block 0 (.loop [6, 7, 8] (.seq (.seq (.seq (.reg [⟨some 29, none, .inl (.mv (.t 8))⟩,
 ⟨some 30, none, .inl (.bin .geq (.t 29) (.c (.int .i64 0)))⟩])
 (.keep [6, 7, 8, 30]))
 (.cond (.t 30)
 (.skip)
 (.exit 0)))
 (.seq (.block 1 (.seq (.reg [⟨some 33, none, .inl (.mv (.t 7))⟩,
 ⟨some 34, none, .inl (.bin .mul (.t 33) (.c (.int .i64 256)))⟩,
 ⟨some 35, none, .inl (.mv (.t 6))⟩,
 ⟨some 36, none, .inl (.mv (.t 8))⟩,
 ⟨some 37, none, .inl (.iaddr 1 (.t 35) (.t 36))⟩,
 ⟨some 38, none, .inl (.load false 1 (.t 37))⟩,
 ⟨some 39, none, .inl (.conv .i64 (.t 38))⟩,
 ⟨some 40, none, .inl (.bin .add (.t 34) (.t 39))⟩,
 ⟨some 7, none, .inl (.mv (.t 40))⟩])
 (.keep [6, 7, 8])))
 (.seq (.reg [⟨some 31, none, .inl (.mv (.t 8))⟩,
 ⟨some 32, none, .inl (.bin .sub (.t 31) (.c (.int .i64 1)))⟩,
 ⟨some 8, none, .inl (.mv (.t 32))⟩])
 (.keep [6, 7, 8])))))))
 (.seq (.seq (.reg [⟨some 41, none, .inl (.mv (.t 7))⟩,
 ⟨some 4, none, .inl (.mv (.t 41))⟩,
 ⟨some 5, none, .inl (.mv (.c (.bool true)))⟩])
 (.keep [4, 5]))
 (.ret)))))))
def fc_joistref01_Get : FC := ⟨42, cmd_joistref01_Get, [.t 4, .t 5]⟩
theorem fc_joistref01_Get_ok : compF Try.prog 54 [[0, 1], [0, 1, 17], [4, 5], [6], [6, 28], [4, 5], [6, 7], [6, 7, 8], [6, 7, 8], [6, 7, 8, 30], [6, 7, 8], [6, 7, 8], [4, 5]] = some fc_joistref01_Get := by kernel_rfl
/-- slices.Sort[[]int,int] -/
abbrev F.slices_Sort : Nat := 55
def cmd_slices_Sort : Cmd :=
  .seq (.seq (.reg [⟨some 3, none, .inl (.mv (.t 0))⟩,
 ⟨some 4, none, .inl (.len (.t 3))⟩,
 ⟨some 2, none, .inl (.mv (.t 4))⟩])
 (.keep [0, 2]))
 (.seq (.reg [⟨some 5, none, .inl (.mv (.t 0))⟩,
 ⟨some 6, none, .inl (.mv (.t 2))⟩,
 ⟨some 7, none, .inl (.mv (.t 2))⟩,
 ⟨some 8, none, .inl (.conv .u64 (.t 7))⟩,
 ⟨some 9, none, .inr (.call 76 [(.t 8)])⟩,
 ⟨some 10, none, .inr (.call 75 [(.t 5), (.c (.int .i64 0)), (.t 6), (.t 9)])⟩])
 (.keep []))
def fc_slices_Sort : FC := ⟨11, cmd_slices_Sort, []⟩
theorem fc_slices_Sort_ok : compF Try.prog 55 [[0, 2], []] = some fc_slices_Sort := by kernel_rfl
/-- joist/lines.line -/
abbrev F.lines_line : Nat := 56
def cmd_lines_line : Cmd :=
  .seq (.seq (.reg [⟨some 4, none, .inl (.mv (.c .nils))⟩])
 (.keep [0, 1]))
 (.seq (.seq (.reg [⟨some 5, none, .inl (.mv (.t 0))⟩,
 ⟨some 6, none, .inl (.mv (.t 1))⟩,
 ⟨some 7, none, .inl (.bin .mul (.t 6) (.c (.int .i64 64)))⟩,
 ⟨some 8, none, .inl (.mv (.t 1))⟩,
 ⟨some 9, none, .inl (.bin .add (.t 8) (.c (.int .i64 1)))⟩,
 ⟨some 10, none, .inl (.bin .mul (.t 9) (.c (.int .i64 64)))⟩,
 ⟨some 11, none, .inl (.slice 1 (.t 5) (some (.t 7)) (some (.t 10)) none)⟩,
 ⟨some 4, none, .inl (.mv (.t 11))⟩])
 (.keep [4]))
 (.ret))
def fc_lines_line : FC := ⟨12, cmd_lines_line, [.t 4]⟩
theorem fc_lines_line_ok : compF Try.prog 56 [[0, 1], [4]] = some fc_lines_line := by kernel_rfl
/-- (*joist/pmem.Device).last -/
abbrev F.pmem_Device_last : Nat := 57
def cmd_pmem_Device_last : Cmd :=
  .seq (.seq (.reg [⟨some 5, none, .inl (.mv (.t 1))⟩,
 ⟨some 6, none, .inl (.bin .mul (.t 5) (.c (.int .i64 64)))⟩,
 ⟨some 4, none, .inl (.mv (.t 6))⟩])
 (.keep [0, 4]))
 (.seq (.ord [⟨0, ⟨some 7, none, .inl (.mv (.t 0))⟩, [], false⟩,
 ⟨1, ⟨some 8, none, .inl (.nilchk (.t 7))⟩, [], false⟩,
 ⟨2, ⟨some 9, none, .inl (.faddr 0 (.t 8))⟩, [], false⟩,
 ⟨3, ⟨some 10, none, .inl (.load false 1 (.t 9))⟩, [], false⟩,
 ⟨4, ⟨some 11, none, .inl (.mv (.t 4))⟩, [], false⟩,
 ⟨5, ⟨some 12, none, .inl (.mv (.t 4))⟩, [], false⟩,
 ⟨6, ⟨some 13, none, .inl (.bin .add (.t 12) (.c (.int .i64 64)))⟩, [], false⟩,
 ⟨7, ⟨some 14, none, .inl (.slice 1 (.t 10) (some (.t 11)) (some (.t 13)) none)⟩, [], false⟩,
 ⟨8, ⟨some 15, none, .inl (.mv (.t 0))⟩, [], false⟩,
 ⟨9, ⟨some 16, none, .inl (.nilchk (.t 15))⟩, [], false⟩,
 ⟨10, ⟨some 17, none, .inl (.faddr 1 (.t 16))⟩, [], false⟩,
 ⟨11, ⟨some 18, none, .inl (.load false 1 (.t 17))⟩, [], false⟩,
 ⟨12, ⟨some 19, none, .inl (.mv (.t 4))⟩, [], false⟩,
 ⟨13, ⟨some 20, none, .inl (.slice 1 (.t 18) (some (.t 19)) none none)⟩, [], false⟩,
 ⟨14, ⟨some 21, none, .inr (.copy 1 (.t 14) (.t 20))⟩, [], false⟩])
 (.keep []))
def fc_pmem_Device_last : FC := ⟨22, cmd_pmem_Device_last, []⟩
theorem fc_pmem_Device_last_ok : compF Try.prog 57 [[0, 4], [], [0, 1, 2, 3, 4, 5, 6, 7, 8, 9, 10, 11, 12, 13, 14]] = some fc_pmem_Device_last := by kernel_rfl
/-- (*joist/pmem.Device).View -/
abbrev F.pmem_Device_View : Nat := 58
def cmd_pmem_Device_View : Cmd :=
  .seq (.seq (.reg [⟨some 2, none, .inl (.mv (.c .nils))⟩])
 (.keep [0]))
 (.seq (.seq (.reg [⟨some 3, none, .inl (.mv (.t 0))⟩,
 ⟨some 4, none, .inl (.nilchk (.t 3))⟩,
 ⟨some 5, none, .inl (.faddr 1 (.t 4))⟩,
 ⟨some 6, none, .inl (.load false 1 (.t 5))⟩,
 ⟨some 7, none, .inr (.call 45 [(.t 6)])⟩,
 ⟨some 2, none, .inl (.mv (.t 7))⟩])
 (.keep [2]))
 (.ret))
def fc_pmem_Device_View : FC := ⟨8, cmd_pmem_Device_View, [.t 2]⟩
theorem fc_pmem_Device_View_ok : compF Try.prog 58 [[0], [2]] = some fc_pmem_Device_View := by kernel_rfl
/-- slices.ContainsFunc[[]joist/api.Change,joist/api.Change] -/
abbrev F.slices_ContainsFunc : Nat := 59
def cmd_slices_ContainsFunc : Cmd :=
  .seq (.seq (.reg [⟨some 4, none, .inl (.mv (.c (.bool false)))⟩])
 (.keep [0, 1]))
 (.seq (.seq (.reg [⟨some 5, none, .inl (.mv (.t 0))⟩,
 ⟨some 6, none, .inl (.mv (.t 1))⟩,
 ⟨some 7, none, .inr (.call 77 [(.t 5), (.t 6)])⟩,
 ⟨some 8, none, .inl (.bin .geq (.t 7) (.c (.int .i64 0)))⟩,
 ⟨some 4, none, .inl (.mv (.t 8))⟩])
 (.keep [4]))
 (.ret))
def fc_slices_ContainsFunc : FC := ⟨9, cmd_slices_ContainsFunc, [.t 4]⟩
theorem fc_slices_ContainsFunc_ok : compF Try.prog 59 [[0, 1], [4]] = some fc_slices_ContainsFunc := by kernel_rfl
/-- joist/wal.mine$1 -/
abbrev F.wal_mine_1 : Nat := 60
def cmd_wal_mine_1 : Cmd :=
  .seq (.seq (.reg [⟨some 2, none, .inr (.box 2 (.t 0))⟩,
 ⟨some 3, none, .inl (.mv (.c (.bool false)))⟩])
 (.keep [1, 2]))
 (.seq (.seq (.reg [⟨some 4, none, .inl (.load true 3 (.t 1))⟩,
 ⟨some 5, none, .inl (.faddr 0 (.t 2))⟩,
 ⟨some 6, none, .inl (.load false 1 (.t 5))⟩,
 ⟨some 7, none, .inr (.call 16 [(.t 4), (.t 6)])⟩,
 ⟨some 3, none, .inl (.mv (.t 7))⟩])
 (.keep [3]))
 (.ret))
def fc_wal_mine_1 : FC := ⟨8, cmd_wal_mine_1, [.t 3]⟩
theorem fc_wal_mine_1_ok : compF Try.prog 60 [[1, 2], [3]] = some fc_wal_mine_1 := by kernel_rfl
/-- joist/words.Of -/
abbrev F.words_Of : Nat := 61
def cmd_words_Of : Cmd :=
  .seq (.seq (.reg [⟨some 2, none, .inl (.mv (.c .nils))⟩,
 ⟨some 3, none, .inl (.mv (.c (.int .i64 0)))⟩])
 (.keep [0]))
 (.seq (.seq (.reg [⟨some 7, none, .inl (.mv (.t 0))⟩,
 ⟨some 8, none, .inl (.len (.t 7))⟩,
 ⟨some 9, none, .inl (.bin .mul (.t 8) (.c (.int .i64 8)))⟩,
 ⟨some 10, none, .inr (.mksl 1 1 [(.int .u8 0)] (.t 9) (.t 9))⟩,
 ⟨some 4, none, .inl (.mv (.t 10))⟩])
 (.keep [0, 4]))
 (.seq (.seq (.seq (.reg [⟨some 11, none, .inl (.mv (.t 0))⟩,
 ⟨some 12, none, .inl (.len (.t 11))⟩,
 ⟨some 13, none, .inl (.mv (.c (.int .i64 0)))⟩])
 (.keep [4, 11, 12, 13]))
 (.block 0 (.loop [4, 11, 12, 13] (.seq (.seq (.reg [⟨some 14, none, .inl (.bin .lss (.t 13) (.t 12))⟩])
 (.keep [4, 11, 12, 13, 14]))
 (.seq (.cond (.t 14)
 (.skip)
 (.exit 0))
 (.seq (.block 1 (.seq (.seq (.reg [⟨some 15, none, .inl (.mv (.t 13))⟩,
 ⟨some 16, none, .inl (.iaddr 1 (.t 11) (.t 13))⟩,
 ⟨some 17, none, .inl (.load false 1 (.t 16))⟩,
 ⟨some 5, none, .inl (.mv (.t 15))⟩,
 ⟨some 6, none, .inl (.mv (.t 17))⟩])
 (.keep [4, 5, 6, 11, 12, 13]))
 (.seq (.seq (.seq (.reg [⟨some 18, none, .inl (.mv (.t 6))⟩,
 ⟨some 19, none, .inr (.call 78 [(.t 18)])⟩,
 ⟨some 20, none, .inl (.un .not (.t 19))⟩])
 (.keep [4, 5, 6, 11, 12, 13, 20]))
 (.cond (.t 20)
 (.seq (.seq (.reg [⟨some 2, none, .inl (.mv (.c .nils))⟩,
 ⟨some 3, none, .inl (.mv (.c (.int .i64 4)))⟩])
 (.keep [2, 3]))
 (.ret))
 (.skip)))
 (.seq (.reg [⟨some 21, none, .inl (.mv (.t 4))⟩,
 ⟨some 22, none, .inl (.mv (.t 5))⟩,
 ⟨some 23, none, .inr (.call 71 [(.t 21), (.t 22)])⟩,
 ⟨some 24, none, .inl (.mv (.t 6))⟩,
 ⟨some 25, none, .inr (.call 79 [(.t 23), (.t 24)])⟩])
 (.keep [4, 11, 12, 13])))))
 (.seq (.reg [⟨some 26, none, .inl (.bin .add (.t 13) (.c (.int .i64 1)))⟩,
 ⟨some 13, none, .inl (.mv (.t 26))⟩])
 (.keep [4, 11, 12, 13]))))))))
 (.seq (.seq (.reg [⟨some 27, none, .inl (.mv (.t 4))⟩,
 ⟨some 2, none, .inl (.mv (.t 27))⟩,
 ⟨some 3, none, .inl (.mv (.c (.int .i64 0)))⟩])
 (.keep [2, 3]))
 (.ret))))
def fc_words_Of : FC := ⟨28, cmd_words_Of, [.t 2, .t 3]⟩
theorem fc_words_Of_ok : compF Try.prog 61 [[0], [0, 4], [4, 11, 12, 13], [4, 11, 12, 13], [4, 11, 12, 13, 14], [4, 5, 6, 11, 12, 13], [4, 5, 6, 11, 12, 13, 20], [2, 3], [4, 11, 12, 13], [4, 11, 12, 13], [2, 3]] = some fc_words_Of := by kernel_rfl
/-- joist/crc.run -/
abbrev F.crc_run : Nat := 62
def cmd_crc_run : Cmd :=
  .seq (.seq (.reg [⟨some 4, none, .inl (.mv (.c (.int .u32 0)))⟩])
 (.keep [0, 1]))
 (.seq (.seq (.seq (.reg [⟨some 7, none, .inl (.mv (.t 1))⟩,
 ⟨some 8, none, .inl (.len (.t 7))⟩,
 ⟨some 9, none, .inl (.mv (.c (.int .i64 0)))⟩])
 (.keep [0, 7, 8, 9]))
 (.block 0 (.loop [0, 7, 8, 9] (.seq (.seq (.reg [⟨some 10, none, .inl (.bin .lss (.t 9) (.t 8))⟩])
 (.keep [0, 7, 8, 9, 10]))
 (.seq (.cond (.t 10)
 (.skip)
 (.exit 0))
 (.seq (.block 1 (.seq (.seq (.reg [⟨some 11, none, .inl (.iaddr 1 (.t 7) (.t 9))⟩,
 ⟨some 12, none, .inl (.load false 1 (.t 11))⟩,
 ⟨some 6, none, .inl (.mv (.t 12))⟩])
 (.keep [0, 6, 7, 8, 9]))
 (.seq (.reg [⟨some 13, none, .inl (.mv (.t 0))⟩,
 ⟨some 14, none, .inl (.mv (.t 6))⟩,
 ⟨some 15, none, .inl (.conv .u32 (.t 14))⟩,
 ⟨some 16, none, .inl (.bin .xor (.t 13) (.t 15))⟩,
 ⟨some 17, none, .inr (.call 80 [(.t 16)])⟩,
 ⟨some 0, none, .inl (.mv (.t 17))⟩])
 (.keep [0, 7, 8, 9]))))
 (.seq (.reg [⟨some 18, none, .inl (.bin .add (.t 9) (.c (.int .i64 1)))⟩,
 ⟨some 9, none, .inl (.mv (.t 18))⟩])
 (.keep [0, 7, 8, 9]))))))))
 (.seq (.seq (.reg [⟨some 19, none, .inl (.mv (.t 0))⟩,
 ⟨some 4, none, .inl (.mv (.t 19))⟩])
 (.keep [4]))
 (.ret)))
def fc_crc_run : FC := ⟨20, cmd_crc_run, [.t 4]⟩
theorem fc_crc_run_ok : compF Try.prog 62 [[0, 1], [0, 7, 8, 9], [0, 7, 8, 9], [0, 7, 8, 9, 10], [0, 6, 7, 8, 9], [0, 7, 8, 9], [0, 7, 8, 9], [4]] = some fc_crc_run := by kernel_rfl
/-- joist/joistref01.Of -/
abbrev F.joistref01_Of : Nat := 63
def cmd_joistref01_Of : Cmd :=
  .seq (.seq (.reg [⟨some 2, none, .inl (.mv (.c .nils))⟩,
 ⟨some 3, none, .inl (.mv (.c (.int .i64 0)))⟩])
 (.keep [0]))
 (.seq (.seq (.reg [⟨some 4, none, .inl (.mv (.c .nils))⟩])
 (.keep [0, 4]))
 (.seq (.seq (.seq (.reg [⟨some 5, none, .inl (.mv (.c (.int .i64 0)))⟩])
 (.keep [0, 4, 5]))
 (.block 0 (.loop [0, 4, 5] (.seq (.seq (.seq (.reg [⟨some 6, none, .inl (.mv (.t 5))⟩,
 ⟨some 7, none, .inl (.mv (.t 0))⟩,
 ⟨some 8, none, .inl (.len (.t 7))⟩,
 ⟨some 9, none, .inl (.bin .lss (.t 6) (.t 8))⟩])
 (.keep [0, 4, 5, 9]))
 (.cond (.t 9)
 (.skip)
 (.exit 0)))
 (.seq (.block 1 (.seq (.seq (.seq (.reg [⟨some 12, none, .inl (.mv (.t 0))⟩,
 ⟨some 13, none, .inl (.mv (.t 5))⟩,
 ⟨some 14, none, .inl (.iaddr 1 (.t 12) (.t 13))⟩,
 ⟨some 15, none, .inl (.load false 1 (.t 14))⟩,
 ⟨some 16, none, .inl (.bin .lss (.t 15) (.c (.int .i64 0)))⟩,
 ⟨some 17, none, .inl (.mv (.t 16))⟩,
 ⟨some 18, (some (17, false)), .inl (.mv (.t 0))⟩,
 ⟨some 19, (some (17, false)), .inl (.mv (.t 5))⟩,
 ⟨some 20, (some (17, false)), .inl (.iaddr 1 (.t 18) (.t 19))⟩,
 ⟨some 21, (some (17, false)), .inl (.load false 1 (.t 20))⟩,
 ⟨some 22, (some (17, false)), .inl (.bin .gtr (.t 21) (.c (.int .i64 4611686018427387903)))⟩,
 ⟨some 23, none, .inl (.pick (.t 17) (.c (.bool true)) (.t 22))⟩])
 (.keep [0, 4, 5, 23]))
 (.cond (.t 23)
 (.seq (.seq (.reg [⟨some 2, none, .inl (.mv (.c .nils))⟩,
 ⟨some 3, none, .inl (.mv (.c (.int .i64 4)))⟩])
 (.keep [2, 3]))
 (.ret))
 (.skip)))
 (.seq (.reg [⟨some 24, none, .inl (.mv (.t 4))⟩,
 ⟨some 25, none, .inl (.mv (.t 0))⟩,
 ⟨some 26, none, .inl (.mv (.t 5))⟩,
 ⟨some 27, none, .inl (.iaddr 1 (.t 25) (.t 26))⟩,
 ⟨some 28, none, .inl (.load false 1 (.t 27))⟩,
 ⟨some 29, none, .inr (.call 81 [(.t 28)])⟩,
 ⟨some 30, none, .inr (.append 1 1 (.t 24) (.t 29))⟩,
 ⟨some 4, none, .inl (.mv (.t 30))⟩])
 (.keep [0, 4, 5]))))
 (.seq (.reg [⟨some 10, none, .inl (.mv (.t 5))⟩,
 ⟨some 11, none, .inl (.bin .add (.t 10) (.c (.int .i64 1)))⟩,
 ⟨some 5, none, .inl (.mv (.t 11))⟩])
 (.keep [0, 4, 5])))))))
 (.seq (.seq (.reg [⟨some 31, none, .inl (.mv (.t 4))⟩,
 ⟨some 2, none, .inl (.mv (.t 31))⟩,
 ⟨some 3, none, .inl (.mv (.c (.int .i64 0)))⟩])
 (.keep [2, 3]))
 (.ret))))
def fc_joistref01_Of : FC := ⟨32, cmd_joistref01_Of, [.t 2, .t 3]⟩
theorem fc_joistref01_Of_ok : compF Try.prog 63 [[0], [0, 4], [0, 4, 5], [0, 4, 5], [0, 4, 5, 9], [0, 4, 5, 23], [2, 3], [0, 4, 5], [0, 4, 5], [2, 3]] = some fc_joistref01_Of := by kernel_rfl
/-- joist/joistref02.Sum -/
abbrev F.joistref02_Sum : Nat := 64
def cmd_joistref02_Sum : Cmd :=
  .seq (.seq (.reg [⟨some 2, none, .inl (.mv (.c (.int .i64 0)))⟩])
 (.keep [0]))
 (.seq (.seq (.reg [⟨some 3, none, .inl (.mv (.t 0))⟩,
 ⟨some 4, none, .inr (.call 82 [(.c (.int .i64 4294967295)), (.t 3)])⟩,
 ⟨some 5, none, .inl (.bin .xor (.c (.int .i64 4294967295)) (.t 4))⟩,
 ⟨some 2, none, .inl (.mv (.t 5))⟩])
 (.keep [2]))
 (.ret))
def fc_joistref02_Sum : FC := ⟨6, cmd_joistref02_Sum, [.t 2]⟩
theorem fc_joistref02_Sum_ok : compF Try.prog 64 [[0], [2]] = some fc_joistref02_Sum := by kernel_rfl
/-- (*joist/wal.steps).do -/
abbrev F.wal_steps_do : Nat := 65
def cmd_wal_steps_do : Cmd :=
  .seq (.seq (.reg [⟨some 4, none, .inl (.mv (.t 0))⟩,
 ⟨some 5, none, .inl (.nilchk (.t 4))⟩,
 ⟨some 6, none, .inl (.faddr 1 (.t 5))⟩,
 ⟨some 7, none, .inl (.load false 1 (.t 6))⟩,
 ⟨some 8, none, .inl (.bin .eql (.t 7) (.c (.int .i64 0)))⟩])
 (.keep [0, 1, 8]))
 (.cond (.t 8)
 (.seq (.reg [⟨some 9, none, .inl (.mv (.t 0))⟩,
 ⟨some 10, none, .inl (.mv (.t 1))⟩,
 ⟨some 11, none, .inr (.callv (.t 10) [])⟩,
 ⟨some 12, none, .inl (.nilchk (.t 9))⟩,
 ⟨some 13, none, .inl (.faddr 1 (.t 12))⟩,
 ⟨none, none, .inr (.store 1 (.t 13) (.t 11))⟩])
 (.keep []))
 (.skip))
def fc_wal_steps_do : FC := ⟨14, cmd_wal_steps_do, []⟩
theorem fc_wal_steps_do_ok : compF Try.prog 65 [[0, 1, 8], []] = some fc_wal_steps_do := by kernel_rfl
/-- (*joist/wal.steps).put$1 -/
abbrev F.wal_steps_put_1 : Nat := 66
def cmd_wal_steps_put_1 : Cmd :=
  .seq (.seq (.reg [⟨some 3, none, .inl (.mv (.c (.int .i64 0)))⟩])
 (.keep [0, 1, 2]))
 (.seq (.seq (.ord [⟨0, ⟨some 4, none, .inl (.load false 1 (.t 0))⟩, [], false⟩,
 ⟨1, ⟨some 5, none, .inl (.nilchk (.t 4))⟩, [], false⟩,
 ⟨2, ⟨some 6, none, .inl (.faddr 0 (.t 5))⟩, [], false⟩,
 ⟨3, ⟨some 7, none, .inl (.load false 1 (.t 6))⟩, [], false⟩,
 ⟨4, ⟨some 8, none, .inl (.load false 1 (.t 1))⟩, [], false⟩,
 ⟨5, ⟨some 9, none, .inl (.load false 1 (.t 2))⟩, [], false⟩,
 ⟨6, ⟨some 10, none, .inr (.call 67 [(.t 7), (.t 8), (.t 9)])⟩, [], false⟩,
 ⟨7, ⟨some 3, none, .inl (.mv (.t 10))⟩, [], false⟩])
 (.keep [3]))
 (.ret))
def fc_wal_steps_put_1 : FC := ⟨11, cmd_wal_steps_put_1, [.t 3]⟩
theorem fc_wal_steps_put_1_ok : compF Try.prog 66 [[0, 1, 2], [3], [0, 1, 2, 3, 4, 5, 6, 7]] = some fc_wal_steps_put_1 := by kernel_rfl
/-- (*joist/pmem.Device).Store -/
abbrev F.pmem_Device_Store : Nat := 67
def cmd_pmem_Device_Store : Cmd :=
  .seq (.seq (.reg [⟨some 3, none, .inr (.box 1 (.t 0))⟩,
 ⟨some 6, none, .inl (.mv (.c (.int .i64 0)))⟩])
 (.keep [1, 2, 3]))
 (.seq (.seq (.seq (.reg [⟨some 8, none, .inl (.load false 1 (.t 3))⟩,
 ⟨some 9, none, .inl (.mv (.t 1))⟩,
 ⟨some 10, none, .inl (.mv (.t 2))⟩,
 ⟨some 11, none, .inl (.len (.t 10))⟩,
 ⟨some 12, none, .inr (.call 83 [(.t 8), (.t 9), (.t 11)])⟩,
 ⟨some 7, none, .inl (.mv (.t 12))⟩])
 (.keep [1, 2, 3, 7]))
 (.seq (.seq (.reg [⟨some 13, none, .inl (.mv (.t 7))⟩,
 ⟨some 14, none, .inl (.bin .neq (.t 13) (.c (.int .i64 0)))⟩])
 (.keep [1, 2, 3, 7, 14]))
 (.cond (.t 14)
 (.seq (.seq (.reg [⟨some 15, none, .inl (.mv (.t 7))⟩,
 ⟨some 6, none, .inl (.mv (.t 15))⟩])
 (.keep [6]))
 (.ret))
 (.skip))))
 (.seq (.seq (.reg [⟨some 16, none, .inl (.load false 1 (.t 3))⟩,
 ⟨some 17, none, .inl (.nilchk (.t 16))⟩,
 ⟨some 18, none, .inl (.faddr 1 (.t 17))⟩,
 ⟨some 19, none, .inl (.load false 1 (.t 18))⟩,
 ⟨some 20, none, .inl (.mv (.t 1))⟩,
 ⟨some 21, none, .inl (.slice 1 (.t 19) (some (.t 20)) none none)⟩,
 ⟨some 22, none, .inl (.mv (.t 2))⟩,
 ⟨some 23, none, .inr (.copy 1 (.t 21) (.t 22))⟩])
 (.keep [1, 2, 3]))
 (.seq (.seq (.reg [⟨some 24, none, .inl (.mv (.t 1))⟩,
 ⟨some 25, none, .inl (.mv (.t 2))⟩,
 ⟨some 26, none, .inl (.len (.t 25))⟩,
 ⟨some 27, none, .inl (.mkfn 85 [(.t 3)])⟩,
 ⟨some 28, none, .inr (.call 84 [(.t 24), (.t 26), (.t 27)])⟩])
 (.keep []))
 (.seq (.seq (.reg [⟨some 6, none, .inl (.mv (.c (.int .i64 0)))⟩])
 (.keep [6]))
 (.ret)))))
def fc_pmem_Device_Store : FC := ⟨29, cmd_pmem_Device_Store, [.t 6]⟩
theorem fc_pmem_Device_Store_ok : compF Try.prog 67 [[1, 2, 3], [1, 2, 3, 7], [1, 2, 3, 7, 14], [6], [1, 2, 3], [], [6]] = some fc_pmem_Device_Store := by kernel_rfl
/-- (*joist/wal.steps).put$2 -/
abbrev F.wal_steps_put_2 : Nat := 68
def cmd_wal_steps_put_2 : Cmd :=
  .seq (.seq (.reg [⟨some 3, none, .inl (.mv (.c (.int .i64 0)))⟩])
 (.keep [0, 1, 2]))
 (.seq (.seq (.ord [⟨0, ⟨some 4, none, .inl (.load false 1 (.t 0))⟩, [], false⟩,
 ⟨1, ⟨some 5, none, .inl (.nilchk (.t 4))⟩, [], false⟩,
 ⟨2, ⟨some 6, none, .inl (.faddr 0 (.t 5))⟩, [], false⟩,
 ⟨3, ⟨some 7, none, .inl (.load false 1 (.t 6))⟩, [], false⟩,
 ⟨4, ⟨some 8, none, .inl (.load false 1 (.t 1))⟩, [], false⟩,
 ⟨5, ⟨some 9, none, .inl (.load false 1 (.t 2))⟩, [], false⟩,
 ⟨6, ⟨some 10, none, .inl (.len (.t 9))⟩, [], false⟩,
 ⟨7, ⟨some 11, none, .inr (.call 69 [(.t 7), (.t 8), (.t 10)])⟩, [], false⟩,
 ⟨8, ⟨some 3, none, .inl (.mv (.t 11))⟩, [], false⟩])
 (.keep [3]))
 (.ret))
def fc_wal_steps_put_2 : FC := ⟨12, cmd_wal_steps_put_2, [.t 3]⟩
theorem fc_wal_steps_put_2_ok : compF Try.prog 68 [[0, 1, 2], [3], [0, 1, 2, 3, 4, 5, 6, 7, 8]] = some fc_wal_steps_put_2 := by kernel_rfl
/-- (*joist/pmem.Device).Flush -/
abbrev F.pmem_Device_Flush : Nat := 69
def cmd_pmem_Device_Flush : Cmd :=
  .seq (.seq (.reg [⟨some 3, none, .inr (.box 1 (.t 0))⟩,
 ⟨some 6, none, .inl (.mv (.c (.int .i64 0)))⟩])
 (.keep [1, 2, 3]))
 (.seq (.seq (.seq (.reg [⟨some 8, none, .inl (.load false 1 (.t 3))⟩,
 ⟨some 9, none, .inl (.mv (.t 1))⟩,
 ⟨some 10, none, .inl (.mv (.t 2))⟩,
 ⟨some 11, none, .inr (.call 83 [(.t 8), (.t 9), (.t 10)])⟩,
 ⟨some 7, none, .inl (.mv (.t 11))⟩])
 (.keep [1, 2, 3, 7]))
 (.seq (.seq (.reg [⟨some 12, none, .inl (.mv (.t 7))⟩,
 ⟨some 13, none, .inl (.bin .neq (.t 12) (.c (.int .i64 0)))⟩])
 (.keep [1, 2, 3, 7, 13]))
 (.cond (.t 13)
 (.seq (.seq (.reg [⟨some 14, none, .inl (.mv (.t 7))⟩,
 ⟨some 6, none, .inl (.mv (.t 14))⟩])
 (.keep [6]))
 (.ret))
 (.skip))))
 (.seq (.seq (.reg [⟨some 15, none, .inl (.mv (.t 1))⟩,
 ⟨some 16, none, .inl (.mv (.t 2))⟩,
 ⟨some 17, none, .inl (.mkfn 86 [(.t 3)])⟩,
 ⟨some 18, none, .inr (.call 84 [(.t 15), (.t 16), (.t 17)])⟩])
 (.keep []))
 (.seq (.seq (.reg [⟨some 6, none, .inl (.mv (.c (.int .i64 0)))⟩])
 (.keep [6]))
 (.ret))))
def fc_pmem_Device_Flush : FC := ⟨19, cmd_pmem_Device_Flush, [.t 6]⟩
theorem fc_pmem_Device_Flush_ok : compF Try.prog 69 [[1, 2, 3], [1, 2, 3, 7], [1, 2, 3, 7, 13], [6], [], [6]] = some fc_pmem_Device_Flush := by kernel_rfl
/-- (*joist/pmem.Device).Fence -/
abbrev F.pmem_Device_Fence : Nat := 70
def cmd_pmem_Device_Fence : Cmd :=
  .seq (.seq (.reg [⟨some 2, none, .inl (.mv (.c (.int .i64 0)))⟩])
 (.keep [0]))
 (.seq (.seq (.seq (.reg [⟨some 6, none, .inl (.mv (.t 0))⟩,
 ⟨some 7, none, .inr (.call 83 [(.t 6), (.c (.int .i64 0)), (.c (.int .i64 0))])⟩,
 ⟨some 3, none, .inl (.mv (.t 7))⟩])
 (.keep [0, 3]))
 (.seq (.seq (.reg [⟨some 8, none, .inl (.mv (.t 3))⟩,
 ⟨some 9, none, .inl (.bin .neq (.t 8) (.c (.int .i64 0)))⟩])
 (.keep [0, 3, 9]))
 (.cond (.t 9)
 (.seq (.seq (.reg [⟨some 10, none, .inl (.mv (.t 3))⟩,
 ⟨some 2, none, .inl (.mv (.t 10))⟩])
 (.keep [2]))
 (.ret))
 (.skip))))
 (.seq (.seq (.seq (.reg [⟨some 11, none, .inl (.mv (.t 0))⟩,
 ⟨some 12, none, .inr (.call 30 [(.t 11)])⟩,
 ⟨some 13, none, .inl (.len (.t 12))⟩,
 ⟨some 14, none, .inl (.mv (.c (.int .i64 0)))⟩])
 (.keep [0, 12, 13, 14]))
 (.block 0 (.loop [0, 12, 13, 14] (.seq (.seq (.reg [⟨some 15, none, .inl (.bin .lss (.t 14) (.t 13))⟩])
 (.keep [0, 12, 13, 14, 15]))
 (.seq (.cond (.t 15)
 (.skip)
 (.exit 0))
 (.seq (.block 1 (.seq (.seq (.reg [⟨some 16, none, .inl (.iaddr 1 (.t 12) (.t 14))⟩,
 ⟨some 17, none, .inl (.load false 1 (.t 16))⟩,
 ⟨some 5, none, .inl (.mv (.t 17))⟩])
 (.keep [0, 5, 12, 13, 14]))
 (.seq (.seq (.reg [⟨some 18, none, .inl (.mv (.t 0))⟩,
 ⟨some 19, none, .inl (.nilchk (.t 18))⟩,
 ⟨some 20, none, .inl (.faddr 2 (.t 19))⟩,
 ⟨some 21, none, .inl (.load false 1 (.t 20))⟩,
 ⟨some 22, none, .inl (.mv (.t 5))⟩,
 ⟨some 23, none, .inr (.look false (.bool false) (.t 21) (.t 22))⟩])
 (.keep [0, 5, 12, 13, 14, 23]))
 (.cond (.t 23)
 (.seq (.seq (.reg [⟨some 24, none, .inl (.mv (.t 0))⟩,
 ⟨some 25, none, .inl (.mv (.t 5))⟩,
 ⟨some 26, none, .inr (.call 57 [(.t 24), (.t 25)])⟩])
 (.keep [0, 5, 12, 13, 14]))
 (.seq (.reg [⟨some 27, none, .inl (.mv (.t 0))⟩,
 ⟨some 28, none, .inl (.nilchk (.t 27))⟩,
 ⟨some 29, none, .inl (.faddr 2 (.t 28))⟩,
 ⟨some 30, none, .inl (.load false 1 (.t 29))⟩,
 ⟨some 31, none, .inl (.mv (.t 5))⟩,
 ⟨none, none, .inr (.del (.t 30) (.t 31))⟩])
 (.keep [0, 12, 13, 14])))
 (.skip)))))
 (.seq (.reg [⟨some 32, none, .inl (.bin .add (.t 14) (.c (.int .i64 1)))⟩,
 ⟨some 14, none, .inl (.mv (.t 32))⟩])
 (.keep [0, 12, 13, 14]))))))))
 (.seq (.seq (.reg [⟨some 2, none, .inl (.mv (.c (.int .i64 0)))⟩])
 (.keep [2]))
 (.ret))))
def fc_pmem_Device_Fence : FC := ⟨33, cmd_pmem_Device_Fence, [.t 2]⟩
theorem fc_pmem_Device_Fence_ok : compF Try.prog 70 [[0], [0, 3], [0, 3, 9], [2], [0, 12, 13, 14], [0, 12, 13, 14], [0, 12, 13, 14, 15], [0, 5, 12, 13, 14], [0, 5, 12, 13, 14, 23], [0, 5, 12, 13, 14], [0, 12, 13, 14], [0, 12, 13, 14], [2]] = some fc_pmem_Device_Fence := by kernel_rfl
/-- joist/words.place -/
abbrev F.words_place : Nat := 71
def cmd_words_place : Cmd :=
  .seq (.seq (.reg [⟨some 4, none, .inl (.mv (.c .nils))⟩])
 (.keep [0, 1]))
 (.seq (.seq (.seq (.reg [⟨some 6, none, .inl (.mv (.t 1))⟩,
 ⟨some 7, none, .inl (.bin .lss (.t 6) (.c (.int .i64 0)))⟩,
 ⟨some 8, none, .inl (.mv (.t 7))⟩,
 ⟨some 9, (some (8, false)), .inl (.mv (.t 1))⟩,
 ⟨some 10, (some (8, false)), .inl (.mv (.t 0))⟩,
 ⟨some 11, (some (8, false)), .inl (.len (.t 10))⟩,
 ⟨some 12, (some (8, false)), .inl (.bin .quo (.t 11) (.c (.int .i64 8)))⟩,
 ⟨some 13, (some (8, false)), .inl (.bin .geq (.t 9) (.t 12))⟩,
 ⟨some 14, none, .inl (.pick (.t 8) (.c (.bool true)) (.t 13))⟩])
 (.keep [0, 1, 14]))
 (.cond (.t 14)
 (.seq (.seq (.reg [⟨some 4, none, .inl (.mv (.c .nils))⟩])
 (.keep [4]))
 (.ret))
 (.skip)))
 (.seq (.seq (.reg [⟨some 15, none, .inl (.mv (.t 1))⟩,
 ⟨some 16, none, .inl (.bin .mul (.t 15) (.c (.int .i64 8)))⟩,
 ⟨some 5, none, .inl (.mv (.t 16))⟩])
 (.keep [0, 5]))
 (.seq (.seq (.reg [⟨some 17, none, .inl (.mv (.t 0))⟩,
 ⟨some 18, none, .inl (.mv (.t 5))⟩,
 ⟨some 19, none, .inl (.mv (.t 5))⟩,
 ⟨some 20, none, .inl (.bin .add (.t 19) (.c (.int .i64 8)))⟩,
 ⟨some 21, none, .inl (.slice 1 (.t 17) (some (.t 18)) (some (.t 20)) none)⟩,
 ⟨some 4, none, .inl (.mv (.t 21))⟩])
 (.keep [4]))
 (.ret))))
def fc_words_place : FC := ⟨22, cmd_words_place, [.t 4]⟩
theorem fc_words_place_ok : compF Try.prog 71 [[0, 1], [0, 1, 14], [4], [0, 5], [4]] = some fc_words_place := by kernel_rfl
/-- joist/words.read -/
abbrev F.words_read : Nat := 72
def cmd_words_read : Cmd :=
  .seq (.seq (.reg [⟨some 2, none, .inl (.mv (.c (.int .i64 0)))⟩,
 ⟨some 3, none, .inl (.mv (.c (.bool false)))⟩])
 (.keep [0, 2]))
 (.seq (.seq (.seq (.reg [⟨some 5, none, .inl (.mv (.t 0))⟩,
 ⟨some 6, none, .inl (.iaddr 1 (.t 5) (.c (.int .i64 7)))⟩,
 ⟨some 7, none, .inl (.load false 1 (.t 6))⟩,
 ⟨some 8, none, .inl (.bin .geq (.t 7) (.c (.int .u8 64)))⟩])
 (.keep [0, 2, 8]))
 (.cond (.t 8)
 (.seq (.seq (.reg [⟨some 2, none, .inl (.mv (.c (.int .i64 0)))⟩,
 ⟨some 3, none, .inl (.mv (.c (.bool false)))⟩])
 (.keep [2, 3]))
 (.ret))
 (.skip)))
 (.seq (.seq (.seq (.reg [⟨some 9, none, .inl (.mv (.c (.int .i64 0)))⟩])
 (.keep [0, 2, 9]))
 (.block 0 (.loop [0, 2, 9] (.seq (.seq (.reg [⟨some 10, none, .inl (.bin .lss (.t 9) (.c (.int .i64 8)))⟩])
 (.keep [0, 2, 9, 10]))
 (.seq (.cond (.t 10)
 (.skip)
 (.exit 0))
 (.seq (.block 1 (.seq (.seq (.reg [⟨some 11, none, .inl (.mv (.t 9))⟩,
 ⟨some 4, none, .inl (.mv (.t 11))⟩])
 (.keep [0, 2, 4, 9]))
 (.seq (.reg [⟨some 12, none, .inl (.mv (.t 2))⟩,
 ⟨some 13, none, .inl (.bin .shl (.t 12) (.c (.int .u64 8)))⟩,
 ⟨some 14, none, .inl (.mv (.t 0))⟩,
 ⟨some 15, none, .inl (.mv (.t 4))⟩,
 ⟨some 16, none, .inl (.bin .sub (.c (.int .i64 7)) (.t 15))⟩,
 ⟨some 17, none, .inl (.iaddr 1 (.t 14) (.t 16))⟩,
 ⟨some 18, none, .inl (.load false 1 (.t 17))⟩,
 ⟨some 19, none, .inl (.conv .i64 (.t 18))⟩,
 ⟨some 20, none, .inl (.bin .or (.t 13) (.t 19))⟩,
 ⟨some 2, none, .inl (.mv (.t 20))⟩])
 (.keep [0, 2, 9]))))
 (.seq (.reg [⟨some 21, none, .inl (.bin .add (.t 9) (.c (.int .i64 1)))⟩,
 ⟨some 9, none, .inl (.mv (.t 21))⟩])
 (.keep [0, 2, 9]))))))))
 (.seq (.seq (.reg [⟨some 22, none, .inl (.mv (.t 2))⟩,
 ⟨some 2, none, .inl (.mv (.t 22))⟩,
 ⟨some 3, none, .inl (.mv (.c (.bool true)))⟩])
 (.keep [2, 3]))
 (.ret))))
def fc_words_read : FC := ⟨23, cmd_words_read, [.t 2, .t 3]⟩
theorem fc_words_read_ok : compF Try.prog 72 [[0, 2], [0, 2, 8], [2, 3], [0, 2, 9], [0, 2, 9], [0, 2, 9, 10], [0, 2, 4, 9], [0, 2, 9], [0, 2, 9], [2, 3]] = some fc_words_read := by kernel_rfl
/-- bytes.Equal -/
abbrev F.bytes_Equal : Nat := 73
def cmd_bytes_Equal : Cmd :=
  .seq (.seq (.reg [⟨some 4, none, .inl (.mv (.c (.bool false)))⟩])
 (.keep [0, 1]))
 (.seq (.seq (.reg [⟨some 5, none, .inl (.mv (.t 0))⟩,
 ⟨some 6, none, .inl (.b2s (.t 5))⟩,
 ⟨some 7, none, .inl (.mv (.t 1))⟩,
 ⟨some 8, none, .inl (.b2s (.t 7))⟩,
 ⟨some 9, none, .inl (.bins .eql (.t 6) (.t 8))⟩,
 ⟨some 4, none, .inl (.mv (.t 9))⟩])
 (.keep [4]))
 (.ret))
def fc_bytes_Equal : FC := ⟨10, cmd_bytes_Equal, [.t 4]⟩
theorem fc_bytes_Equal_ok : compF Try.prog 73 [[0, 1], [4]] = some fc_bytes_Equal := by kernel_rfl
/-- bytes.HasPrefix -/
abbrev F.bytes_HasPrefix : Nat := 74
def cmd_bytes_HasPrefix : Cmd :=
  .seq (.seq (.reg [⟨some 4, none, .inl (.mv (.c (.bool false)))⟩])
 (.keep [0, 1]))
 (.seq (.seq (.reg [⟨some 5, none, .inl (.mv (.t 0))⟩,
 ⟨some 6, none, .inl (.len (.t 5))⟩,
 ⟨some 7, none, .inl (.mv (.t 1))⟩,
 ⟨some 8, none, .inl (.len (.t 7))⟩,
 ⟨some 9, none, .inl (.bin .geq (.t 6) (.t 8))⟩,
 ⟨some 10, none, .inl (.mv (.t 9))⟩,
 ⟨some 11, (some (10, true)), .inl (.mv (.t 0))⟩,
 ⟨some 12, (some (10, true)), .inl (.mv (.t 1))⟩,
 ⟨some 13, (some (10, true)), .inl (.len (.t 12))⟩,
 ⟨some 14, (some (10, true)), .inl (.slice 1 (.t 11) none (some (.t 13)) none)⟩,
 ⟨some 15, (some (10, true)), .inl (.mv (.t 1))⟩,
 ⟨some 16, (some (10, true)), .inr (.call 73 [(.t 14), (.t 15)])⟩,
 ⟨some 17, none, .inl (.pick (.t 10) (.t 16) (.c (.bool false)))⟩,
 ⟨some 4, none, .inl (.mv (.t 17))⟩])
 (.keep [4]))
 (.ret))
def fc_bytes_HasPrefix : FC := ⟨18, cmd_bytes_HasPrefix, [.t 4]⟩
theorem fc_bytes_HasPrefix_ok : compF Try.prog 74 [[0, 1], [4]] = some fc_bytes_HasPrefix := by kernel_rfl
/-- slices.IndexFunc[[]joist/api.Change,joist/api.Change] -/
abbrev F.slices_IndexFunc : Nat := 77
def cmd_slices_IndexFunc : Cmd :=
  .seq (.seq (.reg [⟨some 4, none, .inl (.mv (.c (.int .i64 0)))⟩])
 (.keep [0, 1]))
 (.seq (.seq (.seq (.reg [⟨some 6, none, .inl (.mv (.t 0))⟩,
 ⟨some 7, none, .inl (.len (.t 6))⟩,
 ⟨some 8, none, .inl (.mv (.c (.int .i64 0)))⟩])
 (.keep [0, 1, 7, 8]))
 (.block 0 (.loop [0, 1, 7, 8] (.seq (.seq (.reg [⟨some 9, none, .inl (.bin .lss (.t 8) (.t 7))⟩])
 (.keep [0, 1, 7, 8, 9]))
 (.seq (.cond (.t 9)
 (.skip)
 (.exit 0))
 (.seq (.block 1 (.seq (.seq (.reg [⟨some 10, none, .inl (.mv (.t 8))⟩,
 ⟨some 5, none, .inl (.mv (.t 10))⟩])
 (.keep [0, 1, 5, 7, 8]))
 (.seq (.seq (.reg [⟨some 11, none, .inl (.mv (.t 1))⟩,
 ⟨some 12, none, .inl (.mv (.t 0))⟩,
 ⟨some 13, none, .inl (.mv (.t 5))⟩,
 ⟨some 14, none, .inl (.iaddr 2 (.t 12) (.t 13))⟩,
 ⟨some 15, none, .inl (.load true 2 (.t 14))⟩,
 ⟨some 16, none, .inr (.callv (.t 11) [(.t 15)])⟩])
 (.keep [0, 1, 5, 7, 8, 16]))
 (.cond (.t 16)
 (.seq (.seq (.reg [⟨some 17, none, .inl (.mv (.t 5))⟩,
 ⟨some 4, none, .inl (.mv (.t 17))⟩])
 (.keep [4]))
 (.ret))
 (.skip)))))
 (.seq (.reg [⟨some 18, none, .inl (.bin .add (.t 8) (.c (.int .i64 1)))⟩,
 ⟨some 8, none, .inl (.mv (.t 18))⟩])
 (.keep [0, 1, 7, 8]))))))))
 (.seq (.seq (.reg [⟨some 4, none, .inl (.mv (.c (.int .i64 (-1))))⟩])
 (.keep [4]))
 (.ret)))
def fc_slices_IndexFunc : FC := ⟨19, cmd_slices_IndexFunc, [.t 4]⟩
theorem fc_slices_IndexFunc_ok : compF Try.prog 77 [[0, 1], [0, 1, 7, 8], [0, 1, 7, 8], [0, 1, 7, 8, 9], [0, 1, 5, 7, 8], [0, 1, 5, 7, 8, 16], [4], [0, 1, 7, 8], [4]] = some fc_slices_IndexFunc := by kernel_rfl
/-- joist/words.may -/
abbrev F.words_may : Nat := 78
def cmd_words_may : Cmd :=
  .seq (.seq (.reg [⟨some 2, none, .inl (.mv (.c (.bool false)))⟩])
 (.keep [0]))
 (.seq (.seq (.reg [⟨some 3, none, .inl (.mv (.t 0))⟩,
 ⟨some 4, none, .inl (.bin .geq (.t 3) (.c (.int .i64 0)))⟩,
 ⟨some 5, none, .inl (.mv (.t 4))⟩,
 ⟨some 6, (some (5, true)), .inl (.mv (.t 0))⟩,
 ⟨some 7, (some (5, true)), .inl (.bin .leq (.t 6) (.c (.int .i64 4611686018427387903)))⟩,
 ⟨some 8, none, .inl (.pick (.t 5) (.t 7) (.c (.bool false)))⟩,
 ⟨some 2, none, .inl (.mv (.t 8))⟩])
 (.keep [2]))
 (.ret))
def fc_words_may : FC := ⟨9, cmd_words_may, [.t 2]⟩
theorem fc_words_may_ok : compF Try.prog 78 [[0], [2]] = some fc_words_may := by kernel_rfl
/-- joist/words.write -/
abbrev F.words_write : Nat := 79
def cmd_words_write : Cmd :=
  .seq (.seq (.reg [⟨some 5, none, .inl (.mv (.c (.int .i64 0)))⟩])
 (.keep [0, 1, 5]))
 (.block 0 (.loop [0, 1, 5] (.seq (.seq (.reg [⟨some 6, none, .inl (.bin .lss (.t 5) (.c (.int .i64 8)))⟩])
 (.keep [0, 1, 5, 6]))
 (.seq (.cond (.t 6)
 (.skip)
 (.exit 0))
 (.seq (.block 1 (.seq (.seq (.reg [⟨some 7, none, .inl (.mv (.t 5))⟩,
 ⟨some 4, none, .inl (.mv (.t 7))⟩])
 (.keep [0, 1, 4, 5]))
 (.seq (.reg [⟨some 8, none, .inl (.mv (.t 0))⟩,
 ⟨some 9, none, .inl (.mv (.t 4))⟩,
 ⟨some 10, none, .inl (.mv (.t 1))⟩,
 ⟨some 11, none, .inl (.mv (.t 4))⟩,
 ⟨some 12, none, .inl (.bin .mul (.c (.int .i64 8)) (.t 11))⟩,
 ⟨some 13, none, .inl (.bin .shr (.t 10) (.t 12))⟩,
 ⟨some 14, none, .inl (.conv .u8 (.t 13))⟩,
 ⟨some 15, none, .inl (.iaddr 1 (.t 8) (.t 9))⟩,
 ⟨none, none, .inr (.store 1 (.t 15) (.t 14))⟩])
 (.keep [0, 1, 5]))))
 (.seq (.reg [⟨some 16, none, .inl (.bin .add (.t 5) (.c (.int .i64 1)))⟩,
 ⟨some 5, none, .inl (.mv (.t 16))⟩])
 (.keep [0, 1, 5])))))))
def fc_words_write : FC := ⟨17, cmd_words_write, []⟩
theorem fc_words_write_ok : compF Try.prog 79 [[0, 1, 5], [0, 1, 5], [0, 1, 5, 6], [0, 1, 4, 5], [0, 1, 5], [0, 1, 5]] = some fc_words_write := by kernel_rfl
/-- joist/crc.step -/
abbrev F.crc_step : Nat := 80
def cmd_crc_step : Cmd :=
  .seq (.seq (.reg [⟨some 2, none, .inl (.mv (.c (.int .u32 0)))⟩])
 (.keep [0]))
 (.seq (.seq (.seq (.reg [⟨some 4, none, .inl (.mv (.c (.int .i64 0)))⟩])
 (.keep [0, 4]))
 (.block 0 (.loop [0, 4] (.seq (.seq (.reg [⟨some 5, none, .inl (.bin .lss (.t 4) (.c (.int .i64 8)))⟩])
 (.keep [0, 4, 5]))
 (.seq (.cond (.t 5)
 (.skip)
 (.exit 0))
 (.seq (.block 1 (.seq (.seq (.reg [⟨some 6, none, .inl (.mv (.t 0))⟩,
 ⟨some 7, none, .inl (.bin .and (.t 6) (.c (.int .u32 1)))⟩,
 ⟨some 3, none, .inl (.mv (.t 7))⟩])
 (.keep [0, 3, 4]))
 (.seq (.seq (.reg [⟨some 8, none, .inl (.mv (.t 0))⟩,
 ⟨some 9, none, .inl (.bin .shr (.t 8) (.c (.int .u64 1)))⟩,
 ⟨some 0, none, .inl (.mv (.t 9))⟩])
 (.keep [0, 3, 4]))
 (.seq (.seq (.reg [⟨some 10, none, .inl (.mv (.t 3))⟩,
 ⟨some 11, none, .inl (.bin .eql (.t 10) (.c (.int .u32 1)))⟩])
 (.keep [0, 4, 11]))
 (.cond (.t 11)
 (.seq (.reg [⟨some 12, none, .inl (.mv (.t 0))⟩,
 ⟨some 13, none, .inl (.bin .xor (.t 12) (.c (.int .u32 3988292384)))⟩,
 ⟨some 0, none, .inl (.mv (.t 13))⟩])
 (.keep [0, 4]))
 (.skip))))))
 (.seq (.reg [⟨some 14, none, .inl (.bin .add (.t 4) (.c (.int .i64 1)))⟩,
 ⟨some 4, none, .inl (.mv (.t 14))⟩])
 (.keep [0, 4]))))))))
 (.seq (.seq (.reg [⟨some 15, none, .inl (.mv (.t 0))⟩,
 ⟨some 2, none, .inl (.mv (.t 15))⟩])
 (.keep [2]))
 (.ret)))
def fc_crc_step : FC := ⟨16, cmd_crc_step, [.t 2]⟩
theorem fc_crc_step_ok : compF Try.prog 80 [[0], [0, 4], [0, 4], [0, 4, 5], [0, 3, 4], [0, 3, 4], [0, 4, 11], [0, 4], [0, 4], [2]] = some fc_crc_step := by kernel_rfl
/-- joist/joistref01.Bytes -/
abbrev F.joistref01_Bytes : Nat := 81
def cmd_joistref01_Bytes : Cmd :=
  .seq (.seq (.reg [⟨some 2, none, .inl (.mv (.c .nils))⟩])
 (.keep [0]))
 (.seq (.seq (.reg [⟨some 3, none, .inl (.mv (.c .nils))⟩])
 (.keep [0, 3]))
 (.seq (.seq (.seq (.reg [⟨some 4, none, .inl (.mv (.c (.int .i64 0)))⟩])
 (.keep [0, 3, 4]))
 (.block 0 (.loop [0, 3, 4] (.seq (.seq (.seq (.reg [⟨some 5, none, .inl (.mv (.t 4))⟩,
 ⟨some 6, none, .inl (.bin .lss (.t 5) (.c (.int .i64 8)))⟩])
 (.keep [0, 3, 4, 6]))
 (.cond (.t 6)
 (.skip)
 (.exit 0)))
 (.seq (.block 1 (.seq (.seq (.reg [⟨some 9, none, .inl (.mv (.t 3))⟩,
 ⟨some 10, none, .inl (.mv (.t 0))⟩,
 ⟨some 11, none, .inl (.conv .u8 (.t 10))⟩,
 ⟨some 12, none, .inr (.bslice 1 [(.int .u8 0)] 1 [(0, (.t 11))])⟩,
 ⟨some 13, none, .inr (.append 1 1 (.t 9) (.t 12))⟩,
 ⟨some 3, none, .inl (.mv (.t 13))⟩])
 (.keep [0, 3, 4]))
 (.seq (.reg [⟨some 14, none, .inl (.mv (.t 0))⟩,
 ⟨some 15, none, .inl (.bin .quo (.t 14) (.c (.int .i64 256)))⟩,
 ⟨some 0, none, .inl (.mv (.t 15))⟩])
 (.keep [0, 3, 4]))))
 (.seq (.reg [⟨some 7, none, .inl (.mv (.t 4))⟩,
 ⟨some 8, none, .inl (.bin .add (.t 7) (.c (.int .i64 1)))⟩,
 ⟨some 4, none, .inl (.mv (.t 8))⟩])
 (.keep [0, 3, 4])))))))
 (.seq (.seq (.reg [⟨some 16, none, .inl (.mv (.t 3))⟩,
 ⟨some 2, none, .inl (.mv (.t 16))⟩])
 (.keep [2]))
 (.ret))))
def fc_joistref01_Bytes : FC := ⟨17, cmd_joistref01_Bytes, [.t 2]⟩
theorem fc_joistref01_Bytes_ok : compF Try.prog 81 [[0], [0, 3], [0, 3, 4], [0, 3, 4], [0, 3, 4, 6], [0, 3, 4], [0, 3, 4], [0, 3, 4], [2]] = some fc_joistref01_Bytes := by kernel_rfl
/-- joist/joistref02.goOn -/
abbrev F.joistref02_goOn : Nat := 82
def cmd_joistref02_goOn : Cmd :=
  .seq (.seq (.reg [⟨some 4, none, .inl (.mv (.c (.int .i64 0)))⟩])
 (.keep [0, 1]))
 (.seq (.seq (.seq (.reg [⟨some 5, none, .inl (.mv (.c (.int .i64 0)))⟩])
 (.keep [0, 1, 5]))
 (.block 0 (.loop [0, 1, 5] (.seq (.seq (.seq (.reg [⟨some 7, none, .inl (.mv (.t 5))⟩,
 ⟨some 8, none, .inl (.mv (.t 1))⟩,
 ⟨some 9, none, .inl (.len (.t 8))⟩,
 ⟨some 10, none, .inl (.bin .lss (.t 7) (.t 9))⟩])
 (.keep [0, 1, 5, 10]))
 (.cond (.t 10)
 (.skip)
 (.exit 0)))
 (.seq (.block 1 (.seq (.seq (.reg [⟨some 13, none, .inl (.mv (.t 0))⟩,
 ⟨some 14, none, .inl (.mv (.t 1))⟩,
 ⟨some 15, none, .inl (.mv (.t 5))⟩,
 ⟨some 16, none, .inl (.iaddr 1 (.t 14) (.t 15))⟩,
 ⟨some 17, none, .inl (.load false 1 (.t 16))⟩,
 ⟨some 18, none, .inl (.conv .i64 (.t 17))⟩,
 ⟨some 19, none, .inl (.bin .xor (.t 13) (.t 18))⟩,
 ⟨some 0, none, .inl (.mv (.t 19))⟩])
 (.keep [0, 1, 5]))
 (.seq (.seq (.reg [⟨some 6, none, .inl (.mv (.c (.int .i64 0)))⟩])
 (.keep [0, 1, 5, 6]))
 (.block 2 (.loop [0, 1, 5, 6] (.seq (.seq (.seq (.reg [⟨some 20, none, .inl (.mv (.t 6))⟩,
 ⟨some 21, none, .inl (.bin .lss (.t 20) (.c (.int .i64 8)))⟩])
 (.keep [0, 1, 5, 6, 21]))
 (.cond (.t 21)
 (.skip)
 (.exit 2)))
 (.seq (.block 3 (.seq (.seq (.reg [⟨some 24, none, .inl (.mv (.t 0))⟩,
 ⟨some 25, none, .inl (.bin .rem (.t 24) (.c (.int .i64 2)))⟩,
 ⟨some 26, none, .inl (.bin .eql (.t 25) (.c (.int .i64 1)))⟩])
 (.keep [0, 1, 5, 6, 26]))
 (.cond (.t 26)
 (.seq (.reg [⟨some 27, none, .inl (.mv (.t 0))⟩,
 ⟨some 28, none, .inl (.bin .quo (.t 27) (.c (.int .i64 2)))⟩,
 ⟨some 29, none, .inl (.bin .xor (.t 28) (.c (.int .i64 3988292384)))⟩,
 ⟨some 0, none, .inl (.mv (.t 29))⟩])
 (.keep [0, 1, 5, 6]))
 (.seq (.reg [⟨some 30, none, .inl (.mv (.t 0))⟩,
 ⟨some 31, none, .inl (.bin .quo (.t 30) (.c (.int .i64 2)))⟩,
 ⟨some 0, none, .inl (.mv (.t 31))⟩])
 (.keep [0, 1, 5, 6])))))
 (.seq (.reg [⟨some 22, none, .inl (.mv (.t 6))⟩,
 ⟨some 23, none, .inl (.bin .add (.t 22) (.c (.int .i64 1)))⟩,
 ⟨some 6, none, .inl (.mv (.t 23))⟩])
 (.keep [0, 1, 5, 6])))))))))
 (.seq (.reg [⟨some 11, none, .inl (.mv (.t 5))⟩,
 ⟨some 12, none, .inl (.bin .add (.t 11) (.c (.int .i64 1)))⟩,
 ⟨some 5, none, .inl (.mv (.t 12))⟩])
 (.keep [0, 1, 5])))))))
 (.seq (.seq (.reg [⟨some 32, none, .inl (.mv (.t 0))⟩,
 ⟨some 4, none, .inl (.mv (.t 32))⟩])
 (.keep [4]))
 (.ret)))
def fc_joistref02_goOn : FC := ⟨33, cmd_joistref02_goOn, [.t 4]⟩
theorem fc_joistref02_goOn_ok : compF Try.prog 82 [[0, 1], [0, 1, 5], [0, 1, 5], [0, 1, 5, 10], [0, 1, 5], [0, 1, 5, 6], [0, 1, 5, 6], [0, 1, 5, 6, 21], [0, 1, 5, 6, 26], [0, 1, 5, 6], [0, 1, 5, 6], [0, 1, 5, 6], [0, 1, 5], [4]] = some fc_joistref02_goOn := by kernel_rfl
/-- (*joist/pmem.Device).begins -/
abbrev F.pmem_Device_begins : Nat := 83
def cmd_pmem_Device_begins : Cmd :=
  .seq (.seq (.reg [⟨some 6, none, .inl (.mv (.c (.int .i64 0)))⟩])
 (.keep [0, 1, 2]))
 (.seq (.seq (.seq (.reg [⟨some 8, none, .inl (.mv (.t 0))⟩,
 ⟨some 9, none, .inl (.mv (.t 1))⟩,
 ⟨some 10, none, .inl (.mv (.t 2))⟩,
 ⟨some 11, none, .inr (.call 98 [(.t 8), (.t 9), (.t 10)])⟩,
 ⟨some 7, none, .inl (.mv (.t 11))⟩])
 (.keep [0, 7]))
 (.seq (.seq (.reg [⟨some 12, none, .inl (.mv (.t 7))⟩,
 ⟨some 13, none, .inl (.bin .neq (.t 12) (.c (.int .i64 0)))⟩])
 (.keep [0, 7, 13]))
 (.cond (.t 13)
 (.seq (.seq (.reg [⟨some 14, none, .inl (.mv (.t 7))⟩,
 ⟨some 6, none, .inl (.mv (.t 14))⟩])
 (.keep [6]))
 (.ret))
 (.skip))))
 (.seq (.seq (.seq (.reg [⟨some 15, none, .inl (.mv (.t 0))⟩,
 ⟨some 16, none, .inl (.nilchk (.t 15))⟩,
 ⟨some 17, none, .inl (.faddr 3 (.t 16))⟩,
 ⟨some 18, none, .inl (.load false 1 (.t 17))⟩,
 ⟨some 19, none, .inl (.bin .gtr (.t 18) (.c (.int .i64 0)))⟩])
 (.keep [0, 19]))
 (.cond (.t 19)
 (.seq (.seq (.reg [⟨some 20, none, .inl (.mv (.t 0))⟩,
 ⟨some 21, none, .inl (.nilchk (.t 20))⟩,
 ⟨some 22, none, .inl (.faddr 3 (.t 21))⟩,
 ⟨some 23, none, .inl (.load false 1 (.t 22))⟩,
 ⟨some 24, none, .inl (.bin .sub (.t 23) (.c (.int .i64 1)))⟩,
 ⟨some 25, none, .inl (.nilchk (.t 20))⟩,
 ⟨some 26, none, .inl (.faddr 3 (.t 25))⟩,
 ⟨none, none, .inr (.store 1 (.t 26) (.t 24))⟩])
 (.keep [0]))
 (.seq (.seq (.reg [⟨some 27, none, .inl (.mv (.t 0))⟩,
 ⟨some 28, none, .inl (.nilchk (.t 27))⟩,
 ⟨some 29, none, .inl (.faddr 3 (.t 28))⟩,
 ⟨some 30, none, .inl (.load false 1 (.t 29))⟩,
 ⟨some 31, none, .inl (.bin .eql (.t 30) (.c (.int .i64 0)))⟩])
 (.keep [0, 31]))
 (.cond (.t 31)
 (.seq (.seq (.reg [⟨some 32, none, .inl (.mv (.t 0))⟩,
 ⟨some 33, none, .inl (.nilchk (.t 32))⟩,
 ⟨some 34, none, .inl (.faddr 4 (.t 33))⟩,
 ⟨none, none, .inr (.store 1 (.t 34) (.c (.bool true)))⟩])
 (.keep []))
 (.seq (.seq (.reg [⟨some 6, none, .inl (.mv (.c (.int .i64 5)))⟩])
 (.keep [6]))
 (.ret)))
 (.skip))))
 (.skip)))
 (.seq (.seq (.reg [⟨some 6, none, .inl (.mv (.c (.int .i64 0)))⟩])
 (.keep [6]))
 (.ret))))
def fc_pmem_Device_begins : FC := ⟨35, cmd_pmem_Device_begins, [.t 6]⟩
theorem fc_pmem_Device_begins_ok : compF Try.prog 83 [[0, 1, 2], [0, 7], [0, 7, 13], [6], [0, 19], [0], [0, 31], [], [6], [6]] = some fc_pmem_Device_begins := by kernel_rfl
/-- joist/pmem.over -/
abbrev F.pmem_over : Nat := 84
def cmd_pmem_over : Cmd :=
  .seq (.seq (.seq (.reg [⟨some 7, none, .inl (.mv (.t 1))⟩,
 ⟨some 8, none, .inl (.bin .eql (.t 7) (.c (.int .i64 0)))⟩])
 (.keep [0, 1, 2, 8]))
 (.cond (.t 8)
 (.ret)
 (.skip)))
 (.seq (.seq (.reg [⟨some 9, none, .inl (.mv (.t 0))⟩,
 ⟨some 10, none, .inl (.bin .quo (.t 9) (.c (.int .i64 64)))⟩,
 ⟨some 6, none, .inl (.mv (.t 10))⟩])
 (.keep [0, 1, 2, 6]))
 (.block 0 (.loop [0, 1, 2, 6] (.seq (.seq (.seq (.reg [⟨some 11, none, .inl (.mv (.t 6))⟩,
 ⟨some 12, none, .inl (.mv (.t 0))⟩,
 ⟨some 13, none, .inl (.mv (.t 1))⟩,
 ⟨some 14, none, .inl (.bin .add (.t 12) (.t 13))⟩,
 ⟨some 15, none, .inl (.bin .sub (.t 14) (.c (.int .i64 1)))⟩,
 ⟨some 16, none, .inl (.bin .quo (.t 15) (.c (.int .i64 64)))⟩,
 ⟨some 17, none, .inl (.bin .leq (.t 11) (.t 16))⟩])
 (.keep [0, 1, 2, 6, 17]))
 (.cond (.t 17)
 (.skip)
 (.exit 0)))
 (.seq (.block 1 (.seq (.reg [⟨some 20, none, .inl (.mv (.t 2))⟩,
 ⟨some 21, none, .inl (.mv (.t 6))⟩,
 ⟨some 22, none, .inr (.callv (.t 20) [(.t 21)])⟩])
 (.keep [0, 1, 2, 6])))
 (.seq (.reg [⟨some 18, none, .inl (.mv (.t 6))⟩,
 ⟨some 19, none, .inl (.bin .add (.t 18) (.c (.int .i64 1)))⟩,
 ⟨some 6, none, .inl (.mv (.t 19))⟩])
 (.keep [0, 1, 2, 6])))))))
def fc_pmem_over : FC := ⟨23, cmd_pmem_over, []⟩
theorem fc_pmem_over_ok : compF Try.prog 84 [[0, 1, 2, 8], [0, 1, 2, 6], [0, 1, 2, 6], [0, 1, 2, 6, 17], [0, 1, 2, 6], [0, 1, 2, 6]] = some fc_pmem_over := by kernel_rfl
/-- (*joist/pmem.Device).Store$1 -/
abbrev F.pmem_Device_Store_1 : Nat := 85
def cmd_pmem_Device_Store_1 : Cmd :=
  .seq (.reg [⟨some 3, none, .inl (.load false 1 (.t 1))⟩,
 ⟨some 4, none, .inl (.nilchk (.t 3))⟩,
 ⟨some 5, none, .inl (.faddr 2 (.t 4))⟩,
 ⟨some 6, none, .inl (.load false 1 (.t 5))⟩,
 ⟨some 7, none, .inl (.mv (.t 0))⟩,
 ⟨none, none, .inr (.upd (.t 6) (.t 7) (.c (.bool false)))⟩])
 (.keep [])
def fc_pmem_Device_Store_1 : FC := ⟨8, cmd_pmem_Device_Store_1, []⟩
theorem fc_pmem_Device_Store_1_ok : compF Try.prog 85 [[]] = some fc_pmem_Device_Store_1 := by kernel_rfl
/-- (*joist/pmem.Device).Flush$1 -/
abbrev F.pmem_Device_Flush_1 : Nat := 86
def cmd_pmem_Device_Flush_1 : Cmd :=
  .seq (.seq (.reg [⟨some 6, none, .inl (.load false 1 (.t 1))⟩,
 ⟨some 7, none, .inl (.nilchk (.t 6))⟩,
 ⟨some 8, none, .inl (.faddr 2 (.t 7))⟩,
 ⟨some 9, none, .inl (.load false 1 (.t 8))⟩,
 ⟨some 10, none, .inl (.mv (.t 0))⟩,
 ⟨some 11, none, .inr (.look true (.bool false) (.t 9) (.t 10))⟩,
 ⟨some 5, none, .inl (.mv (.t 11))⟩,
 ⟨some 12, none, .inl (.ext 0 (.t 5))⟩,
 ⟨some 13, none, .inl (.ext 1 (.t 5))⟩,
 ⟨some 3, none, .inl (.mv (.t 12))⟩,
 ⟨some 4, none, .inl (.mv (.t 13))⟩])
 (.keep [0, 1, 4]))
 (.seq (.seq (.reg [⟨some 14, none, .inl (.mv (.t 4))⟩])
 (.keep [0, 1, 14]))
 (.cond (.t 14)
 (.seq (.reg [⟨some 15, none, .inl (.load false 1 (.t 1))⟩,
 ⟨some 16, none, .inl (.nilchk (.t 15))⟩,
 ⟨some 17, none, .inl (.faddr 2 (.t 16))⟩,
 ⟨some 18, none, .inl (.load false 1 (.t 17))⟩,
 ⟨some 19, none, .inl (.mv (.t 0))⟩,
 ⟨none, none, .inr (.upd (.t 18) (.t 19) (.c (.bool true)))⟩])
 (.keep []))
 (.skip)))
def fc_pmem_Device_Flush_1 : FC := ⟨20, cmd_pmem_Device_Flush_1, []⟩
theorem fc_pmem_Device_Flush_1_ok : compF Try.prog 86 [[0, 1, 4], [0, 1, 14], []] = some fc_pmem_Device_Flush_1 := by kernel_rfl
/-- (*joist/pmem.Device).asks -/
abbrev F.pmem_Device_asks : Nat := 98
def cmd_pmem_Device_asks : Cmd :=
  .seq (.seq (.reg [⟨some 6, none, .inl (.mv (.c (.int .i64 0)))⟩])
 (.keep [0, 1, 2]))
 (.seq (.block 0 (.seq (.seq (.reg [⟨some 8, none, .inl (.mv (.t 0))⟩,
 ⟨some 9, none, .inl (.nilchk (.t 8))⟩,
 ⟨some 10, none, .inl (.faddr 4 (.t 9))⟩,
 ⟨some 11, none, .inl (.load false 1 (.t 10))⟩,
 ⟨some 7, none, .inl (.mv (.t 11))⟩])
 (.keep [0, 1, 2, 7]))
 (.cond (.t 7)
 (.seq (.seq (.reg [⟨some 6, none, .inl (.mv (.c (.int .i64 5)))⟩])
 (.keep [6]))
 (.ret))
 (.seq (.seq (.reg [⟨some 13, none, .inl (.mv (.t 1))⟩,
 ⟨some 14, none, .inl (.bin .lss (.t 13) (.c (.int .i64 0)))⟩,
 ⟨some 15, none, .inl (.mv (.t 14))⟩,
 ⟨some 16, (some (15, false)), .inl (.mv (.t 1))⟩,
 ⟨some 17, (some (15, false)), .inl (.mv (.t 0))⟩,
 ⟨some 18, (some (15, false)), .inl (.nilchk (.t 17))⟩,
 ⟨some 19, (some (15, false)), .inl (.faddr 1 (.t 18))⟩,
 ⟨some 20, (some (15, false)), .inl (.load false 1 (.t 19))⟩,
 ⟨some 21, (some (15, false)), .inl (.len (.t 20))⟩,
 ⟨some 22, (some (15, false)), .inl (.bin .gtr (.t 16) (.t 21))⟩,
 ⟨some 23, none, .inl (.pick (.t 15) (.c (.bool true)) (.t 22))⟩,
 ⟨some 24, none, .inl (.mv (.t 23))⟩,
 ⟨some 25, (some (24, false)), .inl (.mv (.t 2))⟩,
 ⟨some 26, (some (24, false)), .inl (.bin .lss (.t 25) (.c (.int .i64 0)))⟩,
 ⟨some 27, none, .inl (.pick (.t 24) (.c (.bool true)) (.t 26))⟩,
 ⟨some 28, none, .inl (.mv (.t 27))⟩,
 ⟨some 29, (some (28, false)), .inl (.mv (.t 2))⟩,
 ⟨some 30, (some (28, false)), .inl (.mv (.t 0))⟩,
 ⟨some 31, (some (28, false)), .inl (.nilchk (.t 30))⟩,
 ⟨some 32, (some (28, false)), .inl (.faddr 1 (.t 31))⟩,
 ⟨some 33, (some (28, false)), .inl (.load false 1 (.t 32))⟩,
 ⟨some 34, (some (28, false)), .inl (.len (.t 33))⟩,
 ⟨some 35, (some (28, false)), .inl (.mv (.t 1))⟩,
 ⟨some 36, (some (28, false)), .inl (.bin .sub (.t 34) (.t 35))⟩,
 ⟨some 37, (some (28, false)), .inl (.bin .gtr (.t 29) (.t 36))⟩,
 ⟨some 38, none, .inl (.pick (.t 28) (.c (.bool true)) (.t 37))⟩,
 ⟨some 12, none, .inl (.mv (.t 38))⟩])
 (.keep [12]))
 (.cond (.t 12)
 (.seq (.seq (.reg [⟨some 6, none, .inl (.mv (.c (.int .i64 1)))⟩])
 (.keep [6]))
 (.ret))
 (.skip))))))
 (.seq (.seq (.reg [⟨some 6, none, .inl (.mv (.c (.int .i64 0)))⟩])
 (.keep [6]))
 (.ret)))
def fc_pmem_Device_asks : FC := ⟨39, cmd_pmem_Device_asks, [.t 6]⟩
theorem fc_pmem_Device_asks_ok : compF Try.prog 98 [[0, 1, 2], [0, 1, 2, 7], [6], [12], [6], [6]] = some fc_pmem_Device_asks := by kernel_rfl
end Go.Proofs.Ytppccaacbpkgiaa
