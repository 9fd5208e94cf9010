import Derived.Test.YtlhogahibillpaaProg
import Derived.Test.YtlhogahibillpaaVG
import Derived.KernelRfl
namespace Go.Proofs.Ytlhogahibillpaa
open Go Go.Proofs.Ytlhogahibillpaa.V
set_option linter.unusedVariables false

theorem mixed : Try.prog.follows .mixedOrders = true := by kernel_rfl
/-- joist/joistlaw04.LinesDiffs -/
abbrev F.joistlaw04_LinesDiffs : Nat := 3
def cmd_joistlaw04_LinesDiffs : Cmd :=
  .seq (.seq (.reg [⟨(some 4), none, .inl (.mv (.c (.bool false)))⟩])
   (.keep [0, 1]))
   (.seq (.seq (.reg [⟨(some 14), none, .inr (.call 8 [])⟩,
       ⟨(some 5), none, .inl (.mv (.t 14))⟩])
    (.keep [0, 1, 5]))
    (.seq (.seq (.reg [⟨(some 15), none, .inl (.mv (.t 0))⟩,
        ⟨(some 16), none, .inr (.call 9 [(.t 15)])⟩,
        ⟨(some 6), none, .inl (.mv (.t 16))⟩])
     (.keep [0, 1, 5, 6]))
     (.seq (.seq (.reg [⟨(some 17), none, .inl (.mv (.t 1))⟩,
         ⟨(some 18), none, .inr (.call 9 [(.t 17)])⟩,
         ⟨(some 7), none, .inl (.mv (.t 18))⟩])
      (.keep [0, 1, 5, 6, 7]))
      (.seq (.seq (.reg [⟨(some 20), none, .inl (.mv (.t 6))⟩,
          ⟨(some 21), none, .inl (.mv (.t 7))⟩,
          ⟨(some 22), none, .inr (.call 10 [(.t 20), (.t 21)])⟩,
          ⟨(some 19), none, .inl (.mv (.t 22))⟩,
          ⟨(some 23), none, .inl (.ext 0 (.t 19))⟩,
          ⟨(some 24), none, .inl (.ext 1 (.t 19))⟩,
          ⟨(some 8), none, .inl (.mv (.t 23))⟩,
          ⟨(some 9), none, .inl (.mv (.t 24))⟩])
       (.keep [0, 1, 5, 6, 7, 8, 9]))
       (.seq (.seq (.reg [⟨(some 25), none, .inl (.mv (.t 6))⟩,
           ⟨(some 26), none, .inl (.mv (.t 0))⟩,
           ⟨(some 27), none, .inr (.call 11 [(.t 25), (.t 26)])⟩,
           ⟨(some 28), none, .inl (.mv (.t 27))⟩,
           ⟨(some 29), (some (28, true)), .inl (.mv (.t 7))⟩,
           ⟨(some 30), (some (28, true)), .inl (.mv (.t 1))⟩,
           ⟨(some 31), (some (28, true)), .inr (.call 11 [(.t 29), (.t 30)])⟩,
           ⟨(some 32), none, .inl (.pick (.t 28) (.t 31) (.c (.bool false)))⟩,
           ⟨(some 10), none, .inl (.mv (.t 32))⟩])
        (.keep [0, 1, 5, 6, 7, 8, 9, 10]))
        (.seq (.seq (.reg [⟨(some 33), none, .inl (.mv (.t 6))⟩,
            ⟨(some 34), none, .inl (.mv (.t 7))⟩,
            ⟨(some 35), none, .inr (.bslice 1 [.nils] 2 [(0, (.t 33)), (1, (.t 34))])⟩,
            ⟨(some 36), none, .inr (.call 12 [(.t 35)])⟩])
         (.keep [0, 1, 5, 8, 9, 10]))
         (.seq (.seq (.reg [⟨(some 38), none, .inl (.mv (.t 0))⟩,
             ⟨(some 39), none, .inl (.mv (.t 1))⟩,
             ⟨(some 40), none, .inr (.call 13 [(.t 38), (.t 39)])⟩,
             ⟨(some 37), none, .inl (.mv (.t 40))⟩,
             ⟨(some 41), none, .inl (.ext 0 (.t 37))⟩,
             ⟨(some 42), none, .inl (.ext 1 (.t 37))⟩,
             ⟨(some 11), none, .inl (.mv (.t 41))⟩,
             ⟨(some 12), none, .inl (.mv (.t 42))⟩])
          (.keep [5, 8, 9, 10, 11, 12]))
          (.seq (.seq (.reg [⟨(some 43), none, .inl (.mv (.t 8))⟩,
              ⟨(some 44), none, .inl (.mv (.t 11))⟩,
              ⟨(some 45), none, .inr (.call 14 [(.t 43), (.t 44)])⟩,
              ⟨(some 13), none, .inl (.mv (.t 45))⟩])
           (.keep [5, 8, 9, 10, 12, 13]))
           (.seq (.seq (.reg [⟨(some 46), none, .inl (.mv (.t 8))⟩,
               ⟨(some 47), none, .inr (.call 15 [(.t 46)])⟩])
            (.keep [5, 9, 10, 12, 13]))
            (.seq (.seq (.reg [⟨(some 48), none, .inl (.mv (.t 5))⟩,
                ⟨(some 49), none, .inl (.mv (.t 48))⟩,
                ⟨(some 50), (some (49, true)), .inl (.mv (.t 10))⟩,
                ⟨(some 51), none, .inl (.pick (.t 49) (.t 50) (.c (.bool false)))⟩,
                ⟨(some 52), none, .inl (.mv (.t 51))⟩,
                ⟨(some 53), (some (52, true)), .inl (.mv (.t 13))⟩,
                ⟨(some 54), none, .inl (.pick (.t 52) (.t 53) (.c (.bool false)))⟩,
                ⟨(some 55), none, .inl (.mv (.t 54))⟩,
                ⟨(some 56), (some (55, true)), .inl (.mv (.t 9))⟩,
                ⟨(some 57), (some (55, true)), .inl (.mv (.t 12))⟩,
                ⟨(some 58), (some (55, true)), .inl (.bin .eql (.t 56) (.t 57))⟩,
                ⟨(some 59), none, .inl (.pick (.t 55) (.t 58) (.c (.bool false)))⟩,
                ⟨(some 4), none, .inl (.mv (.t 59))⟩])
             (.keep [4]))
             (.ret)))))))))))
def fc_joistlaw04_LinesDiffs : FC := ⟨60, cmd_joistlaw04_LinesDiffs, [.t 4]⟩
theorem fc_joistlaw04_LinesDiffs_ok : compF Try.prog 3 [[0, 1], [0, 1, 5], [0, 1, 5, 6], [0, 1, 5, 6, 7], [0, 1, 5, 6, 7, 8, 9], [0, 1, 5, 6, 7, 8, 9, 10], [0, 1, 5, 8, 9, 10], [5, 8, 9, 10, 11, 12], [5, 8, 9, 10, 12, 13], [5, 9, 10, 12, 13], [4]] = some fc_joistlaw04_LinesDiffs := by kernel_rfl
/-- joist/joistlaw04.LinesBack -/
abbrev F.joistlaw04_LinesBack : Nat := 4
def cmd_joistlaw04_LinesBack : Cmd :=
  .seq (.seq (.reg [⟨(some 4), none, .inl (.mv (.c (.bool false)))⟩])
   (.keep [0, 1]))
   (.seq (.seq (.reg [⟨(some 12), none, .inr (.call 8 [])⟩,
       ⟨(some 5), none, .inl (.mv (.t 12))⟩])
    (.keep [0, 1, 5]))
    (.seq (.seq (.reg [⟨(some 14), none, .inl (.mv (.t 0))⟩,
        ⟨(some 15), none, .inl (.mv (.t 1))⟩,
        ⟨(some 16), none, .inr (.call 10 [(.t 14), (.t 15)])⟩,
        ⟨(some 13), none, .inl (.mv (.t 16))⟩,
        ⟨(some 17), none, .inl (.ext 0 (.t 13))⟩,
        ⟨(some 18), none, .inl (.ext 1 (.t 13))⟩,
        ⟨(some 6), none, .inl (.mv (.t 17))⟩,
        ⟨(some 7), none, .inl (.mv (.t 18))⟩])
     (.keep [0, 1, 5, 6, 7]))
     (.seq (.seq (.seq (.reg [⟨(some 19), none, .inl (.mv (.t 7))⟩,
         ⟨(some 20), none, .inl (.bin .neq (.t 19) (.c (.int .i64 0)))⟩])
      (.keep [0, 1, 5, 6, 20]))
      (.cond (.t 20)
        (.seq (.seq (.reg [⟨(some 21), none, .inl (.mv (.t 5))⟩,
            ⟨(some 22), none, .inl (.mv (.t 21))⟩,
            ⟨(some 23), (some (22, true)), .inl (.mv (.t 6))⟩,
            ⟨(some 24), (some (22, true)), .inl (.len (.t 23))⟩,
            ⟨(some 25), (some (22, true)), .inl (.bin .eql (.t 24) (.c (.int .i64 0)))⟩,
            ⟨(some 26), none, .inl (.pick (.t 22) (.t 25) (.c (.bool false)))⟩,
            ⟨(some 27), none, .inl (.mv (.t 26))⟩,
            ⟨(some 28), (some (27, true)), .inl (.mv (.t 0))⟩,
            ⟨(some 29), (some (27, true)), .inl (.len (.t 28))⟩,
            ⟨(some 30), (some (27, true)), .inl (.mv (.t 1))⟩,
            ⟨(some 31), (some (27, true)), .inl (.len (.t 30))⟩,
            ⟨(some 32), (some (27, true)), .inl (.bin .neq (.t 29) (.t 31))⟩,
            ⟨(some 33), (some (27, true)), .inl (.mv (.t 32))⟩,
            ⟨(some 34), (some (33, false)), .inl (.mv (.t 0))⟩,
            ⟨(some 35), (some (33, false)), .inl (.len (.t 34))⟩,
            ⟨(some 36), (some (33, false)), .inl (.bin .rem (.t 35) (.c (.int .i64 64)))⟩,
            ⟨(some 37), (some (33, false)), .inl (.bin .neq (.t 36) (.c (.int .i64 0)))⟩,
            ⟨(some 38), (some (27, true)), .inl (.pick (.t 33) (.c (.bool true)) (.t 37))⟩,
            ⟨(some 39), none, .inl (.pick (.t 27) (.t 38) (.c (.bool false)))⟩,
            ⟨(some 4), none, .inl (.mv (.t 39))⟩])
         (.keep [4]))
         (.ret))
        (.skip)))
      (.seq (.seq (.reg [⟨(some 41), none, .inl (.mv (.t 0))⟩,
          ⟨(some 42), none, .inl (.mv (.t 6))⟩,
          ⟨(some 43), none, .inr (.call 16 [(.t 41), (.t 42)])⟩,
          ⟨(some 40), none, .inl (.mv (.t 43))⟩,
          ⟨(some 44), none, .inl (.ext 0 (.t 40))⟩,
          ⟨(some 45), none, .inl (.ext 1 (.t 40))⟩,
          ⟨(some 8), none, .inl (.mv (.t 44))⟩,
          ⟨(some 9), none, .inl (.mv (.t 45))⟩])
       (.keep [0, 1, 5, 6, 8, 9]))
       (.seq (.seq (.reg [⟨(some 47), none, .inl (.mv (.t 8))⟩,
           ⟨(some 48), none, .inl (.mv (.t 1))⟩,
           ⟨(some 49), none, .inr (.call 10 [(.t 47), (.t 48)])⟩,
           ⟨(some 46), none, .inl (.mv (.t 49))⟩,
           ⟨(some 50), none, .inl (.ext 0 (.t 46))⟩,
           ⟨(some 51), none, .inl (.ext 1 (.t 46))⟩,
           ⟨(some 10), none, .inl (.mv (.t 50))⟩,
           ⟨(some 11), none, .inl (.mv (.t 51))⟩])
        (.keep [0, 1, 5, 6, 8, 9, 10, 11]))
        (.seq (.seq (.reg [⟨(some 52), none, .inl (.mv (.t 5))⟩,
            ⟨(some 53), none, .inl (.mv (.t 52))⟩,
            ⟨(some 54), (some (53, true)), .inl (.mv (.t 9))⟩,
            ⟨(some 55), (some (53, true)), .inl (.bin .eql (.t 54) (.c (.int .i64 0)))⟩,
            ⟨(some 56), none, .inl (.pick (.t 53) (.t 55) (.c (.bool false)))⟩,
            ⟨(some 57), none, .inl (.mv (.t 56))⟩,
            ⟨(some 58), (some (57, true)), .inl (.mv (.t 8))⟩,
            ⟨(some 59), (some (57, true)), .inl (.b2s (.t 58))⟩,
            ⟨(some 60), (some (57, true)), .inl (.mv (.t 1))⟩,
            ⟨(some 61), (some (57, true)), .inl (.b2s (.t 60))⟩,
            ⟨(some 62), (some (57, true)), .inl (.bins .eql (.t 59) (.t 61))⟩,
            ⟨(some 63), none, .inl (.pick (.t 57) (.t 62) (.c (.bool false)))⟩,
            ⟨(some 64), none, .inl (.mv (.t 63))⟩,
            ⟨(some 65), (some (64, true)), .inl (.mv (.t 0))⟩,
            ⟨(some 66), (some (64, true)), .inl (.len (.t 65))⟩,
            ⟨(some 67), (some (64, true)), .inl (.bin .quo (.t 66) (.c (.int .i64 64)))⟩,
            ⟨(some 68), (some (64, true)), .inl (.mv (.t 6))⟩,
            ⟨(some 69), (some (64, true)), .inr (.call 17 [(.t 67), (.t 68)])⟩,
            ⟨(some 70), none, .inl (.pick (.t 64) (.t 69) (.c (.bool false)))⟩,
            ⟨(some 71), none, .inl (.mv (.t 70))⟩,
            ⟨(some 72), (some (71, true)), .inl (.mv (.t 11))⟩,
            ⟨(some 73), (some (71, true)), .inl (.bin .eql (.t 72) (.c (.int .i64 0)))⟩,
            ⟨(some 74), none, .inl (.pick (.t 71) (.t 73) (.c (.bool false)))⟩,
            ⟨(some 75), none, .inl (.mv (.t 74))⟩,
            ⟨(some 76), (some (75, true)), .inl (.mv (.t 10))⟩,
            ⟨(some 77), (some (75, true)), .inl (.len (.t 76))⟩,
            ⟨(some 78), (some (75, true)), .inl (.bin .eql (.t 77) (.c (.int .i64 0)))⟩,
            ⟨(some 79), none, .inl (.pick (.t 75) (.t 78) (.c (.bool false)))⟩,
            ⟨(some 4), none, .inl (.mv (.t 79))⟩])
         (.keep [4]))
         (.ret)))))))
def fc_joistlaw04_LinesBack : FC := ⟨80, cmd_joistlaw04_LinesBack, [.t 4]⟩
theorem fc_joistlaw04_LinesBack_ok : compF Try.prog 4 [[0, 1], [0, 1, 5], [0, 1, 5, 6, 7], [0, 1, 5, 6, 20], [4], [0, 1, 5, 6, 8, 9], [0, 1, 5, 6, 8, 9, 10, 11], [4]] = some fc_joistlaw04_LinesBack := by kernel_rfl
/-- joist/joistlaw04.LinesTwice -/
abbrev F.joistlaw04_LinesTwice : Nat := 5
def cmd_joistlaw04_LinesTwice : Cmd :=
  .seq (.seq (.reg [⟨(some 4), none, .inl (.mv (.c (.bool false)))⟩])
   (.keep [0, 1]))
   (.seq (.seq (.reg [⟨(some 13), none, .inr (.call 8 [])⟩,
       ⟨(some 5), none, .inl (.mv (.t 13))⟩])
    (.keep [0, 1, 5]))
    (.seq (.seq (.reg [⟨(some 14), none, .inl (.mv (.t 1))⟩,
        ⟨(some 15), none, .inr (.call 18 [(.t 14)])⟩,
        ⟨(some 6), none, .inl (.mv (.t 15))⟩])
     (.keep [0, 1, 5, 6]))
     (.seq (.seq (.reg [⟨(some 17), none, .inl (.mv (.t 0))⟩,
         ⟨(some 18), none, .inl (.mv (.t 1))⟩,
         ⟨(some 19), none, .inr (.call 16 [(.t 17), (.t 18)])⟩,
         ⟨(some 16), none, .inl (.mv (.t 19))⟩,
         ⟨(some 20), none, .inl (.ext 0 (.t 16))⟩,
         ⟨(some 21), none, .inl (.ext 1 (.t 16))⟩,
         ⟨(some 7), none, .inl (.mv (.t 20))⟩,
         ⟨(some 8), none, .inl (.mv (.t 21))⟩])
      (.keep [0, 1, 5, 6, 7, 8]))
      (.seq (.seq (.seq (.reg [⟨(some 22), none, .inl (.mv (.t 6))⟩,
          ⟨(some 23), none, .inl (.un .not (.t 22))⟩,
          ⟨(some 24), none, .inl (.mv (.t 23))⟩,
          ⟨(some 25), (some (24, false)), .inl (.mv (.t 8))⟩,
          ⟨(some 26), (some (24, false)), .inl (.bin .neq (.t 25) (.c (.int .i64 0)))⟩,
          ⟨(some 27), none, .inl (.pick (.t 24) (.c (.bool true)) (.t 26))⟩])
       (.keep [0, 1, 5, 6, 7, 27]))
       (.cond (.t 27)
         (.seq (.seq (.reg [⟨(some 28), none, .inl (.mv (.t 5))⟩,
             ⟨(some 29), none, .inl (.mv (.t 28))⟩,
             ⟨(some 30), (some (29, true)), .inl (.mv (.t 7))⟩,
             ⟨(some 31), (some (29, true)), .inl (.len (.t 30))⟩,
             ⟨(some 32), (some (29, true)), .inl (.bin .eql (.t 31) (.c (.int .i64 0)))⟩,
             ⟨(some 33), (some (29, true)), .inl (.mv (.t 32))⟩,
             ⟨(some 34), (some (33, false)), .inl (.mv (.t 6))⟩,
             ⟨(some 35), (some (33, false)), .inl (.un .not (.t 34))⟩,
             ⟨(some 36), (some (29, true)), .inl (.pick (.t 33) (.c (.bool true)) (.t 35))⟩,
             ⟨(some 37), none, .inl (.pick (.t 29) (.t 36) (.c (.bool false)))⟩,
             ⟨(some 4), none, .inl (.mv (.t 37))⟩])
          (.keep [4]))
          (.ret))
         (.skip)))
       (.seq (.seq (.reg [⟨(some 39), none, .inl (.mv (.t 7))⟩,
           ⟨(some 40), none, .inl (.mv (.t 1))⟩,
           ⟨(some 41), none, .inr (.call 16 [(.t 39), (.t 40)])⟩,
           ⟨(some 38), none, .inl (.mv (.t 41))⟩,
           ⟨(some 42), none, .inl (.ext 0 (.t 38))⟩,
           ⟨(some 43), none, .inl (.ext 1 (.t 38))⟩,
           ⟨(some 9), none, .inl (.mv (.t 42))⟩,
           ⟨(some 10), none, .inl (.mv (.t 43))⟩])
        (.keep [0, 1, 5, 7, 9, 10]))
        (.seq (.seq (.reg [⟨(some 45), none, .inl (.mv (.t 0))⟩,
            ⟨(some 46), none, .inr (.bslice 2 [(.int .i64 0), .nils] 0 [])⟩,
            ⟨(some 47), none, .inl (.mv (.t 1))⟩,
            ⟨(some 48), none, .inr (.append 2 32 (.t 46) (.t 47))⟩,
            ⟨(some 49), none, .inl (.mv (.t 1))⟩,
            ⟨(some 50), none, .inr (.append 2 32 (.t 48) (.t 49))⟩,
            ⟨(some 51), none, .inr (.call 16 [(.t 45), (.t 50)])⟩,
            ⟨(some 44), none, .inl (.mv (.t 51))⟩,
            ⟨(some 52), none, .inl (.ext 0 (.t 44))⟩,
            ⟨(some 53), none, .inl (.ext 1 (.t 44))⟩,
            ⟨(some 11), none, .inl (.mv (.t 52))⟩,
            ⟨(some 12), none, .inl (.mv (.t 53))⟩])
         (.keep [0, 5, 7, 9, 10, 11, 12]))
         (.seq (.seq (.reg [⟨(some 54), none, .inl (.mv (.t 5))⟩,
             ⟨(some 55), none, .inl (.mv (.t 54))⟩,
             ⟨(some 56), (some (55, true)), .inl (.mv (.t 10))⟩,
             ⟨(some 57), (some (55, true)), .inl (.bin .eql (.t 56) (.c (.int .i64 0)))⟩,
             ⟨(some 58), none, .inl (.pick (.t 55) (.t 57) (.c (.bool false)))⟩,
             ⟨(some 59), none, .inl (.mv (.t 58))⟩,
             ⟨(some 60), (some (59, true)), .inl (.mv (.t 9))⟩,
             ⟨(some 61), (some (59, true)), .inl (.b2s (.t 60))⟩,
             ⟨(some 62), (some (59, true)), .inl (.mv (.t 7))⟩,
             ⟨(some 63), (some (59, true)), .inl (.b2s (.t 62))⟩,
             ⟨(some 64), (some (59, true)), .inl (.bins .eql (.t 61) (.t 63))⟩,
             ⟨(some 65), none, .inl (.pick (.t 59) (.t 64) (.c (.bool false)))⟩,
             ⟨(some 66), none, .inl (.mv (.t 65))⟩,
             ⟨(some 67), (some (66, true)), .inl (.mv (.t 12))⟩,
             ⟨(some 68), (some (66, true)), .inl (.bin .eql (.t 67) (.c (.int .i64 0)))⟩,
             ⟨(some 69), none, .inl (.pick (.t 66) (.t 68) (.c (.bool false)))⟩,
             ⟨(some 70), none, .inl (.mv (.t 69))⟩,
             ⟨(some 71), (some (70, true)), .inl (.mv (.t 11))⟩,
             ⟨(some 72), (some (70, true)), .inl (.b2s (.t 71))⟩,
             ⟨(some 73), (some (70, true)), .inl (.mv (.t 7))⟩,
             ⟨(some 74), (some (70, true)), .inl (.b2s (.t 73))⟩,
             ⟨(some 75), (some (70, true)), .inl (.bins .eql (.t 72) (.t 74))⟩,
             ⟨(some 76), none, .inl (.pick (.t 70) (.t 75) (.c (.bool false)))⟩,
             ⟨(some 77), none, .inl (.mv (.t 76))⟩,
             ⟨(some 78), (some (77, true)), .inl (.mv (.t 7))⟩,
             ⟨(some 79), (some (77, true)), .inl (.len (.t 78))⟩,
             ⟨(some 80), (some (77, true)), .inl (.mv (.t 0))⟩,
             ⟨(some 81), (some (77, true)), .inl (.len (.t 80))⟩,
             ⟨(some 82), (some (77, true)), .inl (.bin .eql (.t 79) (.t 81))⟩,
             ⟨(some 83), none, .inl (.pick (.t 77) (.t 82) (.c (.bool false)))⟩,
             ⟨(some 4), none, .inl (.mv (.t 83))⟩])
          (.keep [4]))
          (.ret))))))))
def fc_joistlaw04_LinesTwice : FC := ⟨84, cmd_joistlaw04_LinesTwice, [.t 4]⟩
theorem fc_joistlaw04_LinesTwice_ok : compF Try.prog 5 [[0, 1], [0, 1, 5], [0, 1, 5, 6], [0, 1, 5, 6, 7, 8], [0, 1, 5, 6, 7, 27], [4], [0, 1, 5, 7, 9, 10], [0, 5, 7, 9, 10, 11, 12], [4]] = some fc_joistlaw04_LinesTwice := by kernel_rfl
/-- joist/joistlaw04.LinesMerges -/
abbrev F.joistlaw04_LinesMerges : Nat := 6
def cmd_joistlaw04_LinesMerges : Cmd :=
  .seq (.seq (.reg [⟨(some 6), none, .inl (.mv (.c (.bool false)))⟩])
   (.keep [0, 1, 2]))
   (.seq (.seq (.reg [⟨(some 22), none, .inr (.call 8 [])⟩,
       ⟨(some 7), none, .inl (.mv (.t 22))⟩])
    (.keep [0, 1, 2, 7]))
    (.seq (.seq (.reg [⟨(some 24), none, .inl (.mv (.t 0))⟩,
        ⟨(some 25), none, .inl (.mv (.t 2))⟩,
        ⟨(some 26), none, .inr (.call 10 [(.t 24), (.t 25)])⟩,
        ⟨(some 23), none, .inl (.mv (.t 26))⟩,
        ⟨(some 27), none, .inl (.ext 0 (.t 23))⟩,
        ⟨(some 28), none, .inl (.ext 1 (.t 23))⟩,
        ⟨(some 8), none, .inl (.mv (.t 27))⟩,
        ⟨(some 9), none, .inl (.mv (.t 28))⟩])
     (.keep [0, 1, 2, 7, 8, 9]))
     (.seq (.seq (.reg [⟨(some 30), none, .inl (.mv (.t 0))⟩,
         ⟨(some 31), none, .inl (.mv (.t 1))⟩,
         ⟨(some 32), none, .inr (.call 10 [(.t 30), (.t 31)])⟩,
         ⟨(some 29), none, .inl (.mv (.t 32))⟩,
         ⟨(some 33), none, .inl (.ext 0 (.t 29))⟩,
         ⟨(some 34), none, .inl (.ext 1 (.t 29))⟩,
         ⟨(some 10), none, .inl (.mv (.t 33))⟩,
         ⟨(some 11), none, .inl (.mv (.t 34))⟩])
      (.keep [0, 1, 2, 7, 8, 9, 10, 11]))
      (.seq (.seq (.reg [⟨(some 36), none, .inl (.mv (.t 1))⟩,
          ⟨(some 37), none, .inl (.mv (.t 2))⟩,
          ⟨(some 38), none, .inr (.call 10 [(.t 36), (.t 37)])⟩,
          ⟨(some 35), none, .inl (.mv (.t 38))⟩,
          ⟨(some 39), none, .inl (.ext 0 (.t 35))⟩,
          ⟨(some 40), none, .inl (.ext 1 (.t 35))⟩,
          ⟨(some 12), none, .inl (.mv (.t 39))⟩,
          ⟨(some 13), none, .inl (.mv (.t 40))⟩])
       (.keep [0, 2, 7, 8, 9, 10, 11, 12, 13]))
       (.seq (.seq (.seq (.reg [⟨(some 41), none, .inl (.mv (.t 9))⟩,
           ⟨(some 42), none, .inl (.bin .neq (.t 41) (.c (.int .i64 0)))⟩,
           ⟨(some 43), none, .inl (.mv (.t 42))⟩,
           ⟨(some 44), (some (43, false)), .inl (.mv (.t 11))⟩,
           ⟨(some 45), (some (43, false)), .inl (.bin .neq (.t 44) (.c (.int .i64 0)))⟩,
           ⟨(some 46), none, .inl (.pick (.t 43) (.c (.bool true)) (.t 45))⟩,
           ⟨(some 47), none, .inl (.mv (.t 46))⟩,
           ⟨(some 48), (some (47, false)), .inl (.mv (.t 13))⟩,
           ⟨(some 49), (some (47, false)), .inl (.bin .neq (.t 48) (.c (.int .i64 0)))⟩,
           ⟨(some 50), none, .inl (.pick (.t 47) (.c (.bool true)) (.t 49))⟩])
        (.keep [0, 2, 7, 8, 10, 12, 50]))
        (.cond (.t 50)
          (.seq (.seq (.reg [⟨(some 51), none, .inl (.mv (.t 7))⟩,
              ⟨(some 6), none, .inl (.mv (.t 51))⟩])
           (.keep [6]))
           (.ret))
          (.skip)))
        (.seq (.seq (.seq (.reg [⟨(some 14), none, .inl (.mv (.c (.int .i64 0)))⟩])
         (.keep [0, 2, 7, 8, 10, 12, 14]))
         (.block 0 (.loop [0, 2, 7, 8, 10, 12, 14] (.seq (.seq (.seq (.reg [⟨(some 52), none, .inl (.mv (.t 14))⟩,
             ⟨(some 53), none, .inl (.mv (.t 8))⟩,
             ⟨(some 54), none, .inl (.len (.t 53))⟩,
             ⟨(some 55), none, .inl (.bin .lss (.t 52) (.t 54))⟩])
          (.keep [0, 2, 7, 8, 10, 12, 14, 55]))
          (.cond (.t 55)
            (.skip)
            (.exit 0)))
          (.seq (.block 1 (.seq (.seq (.reg [⟨(some 15), none, .inl (.mv (.c (.bool false)))⟩])
           (.keep [0, 2, 7, 8, 10, 12, 14, 15]))
           (.seq (.seq (.seq (.reg [⟨(some 16), none, .inl (.mv (.c (.int .i64 0)))⟩])
            (.keep [0, 2, 7, 8, 10, 12, 14, 15, 16]))
            (.block 2 (.loop [0, 2, 7, 8, 10, 12, 14, 15, 16] (.seq (.seq (.seq (.reg [⟨(some 58), none, .inl (.mv (.t 16))⟩,
                ⟨(some 59), none, .inl (.mv (.t 10))⟩,
                ⟨(some 60), none, .inl (.len (.t 59))⟩,
                ⟨(some 61), none, .inl (.bin .lss (.t 58) (.t 60))⟩])
             (.keep [0, 2, 7, 8, 10, 12, 14, 15, 16, 61]))
             (.cond (.t 61)
               (.skip)
               (.exit 2)))
             (.seq (.block 3 (.seq (.ord [⟨0, ⟨(some 64), none, .inl (.mv (.t 15))⟩, [], false⟩,
                 ⟨1, ⟨(some 65), none, .inl (.mv (.t 64))⟩, [], false⟩,
                 ⟨2, ⟨(some 66), (some (65, false)), .inl (.mv (.t 10))⟩, [], false⟩,
                 ⟨3, ⟨(some 67), (some (65, false)), .inl (.mv (.t 16))⟩, [], false⟩,
                 ⟨4, ⟨(some 68), (some (65, false)), .inl (.iaddr 2 (.t 66) (.t 67))⟩, [], false⟩,
                 ⟨5, ⟨(some 69), (some (65, false)), .inl (.faddr 0 (.t 68))⟩, [], false⟩,
                 ⟨6, ⟨(some 70), (some (65, false)), .inl (.load false 1 (.t 69))⟩, [], false⟩,
                 ⟨7, ⟨(some 71), (some (65, false)), .inl (.mv (.t 8))⟩, [], false⟩,
                 ⟨8, ⟨(some 72), (some (65, false)), .inl (.mv (.t 14))⟩, [], false⟩,
                 ⟨9, ⟨(some 73), (some (65, false)), .inl (.iaddr 2 (.t 71) (.t 72))⟩, [], false⟩,
                 ⟨10, ⟨(some 74), (some (65, false)), .inl (.faddr 0 (.t 73))⟩, [], false⟩,
                 ⟨11, ⟨(some 75), (some (65, false)), .inl (.load false 1 (.t 74))⟩, [], false⟩,
                 ⟨12, ⟨(some 76), (some (65, false)), .inl (.bin .eql (.t 70) (.t 75))⟩, [], false⟩,
                 ⟨13, ⟨(some 77), none, .inl (.pick (.t 65) (.c (.bool true)) (.t 76))⟩, [], false⟩,
                 ⟨14, ⟨(some 15), none, .inl (.mv (.t 77))⟩, [], false⟩])
              (.keep [0, 2, 7, 8, 10, 12, 14, 15, 16])))
              (.seq (.reg [⟨(some 62), none, .inl (.mv (.t 16))⟩,
                  ⟨(some 63), none, .inl (.bin .add (.t 62) (.c (.int .i64 1)))⟩,
                  ⟨(some 16), none, .inl (.mv (.t 63))⟩])
               (.keep [0, 2, 7, 8, 10, 12, 14, 15, 16])))))))
            (.seq (.seq (.seq (.reg [⟨(some 17), none, .inl (.mv (.c (.int .i64 0)))⟩])
             (.keep [0, 2, 7, 8, 10, 12, 14, 15, 17]))
             (.block 4 (.loop [0, 2, 7, 8, 10, 12, 14, 15, 17] (.seq (.seq (.seq (.reg [⟨(some 78), none, .inl (.mv (.t 17))⟩,
                 ⟨(some 79), none, .inl (.mv (.t 12))⟩,
                 ⟨(some 80), none, .inl (.len (.t 79))⟩,
                 ⟨(some 81), none, .inl (.bin .lss (.t 78) (.t 80))⟩])
              (.keep [0, 2, 7, 8, 10, 12, 14, 15, 17, 81]))
              (.cond (.t 81)
                (.skip)
                (.exit 4)))
              (.seq (.block 5 (.seq (.ord [⟨0, ⟨(some 84), none, .inl (.mv (.t 15))⟩, [], false⟩,
                  ⟨1, ⟨(some 85), none, .inl (.mv (.t 84))⟩, [], false⟩,
                  ⟨2, ⟨(some 86), (some (85, false)), .inl (.mv (.t 12))⟩, [], false⟩,
                  ⟨3, ⟨(some 87), (some (85, false)), .inl (.mv (.t 17))⟩, [], false⟩,
                  ⟨4, ⟨(some 88), (some (85, false)), .inl (.iaddr 2 (.t 86) (.t 87))⟩, [], false⟩,
                  ⟨5, ⟨(some 89), (some (85, false)), .inl (.faddr 0 (.t 88))⟩, [], false⟩,
                  ⟨6, ⟨(some 90), (some (85, false)), .inl (.load false 1 (.t 89))⟩, [], false⟩,
                  ⟨7, ⟨(some 91), (some (85, false)), .inl (.mv (.t 8))⟩, [], false⟩,
                  ⟨8, ⟨(some 92), (some (85, false)), .inl (.mv (.t 14))⟩, [], false⟩,
                  ⟨9, ⟨(some 93), (some (85, false)), .inl (.iaddr 2 (.t 91) (.t 92))⟩, [], false⟩,
                  ⟨10, ⟨(some 94), (some (85, false)), .inl (.faddr 0 (.t 93))⟩, [], false⟩,
                  ⟨11, ⟨(some 95), (some (85, false)), .inl (.load false 1 (.t 94))⟩, [], false⟩,
                  ⟨12, ⟨(some 96), (some (85, false)), .inl (.bin .eql (.t 90) (.t 95))⟩, [], false⟩,
                  ⟨13, ⟨(some 97), none, .inl (.pick (.t 85) (.c (.bool true)) (.t 96))⟩, [], false⟩,
                  ⟨14, ⟨(some 15), none, .inl (.mv (.t 97))⟩, [], false⟩])
               (.keep [0, 2, 7, 8, 10, 12, 14, 15, 17])))
               (.seq (.reg [⟨(some 82), none, .inl (.mv (.t 17))⟩,
                   ⟨(some 83), none, .inl (.bin .add (.t 82) (.c (.int .i64 1)))⟩,
                   ⟨(some 17), none, .inl (.mv (.t 83))⟩])
                (.keep [0, 2, 7, 8, 10, 12, 14, 15, 17])))))))
             (.seq (.seq (.reg [⟨(some 98), none, .inl (.mv (.t 15))⟩,
                 ⟨(some 99), none, .inl (.un .not (.t 98))⟩])
              (.keep [0, 2, 7, 8, 10, 12, 14, 99]))
              (.cond (.t 99)
                (.seq (.seq (.reg [⟨(some 6), none, .inl (.mv (.c (.bool false)))⟩])
                 (.keep [6]))
                 (.ret))
                (.skip)))))))
           (.seq (.reg [⟨(some 56), none, .inl (.mv (.t 14))⟩,
               ⟨(some 57), none, .inl (.bin .add (.t 56) (.c (.int .i64 1)))⟩,
               ⟨(some 14), none, .inl (.mv (.t 57))⟩])
            (.keep [0, 2, 7, 8, 10, 12, 14])))))))
         (.seq (.seq (.reg [⟨(some 18), none, .inl (.mv (.c .nils))⟩])
          (.keep [0, 2, 7, 8, 18]))
          (.seq (.seq (.seq (.reg [⟨(some 100), none, .inl (.mv (.t 8))⟩,
              ⟨(some 101), none, .inl (.len (.t 100))⟩,
              ⟨(some 102), none, .inl (.bin .sub (.t 101) (.c (.int .i64 1)))⟩,
              ⟨(some 19), none, .inl (.mv (.t 102))⟩])
           (.keep [0, 2, 7, 8, 18, 19]))
           (.block 6 (.loop [0, 2, 7, 8, 18, 19] (.seq (.seq (.seq (.reg [⟨(some 103), none, .inl (.mv (.t 19))⟩,
               ⟨(some 104), none, .inl (.bin .geq (.t 103) (.c (.int .i64 0)))⟩])
            (.keep [0, 2, 7, 8, 18, 19, 104]))
            (.cond (.t 104)
              (.skip)
              (.exit 6)))
            (.seq (.block 7 (.seq (.reg [⟨(some 107), none, .inl (.mv (.t 18))⟩,
                ⟨(some 108), none, .inl (.mv (.t 8))⟩,
                ⟨(some 109), none, .inl (.mv (.t 19))⟩,
                ⟨(some 110), none, .inl (.iaddr 2 (.t 108) (.t 109))⟩,
                ⟨(some 111), none, .inl (.load true 2 (.t 110))⟩,
                ⟨(some 112), none, .inr (.bslice 2 [(.int .i64 0), .nils] 1 [(0, (.t 111))])⟩,
                ⟨(some 113), none, .inr (.append 2 32 (.t 107) (.t 112))⟩,
                ⟨(some 18), none, .inl (.mv (.t 113))⟩])
             (.keep [0, 2, 7, 8, 18, 19])))
             (.seq (.reg [⟨(some 105), none, .inl (.mv (.t 19))⟩,
                 ⟨(some 106), none, .inl (.bin .sub (.t 105) (.c (.int .i64 1)))⟩,
                 ⟨(some 19), none, .inl (.mv (.t 106))⟩])
              (.keep [0, 2, 7, 8, 18, 19])))))))
           (.seq (.seq (.reg [⟨(some 115), none, .inl (.mv (.t 0))⟩,
               ⟨(some 116), none, .inl (.mv (.t 18))⟩,
               ⟨(some 117), none, .inr (.call 16 [(.t 115), (.t 116)])⟩,
               ⟨(some 114), none, .inl (.mv (.t 117))⟩,
               ⟨(some 118), none, .inl (.ext 0 (.t 114))⟩,
               ⟨(some 119), none, .inl (.ext 1 (.t 114))⟩,
               ⟨(some 20), none, .inl (.mv (.t 118))⟩,
               ⟨(some 21), none, .inl (.mv (.t 119))⟩])
            (.keep [2, 7, 20, 21]))
            (.seq (.seq (.reg [⟨(some 120), none, .inl (.mv (.t 7))⟩,
                ⟨(some 121), none, .inl (.mv (.t 120))⟩,
                ⟨(some 122), (some (121, true)), .inl (.mv (.t 21))⟩,
                ⟨(some 123), (some (121, true)), .inl (.bin .eql (.t 122) (.c (.int .i64 0)))⟩,
                ⟨(some 124), none, .inl (.pick (.t 121) (.t 123) (.c (.bool false)))⟩,
                ⟨(some 125), none, .inl (.mv (.t 124))⟩,
                ⟨(some 126), (some (125, true)), .inl (.mv (.t 20))⟩,
                ⟨(some 127), (some (125, true)), .inl (.b2s (.t 126))⟩,
                ⟨(some 128), (some (125, true)), .inl (.mv (.t 2))⟩,
                ⟨(some 129), (some (125, true)), .inl (.b2s (.t 128))⟩,
                ⟨(some 130), (some (125, true)), .inl (.bins .eql (.t 127) (.t 129))⟩,
                ⟨(some 131), none, .inl (.pick (.t 125) (.t 130) (.c (.bool false)))⟩,
                ⟨(some 6), none, .inl (.mv (.t 131))⟩])
             (.keep [6]))
             (.ret)))))))))))
def fc_joistlaw04_LinesMerges : FC := ⟨132, cmd_joistlaw04_LinesMerges, [.t 6]⟩
theorem fc_joistlaw04_LinesMerges_ok : compF Try.prog 6 [[0, 1, 2], [0, 1, 2, 7], [0, 1, 2, 7, 8, 9], [0, 1, 2, 7, 8, 9, 10, 11], [0, 2, 7, 8, 9, 10, 11, 12, 13], [0, 2, 7, 8, 10, 12, 50], [6], [0, 2, 7, 8, 10, 12, 14], [0, 2, 7, 8, 10, 12, 14], [0, 2, 7, 8, 10, 12, 14, 55], [0, 2, 7, 8, 10, 12, 14, 15], [0, 2, 7, 8, 10, 12, 14, 15, 16], [0, 2, 7, 8, 10, 12, 14, 15, 16], [0, 2, 7, 8, 10, 12, 14, 15, 16, 61], [0, 2, 7, 8, 10, 12, 14, 15, 16], [0, 1, 2, 3, 4, 5, 6, 7, 8, 9, 10, 11, 12, 13, 14], [0, 2, 7, 8, 10, 12, 14, 15, 16], [0, 2, 7, 8, 10, 12, 14, 15, 17], [0, 2, 7, 8, 10, 12, 14, 15, 17], [0, 2, 7, 8, 10, 12, 14, 15, 17, 81], [0, 2, 7, 8, 10, 12, 14, 15, 17], [0, 1, 2, 3, 4, 5, 6, 7, 8, 9, 10, 11, 12, 13, 14], [0, 2, 7, 8, 10, 12, 14, 15, 17], [0, 2, 7, 8, 10, 12, 14, 99], [6], [0, 2, 7, 8, 10, 12, 14], [0, 2, 7, 8, 18], [0, 2, 7, 8, 18, 19], [0, 2, 7, 8, 18, 19], [0, 2, 7, 8, 18, 19, 104], [0, 2, 7, 8, 18, 19], [0, 2, 7, 8, 18, 19], [2, 7, 20, 21], [6]] = some fc_joistlaw04_LinesMerges := by kernel_rfl
/-- joist/joistlaw04.LinesApplies -/
abbrev F.joistlaw04_LinesApplies : Nat := 7
def cmd_joistlaw04_LinesApplies : Cmd :=
  .seq (.seq (.reg [⟨(some 8), none, .inl (.mv (.c (.bool false)))⟩])
   (.keep [0, 1, 2, 3]))
   (.seq (.seq (.reg [⟨(some 20), none, .inr (.call 8 [])⟩,
       ⟨(some 9), none, .inl (.mv (.t 20))⟩])
    (.keep [0, 1, 2, 3, 9]))
    (.seq (.seq (.reg [⟨(some 21), none, .inl (.mv (.t 1))⟩,
        ⟨(some 22), none, .inr (.call 18 [(.t 21)])⟩,
        ⟨(some 10), none, .inl (.mv (.t 22))⟩])
     (.keep [0, 1, 2, 3, 9, 10]))
     (.seq (.seq (.reg [⟨(some 23), none, .inl (.mv (.t 2))⟩,
         ⟨(some 24), none, .inr (.call 18 [(.t 23)])⟩,
         ⟨(some 11), none, .inl (.mv (.t 24))⟩])
      (.keep [0, 1, 2, 3, 9, 10, 11]))
      (.seq (.seq (.seq (.reg [⟨(some 25), none, .inl (.mv (.t 10))⟩,
          ⟨(some 26), none, .inl (.un .not (.t 25))⟩,
          ⟨(some 27), none, .inl (.mv (.t 26))⟩,
          ⟨(some 28), (some (27, false)), .inl (.mv (.t 11))⟩,
          ⟨(some 29), (some (27, false)), .inl (.un .not (.t 28))⟩,
          ⟨(some 30), none, .inl (.pick (.t 27) (.c (.bool true)) (.t 29))⟩])
       (.keep [0, 1, 2, 3, 9, 30]))
       (.cond (.t 30)
         (.seq (.seq (.reg [⟨(some 31), none, .inl (.mv (.t 9))⟩,
             ⟨(some 8), none, .inl (.mv (.t 31))⟩])
          (.keep [8]))
          (.ret))
         (.skip)))
       (.seq (.seq (.reg [⟨(some 32), none, .inl (.mv (.t 0))⟩,
           ⟨(some 33), none, .inr (.call 9 [(.t 32)])⟩,
           ⟨(some 12), none, .inl (.mv (.t 33))⟩])
        (.keep [0, 1, 2, 3, 9, 12]))
        (.seq (.seq (.reg [⟨(some 35), none, .inl (.mv (.t 12))⟩,
            ⟨(some 36), none, .inl (.mv (.t 1))⟩,
            ⟨(some 37), none, .inr (.call 16 [(.t 35), (.t 36)])⟩,
            ⟨(some 34), none, .inl (.mv (.t 37))⟩,
            ⟨(some 38), none, .inl (.ext 0 (.t 34))⟩,
            ⟨(some 39), none, .inl (.ext 1 (.t 34))⟩,
            ⟨(some 13), none, .inl (.mv (.t 38))⟩,
            ⟨(some 14), none, .inl (.mv (.t 39))⟩])
         (.keep [0, 1, 2, 3, 9, 12, 13, 14]))
         (.seq (.seq (.reg [⟨(some 40), none, .inl (.mv (.t 12))⟩,
             ⟨(some 41), none, .inl (.mv (.t 0))⟩,
             ⟨(some 42), none, .inr (.call 11 [(.t 40), (.t 41)])⟩,
             ⟨(some 15), none, .inl (.mv (.t 42))⟩])
          (.keep [0, 1, 2, 3, 9, 12, 13, 14, 15]))
          (.seq (.seq (.reg [⟨(some 44), none, .inl (.mv (.t 0))⟩,
              ⟨(some 45), none, .inl (.mv (.t 1))⟩,
              ⟨(some 46), none, .inr (.call 19 [(.t 44), (.t 45)])⟩,
              ⟨(some 43), none, .inl (.mv (.t 46))⟩,
              ⟨(some 47), none, .inl (.ext 0 (.t 43))⟩,
              ⟨(some 48), none, .inl (.ext 1 (.t 43))⟩,
              ⟨(some 16), none, .inl (.mv (.t 47))⟩,
              ⟨(some 17), none, .inl (.mv (.t 48))⟩])
           (.keep [1, 2, 3, 9, 12, 13, 14, 15, 16, 17]))
           (.seq (.seq (.reg [⟨(some 49), none, .inl (.mv (.t 13))⟩,
               ⟨(some 50), none, .inl (.b2s (.t 49))⟩,
               ⟨(some 51), none, .inl (.mv (.t 16))⟩,
               ⟨(some 52), none, .inl (.b2s (.t 51))⟩,
               ⟨(some 53), none, .inl (.bins .eql (.t 50) (.t 52))⟩,
               ⟨(some 18), none, .inl (.mv (.t 53))⟩])
            (.keep [1, 2, 3, 9, 12, 13, 14, 15, 17, 18]))
            (.seq (.seq (.reg [⟨(some 54), none, .inl (.mv (.t 13))⟩,
                ⟨(some 55), none, .inl (.mv (.t 12))⟩,
                ⟨(some 56), none, .inr (.bslice 1 [.nils] 2 [(0, (.t 54)), (1, (.t 55))])⟩,
                ⟨(some 57), none, .inr (.call 12 [(.t 56)])⟩,
                ⟨(some 19), none, .inl (.mv (.t 57))⟩])
             (.keep [1, 2, 3, 9, 14, 15, 17, 18, 19]))
             (.seq (.seq (.reg [⟨(some 58), none, .inl (.mv (.t 9))⟩,
                 ⟨(some 59), none, .inl (.mv (.t 58))⟩,
                 ⟨(some 60), (some (59, true)), .inl (.mv (.t 15))⟩,
                 ⟨(some 61), none, .inl (.pick (.t 59) (.t 60) (.c (.bool false)))⟩,
                 ⟨(some 62), none, .inl (.mv (.t 61))⟩,
                 ⟨(some 63), (some (62, true)), .inl (.mv (.t 18))⟩,
                 ⟨(some 64), none, .inl (.pick (.t 62) (.t 63) (.c (.bool false)))⟩,
                 ⟨(some 65), none, .inl (.mv (.t 64))⟩,
                 ⟨(some 66), (some (65, true)), .inl (.mv (.t 19))⟩,
                 ⟨(some 67), none, .inl (.pick (.t 65) (.t 66) (.c (.bool false)))⟩,
                 ⟨(some 68), none, .inl (.mv (.t 67))⟩,
                 ⟨(some 69), (some (68, true)), .inl (.mv (.t 14))⟩,
                 ⟨(some 70), (some (68, true)), .inl (.mv (.t 17))⟩,
                 ⟨(some 71), (some (68, true)), .inl (.bin .eql (.t 69) (.t 70))⟩,
                 ⟨(some 72), none, .inl (.pick (.t 68) (.t 71) (.c (.bool false)))⟩,
                 ⟨(some 73), none, .inl (.mv (.t 72))⟩,
                 ⟨(some 74), (some (73, true)), .inl (.mv (.t 3))⟩,
                 ⟨(some 75), (some (73, true)), .inl (.mv (.t 1))⟩,
                 ⟨(some 76), (some (73, true)), .inr (.call 17 [(.t 74), (.t 75)])⟩,
                 ⟨(some 77), (some (73, true)), .inl (.mv (.t 3))⟩,
                 ⟨(some 78), (some (73, true)), .inl (.mv (.t 1))⟩,
                 ⟨(some 79), (some (73, true)), .inr (.call 20 [(.t 77), (.t 78)])⟩,
                 ⟨(some 80), (some (73, true)), .inl (.binb .eql (.t 76) (.t 79))⟩,
                 ⟨(some 81), none, .inl (.pick (.t 73) (.t 80) (.c (.bool false)))⟩,
                 ⟨(some 82), none, .inl (.mv (.t 81))⟩,
                 ⟨(some 83), (some (82, true)), .inl (.mv (.t 1))⟩,
                 ⟨(some 84), (some (82, true)), .inl (.mv (.t 2))⟩,
                 ⟨(some 85), (some (82, true)), .inr (.call 21 [(.t 83), (.t 84)])⟩,
                 ⟨(some 86), (some (82, true)), .inl (.mv (.t 1))⟩,
                 ⟨(some 87), (some (82, true)), .inl (.mv (.t 2))⟩,
                 ⟨(some 88), (some (82, true)), .inr (.call 14 [(.t 86), (.t 87)])⟩,
                 ⟨(some 89), (some (82, true)), .inl (.binb .eql (.t 85) (.t 88))⟩,
                 ⟨(some 90), none, .inl (.pick (.t 82) (.t 89) (.c (.bool false)))⟩,
                 ⟨(some 91), none, .inl (.mv (.t 90))⟩,
                 ⟨(some 92), (some (91, true)), .inl (.mv (.t 1))⟩,
                 ⟨(some 93), (some (91, true)), .inl (.mv (.t 1))⟩,
                 ⟨(some 94), (some (91, true)), .inr (.call 21 [(.t 92), (.t 93)])⟩,
                 ⟨(some 95), none, .inl (.pick (.t 91) (.t 94) (.c (.bool false)))⟩,
                 ⟨(some 8), none, .inl (.mv (.t 95))⟩])
              (.keep [8]))
              (.ret))))))))))))
def fc_joistlaw04_LinesApplies : FC := ⟨96, cmd_joistlaw04_LinesApplies, [.t 8]⟩
theorem fc_joistlaw04_LinesApplies_ok : compF Try.prog 7 [[0, 1, 2, 3], [0, 1, 2, 3, 9], [0, 1, 2, 3, 9, 10], [0, 1, 2, 3, 9, 10, 11], [0, 1, 2, 3, 9, 30], [8], [0, 1, 2, 3, 9, 12], [0, 1, 2, 3, 9, 12, 13, 14], [0, 1, 2, 3, 9, 12, 13, 14, 15], [1, 2, 3, 9, 12, 13, 14, 15, 16, 17], [1, 2, 3, 9, 12, 13, 14, 15, 17, 18], [1, 2, 3, 9, 14, 15, 17, 18, 19], [8]] = some fc_joistlaw04_LinesApplies := by kernel_rfl
/-- joist/joistlaw04.small -/
abbrev F.joistlaw04_small : Nat := 8
def cmd_joistlaw04_small : Cmd :=
  .seq (.seq (.reg [⟨(some 0), none, .inl (.mv (.c (.bool false)))⟩])
   (.keep []))
   (.seq (.seq (.reg [⟨(some 8), none, .inr (.mksl 1 1 [(.int .u8 0)] (.c (.int .i64 128)) (.c (.int .i64 128)))⟩,
       ⟨(some 1), none, .inl (.mv (.t 8))⟩])
    (.keep [1]))
    (.seq (.seq (.reg [⟨(some 9), none, .inl (.mv (.t 1))⟩,
        ⟨(some 10), none, .inl (.iaddr 1 (.t 9) (.c (.int .i64 64)))⟩,
        ⟨none, none, .inr (.store 1 (.t 10) (.c (.int .u8 1)))⟩])
     (.keep [1]))
     (.seq (.seq (.reg [⟨(some 12), none, .inr (.mksl 1 1 [(.int .u8 0)] (.c (.int .i64 128)) (.c (.int .i64 128)))⟩,
         ⟨(some 13), none, .inl (.mv (.t 1))⟩,
         ⟨(some 14), none, .inr (.call 10 [(.t 12), (.t 13)])⟩,
         ⟨(some 11), none, .inl (.mv (.t 14))⟩,
         ⟨(some 15), none, .inl (.ext 0 (.t 11))⟩,
         ⟨(some 16), none, .inl (.ext 1 (.t 11))⟩,
         ⟨(some 2), none, .inl (.mv (.t 15))⟩,
         ⟨(some 3), none, .inl (.mv (.t 16))⟩])
      (.keep [1, 2, 3]))
      (.seq (.seq (.reg [⟨(some 18), none, .inr (.mksl 1 1 [(.int .u8 0)] (.c (.int .i64 64)) (.c (.int .i64 64)))⟩,
          ⟨(some 19), none, .inl (.mv (.t 1))⟩,
          ⟨(some 20), none, .inr (.call 10 [(.t 18), (.t 19)])⟩,
          ⟨(some 17), none, .inl (.mv (.t 20))⟩,
          ⟨(some 21), none, .inl (.ext 0 (.t 17))⟩,
          ⟨(some 22), none, .inl (.ext 1 (.t 17))⟩,
          ⟨(some 4), none, .inl (.mv (.t 21))⟩,
          ⟨(some 5), none, .inl (.mv (.t 22))⟩])
       (.keep [1, 2, 3, 5]))
       (.seq (.seq (.reg [⟨(some 24), none, .inr (.mksl 1 1 [(.int .u8 0)] (.c (.int .i64 128)) (.c (.int .i64 128)))⟩,
           ⟨(some 25), none, .inl (.mv (.t 2))⟩,
           ⟨(some 26), none, .inr (.call 16 [(.t 24), (.t 25)])⟩,
           ⟨(some 23), none, .inl (.mv (.t 26))⟩,
           ⟨(some 27), none, .inl (.ext 0 (.t 23))⟩,
           ⟨(some 28), none, .inl (.ext 1 (.t 23))⟩,
           ⟨(some 6), none, .inl (.mv (.t 27))⟩,
           ⟨(some 7), none, .inl (.mv (.t 28))⟩])
        (.keep [1, 2, 3, 5, 6, 7]))
        (.seq (.seq (.reg [⟨(some 29), none, .inl (.mv (.t 3))⟩,
            ⟨(some 30), none, .inl (.bin .eql (.t 29) (.c (.int .i64 0)))⟩,
            ⟨(some 31), none, .inl (.mv (.t 30))⟩,
            ⟨(some 32), (some (31, true)), .inl (.mv (.t 2))⟩,
            ⟨(some 33), (some (31, true)), .inl (.len (.t 32))⟩,
            ⟨(some 34), (some (31, true)), .inl (.bin .eql (.t 33) (.c (.int .i64 1)))⟩,
            ⟨(some 35), none, .inl (.pick (.t 31) (.t 34) (.c (.bool false)))⟩,
            ⟨(some 36), none, .inl (.mv (.t 35))⟩,
            ⟨(some 37), (some (36, true)), .inl (.mv (.t 2))⟩,
            ⟨(some 38), (some (36, true)), .inl (.iaddr 2 (.t 37) (.c (.int .i64 0)))⟩,
            ⟨(some 39), (some (36, true)), .inl (.faddr 0 (.t 38))⟩,
            ⟨(some 40), (some (36, true)), .inl (.load false 1 (.t 39))⟩,
            ⟨(some 41), (some (36, true)), .inl (.bin .eql (.t 40) (.c (.int .i64 1)))⟩,
            ⟨(some 42), none, .inl (.pick (.t 36) (.t 41) (.c (.bool false)))⟩,
            ⟨(some 43), none, .inl (.mv (.t 42))⟩,
            ⟨(some 44), (some (43, true)), .inl (.mv (.t 2))⟩,
            ⟨(some 45), (some (43, true)), .inl (.iaddr 2 (.t 44) (.c (.int .i64 0)))⟩,
            ⟨(some 46), (some (43, true)), .inl (.faddr 1 (.t 45))⟩,
            ⟨(some 47), (some (43, true)), .inl (.load false 1 (.t 46))⟩,
            ⟨(some 48), (some (43, true)), .inl (.len (.t 47))⟩,
            ⟨(some 49), (some (43, true)), .inl (.bin .eql (.t 48) (.c (.int .i64 64)))⟩,
            ⟨(some 50), none, .inl (.pick (.t 43) (.t 49) (.c (.bool false)))⟩,
            ⟨(some 51), none, .inl (.mv (.t 50))⟩,
            ⟨(some 52), (some (51, true)), .inl (.mv (.t 5))⟩,
            ⟨(some 53), (some (51, true)), .inl (.bin .eql (.t 52) (.c (.int .i64 1)))⟩,
            ⟨(some 54), none, .inl (.pick (.t 51) (.t 53) (.c (.bool false)))⟩,
            ⟨(some 55), none, .inl (.mv (.t 54))⟩,
            ⟨(some 56), (some (55, true)), .inl (.mv (.t 7))⟩,
            ⟨(some 57), (some (55, true)), .inl (.bin .eql (.t 56) (.c (.int .i64 0)))⟩,
            ⟨(some 58), none, .inl (.pick (.t 55) (.t 57) (.c (.bool false)))⟩,
            ⟨(some 59), none, .inl (.mv (.t 58))⟩,
            ⟨(some 60), (some (59, true)), .inl (.mv (.t 6))⟩,
            ⟨(some 61), (some (59, true)), .inl (.b2s (.t 60))⟩,
            ⟨(some 62), (some (59, true)), .inl (.mv (.t 1))⟩,
            ⟨(some 63), (some (59, true)), .inl (.b2s (.t 62))⟩,
            ⟨(some 64), (some (59, true)), .inl (.bins .eql (.t 61) (.t 63))⟩,
            ⟨(some 65), none, .inl (.pick (.t 59) (.t 64) (.c (.bool false)))⟩,
            ⟨(some 66), none, .inl (.mv (.t 65))⟩,
            ⟨(some 67), (some (66, true)), .inl (.mv (.t 2))⟩,
            ⟨(some 68), (some (66, true)), .inr (.call 17 [(.c (.int .i64 2)), (.t 67)])⟩,
            ⟨(some 69), none, .inl (.pick (.t 66) (.t 68) (.c (.bool false)))⟩,
            ⟨(some 70), none, .inl (.mv (.t 69))⟩,
            ⟨(some 71), (some (70, true)), .inl (.mv (.t 2))⟩,
            ⟨(some 72), (some (70, true)), .inr (.call 17 [(.c (.int .i64 1)), (.t 71)])⟩,
            ⟨(some 73), (some (70, true)), .inl (.un .not (.t 72))⟩,
            ⟨(some 74), none, .inl (.pick (.t 70) (.t 73) (.c (.bool false)))⟩,
            ⟨(some 0), none, .inl (.mv (.t 74))⟩])
         (.keep [0]))
         (.ret)))))))
def fc_joistlaw04_small : FC := ⟨75, cmd_joistlaw04_small, [.t 0]⟩
theorem fc_joistlaw04_small_ok : compF Try.prog 8 [[], [1], [1], [1, 2, 3], [1, 2, 3, 5], [1, 2, 3, 5, 6, 7], [0]] = some fc_joistlaw04_small := by kernel_rfl
/-- joist/joistlaw01.Lent -/
abbrev F.joistlaw01_Lent : Nat := 9
def cmd_joistlaw01_Lent : Cmd :=
  .seq (.seq (.reg [⟨(some 2), none, .inl (.mv (.c .nils))⟩])
   (.keep [0]))
   (.seq (.seq (.reg [⟨(some 4), none, .inl (.mv (.t 0))⟩,
       ⟨(some 5), none, .inl (.len (.t 4))⟩,
       ⟨(some 6), none, .inl (.mv (.t 0))⟩,
       ⟨(some 7), none, .inl (.len (.t 6))⟩,
       ⟨(some 8), none, .inl (.bin .add (.t 7) (.c (.int .i64 1)))⟩,
       ⟨(some 9), none, .inr (.mksl 1 1 [(.int .u8 0)] (.t 5) (.t 8))⟩,
       ⟨(some 3), none, .inl (.mv (.t 9))⟩])
    (.keep [0, 3]))
    (.seq (.seq (.reg [⟨(some 10), none, .inl (.mv (.t 3))⟩,
        ⟨(some 11), none, .inl (.mv (.t 0))⟩,
        ⟨(some 12), none, .inr (.copy 1 (.t 10) (.t 11))⟩])
     (.keep [0, 3]))
     (.seq (.seq (.reg [⟨(some 13), none, .inl (.mv (.t 3))⟩,
         ⟨(some 14), none, .inl (.mv (.t 0))⟩,
         ⟨(some 15), none, .inl (.len (.t 14))⟩,
         ⟨(some 16), none, .inl (.bin .add (.t 15) (.c (.int .i64 1)))⟩,
         ⟨(some 17), none, .inl (.slice 1 (.t 13) none (some (.t 16)) none)⟩,
         ⟨(some 18), none, .inl (.mv (.t 0))⟩,
         ⟨(some 19), none, .inl (.len (.t 18))⟩,
         ⟨(some 20), none, .inl (.iaddr 1 (.t 17) (.t 19))⟩,
         ⟨none, none, .inr (.store 1 (.t 20) (.c (.int .u8 77)))⟩])
      (.keep [3]))
      (.seq (.seq (.reg [⟨(some 21), none, .inl (.mv (.t 3))⟩,
          ⟨(some 2), none, .inl (.mv (.t 21))⟩])
       (.keep [2]))
       (.ret)))))
def fc_joistlaw01_Lent : FC := ⟨22, cmd_joistlaw01_Lent, [.t 2]⟩
theorem fc_joistlaw01_Lent_ok : compF Try.prog 9 [[0], [0, 3], [0, 3], [3], [2]] = some fc_joistlaw01_Lent := by kernel_rfl
/-- joist/lines.Diff -/
abbrev F.lines_Diff : Nat := 10
def cmd_lines_Diff : Cmd :=
  .seq (.seq (.reg [⟨(some 4), none, .inl (.mv (.c .nils))⟩,
      ⟨(some 5), none, .inl (.mv (.c (.int .i64 0)))⟩])
   (.keep [0, 1]))
   (.seq (.seq (.seq (.reg [⟨(some 9), none, .inl (.mv (.t 0))⟩,
       ⟨(some 10), none, .inl (.len (.t 9))⟩,
       ⟨(some 11), none, .inl (.mv (.t 1))⟩,
       ⟨(some 12), none, .inl (.len (.t 11))⟩,
       ⟨(some 13), none, .inl (.bin .neq (.t 10) (.t 12))⟩,
       ⟨(some 14), none, .inl (.mv (.t 13))⟩,
       ⟨(some 15), (some (14, false)), .inl (.mv (.t 0))⟩,
       ⟨(some 16), (some (14, false)), .inl (.len (.t 15))⟩,
       ⟨(some 17), (some (14, false)), .inl (.bin .rem (.t 16) (.c (.int .i64 64)))⟩,
       ⟨(some 18), (some (14, false)), .inl (.bin .neq (.t 17) (.c (.int .i64 0)))⟩,
       ⟨(some 19), none, .inl (.pick (.t 14) (.c (.bool true)) (.t 18))⟩])
    (.keep [0, 1, 19]))
    (.cond (.t 19)
      (.seq (.seq (.reg [⟨(some 4), none, .inl (.mv (.c .nils))⟩,
          ⟨(some 5), none, .inl (.mv (.c (.int .i64 1)))⟩])
       (.keep [4, 5]))
       (.ret))
      (.skip)))
    (.seq (.seq (.reg [⟨(some 6), none, .inl (.mv (.c .nils))⟩])
     (.keep [0, 1, 6]))
     (.seq (.seq (.seq (.reg [⟨(some 20), none, .inl (.mv (.t 0))⟩,
         ⟨(some 21), none, .inl (.len (.t 20))⟩,
         ⟨(some 22), none, .inl (.bin .quo (.t 21) (.c (.int .i64 64)))⟩,
         ⟨(some 23), none, .inl (.mv (.c (.int .i64 0)))⟩])
      (.keep [0, 1, 6, 22, 23]))
      (.block 0 (.loop [0, 1, 6, 22, 23] (.seq (.seq (.reg [⟨(some 24), none, .inl (.bin .lss (.t 23) (.t 22))⟩])
       (.keep [0, 1, 6, 22, 23, 24]))
       (.seq (.cond (.t 24)
         (.skip)
         (.exit 0))
        (.seq (.block 1 (.seq (.seq (.reg [⟨(some 25), none, .inl (.mv (.t 23))⟩,
            ⟨(some 7), none, .inl (.mv (.t 25))⟩])
         (.keep [0, 1, 6, 7, 22, 23]))
         (.seq (.seq (.reg [⟨(some 26), none, .inl (.mv (.t 1))⟩,
             ⟨(some 27), none, .inl (.mv (.t 7))⟩,
             ⟨(some 28), none, .inr (.call 22 [(.t 26), (.t 27)])⟩,
             ⟨(some 8), none, .inl (.mv (.t 28))⟩])
          (.keep [0, 1, 6, 7, 8, 22, 23]))
          (.seq (.seq (.reg [⟨(some 29), none, .inl (.mv (.t 0))⟩,
              ⟨(some 30), none, .inl (.mv (.t 7))⟩,
              ⟨(some 31), none, .inr (.call 22 [(.t 29), (.t 30)])⟩,
              ⟨(some 32), none, .inl (.mv (.t 8))⟩,
              ⟨(some 33), none, .inr (.call 23 [(.t 31), (.t 32)])⟩,
              ⟨(some 34), none, .inl (.un .not (.t 33))⟩])
           (.keep [0, 1, 6, 7, 8, 22, 23, 34]))
           (.cond (.t 34)
             (.seq (.reg [⟨(some 35), none, .inl (.mv (.t 6))⟩,
                 ⟨(some 36), none, .inl (.mv (.t 7))⟩,
                 ⟨(some 37), none, .inl (.mv (.t 8))⟩,
                 ⟨(some 38), none, .inr (.call 24 [(.t 37)])⟩,
                 ⟨(some 39), none, .inl (.build [(.int .i64 0), .nils] [(0, 1, (.t 36)), (1, 1, (.t 38))])⟩,
                 ⟨(some 40), none, .inr (.bslice 2 [(.int .i64 0), .nils] 1 [(0, (.t 39))])⟩,
                 ⟨(some 41), none, .inr (.append 2 32 (.t 35) (.t 40))⟩,
                 ⟨(some 6), none, .inl (.mv (.t 41))⟩])
              (.keep [0, 1, 6, 22, 23]))
             (.skip))))))
         (.seq (.reg [⟨(some 42), none, .inl (.bin .add (.t 23) (.c (.int .i64 1)))⟩,
             ⟨(some 23), none, .inl (.mv (.t 42))⟩])
          (.keep [0, 1, 6, 22, 23]))))))))
      (.seq (.seq (.reg [⟨(some 43), none, .inl (.mv (.t 6))⟩,
          ⟨(some 4), none, .inl (.mv (.t 43))⟩,
          ⟨(some 5), none, .inl (.mv (.c (.int .i64 0)))⟩])
       (.keep [4, 5]))
       (.ret)))))
def fc_lines_Diff : FC := ⟨44, cmd_lines_Diff, [.t 4, .t 5]⟩
theorem fc_lines_Diff_ok : compF Try.prog 10 [[0, 1], [0, 1, 19], [4, 5], [0, 1, 6], [0, 1, 6, 22, 23], [0, 1, 6, 22, 23], [0, 1, 6, 22, 23, 24], [0, 1, 6, 7, 22, 23], [0, 1, 6, 7, 8, 22, 23], [0, 1, 6, 7, 8, 22, 23, 34], [0, 1, 6, 22, 23], [0, 1, 6, 22, 23], [4, 5]] = some fc_lines_Diff := by kernel_rfl
/-- joist/joistlaw01.Kept -/
abbrev F.joistlaw01_Kept : Nat := 11
def cmd_joistlaw01_Kept : Cmd :=
  .seq (.seq (.reg [⟨(some 4), none, .inl (.mv (.c (.bool false)))⟩])
   (.keep [0, 1]))
   (.seq (.seq (.reg [⟨(some 5), none, .inl (.mv (.t 0))⟩,
       ⟨(some 6), none, .inl (.b2s (.t 5))⟩,
       ⟨(some 7), none, .inl (.mv (.t 1))⟩,
       ⟨(some 8), none, .inl (.b2s (.t 7))⟩,
       ⟨(some 9), none, .inl (.bins .eql (.t 6) (.t 8))⟩,
       ⟨(some 10), none, .inl (.mv (.t 9))⟩,
       ⟨(some 11), (some (10, true)), .inl (.mv (.t 0))⟩,
       ⟨(some 12), (some (10, true)), .inl (.mv (.t 1))⟩,
       ⟨(some 13), (some (10, true)), .inl (.len (.t 12))⟩,
       ⟨(some 14), (some (10, true)), .inl (.bin .add (.t 13) (.c (.int .i64 1)))⟩,
       ⟨(some 15), (some (10, true)), .inl (.slice 1 (.t 11) none (some (.t 14)) none)⟩,
       ⟨(some 16), (some (10, true)), .inl (.mv (.t 1))⟩,
       ⟨(some 17), (some (10, true)), .inl (.len (.t 16))⟩,
       ⟨(some 18), (some (10, true)), .inl (.iaddr 1 (.t 15) (.t 17))⟩,
       ⟨(some 19), (some (10, true)), .inl (.load false 1 (.t 18))⟩,
       ⟨(some 20), (some (10, true)), .inl (.bin .eql (.t 19) (.c (.int .u8 77)))⟩,
       ⟨(some 21), none, .inl (.pick (.t 10) (.t 20) (.c (.bool false)))⟩,
       ⟨(some 4), none, .inl (.mv (.t 21))⟩])
    (.keep [4]))
    (.ret))
def fc_joistlaw01_Kept : FC := ⟨22, cmd_joistlaw01_Kept, [.t 4]⟩
theorem fc_joistlaw01_Kept_ok : compF Try.prog 11 [[0, 1], [4]] = some fc_joistlaw01_Kept := by kernel_rfl
/-- joist/joistlaw01.Owned -/
abbrev F.joistlaw01_Owned : Nat := 12
def cmd_joistlaw01_Owned : Cmd :=
  .seq (.seq (.reg [⟨(some 2), none, .inl (.mv (.c (.bool false)))⟩])
   (.keep [0]))
   (.seq (.seq (.seq (.reg [⟨(some 3), none, .inl (.mv (.c (.int .i64 0)))⟩])
    (.keep [0, 3]))
    (.block 0 (.loop [0, 3] (.seq (.seq (.seq (.reg [⟨(some 9), none, .inl (.mv (.t 3))⟩,
        ⟨(some 10), none, .inl (.mv (.t 0))⟩,
        ⟨(some 11), none, .inl (.len (.t 10))⟩,
        ⟨(some 12), none, .inl (.bin .lss (.t 9) (.t 11))⟩])
     (.keep [0, 3, 12]))
     (.cond (.t 12)
       (.skip)
       (.exit 0)))
     (.seq (.block 1 (.seq (.seq (.ord [⟨0, ⟨(some 15), none, .inl (.mv (.t 0))⟩, [], false⟩,
         ⟨1, ⟨(some 16), none, .inl (.mv (.t 3))⟩, [], false⟩,
         ⟨2, ⟨(some 17), none, .inl (.iaddr 1 (.t 15) (.t 16))⟩, [], false⟩,
         ⟨3, ⟨(some 18), none, .inl (.load false 1 (.t 17))⟩, [], false⟩,
         ⟨4, ⟨(some 19), none, .inl (.mv (.t 0))⟩, [], false⟩,
         ⟨5, ⟨(some 20), none, .inl (.mv (.t 3))⟩, [], false⟩,
         ⟨6, ⟨(some 21), none, .inl (.iaddr 1 (.t 19) (.t 20))⟩, [], false⟩,
         ⟨7, ⟨(some 22), none, .inl (.load false 1 (.t 21))⟩, [], false⟩,
         ⟨8, ⟨(some 23), none, .inl (.cap (.t 22))⟩, [], false⟩,
         ⟨9, ⟨(some 24), none, .inl (.slice 1 (.t 18) none (some (.t 23)) none)⟩, [], false⟩,
         ⟨10, ⟨(some 4), none, .inl (.mv (.t 24))⟩, [], false⟩])
      (.keep [0, 3, 4]))
      (.seq (.seq (.reg [⟨(some 5), none, .inl (.mv (.c (.int .i64 0)))⟩])
       (.keep [0, 3, 4, 5]))
       (.block 2 (.loop [0, 3, 4, 5] (.seq (.seq (.seq (.reg [⟨(some 25), none, .inl (.mv (.t 5))⟩,
           ⟨(some 26), none, .inl (.mv (.t 4))⟩,
           ⟨(some 27), none, .inl (.len (.t 26))⟩,
           ⟨(some 28), none, .inl (.bin .lss (.t 25) (.t 27))⟩])
        (.keep [0, 3, 4, 5, 28]))
        (.cond (.t 28)
          (.skip)
          (.exit 2)))
        (.seq (.block 3 (.seq (.reg [⟨(some 31), none, .inl (.mv (.t 4))⟩,
            ⟨(some 32), none, .inl (.mv (.t 5))⟩,
            ⟨(some 33), none, .inl (.mv (.t 3))⟩,
            ⟨(some 34), none, .inl (.bin .add (.t 33) (.c (.int .i64 1)))⟩,
            ⟨(some 35), none, .inl (.conv .u8 (.t 34))⟩,
            ⟨(some 36), none, .inl (.iaddr 1 (.t 31) (.t 32))⟩,
            ⟨none, none, .inr (.store 1 (.t 36) (.t 35))⟩])
         (.keep [0, 3, 4, 5])))
         (.seq (.reg [⟨(some 29), none, .inl (.mv (.t 5))⟩,
             ⟨(some 30), none, .inl (.bin .add (.t 29) (.c (.int .i64 1)))⟩,
             ⟨(some 5), none, .inl (.mv (.t 30))⟩])
          (.keep [0, 3, 4, 5])))))))))
      (.seq (.reg [⟨(some 13), none, .inl (.mv (.t 3))⟩,
          ⟨(some 14), none, .inl (.bin .add (.t 13) (.c (.int .i64 1)))⟩,
          ⟨(some 3), none, .inl (.mv (.t 14))⟩])
       (.keep [0, 3])))))))
    (.seq (.seq (.seq (.reg [⟨(some 6), none, .inl (.mv (.c (.int .i64 0)))⟩])
     (.keep [0, 6]))
     (.block 4 (.loop [0, 6] (.seq (.seq (.seq (.reg [⟨(some 37), none, .inl (.mv (.t 6))⟩,
         ⟨(some 38), none, .inl (.mv (.t 0))⟩,
         ⟨(some 39), none, .inl (.len (.t 38))⟩,
         ⟨(some 40), none, .inl (.bin .lss (.t 37) (.t 39))⟩])
      (.keep [0, 6, 40]))
      (.cond (.t 40)
        (.skip)
        (.exit 4)))
      (.seq (.block 5 (.seq (.seq (.ord [⟨0, ⟨(some 43), none, .inl (.mv (.t 0))⟩, [], false⟩,
          ⟨1, ⟨(some 44), none, .inl (.mv (.t 6))⟩, [], false⟩,
          ⟨2, ⟨(some 45), none, .inl (.iaddr 1 (.t 43) (.t 44))⟩, [], false⟩,
          ⟨3, ⟨(some 46), none, .inl (.load false 1 (.t 45))⟩, [], false⟩,
          ⟨4, ⟨(some 47), none, .inl (.mv (.t 0))⟩, [], false⟩,
          ⟨5, ⟨(some 48), none, .inl (.mv (.t 6))⟩, [], false⟩,
          ⟨6, ⟨(some 49), none, .inl (.iaddr 1 (.t 47) (.t 48))⟩, [], false⟩,
          ⟨7, ⟨(some 50), none, .inl (.load false 1 (.t 49))⟩, [], false⟩,
          ⟨8, ⟨(some 51), none, .inl (.cap (.t 50))⟩, [], false⟩,
          ⟨9, ⟨(some 52), none, .inl (.slice 1 (.t 46) none (some (.t 51)) none)⟩, [], false⟩,
          ⟨10, ⟨(some 7), none, .inl (.mv (.t 52))⟩, [], false⟩])
       (.keep [0, 6, 7]))
       (.seq (.seq (.reg [⟨(some 8), none, .inl (.mv (.c (.int .i64 0)))⟩])
        (.keep [0, 6, 7, 8]))
        (.block 6 (.loop [0, 6, 7, 8] (.seq (.seq (.seq (.reg [⟨(some 53), none, .inl (.mv (.t 8))⟩,
            ⟨(some 54), none, .inl (.mv (.t 7))⟩,
            ⟨(some 55), none, .inl (.len (.t 54))⟩,
            ⟨(some 56), none, .inl (.bin .lss (.t 53) (.t 55))⟩])
         (.keep [0, 6, 7, 8, 56]))
         (.cond (.t 56)
           (.skip)
           (.exit 6)))
         (.seq (.block 7 (.seq (.seq (.reg [⟨(some 59), none, .inl (.mv (.t 7))⟩,
             ⟨(some 60), none, .inl (.mv (.t 8))⟩,
             ⟨(some 61), none, .inl (.iaddr 1 (.t 59) (.t 60))⟩,
             ⟨(some 62), none, .inl (.load false 1 (.t 61))⟩,
             ⟨(some 63), none, .inl (.mv (.t 6))⟩,
             ⟨(some 64), none, .inl (.bin .add (.t 63) (.c (.int .i64 1)))⟩,
             ⟨(some 65), none, .inl (.conv .u8 (.t 64))⟩,
             ⟨(some 66), none, .inl (.bin .neq (.t 62) (.t 65))⟩])
          (.keep [0, 6, 7, 8, 66]))
          (.cond (.t 66)
            (.seq (.seq (.reg [⟨(some 2), none, .inl (.mv (.c (.bool false)))⟩])
             (.keep [2]))
             (.ret))
            (.skip))))
          (.seq (.reg [⟨(some 57), none, .inl (.mv (.t 8))⟩,
              ⟨(some 58), none, .inl (.bin .add (.t 57) (.c (.int .i64 1)))⟩,
              ⟨(some 8), none, .inl (.mv (.t 58))⟩])
           (.keep [0, 6, 7, 8])))))))))
       (.seq (.reg [⟨(some 41), none, .inl (.mv (.t 6))⟩,
           ⟨(some 42), none, .inl (.bin .add (.t 41) (.c (.int .i64 1)))⟩,
           ⟨(some 6), none, .inl (.mv (.t 42))⟩])
        (.keep [0, 6])))))))
     (.seq (.seq (.reg [⟨(some 2), none, .inl (.mv (.c (.bool true)))⟩])
      (.keep [2]))
      (.ret))))
def fc_joistlaw01_Owned : FC := ⟨67, cmd_joistlaw01_Owned, [.t 2]⟩
theorem fc_joistlaw01_Owned_ok : compF Try.prog 12 [[0], [0, 3], [0, 3], [0, 3, 12], [0, 3, 4], [0, 1, 2, 3, 4, 5, 6, 7, 8, 9, 10], [0, 3, 4, 5], [0, 3, 4, 5], [0, 3, 4, 5, 28], [0, 3, 4, 5], [0, 3, 4, 5], [0, 3], [0, 6], [0, 6], [0, 6, 40], [0, 6, 7], [0, 1, 2, 3, 4, 5, 6, 7, 8, 9, 10], [0, 6, 7, 8], [0, 6, 7, 8], [0, 6, 7, 8, 56], [0, 6, 7, 8, 66], [2], [0, 6, 7, 8], [0, 6], [2]] = some fc_joistlaw01_Owned := by kernel_rfl
/-- joist/joistref04.Diff -/
abbrev F.joistref04_Diff : Nat := 13
def cmd_joistref04_Diff : Cmd :=
  .seq (.seq (.reg [⟨(some 4), none, .inl (.mv (.c .nils))⟩,
      ⟨(some 5), none, .inl (.mv (.c (.int .i64 0)))⟩])
   (.keep [0, 1]))
   (.seq (.seq (.seq (.reg [⟨(some 10), none, .inl (.mv (.t 0))⟩,
       ⟨(some 11), none, .inl (.len (.t 10))⟩,
       ⟨(some 12), none, .inl (.mv (.t 1))⟩,
       ⟨(some 13), none, .inl (.len (.t 12))⟩,
       ⟨(some 14), none, .inl (.bin .neq (.t 11) (.t 13))⟩,
       ⟨(some 15), none, .inl (.mv (.t 14))⟩,
       ⟨(some 16), (some (15, false)), .inl (.mv (.t 0))⟩,
       ⟨(some 17), (some (15, false)), .inl (.len (.t 16))⟩,
       ⟨(some 18), (some (15, false)), .inl (.bin .rem (.t 17) (.c (.int .i64 64)))⟩,
       ⟨(some 19), (some (15, false)), .inl (.bin .neq (.t 18) (.c (.int .i64 0)))⟩,
       ⟨(some 20), none, .inl (.pick (.t 15) (.c (.bool true)) (.t 19))⟩])
    (.keep [0, 1, 20]))
    (.cond (.t 20)
      (.seq (.seq (.reg [⟨(some 4), none, .inl (.mv (.c .nils))⟩,
          ⟨(some 5), none, .inl (.mv (.c (.int .i64 1)))⟩])
       (.keep [4, 5]))
       (.ret))
      (.skip)))
    (.seq (.seq (.reg [⟨(some 6), none, .inl (.mv (.c .nils))⟩])
     (.keep [0, 1, 6]))
     (.seq (.seq (.seq (.reg [⟨(some 7), none, .inl (.mv (.c (.int .i64 0)))⟩])
      (.keep [0, 1, 6, 7]))
      (.block 0 (.loop [0, 1, 6, 7] (.seq (.seq (.seq (.reg [⟨(some 21), none, .inl (.mv (.t 7))⟩,
          ⟨(some 22), none, .inl (.mv (.t 0))⟩,
          ⟨(some 23), none, .inl (.len (.t 22))⟩,
          ⟨(some 24), none, .inl (.bin .quo (.t 23) (.c (.int .i64 64)))⟩,
          ⟨(some 25), none, .inl (.bin .lss (.t 21) (.t 24))⟩])
       (.keep [0, 1, 6, 7, 25]))
       (.cond (.t 25)
         (.skip)
         (.exit 0)))
       (.seq (.block 1 (.seq (.seq (.reg [⟨(some 28), none, .inl (.mv (.t 0))⟩,
           ⟨(some 29), none, .inl (.mv (.t 7))⟩,
           ⟨(some 30), none, .inl (.bin .mul (.c (.int .i64 64)) (.t 29))⟩,
           ⟨(some 31), none, .inl (.mv (.t 7))⟩,
           ⟨(some 32), none, .inl (.bin .add (.t 31) (.c (.int .i64 1)))⟩,
           ⟨(some 33), none, .inl (.bin .mul (.c (.int .i64 64)) (.t 32))⟩,
           ⟨(some 34), none, .inl (.slice 1 (.t 28) (some (.t 30)) (some (.t 33)) none)⟩,
           ⟨(some 8), none, .inl (.mv (.t 34))⟩])
        (.keep [0, 1, 6, 7, 8]))
        (.seq (.seq (.reg [⟨(some 35), none, .inl (.mv (.t 1))⟩,
            ⟨(some 36), none, .inl (.mv (.t 7))⟩,
            ⟨(some 37), none, .inl (.bin .mul (.c (.int .i64 64)) (.t 36))⟩,
            ⟨(some 38), none, .inl (.mv (.t 7))⟩,
            ⟨(some 39), none, .inl (.bin .add (.t 38) (.c (.int .i64 1)))⟩,
            ⟨(some 40), none, .inl (.bin .mul (.c (.int .i64 64)) (.t 39))⟩,
            ⟨(some 41), none, .inl (.slice 1 (.t 35) (some (.t 37)) (some (.t 40)) none)⟩,
            ⟨(some 9), none, .inl (.mv (.t 41))⟩])
         (.keep [0, 1, 6, 7, 8, 9]))
         (.seq (.seq (.reg [⟨(some 42), none, .inl (.mv (.t 8))⟩,
             ⟨(some 43), none, .inl (.b2s (.t 42))⟩,
             ⟨(some 44), none, .inl (.mv (.t 9))⟩,
             ⟨(some 45), none, .inl (.b2s (.t 44))⟩,
             ⟨(some 46), none, .inl (.bins .neq (.t 43) (.t 45))⟩])
          (.keep [0, 1, 6, 7, 9, 46]))
          (.cond (.t 46)
            (.seq (.reg [⟨(some 47), none, .inl (.mv (.t 6))⟩,
                ⟨(some 48), none, .inl (.mv (.t 7))⟩,
                ⟨(some 49), none, .inr (.bslice 1 [(.int .u8 0)] 0 [])⟩,
                ⟨(some 50), none, .inl (.mv (.t 9))⟩,
                ⟨(some 51), none, .inr (.append 1 1 (.t 49) (.t 50))⟩,
                ⟨(some 52), none, .inl (.build [(.int .i64 0), .nils] [(0, 1, (.t 48)), (1, 1, (.t 51))])⟩,
                ⟨(some 53), none, .inr (.bslice 2 [(.int .i64 0), .nils] 1 [(0, (.t 52))])⟩,
                ⟨(some 54), none, .inr (.append 2 32 (.t 47) (.t 53))⟩,
                ⟨(some 6), none, .inl (.mv (.t 54))⟩])
             (.keep [0, 1, 6, 7]))
            (.skip))))))
        (.seq (.reg [⟨(some 26), none, .inl (.mv (.t 7))⟩,
            ⟨(some 27), none, .inl (.bin .add (.t 26) (.c (.int .i64 1)))⟩,
            ⟨(some 7), none, .inl (.mv (.t 27))⟩])
         (.keep [0, 1, 6, 7])))))))
      (.seq (.seq (.reg [⟨(some 55), none, .inl (.mv (.t 6))⟩,
          ⟨(some 4), none, .inl (.mv (.t 55))⟩,
          ⟨(some 5), none, .inl (.mv (.c (.int .i64 0)))⟩])
       (.keep [4, 5]))
       (.ret)))))
def fc_joistref04_Diff : FC := ⟨56, cmd_joistref04_Diff, [.t 4, .t 5]⟩
theorem fc_joistref04_Diff_ok : compF Try.prog 13 [[0, 1], [0, 1, 20], [4, 5], [0, 1, 6], [0, 1, 6, 7], [0, 1, 6, 7], [0, 1, 6, 7, 25], [0, 1, 6, 7, 8], [0, 1, 6, 7, 8, 9], [0, 1, 6, 7, 9, 46], [0, 1, 6, 7], [0, 1, 6, 7], [4, 5]] = some fc_joistref04_Diff := by kernel_rfl
/-- joist/joistref04.Same -/
abbrev F.joistref04_Same : Nat := 14
def cmd_joistref04_Same : Cmd :=
  .seq (.seq (.reg [⟨(some 4), none, .inl (.mv (.c (.bool false)))⟩])
   (.keep [0, 1]))
   (.seq (.seq (.seq (.reg [⟨(some 6), none, .inl (.mv (.t 0))⟩,
       ⟨(some 7), none, .inl (.len (.t 6))⟩,
       ⟨(some 8), none, .inl (.mv (.t 1))⟩,
       ⟨(some 9), none, .inl (.len (.t 8))⟩,
       ⟨(some 10), none, .inl (.bin .neq (.t 7) (.t 9))⟩])
    (.keep [0, 1, 10]))
    (.cond (.t 10)
      (.seq (.seq (.reg [⟨(some 4), none, .inl (.mv (.c (.bool false)))⟩])
       (.keep [4]))
       (.ret))
      (.skip)))
    (.seq (.seq (.seq (.reg [⟨(some 5), none, .inl (.mv (.c (.int .i64 0)))⟩])
     (.keep [0, 1, 5]))
     (.block 0 (.loop [0, 1, 5] (.seq (.seq (.seq (.reg [⟨(some 11), none, .inl (.mv (.t 5))⟩,
         ⟨(some 12), none, .inl (.mv (.t 0))⟩,
         ⟨(some 13), none, .inl (.len (.t 12))⟩,
         ⟨(some 14), none, .inl (.bin .lss (.t 11) (.t 13))⟩])
      (.keep [0, 1, 5, 14]))
      (.cond (.t 14)
        (.skip)
        (.exit 0)))
      (.seq (.block 1 (.seq (.seq (.ord [⟨0, ⟨(some 17), none, .inl (.mv (.t 0))⟩, [], false⟩,
          ⟨1, ⟨(some 18), none, .inl (.mv (.t 5))⟩, [], false⟩,
          ⟨2, ⟨(some 19), none, .inl (.iaddr 2 (.t 17) (.t 18))⟩, [], false⟩,
          ⟨3, ⟨(some 20), none, .inl (.faddr 0 (.t 19))⟩, [], false⟩,
          ⟨4, ⟨(some 21), none, .inl (.load false 1 (.t 20))⟩, [], false⟩,
          ⟨5, ⟨(some 22), none, .inl (.mv (.t 1))⟩, [], false⟩,
          ⟨6, ⟨(some 23), none, .inl (.mv (.t 5))⟩, [], false⟩,
          ⟨7, ⟨(some 24), none, .inl (.iaddr 2 (.t 22) (.t 23))⟩, [], false⟩,
          ⟨8, ⟨(some 25), none, .inl (.faddr 0 (.t 24))⟩, [], false⟩,
          ⟨9, ⟨(some 26), none, .inl (.load false 1 (.t 25))⟩, [], false⟩,
          ⟨10, ⟨(some 27), none, .inl (.bin .neq (.t 21) (.t 26))⟩, [], false⟩,
          ⟨11, ⟨(some 28), none, .inl (.mv (.t 27))⟩, [], false⟩,
          ⟨12, ⟨(some 29), (some (28, false)), .inl (.mv (.t 0))⟩, [], false⟩,
          ⟨13, ⟨(some 30), (some (28, false)), .inl (.mv (.t 5))⟩, [], false⟩,
          ⟨14, ⟨(some 31), (some (28, false)), .inl (.iaddr 2 (.t 29) (.t 30))⟩, [], false⟩,
          ⟨15, ⟨(some 32), (some (28, false)), .inl (.faddr 1 (.t 31))⟩, [], false⟩,
          ⟨16, ⟨(some 33), (some (28, false)), .inl (.load false 1 (.t 32))⟩, [], false⟩,
          ⟨17, ⟨(some 34), (some (28, false)), .inl (.b2s (.t 33))⟩, [], false⟩,
          ⟨18, ⟨(some 35), (some (28, false)), .inl (.mv (.t 1))⟩, [], false⟩,
          ⟨19, ⟨(some 36), (some (28, false)), .inl (.mv (.t 5))⟩, [], false⟩,
          ⟨20, ⟨(some 37), (some (28, false)), .inl (.iaddr 2 (.t 35) (.t 36))⟩, [], false⟩,
          ⟨21, ⟨(some 38), (some (28, false)), .inl (.faddr 1 (.t 37))⟩, [], false⟩,
          ⟨22, ⟨(some 39), (some (28, false)), .inl (.load false 1 (.t 38))⟩, [], false⟩,
          ⟨23, ⟨(some 40), (some (28, false)), .inl (.b2s (.t 39))⟩, [], false⟩,
          ⟨24, ⟨(some 41), (some (28, false)), .inl (.bins .neq (.t 34) (.t 40))⟩, [], false⟩,
          ⟨25, ⟨(some 42), none, .inl (.pick (.t 28) (.c (.bool true)) (.t 41))⟩, [], false⟩])
       (.keep [0, 1, 5, 42]))
       (.cond (.t 42)
         (.seq (.seq (.reg [⟨(some 4), none, .inl (.mv (.c (.bool false)))⟩])
          (.keep [4]))
          (.ret))
         (.skip))))
       (.seq (.reg [⟨(some 15), none, .inl (.mv (.t 5))⟩,
           ⟨(some 16), none, .inl (.bin .add (.t 15) (.c (.int .i64 1)))⟩,
           ⟨(some 5), none, .inl (.mv (.t 16))⟩])
        (.keep [0, 1, 5])))))))
     (.seq (.seq (.reg [⟨(some 4), none, .inl (.mv (.c (.bool true)))⟩])
      (.keep [4]))
      (.ret))))
def fc_joistref04_Same : FC := ⟨43, cmd_joistref04_Same, [.t 4]⟩
theorem fc_joistref04_Same_ok : compF Try.prog 14 [[0, 1], [0, 1, 10], [4], [0, 1, 5], [0, 1, 5], [0, 1, 5, 14], [0, 1, 5, 42], [0, 1, 2, 3, 4, 5, 6, 7, 8, 9, 10, 11, 12, 13, 14, 15, 16, 17, 18, 19, 20, 21, 22, 23, 24, 25], [4], [0, 1, 5], [4]] = some fc_joistref04_Same := by kernel_rfl
/-- joist/joistlaw04.Spoil -/
abbrev F.joistlaw04_Spoil : Nat := 15
def cmd_joistlaw04_Spoil : Cmd :=
  .seq (.seq (.reg [⟨(some 2), none, .inl (.mv (.c (.int .i64 0)))⟩])
   (.keep [0, 2]))
   (.block 0 (.loop [0, 2] (.seq (.seq (.seq (.reg [⟨(some 3), none, .inl (.mv (.t 2))⟩,
       ⟨(some 4), none, .inl (.mv (.t 0))⟩,
       ⟨(some 5), none, .inl (.len (.t 4))⟩,
       ⟨(some 6), none, .inl (.bin .lss (.t 3) (.t 5))⟩])
    (.keep [0, 2, 6]))
    (.cond (.t 6)
      (.skip)
      (.exit 0)))
    (.seq (.block 1 (.seq (.seq (.reg [⟨(some 9), none, .inl (.mv (.t 0))⟩,
        ⟨(some 10), none, .inl (.mv (.t 2))⟩,
        ⟨(some 11), none, .inl (.iaddr 2 (.t 9) (.t 10))⟩,
        ⟨(some 12), none, .inl (.faddr 1 (.t 11))⟩,
        ⟨(some 13), none, .inl (.load false 1 (.t 12))⟩,
        ⟨(some 14), none, .inr (.bslice 1 [.nils] 1 [(0, (.t 13))])⟩,
        ⟨(some 15), none, .inr (.call 12 [(.t 14)])⟩])
     (.keep [0, 2]))
     (.seq (.reg [⟨(some 16), none, .inl (.mv (.t 0))⟩,
         ⟨(some 17), none, .inl (.mv (.t 2))⟩,
         ⟨(some 18), none, .inl (.iaddr 2 (.t 16) (.t 17))⟩,
         ⟨(some 19), none, .inl (.faddr 0 (.t 18))⟩,
         ⟨none, none, .inr (.store 1 (.t 19) (.c (.int .i64 (-7))))⟩])
      (.keep [0, 2]))))
     (.seq (.reg [⟨(some 7), none, .inl (.mv (.t 2))⟩,
         ⟨(some 8), none, .inl (.bin .add (.t 7) (.c (.int .i64 1)))⟩,
         ⟨(some 2), none, .inl (.mv (.t 8))⟩])
      (.keep [0, 2]))))))
def fc_joistlaw04_Spoil : FC := ⟨20, cmd_joistlaw04_Spoil, []⟩
theorem fc_joistlaw04_Spoil_ok : compF Try.prog 15 [[0, 2], [0, 2], [0, 2, 6], [0, 2], [0, 2], [0, 2]] = some fc_joistlaw04_Spoil := by kernel_rfl
/-- joist/lines.Apply -/
abbrev F.lines_Apply : Nat := 16
def cmd_lines_Apply : Cmd :=
  .seq (.seq (.reg [⟨(some 4), none, .inl (.mv (.c .nils))⟩,
      ⟨(some 5), none, .inl (.mv (.c (.int .i64 0)))⟩])
   (.keep [0, 1]))
   (.seq (.seq (.seq (.reg [⟨(some 9), none, .inl (.mv (.t 0))⟩,
       ⟨(some 10), none, .inl (.len (.t 9))⟩,
       ⟨(some 11), none, .inl (.bin .rem (.t 10) (.c (.int .i64 64)))⟩,
       ⟨(some 12), none, .inl (.bin .neq (.t 11) (.c (.int .i64 0)))⟩])
    (.keep [0, 1, 12]))
    (.cond (.t 12)
      (.seq (.seq (.reg [⟨(some 4), none, .inl (.mv (.c .nils))⟩,
          ⟨(some 5), none, .inl (.mv (.c (.int .i64 1)))⟩])
       (.keep [4, 5]))
       (.ret))
      (.skip)))
    (.seq (.seq (.reg [⟨(some 13), none, .inl (.mv (.t 0))⟩,
        ⟨(some 14), none, .inr (.call 24 [(.t 13)])⟩,
        ⟨(some 6), none, .inl (.mv (.t 14))⟩])
     (.keep [0, 1, 6]))
     (.seq (.seq (.seq (.reg [⟨(some 15), none, .inl (.mv (.t 1))⟩,
         ⟨(some 16), none, .inl (.len (.t 15))⟩,
         ⟨(some 17), none, .inl (.mv (.c (.int .i64 0)))⟩])
      (.keep [0, 6, 15, 16, 17]))
      (.block 0 (.loop [0, 6, 15, 16, 17] (.seq (.seq (.reg [⟨(some 18), none, .inl (.bin .lss (.t 17) (.t 16))⟩])
       (.keep [0, 6, 15, 16, 17, 18]))
       (.seq (.cond (.t 18)
         (.skip)
         (.exit 0))
        (.seq (.block 1 (.seq (.seq (.reg [⟨(some 19), none, .inl (.iaddr 2 (.t 15) (.t 17))⟩,
            ⟨(some 20), none, .inl (.load true 2 (.t 19))⟩,
            ⟨(some 8), none, .inr (.alloc [(.int .i64 0), .nils])⟩,
            ⟨none, none, .inr (.store 2 (.t 8) (.t 20))⟩])
         (.keep [0, 6, 8, 15, 16, 17]))
         (.seq (.seq (.seq (.reg [⟨(some 21), none, .inl (.mv (.t 0))⟩,
             ⟨(some 22), none, .inl (.len (.t 21))⟩,
             ⟨(some 23), none, .inl (.bin .quo (.t 22) (.c (.int .i64 64)))⟩,
             ⟨(some 24), none, .inl (.load true 2 (.t 8))⟩,
             ⟨(some 25), none, .inr (.call 25 [(.t 23), (.t 24)])⟩,
             ⟨(some 26), none, .inl (.un .not (.t 25))⟩])
          (.keep [0, 6, 8, 15, 16, 17, 26]))
          (.cond (.t 26)
            (.seq (.seq (.reg [⟨(some 4), none, .inl (.mv (.c .nils))⟩,
                ⟨(some 5), none, .inl (.mv (.c (.int .i64 1)))⟩])
             (.keep [4, 5]))
             (.ret))
            (.skip)))
          (.seq (.ord [⟨0, ⟨(some 27), none, .inl (.mv (.t 6))⟩, [], false⟩,
              ⟨1, ⟨(some 28), none, .inl (.faddr 0 (.t 8))⟩, [], false⟩,
              ⟨2, ⟨(some 29), none, .inl (.load false 1 (.t 28))⟩, [], false⟩,
              ⟨4, ⟨(some 31), none, .inl (.faddr 1 (.t 8))⟩, [], true⟩,
              ⟨5, ⟨(some 32), none, .inl (.load false 1 (.t 31))⟩, [], true⟩,
              ⟨3, ⟨(some 30), none, .inr (.call 22 [(.t 27), (.t 29)])⟩, [4, 5], false⟩,
              ⟨6, ⟨(some 33), none, .inr (.copy 1 (.t 30) (.t 32))⟩, [], false⟩])
           (.keep [0, 6, 15, 16, 17])))))
         (.seq (.reg [⟨(some 34), none, .inl (.bin .add (.t 17) (.c (.int .i64 1)))⟩,
             ⟨(some 17), none, .inl (.mv (.t 34))⟩])
          (.keep [0, 6, 15, 16, 17]))))))))
      (.seq (.seq (.reg [⟨(some 35), none, .inl (.mv (.t 6))⟩,
          ⟨(some 4), none, .inl (.mv (.t 35))⟩,
          ⟨(some 5), none, .inl (.mv (.c (.int .i64 0)))⟩])
       (.keep [4, 5]))
       (.ret)))))
def fc_lines_Apply : FC := ⟨36, cmd_lines_Apply, [.t 4, .t 5]⟩
theorem fc_lines_Apply_ok : compF Try.prog 16 [[0, 1], [0, 1, 12], [4, 5], [0, 1, 6], [0, 6, 15, 16, 17], [0, 6, 15, 16, 17], [0, 6, 15, 16, 17, 18], [0, 6, 8, 15, 16, 17], [0, 6, 8, 15, 16, 17, 26], [4, 5], [0, 6, 15, 16, 17], [0, 1, 2, 4, 5, 3, 6], [0, 6, 15, 16, 17], [4, 5]] = some fc_lines_Apply := by kernel_rfl
/-- joist/lines.Right -/
abbrev F.lines_Right : Nat := 17
def cmd_lines_Right : Cmd :=
  .seq (.seq (.reg [⟨(some 4), none, .inl (.mv (.c (.bool false)))⟩])
   (.keep [0, 1]))
   (.seq (.seq (.seq (.reg [⟨(some 7), none, .inl (.mv (.t 1))⟩,
       ⟨(some 8), none, .inl (.len (.t 7))⟩,
       ⟨(some 9), none, .inl (.mv (.c (.int .i64 0)))⟩])
    (.keep [0, 1, 7, 8, 9]))
    (.block 0 (.loop [0, 1, 7, 8, 9] (.seq (.seq (.reg [⟨(some 10), none, .inl (.bin .lss (.t 9) (.t 8))⟩])
     (.keep [0, 1, 7, 8, 9, 10]))
     (.seq (.cond (.t 10)
       (.skip)
       (.exit 0))
      (.seq (.block 1 (.seq (.seq (.reg [⟨(some 11), none, .inl (.mv (.t 9))⟩,
          ⟨(some 12), none, .inl (.iaddr 2 (.t 7) (.t 9))⟩,
          ⟨(some 13), none, .inl (.load true 2 (.t 12))⟩,
          ⟨(some 6), none, .inr (.alloc [(.int .i64 0), .nils])⟩,
          ⟨(some 5), none, .inl (.mv (.t 11))⟩,
          ⟨none, none, .inr (.store 2 (.t 6) (.t 13))⟩])
       (.keep [0, 1, 5, 6, 7, 8, 9]))
       (.seq (.seq (.ord [⟨0, ⟨(some 14), none, .inl (.mv (.t 0))⟩, [], false⟩,
           ⟨1, ⟨(some 15), none, .inl (.load true 2 (.t 6))⟩, [], false⟩,
           ⟨2, ⟨(some 16), none, .inr (.call 25 [(.t 14), (.t 15)])⟩, [], false⟩,
           ⟨3, ⟨(some 17), none, .inl (.un .not (.t 16))⟩, [], false⟩,
           ⟨4, ⟨(some 18), none, .inl (.mv (.t 17))⟩, [], false⟩,
           ⟨5, ⟨(some 19), (some (18, false)), .inl (.mv (.t 5))⟩, [], false⟩,
           ⟨6, ⟨(some 20), (some (18, false)), .inl (.bin .gtr (.t 19) (.c (.int .i64 0)))⟩, [], false⟩,
           ⟨7, ⟨(some 21), (some (18, false)), .inl (.mv (.t 20))⟩, [], false⟩,
           ⟨8, ⟨(some 22), (some (21, true)), .inl (.faddr 0 (.t 6))⟩, [], false⟩,
           ⟨9, ⟨(some 23), (some (21, true)), .inl (.load false 1 (.t 22))⟩, [], false⟩,
           ⟨10, ⟨(some 24), (some (21, true)), .inl (.mv (.t 1))⟩, [], false⟩,
           ⟨11, ⟨(some 25), (some (21, true)), .inl (.mv (.t 5))⟩, [], false⟩,
           ⟨12, ⟨(some 26), (some (21, true)), .inl (.bin .sub (.t 25) (.c (.int .i64 1)))⟩, [], false⟩,
           ⟨13, ⟨(some 27), (some (21, true)), .inl (.iaddr 2 (.t 24) (.t 26))⟩, [], false⟩,
           ⟨14, ⟨(some 28), (some (21, true)), .inl (.faddr 0 (.t 27))⟩, [], false⟩,
           ⟨15, ⟨(some 29), (some (21, true)), .inl (.load false 1 (.t 28))⟩, [], false⟩,
           ⟨16, ⟨(some 30), (some (21, true)), .inl (.bin .leq (.t 23) (.t 29))⟩, [], false⟩,
           ⟨17, ⟨(some 31), (some (18, false)), .inl (.pick (.t 21) (.t 30) (.c (.bool false)))⟩, [], false⟩,
           ⟨18, ⟨(some 32), none, .inl (.pick (.t 18) (.c (.bool true)) (.t 31))⟩, [], false⟩])
        (.keep [0, 1, 7, 8, 9, 32]))
        (.cond (.t 32)
          (.seq (.seq (.reg [⟨(some 4), none, .inl (.mv (.c (.bool false)))⟩])
           (.keep [4]))
           (.ret))
          (.skip)))))
       (.seq (.reg [⟨(some 33), none, .inl (.bin .add (.t 9) (.c (.int .i64 1)))⟩,
           ⟨(some 9), none, .inl (.mv (.t 33))⟩])
        (.keep [0, 1, 7, 8, 9]))))))))
    (.seq (.seq (.reg [⟨(some 4), none, .inl (.mv (.c (.bool true)))⟩])
     (.keep [4]))
     (.ret)))
def fc_lines_Right : FC := ⟨34, cmd_lines_Right, [.t 4]⟩
theorem fc_lines_Right_ok : compF Try.prog 17 [[0, 1], [0, 1, 7, 8, 9], [0, 1, 7, 8, 9], [0, 1, 7, 8, 9, 10], [0, 1, 5, 6, 7, 8, 9], [0, 1, 7, 8, 9, 32], [0, 1, 2, 3, 4, 5, 6, 7, 8, 9, 10, 11, 12, 13, 14, 15, 16, 17, 18], [4], [0, 1, 7, 8, 9], [4]] = some fc_lines_Right := by kernel_rfl
/-- joist/joistlaw04.Few -/
abbrev F.joistlaw04_Few : Nat := 18
def cmd_joistlaw04_Few : Cmd :=
  .seq (.seq (.reg [⟨(some 2), none, .inl (.mv (.c (.bool false)))⟩])
   (.keep [0]))
   (.seq (.seq (.seq (.reg [⟨(some 3), none, .inl (.mv (.c (.int .i64 0)))⟩])
    (.keep [0, 3]))
    (.block 0 (.loop [0, 3] (.seq (.seq (.seq (.reg [⟨(some 4), none, .inl (.mv (.t 3))⟩,
        ⟨(some 5), none, .inl (.mv (.t 0))⟩,
        ⟨(some 6), none, .inl (.len (.t 5))⟩,
        ⟨(some 7), none, .inl (.bin .lss (.t 4) (.t 6))⟩])
     (.keep [0, 3, 7]))
     (.cond (.t 7)
       (.skip)
       (.exit 0)))
     (.seq (.block 1 (.seq (.seq (.reg [⟨(some 10), none, .inl (.mv (.t 0))⟩,
         ⟨(some 11), none, .inl (.mv (.t 3))⟩,
         ⟨(some 12), none, .inl (.iaddr 2 (.t 10) (.t 11))⟩,
         ⟨(some 13), none, .inl (.faddr 1 (.t 12))⟩,
         ⟨(some 14), none, .inl (.load false 1 (.t 13))⟩,
         ⟨(some 15), none, .inl (.len (.t 14))⟩,
         ⟨(some 16), none, .inl (.bin .gtr (.t 15) (.c (.int .i64 1024)))⟩])
      (.keep [0, 3, 16]))
      (.cond (.t 16)
        (.seq (.seq (.reg [⟨(some 2), none, .inl (.mv (.c (.bool false)))⟩])
         (.keep [2]))
         (.ret))
        (.skip))))
      (.seq (.reg [⟨(some 8), none, .inl (.mv (.t 3))⟩,
          ⟨(some 9), none, .inl (.bin .add (.t 8) (.c (.int .i64 1)))⟩,
          ⟨(some 3), none, .inl (.mv (.t 9))⟩])
       (.keep [0, 3])))))))
    (.seq (.seq (.reg [⟨(some 17), none, .inl (.mv (.t 0))⟩,
        ⟨(some 18), none, .inl (.len (.t 17))⟩,
        ⟨(some 19), none, .inl (.bin .leq (.t 18) (.c (.int .i64 300)))⟩,
        ⟨(some 2), none, .inl (.mv (.t 19))⟩])
     (.keep [2]))
     (.ret)))
def fc_joistlaw04_Few : FC := ⟨20, cmd_joistlaw04_Few, [.t 2]⟩
theorem fc_joistlaw04_Few_ok : compF Try.prog 18 [[0], [0, 3], [0, 3], [0, 3, 7], [0, 3, 16], [2], [0, 3], [2]] = some fc_joistlaw04_Few := by kernel_rfl
/-- joist/joistref04.Apply -/
abbrev F.joistref04_Apply : Nat := 19
def cmd_joistref04_Apply : Cmd :=
  .seq (.seq (.reg [⟨(some 4), none, .inl (.mv (.c .nils))⟩,
      ⟨(some 5), none, .inl (.mv (.c (.int .i64 0)))⟩])
   (.keep [0, 1]))
   (.seq (.seq (.seq (.reg [⟨(some 9), none, .inl (.mv (.t 0))⟩,
       ⟨(some 10), none, .inl (.len (.t 9))⟩,
       ⟨(some 11), none, .inl (.bin .rem (.t 10) (.c (.int .i64 64)))⟩,
       ⟨(some 12), none, .inl (.bin .neq (.t 11) (.c (.int .i64 0)))⟩])
    (.keep [0, 1, 12]))
    (.cond (.t 12)
      (.seq (.seq (.reg [⟨(some 4), none, .inl (.mv (.c .nils))⟩,
          ⟨(some 5), none, .inl (.mv (.c (.int .i64 1)))⟩])
       (.keep [4, 5]))
       (.ret))
      (.skip)))
    (.seq (.seq (.reg [⟨(some 13), none, .inr (.bslice 1 [(.int .u8 0)] 0 [])⟩,
        ⟨(some 14), none, .inl (.mv (.t 0))⟩,
        ⟨(some 15), none, .inr (.append 1 1 (.t 13) (.t 14))⟩,
        ⟨(some 6), none, .inl (.mv (.t 15))⟩])
     (.keep [0, 1, 6]))
     (.seq (.seq (.seq (.reg [⟨(some 7), none, .inl (.mv (.c (.int .i64 0)))⟩])
      (.keep [0, 1, 6, 7]))
      (.block 0 (.loop [0, 1, 6, 7] (.seq (.seq (.seq (.reg [⟨(some 16), none, .inl (.mv (.t 7))⟩,
          ⟨(some 17), none, .inl (.mv (.t 1))⟩,
          ⟨(some 18), none, .inl (.len (.t 17))⟩,
          ⟨(some 19), none, .inl (.bin .lss (.t 16) (.t 18))⟩])
       (.keep [0, 1, 6, 7, 19]))
       (.cond (.t 19)
         (.skip)
         (.exit 0)))
       (.seq (.block 1 (.seq (.seq (.seq (.reg [⟨(some 22), none, .inl (.mv (.t 1))⟩,
           ⟨(some 23), none, .inl (.mv (.t 7))⟩,
           ⟨(some 24), none, .inl (.iaddr 2 (.t 22) (.t 23))⟩,
           ⟨(some 25), none, .inl (.faddr 0 (.t 24))⟩,
           ⟨(some 26), none, .inl (.load false 1 (.t 25))⟩,
           ⟨(some 27), none, .inl (.bin .lss (.t 26) (.c (.int .i64 0)))⟩,
           ⟨(some 28), none, .inl (.mv (.t 27))⟩,
           ⟨(some 29), (some (28, false)), .inl (.mv (.t 1))⟩,
           ⟨(some 30), (some (28, false)), .inl (.mv (.t 7))⟩,
           ⟨(some 31), (some (28, false)), .inl (.iaddr 2 (.t 29) (.t 30))⟩,
           ⟨(some 32), (some (28, false)), .inl (.faddr 0 (.t 31))⟩,
           ⟨(some 33), (some (28, false)), .inl (.load false 1 (.t 32))⟩,
           ⟨(some 34), (some (28, false)), .inl (.mv (.t 0))⟩,
           ⟨(some 35), (some (28, false)), .inl (.len (.t 34))⟩,
           ⟨(some 36), (some (28, false)), .inl (.bin .quo (.t 35) (.c (.int .i64 64)))⟩,
           ⟨(some 37), (some (28, false)), .inl (.bin .geq (.t 33) (.t 36))⟩,
           ⟨(some 38), none, .inl (.pick (.t 28) (.c (.bool true)) (.t 37))⟩,
           ⟨(some 39), none, .inl (.mv (.t 38))⟩,
           ⟨(some 40), (some (39, false)), .inl (.mv (.t 1))⟩,
           ⟨(some 41), (some (39, false)), .inl (.mv (.t 7))⟩,
           ⟨(some 42), (some (39, false)), .inl (.iaddr 2 (.t 40) (.t 41))⟩,
           ⟨(some 43), (some (39, false)), .inl (.faddr 1 (.t 42))⟩,
           ⟨(some 44), (some (39, false)), .inl (.load false 1 (.t 43))⟩,
           ⟨(some 45), (some (39, false)), .inl (.len (.t 44))⟩,
           ⟨(some 46), (some (39, false)), .inl (.bin .neq (.t 45) (.c (.int .i64 64)))⟩,
           ⟨(some 47), none, .inl (.pick (.t 39) (.c (.bool true)) (.t 46))⟩])
        (.keep [0, 1, 6, 7, 47]))
        (.cond (.t 47)
          (.seq (.seq (.reg [⟨(some 4), none, .inl (.mv (.c .nils))⟩,
              ⟨(some 5), none, .inl (.mv (.c (.int .i64 1)))⟩])
           (.keep [4, 5]))
           (.ret))
          (.skip)))
        (.seq (.seq (.reg [⟨(some 8), none, .inl (.mv (.c (.int .i64 0)))⟩])
         (.keep [0, 1, 6, 7, 8]))
         (.block 2 (.loop [0, 1, 6, 7, 8] (.seq (.seq (.seq (.reg [⟨(some 48), none, .inl (.mv (.t 8))⟩,
             ⟨(some 49), none, .inl (.bin .lss (.t 48) (.c (.int .i64 64)))⟩])
          (.keep [0, 1, 6, 7, 8, 49]))
          (.cond (.t 49)
            (.skip)
            (.exit 2)))
          (.seq (.block 3 (.seq (.ord [⟨0, ⟨(some 52), none, .inl (.mv (.t 6))⟩, [], false⟩,
              ⟨1, ⟨(some 53), none, .inl (.mv (.t 1))⟩, [], false⟩,
              ⟨2, ⟨(some 54), none, .inl (.mv (.t 7))⟩, [], false⟩,
              ⟨3, ⟨(some 55), none, .inl (.iaddr 2 (.t 53) (.t 54))⟩, [], false⟩,
              ⟨4, ⟨(some 56), none, .inl (.faddr 0 (.t 55))⟩, [], false⟩,
              ⟨5, ⟨(some 57), none, .inl (.load false 1 (.t 56))⟩, [], false⟩,
              ⟨6, ⟨(some 58), none, .inl (.bin .mul (.c (.int .i64 64)) (.t 57))⟩, [], false⟩,
              ⟨7, ⟨(some 59), none, .inl (.mv (.t 8))⟩, [], false⟩,
              ⟨8, ⟨(some 60), none, .inl (.bin .add (.t 58) (.t 59))⟩, [], false⟩,
              ⟨9, ⟨(some 61), none, .inl (.mv (.t 1))⟩, [], false⟩,
              ⟨10, ⟨(some 62), none, .inl (.mv (.t 7))⟩, [], false⟩,
              ⟨11, ⟨(some 63), none, .inl (.iaddr 2 (.t 61) (.t 62))⟩, [], false⟩,
              ⟨12, ⟨(some 64), none, .inl (.faddr 1 (.t 63))⟩, [], false⟩,
              ⟨13, ⟨(some 65), none, .inl (.load false 1 (.t 64))⟩, [], false⟩,
              ⟨14, ⟨(some 66), none, .inl (.mv (.t 8))⟩, [], false⟩,
              ⟨15, ⟨(some 67), none, .inl (.iaddr 1 (.t 65) (.t 66))⟩, [], false⟩,
              ⟨16, ⟨(some 68), none, .inl (.load false 1 (.t 67))⟩, [], false⟩,
              ⟨17, ⟨(some 69), none, .inl (.iaddr 1 (.t 52) (.t 60))⟩, [], false⟩,
              ⟨18, ⟨none, none, .inr (.store 1 (.t 69) (.t 68))⟩, [], false⟩])
           (.keep [0, 1, 6, 7, 8])))
           (.seq (.reg [⟨(some 50), none, .inl (.mv (.t 8))⟩,
               ⟨(some 51), none, .inl (.bin .add (.t 50) (.c (.int .i64 1)))⟩,
               ⟨(some 8), none, .inl (.mv (.t 51))⟩])
            (.keep [0, 1, 6, 7, 8])))))))))
        (.seq (.reg [⟨(some 20), none, .inl (.mv (.t 7))⟩,
            ⟨(some 21), none, .inl (.bin .add (.t 20) (.c (.int .i64 1)))⟩,
            ⟨(some 7), none, .inl (.mv (.t 21))⟩])
         (.keep [0, 1, 6, 7])))))))
      (.seq (.seq (.reg [⟨(some 70), none, .inl (.mv (.t 6))⟩,
          ⟨(some 4), none, .inl (.mv (.t 70))⟩,
          ⟨(some 5), none, .inl (.mv (.c (.int .i64 0)))⟩])
       (.keep [4, 5]))
       (.ret)))))
def fc_joistref04_Apply : FC := ⟨71, cmd_joistref04_Apply, [.t 4, .t 5]⟩
theorem fc_joistref04_Apply_ok : compF Try.prog 19 [[0, 1], [0, 1, 12], [4, 5], [0, 1, 6], [0, 1, 6, 7], [0, 1, 6, 7], [0, 1, 6, 7, 19], [0, 1, 6, 7, 47], [4, 5], [0, 1, 6, 7, 8], [0, 1, 6, 7, 8], [0, 1, 6, 7, 8, 49], [0, 1, 6, 7, 8], [0, 1, 2, 3, 4, 5, 6, 7, 8, 9, 10, 11, 12, 13, 14, 15, 16, 17, 18], [0, 1, 6, 7, 8], [0, 1, 6, 7], [4, 5]] = some fc_joistref04_Apply := by kernel_rfl
/-- joist/joistref04.Right -/
abbrev F.joistref04_Right : Nat := 20
def cmd_joistref04_Right : Cmd :=
  .seq (.seq (.reg [⟨(some 4), none, .inl (.mv (.c (.bool false)))⟩])
   (.keep [0, 1]))
   (.seq (.seq (.seq (.reg [⟨(some 5), none, .inl (.mv (.c (.int .i64 0)))⟩])
    (.keep [0, 1, 5]))
    (.block 0 (.loop [0, 1, 5] (.seq (.seq (.seq (.reg [⟨(some 6), none, .inl (.mv (.t 5))⟩,
        ⟨(some 7), none, .inl (.mv (.t 1))⟩,
        ⟨(some 8), none, .inl (.len (.t 7))⟩,
        ⟨(some 9), none, .inl (.bin .lss (.t 6) (.t 8))⟩])
     (.keep [0, 1, 5, 9]))
     (.cond (.t 9)
       (.skip)
       (.exit 0)))
     (.seq (.block 1 (.seq (.seq (.ord [⟨0, ⟨(some 12), none, .inl (.mv (.t 1))⟩, [], false⟩,
         ⟨1, ⟨(some 13), none, .inl (.mv (.t 5))⟩, [], false⟩,
         ⟨2, ⟨(some 14), none, .inl (.iaddr 2 (.t 12) (.t 13))⟩, [], false⟩,
         ⟨3, ⟨(some 15), none, .inl (.faddr 0 (.t 14))⟩, [], false⟩,
         ⟨4, ⟨(some 16), none, .inl (.load false 1 (.t 15))⟩, [], false⟩,
         ⟨5, ⟨(some 17), none, .inl (.bin .lss (.t 16) (.c (.int .i64 0)))⟩, [], false⟩,
         ⟨6, ⟨(some 18), none, .inl (.mv (.t 17))⟩, [], false⟩,
         ⟨7, ⟨(some 19), (some (18, false)), .inl (.mv (.t 1))⟩, [], false⟩,
         ⟨8, ⟨(some 20), (some (18, false)), .inl (.mv (.t 5))⟩, [], false⟩,
         ⟨9, ⟨(some 21), (some (18, false)), .inl (.iaddr 2 (.t 19) (.t 20))⟩, [], false⟩,
         ⟨10, ⟨(some 22), (some (18, false)), .inl (.faddr 0 (.t 21))⟩, [], false⟩,
         ⟨11, ⟨(some 23), (some (18, false)), .inl (.load false 1 (.t 22))⟩, [], false⟩,
         ⟨12, ⟨(some 24), (some (18, false)), .inl (.mv (.t 0))⟩, [], false⟩,
         ⟨13, ⟨(some 25), (some (18, false)), .inl (.bin .geq (.t 23) (.t 24))⟩, [], false⟩,
         ⟨14, ⟨(some 26), none, .inl (.pick (.t 18) (.c (.bool true)) (.t 25))⟩, [], false⟩,
         ⟨15, ⟨(some 27), none, .inl (.mv (.t 26))⟩, [], false⟩,
         ⟨16, ⟨(some 28), (some (27, false)), .inl (.mv (.t 1))⟩, [], false⟩,
         ⟨17, ⟨(some 29), (some (27, false)), .inl (.mv (.t 5))⟩, [], false⟩,
         ⟨18, ⟨(some 30), (some (27, false)), .inl (.iaddr 2 (.t 28) (.t 29))⟩, [], false⟩,
         ⟨19, ⟨(some 31), (some (27, false)), .inl (.faddr 1 (.t 30))⟩, [], false⟩,
         ⟨20, ⟨(some 32), (some (27, false)), .inl (.load false 1 (.t 31))⟩, [], false⟩,
         ⟨21, ⟨(some 33), (some (27, false)), .inl (.len (.t 32))⟩, [], false⟩,
         ⟨22, ⟨(some 34), (some (27, false)), .inl (.bin .neq (.t 33) (.c (.int .i64 64)))⟩, [], false⟩,
         ⟨23, ⟨(some 35), none, .inl (.pick (.t 27) (.c (.bool true)) (.t 34))⟩, [], false⟩,
         ⟨24, ⟨(some 36), none, .inl (.mv (.t 35))⟩, [], false⟩,
         ⟨25, ⟨(some 37), (some (36, false)), .inl (.mv (.t 5))⟩, [], false⟩,
         ⟨26, ⟨(some 38), (some (36, false)), .inl (.bin .gtr (.t 37) (.c (.int .i64 0)))⟩, [], false⟩,
         ⟨27, ⟨(some 39), (some (36, false)), .inl (.mv (.t 38))⟩, [], false⟩,
         ⟨28, ⟨(some 40), (some (39, true)), .inl (.mv (.t 1))⟩, [], false⟩,
         ⟨29, ⟨(some 41), (some (39, true)), .inl (.mv (.t 5))⟩, [], false⟩,
         ⟨30, ⟨(some 42), (some (39, true)), .inl (.iaddr 2 (.t 40) (.t 41))⟩, [], false⟩,
         ⟨31, ⟨(some 43), (some (39, true)), .inl (.faddr 0 (.t 42))⟩, [], false⟩,
         ⟨32, ⟨(some 44), (some (39, true)), .inl (.load false 1 (.t 43))⟩, [], false⟩,
         ⟨33, ⟨(some 45), (some (39, true)), .inl (.mv (.t 1))⟩, [], false⟩,
         ⟨34, ⟨(some 46), (some (39, true)), .inl (.mv (.t 5))⟩, [], false⟩,
         ⟨35, ⟨(some 47), (some (39, true)), .inl (.bin .sub (.t 46) (.c (.int .i64 1)))⟩, [], false⟩,
         ⟨36, ⟨(some 48), (some (39, true)), .inl (.iaddr 2 (.t 45) (.t 47))⟩, [], false⟩,
         ⟨37, ⟨(some 49), (some (39, true)), .inl (.faddr 0 (.t 48))⟩, [], false⟩,
         ⟨38, ⟨(some 50), (some (39, true)), .inl (.load false 1 (.t 49))⟩, [], false⟩,
         ⟨39, ⟨(some 51), (some (39, true)), .inl (.bin .leq (.t 44) (.t 50))⟩, [], false⟩,
         ⟨40, ⟨(some 52), (some (36, false)), .inl (.pick (.t 39) (.t 51) (.c (.bool false)))⟩, [], false⟩,
         ⟨41, ⟨(some 53), none, .inl (.pick (.t 36) (.c (.bool true)) (.t 52))⟩, [], false⟩])
      (.keep [0, 1, 5, 53]))
      (.cond (.t 53)
        (.seq (.seq (.reg [⟨(some 4), none, .inl (.mv (.c (.bool false)))⟩])
         (.keep [4]))
         (.ret))
        (.skip))))
      (.seq (.reg [⟨(some 10), none, .inl (.mv (.t 5))⟩,
          ⟨(some 11), none, .inl (.bin .add (.t 10) (.c (.int .i64 1)))⟩,
          ⟨(some 5), none, .inl (.mv (.t 11))⟩])
       (.keep [0, 1, 5])))))))
    (.seq (.seq (.reg [⟨(some 4), none, .inl (.mv (.c (.bool true)))⟩])
     (.keep [4]))
     (.ret)))
def fc_joistref04_Right : FC := ⟨54, cmd_joistref04_Right, [.t 4]⟩
theorem fc_joistref04_Right_ok : compF Try.prog 20 [[0, 1], [0, 1, 5], [0, 1, 5], [0, 1, 5, 9], [0, 1, 5, 53], [0, 1, 2, 3, 4, 5, 6, 7, 8, 9, 10, 11, 12, 13, 14, 15, 16, 17, 18, 19, 20, 21, 22, 23, 24, 25, 26, 27, 28, 29, 30, 31, 32, 33, 34, 35, 36, 37, 38, 39, 40, 41], [4], [0, 1, 5], [4]] = some fc_joistref04_Right := by kernel_rfl
/-- joist/lines.Same -/
abbrev F.lines_Same : Nat := 21
def cmd_lines_Same : Cmd :=
  .seq (.seq (.reg [⟨(some 4), none, .inl (.mv (.c (.bool false)))⟩])
   (.keep [0, 1]))
   (.seq (.seq (.reg [⟨(some 5), none, .inl (.mv (.t 0))⟩,
       ⟨(some 6), none, .inl (.mv (.t 1))⟩,
       ⟨(some 7), none, .inr (.call 26 [(.t 5), (.t 6), (.c (.fn 27 []))])⟩,
       ⟨(some 4), none, .inl (.mv (.t 7))⟩])
    (.keep [4]))
    (.ret))
def fc_lines_Same : FC := ⟨8, cmd_lines_Same, [.t 4]⟩
theorem fc_lines_Same_ok : compF Try.prog 21 [[0, 1], [4]] = some fc_lines_Same := by kernel_rfl
/-- joist/lines.line -/
abbrev F.lines_line : Nat := 22
def cmd_lines_line : Cmd :=
  .seq (.seq (.reg [⟨(some 4), none, .inl (.mv (.c .nils))⟩])
   (.keep [0, 1]))
   (.seq (.seq (.reg [⟨(some 5), none, .inl (.mv (.t 0))⟩,
       ⟨(some 6), none, .inl (.mv (.t 1))⟩,
       ⟨(some 7), none, .inl (.bin .mul (.t 6) (.c (.int .i64 64)))⟩,
       ⟨(some 8), none, .inl (.mv (.t 1))⟩,
       ⟨(some 9), none, .inl (.bin .add (.t 8) (.c (.int .i64 1)))⟩,
       ⟨(some 10), none, .inl (.bin .mul (.t 9) (.c (.int .i64 64)))⟩,
       ⟨(some 11), none, .inl (.slice 1 (.t 5) (some (.t 7)) (some (.t 10)) none)⟩,
       ⟨(some 4), none, .inl (.mv (.t 11))⟩])
    (.keep [4]))
    (.ret))
def fc_lines_line : FC := ⟨12, cmd_lines_line, [.t 4]⟩
theorem fc_lines_line_ok : compF Try.prog 22 [[0, 1], [4]] = some fc_lines_line := by kernel_rfl
/-- bytes.Equal -/
abbrev F.bytes_Equal : Nat := 23
def cmd_bytes_Equal : Cmd :=
  .seq (.seq (.reg [⟨(some 4), none, .inl (.mv (.c (.bool false)))⟩])
   (.keep [0, 1]))
   (.seq (.seq (.reg [⟨(some 5), none, .inl (.mv (.t 0))⟩,
       ⟨(some 6), none, .inl (.b2s (.t 5))⟩,
       ⟨(some 7), none, .inl (.mv (.t 1))⟩,
       ⟨(some 8), none, .inl (.b2s (.t 7))⟩,
       ⟨(some 9), none, .inl (.bins .eql (.t 6) (.t 8))⟩,
       ⟨(some 4), none, .inl (.mv (.t 9))⟩])
    (.keep [4]))
    (.ret))
def fc_bytes_Equal : FC := ⟨10, cmd_bytes_Equal, [.t 4]⟩
theorem fc_bytes_Equal_ok : compF Try.prog 23 [[0, 1], [4]] = some fc_bytes_Equal := by kernel_rfl
/-- bytes.Clone -/
abbrev F.bytes_Clone : Nat := 24
def cmd_bytes_Clone : Cmd :=
  .seq (.seq (.reg [⟨(some 2), none, .inl (.mv (.c .nils))⟩])
   (.keep [0]))
   (.seq (.seq (.seq (.reg [⟨(some 3), none, .inl (.mv (.t 0))⟩,
       ⟨(some 4), none, .inl (.eqnil false (.t 3))⟩])
    (.keep [0, 4]))
    (.cond (.t 4)
      (.seq (.seq (.reg [⟨(some 2), none, .inl (.mv (.c .nils))⟩])
       (.keep [2]))
       (.ret))
      (.skip)))
    (.seq (.seq (.reg [⟨(some 5), none, .inr (.bslice 1 [(.int .u8 0)] 0 [])⟩,
        ⟨(some 6), none, .inl (.mv (.t 0))⟩,
        ⟨(some 7), none, .inr (.append 1 1 (.t 5) (.t 6))⟩,
        ⟨(some 2), none, .inl (.mv (.t 7))⟩])
     (.keep [2]))
     (.ret)))
def fc_bytes_Clone : FC := ⟨8, cmd_bytes_Clone, [.t 2]⟩
theorem fc_bytes_Clone_ok : compF Try.prog 24 [[0], [0, 4], [2], [2]] = some fc_bytes_Clone := by kernel_rfl
/-- joist/lines.fits -/
abbrev F.lines_fits : Nat := 25
def cmd_lines_fits : Cmd :=
  .seq (.seq (.reg [⟨(some 3), none, .inr (.box 2 (.t 1))⟩,
      ⟨(some 4), none, .inl (.mv (.c (.bool false)))⟩])
   (.keep [0, 3]))
   (.seq (.seq (.reg [⟨(some 5), none, .inl (.faddr 0 (.t 3))⟩,
       ⟨(some 6), none, .inl (.load false 1 (.t 5))⟩,
       ⟨(some 7), none, .inl (.bin .geq (.t 6) (.c (.int .i64 0)))⟩,
       ⟨(some 8), none, .inl (.mv (.t 7))⟩,
       ⟨(some 9), (some (8, true)), .inl (.faddr 0 (.t 3))⟩,
       ⟨(some 10), (some (8, true)), .inl (.load false 1 (.t 9))⟩,
       ⟨(some 11), (some (8, true)), .inl (.mv (.t 0))⟩,
       ⟨(some 12), (some (8, true)), .inl (.bin .lss (.t 10) (.t 11))⟩,
       ⟨(some 13), none, .inl (.pick (.t 8) (.t 12) (.c (.bool false)))⟩,
       ⟨(some 14), none, .inl (.mv (.t 13))⟩,
       ⟨(some 15), (some (14, true)), .inl (.faddr 1 (.t 3))⟩,
       ⟨(some 16), (some (14, true)), .inl (.load false 1 (.t 15))⟩,
       ⟨(some 17), (some (14, true)), .inl (.len (.t 16))⟩,
       ⟨(some 18), (some (14, true)), .inl (.bin .eql (.t 17) (.c (.int .i64 64)))⟩,
       ⟨(some 19), none, .inl (.pick (.t 14) (.t 18) (.c (.bool false)))⟩,
       ⟨(some 4), none, .inl (.mv (.t 19))⟩])
    (.keep [4]))
    (.ret))
def fc_lines_fits : FC := ⟨20, cmd_lines_fits, [.t 4]⟩
theorem fc_lines_fits_ok : compF Try.prog 25 [[0, 3], [4]] = some fc_lines_fits := by kernel_rfl
/-- slices.EqualFunc[[]joist/api.Change,[]joist/api.Change,joist/api.Change,joist/api.Change] -/
abbrev F.slices_EqualFunc : Nat := 26
def cmd_slices_EqualFunc : Cmd :=
  .seq (.seq (.reg [⟨(some 6), none, .inl (.mv (.c (.bool false)))⟩])
   (.keep [0, 1, 2]))
   (.seq (.seq (.seq (.reg [⟨(some 10), none, .inl (.mv (.t 0))⟩,
       ⟨(some 11), none, .inl (.len (.t 10))⟩,
       ⟨(some 12), none, .inl (.mv (.t 1))⟩,
       ⟨(some 13), none, .inl (.len (.t 12))⟩,
       ⟨(some 14), none, .inl (.bin .neq (.t 11) (.t 13))⟩])
    (.keep [0, 1, 2, 14]))
    (.cond (.t 14)
      (.seq (.seq (.reg [⟨(some 6), none, .inl (.mv (.c (.bool false)))⟩])
       (.keep [6]))
       (.ret))
      (.skip)))
    (.seq (.seq (.seq (.reg [⟨(some 15), none, .inl (.mv (.t 0))⟩,
        ⟨(some 16), none, .inl (.len (.t 15))⟩,
        ⟨(some 17), none, .inl (.mv (.c (.int .i64 0)))⟩])
     (.keep [1, 2, 15, 16, 17]))
     (.block 0 (.loop [1, 2, 15, 16, 17] (.seq (.seq (.reg [⟨(some 18), none, .inl (.bin .lss (.t 17) (.t 16))⟩])
      (.keep [1, 2, 15, 16, 17, 18]))
      (.seq (.cond (.t 18)
        (.skip)
        (.exit 0))
       (.seq (.block 1 (.seq (.seq (.reg [⟨(some 19), none, .inl (.mv (.t 17))⟩,
           ⟨(some 20), none, .inl (.iaddr 2 (.t 15) (.t 17))⟩,
           ⟨(some 21), none, .inl (.load true 2 (.t 20))⟩,
           ⟨(some 8), none, .inr (.alloc [(.int .i64 0), .nils])⟩,
           ⟨(some 7), none, .inl (.mv (.t 19))⟩,
           ⟨none, none, .inr (.store 2 (.t 8) (.t 21))⟩])
        (.keep [1, 2, 7, 8, 15, 16, 17]))
        (.seq (.seq (.reg [⟨(some 22), none, .inl (.mv (.t 1))⟩,
            ⟨(some 23), none, .inl (.mv (.t 7))⟩,
            ⟨(some 24), none, .inl (.iaddr 2 (.t 22) (.t 23))⟩,
            ⟨(some 25), none, .inl (.load true 2 (.t 24))⟩,
            ⟨(some 9), none, .inr (.alloc [(.int .i64 0), .nils])⟩,
            ⟨none, none, .inr (.store 2 (.t 9) (.t 25))⟩])
         (.keep [1, 2, 8, 9, 15, 16, 17]))
         (.seq (.seq (.reg [⟨(some 26), none, .inl (.mv (.t 2))⟩,
             ⟨(some 27), none, .inl (.load true 2 (.t 8))⟩,
             ⟨(some 28), none, .inl (.load true 2 (.t 9))⟩,
             ⟨(some 29), none, .inr (.callv (.t 26) [(.t 27), (.t 28)])⟩,
             ⟨(some 30), none, .inl (.un .not (.t 29))⟩])
          (.keep [1, 2, 15, 16, 17, 30]))
          (.cond (.t 30)
            (.seq (.seq (.reg [⟨(some 6), none, .inl (.mv (.c (.bool false)))⟩])
             (.keep [6]))
             (.ret))
            (.skip))))))
        (.seq (.reg [⟨(some 31), none, .inl (.bin .add (.t 17) (.c (.int .i64 1)))⟩,
            ⟨(some 17), none, .inl (.mv (.t 31))⟩])
         (.keep [1, 2, 15, 16, 17]))))))))
     (.seq (.seq (.reg [⟨(some 6), none, .inl (.mv (.c (.bool true)))⟩])
      (.keep [6]))
      (.ret))))
def fc_slices_EqualFunc : FC := ⟨32, cmd_slices_EqualFunc, [.t 6]⟩
theorem fc_slices_EqualFunc_ok : compF Try.prog 26 [[0, 1, 2], [0, 1, 2, 14], [6], [1, 2, 15, 16, 17], [1, 2, 15, 16, 17], [1, 2, 15, 16, 17, 18], [1, 2, 7, 8, 15, 16, 17], [1, 2, 8, 9, 15, 16, 17], [1, 2, 15, 16, 17, 30], [6], [1, 2, 15, 16, 17], [6]] = some fc_slices_EqualFunc := by kernel_rfl
/-- joist/lines.Same$1 -/
abbrev F.lines_Same_1 : Nat := 27
def cmd_lines_Same_1 : Cmd :=
  .seq (.seq (.reg [⟨(some 2), none, .inr (.box 2 (.t 0))⟩,
      ⟨(some 3), none, .inr (.box 2 (.t 1))⟩,
      ⟨(some 4), none, .inl (.mv (.c (.bool false)))⟩])
   (.keep [2, 3]))
   (.seq (.seq (.reg [⟨(some 5), none, .inl (.faddr 0 (.t 2))⟩,
       ⟨(some 6), none, .inl (.load false 1 (.t 5))⟩,
       ⟨(some 7), none, .inl (.faddr 0 (.t 3))⟩,
       ⟨(some 8), none, .inl (.load false 1 (.t 7))⟩,
       ⟨(some 9), none, .inl (.bin .eql (.t 6) (.t 8))⟩,
       ⟨(some 10), none, .inl (.mv (.t 9))⟩,
       ⟨(some 11), (some (10, true)), .inl (.faddr 1 (.t 2))⟩,
       ⟨(some 12), (some (10, true)), .inl (.load false 1 (.t 11))⟩,
       ⟨(some 13), (some (10, true)), .inl (.faddr 1 (.t 3))⟩,
       ⟨(some 14), (some (10, true)), .inl (.load false 1 (.t 13))⟩,
       ⟨(some 15), (some (10, true)), .inr (.call 23 [(.t 12), (.t 14)])⟩,
       ⟨(some 16), none, .inl (.pick (.t 10) (.t 15) (.c (.bool false)))⟩,
       ⟨(some 4), none, .inl (.mv (.t 16))⟩])
    (.keep [4]))
    (.ret))
def fc_lines_Same_1 : FC := ⟨17, cmd_lines_Same_1, [.t 4]⟩
theorem fc_lines_Same_1_ok : compF Try.prog 27 [[2, 3], [4]] = some fc_lines_Same_1 := by kernel_rfl
end Go.Proofs.Ytlhogahibillpaa
