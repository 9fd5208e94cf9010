import Derived.Test.YtabdieanlhecoaaProg
import Derived.Test.YtabdieanlhecoaaVG
import Derived.KernelRfl
namespace Go.Proofs.Ytabdieanlhecoaa
open Go Go.Proofs.Ytabdieanlhecoaa.V
set_option linter.unusedVariables false

theorem mixed : Try.prog.follows .mixedOrders = true := by kernel_rfl
/-- joist/joistlaw15.SlabWrites -/
abbrev F.joistlaw15_SlabWrites : Nat := 3
def cmd_joistlaw15_SlabWrites : Cmd :=
  .seq (.seq (.reg [⟨(some 10), none, .inl (.mv (.c (.bool false)))⟩])
   (.keep [0, 1, 2, 3, 4]))
   (.seq (.seq (.reg [⟨(some 27), none, .inr (.call 8 [])⟩,
       ⟨(some 11), none, .inl (.mv (.t 27))⟩])
    (.keep [0, 1, 2, 3, 4, 11]))
    (.seq (.seq (.reg [⟨(some 28), none, .inl (.mv (.t 2))⟩,
        ⟨(some 29), none, .inr (.call 9 [(.t 28)])⟩,
        ⟨(some 12), none, .inl (.mv (.t 29))⟩])
     (.keep [0, 1, 2, 3, 4, 11, 12]))
     (.seq (.seq (.seq (.reg [⟨(some 30), none, .inl (.mv (.t 12))⟩,
         ⟨(some 31), none, .inl (.un .not (.t 30))⟩,
         ⟨(some 32), none, .inl (.mv (.t 31))⟩,
         ⟨(some 33), (some (32, false)), .inl (.mv (.t 1))⟩,
         ⟨(some 34), (some (32, false)), .inl (.len (.t 33))⟩,
         ⟨(some 35), (some (32, false)), .inl (.bin .gtr (.t 34) (.c (.int .i64 60)))⟩,
         ⟨(some 36), none, .inl (.pick (.t 32) (.c (.bool true)) (.t 35))⟩])
      (.keep [0, 1, 2, 3, 4, 11, 36]))
      (.cond (.t 36)
        (.seq (.seq (.reg [⟨(some 37), none, .inl (.mv (.t 11))⟩,
            ⟨(some 10), none, .inl (.mv (.t 37))⟩])
         (.keep [10]))
         (.ret))
        (.skip)))
      (.seq (.seq (.reg [⟨(some 13), none, .inl (.mv (.c .nils))⟩])
       (.keep [0, 1, 2, 3, 4, 11, 13]))
       (.seq (.seq (.seq (.reg [⟨(some 14), none, .inl (.mv (.c (.int .i64 0)))⟩])
        (.keep [0, 1, 2, 3, 4, 11, 13, 14]))
        (.block 0 (.loop [0, 1, 2, 3, 4, 11, 13, 14] (.seq (.seq (.seq (.reg [⟨(some 38), none, .inl (.mv (.t 14))⟩,
            ⟨(some 39), none, .inl (.mv (.t 2))⟩,
            ⟨(some 40), none, .inl (.len (.t 39))⟩,
            ⟨(some 41), none, .inl (.bin .lss (.t 38) (.t 40))⟩])
         (.keep [0, 1, 2, 3, 4, 11, 13, 14, 41]))
         (.cond (.t 41)
           (.skip)
           (.exit 0)))
         (.seq (.block 1 (.seq (.reg [⟨(some 44), none, .inl (.mv (.t 13))⟩,
             ⟨(some 45), none, .inl (.mv (.t 2))⟩,
             ⟨(some 46), none, .inl (.mv (.t 14))⟩,
             ⟨(some 47), none, .inl (.iaddr 1 (.t 45) (.t 46))⟩,
             ⟨(some 48), none, .inl (.load false 1 (.t 47))⟩,
             ⟨(some 49), none, .inr (.call 10 [(.t 48)])⟩,
             ⟨(some 50), none, .inr (.bslice 1 [.nils] 1 [(0, (.t 49))])⟩,
             ⟨(some 51), none, .inr (.append 1 24 (.t 44) (.t 50))⟩,
             ⟨(some 13), none, .inl (.mv (.t 51))⟩])
          (.keep [0, 1, 2, 3, 4, 11, 13, 14])))
          (.seq (.reg [⟨(some 42), none, .inl (.mv (.t 14))⟩,
              ⟨(some 43), none, .inl (.bin .add (.t 42) (.c (.int .i64 1)))⟩,
              ⟨(some 14), none, .inl (.mv (.t 43))⟩])
           (.keep [0, 1, 2, 3, 4, 11, 13, 14])))))))
        (.seq (.seq (.reg [⟨(some 53), none, .inl (.mv (.t 0))⟩,
            ⟨(some 54), none, .inl (.mv (.t 1))⟩,
            ⟨(some 55), none, .inl (.mv (.t 13))⟩,
            ⟨(some 56), none, .inl (.mv (.t 3))⟩,
            ⟨(some 57), none, .inl (.mv (.t 4))⟩,
            ⟨(some 58), none, .inr (.call 11 [(.t 53), (.t 54), (.t 55), (.t 56), (.t 57)])⟩,
            ⟨(some 52), none, .inl (.mv (.t 58))⟩,
            ⟨(some 59), none, .inl (.ext 0 (.t 52))⟩,
            ⟨(some 60), none, .inl (.ext 1 (.t 52))⟩,
            ⟨(some 15), none, .inl (.mv (.t 59))⟩,
            ⟨(some 16), none, .inl (.mv (.t 60))⟩])
         (.keep [0, 1, 2, 3, 4, 11, 13, 15, 16]))
         (.seq (.seq (.reg [⟨(some 62), none, .inl (.mv (.t 0))⟩,
             ⟨(some 63), none, .inl (.mv (.t 1))⟩,
             ⟨(some 64), none, .inl (.mv (.t 2))⟩,
             ⟨(some 65), none, .inl (.mv (.t 3))⟩,
             ⟨(some 66), none, .inl (.mv (.t 4))⟩,
             ⟨(some 67), none, .inr (.call 12 [(.t 62), (.t 63), (.t 64), (.t 65), (.t 66)])⟩,
             ⟨(some 61), none, .inl (.mv (.t 67))⟩,
             ⟨(some 68), none, .inl (.ext 0 (.t 61))⟩,
             ⟨(some 69), none, .inl (.ext 1 (.t 61))⟩,
             ⟨(some 17), none, .inl (.mv (.t 68))⟩,
             ⟨(some 18), none, .inl (.mv (.t 69))⟩])
          (.keep [0, 1, 2, 11, 13, 15, 16, 17, 18]))
          (.seq (.seq (.seq (.reg [⟨(some 19), none, .inl (.mv (.c (.int .i64 0)))⟩])
           (.keep [0, 1, 2, 11, 13, 15, 16, 17, 18, 19]))
           (.block 2 (.loop [0, 1, 2, 11, 13, 15, 16, 17, 18, 19] (.seq (.seq (.seq (.reg [⟨(some 70), none, .inl (.mv (.t 19))⟩,
               ⟨(some 71), none, .inl (.mv (.t 13))⟩,
               ⟨(some 72), none, .inl (.len (.t 71))⟩,
               ⟨(some 73), none, .inl (.bin .lss (.t 70) (.t 72))⟩])
            (.keep [0, 1, 2, 11, 13, 15, 16, 17, 18, 19, 73]))
            (.cond (.t 73)
              (.skip)
              (.exit 2)))
            (.seq (.block 3 (.seq (.seq (.ord [⟨0, ⟨(some 76), none, .inl (.mv (.t 13))⟩, [], false⟩,
                ⟨1, ⟨(some 77), none, .inl (.mv (.t 19))⟩, [], false⟩,
                ⟨2, ⟨(some 78), none, .inl (.iaddr 1 (.t 76) (.t 77))⟩, [], false⟩,
                ⟨3, ⟨(some 79), none, .inl (.load false 1 (.t 78))⟩, [], false⟩,
                ⟨4, ⟨(some 80), none, .inl (.mv (.t 2))⟩, [], false⟩,
                ⟨5, ⟨(some 81), none, .inl (.mv (.t 19))⟩, [], false⟩,
                ⟨6, ⟨(some 82), none, .inl (.iaddr 1 (.t 80) (.t 81))⟩, [], false⟩,
                ⟨7, ⟨(some 83), none, .inl (.load false 1 (.t 82))⟩, [], false⟩,
                ⟨8, ⟨(some 84), none, .inr (.call 13 [(.t 79), (.t 83)])⟩, [], false⟩,
                ⟨9, ⟨(some 20), none, .inl (.mv (.t 84))⟩, [], false⟩])
             (.keep [0, 1, 2, 11, 13, 15, 16, 17, 18, 19, 20]))
             (.seq (.seq (.reg [⟨(some 85), none, .inl (.mv (.t 20))⟩,
                 ⟨(some 86), none, .inl (.un .not (.t 85))⟩])
              (.keep [0, 1, 2, 11, 13, 15, 16, 17, 18, 19, 86]))
              (.cond (.t 86)
                (.seq (.seq (.reg [⟨(some 10), none, .inl (.mv (.c (.bool false)))⟩])
                 (.keep [10]))
                 (.ret))
                (.skip)))))
             (.seq (.reg [⟨(some 74), none, .inl (.mv (.t 19))⟩,
                 ⟨(some 75), none, .inl (.bin .add (.t 74) (.c (.int .i64 1)))⟩,
                 ⟨(some 19), none, .inl (.mv (.t 75))⟩])
              (.keep [0, 1, 2, 11, 13, 15, 16, 17, 18, 19])))))))
           (.seq (.seq (.reg [⟨(some 87), none, .inl (.mv (.t 15))⟩,
               ⟨(some 88), none, .inl (.b2s (.t 87))⟩,
               ⟨(some 89), none, .inl (.mv (.t 17))⟩,
               ⟨(some 90), none, .inl (.b2s (.t 89))⟩,
               ⟨(some 91), none, .inl (.bins .eql (.t 88) (.t 90))⟩,
               ⟨(some 21), none, .inl (.mv (.t 91))⟩])
            (.keep [0, 1, 11, 13, 15, 16, 18, 21]))
            (.seq (.seq (.reg [⟨(some 92), none, .inr (.bslice 1 [.nils] 0 [])⟩,
                ⟨(some 93), none, .inl (.mv (.t 13))⟩,
                ⟨(some 94), none, .inr (.append 1 24 (.t 92) (.t 93))⟩,
                ⟨(some 95), none, .inl (.mv (.t 15))⟩,
                ⟨(some 96), none, .inr (.bslice 1 [.nils] 1 [(0, (.t 95))])⟩,
                ⟨(some 97), none, .inr (.append 1 24 (.t 94) (.t 96))⟩,
                ⟨(some 98), none, .inr (.call 14 [(.t 97)])⟩,
                ⟨(some 22), none, .inl (.mv (.t 98))⟩])
             (.keep [0, 1, 11, 16, 18, 21, 22]))
             (.seq (.seq (.reg [⟨(some 100), none, .inl (.mv (.t 0))⟩,
                 ⟨(some 101), none, .inl (.mv (.t 1))⟩,
                 ⟨(some 102), none, .inr (.call 15 [(.t 100), (.t 101)])⟩,
                 ⟨(some 99), none, .inl (.mv (.t 102))⟩,
                 ⟨(some 103), none, .inl (.ext 0 (.t 99))⟩,
                 ⟨(some 104), none, .inl (.ext 1 (.t 99))⟩,
                 ⟨(some 23), none, .inl (.mv (.t 103))⟩,
                 ⟨(some 24), none, .inl (.mv (.t 104))⟩])
              (.keep [0, 1, 11, 16, 18, 21, 22, 23, 24]))
              (.seq (.seq (.reg [⟨(some 106), none, .inl (.mv (.t 0))⟩,
                  ⟨(some 107), none, .inl (.mv (.t 1))⟩,
                  ⟨(some 108), none, .inr (.call 16 [(.t 106), (.t 107)])⟩,
                  ⟨(some 105), none, .inl (.mv (.t 108))⟩,
                  ⟨(some 109), none, .inl (.ext 0 (.t 105))⟩,
                  ⟨(some 110), none, .inl (.ext 1 (.t 105))⟩,
                  ⟨(some 25), none, .inl (.mv (.t 109))⟩,
                  ⟨(some 26), none, .inl (.mv (.t 110))⟩])
               (.keep [11, 16, 18, 21, 22, 23, 24, 25, 26]))
               (.seq (.seq (.reg [⟨(some 111), none, .inl (.mv (.t 11))⟩,
                   ⟨(some 112), none, .inl (.mv (.t 111))⟩,
                   ⟨(some 113), (some (112, true)), .inl (.mv (.t 21))⟩,
                   ⟨(some 114), none, .inl (.pick (.t 112) (.t 113) (.c (.bool false)))⟩,
                   ⟨(some 115), none, .inl (.mv (.t 114))⟩,
                   ⟨(some 116), (some (115, true)), .inl (.mv (.t 22))⟩,
                   ⟨(some 117), none, .inl (.pick (.t 115) (.t 116) (.c (.bool false)))⟩,
                   ⟨(some 118), none, .inl (.mv (.t 117))⟩,
                   ⟨(some 119), (some (118, true)), .inl (.mv (.t 16))⟩,
                   ⟨(some 120), (some (118, true)), .inl (.mv (.t 18))⟩,
                   ⟨(some 121), (some (118, true)), .inl (.bin .eql (.t 119) (.t 120))⟩,
                   ⟨(some 122), none, .inl (.pick (.t 118) (.t 121) (.c (.bool false)))⟩,
                   ⟨(some 123), none, .inl (.mv (.t 122))⟩,
                   ⟨(some 124), (some (123, true)), .inl (.mv (.t 23))⟩,
                   ⟨(some 125), (some (123, true)), .inl (.mv (.t 25))⟩,
                   ⟨(some 126), (some (123, true)), .inl (.bin .eql (.t 124) (.t 125))⟩,
                   ⟨(some 127), none, .inl (.pick (.t 123) (.t 126) (.c (.bool false)))⟩,
                   ⟨(some 128), none, .inl (.mv (.t 127))⟩,
                   ⟨(some 129), (some (128, true)), .inl (.mv (.t 24))⟩,
                   ⟨(some 130), (some (128, true)), .inl (.mv (.t 26))⟩,
                   ⟨(some 131), (some (128, true)), .inl (.bin .eql (.t 129) (.t 130))⟩,
                   ⟨(some 132), none, .inl (.pick (.t 128) (.t 131) (.c (.bool false)))⟩,
                   ⟨(some 10), none, .inl (.mv (.t 132))⟩])
                (.keep [10]))
                (.ret))))))))))))))
def fc_joistlaw15_SlabWrites : FC := ⟨133, cmd_joistlaw15_SlabWrites, [.t 10]⟩
theorem fc_joistlaw15_SlabWrites_ok : compF Try.prog 3 [[0, 1, 2, 3, 4], [0, 1, 2, 3, 4, 11], [0, 1, 2, 3, 4, 11, 12], [0, 1, 2, 3, 4, 11, 36], [10], [0, 1, 2, 3, 4, 11, 13], [0, 1, 2, 3, 4, 11, 13, 14], [0, 1, 2, 3, 4, 11, 13, 14], [0, 1, 2, 3, 4, 11, 13, 14, 41], [0, 1, 2, 3, 4, 11, 13, 14], [0, 1, 2, 3, 4, 11, 13, 14], [0, 1, 2, 3, 4, 11, 13, 15, 16], [0, 1, 2, 11, 13, 15, 16, 17, 18], [0, 1, 2, 11, 13, 15, 16, 17, 18, 19], [0, 1, 2, 11, 13, 15, 16, 17, 18, 19], [0, 1, 2, 11, 13, 15, 16, 17, 18, 19, 73], [0, 1, 2, 11, 13, 15, 16, 17, 18, 19, 20], [0, 1, 2, 3, 4, 5, 6, 7, 8, 9], [0, 1, 2, 11, 13, 15, 16, 17, 18, 19, 86], [10], [0, 1, 2, 11, 13, 15, 16, 17, 18, 19], [0, 1, 11, 13, 15, 16, 18, 21], [0, 1, 11, 16, 18, 21, 22], [0, 1, 11, 16, 18, 21, 22, 23, 24], [11, 16, 18, 21, 22, 23, 24, 25, 26], [10]] = some fc_joistlaw15_SlabWrites := by kernel_rfl
/-- joist/joistlaw15.SlabReads -/
abbrev F.joistlaw15_SlabReads : Nat := 4
def cmd_joistlaw15_SlabReads : Cmd :=
  .seq (.seq (.reg [⟨(some 2), none, .inl (.mv (.c (.bool false)))⟩])
   (.keep [0]))
   (.seq (.seq (.reg [⟨(some 20), none, .inr (.call 8 [])⟩,
       ⟨(some 3), none, .inl (.mv (.t 20))⟩])
    (.keep [0, 3]))
    (.seq (.seq (.reg [⟨(some 21), none, .inl (.mv (.t 0))⟩,
        ⟨(some 22), none, .inr (.call 10 [(.t 21)])⟩,
        ⟨(some 4), none, .inl (.mv (.t 22))⟩])
     (.keep [0, 3, 4]))
     (.seq (.seq (.reg [⟨(some 24), none, .inl (.mv (.t 4))⟩,
         ⟨(some 25), none, .inr (.call 17 [(.t 24)])⟩,
         ⟨(some 23), none, .inl (.mv (.t 25))⟩,
         ⟨(some 26), none, .inl (.ext 0 (.t 23))⟩,
         ⟨(some 27), none, .inl (.ext 1 (.t 23))⟩,
         ⟨(some 28), none, .inl (.ext 2 (.t 23))⟩,
         ⟨(some 29), none, .inl (.ext 3 (.t 23))⟩,
         ⟨(some 30), none, .inl (.ext 4 (.t 23))⟩,
         ⟨(some 31), none, .inl (.ext 5 (.t 23))⟩,
         ⟨(some 5), none, .inl (.mv (.t 26))⟩,
         ⟨(some 6), none, .inl (.mv (.t 27))⟩,
         ⟨(some 7), none, .inl (.mv (.t 28))⟩,
         ⟨(some 8), none, .inl (.mv (.t 29))⟩,
         ⟨(some 9), none, .inl (.mv (.t 30))⟩,
         ⟨(some 10), none, .inl (.mv (.t 31))⟩])
      (.keep [0, 3, 4, 5, 6, 7, 8, 9, 10]))
      (.seq (.seq (.reg [⟨(some 32), none, .inl (.mv (.t 4))⟩,
          ⟨(some 33), none, .inl (.mv (.t 0))⟩,
          ⟨(some 34), none, .inr (.call 13 [(.t 32), (.t 33)])⟩,
          ⟨(some 11), none, .inl (.mv (.t 34))⟩])
       (.keep [0, 3, 4, 5, 6, 7, 8, 9, 10, 11]))
       (.seq (.seq (.reg [⟨(some 36), none, .inl (.mv (.t 0))⟩,
           ⟨(some 37), none, .inr (.call 18 [(.t 36)])⟩,
           ⟨(some 35), none, .inl (.mv (.t 37))⟩,
           ⟨(some 38), none, .inl (.ext 0 (.t 35))⟩,
           ⟨(some 39), none, .inl (.ext 1 (.t 35))⟩,
           ⟨(some 40), none, .inl (.ext 2 (.t 35))⟩,
           ⟨(some 41), none, .inl (.ext 3 (.t 35))⟩,
           ⟨(some 42), none, .inl (.ext 4 (.t 35))⟩,
           ⟨(some 43), none, .inl (.ext 5 (.t 35))⟩,
           ⟨(some 12), none, .inl (.mv (.t 38))⟩,
           ⟨(some 13), none, .inl (.mv (.t 39))⟩,
           ⟨(some 14), none, .inl (.mv (.t 40))⟩,
           ⟨(some 15), none, .inl (.mv (.t 41))⟩,
           ⟨(some 16), none, .inl (.mv (.t 42))⟩,
           ⟨(some 17), none, .inl (.mv (.t 43))⟩])
        (.keep [3, 4, 5, 6, 7, 8, 9, 10, 11, 12, 13, 14, 15, 16, 17]))
        (.seq (.seq (.reg [⟨(some 44), none, .inl (.mv (.t 6))⟩,
            ⟨(some 45), none, .inl (.mv (.t 13))⟩,
            ⟨(some 46), none, .inr (.call 19 [(.t 44), (.t 45)])⟩,
            ⟨(some 47), none, .inl (.mv (.t 46))⟩,
            ⟨(some 48), (some (47, true)), .inl (.mv (.t 7))⟩,
            ⟨(some 49), (some (47, true)), .inl (.mv (.t 14))⟩,
            ⟨(some 50), (some (47, true)), .inr (.call 20 [(.t 48), (.t 49)])⟩,
            ⟨(some 51), none, .inl (.pick (.t 47) (.t 50) (.c (.bool false)))⟩,
            ⟨(some 18), none, .inl (.mv (.t 51))⟩])
         (.keep [3, 4, 5, 7, 8, 9, 10, 11, 12, 15, 16, 17, 18]))
         (.seq (.seq (.reg [⟨(some 52), none, .inr (.bslice 1 [.nils] 0 [])⟩,
             ⟨(some 53), none, .inl (.mv (.t 7))⟩,
             ⟨(some 54), none, .inr (.append 1 24 (.t 52) (.t 53))⟩,
             ⟨(some 55), none, .inl (.mv (.t 4))⟩,
             ⟨(some 56), none, .inr (.bslice 1 [.nils] 1 [(0, (.t 55))])⟩,
             ⟨(some 57), none, .inr (.append 1 24 (.t 54) (.t 56))⟩,
             ⟨(some 58), none, .inr (.call 14 [(.t 57)])⟩,
             ⟨(some 19), none, .inl (.mv (.t 58))⟩])
          (.keep [3, 5, 8, 9, 10, 11, 12, 15, 16, 17, 18, 19]))
          (.seq (.seq (.reg [⟨(some 59), none, .inl (.mv (.t 3))⟩,
              ⟨(some 60), none, .inl (.mv (.t 59))⟩,
              ⟨(some 61), (some (60, true)), .inl (.mv (.t 11))⟩,
              ⟨(some 62), none, .inl (.pick (.t 60) (.t 61) (.c (.bool false)))⟩,
              ⟨(some 63), none, .inl (.mv (.t 62))⟩,
              ⟨(some 64), (some (63, true)), .inl (.mv (.t 18))⟩,
              ⟨(some 65), none, .inl (.pick (.t 63) (.t 64) (.c (.bool false)))⟩,
              ⟨(some 66), none, .inl (.mv (.t 65))⟩,
              ⟨(some 67), (some (66, true)), .inl (.mv (.t 19))⟩,
              ⟨(some 68), none, .inl (.pick (.t 66) (.t 67) (.c (.bool false)))⟩,
              ⟨(some 69), none, .inl (.mv (.t 68))⟩,
              ⟨(some 70), (some (69, true)), .inl (.mv (.t 5))⟩,
              ⟨(some 71), (some (69, true)), .inl (.mv (.t 12))⟩,
              ⟨(some 72), (some (69, true)), .inl (.bin .eql (.t 70) (.t 71))⟩,
              ⟨(some 73), none, .inl (.pick (.t 69) (.t 72) (.c (.bool false)))⟩,
              ⟨(some 74), none, .inl (.mv (.t 73))⟩,
              ⟨(some 75), (some (74, true)), .inl (.mv (.t 8))⟩,
              ⟨(some 76), (some (74, true)), .inl (.mv (.t 15))⟩,
              ⟨(some 77), (some (74, true)), .inl (.bin .eql (.t 75) (.t 76))⟩,
              ⟨(some 78), none, .inl (.pick (.t 74) (.t 77) (.c (.bool false)))⟩,
              ⟨(some 79), none, .inl (.mv (.t 78))⟩,
              ⟨(some 80), (some (79, true)), .inl (.mv (.t 9))⟩,
              ⟨(some 81), (some (79, true)), .inl (.mv (.t 16))⟩,
              ⟨(some 82), (some (79, true)), .inl (.bin .eql (.t 80) (.t 81))⟩,
              ⟨(some 83), none, .inl (.pick (.t 79) (.t 82) (.c (.bool false)))⟩,
              ⟨(some 84), none, .inl (.mv (.t 83))⟩,
              ⟨(some 85), (some (84, true)), .inl (.mv (.t 10))⟩,
              ⟨(some 86), (some (84, true)), .inl (.mv (.t 17))⟩,
              ⟨(some 87), (some (84, true)), .inl (.binb .eql (.t 85) (.t 86))⟩,
              ⟨(some 88), none, .inl (.pick (.t 84) (.t 87) (.c (.bool false)))⟩,
              ⟨(some 2), none, .inl (.mv (.t 88))⟩])
           (.keep [2]))
           (.ret)))))))))
def fc_joistlaw15_SlabReads : FC := ⟨89, cmd_joistlaw15_SlabReads, [.t 2]⟩
theorem fc_joistlaw15_SlabReads_ok : compF Try.prog 4 [[0], [0, 3], [0, 3, 4], [0, 3, 4, 5, 6, 7, 8, 9, 10], [0, 3, 4, 5, 6, 7, 8, 9, 10, 11], [3, 4, 5, 6, 7, 8, 9, 10, 11, 12, 13, 14, 15, 16, 17], [3, 4, 5, 7, 8, 9, 10, 11, 12, 15, 16, 17, 18], [3, 5, 8, 9, 10, 11, 12, 15, 16, 17, 18, 19], [2]] = some fc_joistlaw15_SlabReads := by kernel_rfl
/-- joist/joistlaw15.SlabBits -/
abbrev F.joistlaw15_SlabBits : Nat := 5
def cmd_joistlaw15_SlabBits : Cmd :=
  .seq (.seq (.reg [⟨(some 6), none, .inl (.mv (.c (.bool false)))⟩])
   (.keep [0, 1, 2]))
   (.seq (.seq (.reg [⟨(some 18), none, .inr (.call 8 [])⟩,
       ⟨(some 7), none, .inl (.mv (.t 18))⟩])
    (.keep [0, 1, 2, 7]))
    (.seq (.seq (.reg [⟨(some 20), none, .inl (.mv (.t 0))⟩,
        ⟨(some 21), none, .inl (.mv (.t 1))⟩,
        ⟨(some 22), none, .inr (.call 15 [(.t 20), (.t 21)])⟩,
        ⟨(some 19), none, .inl (.mv (.t 22))⟩,
        ⟨(some 23), none, .inl (.ext 0 (.t 19))⟩,
        ⟨(some 24), none, .inl (.ext 1 (.t 19))⟩,
        ⟨(some 8), none, .inl (.mv (.t 23))⟩,
        ⟨(some 9), none, .inl (.mv (.t 24))⟩])
     (.keep [0, 1, 2, 7, 8, 9]))
     (.seq (.seq (.reg [⟨(some 26), none, .inl (.mv (.t 0))⟩,
         ⟨(some 27), none, .inl (.mv (.t 2))⟩,
         ⟨(some 28), none, .inr (.call 15 [(.t 26), (.t 27)])⟩,
         ⟨(some 25), none, .inl (.mv (.t 28))⟩,
         ⟨(some 29), none, .inl (.ext 0 (.t 25))⟩,
         ⟨(some 30), none, .inl (.ext 1 (.t 25))⟩,
         ⟨(some 10), none, .inl (.mv (.t 29))⟩,
         ⟨(some 11), none, .inl (.mv (.t 30))⟩])
      (.keep [0, 1, 2, 7, 8, 9, 10, 11]))
      (.seq (.seq (.seq (.reg [⟨(some 31), none, .inl (.mv (.t 9))⟩,
          ⟨(some 32), none, .inl (.bin .neq (.t 31) (.c (.int .i64 0)))⟩,
          ⟨(some 33), none, .inl (.mv (.t 32))⟩,
          ⟨(some 34), (some (33, false)), .inl (.mv (.t 11))⟩,
          ⟨(some 35), (some (33, false)), .inl (.bin .neq (.t 34) (.c (.int .i64 0)))⟩,
          ⟨(some 36), none, .inl (.pick (.t 33) (.c (.bool true)) (.t 35))⟩])
       (.keep [0, 1, 2, 7, 8, 10, 36]))
       (.cond (.t 36)
         (.seq (.seq (.reg [⟨(some 37), none, .inl (.mv (.t 7))⟩,
             ⟨(some 6), none, .inl (.mv (.t 37))⟩])
          (.keep [6]))
          (.ret))
         (.skip)))
       (.seq (.seq (.reg [⟨(some 38), none, .inl (.mv (.t 1))⟩,
           ⟨(some 39), none, .inl (.len (.t 38))⟩,
           ⟨(some 40), none, .inl (.mv (.t 2))⟩,
           ⟨(some 41), none, .inl (.len (.t 40))⟩,
           ⟨(some 42), none, .inl (.bin .eql (.t 39) (.t 41))⟩,
           ⟨(some 12), none, .inl (.mv (.t 42))⟩])
        (.keep [0, 1, 2, 7, 8, 10, 12]))
        (.seq (.seq (.seq (.reg [⟨(some 13), none, .inl (.mv (.c (.int .i64 0)))⟩])
         (.keep [0, 1, 2, 7, 8, 10, 12, 13]))
         (.block 0 (.loop [0, 1, 2, 7, 8, 10, 12, 13] (.seq (.seq (.seq (.reg [⟨(some 43), none, .inl (.mv (.t 13))⟩,
             ⟨(some 44), none, .inl (.mv (.t 1))⟩,
             ⟨(some 45), none, .inl (.len (.t 44))⟩,
             ⟨(some 46), none, .inl (.bin .lss (.t 43) (.t 45))⟩,
             ⟨(some 47), none, .inl (.mv (.t 46))⟩,
             ⟨(some 48), (some (47, true)), .inl (.mv (.t 12))⟩,
             ⟨(some 49), none, .inl (.pick (.t 47) (.t 48) (.c (.bool false)))⟩])
          (.keep [0, 1, 2, 7, 8, 10, 12, 13, 49]))
          (.cond (.t 49)
            (.skip)
            (.exit 0)))
          (.seq (.block 1 (.seq (.ord [⟨0, ⟨(some 52), none, .inl (.mv (.t 1))⟩, [], false⟩,
              ⟨1, ⟨(some 53), none, .inl (.mv (.t 13))⟩, [], false⟩,
              ⟨2, ⟨(some 54), none, .inl (.iaddr 1 (.t 52) (.t 53))⟩, [], false⟩,
              ⟨3, ⟨(some 55), none, .inl (.load false 1 (.t 54))⟩, [], false⟩,
              ⟨4, ⟨(some 56), none, .inl (.mv (.t 2))⟩, [], false⟩,
              ⟨5, ⟨(some 57), none, .inl (.mv (.t 13))⟩, [], false⟩,
              ⟨6, ⟨(some 58), none, .inl (.iaddr 1 (.t 56) (.t 57))⟩, [], false⟩,
              ⟨7, ⟨(some 59), none, .inl (.load false 1 (.t 58))⟩, [], false⟩,
              ⟨8, ⟨(some 60), none, .inl (.bin .eql (.t 55) (.t 59))⟩, [], false⟩,
              ⟨9, ⟨(some 12), none, .inl (.mv (.t 60))⟩, [], false⟩])
           (.keep [0, 1, 2, 7, 8, 10, 12, 13])))
           (.seq (.reg [⟨(some 50), none, .inl (.mv (.t 13))⟩,
               ⟨(some 51), none, .inl (.bin .add (.t 50) (.c (.int .i64 1)))⟩,
               ⟨(some 13), none, .inl (.mv (.t 51))⟩])
            (.keep [0, 1, 2, 7, 8, 10, 12, 13])))))))
         (.seq (.seq (.reg [⟨(some 14), none, .inl (.mv (.c (.int .i64 0)))⟩])
          (.keep [0, 1, 7, 8, 10, 12, 14]))
          (.seq (.seq (.seq (.reg [⟨(some 15), none, .inl (.mv (.c (.int .i64 0)))⟩])
           (.keep [0, 1, 7, 8, 10, 12, 14, 15]))
           (.block 2 (.loop [0, 1, 7, 8, 10, 12, 14, 15] (.seq (.seq (.seq (.reg [⟨(some 61), none, .inl (.mv (.t 15))⟩,
               ⟨(some 62), none, .inl (.bin .lss (.t 61) (.c (.int .i64 32)))⟩])
            (.keep [0, 1, 7, 8, 10, 12, 14, 15, 62]))
            (.cond (.t 62)
              (.skip)
              (.exit 2)))
            (.seq (.block 3 (.seq (.reg [⟨(some 65), none, .inl (.mv (.t 14))⟩,
                ⟨(some 66), none, .inl (.mv (.t 8))⟩,
                ⟨(some 67), none, .inl (.mv (.t 15))⟩,
                ⟨(some 68), none, .inl (.bin .shr (.t 66) (.t 67))⟩,
                ⟨(some 69), none, .inl (.bin .rem (.t 68) (.c (.int .i64 2)))⟩,
                ⟨(some 70), none, .inl (.bin .add (.t 65) (.t 69))⟩,
                ⟨(some 14), none, .inl (.mv (.t 70))⟩])
             (.keep [0, 1, 7, 8, 10, 12, 14, 15])))
             (.seq (.reg [⟨(some 63), none, .inl (.mv (.t 15))⟩,
                 ⟨(some 64), none, .inl (.bin .add (.t 63) (.c (.int .i64 1)))⟩,
                 ⟨(some 15), none, .inl (.mv (.t 64))⟩])
              (.keep [0, 1, 7, 8, 10, 12, 14, 15])))))))
           (.seq (.seq (.reg [⟨(some 72), none, .inl (.mv (.t 0))⟩,
               ⟨(some 73), none, .inr (.call 21 [(.t 72)])⟩,
               ⟨(some 71), none, .inl (.mv (.t 73))⟩,
               ⟨(some 74), none, .inl (.ext 0 (.t 71))⟩,
               ⟨(some 75), none, .inl (.ext 1 (.t 71))⟩,
               ⟨(some 16), none, .inl (.mv (.t 74))⟩,
               ⟨(some 17), none, .inl (.mv (.t 75))⟩])
            (.keep [1, 7, 8, 10, 12, 14, 16, 17]))
            (.seq (.seq (.reg [⟨(some 76), none, .inl (.mv (.t 7))⟩,
                ⟨(some 77), none, .inl (.mv (.t 76))⟩,
                ⟨(some 78), (some (77, true)), .inl (.mv (.t 8))⟩,
                ⟨(some 79), (some (77, true)), .inl (.mv (.t 10))⟩,
                ⟨(some 80), (some (77, true)), .inl (.bin .eql (.t 78) (.t 79))⟩,
                ⟨(some 81), (some (77, true)), .inl (.mv (.t 12))⟩,
                ⟨(some 82), (some (77, true)), .inl (.binb .eql (.t 80) (.t 81))⟩,
                ⟨(some 83), none, .inl (.pick (.t 77) (.t 82) (.c (.bool false)))⟩,
                ⟨(some 84), none, .inl (.mv (.t 83))⟩,
                ⟨(some 85), (some (84, true)), .inl (.mv (.t 14))⟩,
                ⟨(some 86), (some (84, true)), .inl (.mv (.t 1))⟩,
                ⟨(some 87), (some (84, true)), .inl (.len (.t 86))⟩,
                ⟨(some 88), (some (84, true)), .inl (.bin .eql (.t 85) (.t 87))⟩,
                ⟨(some 89), none, .inl (.pick (.t 84) (.t 88) (.c (.bool false)))⟩,
                ⟨(some 90), none, .inl (.mv (.t 89))⟩,
                ⟨(some 91), (some (90, true)), .inl (.mv (.t 17))⟩,
                ⟨(some 92), (some (90, true)), .inl (.bin .eql (.t 91) (.c (.int .i64 0)))⟩,
                ⟨(some 93), none, .inl (.pick (.t 90) (.t 92) (.c (.bool false)))⟩,
                ⟨(some 94), none, .inl (.mv (.t 93))⟩,
                ⟨(some 95), (some (94, true)), .inl (.mv (.t 8))⟩,
                ⟨(some 96), (some (94, true)), .inl (.bin .geq (.t 95) (.c (.int .i64 0)))⟩,
                ⟨(some 97), none, .inl (.pick (.t 94) (.t 96) (.c (.bool false)))⟩,
                ⟨(some 98), none, .inl (.mv (.t 97))⟩,
                ⟨(some 99), (some (98, true)), .inl (.mv (.t 8))⟩,
                ⟨(some 100), (some (98, true)), .inl (.mv (.t 16))⟩,
                ⟨(some 101), (some (98, true)), .inl (.bin .shl (.c (.int .i64 1)) (.t 100))⟩,
                ⟨(some 102), (some (98, true)), .inl (.bin .lss (.t 99) (.t 101))⟩,
                ⟨(some 103), none, .inl (.pick (.t 98) (.t 102) (.c (.bool false)))⟩,
                ⟨(some 6), none, .inl (.mv (.t 103))⟩])
             (.keep [6]))
             (.ret)))))))))))
def fc_joistlaw15_SlabBits : FC := ⟨104, cmd_joistlaw15_SlabBits, [.t 6]⟩
theorem fc_joistlaw15_SlabBits_ok : compF Try.prog 5 [[0, 1, 2], [0, 1, 2, 7], [0, 1, 2, 7, 8, 9], [0, 1, 2, 7, 8, 9, 10, 11], [0, 1, 2, 7, 8, 10, 36], [6], [0, 1, 2, 7, 8, 10, 12], [0, 1, 2, 7, 8, 10, 12, 13], [0, 1, 2, 7, 8, 10, 12, 13], [0, 1, 2, 7, 8, 10, 12, 13, 49], [0, 1, 2, 7, 8, 10, 12, 13], [0, 1, 2, 3, 4, 5, 6, 7, 8, 9], [0, 1, 2, 7, 8, 10, 12, 13], [0, 1, 7, 8, 10, 12, 14], [0, 1, 7, 8, 10, 12, 14, 15], [0, 1, 7, 8, 10, 12, 14, 15], [0, 1, 7, 8, 10, 12, 14, 15, 62], [0, 1, 7, 8, 10, 12, 14, 15], [0, 1, 7, 8, 10, 12, 14, 15], [1, 7, 8, 10, 12, 14, 16, 17], [6]] = some fc_joistlaw15_SlabBits := by kernel_rfl
/-- joist/joistlaw15.SlabBack -/
abbrev F.joistlaw15_SlabBack : Nat := 6
def cmd_joistlaw15_SlabBack : Cmd :=
  .seq (.seq (.reg [⟨(some 12), none, .inl (.mv (.c (.bool false)))⟩])
   (.keep [0, 1, 2, 3, 4, 5]))
   (.seq (.seq (.reg [⟨(some 33), none, .inr (.call 8 [])⟩,
       ⟨(some 13), none, .inl (.mv (.t 33))⟩])
    (.keep [0, 1, 2, 3, 4, 5, 13]))
    (.seq (.seq (.reg [⟨(some 34), none, .inl (.mv (.t 2))⟩,
        ⟨(some 35), none, .inr (.call 9 [(.t 34)])⟩,
        ⟨(some 14), none, .inl (.mv (.t 35))⟩])
     (.keep [0, 1, 2, 3, 4, 5, 13, 14]))
     (.seq (.seq (.seq (.reg [⟨(some 36), none, .inl (.mv (.t 14))⟩,
         ⟨(some 37), none, .inl (.un .not (.t 36))⟩,
         ⟨(some 38), none, .inl (.mv (.t 37))⟩,
         ⟨(some 39), (some (38, false)), .inl (.mv (.t 1))⟩,
         ⟨(some 40), (some (38, false)), .inl (.len (.t 39))⟩,
         ⟨(some 41), (some (38, false)), .inl (.bin .gtr (.t 40) (.c (.int .i64 60)))⟩,
         ⟨(some 42), none, .inl (.pick (.t 38) (.c (.bool true)) (.t 41))⟩])
      (.keep [0, 1, 2, 3, 4, 5, 13, 42]))
      (.cond (.t 42)
        (.seq (.seq (.reg [⟨(some 43), none, .inl (.mv (.t 13))⟩,
            ⟨(some 12), none, .inl (.mv (.t 43))⟩])
         (.keep [12]))
         (.ret))
        (.skip)))
      (.seq (.seq (.reg [⟨(some 45), none, .inl (.mv (.t 0))⟩,
          ⟨(some 46), none, .inl (.mv (.t 1))⟩,
          ⟨(some 47), none, .inl (.mv (.t 2))⟩,
          ⟨(some 48), none, .inl (.mv (.t 3))⟩,
          ⟨(some 49), none, .inl (.mv (.t 4))⟩,
          ⟨(some 50), none, .inr (.call 11 [(.t 45), (.t 46), (.t 47), (.t 48), (.t 49)])⟩,
          ⟨(some 44), none, .inl (.mv (.t 50))⟩,
          ⟨(some 51), none, .inl (.ext 0 (.t 44))⟩,
          ⟨(some 52), none, .inl (.ext 1 (.t 44))⟩,
          ⟨(some 15), none, .inl (.mv (.t 51))⟩,
          ⟨(some 16), none, .inl (.mv (.t 52))⟩])
       (.keep [0, 1, 2, 3, 4, 5, 13, 15, 16]))
       (.seq (.seq (.seq (.reg [⟨(some 53), none, .inl (.mv (.t 16))⟩,
           ⟨(some 54), none, .inl (.bin .eql (.t 53) (.c (.int .i64 0)))⟩])
        (.keep [0, 1, 2, 3, 4, 5, 13, 15, 54]))
        (.cond (.t 54)
          (.seq (.seq (.reg [⟨(some 56), none, .inl (.mv (.t 15))⟩,
              ⟨(some 57), none, .inr (.call 17 [(.t 56)])⟩,
              ⟨(some 55), none, .inl (.mv (.t 57))⟩,
              ⟨(some 58), none, .inl (.ext 0 (.t 55))⟩,
              ⟨(some 59), none, .inl (.ext 1 (.t 55))⟩,
              ⟨(some 60), none, .inl (.ext 2 (.t 55))⟩,
              ⟨(some 61), none, .inl (.ext 3 (.t 55))⟩,
              ⟨(some 62), none, .inl (.ext 4 (.t 55))⟩,
              ⟨(some 63), none, .inl (.ext 5 (.t 55))⟩,
              ⟨(some 17), none, .inl (.mv (.t 58))⟩,
              ⟨(some 18), none, .inl (.mv (.t 59))⟩,
              ⟨(some 19), none, .inl (.mv (.t 60))⟩,
              ⟨(some 20), none, .inl (.mv (.t 61))⟩,
              ⟨(some 21), none, .inl (.mv (.t 62))⟩,
              ⟨(some 22), none, .inl (.mv (.t 63))⟩])
           (.keep [0, 1, 2, 3, 4, 5, 13, 17, 18, 19, 20, 21, 22]))
           (.seq (.seq (.seq (.reg [⟨(some 64), none, .inl (.mv (.t 22))⟩,
               ⟨(some 65), none, .inl (.un .not (.t 64))⟩,
               ⟨(some 66), none, .inl (.mv (.t 65))⟩,
               ⟨(some 67), (some (66, false)), .inl (.mv (.t 17))⟩,
               ⟨(some 68), (some (66, false)), .inl (.mv (.t 0))⟩,
               ⟨(some 69), (some (66, false)), .inl (.bin .neq (.t 67) (.t 68))⟩,
               ⟨(some 70), none, .inl (.pick (.t 66) (.c (.bool true)) (.t 69))⟩,
               ⟨(some 71), none, .inl (.mv (.t 70))⟩,
               ⟨(some 72), (some (71, false)), .inl (.mv (.t 18))⟩,
               ⟨(some 73), (some (71, false)), .inl (.mv (.t 1))⟩,
               ⟨(some 74), (some (71, false)), .inr (.call 19 [(.t 72), (.t 73)])⟩,
               ⟨(some 75), (some (71, false)), .inl (.un .not (.t 74))⟩,
               ⟨(some 76), none, .inl (.pick (.t 71) (.c (.bool true)) (.t 75))⟩,
               ⟨(some 77), none, .inl (.mv (.t 76))⟩,
               ⟨(some 78), (some (77, false)), .inl (.mv (.t 19))⟩,
               ⟨(some 79), (some (77, false)), .inl (.len (.t 78))⟩,
               ⟨(some 80), (some (77, false)), .inl (.mv (.t 2))⟩,
               ⟨(some 81), (some (77, false)), .inl (.len (.t 80))⟩,
               ⟨(some 82), (some (77, false)), .inl (.bin .neq (.t 79) (.t 81))⟩,
               ⟨(some 83), none, .inl (.pick (.t 77) (.c (.bool true)) (.t 82))⟩,
               ⟨(some 84), none, .inl (.mv (.t 83))⟩,
               ⟨(some 85), (some (84, false)), .inl (.mv (.t 20))⟩,
               ⟨(some 86), (some (84, false)), .inl (.mv (.t 3))⟩,
               ⟨(some 87), (some (84, false)), .inl (.bin .neq (.t 85) (.t 86))⟩,
               ⟨(some 88), none, .inl (.pick (.t 84) (.c (.bool true)) (.t 87))⟩,
               ⟨(some 89), none, .inl (.mv (.t 88))⟩,
               ⟨(some 90), (some (89, false)), .inl (.mv (.t 21))⟩,
               ⟨(some 91), (some (89, false)), .inl (.mv (.t 4))⟩,
               ⟨(some 92), (some (89, false)), .inl (.bin .neq (.t 90) (.t 91))⟩,
               ⟨(some 93), none, .inl (.pick (.t 89) (.c (.bool true)) (.t 92))⟩])
            (.keep [2, 5, 13, 19, 93]))
            (.cond (.t 93)
              (.seq (.seq (.reg [⟨(some 12), none, .inl (.mv (.c (.bool false)))⟩])
               (.keep [12]))
               (.ret))
              (.skip)))
            (.seq (.seq (.reg [⟨(some 23), none, .inl (.mv (.c (.int .i64 0)))⟩])
             (.keep [2, 5, 13, 19, 23]))
             (.block 0 (.loop [2, 5, 13, 19, 23] (.seq (.seq (.seq (.reg [⟨(some 94), none, .inl (.mv (.t 23))⟩,
                 ⟨(some 95), none, .inl (.mv (.t 19))⟩,
                 ⟨(some 96), none, .inl (.len (.t 95))⟩,
                 ⟨(some 97), none, .inl (.bin .lss (.t 94) (.t 96))⟩])
              (.keep [2, 5, 13, 19, 23, 97]))
              (.cond (.t 97)
                (.skip)
                (.exit 0)))
              (.seq (.block 1 (.seq (.seq (.reg [⟨(some 100), none, .inl (.mv (.t 2))⟩,
                  ⟨(some 101), none, .inl (.mv (.t 23))⟩,
                  ⟨(some 102), none, .inl (.iaddr 1 (.t 100) (.t 101))⟩,
                  ⟨(some 103), none, .inl (.load false 1 (.t 102))⟩,
                  ⟨(some 104), none, .inl (.len (.t 103))⟩,
                  ⟨(some 24), none, .inl (.mv (.t 104))⟩])
               (.keep [2, 5, 13, 19, 23, 24]))
               (.seq (.seq (.ord [⟨0, ⟨(some 105), none, .inl (.mv (.t 24))⟩, [], false⟩,
                   ⟨1, ⟨(some 106), none, .inl (.mv (.t 19))⟩, [], false⟩,
                   ⟨2, ⟨(some 107), none, .inl (.mv (.t 23))⟩, [], false⟩,
                   ⟨3, ⟨(some 108), none, .inl (.iaddr 1 (.t 106) (.t 107))⟩, [], false⟩,
                   ⟨4, ⟨(some 109), none, .inl (.load false 1 (.t 108))⟩, [], false⟩,
                   ⟨5, ⟨(some 110), none, .inl (.len (.t 109))⟩, [], false⟩,
                   ⟨6, ⟨(some 111), none, .inl (.bin .gtr (.t 105) (.t 110))⟩, [], false⟩,
                   ⟨7, ⟨(some 112), none, .inl (.mv (.t 111))⟩, [], false⟩,
                   ⟨8, ⟨(some 113), (some (112, false)), .inl (.mv (.t 19))⟩, [], false⟩,
                   ⟨9, ⟨(some 114), (some (112, false)), .inl (.mv (.t 23))⟩, [], false⟩,
                   ⟨10, ⟨(some 115), (some (112, false)), .inl (.iaddr 1 (.t 113) (.t 114))⟩, [], false⟩,
                   ⟨11, ⟨(some 116), (some (112, false)), .inl (.load false 1 (.t 115))⟩, [], false⟩,
                   ⟨12, ⟨(some 117), (some (112, false)), .inl (.mv (.t 24))⟩, [], false⟩,
                   ⟨13, ⟨(some 118), (some (112, false)), .inl (.slice 1 (.t 116) none (some (.t 117)) none)⟩, [], false⟩,
                   ⟨14, ⟨(some 119), (some (112, false)), .inl (.b2s (.t 118))⟩, [], false⟩,
                   ⟨15, ⟨(some 120), (some (112, false)), .inl (.mv (.t 2))⟩, [], false⟩,
                   ⟨16, ⟨(some 121), (some (112, false)), .inl (.mv (.t 23))⟩, [], false⟩,
                   ⟨17, ⟨(some 122), (some (112, false)), .inl (.iaddr 1 (.t 120) (.t 121))⟩, [], false⟩,
                   ⟨18, ⟨(some 123), (some (112, false)), .inl (.load false 1 (.t 122))⟩, [], false⟩,
                   ⟨19, ⟨(some 124), (some (112, false)), .inl (.b2s (.t 123))⟩, [], false⟩,
                   ⟨20, ⟨(some 125), (some (112, false)), .inl (.bins .neq (.t 119) (.t 124))⟩, [], false⟩,
                   ⟨21, ⟨(some 126), none, .inl (.pick (.t 112) (.c (.bool true)) (.t 125))⟩, [], false⟩,
                   ⟨22, ⟨(some 127), none, .inl (.mv (.t 126))⟩, [], false⟩,
                   ⟨23, ⟨(some 128), (some (127, false)), .inl (.mv (.t 19))⟩, [], false⟩,
                   ⟨24, ⟨(some 129), (some (127, false)), .inl (.mv (.t 23))⟩, [], false⟩,
                   ⟨25, ⟨(some 130), (some (127, false)), .inl (.iaddr 1 (.t 128) (.t 129))⟩, [], false⟩,
                   ⟨26, ⟨(some 131), (some (127, false)), .inl (.load false 1 (.t 130))⟩, [], false⟩,
                   ⟨27, ⟨(some 132), (some (127, false)), .inl (.mv (.t 24))⟩, [], false⟩,
                   ⟨28, ⟨(some 133), (some (127, false)), .inl (.slice 1 (.t 131) (some (.t 132)) none none)⟩, [], false⟩,
                   ⟨29, ⟨(some 134), (some (127, false)), .inr (.call 22 [(.t 133)])⟩, [], false⟩,
                   ⟨30, ⟨(some 135), (some (127, false)), .inl (.un .not (.t 134))⟩, [], false⟩,
                   ⟨31, ⟨(some 136), none, .inl (.pick (.t 127) (.c (.bool true)) (.t 135))⟩, [], false⟩])
                (.keep [2, 5, 13, 19, 23, 136]))
                (.cond (.t 136)
                  (.seq (.seq (.reg [⟨(some 12), none, .inl (.mv (.c (.bool false)))⟩])
                   (.keep [12]))
                   (.ret))
                  (.skip)))))
               (.seq (.reg [⟨(some 98), none, .inl (.mv (.t 23))⟩,
                   ⟨(some 99), none, .inl (.bin .add (.t 98) (.c (.int .i64 1)))⟩,
                   ⟨(some 23), none, .inl (.mv (.t 99))⟩])
                (.keep [2, 5, 13, 19, 23])))))))))
          (.skip)))
        (.seq (.seq (.reg [⟨(some 138), none, .inl (.mv (.t 5))⟩,
            ⟨(some 139), none, .inr (.call 17 [(.t 138)])⟩,
            ⟨(some 137), none, .inl (.mv (.t 139))⟩,
            ⟨(some 140), none, .inl (.ext 0 (.t 137))⟩,
            ⟨(some 141), none, .inl (.ext 1 (.t 137))⟩,
            ⟨(some 142), none, .inl (.ext 2 (.t 137))⟩,
            ⟨(some 143), none, .inl (.ext 3 (.t 137))⟩,
            ⟨(some 144), none, .inl (.ext 4 (.t 137))⟩,
            ⟨(some 145), none, .inl (.ext 5 (.t 137))⟩,
            ⟨(some 25), none, .inl (.mv (.t 140))⟩,
            ⟨(some 26), none, .inl (.mv (.t 141))⟩,
            ⟨(some 27), none, .inl (.mv (.t 142))⟩,
            ⟨(some 28), none, .inl (.mv (.t 143))⟩,
            ⟨(some 29), none, .inl (.mv (.t 144))⟩,
            ⟨(some 30), none, .inl (.mv (.t 145))⟩])
         (.keep [5, 13, 25, 26, 27, 28, 29, 30]))
         (.seq (.seq (.seq (.reg [⟨(some 146), none, .inl (.mv (.t 30))⟩,
             ⟨(some 147), none, .inl (.un .not (.t 146))⟩])
          (.keep [5, 13, 25, 26, 27, 28, 29, 147]))
          (.cond (.t 147)
            (.seq (.seq (.reg [⟨(some 148), none, .inl (.mv (.t 13))⟩,
                ⟨(some 149), none, .inl (.mv (.t 148))⟩,
                ⟨(some 150), (some (149, true)), .inl (.mv (.t 26))⟩,
                ⟨(some 151), (some (149, true)), .inl (.len (.t 150))⟩,
                ⟨(some 152), (some (149, true)), .inl (.bin .eql (.t 151) (.c (.int .i64 0)))⟩,
                ⟨(some 153), none, .inl (.pick (.t 149) (.t 152) (.c (.bool false)))⟩,
                ⟨(some 154), none, .inl (.mv (.t 153))⟩,
                ⟨(some 155), (some (154, true)), .inl (.mv (.t 27))⟩,
                ⟨(some 156), (some (154, true)), .inl (.len (.t 155))⟩,
                ⟨(some 157), (some (154, true)), .inl (.bin .eql (.t 156) (.c (.int .i64 0)))⟩,
                ⟨(some 158), none, .inl (.pick (.t 154) (.t 157) (.c (.bool false)))⟩,
                ⟨(some 12), none, .inl (.mv (.t 158))⟩])
             (.keep [12]))
             (.ret))
            (.skip)))
          (.seq (.seq (.reg [⟨(some 160), none, .inl (.mv (.t 25))⟩,
              ⟨(some 161), none, .inl (.mv (.t 26))⟩,
              ⟨(some 162), none, .inl (.mv (.t 27))⟩,
              ⟨(some 163), none, .inl (.mv (.t 28))⟩,
              ⟨(some 164), none, .inl (.mv (.t 29))⟩,
              ⟨(some 165), none, .inr (.call 11 [(.t 160), (.t 161), (.t 162), (.t 163), (.t 164)])⟩,
              ⟨(some 159), none, .inl (.mv (.t 165))⟩,
              ⟨(some 166), none, .inl (.ext 0 (.t 159))⟩,
              ⟨(some 167), none, .inl (.ext 1 (.t 159))⟩,
              ⟨(some 31), none, .inl (.mv (.t 166))⟩,
              ⟨(some 32), none, .inl (.mv (.t 167))⟩])
           (.keep [5, 13, 31, 32]))
           (.seq (.seq (.reg [⟨(some 168), none, .inl (.mv (.t 13))⟩,
               ⟨(some 169), none, .inl (.mv (.t 168))⟩,
               ⟨(some 170), (some (169, true)), .inl (.mv (.t 32))⟩,
               ⟨(some 171), (some (169, true)), .inl (.bin .eql (.t 170) (.c (.int .i64 0)))⟩,
               ⟨(some 172), none, .inl (.pick (.t 169) (.t 171) (.c (.bool false)))⟩,
               ⟨(some 173), none, .inl (.mv (.t 172))⟩,
               ⟨(some 174), (some (173, true)), .inl (.mv (.t 31))⟩,
               ⟨(some 175), (some (173, true)), .inl (.b2s (.t 174))⟩,
               ⟨(some 176), (some (173, true)), .inl (.mv (.t 5))⟩,
               ⟨(some 177), (some (173, true)), .inl (.b2s (.t 176))⟩,
               ⟨(some 178), (some (173, true)), .inl (.bins .eql (.t 175) (.t 177))⟩,
               ⟨(some 179), none, .inl (.pick (.t 173) (.t 178) (.c (.bool false)))⟩,
               ⟨(some 12), none, .inl (.mv (.t 179))⟩])
            (.keep [12]))
            (.ret))))))))))
def fc_joistlaw15_SlabBack : FC := ⟨180, cmd_joistlaw15_SlabBack, [.t 12]⟩
theorem fc_joistlaw15_SlabBack_ok : compF Try.prog 6 [[0, 1, 2, 3, 4, 5], [0, 1, 2, 3, 4, 5, 13], [0, 1, 2, 3, 4, 5, 13, 14], [0, 1, 2, 3, 4, 5, 13, 42], [12], [0, 1, 2, 3, 4, 5, 13, 15, 16], [0, 1, 2, 3, 4, 5, 13, 15, 54], [0, 1, 2, 3, 4, 5, 13, 17, 18, 19, 20, 21, 22], [2, 5, 13, 19, 93], [12], [2, 5, 13, 19, 23], [2, 5, 13, 19, 23], [2, 5, 13, 19, 23, 97], [2, 5, 13, 19, 23, 24], [2, 5, 13, 19, 23, 136], [0, 1, 2, 3, 4, 5, 6, 7, 8, 9, 10, 11, 12, 13, 14, 15, 16, 17, 18, 19, 20, 21, 22, 23, 24, 25, 26, 27, 28, 29, 30, 31], [12], [2, 5, 13, 19, 23], [5, 13, 25, 26, 27, 28, 29, 30], [5, 13, 25, 26, 27, 28, 29, 147], [12], [5, 13, 31, 32], [12]] = some fc_joistlaw15_SlabBack := by kernel_rfl
/-- joist/joistlaw15.SlabCells -/
abbrev F.joistlaw15_SlabCells : Nat := 7
def cmd_joistlaw15_SlabCells : Cmd :=
  .seq (.seq (.reg [⟨(some 10), none, .inl (.mv (.c (.bool false)))⟩])
   (.keep [0, 1, 2, 3, 4]))
   (.seq (.seq (.reg [⟨(some 20), none, .inr (.call 8 [])⟩,
       ⟨(some 11), none, .inl (.mv (.t 20))⟩])
    (.keep [0, 1, 2, 3, 4, 11]))
    (.seq (.seq (.reg [⟨(some 21), none, .inl (.mv (.t 2))⟩,
        ⟨(some 22), none, .inr (.call 9 [(.t 21)])⟩,
        ⟨(some 12), none, .inl (.mv (.t 22))⟩])
     (.keep [0, 1, 2, 3, 4, 11, 12]))
     (.seq (.seq (.seq (.reg [⟨(some 23), none, .inl (.mv (.t 12))⟩,
         ⟨(some 24), none, .inl (.un .not (.t 23))⟩,
         ⟨(some 25), none, .inl (.mv (.t 24))⟩,
         ⟨(some 26), (some (25, false)), .inl (.mv (.t 1))⟩,
         ⟨(some 27), (some (25, false)), .inl (.len (.t 26))⟩,
         ⟨(some 28), (some (25, false)), .inl (.bin .gtr (.t 27) (.c (.int .i64 60)))⟩,
         ⟨(some 29), none, .inl (.pick (.t 25) (.c (.bool true)) (.t 28))⟩])
      (.keep [0, 1, 2, 3, 4, 11, 29]))
      (.cond (.t 29)
        (.seq (.seq (.reg [⟨(some 30), none, .inl (.mv (.t 11))⟩,
            ⟨(some 10), none, .inl (.mv (.t 30))⟩])
         (.keep [10]))
         (.ret))
        (.skip)))
      (.seq (.seq (.reg [⟨(some 32), none, .inl (.mv (.t 0))⟩,
          ⟨(some 33), none, .inl (.mv (.t 1))⟩,
          ⟨(some 34), none, .inl (.mv (.t 2))⟩,
          ⟨(some 35), none, .inl (.mv (.t 3))⟩,
          ⟨(some 36), none, .inl (.mv (.t 4))⟩,
          ⟨(some 37), none, .inr (.call 11 [(.t 32), (.t 33), (.t 34), (.t 35), (.t 36)])⟩,
          ⟨(some 31), none, .inl (.mv (.t 37))⟩,
          ⟨(some 38), none, .inl (.ext 0 (.t 31))⟩,
          ⟨(some 39), none, .inl (.ext 1 (.t 31))⟩,
          ⟨(some 13), none, .inl (.mv (.t 38))⟩,
          ⟨(some 14), none, .inl (.mv (.t 39))⟩])
       (.keep [0, 1, 2, 11, 13, 14]))
       (.seq (.seq (.seq (.reg [⟨(some 40), none, .inl (.mv (.t 14))⟩,
           ⟨(some 41), none, .inl (.bin .neq (.t 40) (.c (.int .i64 0)))⟩])
        (.keep [0, 1, 2, 11, 13, 41]))
        (.cond (.t 41)
          (.seq (.seq (.reg [⟨(some 42), none, .inl (.mv (.t 11))⟩,
              ⟨(some 43), none, .inl (.mv (.t 42))⟩,
              ⟨(some 44), (some (43, true)), .inl (.mv (.t 13))⟩,
              ⟨(some 45), (some (43, true)), .inl (.len (.t 44))⟩,
              ⟨(some 46), (some (43, true)), .inl (.bin .eql (.t 45) (.c (.int .i64 0)))⟩,
              ⟨(some 47), none, .inl (.pick (.t 43) (.t 46) (.c (.bool false)))⟩,
              ⟨(some 10), none, .inl (.mv (.t 47))⟩])
           (.keep [10]))
           (.ret))
          (.skip)))
        (.seq (.seq (.seq (.reg [⟨(some 48), none, .inl (.mv (.t 13))⟩,
            ⟨(some 49), none, .inl (.len (.t 48))⟩,
            ⟨(some 50), none, .inl (.bin .neq (.t 49) (.c (.int .i64 256)))⟩])
         (.keep [0, 1, 2, 11, 13, 50]))
         (.cond (.t 50)
           (.seq (.seq (.reg [⟨(some 10), none, .inl (.mv (.c (.bool false)))⟩])
            (.keep [10]))
            (.ret))
           (.skip)))
         (.seq (.seq (.reg [⟨(some 51), none, .inr (.bslice 1 [(.int .u8 0)] 0 [])⟩,
             ⟨(some 52), none, .inl (.mv (.t 13))⟩,
             ⟨(some 53), none, .inl (.slice 1 (.t 52) (some (.c (.int .i64 32))) none none)⟩,
             ⟨(some 54), none, .inr (.append 1 1 (.t 51) (.t 53))⟩,
             ⟨(some 15), none, .inl (.mv (.t 54))⟩])
          (.keep [0, 1, 2, 11, 13, 15]))
          (.seq (.seq (.seq (.reg [⟨(some 16), none, .inl (.mv (.c (.int .i64 0)))⟩])
           (.keep [0, 1, 2, 11, 13, 15, 16]))
           (.block 0 (.loop [0, 1, 2, 11, 13, 15, 16] (.seq (.seq (.seq (.reg [⟨(some 55), none, .inl (.mv (.t 16))⟩,
               ⟨(some 56), none, .inl (.mv (.t 1))⟩,
               ⟨(some 57), none, .inl (.len (.t 56))⟩,
               ⟨(some 58), none, .inl (.bin .lss (.t 55) (.t 57))⟩])
            (.keep [0, 1, 2, 11, 13, 15, 16, 58]))
            (.cond (.t 58)
              (.skip)
              (.exit 0)))
            (.seq (.block 1 (.seq (.seq (.reg [⟨(some 62), none, .inl (.mv (.t 0))⟩,
                ⟨(some 63), none, .inl (.mv (.t 1))⟩,
                ⟨(some 64), none, .inl (.mv (.t 16))⟩,
                ⟨(some 65), none, .inl (.iaddr 1 (.t 63) (.t 64))⟩,
                ⟨(some 66), none, .inl (.load false 1 (.t 65))⟩,
                ⟨(some 67), none, .inr (.call 23 [(.t 62), (.t 66)])⟩,
                ⟨(some 61), none, .inl (.mv (.t 67))⟩,
                ⟨(some 68), none, .inl (.ext 0 (.t 61))⟩,
                ⟨(some 69), none, .inl (.ext 1 (.t 61))⟩,
                ⟨(some 17), none, .inl (.mv (.t 68))⟩,
                ⟨(some 18), none, .inl (.mv (.t 69))⟩])
             (.keep [0, 1, 2, 11, 13, 15, 16, 17, 18]))
             (.seq (.seq (.seq (.ord [⟨0, ⟨(some 70), none, .inl (.mv (.t 18))⟩, [], false⟩,
                 ⟨1, ⟨(some 71), none, .inl (.bin .neq (.t 70) (.c (.int .i64 0)))⟩, [], false⟩,
                 ⟨2, ⟨(some 72), none, .inl (.mv (.t 71))⟩, [], false⟩,
                 ⟨3, ⟨(some 73), (some (72, false)), .inl (.mv (.t 17))⟩, [], false⟩,
                 ⟨4, ⟨(some 74), (some (72, false)), .inl (.bin .lss (.t 73) (.c (.int .i64 4)))⟩, [], false⟩,
                 ⟨5, ⟨(some 75), none, .inl (.pick (.t 72) (.c (.bool true)) (.t 74))⟩, [], false⟩,
                 ⟨6, ⟨(some 76), none, .inl (.mv (.t 75))⟩, [], false⟩,
                 ⟨7, ⟨(some 77), (some (76, false)), .inl (.mv (.t 17))⟩, [], false⟩,
                 ⟨8, ⟨(some 78), (some (76, false)), .inl (.bin .mul (.c (.int .i64 8)) (.t 77))⟩, [], false⟩,
                 ⟨9, ⟨(some 79), (some (76, false)), .inl (.mv (.t 2))⟩, [], false⟩,
                 ⟨10, ⟨(some 80), (some (76, false)), .inl (.mv (.t 16))⟩, [], false⟩,
                 ⟨11, ⟨(some 81), (some (76, false)), .inl (.iaddr 1 (.t 79) (.t 80))⟩, [], false⟩,
                 ⟨12, ⟨(some 82), (some (76, false)), .inl (.load false 1 (.t 81))⟩, [], false⟩,
                 ⟨13, ⟨(some 83), (some (76, false)), .inl (.len (.t 82))⟩, [], false⟩,
                 ⟨14, ⟨(some 84), (some (76, false)), .inl (.bin .add (.t 78) (.t 83))⟩, [], false⟩,
                 ⟨15, ⟨(some 85), (some (76, false)), .inl (.mv (.t 13))⟩, [], false⟩,
                 ⟨16, ⟨(some 86), (some (76, false)), .inl (.len (.t 85))⟩, [], false⟩,
                 ⟨17, ⟨(some 87), (some (76, false)), .inl (.bin .gtr (.t 84) (.t 86))⟩, [], false⟩,
                 ⟨18, ⟨(some 88), none, .inl (.pick (.t 76) (.c (.bool true)) (.t 87))⟩, [], false⟩,
                 ⟨19, ⟨(some 89), none, .inl (.mv (.t 88))⟩, [], false⟩,
                 ⟨20, ⟨(some 90), (some (89, false)), .inl (.mv (.t 13))⟩, [], false⟩,
                 ⟨21, ⟨(some 91), (some (89, false)), .inl (.mv (.t 17))⟩, [], false⟩,
                 ⟨22, ⟨(some 92), (some (89, false)), .inl (.bin .mul (.c (.int .i64 8)) (.t 91))⟩, [], false⟩,
                 ⟨23, ⟨(some 93), (some (89, false)), .inl (.mv (.t 17))⟩, [], false⟩,
                 ⟨24, ⟨(some 94), (some (89, false)), .inl (.bin .mul (.c (.int .i64 8)) (.t 93))⟩, [], false⟩,
                 ⟨25, ⟨(some 95), (some (89, false)), .inl (.mv (.t 2))⟩, [], false⟩,
                 ⟨26, ⟨(some 96), (some (89, false)), .inl (.mv (.t 16))⟩, [], false⟩,
                 ⟨27, ⟨(some 97), (some (89, false)), .inl (.iaddr 1 (.t 95) (.t 96))⟩, [], false⟩,
                 ⟨28, ⟨(some 98), (some (89, false)), .inl (.load false 1 (.t 97))⟩, [], false⟩,
                 ⟨29, ⟨(some 99), (some (89, false)), .inl (.len (.t 98))⟩, [], false⟩,
                 ⟨30, ⟨(some 100), (some (89, false)), .inl (.bin .add (.t 94) (.t 99))⟩, [], false⟩,
                 ⟨31, ⟨(some 101), (some (89, false)), .inl (.slice 1 (.t 90) (some (.t 92)) (some (.t 100)) none)⟩, [], false⟩,
                 ⟨32, ⟨(some 102), (some (89, false)), .inl (.b2s (.t 101))⟩, [], false⟩,
                 ⟨33, ⟨(some 103), (some (89, false)), .inl (.mv (.t 2))⟩, [], false⟩,
                 ⟨34, ⟨(some 104), (some (89, false)), .inl (.mv (.t 16))⟩, [], false⟩,
                 ⟨35, ⟨(some 105), (some (89, false)), .inl (.iaddr 1 (.t 103) (.t 104))⟩, [], false⟩,
                 ⟨36, ⟨(some 106), (some (89, false)), .inl (.load false 1 (.t 105))⟩, [], false⟩,
                 ⟨37, ⟨(some 107), (some (89, false)), .inl (.b2s (.t 106))⟩, [], false⟩,
                 ⟨38, ⟨(some 108), (some (89, false)), .inl (.bins .neq (.t 102) (.t 107))⟩, [], false⟩,
                 ⟨39, ⟨(some 109), none, .inl (.pick (.t 89) (.c (.bool true)) (.t 108))⟩, [], false⟩])
              (.keep [0, 1, 2, 11, 13, 15, 16, 17, 109]))
              (.cond (.t 109)
                (.seq (.seq (.reg [⟨(some 10), none, .inl (.mv (.c (.bool false)))⟩])
                 (.keep [10]))
                 (.ret))
                (.skip)))
              (.seq (.seq (.reg [⟨(some 19), none, .inl (.mv (.c (.int .i64 0)))⟩])
               (.keep [0, 1, 2, 11, 13, 15, 16, 17, 19]))
               (.block 2 (.loop [0, 1, 2, 11, 13, 15, 16, 17, 19] (.seq (.seq (.seq (.reg [⟨(some 110), none, .inl (.mv (.t 19))⟩,
                   ⟨(some 111), none, .inl (.mv (.t 2))⟩,
                   ⟨(some 112), none, .inl (.mv (.t 16))⟩,
                   ⟨(some 113), none, .inl (.iaddr 1 (.t 111) (.t 112))⟩,
                   ⟨(some 114), none, .inl (.load false 1 (.t 113))⟩,
                   ⟨(some 115), none, .inl (.len (.t 114))⟩,
                   ⟨(some 116), none, .inl (.bin .lss (.t 110) (.t 115))⟩])
                (.keep [0, 1, 2, 11, 13, 15, 16, 17, 19, 116]))
                (.cond (.t 116)
                  (.skip)
                  (.exit 2)))
                (.seq (.block 3 (.seq (.reg [⟨(some 119), none, .inl (.mv (.t 15))⟩,
                    ⟨(some 120), none, .inl (.mv (.t 17))⟩,
                    ⟨(some 121), none, .inl (.bin .mul (.c (.int .i64 8)) (.t 120))⟩,
                    ⟨(some 122), none, .inl (.bin .sub (.t 121) (.c (.int .i64 32)))⟩,
                    ⟨(some 123), none, .inl (.mv (.t 19))⟩,
                    ⟨(some 124), none, .inl (.bin .add (.t 122) (.t 123))⟩,
                    ⟨(some 125), none, .inl (.iaddr 1 (.t 119) (.t 124))⟩,
                    ⟨none, none, .inr (.store 1 (.t 125) (.c (.int .u8 0)))⟩])
                 (.keep [0, 1, 2, 11, 13, 15, 16, 17, 19])))
                 (.seq (.reg [⟨(some 117), none, .inl (.mv (.t 19))⟩,
                     ⟨(some 118), none, .inl (.bin .add (.t 117) (.c (.int .i64 1)))⟩,
                     ⟨(some 19), none, .inl (.mv (.t 118))⟩])
                  (.keep [0, 1, 2, 11, 13, 15, 16, 17, 19]))))))))))
             (.seq (.reg [⟨(some 59), none, .inl (.mv (.t 16))⟩,
                 ⟨(some 60), none, .inl (.bin .add (.t 59) (.c (.int .i64 1)))⟩,
                 ⟨(some 16), none, .inl (.mv (.t 60))⟩])
              (.keep [0, 1, 2, 11, 13, 15, 16])))))))
           (.seq (.seq (.reg [⟨(some 126), none, .inl (.mv (.t 11))⟩,
               ⟨(some 127), none, .inl (.mv (.t 126))⟩,
               ⟨(some 128), (some (127, true)), .inl (.mv (.t 15))⟩,
               ⟨(some 129), (some (127, true)), .inr (.call 22 [(.t 128)])⟩,
               ⟨(some 130), none, .inl (.pick (.t 127) (.t 129) (.c (.bool false)))⟩,
               ⟨(some 10), none, .inl (.mv (.t 130))⟩])
            (.keep [10]))
            (.ret))))))))))
def fc_joistlaw15_SlabCells : FC := ⟨131, cmd_joistlaw15_SlabCells, [.t 10]⟩
theorem fc_joistlaw15_SlabCells_ok : compF Try.prog 7 [[0, 1, 2, 3, 4], [0, 1, 2, 3, 4, 11], [0, 1, 2, 3, 4, 11, 12], [0, 1, 2, 3, 4, 11, 29], [10], [0, 1, 2, 11, 13, 14], [0, 1, 2, 11, 13, 41], [10], [0, 1, 2, 11, 13, 50], [10], [0, 1, 2, 11, 13, 15], [0, 1, 2, 11, 13, 15, 16], [0, 1, 2, 11, 13, 15, 16], [0, 1, 2, 11, 13, 15, 16, 58], [0, 1, 2, 11, 13, 15, 16, 17, 18], [0, 1, 2, 11, 13, 15, 16, 17, 109], [0, 1, 2, 3, 4, 5, 6, 7, 8, 9, 10, 11, 12, 13, 14, 15, 16, 17, 18, 19, 20, 21, 22, 23, 24, 25, 26, 27, 28, 29, 30, 31, 32, 33, 34, 35, 36, 37, 38, 39], [10], [0, 1, 2, 11, 13, 15, 16, 17, 19], [0, 1, 2, 11, 13, 15, 16, 17, 19], [0, 1, 2, 11, 13, 15, 16, 17, 19, 116], [0, 1, 2, 11, 13, 15, 16, 17, 19], [0, 1, 2, 11, 13, 15, 16, 17, 19], [0, 1, 2, 11, 13, 15, 16], [10]] = some fc_joistlaw15_SlabCells := by kernel_rfl
/-- joist/joistlaw15.small -/
abbrev F.joistlaw15_small : Nat := 8
def cmd_joistlaw15_small : Cmd :=
  .seq (.seq (.reg [⟨(some 0), none, .inl (.mv (.c (.bool false)))⟩])
   (.keep []))
   (.seq (.seq (.reg [⟨(some 12), none, .inr (.bslice 1 [(.int .i64 0)] 1 [(0, (.c (.int .i64 1)))])⟩,
       ⟨(some 13), none, .inr (.bslice 1 [(.int .u8 0)] 1 [(0, (.c (.int .u8 7)))])⟩,
       ⟨(some 14), none, .inr (.bslice 1 [.nils] 1 [(0, (.t 13))])⟩,
       ⟨(some 15), none, .inr (.call 11 [(.c (.int .i64 0)), (.t 12), (.t 14), (.c (.int .i64 0)), (.c (.int .i64 0))])⟩,
       ⟨(some 11), none, .inl (.mv (.t 15))⟩,
       ⟨(some 16), none, .inl (.ext 0 (.t 11))⟩,
       ⟨(some 17), none, .inl (.ext 1 (.t 11))⟩,
       ⟨(some 1), none, .inl (.mv (.t 16))⟩,
       ⟨(some 2), none, .inl (.mv (.t 17))⟩])
    (.keep [1, 2]))
    (.seq (.seq (.reg [⟨(some 19), none, .inl (.mv (.t 1))⟩,
        ⟨(some 20), none, .inr (.call 17 [(.t 19)])⟩,
        ⟨(some 18), none, .inl (.mv (.t 20))⟩,
        ⟨(some 21), none, .inl (.ext 0 (.t 18))⟩,
        ⟨(some 22), none, .inl (.ext 1 (.t 18))⟩,
        ⟨(some 23), none, .inl (.ext 2 (.t 18))⟩,
        ⟨(some 24), none, .inl (.ext 3 (.t 18))⟩,
        ⟨(some 25), none, .inl (.ext 4 (.t 18))⟩,
        ⟨(some 26), none, .inl (.ext 5 (.t 18))⟩,
        ⟨(some 3), none, .inl (.mv (.t 21))⟩,
        ⟨(some 4), none, .inl (.mv (.t 22))⟩,
        ⟨(some 5), none, .inl (.mv (.t 23))⟩,
        ⟨(some 6), none, .inl (.mv (.t 24))⟩,
        ⟨(some 7), none, .inl (.mv (.t 25))⟩,
        ⟨(some 8), none, .inl (.mv (.t 26))⟩])
     (.keep [1, 2, 3, 4, 5, 6, 7, 8]))
     (.seq (.seq (.reg [⟨(some 28), none, .inr (.bslice 1 [(.int .i64 0)] 2 [(0, (.c (.int .i64 0))), (1, (.c (.int .i64 2)))])⟩,
         ⟨(some 29), none, .inr (.call 15 [(.c (.int .i64 0)), (.t 28)])⟩,
         ⟨(some 27), none, .inl (.mv (.t 29))⟩,
         ⟨(some 30), none, .inl (.ext 0 (.t 27))⟩,
         ⟨(some 31), none, .inl (.ext 1 (.t 27))⟩,
         ⟨(some 9), none, .inl (.mv (.t 30))⟩,
         ⟨(some 10), none, .inl (.mv (.t 31))⟩])
      (.keep [1, 2, 3, 4, 5, 6, 7, 8, 9, 10]))
      (.seq (.seq (.reg [⟨(some 32), none, .inl (.mv (.t 2))⟩,
          ⟨(some 33), none, .inl (.bin .eql (.t 32) (.c (.int .i64 0)))⟩,
          ⟨(some 34), none, .inl (.mv (.t 33))⟩,
          ⟨(some 35), (some (34, true)), .inl (.mv (.t 1))⟩,
          ⟨(some 36), (some (34, true)), .inl (.len (.t 35))⟩,
          ⟨(some 37), (some (34, true)), .inl (.bin .eql (.t 36) (.c (.int .i64 256)))⟩,
          ⟨(some 38), none, .inl (.pick (.t 34) (.t 37) (.c (.bool false)))⟩,
          ⟨(some 39), none, .inl (.mv (.t 38))⟩,
          ⟨(some 40), (some (39, true)), .inl (.mv (.t 1))⟩,
          ⟨(some 41), (some (39, true)), .inl (.iaddr 1 (.t 40) (.c (.int .i64 0)))⟩,
          ⟨(some 42), (some (39, true)), .inl (.load false 1 (.t 41))⟩,
          ⟨(some 43), (some (39, true)), .inl (.bin .eql (.t 42) (.c (.int .u8 1)))⟩,
          ⟨(some 44), none, .inl (.pick (.t 39) (.t 43) (.c (.bool false)))⟩,
          ⟨(some 45), none, .inl (.mv (.t 44))⟩,
          ⟨(some 46), (some (45, true)), .inl (.mv (.t 1))⟩,
          ⟨(some 47), (some (45, true)), .inl (.iaddr 1 (.t 46) (.c (.int .i64 8)))⟩,
          ⟨(some 48), (some (45, true)), .inl (.load false 1 (.t 47))⟩,
          ⟨(some 49), (some (45, true)), .inl (.bin .eql (.t 48) (.c (.int .u8 2)))⟩,
          ⟨(some 50), none, .inl (.pick (.t 45) (.t 49) (.c (.bool false)))⟩,
          ⟨(some 51), none, .inl (.mv (.t 50))⟩,
          ⟨(some 52), (some (51, true)), .inl (.mv (.t 1))⟩,
          ⟨(some 53), (some (51, true)), .inl (.iaddr 1 (.t 52) (.c (.int .i64 48)))⟩,
          ⟨(some 54), (some (51, true)), .inl (.load false 1 (.t 53))⟩,
          ⟨(some 55), (some (51, true)), .inl (.bin .eql (.t 54) (.c (.int .u8 7)))⟩,
          ⟨(some 56), none, .inl (.pick (.t 51) (.t 55) (.c (.bool false)))⟩,
          ⟨(some 57), none, .inl (.mv (.t 56))⟩,
          ⟨(some 58), (some (57, true)), .inl (.mv (.t 8))⟩,
          ⟨(some 59), none, .inl (.pick (.t 57) (.t 58) (.c (.bool false)))⟩,
          ⟨(some 60), none, .inl (.mv (.t 59))⟩,
          ⟨(some 61), (some (60, true)), .inl (.mv (.t 3))⟩,
          ⟨(some 62), (some (60, true)), .inl (.bin .eql (.t 61) (.c (.int .i64 0)))⟩,
          ⟨(some 63), none, .inl (.pick (.t 60) (.t 62) (.c (.bool false)))⟩,
          ⟨(some 64), none, .inl (.mv (.t 63))⟩,
          ⟨(some 65), (some (64, true)), .inl (.mv (.t 4))⟩,
          ⟨(some 66), (some (64, true)), .inl (.len (.t 65))⟩,
          ⟨(some 67), (some (64, true)), .inl (.bin .eql (.t 66) (.c (.int .i64 1)))⟩,
          ⟨(some 68), none, .inl (.pick (.t 64) (.t 67) (.c (.bool false)))⟩,
          ⟨(some 69), none, .inl (.mv (.t 68))⟩,
          ⟨(some 70), (some (69, true)), .inl (.mv (.t 4))⟩,
          ⟨(some 71), (some (69, true)), .inl (.iaddr 1 (.t 70) (.c (.int .i64 0)))⟩,
          ⟨(some 72), (some (69, true)), .inl (.load false 1 (.t 71))⟩,
          ⟨(some 73), (some (69, true)), .inl (.bin .eql (.t 72) (.c (.int .i64 1)))⟩,
          ⟨(some 74), none, .inl (.pick (.t 69) (.t 73) (.c (.bool false)))⟩,
          ⟨(some 75), none, .inl (.mv (.t 74))⟩,
          ⟨(some 76), (some (75, true)), .inl (.mv (.t 5))⟩,
          ⟨(some 77), (some (75, true)), .inl (.len (.t 76))⟩,
          ⟨(some 78), (some (75, true)), .inl (.bin .eql (.t 77) (.c (.int .i64 1)))⟩,
          ⟨(some 79), none, .inl (.pick (.t 75) (.t 78) (.c (.bool false)))⟩,
          ⟨(some 80), none, .inl (.mv (.t 79))⟩,
          ⟨(some 81), (some (80, true)), .inl (.mv (.t 5))⟩,
          ⟨(some 82), (some (80, true)), .inl (.iaddr 1 (.t 81) (.c (.int .i64 0)))⟩,
          ⟨(some 83), (some (80, true)), .inl (.load false 1 (.t 82))⟩,
          ⟨(some 84), (some (80, true)), .inl (.len (.t 83))⟩,
          ⟨(some 85), (some (80, true)), .inl (.bin .eql (.t 84) (.c (.int .i64 16)))⟩,
          ⟨(some 86), none, .inl (.pick (.t 80) (.t 85) (.c (.bool false)))⟩,
          ⟨(some 87), none, .inl (.mv (.t 86))⟩,
          ⟨(some 88), (some (87, true)), .inl (.mv (.t 6))⟩,
          ⟨(some 89), (some (87, true)), .inl (.bin .eql (.t 88) (.c (.int .i64 0)))⟩,
          ⟨(some 90), none, .inl (.pick (.t 87) (.t 89) (.c (.bool false)))⟩,
          ⟨(some 91), none, .inl (.mv (.t 90))⟩,
          ⟨(some 92), (some (91, true)), .inl (.mv (.t 7))⟩,
          ⟨(some 93), (some (91, true)), .inl (.bin .eql (.t 92) (.c (.int .i64 0)))⟩,
          ⟨(some 94), none, .inl (.pick (.t 91) (.t 93) (.c (.bool false)))⟩,
          ⟨(some 95), none, .inl (.mv (.t 94))⟩,
          ⟨(some 96), (some (95, true)), .inl (.mv (.t 10))⟩,
          ⟨(some 97), (some (95, true)), .inl (.bin .eql (.t 96) (.c (.int .i64 0)))⟩,
          ⟨(some 98), none, .inl (.pick (.t 95) (.t 97) (.c (.bool false)))⟩,
          ⟨(some 99), none, .inl (.mv (.t 98))⟩,
          ⟨(some 100), (some (99, true)), .inl (.mv (.t 9))⟩,
          ⟨(some 101), (some (99, true)), .inl (.bin .eql (.t 100) (.c (.int .i64 5)))⟩,
          ⟨(some 102), none, .inl (.pick (.t 99) (.t 101) (.c (.bool false)))⟩,
          ⟨(some 0), none, .inl (.mv (.t 102))⟩])
       (.keep [0]))
       (.ret)))))
def fc_joistlaw15_small : FC := ⟨103, cmd_joistlaw15_small, [.t 0]⟩
theorem fc_joistlaw15_small_ok : compF Try.prog 8 [[], [1, 2], [1, 2, 3, 4, 5, 6, 7, 8], [1, 2, 3, 4, 5, 6, 7, 8, 9, 10], [0]] = some fc_joistlaw15_small := by kernel_rfl
/-- joist/joistlaw15.few -/
abbrev F.joistlaw15_few : Nat := 9
def cmd_joistlaw15_few : Cmd :=
  .seq (.seq (.reg [⟨(some 2), none, .inl (.mv (.c (.bool false)))⟩])
   (.keep [0]))
   (.seq (.seq (.seq (.reg [⟨(some 3), none, .inl (.mv (.c (.int .i64 0)))⟩])
    (.keep [0, 3]))
    (.block 0 (.loop [0, 3] (.seq (.seq (.seq (.reg [⟨(some 4), none, .inl (.mv (.t 3))⟩,
        ⟨(some 5), none, .inl (.mv (.t 0))⟩,
        ⟨(some 6), none, .inl (.len (.t 5))⟩,
        ⟨(some 7), none, .inl (.bin .lss (.t 4) (.t 6))⟩])
     (.keep [0, 3, 7]))
     (.cond (.t 7)
       (.skip)
       (.exit 0)))
     (.seq (.block 1 (.seq (.seq (.reg [⟨(some 10), none, .inl (.mv (.t 0))⟩,
         ⟨(some 11), none, .inl (.mv (.t 3))⟩,
         ⟨(some 12), none, .inl (.iaddr 1 (.t 10) (.t 11))⟩,
         ⟨(some 13), none, .inl (.load false 1 (.t 12))⟩,
         ⟨(some 14), none, .inl (.len (.t 13))⟩,
         ⟨(some 15), none, .inl (.bin .gtr (.t 14) (.c (.int .i64 4096)))⟩])
      (.keep [0, 3, 15]))
      (.cond (.t 15)
        (.seq (.seq (.reg [⟨(some 2), none, .inl (.mv (.c (.bool false)))⟩])
         (.keep [2]))
         (.ret))
        (.skip))))
      (.seq (.reg [⟨(some 8), none, .inl (.mv (.t 3))⟩,
          ⟨(some 9), none, .inl (.bin .add (.t 8) (.c (.int .i64 1)))⟩,
          ⟨(some 3), none, .inl (.mv (.t 9))⟩])
       (.keep [0, 3])))))))
    (.seq (.seq (.reg [⟨(some 16), none, .inl (.mv (.t 0))⟩,
        ⟨(some 17), none, .inl (.len (.t 16))⟩,
        ⟨(some 18), none, .inl (.bin .leq (.t 17) (.c (.int .i64 60)))⟩,
        ⟨(some 2), none, .inl (.mv (.t 18))⟩])
     (.keep [2]))
     (.ret)))
def fc_joistlaw15_few : FC := ⟨19, cmd_joistlaw15_few, [.t 2]⟩
theorem fc_joistlaw15_few_ok : compF Try.prog 9 [[0], [0, 3], [0, 3], [0, 3, 7], [0, 3, 15], [2], [0, 3], [2]] = some fc_joistlaw15_few := by kernel_rfl
/-- joist/joistlaw01.Lent -/
abbrev F.joistlaw01_Lent : Nat := 10
def cmd_joistlaw01_Lent : Cmd :=
  .seq (.seq (.reg [⟨(some 2), none, .inl (.mv (.c .nils))⟩])
   (.keep [0]))
   (.seq (.seq (.reg [⟨(some 4), none, .inl (.mv (.t 0))⟩,
       ⟨(some 5), none, .inl (.len (.t 4))⟩,
       ⟨(some 6), none, .inl (.mv (.t 0))⟩,
       ⟨(some 7), none, .inl (.len (.t 6))⟩,
       ⟨(some 8), none, .inl (.bin .add (.t 7) (.c (.int .i64 1)))⟩,
       ⟨(some 9), none, .inr (.mksl 1 1 [(.int .u8 0)] (.t 5) (.t 8))⟩,
       ⟨(some 3), none, .inl (.mv (.t 9))⟩])
    (.keep [0, 3]))
    (.seq (.seq (.reg [⟨(some 10), none, .inl (.mv (.t 3))⟩,
        ⟨(some 11), none, .inl (.mv (.t 0))⟩,
        ⟨(some 12), none, .inr (.copy 1 (.t 10) (.t 11))⟩])
     (.keep [0, 3]))
     (.seq (.seq (.reg [⟨(some 13), none, .inl (.mv (.t 3))⟩,
         ⟨(some 14), none, .inl (.mv (.t 0))⟩,
         ⟨(some 15), none, .inl (.len (.t 14))⟩,
         ⟨(some 16), none, .inl (.bin .add (.t 15) (.c (.int .i64 1)))⟩,
         ⟨(some 17), none, .inl (.slice 1 (.t 13) none (some (.t 16)) none)⟩,
         ⟨(some 18), none, .inl (.mv (.t 0))⟩,
         ⟨(some 19), none, .inl (.len (.t 18))⟩,
         ⟨(some 20), none, .inl (.iaddr 1 (.t 17) (.t 19))⟩,
         ⟨none, none, .inr (.store 1 (.t 20) (.c (.int .u8 77)))⟩])
      (.keep [3]))
      (.seq (.seq (.reg [⟨(some 21), none, .inl (.mv (.t 3))⟩,
          ⟨(some 2), none, .inl (.mv (.t 21))⟩])
       (.keep [2]))
       (.ret)))))
def fc_joistlaw01_Lent : FC := ⟨22, cmd_joistlaw01_Lent, [.t 2]⟩
theorem fc_joistlaw01_Lent_ok : compF Try.prog 10 [[0], [0, 3], [0, 3], [3], [2]] = some fc_joistlaw01_Lent := by kernel_rfl
/-- joist/slab.Write -/
abbrev F.slab_Write : Nat := 11
def cmd_slab_Write : Cmd :=
  .seq (.seq (.reg [⟨(some 10), none, .inl (.mv (.c .nils))⟩,
      ⟨(some 11), none, .inl (.mv (.c (.int .i64 0)))⟩])
   (.keep [0, 1, 2, 3, 4]))
   (.seq (.seq (.reg [⟨(some 21), none, .inl (.mv (.t 0))⟩,
       ⟨(some 22), none, .inl (.mv (.t 1))⟩,
       ⟨(some 23), none, .inr (.call 15 [(.t 21), (.t 22)])⟩,
       ⟨(some 20), none, .inl (.mv (.t 23))⟩,
       ⟨(some 24), none, .inl (.ext 0 (.t 20))⟩,
       ⟨(some 25), none, .inl (.ext 1 (.t 20))⟩,
       ⟨(some 12), none, .inl (.mv (.t 24))⟩,
       ⟨(some 13), none, .inl (.mv (.t 25))⟩])
    (.keep [0, 1, 2, 3, 4, 12, 13]))
    (.seq (.seq (.seq (.reg [⟨(some 26), none, .inl (.mv (.t 13))⟩,
        ⟨(some 27), none, .inl (.bin .neq (.t 26) (.c (.int .i64 0)))⟩,
        ⟨(some 28), none, .inl (.mv (.t 27))⟩,
        ⟨(some 29), (some (28, false)), .inl (.mv (.t 1))⟩,
        ⟨(some 30), (some (28, false)), .inl (.len (.t 29))⟩,
        ⟨(some 31), (some (28, false)), .inl (.bin .eql (.t 30) (.c (.int .i64 0)))⟩,
        ⟨(some 32), none, .inl (.pick (.t 28) (.c (.bool true)) (.t 31))⟩,
        ⟨(some 33), none, .inl (.mv (.t 32))⟩,
        ⟨(some 34), (some (33, false)), .inl (.mv (.t 1))⟩,
        ⟨(some 35), (some (33, false)), .inl (.len (.t 34))⟩,
        ⟨(some 36), (some (33, false)), .inl (.mv (.t 2))⟩,
        ⟨(some 37), (some (33, false)), .inl (.len (.t 36))⟩,
        ⟨(some 38), (some (33, false)), .inl (.bin .neq (.t 35) (.t 37))⟩,
        ⟨(some 39), none, .inl (.pick (.t 33) (.c (.bool true)) (.t 38))⟩,
        ⟨(some 40), none, .inl (.mv (.t 39))⟩,
        ⟨(some 41), (some (40, false)), .inl (.mv (.t 3))⟩,
        ⟨(some 42), (some (40, false)), .inr (.call 24 [(.t 41)])⟩,
        ⟨(some 43), (some (40, false)), .inl (.un .not (.t 42))⟩,
        ⟨(some 44), none, .inl (.pick (.t 40) (.c (.bool true)) (.t 43))⟩,
        ⟨(some 45), none, .inl (.mv (.t 44))⟩,
        ⟨(some 46), (some (45, false)), .inl (.mv (.t 4))⟩,
        ⟨(some 47), (some (45, false)), .inr (.call 24 [(.t 46)])⟩,
        ⟨(some 48), (some (45, false)), .inl (.un .not (.t 47))⟩,
        ⟨(some 49), none, .inl (.pick (.t 45) (.c (.bool true)) (.t 48))⟩])
     (.keep [0, 1, 2, 3, 4, 12, 49]))
     (.cond (.t 49)
       (.seq (.seq (.reg [⟨(some 10), none, .inl (.mv (.c .nils))⟩,
           ⟨(some 11), none, .inl (.mv (.c (.int .i64 1)))⟩])
        (.keep [10, 11]))
        (.ret))
       (.skip)))
     (.seq (.seq (.reg [⟨(some 50), none, .inr (.mksl 1 1 [(.int .u8 0)] (.c (.int .i64 256)) (.c (.int .i64 256)))⟩,
         ⟨(some 14), none, .inl (.mv (.t 50))⟩])
      (.keep [0, 1, 2, 3, 4, 12, 14]))
      (.seq (.seq (.reg [⟨(some 52), none, .inl (.mv (.t 0))⟩,
          ⟨(some 53), none, .inl (.bin .add (.t 52) (.c (.int .i64 1)))⟩,
          ⟨(some 54), none, .inl (.mv (.t 12))⟩,
          ⟨(some 55), none, .inl (.mv (.t 3))⟩,
          ⟨(some 56), none, .inl (.mv (.t 4))⟩,
          ⟨(some 57), none, .inr (.bslice 1 [(.int .i64 0)] 4 [(0, (.t 53)), (1, (.t 54)), (2, (.t 55)), (3, (.t 56))])⟩,
          ⟨(some 58), none, .inr (.call 25 [(.t 57)])⟩,
          ⟨(some 51), none, .inl (.mv (.t 58))⟩,
          ⟨(some 59), none, .inl (.ext 0 (.t 51))⟩,
          ⟨(some 60), none, .inl (.ext 1 (.t 51))⟩,
          ⟨(some 15), none, .inl (.mv (.t 59))⟩,
          ⟨(some 16), none, .inl (.mv (.t 60))⟩])
       (.keep [0, 1, 2, 14, 15]))
       (.seq (.seq (.reg [⟨(some 61), none, .inl (.mv (.t 14))⟩,
           ⟨(some 62), none, .inl (.mv (.t 15))⟩,
           ⟨(some 63), none, .inr (.copy 1 (.t 61) (.t 62))⟩])
        (.keep [0, 1, 2, 14]))
        (.seq (.seq (.seq (.reg [⟨(some 64), none, .inl (.mv (.t 1))⟩,
            ⟨(some 65), none, .inl (.len (.t 64))⟩,
            ⟨(some 66), none, .inl (.mv (.c (.int .i64 0)))⟩])
         (.keep [0, 2, 14, 64, 65, 66]))
         (.block 0 (.loop [0, 2, 14, 64, 65, 66] (.seq (.seq (.reg [⟨(some 67), none, .inl (.bin .lss (.t 66) (.t 65))⟩])
          (.keep [0, 2, 14, 64, 65, 66, 67]))
          (.seq (.cond (.t 67)
            (.skip)
            (.exit 0))
           (.seq (.block 1 (.seq (.seq (.reg [⟨(some 68), none, .inl (.mv (.t 66))⟩,
               ⟨(some 69), none, .inl (.iaddr 1 (.t 64) (.t 66))⟩,
               ⟨(some 70), none, .inl (.load false 1 (.t 69))⟩,
               ⟨(some 17), none, .inl (.mv (.t 68))⟩,
               ⟨(some 18), none, .inl (.mv (.t 70))⟩])
            (.keep [0, 2, 14, 17, 18, 64, 65, 66]))
            (.seq (.seq (.reg [⟨(some 71), none, .inl (.mv (.t 14))⟩,
                ⟨(some 72), none, .inl (.mv (.t 0))⟩,
                ⟨(some 73), none, .inl (.mv (.t 18))⟩,
                ⟨(some 74), none, .inr (.call 26 [(.t 71), (.t 72), (.t 73)])⟩,
                ⟨(some 19), none, .inl (.mv (.t 74))⟩])
             (.keep [0, 2, 14, 17, 19, 64, 65, 66]))
             (.seq (.seq (.seq (.reg [⟨(some 75), none, .inl (.mv (.t 2))⟩,
                 ⟨(some 76), none, .inl (.mv (.t 17))⟩,
                 ⟨(some 77), none, .inl (.iaddr 1 (.t 75) (.t 76))⟩,
                 ⟨(some 78), none, .inl (.load false 1 (.t 77))⟩,
                 ⟨(some 79), none, .inl (.len (.t 78))⟩,
                 ⟨(some 80), none, .inl (.mv (.t 19))⟩,
                 ⟨(some 81), none, .inl (.len (.t 80))⟩,
                 ⟨(some 82), none, .inl (.bin .gtr (.t 79) (.t 81))⟩])
              (.keep [0, 2, 14, 17, 19, 64, 65, 66, 82]))
              (.cond (.t 82)
                (.seq (.seq (.reg [⟨(some 10), none, .inl (.mv (.c .nils))⟩,
                    ⟨(some 11), none, .inl (.mv (.c (.int .i64 1)))⟩])
                 (.keep [10, 11]))
                 (.ret))
                (.skip)))
              (.seq (.reg [⟨(some 83), none, .inl (.mv (.t 19))⟩,
                  ⟨(some 84), none, .inl (.mv (.t 2))⟩,
                  ⟨(some 85), none, .inl (.mv (.t 17))⟩,
                  ⟨(some 86), none, .inl (.iaddr 1 (.t 84) (.t 85))⟩,
                  ⟨(some 87), none, .inl (.load false 1 (.t 86))⟩,
                  ⟨(some 88), none, .inr (.copy 1 (.t 83) (.t 87))⟩])
               (.keep [0, 2, 14, 64, 65, 66]))))))
            (.seq (.reg [⟨(some 89), none, .inl (.bin .add (.t 66) (.c (.int .i64 1)))⟩,
                ⟨(some 66), none, .inl (.mv (.t 89))⟩])
             (.keep [0, 2, 14, 64, 65, 66]))))))))
         (.seq (.seq (.reg [⟨(some 90), none, .inl (.mv (.t 14))⟩,
             ⟨(some 10), none, .inl (.mv (.t 90))⟩,
             ⟨(some 11), none, .inl (.mv (.c (.int .i64 0)))⟩])
          (.keep [10, 11]))
          (.ret))))))))
def fc_slab_Write : FC := ⟨91, cmd_slab_Write, [.t 10, .t 11]⟩
theorem fc_slab_Write_ok : compF Try.prog 11 [[0, 1, 2, 3, 4], [0, 1, 2, 3, 4, 12, 13], [0, 1, 2, 3, 4, 12, 49], [10, 11], [0, 1, 2, 3, 4, 12, 14], [0, 1, 2, 14, 15], [0, 1, 2, 14], [0, 2, 14, 64, 65, 66], [0, 2, 14, 64, 65, 66], [0, 2, 14, 64, 65, 66, 67], [0, 2, 14, 17, 18, 64, 65, 66], [0, 2, 14, 17, 19, 64, 65, 66], [0, 2, 14, 17, 19, 64, 65, 66, 82], [10, 11], [0, 2, 14, 64, 65, 66], [0, 2, 14, 64, 65, 66], [10, 11]] = some fc_slab_Write := by kernel_rfl
/-- joist/joistref15.Write -/
abbrev F.joistref15_Write : Nat := 12
def cmd_joistref15_Write : Cmd :=
  .seq (.seq (.reg [⟨(some 10), none, .inl (.mv (.c .nils))⟩,
      ⟨(some 11), none, .inl (.mv (.c (.int .i64 0)))⟩])
   (.keep [0, 1, 2, 3, 4]))
   (.seq (.seq (.reg [⟨(some 24), none, .inl (.mv (.t 0))⟩,
       ⟨(some 25), none, .inl (.mv (.t 1))⟩,
       ⟨(some 26), none, .inr (.call 16 [(.t 24), (.t 25)])⟩,
       ⟨(some 23), none, .inl (.mv (.t 26))⟩,
       ⟨(some 27), none, .inl (.ext 0 (.t 23))⟩,
       ⟨(some 28), none, .inl (.ext 1 (.t 23))⟩,
       ⟨(some 12), none, .inl (.mv (.t 27))⟩,
       ⟨(some 13), none, .inl (.mv (.t 28))⟩])
    (.keep [0, 1, 2, 3, 4, 12, 13]))
    (.seq (.seq (.reg [⟨(some 30), none, .inl (.mv (.t 0))⟩,
        ⟨(some 31), none, .inr (.call 27 [(.t 30)])⟩,
        ⟨(some 29), none, .inl (.mv (.t 31))⟩,
        ⟨(some 32), none, .inl (.ext 0 (.t 29))⟩,
        ⟨(some 33), none, .inl (.ext 1 (.t 29))⟩,
        ⟨(some 14), none, .inl (.mv (.t 32))⟩,
        ⟨(some 15), none, .inl (.mv (.t 33))⟩])
     (.keep [0, 1, 2, 3, 4, 12, 13, 14]))
     (.seq (.seq (.seq (.reg [⟨(some 34), none, .inl (.mv (.t 13))⟩,
         ⟨(some 35), none, .inl (.bin .neq (.t 34) (.c (.int .i64 0)))⟩,
         ⟨(some 36), none, .inl (.mv (.t 35))⟩,
         ⟨(some 37), (some (36, false)), .inl (.mv (.t 1))⟩,
         ⟨(some 38), (some (36, false)), .inl (.len (.t 37))⟩,
         ⟨(some 39), (some (36, false)), .inl (.bin .eql (.t 38) (.c (.int .i64 0)))⟩,
         ⟨(some 40), none, .inl (.pick (.t 36) (.c (.bool true)) (.t 39))⟩,
         ⟨(some 41), none, .inl (.mv (.t 40))⟩,
         ⟨(some 42), (some (41, false)), .inl (.mv (.t 1))⟩,
         ⟨(some 43), (some (41, false)), .inl (.len (.t 42))⟩,
         ⟨(some 44), (some (41, false)), .inl (.mv (.t 2))⟩,
         ⟨(some 45), (some (41, false)), .inl (.len (.t 44))⟩,
         ⟨(some 46), (some (41, false)), .inl (.bin .neq (.t 43) (.t 45))⟩,
         ⟨(some 47), none, .inl (.pick (.t 41) (.c (.bool true)) (.t 46))⟩,
         ⟨(some 48), none, .inl (.mv (.t 47))⟩,
         ⟨(some 49), (some (48, false)), .inl (.mv (.t 3))⟩,
         ⟨(some 50), (some (48, false)), .inl (.bin .lss (.t 49) (.c (.int .i64 0)))⟩,
         ⟨(some 51), none, .inl (.pick (.t 48) (.c (.bool true)) (.t 50))⟩,
         ⟨(some 52), none, .inl (.mv (.t 51))⟩,
         ⟨(some 53), (some (52, false)), .inl (.mv (.t 3))⟩,
         ⟨(some 54), (some (52, false)), .inl (.bin .gtr (.t 53) (.c (.int .i64 64)))⟩,
         ⟨(some 55), none, .inl (.pick (.t 52) (.c (.bool true)) (.t 54))⟩,
         ⟨(some 56), none, .inl (.mv (.t 55))⟩,
         ⟨(some 57), (some (56, false)), .inl (.mv (.t 4))⟩,
         ⟨(some 58), (some (56, false)), .inl (.bin .lss (.t 57) (.c (.int .i64 0)))⟩,
         ⟨(some 59), none, .inl (.pick (.t 56) (.c (.bool true)) (.t 58))⟩,
         ⟨(some 60), none, .inl (.mv (.t 59))⟩,
         ⟨(some 61), (some (60, false)), .inl (.mv (.t 4))⟩,
         ⟨(some 62), (some (60, false)), .inl (.bin .gtr (.t 61) (.c (.int .i64 64)))⟩,
         ⟨(some 63), none, .inl (.pick (.t 60) (.c (.bool true)) (.t 62))⟩])
      (.keep [0, 1, 2, 3, 4, 12, 14, 63]))
      (.cond (.t 63)
        (.seq (.seq (.reg [⟨(some 10), none, .inl (.mv (.c .nils))⟩,
            ⟨(some 11), none, .inl (.mv (.c (.int .i64 1)))⟩])
         (.keep [10, 11]))
         (.ret))
        (.skip)))
      (.seq (.seq (.reg [⟨(some 65), none, .inl (.mv (.t 0))⟩,
          ⟨(some 66), none, .inl (.bin .add (.t 65) (.c (.int .i64 1)))⟩,
          ⟨(some 67), none, .inl (.mv (.t 12))⟩,
          ⟨(some 68), none, .inl (.mv (.t 3))⟩,
          ⟨(some 69), none, .inl (.mv (.t 4))⟩,
          ⟨(some 70), none, .inr (.bslice 1 [(.int .i64 0)] 4 [(0, (.t 66)), (1, (.t 67)), (2, (.t 68)), (3, (.t 69))])⟩,
          ⟨(some 71), none, .inr (.call 28 [(.t 70)])⟩,
          ⟨(some 64), none, .inl (.mv (.t 71))⟩,
          ⟨(some 72), none, .inl (.ext 0 (.t 64))⟩,
          ⟨(some 73), none, .inl (.ext 1 (.t 64))⟩,
          ⟨(some 16), none, .inl (.mv (.t 72))⟩,
          ⟨(some 17), none, .inl (.mv (.t 73))⟩])
       (.keep [0, 1, 2, 14, 16]))
       (.seq (.seq (.reg [⟨(some 74), none, .inl (.mv (.t 16))⟩,
           ⟨(some 75), none, .inr (.appendz 1 1 [(.int .u8 0)] (.t 74) (.c (.int .i64 224)))⟩,
           ⟨(some 18), none, .inl (.mv (.t 75))⟩])
        (.keep [0, 1, 2, 14, 18]))
        (.seq (.seq (.seq (.reg [⟨(some 19), none, .inl (.mv (.c (.int .i64 0)))⟩])
         (.keep [0, 1, 2, 14, 18, 19]))
         (.block 0 (.loop [0, 1, 2, 14, 18, 19] (.seq (.seq (.seq (.reg [⟨(some 76), none, .inl (.mv (.t 19))⟩,
             ⟨(some 77), none, .inl (.mv (.t 1))⟩,
             ⟨(some 78), none, .inl (.len (.t 77))⟩,
             ⟨(some 79), none, .inl (.bin .lss (.t 76) (.t 78))⟩])
          (.keep [0, 1, 2, 14, 18, 19, 79]))
          (.cond (.t 79)
            (.skip)
            (.exit 0)))
          (.seq (.block 1 (.seq (.seq (.seq (.reg [⟨(some 82), none, .inl (.mv (.t 2))⟩,
              ⟨(some 83), none, .inl (.mv (.t 19))⟩,
              ⟨(some 84), none, .inl (.iaddr 1 (.t 82) (.t 83))⟩,
              ⟨(some 85), none, .inl (.load false 1 (.t 84))⟩,
              ⟨(some 86), none, .inl (.len (.t 85))⟩,
              ⟨(some 87), none, .inl (.mv (.t 14))⟩,
              ⟨(some 88), none, .inl (.bin .mul (.c (.int .i64 8)) (.t 87))⟩,
              ⟨(some 89), none, .inl (.bin .gtr (.t 86) (.t 88))⟩])
           (.keep [0, 1, 2, 14, 18, 19, 89]))
           (.cond (.t 89)
             (.seq (.seq (.reg [⟨(some 10), none, .inl (.mv (.c .nils))⟩,
                 ⟨(some 11), none, .inl (.mv (.c (.int .i64 1)))⟩])
              (.keep [10, 11]))
              (.ret))
             (.skip)))
           (.seq (.seq (.reg [⟨(some 91), none, .inl (.mv (.t 0))⟩,
               ⟨(some 92), none, .inl (.mv (.t 1))⟩,
               ⟨(some 93), none, .inl (.mv (.t 19))⟩,
               ⟨(some 94), none, .inl (.iaddr 1 (.t 92) (.t 93))⟩,
               ⟨(some 95), none, .inl (.load false 1 (.t 94))⟩,
               ⟨(some 96), none, .inr (.call 29 [(.t 91), (.t 95)])⟩,
               ⟨(some 90), none, .inl (.mv (.t 96))⟩,
               ⟨(some 97), none, .inl (.ext 0 (.t 90))⟩,
               ⟨(some 98), none, .inl (.ext 1 (.t 90))⟩,
               ⟨(some 20), none, .inl (.mv (.t 97))⟩,
               ⟨(some 21), none, .inl (.mv (.t 98))⟩])
            (.keep [0, 1, 2, 14, 18, 19, 20]))
            (.seq (.seq (.reg [⟨(some 22), none, .inl (.mv (.c (.int .i64 0)))⟩])
             (.keep [0, 1, 2, 14, 18, 19, 20, 22]))
             (.block 2 (.loop [0, 1, 2, 14, 18, 19, 20, 22] (.seq (.seq (.seq (.reg [⟨(some 99), none, .inl (.mv (.t 22))⟩,
                 ⟨(some 100), none, .inl (.mv (.t 2))⟩,
                 ⟨(some 101), none, .inl (.mv (.t 19))⟩,
                 ⟨(some 102), none, .inl (.iaddr 1 (.t 100) (.t 101))⟩,
                 ⟨(some 103), none, .inl (.load false 1 (.t 102))⟩,
                 ⟨(some 104), none, .inl (.len (.t 103))⟩,
                 ⟨(some 105), none, .inl (.bin .lss (.t 99) (.t 104))⟩])
              (.keep [0, 1, 2, 14, 18, 19, 20, 22, 105]))
              (.cond (.t 105)
                (.skip)
                (.exit 2)))
              (.seq (.block 3 (.seq (.reg [⟨(some 108), none, .inl (.mv (.t 18))⟩,
                  ⟨(some 109), none, .inl (.mv (.t 20))⟩,
                  ⟨(some 110), none, .inl (.bin .mul (.c (.int .i64 8)) (.t 109))⟩,
                  ⟨(some 111), none, .inl (.mv (.t 22))⟩,
                  ⟨(some 112), none, .inl (.bin .add (.t 110) (.t 111))⟩,
                  ⟨(some 113), none, .inl (.mv (.t 2))⟩,
                  ⟨(some 114), none, .inl (.mv (.t 19))⟩,
                  ⟨(some 115), none, .inl (.iaddr 1 (.t 113) (.t 114))⟩,
                  ⟨(some 116), none, .inl (.load false 1 (.t 115))⟩,
                  ⟨(some 117), none, .inl (.mv (.t 22))⟩,
                  ⟨(some 118), none, .inl (.iaddr 1 (.t 116) (.t 117))⟩,
                  ⟨(some 119), none, .inl (.load false 1 (.t 118))⟩,
                  ⟨(some 120), none, .inl (.iaddr 1 (.t 108) (.t 112))⟩,
                  ⟨none, none, .inr (.store 1 (.t 120) (.t 119))⟩])
               (.keep [0, 1, 2, 14, 18, 19, 20, 22])))
               (.seq (.reg [⟨(some 106), none, .inl (.mv (.t 22))⟩,
                   ⟨(some 107), none, .inl (.bin .add (.t 106) (.c (.int .i64 1)))⟩,
                   ⟨(some 22), none, .inl (.mv (.t 107))⟩])
                (.keep [0, 1, 2, 14, 18, 19, 20, 22]))))))))))
           (.seq (.reg [⟨(some 80), none, .inl (.mv (.t 19))⟩,
               ⟨(some 81), none, .inl (.bin .add (.t 80) (.c (.int .i64 1)))⟩,
               ⟨(some 19), none, .inl (.mv (.t 81))⟩])
            (.keep [0, 1, 2, 14, 18, 19])))))))
         (.seq (.seq (.reg [⟨(some 121), none, .inl (.mv (.t 18))⟩,
             ⟨(some 10), none, .inl (.mv (.t 121))⟩,
             ⟨(some 11), none, .inl (.mv (.c (.int .i64 0)))⟩])
          (.keep [10, 11]))
          (.ret))))))))
def fc_joistref15_Write : FC := ⟨122, cmd_joistref15_Write, [.t 10, .t 11]⟩
theorem fc_joistref15_Write_ok : compF Try.prog 12 [[0, 1, 2, 3, 4], [0, 1, 2, 3, 4, 12, 13], [0, 1, 2, 3, 4, 12, 13, 14], [0, 1, 2, 3, 4, 12, 14, 63], [10, 11], [0, 1, 2, 14, 16], [0, 1, 2, 14, 18], [0, 1, 2, 14, 18, 19], [0, 1, 2, 14, 18, 19], [0, 1, 2, 14, 18, 19, 79], [0, 1, 2, 14, 18, 19, 89], [10, 11], [0, 1, 2, 14, 18, 19, 20], [0, 1, 2, 14, 18, 19, 20, 22], [0, 1, 2, 14, 18, 19, 20, 22], [0, 1, 2, 14, 18, 19, 20, 22, 105], [0, 1, 2, 14, 18, 19, 20, 22], [0, 1, 2, 14, 18, 19, 20, 22], [0, 1, 2, 14, 18, 19], [10, 11]] = some fc_joistref15_Write := by kernel_rfl
/-- joist/joistlaw01.Kept -/
abbrev F.joistlaw01_Kept : Nat := 13
def cmd_joistlaw01_Kept : Cmd :=
  .seq (.seq (.reg [⟨(some 4), none, .inl (.mv (.c (.bool false)))⟩])
   (.keep [0, 1]))
   (.seq (.seq (.reg [⟨(some 5), none, .inl (.mv (.t 0))⟩,
       ⟨(some 6), none, .inl (.b2s (.t 5))⟩,
       ⟨(some 7), none, .inl (.mv (.t 1))⟩,
       ⟨(some 8), none, .inl (.b2s (.t 7))⟩,
       ⟨(some 9), none, .inl (.bins .eql (.t 6) (.t 8))⟩,
       ⟨(some 10), none, .inl (.mv (.t 9))⟩,
       ⟨(some 11), (some (10, true)), .inl (.mv (.t 0))⟩,
       ⟨(some 12), (some (10, true)), .inl (.mv (.t 1))⟩,
       ⟨(some 13), (some (10, true)), .inl (.len (.t 12))⟩,
       ⟨(some 14), (some (10, true)), .inl (.bin .add (.t 13) (.c (.int .i64 1)))⟩,
       ⟨(some 15), (some (10, true)), .inl (.slice 1 (.t 11) none (some (.t 14)) none)⟩,
       ⟨(some 16), (some (10, true)), .inl (.mv (.t 1))⟩,
       ⟨(some 17), (some (10, true)), .inl (.len (.t 16))⟩,
       ⟨(some 18), (some (10, true)), .inl (.iaddr 1 (.t 15) (.t 17))⟩,
       ⟨(some 19), (some (10, true)), .inl (.load false 1 (.t 18))⟩,
       ⟨(some 20), (some (10, true)), .inl (.bin .eql (.t 19) (.c (.int .u8 77)))⟩,
       ⟨(some 21), none, .inl (.pick (.t 10) (.t 20) (.c (.bool false)))⟩,
       ⟨(some 4), none, .inl (.mv (.t 21))⟩])
    (.keep [4]))
    (.ret))
def fc_joistlaw01_Kept : FC := ⟨22, cmd_joistlaw01_Kept, [.t 4]⟩
theorem fc_joistlaw01_Kept_ok : compF Try.prog 13 [[0, 1], [4]] = some fc_joistlaw01_Kept := by kernel_rfl
/-- joist/joistlaw01.Owned -/
abbrev F.joistlaw01_Owned : Nat := 14
def cmd_joistlaw01_Owned : Cmd :=
  .seq (.seq (.reg [⟨(some 2), none, .inl (.mv (.c (.bool false)))⟩])
   (.keep [0]))
   (.seq (.seq (.seq (.reg [⟨(some 3), none, .inl (.mv (.c (.int .i64 0)))⟩])
    (.keep [0, 3]))
    (.block 0 (.loop [0, 3] (.seq (.seq (.seq (.reg [⟨(some 9), none, .inl (.mv (.t 3))⟩,
        ⟨(some 10), none, .inl (.mv (.t 0))⟩,
        ⟨(some 11), none, .inl (.len (.t 10))⟩,
        ⟨(some 12), none, .inl (.bin .lss (.t 9) (.t 11))⟩])
     (.keep [0, 3, 12]))
     (.cond (.t 12)
       (.skip)
       (.exit 0)))
     (.seq (.block 1 (.seq (.seq (.ord [⟨0, ⟨(some 15), none, .inl (.mv (.t 0))⟩, [], false⟩,
         ⟨1, ⟨(some 16), none, .inl (.mv (.t 3))⟩, [], false⟩,
         ⟨2, ⟨(some 17), none, .inl (.iaddr 1 (.t 15) (.t 16))⟩, [], false⟩,
         ⟨3, ⟨(some 18), none, .inl (.load false 1 (.t 17))⟩, [], false⟩,
         ⟨4, ⟨(some 19), none, .inl (.mv (.t 0))⟩, [], false⟩,
         ⟨5, ⟨(some 20), none, .inl (.mv (.t 3))⟩, [], false⟩,
         ⟨6, ⟨(some 21), none, .inl (.iaddr 1 (.t 19) (.t 20))⟩, [], false⟩,
         ⟨7, ⟨(some 22), none, .inl (.load false 1 (.t 21))⟩, [], false⟩,
         ⟨8, ⟨(some 23), none, .inl (.cap (.t 22))⟩, [], false⟩,
         ⟨9, ⟨(some 24), none, .inl (.slice 1 (.t 18) none (some (.t 23)) none)⟩, [], false⟩,
         ⟨10, ⟨(some 4), none, .inl (.mv (.t 24))⟩, [], false⟩])
      (.keep [0, 3, 4]))
      (.seq (.seq (.reg [⟨(some 5), none, .inl (.mv (.c (.int .i64 0)))⟩])
       (.keep [0, 3, 4, 5]))
       (.block 2 (.loop [0, 3, 4, 5] (.seq (.seq (.seq (.reg [⟨(some 25), none, .inl (.mv (.t 5))⟩,
           ⟨(some 26), none, .inl (.mv (.t 4))⟩,
           ⟨(some 27), none, .inl (.len (.t 26))⟩,
           ⟨(some 28), none, .inl (.bin .lss (.t 25) (.t 27))⟩])
        (.keep [0, 3, 4, 5, 28]))
        (.cond (.t 28)
          (.skip)
          (.exit 2)))
        (.seq (.block 3 (.seq (.reg [⟨(some 31), none, .inl (.mv (.t 4))⟩,
            ⟨(some 32), none, .inl (.mv (.t 5))⟩,
            ⟨(some 33), none, .inl (.mv (.t 3))⟩,
            ⟨(some 34), none, .inl (.bin .add (.t 33) (.c (.int .i64 1)))⟩,
            ⟨(some 35), none, .inl (.conv .u8 (.t 34))⟩,
            ⟨(some 36), none, .inl (.iaddr 1 (.t 31) (.t 32))⟩,
            ⟨none, none, .inr (.store 1 (.t 36) (.t 35))⟩])
         (.keep [0, 3, 4, 5])))
         (.seq (.reg [⟨(some 29), none, .inl (.mv (.t 5))⟩,
             ⟨(some 30), none, .inl (.bin .add (.t 29) (.c (.int .i64 1)))⟩,
             ⟨(some 5), none, .inl (.mv (.t 30))⟩])
          (.keep [0, 3, 4, 5])))))))))
      (.seq (.reg [⟨(some 13), none, .inl (.mv (.t 3))⟩,
          ⟨(some 14), none, .inl (.bin .add (.t 13) (.c (.int .i64 1)))⟩,
          ⟨(some 3), none, .inl (.mv (.t 14))⟩])
       (.keep [0, 3])))))))
    (.seq (.seq (.seq (.reg [⟨(some 6), none, .inl (.mv (.c (.int .i64 0)))⟩])
     (.keep [0, 6]))
     (.block 4 (.loop [0, 6] (.seq (.seq (.seq (.reg [⟨(some 37), none, .inl (.mv (.t 6))⟩,
         ⟨(some 38), none, .inl (.mv (.t 0))⟩,
         ⟨(some 39), none, .inl (.len (.t 38))⟩,
         ⟨(some 40), none, .inl (.bin .lss (.t 37) (.t 39))⟩])
      (.keep [0, 6, 40]))
      (.cond (.t 40)
        (.skip)
        (.exit 4)))
      (.seq (.block 5 (.seq (.seq (.ord [⟨0, ⟨(some 43), none, .inl (.mv (.t 0))⟩, [], false⟩,
          ⟨1, ⟨(some 44), none, .inl (.mv (.t 6))⟩, [], false⟩,
          ⟨2, ⟨(some 45), none, .inl (.iaddr 1 (.t 43) (.t 44))⟩, [], false⟩,
          ⟨3, ⟨(some 46), none, .inl (.load false 1 (.t 45))⟩, [], false⟩,
          ⟨4, ⟨(some 47), none, .inl (.mv (.t 0))⟩, [], false⟩,
          ⟨5, ⟨(some 48), none, .inl (.mv (.t 6))⟩, [], false⟩,
          ⟨6, ⟨(some 49), none, .inl (.iaddr 1 (.t 47) (.t 48))⟩, [], false⟩,
          ⟨7, ⟨(some 50), none, .inl (.load false 1 (.t 49))⟩, [], false⟩,
          ⟨8, ⟨(some 51), none, .inl (.cap (.t 50))⟩, [], false⟩,
          ⟨9, ⟨(some 52), none, .inl (.slice 1 (.t 46) none (some (.t 51)) none)⟩, [], false⟩,
          ⟨10, ⟨(some 7), none, .inl (.mv (.t 52))⟩, [], false⟩])
       (.keep [0, 6, 7]))
       (.seq (.seq (.reg [⟨(some 8), none, .inl (.mv (.c (.int .i64 0)))⟩])
        (.keep [0, 6, 7, 8]))
        (.block 6 (.loop [0, 6, 7, 8] (.seq (.seq (.seq (.reg [⟨(some 53), none, .inl (.mv (.t 8))⟩,
            ⟨(some 54), none, .inl (.mv (.t 7))⟩,
            ⟨(some 55), none, .inl (.len (.t 54))⟩,
            ⟨(some 56), none, .inl (.bin .lss (.t 53) (.t 55))⟩])
         (.keep [0, 6, 7, 8, 56]))
         (.cond (.t 56)
           (.skip)
           (.exit 6)))
         (.seq (.block 7 (.seq (.seq (.reg [⟨(some 59), none, .inl (.mv (.t 7))⟩,
             ⟨(some 60), none, .inl (.mv (.t 8))⟩,
             ⟨(some 61), none, .inl (.iaddr 1 (.t 59) (.t 60))⟩,
             ⟨(some 62), none, .inl (.load false 1 (.t 61))⟩,
             ⟨(some 63), none, .inl (.mv (.t 6))⟩,
             ⟨(some 64), none, .inl (.bin .add (.t 63) (.c (.int .i64 1)))⟩,
             ⟨(some 65), none, .inl (.conv .u8 (.t 64))⟩,
             ⟨(some 66), none, .inl (.bin .neq (.t 62) (.t 65))⟩])
          (.keep [0, 6, 7, 8, 66]))
          (.cond (.t 66)
            (.seq (.seq (.reg [⟨(some 2), none, .inl (.mv (.c (.bool false)))⟩])
             (.keep [2]))
             (.ret))
            (.skip))))
          (.seq (.reg [⟨(some 57), none, .inl (.mv (.t 8))⟩,
              ⟨(some 58), none, .inl (.bin .add (.t 57) (.c (.int .i64 1)))⟩,
              ⟨(some 8), none, .inl (.mv (.t 58))⟩])
           (.keep [0, 6, 7, 8])))))))))
       (.seq (.reg [⟨(some 41), none, .inl (.mv (.t 6))⟩,
           ⟨(some 42), none, .inl (.bin .add (.t 41) (.c (.int .i64 1)))⟩,
           ⟨(some 6), none, .inl (.mv (.t 42))⟩])
        (.keep [0, 6])))))))
     (.seq (.seq (.reg [⟨(some 2), none, .inl (.mv (.c (.bool true)))⟩])
      (.keep [2]))
      (.ret))))
def fc_joistlaw01_Owned : FC := ⟨67, cmd_joistlaw01_Owned, [.t 2]⟩
theorem fc_joistlaw01_Owned_ok : compF Try.prog 14 [[0], [0, 3], [0, 3], [0, 3, 12], [0, 3, 4], [0, 1, 2, 3, 4, 5, 6, 7, 8, 9, 10], [0, 3, 4, 5], [0, 3, 4, 5], [0, 3, 4, 5, 28], [0, 3, 4, 5], [0, 3, 4, 5], [0, 3], [0, 6], [0, 6], [0, 6, 40], [0, 6, 7], [0, 1, 2, 3, 4, 5, 6, 7, 8, 9, 10], [0, 6, 7, 8], [0, 6, 7, 8], [0, 6, 7, 8, 56], [0, 6, 7, 8, 66], [2], [0, 6, 7, 8], [0, 6], [2]] = some fc_joistlaw01_Owned := by kernel_rfl
/-- joist/slab.Bits -/
abbrev F.slab_Bits : Nat := 15
def cmd_slab_Bits : Cmd :=
  .seq (.seq (.reg [⟨(some 4), none, .inl (.mv (.c (.int .i64 0)))⟩,
      ⟨(some 5), none, .inl (.mv (.c (.int .i64 0)))⟩])
   (.keep [0, 1]))
   (.seq (.seq (.reg [⟨(some 13), none, .inl (.mv (.t 0))⟩,
       ⟨(some 14), none, .inr (.call 21 [(.t 13)])⟩,
       ⟨(some 12), none, .inl (.mv (.t 14))⟩,
       ⟨(some 15), none, .inl (.ext 0 (.t 12))⟩,
       ⟨(some 16), none, .inl (.ext 1 (.t 12))⟩,
       ⟨(some 6), none, .inl (.mv (.t 15))⟩,
       ⟨(some 7), none, .inl (.mv (.t 16))⟩])
    (.keep [1, 6, 7]))
    (.seq (.seq (.seq (.reg [⟨(some 17), none, .inl (.mv (.t 7))⟩,
        ⟨(some 18), none, .inl (.bin .neq (.t 17) (.c (.int .i64 0)))⟩])
     (.keep [1, 6, 7, 18]))
     (.cond (.t 18)
       (.seq (.seq (.reg [⟨(some 19), none, .inl (.mv (.t 7))⟩,
           ⟨(some 4), none, .inl (.mv (.c (.int .i64 0)))⟩,
           ⟨(some 5), none, .inl (.mv (.t 19))⟩])
        (.keep [4, 5]))
        (.ret))
       (.skip)))
     (.seq (.seq (.reg [⟨(some 8), none, .inl (.mv (.c (.int .i64 0)))⟩,
         ⟨(some 9), none, .inl (.mv (.c (.int .i64 (-1))))⟩])
      (.keep [1, 6, 8, 9]))
      (.seq (.seq (.seq (.reg [⟨(some 20), none, .inl (.mv (.t 1))⟩,
          ⟨(some 21), none, .inl (.len (.t 20))⟩,
          ⟨(some 22), none, .inl (.mv (.c (.int .i64 0)))⟩])
       (.keep [6, 8, 9, 20, 21, 22]))
       (.block 0 (.loop [6, 8, 9, 20, 21, 22] (.seq (.seq (.reg [⟨(some 23), none, .inl (.bin .lss (.t 22) (.t 21))⟩])
        (.keep [6, 8, 9, 20, 21, 22, 23]))
        (.seq (.cond (.t 23)
          (.skip)
          (.exit 0))
         (.seq (.block 1 (.seq (.seq (.reg [⟨(some 24), none, .inl (.iaddr 1 (.t 20) (.t 22))⟩,
             ⟨(some 25), none, .inl (.load false 1 (.t 24))⟩,
             ⟨(some 11), none, .inl (.mv (.t 25))⟩])
          (.keep [6, 8, 9, 11, 20, 21, 22]))
          (.seq (.seq (.seq (.reg [⟨(some 26), none, .inl (.mv (.t 11))⟩,
              ⟨(some 27), none, .inl (.mv (.t 9))⟩,
              ⟨(some 28), none, .inl (.bin .leq (.t 26) (.t 27))⟩,
              ⟨(some 29), none, .inl (.mv (.t 28))⟩,
              ⟨(some 30), (some (29, false)), .inl (.mv (.t 11))⟩,
              ⟨(some 31), (some (29, false)), .inl (.mv (.t 6))⟩,
              ⟨(some 32), (some (29, false)), .inl (.bin .geq (.t 30) (.t 31))⟩,
              ⟨(some 33), none, .inl (.pick (.t 29) (.c (.bool true)) (.t 32))⟩])
           (.keep [6, 8, 11, 20, 21, 22, 33]))
           (.cond (.t 33)
             (.seq (.seq (.reg [⟨(some 4), none, .inl (.mv (.c (.int .i64 0)))⟩,
                 ⟨(some 5), none, .inl (.mv (.c (.int .i64 1)))⟩])
              (.keep [4, 5]))
              (.ret))
             (.skip)))
           (.seq (.reg [⟨(some 34), none, .inl (.mv (.t 8))⟩,
               ⟨(some 35), none, .inl (.mv (.t 11))⟩,
               ⟨(some 36), none, .inl (.bin .shl (.c (.int .i64 1)) (.t 35))⟩,
               ⟨(some 37), none, .inl (.bin .or (.t 34) (.t 36))⟩,
               ⟨(some 38), none, .inl (.mv (.t 11))⟩,
               ⟨(some 8), none, .inl (.mv (.t 37))⟩,
               ⟨(some 9), none, .inl (.mv (.t 38))⟩])
            (.keep [6, 8, 9, 20, 21, 22])))))
          (.seq (.reg [⟨(some 39), none, .inl (.bin .add (.t 22) (.c (.int .i64 1)))⟩,
              ⟨(some 22), none, .inl (.mv (.t 39))⟩])
           (.keep [6, 8, 9, 20, 21, 22]))))))))
       (.seq (.seq (.reg [⟨(some 40), none, .inl (.mv (.t 8))⟩,
           ⟨(some 4), none, .inl (.mv (.t 40))⟩,
           ⟨(some 5), none, .inl (.mv (.c (.int .i64 0)))⟩])
        (.keep [4, 5]))
        (.ret))))))
def fc_slab_Bits : FC := ⟨41, cmd_slab_Bits, [.t 4, .t 5]⟩
theorem fc_slab_Bits_ok : compF Try.prog 15 [[0, 1], [1, 6, 7], [1, 6, 7, 18], [4, 5], [1, 6, 8, 9], [6, 8, 9, 20, 21, 22], [6, 8, 9, 20, 21, 22], [6, 8, 9, 20, 21, 22, 23], [6, 8, 9, 11, 20, 21, 22], [6, 8, 11, 20, 21, 22, 33], [4, 5], [6, 8, 9, 20, 21, 22], [6, 8, 9, 20, 21, 22], [4, 5]] = some fc_slab_Bits := by kernel_rfl
/-- joist/joistref15.Bits -/
abbrev F.joistref15_Bits : Nat := 16
def cmd_joistref15_Bits : Cmd :=
  .seq (.seq (.reg [⟨(some 4), none, .inl (.mv (.c (.int .i64 0)))⟩,
      ⟨(some 5), none, .inl (.mv (.c (.int .i64 0)))⟩])
   (.keep [0, 1]))
   (.seq (.seq (.reg [⟨(some 11), none, .inl (.mv (.t 0))⟩,
       ⟨(some 12), none, .inr (.call 30 [(.t 11)])⟩,
       ⟨(some 10), none, .inl (.mv (.t 12))⟩,
       ⟨(some 13), none, .inl (.ext 0 (.t 10))⟩,
       ⟨(some 14), none, .inl (.ext 1 (.t 10))⟩,
       ⟨(some 6), none, .inl (.mv (.t 13))⟩,
       ⟨(some 7), none, .inl (.mv (.t 14))⟩])
    (.keep [1, 6, 7]))
    (.seq (.seq (.seq (.reg [⟨(some 15), none, .inl (.mv (.t 7))⟩,
        ⟨(some 16), none, .inl (.bin .neq (.t 15) (.c (.int .i64 0)))⟩])
     (.keep [1, 6, 16]))
     (.cond (.t 16)
       (.seq (.seq (.reg [⟨(some 4), none, .inl (.mv (.c (.int .i64 0)))⟩,
           ⟨(some 5), none, .inl (.mv (.c (.int .i64 1)))⟩])
        (.keep [4, 5]))
        (.ret))
       (.skip)))
     (.seq (.seq (.reg [⟨(some 8), none, .inl (.mv (.c (.int .i64 0)))⟩])
      (.keep [1, 6, 8]))
      (.seq (.seq (.seq (.reg [⟨(some 9), none, .inl (.mv (.c (.int .i64 0)))⟩])
       (.keep [1, 6, 8, 9]))
       (.block 0 (.loop [1, 6, 8, 9] (.seq (.seq (.seq (.reg [⟨(some 17), none, .inl (.mv (.t 9))⟩,
           ⟨(some 18), none, .inl (.mv (.t 1))⟩,
           ⟨(some 19), none, .inl (.len (.t 18))⟩,
           ⟨(some 20), none, .inl (.bin .lss (.t 17) (.t 19))⟩])
        (.keep [1, 6, 8, 9, 20]))
        (.cond (.t 20)
          (.skip)
          (.exit 0)))
        (.seq (.block 1 (.seq (.seq (.seq (.ord [⟨0, ⟨(some 23), none, .inl (.mv (.t 1))⟩, [], false⟩,
            ⟨1, ⟨(some 24), none, .inl (.mv (.t 9))⟩, [], false⟩,
            ⟨2, ⟨(some 25), none, .inl (.iaddr 1 (.t 23) (.t 24))⟩, [], false⟩,
            ⟨3, ⟨(some 26), none, .inl (.load false 1 (.t 25))⟩, [], false⟩,
            ⟨4, ⟨(some 27), none, .inl (.bin .lss (.t 26) (.c (.int .i64 0)))⟩, [], false⟩,
            ⟨5, ⟨(some 28), none, .inl (.mv (.t 27))⟩, [], false⟩,
            ⟨6, ⟨(some 29), (some (28, false)), .inl (.mv (.t 1))⟩, [], false⟩,
            ⟨7, ⟨(some 30), (some (28, false)), .inl (.mv (.t 9))⟩, [], false⟩,
            ⟨8, ⟨(some 31), (some (28, false)), .inl (.iaddr 1 (.t 29) (.t 30))⟩, [], false⟩,
            ⟨9, ⟨(some 32), (some (28, false)), .inl (.load false 1 (.t 31))⟩, [], false⟩,
            ⟨10, ⟨(some 33), (some (28, false)), .inl (.mv (.t 6))⟩, [], false⟩,
            ⟨11, ⟨(some 34), (some (28, false)), .inl (.bin .geq (.t 32) (.t 33))⟩, [], false⟩,
            ⟨12, ⟨(some 35), none, .inl (.pick (.t 28) (.c (.bool true)) (.t 34))⟩, [], false⟩,
            ⟨13, ⟨(some 36), none, .inl (.mv (.t 35))⟩, [], false⟩,
            ⟨14, ⟨(some 37), (some (36, false)), .inl (.mv (.t 9))⟩, [], false⟩,
            ⟨15, ⟨(some 38), (some (36, false)), .inl (.bin .gtr (.t 37) (.c (.int .i64 0)))⟩, [], false⟩,
            ⟨16, ⟨(some 39), (some (36, false)), .inl (.mv (.t 38))⟩, [], false⟩,
            ⟨17, ⟨(some 40), (some (39, true)), .inl (.mv (.t 1))⟩, [], false⟩,
            ⟨18, ⟨(some 41), (some (39, true)), .inl (.mv (.t 9))⟩, [], false⟩,
            ⟨19, ⟨(some 42), (some (39, true)), .inl (.iaddr 1 (.t 40) (.t 41))⟩, [], false⟩,
            ⟨20, ⟨(some 43), (some (39, true)), .inl (.load false 1 (.t 42))⟩, [], false⟩,
            ⟨21, ⟨(some 44), (some (39, true)), .inl (.mv (.t 1))⟩, [], false⟩,
            ⟨22, ⟨(some 45), (some (39, true)), .inl (.mv (.t 9))⟩, [], false⟩,
            ⟨23, ⟨(some 46), (some (39, true)), .inl (.bin .sub (.t 45) (.c (.int .i64 1)))⟩, [], false⟩,
            ⟨24, ⟨(some 47), (some (39, true)), .inl (.iaddr 1 (.t 44) (.t 46))⟩, [], false⟩,
            ⟨25, ⟨(some 48), (some (39, true)), .inl (.load false 1 (.t 47))⟩, [], false⟩,
            ⟨26, ⟨(some 49), (some (39, true)), .inl (.bin .leq (.t 43) (.t 48))⟩, [], false⟩,
            ⟨27, ⟨(some 50), (some (36, false)), .inl (.pick (.t 39) (.t 49) (.c (.bool false)))⟩, [], false⟩,
            ⟨28, ⟨(some 51), none, .inl (.pick (.t 36) (.c (.bool true)) (.t 50))⟩, [], false⟩])
         (.keep [1, 6, 8, 9, 51]))
         (.cond (.t 51)
           (.seq (.seq (.reg [⟨(some 4), none, .inl (.mv (.c (.int .i64 0)))⟩,
               ⟨(some 5), none, .inl (.mv (.c (.int .i64 1)))⟩])
            (.keep [4, 5]))
            (.ret))
           (.skip)))
         (.seq (.reg [⟨(some 52), none, .inl (.mv (.t 8))⟩,
             ⟨(some 53), none, .inl (.mv (.t 1))⟩,
             ⟨(some 54), none, .inl (.mv (.t 9))⟩,
             ⟨(some 55), none, .inl (.iaddr 1 (.t 53) (.t 54))⟩,
             ⟨(some 56), none, .inl (.load false 1 (.t 55))⟩,
             ⟨(some 57), none, .inl (.bin .shl (.c (.int .i64 1)) (.t 56))⟩,
             ⟨(some 58), none, .inl (.bin .add (.t 52) (.t 57))⟩,
             ⟨(some 8), none, .inl (.mv (.t 58))⟩])
          (.keep [1, 6, 8, 9]))))
         (.seq (.reg [⟨(some 21), none, .inl (.mv (.t 9))⟩,
             ⟨(some 22), none, .inl (.bin .add (.t 21) (.c (.int .i64 1)))⟩,
             ⟨(some 9), none, .inl (.mv (.t 22))⟩])
          (.keep [1, 6, 8, 9])))))))
       (.seq (.seq (.reg [⟨(some 59), none, .inl (.mv (.t 8))⟩,
           ⟨(some 4), none, .inl (.mv (.t 59))⟩,
           ⟨(some 5), none, .inl (.mv (.c (.int .i64 0)))⟩])
        (.keep [4, 5]))
        (.ret))))))
def fc_joistref15_Bits : FC := ⟨60, cmd_joistref15_Bits, [.t 4, .t 5]⟩
theorem fc_joistref15_Bits_ok : compF Try.prog 16 [[0, 1], [1, 6, 7], [1, 6, 16], [4, 5], [1, 6, 8], [1, 6, 8, 9], [1, 6, 8, 9], [1, 6, 8, 9, 20], [1, 6, 8, 9, 51], [0, 1, 2, 3, 4, 5, 6, 7, 8, 9, 10, 11, 12, 13, 14, 15, 16, 17, 18, 19, 20, 21, 22, 23, 24, 25, 26, 27, 28], [4, 5], [1, 6, 8, 9], [1, 6, 8, 9], [4, 5]] = some fc_joistref15_Bits := by kernel_rfl
/-- joist/slab.Read -/
abbrev F.slab_Read : Nat := 17
def cmd_slab_Read : Cmd :=
  .seq (.seq (.reg [⟨(some 2), none, .inl (.mv (.c (.int .i64 0)))⟩,
      ⟨(some 3), none, .inl (.mv (.c .nils))⟩,
      ⟨(some 4), none, .inl (.mv (.c .nils))⟩,
      ⟨(some 5), none, .inl (.mv (.c (.int .i64 0)))⟩,
      ⟨(some 6), none, .inl (.mv (.c (.int .i64 0)))⟩,
      ⟨(some 7), none, .inl (.mv (.c (.bool false)))⟩])
   (.keep [0, 3, 4]))
   (.seq (.seq (.seq (.reg [⟨(some 17), none, .inl (.mv (.t 0))⟩,
       ⟨(some 18), none, .inl (.len (.t 17))⟩,
       ⟨(some 19), none, .inl (.bin .neq (.t 18) (.c (.int .i64 256)))⟩])
    (.keep [0, 3, 4, 19]))
    (.cond (.t 19)
      (.seq (.seq (.reg [⟨(some 2), none, .inl (.mv (.c (.int .i64 0)))⟩,
          ⟨(some 3), none, .inl (.mv (.c .nils))⟩,
          ⟨(some 4), none, .inl (.mv (.c .nils))⟩,
          ⟨(some 5), none, .inl (.mv (.c (.int .i64 0)))⟩,
          ⟨(some 6), none, .inl (.mv (.c (.int .i64 0)))⟩,
          ⟨(some 7), none, .inl (.mv (.c (.bool false)))⟩])
       (.keep [2, 3, 4, 5, 6, 7]))
       (.ret))
      (.skip)))
    (.seq (.seq (.reg [⟨(some 21), none, .inl (.mv (.t 0))⟩,
        ⟨(some 22), none, .inr (.call 31 [(.t 21), (.c (.int .i64 0))])⟩,
        ⟨(some 20), none, .inl (.mv (.t 22))⟩,
        ⟨(some 23), none, .inl (.ext 0 (.t 20))⟩,
        ⟨(some 24), none, .inl (.ext 1 (.t 20))⟩,
        ⟨(some 8), none, .inl (.mv (.t 23))⟩,
        ⟨(some 9), none, .inl (.mv (.t 24))⟩])
     (.keep [0, 3, 4, 8]))
     (.seq (.seq (.reg [⟨(some 26), none, .inl (.mv (.t 0))⟩,
         ⟨(some 27), none, .inr (.call 31 [(.t 26), (.c (.int .i64 1))])⟩,
         ⟨(some 25), none, .inl (.mv (.t 27))⟩,
         ⟨(some 28), none, .inl (.ext 0 (.t 25))⟩,
         ⟨(some 29), none, .inl (.ext 1 (.t 25))⟩,
         ⟨(some 10), none, .inl (.mv (.t 28))⟩,
         ⟨(some 11), none, .inl (.mv (.t 29))⟩])
      (.keep [0, 3, 4, 8, 10]))
      (.seq (.seq (.reg [⟨(some 31), none, .inl (.mv (.t 0))⟩,
          ⟨(some 32), none, .inr (.call 31 [(.t 31), (.c (.int .i64 2))])⟩,
          ⟨(some 30), none, .inl (.mv (.t 32))⟩,
          ⟨(some 33), none, .inl (.ext 0 (.t 30))⟩,
          ⟨(some 34), none, .inl (.ext 1 (.t 30))⟩,
          ⟨(some 5), none, .inl (.mv (.t 33))⟩])
       (.keep [0, 3, 4, 5, 8, 10]))
       (.seq (.seq (.reg [⟨(some 36), none, .inl (.mv (.t 0))⟩,
           ⟨(some 37), none, .inr (.call 31 [(.t 36), (.c (.int .i64 3))])⟩,
           ⟨(some 35), none, .inl (.mv (.t 37))⟩,
           ⟨(some 38), none, .inl (.ext 0 (.t 35))⟩,
           ⟨(some 39), none, .inl (.ext 1 (.t 35))⟩,
           ⟨(some 6), none, .inl (.mv (.t 38))⟩])
        (.keep [0, 3, 4, 5, 6, 8, 10]))
        (.seq (.seq (.reg [⟨(some 40), none, .inl (.mv (.t 8))⟩,
            ⟨(some 41), none, .inl (.bin .sub (.t 40) (.c (.int .i64 1)))⟩,
            ⟨(some 2), none, .inl (.mv (.t 41))⟩])
         (.keep [0, 2, 3, 4, 5, 6, 10]))
         (.seq (.seq (.reg [⟨(some 43), none, .inl (.mv (.t 2))⟩,
             ⟨(some 44), none, .inr (.call 21 [(.t 43)])⟩,
             ⟨(some 42), none, .inl (.mv (.t 44))⟩,
             ⟨(some 45), none, .inl (.ext 0 (.t 42))⟩,
             ⟨(some 46), none, .inl (.ext 1 (.t 42))⟩,
             ⟨(some 12), none, .inl (.mv (.t 45))⟩,
             ⟨(some 13), none, .inl (.mv (.t 46))⟩])
          (.keep [0, 2, 3, 4, 5, 6, 10, 12]))
          (.seq (.seq (.seq (.reg [⟨(some 47), none, .inl (.mv (.t 12))⟩,
              ⟨(some 48), none, .inl (.mv (.c (.int .i64 0)))⟩])
           (.keep [0, 2, 3, 4, 5, 6, 10, 47, 48]))
           (.block 0 (.loop [0, 2, 3, 4, 5, 6, 10, 47, 48] (.seq (.seq (.reg [⟨(some 49), none, .inl (.bin .lss (.t 48) (.t 47))⟩])
            (.keep [0, 2, 3, 4, 5, 6, 10, 47, 48, 49]))
            (.seq (.cond (.t 49)
              (.skip)
              (.exit 0))
             (.seq (.block 1 (.seq (.seq (.reg [⟨(some 50), none, .inl (.mv (.t 48))⟩,
                 ⟨(some 14), none, .inl (.mv (.t 50))⟩])
              (.keep [0, 2, 3, 4, 5, 6, 10, 14, 47, 48]))
              (.seq (.seq (.reg [⟨(some 51), none, .inl (.mv (.t 10))⟩,
                  ⟨(some 52), none, .inl (.mv (.t 14))⟩,
                  ⟨(some 53), none, .inl (.bin .shr (.t 51) (.t 52))⟩,
                  ⟨(some 54), none, .inl (.bin .and (.t 53) (.c (.int .i64 1)))⟩,
                  ⟨(some 55), none, .inl (.bin .eql (.t 54) (.c (.int .i64 1)))⟩])
               (.keep [0, 2, 3, 4, 5, 6, 10, 14, 47, 48, 55]))
               (.cond (.t 55)
                 (.seq (.reg [⟨(some 56), none, .inl (.mv (.t 3))⟩,
                     ⟨(some 57), none, .inl (.mv (.t 14))⟩,
                     ⟨(some 58), none, .inr (.bslice 1 [(.int .i64 0)] 1 [(0, (.t 57))])⟩,
                     ⟨(some 59), none, .inr (.append 1 8 (.t 56) (.t 58))⟩,
                     ⟨(some 60), none, .inl (.mv (.t 4))⟩,
                     ⟨(some 61), none, .inl (.mv (.t 0))⟩,
                     ⟨(some 62), none, .inl (.mv (.t 2))⟩,
                     ⟨(some 63), none, .inl (.mv (.t 14))⟩,
                     ⟨(some 64), none, .inr (.call 26 [(.t 61), (.t 62), (.t 63)])⟩,
                     ⟨(some 65), none, .inr (.call 32 [(.t 64)])⟩,
                     ⟨(some 66), none, .inr (.bslice 1 [.nils] 1 [(0, (.t 65))])⟩,
                     ⟨(some 67), none, .inr (.append 1 24 (.t 60) (.t 66))⟩,
                     ⟨(some 3), none, .inl (.mv (.t 59))⟩,
                     ⟨(some 4), none, .inl (.mv (.t 67))⟩])
                  (.keep [0, 2, 3, 4, 5, 6, 10, 47, 48]))
                 (.skip)))))
              (.seq (.reg [⟨(some 68), none, .inl (.bin .add (.t 48) (.c (.int .i64 1)))⟩,
                  ⟨(some 48), none, .inl (.mv (.t 68))⟩])
               (.keep [0, 2, 3, 4, 5, 6, 10, 47, 48]))))))))
           (.seq (.seq (.seq (.reg [⟨(some 70), none, .inl (.mv (.t 2))⟩,
               ⟨(some 71), none, .inl (.mv (.t 3))⟩,
               ⟨(some 72), none, .inl (.mv (.t 4))⟩,
               ⟨(some 73), none, .inl (.mv (.t 5))⟩,
               ⟨(some 74), none, .inl (.mv (.t 6))⟩,
               ⟨(some 75), none, .inr (.call 11 [(.t 70), (.t 71), (.t 72), (.t 73), (.t 74)])⟩,
               ⟨(some 69), none, .inl (.mv (.t 75))⟩,
               ⟨(some 76), none, .inl (.ext 0 (.t 69))⟩,
               ⟨(some 77), none, .inl (.ext 1 (.t 69))⟩,
               ⟨(some 15), none, .inl (.mv (.t 76))⟩,
               ⟨(some 16), none, .inl (.mv (.t 77))⟩])
            (.keep [0, 2, 3, 4, 5, 6, 15, 16]))
            (.seq (.seq (.reg [⟨(some 78), none, .inl (.mv (.t 16))⟩,
                ⟨(some 79), none, .inl (.bin .neq (.t 78) (.c (.int .i64 0)))⟩,
                ⟨(some 80), none, .inl (.mv (.t 79))⟩,
                ⟨(some 81), (some (80, false)), .inl (.mv (.t 15))⟩,
                ⟨(some 82), (some (80, false)), .inl (.mv (.t 0))⟩,
                ⟨(some 83), (some (80, false)), .inr (.call 33 [(.t 81), (.t 82)])⟩,
                ⟨(some 84), (some (80, false)), .inl (.un .not (.t 83))⟩,
                ⟨(some 85), none, .inl (.pick (.t 80) (.c (.bool true)) (.t 84))⟩])
             (.keep [2, 3, 4, 5, 6, 85]))
             (.cond (.t 85)
               (.seq (.seq (.reg [⟨(some 2), none, .inl (.mv (.c (.int .i64 0)))⟩,
                   ⟨(some 3), none, .inl (.mv (.c .nils))⟩,
                   ⟨(some 4), none, .inl (.mv (.c .nils))⟩,
                   ⟨(some 5), none, .inl (.mv (.c (.int .i64 0)))⟩,
                   ⟨(some 6), none, .inl (.mv (.c (.int .i64 0)))⟩,
                   ⟨(some 7), none, .inl (.mv (.c (.bool false)))⟩])
                (.keep [2, 3, 4, 5, 6, 7]))
                (.ret))
               (.skip))))
            (.seq (.seq (.reg [⟨(some 86), none, .inl (.mv (.t 2))⟩,
                ⟨(some 87), none, .inl (.mv (.t 3))⟩,
                ⟨(some 88), none, .inl (.mv (.t 4))⟩,
                ⟨(some 89), none, .inl (.mv (.t 5))⟩,
                ⟨(some 90), none, .inl (.mv (.t 6))⟩,
                ⟨(some 2), none, .inl (.mv (.t 86))⟩,
                ⟨(some 3), none, .inl (.mv (.t 87))⟩,
                ⟨(some 4), none, .inl (.mv (.t 88))⟩,
                ⟨(some 5), none, .inl (.mv (.t 89))⟩,
                ⟨(some 6), none, .inl (.mv (.t 90))⟩,
                ⟨(some 7), none, .inl (.mv (.c (.bool true)))⟩])
             (.keep [2, 3, 4, 5, 6, 7]))
             (.ret)))))))))))
def fc_slab_Read : FC := ⟨91, cmd_slab_Read, [.t 2, .t 3, .t 4, .t 5, .t 6, .t 7]⟩
theorem fc_slab_Read_ok : compF Try.prog 17 [[0, 3, 4], [0, 3, 4, 19], [2, 3, 4, 5, 6, 7], [0, 3, 4, 8], [0, 3, 4, 8, 10], [0, 3, 4, 5, 8, 10], [0, 3, 4, 5, 6, 8, 10], [0, 2, 3, 4, 5, 6, 10], [0, 2, 3, 4, 5, 6, 10, 12], [0, 2, 3, 4, 5, 6, 10, 47, 48], [0, 2, 3, 4, 5, 6, 10, 47, 48], [0, 2, 3, 4, 5, 6, 10, 47, 48, 49], [0, 2, 3, 4, 5, 6, 10, 14, 47, 48], [0, 2, 3, 4, 5, 6, 10, 14, 47, 48, 55], [0, 2, 3, 4, 5, 6, 10, 47, 48], [0, 2, 3, 4, 5, 6, 10, 47, 48], [0, 2, 3, 4, 5, 6, 15, 16], [2, 3, 4, 5, 6, 85], [2, 3, 4, 5, 6, 7], [2, 3, 4, 5, 6, 7]] = some fc_slab_Read := by kernel_rfl
/-- joist/joistref15.Read -/
abbrev F.joistref15_Read : Nat := 18
def cmd_joistref15_Read : Cmd :=
  .seq (.seq (.reg [⟨(some 2), none, .inl (.mv (.c (.int .i64 0)))⟩,
      ⟨(some 3), none, .inl (.mv (.c .nils))⟩,
      ⟨(some 4), none, .inl (.mv (.c .nils))⟩,
      ⟨(some 5), none, .inl (.mv (.c (.int .i64 0)))⟩,
      ⟨(some 6), none, .inl (.mv (.c (.int .i64 0)))⟩,
      ⟨(some 7), none, .inl (.mv (.c (.bool false)))⟩])
   (.keep [0]))
   (.seq (.seq (.seq (.reg [⟨(some 27), none, .inl (.mv (.t 0))⟩,
       ⟨(some 28), none, .inl (.len (.t 27))⟩,
       ⟨(some 29), none, .inl (.bin .neq (.t 28) (.c (.int .i64 256)))⟩])
    (.keep [0, 29]))
    (.cond (.t 29)
      (.seq (.seq (.reg [⟨(some 2), none, .inl (.mv (.c (.int .i64 0)))⟩,
          ⟨(some 3), none, .inl (.mv (.c .nils))⟩,
          ⟨(some 4), none, .inl (.mv (.c .nils))⟩,
          ⟨(some 5), none, .inl (.mv (.c (.int .i64 0)))⟩,
          ⟨(some 6), none, .inl (.mv (.c (.int .i64 0)))⟩,
          ⟨(some 7), none, .inl (.mv (.c (.bool false)))⟩])
       (.keep [2, 3, 4, 5, 6, 7]))
       (.ret))
      (.skip)))
    (.seq (.seq (.reg [⟨(some 31), none, .inl (.mv (.t 0))⟩,
        ⟨(some 32), none, .inr (.call 34 [(.t 31), (.c (.int .i64 0))])⟩,
        ⟨(some 30), none, .inl (.mv (.t 32))⟩,
        ⟨(some 33), none, .inl (.ext 0 (.t 30))⟩,
        ⟨(some 34), none, .inl (.ext 1 (.t 30))⟩,
        ⟨(some 8), none, .inl (.mv (.t 33))⟩,
        ⟨(some 9), none, .inl (.mv (.t 34))⟩])
     (.keep [0, 8]))
     (.seq (.seq (.reg [⟨(some 35), none, .inl (.mv (.t 8))⟩,
         ⟨(some 36), none, .inl (.bin .sub (.t 35) (.c (.int .i64 1)))⟩,
         ⟨(some 8), none, .inl (.mv (.t 36))⟩])
      (.keep [0, 8]))
      (.seq (.seq (.reg [⟨(some 38), none, .inl (.mv (.t 0))⟩,
          ⟨(some 39), none, .inr (.call 34 [(.t 38), (.c (.int .i64 1))])⟩,
          ⟨(some 37), none, .inl (.mv (.t 39))⟩,
          ⟨(some 40), none, .inl (.ext 0 (.t 37))⟩,
          ⟨(some 41), none, .inl (.ext 1 (.t 37))⟩,
          ⟨(some 10), none, .inl (.mv (.t 40))⟩,
          ⟨(some 11), none, .inl (.mv (.t 41))⟩])
       (.keep [0, 8, 10]))
       (.seq (.seq (.reg [⟨(some 43), none, .inl (.mv (.t 0))⟩,
           ⟨(some 44), none, .inr (.call 34 [(.t 43), (.c (.int .i64 2))])⟩,
           ⟨(some 42), none, .inl (.mv (.t 44))⟩,
           ⟨(some 45), none, .inl (.ext 0 (.t 42))⟩,
           ⟨(some 46), none, .inl (.ext 1 (.t 42))⟩,
           ⟨(some 12), none, .inl (.mv (.t 45))⟩,
           ⟨(some 13), none, .inl (.mv (.t 46))⟩])
        (.keep [0, 8, 10, 12]))
        (.seq (.seq (.reg [⟨(some 48), none, .inl (.mv (.t 0))⟩,
            ⟨(some 49), none, .inr (.call 34 [(.t 48), (.c (.int .i64 3))])⟩,
            ⟨(some 47), none, .inl (.mv (.t 49))⟩,
            ⟨(some 50), none, .inl (.ext 0 (.t 47))⟩,
            ⟨(some 51), none, .inl (.ext 1 (.t 47))⟩,
            ⟨(some 14), none, .inl (.mv (.t 50))⟩,
            ⟨(some 15), none, .inl (.mv (.t 51))⟩])
         (.keep [0, 8, 10, 12, 14]))
         (.seq (.seq (.reg [⟨(some 53), none, .inl (.mv (.t 8))⟩,
             ⟨(some 54), none, .inr (.call 30 [(.t 53)])⟩,
             ⟨(some 52), none, .inl (.mv (.t 54))⟩,
             ⟨(some 55), none, .inl (.ext 0 (.t 52))⟩,
             ⟨(some 56), none, .inl (.ext 1 (.t 52))⟩,
             ⟨(some 16), none, .inl (.mv (.t 55))⟩,
             ⟨(some 17), none, .inl (.mv (.t 56))⟩])
          (.keep [0, 8, 10, 12, 14, 16]))
          (.seq (.seq (.reg [⟨(some 58), none, .inl (.mv (.t 8))⟩,
              ⟨(some 59), none, .inr (.call 27 [(.t 58)])⟩,
              ⟨(some 57), none, .inl (.mv (.t 59))⟩,
              ⟨(some 60), none, .inl (.ext 0 (.t 57))⟩,
              ⟨(some 61), none, .inl (.ext 1 (.t 57))⟩,
              ⟨(some 18), none, .inl (.mv (.t 60))⟩,
              ⟨(some 19), none, .inl (.mv (.t 61))⟩])
           (.keep [0, 8, 10, 12, 14, 16, 18]))
           (.seq (.seq (.reg [⟨(some 20), none, .inl (.mv (.c .nils))⟩])
            (.keep [0, 8, 10, 12, 14, 16, 18, 20]))
            (.seq (.seq (.reg [⟨(some 21), none, .inl (.mv (.c .nils))⟩])
             (.keep [0, 8, 10, 12, 14, 16, 18, 20, 21]))
             (.seq (.seq (.seq (.reg [⟨(some 22), none, .inl (.mv (.c (.int .i64 0)))⟩])
              (.keep [0, 8, 10, 12, 14, 16, 18, 20, 21, 22]))
              (.block 0 (.loop [0, 8, 10, 12, 14, 16, 18, 20, 21, 22] (.seq (.seq (.seq (.reg [⟨(some 62), none, .inl (.mv (.t 22))⟩,
                  ⟨(some 63), none, .inl (.mv (.t 16))⟩,
                  ⟨(some 64), none, .inl (.bin .lss (.t 62) (.t 63))⟩])
               (.keep [0, 8, 10, 12, 14, 16, 18, 20, 21, 22, 64]))
               (.cond (.t 64)
                 (.skip)
                 (.exit 0)))
               (.seq (.block 1 (.seq (.seq (.reg [⟨(some 67), none, .inl (.mv (.t 10))⟩,
                   ⟨(some 68), none, .inl (.mv (.t 22))⟩,
                   ⟨(some 69), none, .inl (.bin .shr (.t 67) (.t 68))⟩,
                   ⟨(some 70), none, .inl (.bin .rem (.t 69) (.c (.int .i64 2)))⟩,
                   ⟨(some 71), none, .inl (.bin .eql (.t 70) (.c (.int .i64 1)))⟩])
                (.keep [0, 8, 10, 12, 14, 16, 18, 20, 21, 22, 71]))
                (.cond (.t 71)
                  (.seq (.seq (.reg [⟨(some 73), none, .inl (.mv (.t 8))⟩,
                      ⟨(some 74), none, .inl (.mv (.t 22))⟩,
                      ⟨(some 75), none, .inr (.call 29 [(.t 73), (.t 74)])⟩,
                      ⟨(some 72), none, .inl (.mv (.t 75))⟩,
                      ⟨(some 76), none, .inl (.ext 0 (.t 72))⟩,
                      ⟨(some 77), none, .inl (.ext 1 (.t 72))⟩,
                      ⟨(some 23), none, .inl (.mv (.t 76))⟩,
                      ⟨(some 24), none, .inl (.mv (.t 77))⟩])
                   (.keep [0, 8, 10, 12, 14, 16, 18, 20, 21, 22, 23]))
                   (.seq (.seq (.reg [⟨(some 78), none, .inl (.mv (.t 20))⟩,
                       ⟨(some 79), none, .inl (.mv (.t 22))⟩,
                       ⟨(some 80), none, .inr (.bslice 1 [(.int .i64 0)] 1 [(0, (.t 79))])⟩,
                       ⟨(some 81), none, .inr (.append 1 8 (.t 78) (.t 80))⟩,
                       ⟨(some 20), none, .inl (.mv (.t 81))⟩])
                    (.keep [0, 8, 10, 12, 14, 16, 18, 20, 21, 22, 23]))
                    (.seq (.reg [⟨(some 82), none, .inl (.mv (.t 21))⟩,
                        ⟨(some 83), none, .inr (.bslice 1 [(.int .u8 0)] 0 [])⟩,
                        ⟨(some 84), none, .inl (.mv (.t 0))⟩,
                        ⟨(some 85), none, .inl (.mv (.t 23))⟩,
                        ⟨(some 86), none, .inl (.bin .mul (.c (.int .i64 8)) (.t 85))⟩,
                        ⟨(some 87), none, .inl (.mv (.t 23))⟩,
                        ⟨(some 88), none, .inl (.mv (.t 18))⟩,
                        ⟨(some 89), none, .inl (.bin .add (.t 87) (.t 88))⟩,
                        ⟨(some 90), none, .inl (.bin .mul (.c (.int .i64 8)) (.t 89))⟩,
                        ⟨(some 91), none, .inl (.slice 1 (.t 84) (some (.t 86)) (some (.t 90)) none)⟩,
                        ⟨(some 92), none, .inr (.append 1 1 (.t 83) (.t 91))⟩,
                        ⟨(some 93), none, .inr (.bslice 1 [.nils] 1 [(0, (.t 92))])⟩,
                        ⟨(some 94), none, .inr (.append 1 24 (.t 82) (.t 93))⟩,
                        ⟨(some 21), none, .inl (.mv (.t 94))⟩])
                     (.keep [0, 8, 10, 12, 14, 16, 18, 20, 21, 22]))))
                  (.skip))))
                (.seq (.reg [⟨(some 65), none, .inl (.mv (.t 22))⟩,
                    ⟨(some 66), none, .inl (.bin .add (.t 65) (.c (.int .i64 1)))⟩,
                    ⟨(some 22), none, .inl (.mv (.t 66))⟩])
                 (.keep [0, 8, 10, 12, 14, 16, 18, 20, 21, 22])))))))
              (.seq (.seq (.reg [⟨(some 96), none, .inl (.mv (.t 8))⟩,
                  ⟨(some 97), none, .inl (.mv (.t 20))⟩,
                  ⟨(some 98), none, .inl (.mv (.t 21))⟩,
                  ⟨(some 99), none, .inl (.mv (.t 12))⟩,
                  ⟨(some 100), none, .inl (.mv (.t 14))⟩,
                  ⟨(some 101), none, .inr (.call 12 [(.t 96), (.t 97), (.t 98), (.t 99), (.t 100)])⟩,
                  ⟨(some 95), none, .inl (.mv (.t 101))⟩,
                  ⟨(some 102), none, .inl (.ext 0 (.t 95))⟩,
                  ⟨(some 103), none, .inl (.ext 1 (.t 95))⟩,
                  ⟨(some 25), none, .inl (.mv (.t 102))⟩,
                  ⟨(some 26), none, .inl (.mv (.t 103))⟩])
               (.keep [0, 8, 12, 14, 20, 21, 25, 26]))
               (.seq (.seq (.seq (.reg [⟨(some 104), none, .inl (.mv (.t 26))⟩,
                   ⟨(some 105), none, .inl (.bin .neq (.t 104) (.c (.int .i64 0)))⟩,
                   ⟨(some 106), none, .inl (.mv (.t 105))⟩,
                   ⟨(some 107), (some (106, false)), .inl (.mv (.t 25))⟩,
                   ⟨(some 108), (some (106, false)), .inl (.b2s (.t 107))⟩,
                   ⟨(some 109), (some (106, false)), .inl (.mv (.t 0))⟩,
                   ⟨(some 110), (some (106, false)), .inl (.b2s (.t 109))⟩,
                   ⟨(some 111), (some (106, false)), .inl (.bins .neq (.t 108) (.t 110))⟩,
                   ⟨(some 112), none, .inl (.pick (.t 106) (.c (.bool true)) (.t 111))⟩])
                (.keep [8, 12, 14, 20, 21, 112]))
                (.cond (.t 112)
                  (.seq (.seq (.reg [⟨(some 2), none, .inl (.mv (.c (.int .i64 0)))⟩,
                      ⟨(some 3), none, .inl (.mv (.c .nils))⟩,
                      ⟨(some 4), none, .inl (.mv (.c .nils))⟩,
                      ⟨(some 5), none, .inl (.mv (.c (.int .i64 0)))⟩,
                      ⟨(some 6), none, .inl (.mv (.c (.int .i64 0)))⟩,
                      ⟨(some 7), none, .inl (.mv (.c (.bool false)))⟩])
                   (.keep [2, 3, 4, 5, 6, 7]))
                   (.ret))
                  (.skip)))
                (.seq (.seq (.reg [⟨(some 113), none, .inl (.mv (.t 8))⟩,
                    ⟨(some 114), none, .inl (.mv (.t 20))⟩,
                    ⟨(some 115), none, .inl (.mv (.t 21))⟩,
                    ⟨(some 116), none, .inl (.mv (.t 12))⟩,
                    ⟨(some 117), none, .inl (.mv (.t 14))⟩,
                    ⟨(some 2), none, .inl (.mv (.t 113))⟩,
                    ⟨(some 3), none, .inl (.mv (.t 114))⟩,
                    ⟨(some 4), none, .inl (.mv (.t 115))⟩,
                    ⟨(some 5), none, .inl (.mv (.t 116))⟩,
                    ⟨(some 6), none, .inl (.mv (.t 117))⟩,
                    ⟨(some 7), none, .inl (.mv (.c (.bool true)))⟩])
                 (.keep [2, 3, 4, 5, 6, 7]))
                 (.ret)))))))))))))))
def fc_joistref15_Read : FC := ⟨118, cmd_joistref15_Read, [.t 2, .t 3, .t 4, .t 5, .t 6, .t 7]⟩
theorem fc_joistref15_Read_ok : compF Try.prog 18 [[0], [0, 29], [2, 3, 4, 5, 6, 7], [0, 8], [0, 8], [0, 8, 10], [0, 8, 10, 12], [0, 8, 10, 12, 14], [0, 8, 10, 12, 14, 16], [0, 8, 10, 12, 14, 16, 18], [0, 8, 10, 12, 14, 16, 18, 20], [0, 8, 10, 12, 14, 16, 18, 20, 21], [0, 8, 10, 12, 14, 16, 18, 20, 21, 22], [0, 8, 10, 12, 14, 16, 18, 20, 21, 22], [0, 8, 10, 12, 14, 16, 18, 20, 21, 22, 64], [0, 8, 10, 12, 14, 16, 18, 20, 21, 22, 71], [0, 8, 10, 12, 14, 16, 18, 20, 21, 22, 23], [0, 8, 10, 12, 14, 16, 18, 20, 21, 22, 23], [0, 8, 10, 12, 14, 16, 18, 20, 21, 22], [0, 8, 10, 12, 14, 16, 18, 20, 21, 22], [0, 8, 12, 14, 20, 21, 25, 26], [8, 12, 14, 20, 21, 112], [2, 3, 4, 5, 6, 7], [2, 3, 4, 5, 6, 7]] = some fc_joistref15_Read := by kernel_rfl
/-- joist/joistref01.Same -/
abbrev F.joistref01_Same : Nat := 19
def cmd_joistref01_Same : Cmd :=
  .seq (.seq (.reg [⟨(some 4), none, .inl (.mv (.c (.bool false)))⟩])
   (.keep [0, 1]))
   (.seq (.seq (.seq (.reg [⟨(some 6), none, .inl (.mv (.t 0))⟩,
       ⟨(some 7), none, .inl (.len (.t 6))⟩,
       ⟨(some 8), none, .inl (.mv (.t 1))⟩,
       ⟨(some 9), none, .inl (.len (.t 8))⟩,
       ⟨(some 10), none, .inl (.bin .neq (.t 7) (.t 9))⟩])
    (.keep [0, 1, 10]))
    (.cond (.t 10)
      (.seq (.seq (.reg [⟨(some 4), none, .inl (.mv (.c (.bool false)))⟩])
       (.keep [4]))
       (.ret))
      (.skip)))
    (.seq (.seq (.seq (.reg [⟨(some 5), none, .inl (.mv (.c (.int .i64 0)))⟩])
     (.keep [0, 1, 5]))
     (.block 0 (.loop [0, 1, 5] (.seq (.seq (.seq (.reg [⟨(some 11), none, .inl (.mv (.t 5))⟩,
         ⟨(some 12), none, .inl (.mv (.t 0))⟩,
         ⟨(some 13), none, .inl (.len (.t 12))⟩,
         ⟨(some 14), none, .inl (.bin .lss (.t 11) (.t 13))⟩])
      (.keep [0, 1, 5, 14]))
      (.cond (.t 14)
        (.skip)
        (.exit 0)))
      (.seq (.block 1 (.seq (.seq (.ord [⟨0, ⟨(some 17), none, .inl (.mv (.t 0))⟩, [], false⟩,
          ⟨1, ⟨(some 18), none, .inl (.mv (.t 5))⟩, [], false⟩,
          ⟨2, ⟨(some 19), none, .inl (.iaddr 1 (.t 17) (.t 18))⟩, [], false⟩,
          ⟨3, ⟨(some 20), none, .inl (.load false 1 (.t 19))⟩, [], false⟩,
          ⟨4, ⟨(some 21), none, .inl (.mv (.t 1))⟩, [], false⟩,
          ⟨5, ⟨(some 22), none, .inl (.mv (.t 5))⟩, [], false⟩,
          ⟨6, ⟨(some 23), none, .inl (.iaddr 1 (.t 21) (.t 22))⟩, [], false⟩,
          ⟨7, ⟨(some 24), none, .inl (.load false 1 (.t 23))⟩, [], false⟩,
          ⟨8, ⟨(some 25), none, .inl (.bin .neq (.t 20) (.t 24))⟩, [], false⟩])
       (.keep [0, 1, 5, 25]))
       (.cond (.t 25)
         (.seq (.seq (.reg [⟨(some 4), none, .inl (.mv (.c (.bool false)))⟩])
          (.keep [4]))
          (.ret))
         (.skip))))
       (.seq (.reg [⟨(some 15), none, .inl (.mv (.t 5))⟩,
           ⟨(some 16), none, .inl (.bin .add (.t 15) (.c (.int .i64 1)))⟩,
           ⟨(some 5), none, .inl (.mv (.t 16))⟩])
        (.keep [0, 1, 5])))))))
     (.seq (.seq (.reg [⟨(some 4), none, .inl (.mv (.c (.bool true)))⟩])
      (.keep [4]))
      (.ret))))
def fc_joistref01_Same : FC := ⟨26, cmd_joistref01_Same, [.t 4]⟩
theorem fc_joistref01_Same_ok : compF Try.prog 19 [[0, 1], [0, 1, 10], [4], [0, 1, 5], [0, 1, 5], [0, 1, 5, 14], [0, 1, 5, 25], [0, 1, 2, 3, 4, 5, 6, 7, 8], [4], [0, 1, 5], [4]] = some fc_joistref01_Same := by kernel_rfl
/-- joist/joistref11.SameRows -/
abbrev F.joistref11_SameRows : Nat := 20
def cmd_joistref11_SameRows : Cmd :=
  .seq (.seq (.reg [⟨(some 4), none, .inl (.mv (.c (.bool false)))⟩])
   (.keep [0, 1]))
   (.seq (.seq (.seq (.reg [⟨(some 6), none, .inl (.mv (.t 0))⟩,
       ⟨(some 7), none, .inl (.len (.t 6))⟩,
       ⟨(some 8), none, .inl (.mv (.t 1))⟩,
       ⟨(some 9), none, .inl (.len (.t 8))⟩,
       ⟨(some 10), none, .inl (.bin .neq (.t 7) (.t 9))⟩])
    (.keep [0, 1, 10]))
    (.cond (.t 10)
      (.seq (.seq (.reg [⟨(some 4), none, .inl (.mv (.c (.bool false)))⟩])
       (.keep [4]))
       (.ret))
      (.skip)))
    (.seq (.seq (.seq (.reg [⟨(some 5), none, .inl (.mv (.c (.int .i64 0)))⟩])
     (.keep [0, 1, 5]))
     (.block 0 (.loop [0, 1, 5] (.seq (.seq (.seq (.reg [⟨(some 11), none, .inl (.mv (.t 5))⟩,
         ⟨(some 12), none, .inl (.mv (.t 0))⟩,
         ⟨(some 13), none, .inl (.len (.t 12))⟩,
         ⟨(some 14), none, .inl (.bin .lss (.t 11) (.t 13))⟩])
      (.keep [0, 1, 5, 14]))
      (.cond (.t 14)
        (.skip)
        (.exit 0)))
      (.seq (.block 1 (.seq (.seq (.ord [⟨0, ⟨(some 17), none, .inl (.mv (.t 0))⟩, [], false⟩,
          ⟨1, ⟨(some 18), none, .inl (.mv (.t 5))⟩, [], false⟩,
          ⟨2, ⟨(some 19), none, .inl (.iaddr 1 (.t 17) (.t 18))⟩, [], false⟩,
          ⟨3, ⟨(some 20), none, .inl (.load false 1 (.t 19))⟩, [], false⟩,
          ⟨4, ⟨(some 21), none, .inl (.b2s (.t 20))⟩, [], false⟩,
          ⟨5, ⟨(some 22), none, .inl (.mv (.t 1))⟩, [], false⟩,
          ⟨6, ⟨(some 23), none, .inl (.mv (.t 5))⟩, [], false⟩,
          ⟨7, ⟨(some 24), none, .inl (.iaddr 1 (.t 22) (.t 23))⟩, [], false⟩,
          ⟨8, ⟨(some 25), none, .inl (.load false 1 (.t 24))⟩, [], false⟩,
          ⟨9, ⟨(some 26), none, .inl (.b2s (.t 25))⟩, [], false⟩,
          ⟨10, ⟨(some 27), none, .inl (.bins .neq (.t 21) (.t 26))⟩, [], false⟩])
       (.keep [0, 1, 5, 27]))
       (.cond (.t 27)
         (.seq (.seq (.reg [⟨(some 4), none, .inl (.mv (.c (.bool false)))⟩])
          (.keep [4]))
          (.ret))
         (.skip))))
       (.seq (.reg [⟨(some 15), none, .inl (.mv (.t 5))⟩,
           ⟨(some 16), none, .inl (.bin .add (.t 15) (.c (.int .i64 1)))⟩,
           ⟨(some 5), none, .inl (.mv (.t 16))⟩])
        (.keep [0, 1, 5])))))))
     (.seq (.seq (.reg [⟨(some 4), none, .inl (.mv (.c (.bool true)))⟩])
      (.keep [4]))
      (.ret))))
def fc_joistref11_SameRows : FC := ⟨28, cmd_joistref11_SameRows, [.t 4]⟩
theorem fc_joistref11_SameRows_ok : compF Try.prog 20 [[0, 1], [0, 1, 10], [4], [0, 1, 5], [0, 1, 5], [0, 1, 5, 14], [0, 1, 5, 27], [0, 1, 2, 3, 4, 5, 6, 7, 8, 9, 10], [4], [0, 1, 5], [4]] = some fc_joistref11_SameRows := by kernel_rfl
/-- joist/class.Cells -/
abbrev F.class_Cells : Nat := 21
def cmd_class_Cells : Cmd :=
  .seq (.seq (.reg [⟨(some 2), none, .inl (.mv (.c (.int .i64 0)))⟩,
      ⟨(some 3), none, .inl (.mv (.c (.int .i64 0)))⟩])
   (.keep [0]))
   (.seq (.seq (.reg [⟨(some 7), none, .inl (.mv (.t 0))⟩,
       ⟨(some 8), none, .inr (.call 35 [(.t 7)])⟩,
       ⟨(some 6), none, .inl (.mv (.t 8))⟩,
       ⟨(some 9), none, .inl (.ext 0 (.t 6))⟩,
       ⟨(some 10), none, .inl (.ext 1 (.t 6))⟩,
       ⟨(some 4), none, .inl (.mv (.t 9))⟩,
       ⟨(some 5), none, .inl (.mv (.t 10))⟩])
    (.keep [4, 5]))
    (.seq (.seq (.seq (.reg [⟨(some 11), none, .inl (.mv (.t 5))⟩,
        ⟨(some 12), none, .inl (.bin .neq (.t 11) (.c (.int .i64 0)))⟩])
     (.keep [4, 5, 12]))
     (.cond (.t 12)
       (.seq (.seq (.reg [⟨(some 13), none, .inl (.mv (.t 5))⟩,
           ⟨(some 2), none, .inl (.mv (.c (.int .i64 0)))⟩,
           ⟨(some 3), none, .inl (.mv (.t 13))⟩])
        (.keep [2, 3]))
        (.ret))
       (.skip)))
     (.seq (.seq (.reg [⟨(some 14), none, .inl (.mv (.t 4))⟩,
         ⟨(some 15), none, .inl (.bin .quo (.c (.int .i64 28)) (.t 14))⟩,
         ⟨(some 2), none, .inl (.mv (.t 15))⟩,
         ⟨(some 3), none, .inl (.mv (.c (.int .i64 0)))⟩])
      (.keep [2, 3]))
      (.ret))))
def fc_class_Cells : FC := ⟨16, cmd_class_Cells, [.t 2, .t 3]⟩
theorem fc_class_Cells_ok : compF Try.prog 21 [[0], [4, 5], [4, 5, 12], [2, 3], [2, 3]] = some fc_class_Cells := by kernel_rfl
/-- joist/words.Zero -/
abbrev F.words_Zero : Nat := 22
def cmd_words_Zero : Cmd :=
  .seq (.seq (.reg [⟨(some 2), none, .inl (.mv (.c (.bool false)))⟩])
   (.keep [0]))
   (.seq (.seq (.seq (.reg [⟨(some 5), none, .inl (.mv (.t 0))⟩,
       ⟨(some 6), none, .inl (.len (.t 5))⟩,
       ⟨(some 7), none, .inl (.mv (.c (.int .i64 0)))⟩])
    (.keep [5, 6, 7]))
    (.block 0 (.loop [5, 6, 7] (.seq (.seq (.reg [⟨(some 8), none, .inl (.bin .lss (.t 7) (.t 6))⟩])
     (.keep [5, 6, 7, 8]))
     (.seq (.cond (.t 8)
       (.skip)
       (.exit 0))
      (.seq (.block 1 (.seq (.seq (.reg [⟨(some 9), none, .inl (.iaddr 1 (.t 5) (.t 7))⟩,
          ⟨(some 10), none, .inl (.load false 1 (.t 9))⟩,
          ⟨(some 4), none, .inl (.mv (.t 10))⟩])
       (.keep [4, 5, 6, 7]))
       (.seq (.seq (.reg [⟨(some 11), none, .inl (.mv (.t 4))⟩,
           ⟨(some 12), none, .inl (.bin .neq (.t 11) (.c (.int .u8 0)))⟩])
        (.keep [5, 6, 7, 12]))
        (.cond (.t 12)
          (.seq (.seq (.reg [⟨(some 2), none, .inl (.mv (.c (.bool false)))⟩])
           (.keep [2]))
           (.ret))
          (.skip)))))
       (.seq (.reg [⟨(some 13), none, .inl (.bin .add (.t 7) (.c (.int .i64 1)))⟩,
           ⟨(some 7), none, .inl (.mv (.t 13))⟩])
        (.keep [5, 6, 7]))))))))
    (.seq (.seq (.reg [⟨(some 2), none, .inl (.mv (.c (.bool true)))⟩])
     (.keep [2]))
     (.ret)))
def fc_words_Zero : FC := ⟨14, cmd_words_Zero, [.t 2]⟩
theorem fc_words_Zero_ok : compF Try.prog 22 [[0], [5, 6, 7], [5, 6, 7], [5, 6, 7, 8], [4, 5, 6, 7], [5, 6, 7, 12], [2], [5, 6, 7], [2]] = some fc_words_Zero := by kernel_rfl
/-- joist/class.Cell -/
abbrev F.class_Cell : Nat := 23
def cmd_class_Cell : Cmd :=
  .seq (.seq (.reg [⟨(some 4), none, .inl (.mv (.c (.int .i64 0)))⟩,
      ⟨(some 5), none, .inl (.mv (.c (.int .i64 0)))⟩])
   (.keep [0, 1]))
   (.seq (.seq (.reg [⟨(some 9), none, .inl (.mv (.t 0))⟩,
       ⟨(some 10), none, .inr (.call 21 [(.t 9)])⟩,
       ⟨(some 8), none, .inl (.mv (.t 10))⟩,
       ⟨(some 11), none, .inl (.ext 0 (.t 8))⟩,
       ⟨(some 12), none, .inl (.ext 1 (.t 8))⟩,
       ⟨(some 6), none, .inl (.mv (.t 11))⟩,
       ⟨(some 7), none, .inl (.mv (.t 12))⟩])
    (.keep [0, 1, 6, 7]))
    (.seq (.seq (.seq (.reg [⟨(some 13), none, .inl (.mv (.t 7))⟩,
        ⟨(some 14), none, .inl (.bin .neq (.t 13) (.c (.int .i64 0)))⟩,
        ⟨(some 15), none, .inl (.mv (.t 14))⟩,
        ⟨(some 16), (some (15, false)), .inl (.mv (.t 1))⟩,
        ⟨(some 17), (some (15, false)), .inl (.bin .lss (.t 16) (.c (.int .i64 0)))⟩,
        ⟨(some 18), none, .inl (.pick (.t 15) (.c (.bool true)) (.t 17))⟩,
        ⟨(some 19), none, .inl (.mv (.t 18))⟩,
        ⟨(some 20), (some (19, false)), .inl (.mv (.t 1))⟩,
        ⟨(some 21), (some (19, false)), .inl (.mv (.t 6))⟩,
        ⟨(some 22), (some (19, false)), .inl (.bin .geq (.t 20) (.t 21))⟩,
        ⟨(some 23), none, .inl (.pick (.t 19) (.c (.bool true)) (.t 22))⟩])
     (.keep [0, 1, 23]))
     (.cond (.t 23)
       (.seq (.seq (.reg [⟨(some 4), none, .inl (.mv (.c (.int .i64 0)))⟩,
           ⟨(some 5), none, .inl (.mv (.c (.int .i64 1)))⟩])
        (.keep [4, 5]))
        (.ret))
       (.skip)))
     (.seq (.seq (.reg [⟨(some 24), none, .inl (.mv (.t 1))⟩,
         ⟨(some 25), none, .inr (.call 36 [])⟩,
         ⟨(some 26), none, .inl (.mv (.t 0))⟩,
         ⟨(some 27), none, .inl (.idxA false 6 1 (.t 25) (.t 26))⟩,
         ⟨(some 28), none, .inl (.bin .mul (.t 24) (.t 27))⟩,
         ⟨(some 29), none, .inl (.bin .add (.c (.int .i64 4)) (.t 28))⟩,
         ⟨(some 4), none, .inl (.mv (.t 29))⟩,
         ⟨(some 5), none, .inl (.mv (.c (.int .i64 0)))⟩])
      (.keep [4, 5]))
      (.ret))))
def fc_class_Cell : FC := ⟨30, cmd_class_Cell, [.t 4, .t 5]⟩
theorem fc_class_Cell_ok : compF Try.prog 23 [[0, 1], [0, 1, 6, 7], [0, 1, 23], [4, 5], [4, 5]] = some fc_class_Cell := by kernel_rfl
/-- joist/slab.neighbor -/
abbrev F.slab_neighbor : Nat := 24
def cmd_slab_neighbor : Cmd :=
  .seq (.seq (.reg [⟨(some 2), none, .inl (.mv (.c (.bool false)))⟩])
   (.keep [0]))
   (.seq (.seq (.reg [⟨(some 3), none, .inl (.mv (.t 0))⟩,
       ⟨(some 4), none, .inl (.bin .geq (.t 3) (.c (.int .i64 0)))⟩,
       ⟨(some 5), none, .inl (.mv (.t 4))⟩,
       ⟨(some 6), (some (5, true)), .inl (.mv (.t 0))⟩,
       ⟨(some 7), (some (5, true)), .inl (.bin .leq (.t 6) (.c (.int .i64 64)))⟩,
       ⟨(some 8), none, .inl (.pick (.t 5) (.t 7) (.c (.bool false)))⟩,
       ⟨(some 2), none, .inl (.mv (.t 8))⟩])
    (.keep [2]))
    (.ret))
def fc_slab_neighbor : FC := ⟨9, cmd_slab_neighbor, [.t 2]⟩
theorem fc_slab_neighbor_ok : compF Try.prog 24 [[0], [2]] = some fc_slab_neighbor := by kernel_rfl
/-- joist/words.Of -/
abbrev F.words_Of : Nat := 25
def cmd_words_Of : Cmd :=
  .seq (.seq (.reg [⟨(some 2), none, .inl (.mv (.c .nils))⟩,
      ⟨(some 3), none, .inl (.mv (.c (.int .i64 0)))⟩])
   (.keep [0]))
   (.seq (.seq (.reg [⟨(some 7), none, .inl (.mv (.t 0))⟩,
       ⟨(some 8), none, .inl (.len (.t 7))⟩,
       ⟨(some 9), none, .inl (.bin .mul (.t 8) (.c (.int .i64 8)))⟩,
       ⟨(some 10), none, .inr (.mksl 1 1 [(.int .u8 0)] (.t 9) (.t 9))⟩,
       ⟨(some 4), none, .inl (.mv (.t 10))⟩])
    (.keep [0, 4]))
    (.seq (.seq (.seq (.reg [⟨(some 11), none, .inl (.mv (.t 0))⟩,
        ⟨(some 12), none, .inl (.len (.t 11))⟩,
        ⟨(some 13), none, .inl (.mv (.c (.int .i64 0)))⟩])
     (.keep [4, 11, 12, 13]))
     (.block 0 (.loop [4, 11, 12, 13] (.seq (.seq (.reg [⟨(some 14), none, .inl (.bin .lss (.t 13) (.t 12))⟩])
      (.keep [4, 11, 12, 13, 14]))
      (.seq (.cond (.t 14)
        (.skip)
        (.exit 0))
       (.seq (.block 1 (.seq (.seq (.reg [⟨(some 15), none, .inl (.mv (.t 13))⟩,
           ⟨(some 16), none, .inl (.iaddr 1 (.t 11) (.t 13))⟩,
           ⟨(some 17), none, .inl (.load false 1 (.t 16))⟩,
           ⟨(some 5), none, .inl (.mv (.t 15))⟩,
           ⟨(some 6), none, .inl (.mv (.t 17))⟩])
        (.keep [4, 5, 6, 11, 12, 13]))
        (.seq (.seq (.seq (.reg [⟨(some 18), none, .inl (.mv (.t 6))⟩,
            ⟨(some 19), none, .inr (.call 37 [(.t 18)])⟩,
            ⟨(some 20), none, .inl (.un .not (.t 19))⟩])
         (.keep [4, 5, 6, 11, 12, 13, 20]))
         (.cond (.t 20)
           (.seq (.seq (.reg [⟨(some 2), none, .inl (.mv (.c .nils))⟩,
               ⟨(some 3), none, .inl (.mv (.c (.int .i64 4)))⟩])
            (.keep [2, 3]))
            (.ret))
           (.skip)))
         (.seq (.reg [⟨(some 21), none, .inl (.mv (.t 4))⟩,
             ⟨(some 22), none, .inl (.mv (.t 5))⟩,
             ⟨(some 23), none, .inr (.call 39 [(.t 21), (.t 22)])⟩,
             ⟨(some 24), none, .inl (.mv (.t 6))⟩,
             ⟨(some 25), none, .inr (.call 38 [(.t 23), (.t 24)])⟩])
          (.keep [4, 11, 12, 13])))))
        (.seq (.reg [⟨(some 26), none, .inl (.bin .add (.t 13) (.c (.int .i64 1)))⟩,
            ⟨(some 13), none, .inl (.mv (.t 26))⟩])
         (.keep [4, 11, 12, 13]))))))))
     (.seq (.seq (.reg [⟨(some 27), none, .inl (.mv (.t 4))⟩,
         ⟨(some 2), none, .inl (.mv (.t 27))⟩,
         ⟨(some 3), none, .inl (.mv (.c (.int .i64 0)))⟩])
      (.keep [2, 3]))
      (.ret))))
def fc_words_Of : FC := ⟨28, cmd_words_Of, [.t 2, .t 3]⟩
theorem fc_words_Of_ok : compF Try.prog 25 [[0], [0, 4], [4, 11, 12, 13], [4, 11, 12, 13], [4, 11, 12, 13, 14], [4, 5, 6, 11, 12, 13], [4, 5, 6, 11, 12, 13, 20], [2, 3], [4, 11, 12, 13], [4, 11, 12, 13], [2, 3]] = some fc_words_Of := by kernel_rfl
/-- joist/slab.cellBytes -/
abbrev F.slab_cellBytes : Nat := 26
def cmd_slab_cellBytes : Cmd :=
  .seq (.seq (.reg [⟨(some 6), none, .inl (.mv (.c .nils))⟩])
   (.keep [0, 1, 2]))
   (.seq (.seq (.reg [⟨(some 12), none, .inl (.mv (.t 1))⟩,
       ⟨(some 13), none, .inl (.mv (.t 2))⟩,
       ⟨(some 14), none, .inr (.call 23 [(.t 12), (.t 13)])⟩,
       ⟨(some 11), none, .inl (.mv (.t 14))⟩,
       ⟨(some 15), none, .inl (.ext 0 (.t 11))⟩,
       ⟨(some 16), none, .inl (.ext 1 (.t 11))⟩,
       ⟨(some 7), none, .inl (.mv (.t 15))⟩,
       ⟨(some 8), none, .inl (.mv (.t 16))⟩])
    (.keep [0, 1, 7]))
    (.seq (.seq (.reg [⟨(some 18), none, .inl (.mv (.t 1))⟩,
        ⟨(some 19), none, .inr (.call 35 [(.t 18)])⟩,
        ⟨(some 17), none, .inl (.mv (.t 19))⟩,
        ⟨(some 20), none, .inl (.ext 0 (.t 17))⟩,
        ⟨(some 21), none, .inl (.ext 1 (.t 17))⟩,
        ⟨(some 9), none, .inl (.mv (.t 20))⟩,
        ⟨(some 10), none, .inl (.mv (.t 21))⟩])
     (.keep [0, 7, 9]))
     (.seq (.seq (.reg [⟨(some 22), none, .inl (.mv (.t 0))⟩,
         ⟨(some 23), none, .inl (.mv (.t 7))⟩,
         ⟨(some 24), none, .inl (.bin .mul (.t 23) (.c (.int .i64 8)))⟩,
         ⟨(some 25), none, .inl (.mv (.t 7))⟩,
         ⟨(some 26), none, .inl (.mv (.t 9))⟩,
         ⟨(some 27), none, .inl (.bin .add (.t 25) (.t 26))⟩,
         ⟨(some 28), none, .inl (.bin .mul (.t 27) (.c (.int .i64 8)))⟩,
         ⟨(some 29), none, .inl (.slice 1 (.t 22) (some (.t 24)) (some (.t 28)) none)⟩,
         ⟨(some 6), none, .inl (.mv (.t 29))⟩])
      (.keep [6]))
      (.ret))))
def fc_slab_cellBytes : FC := ⟨30, cmd_slab_cellBytes, [.t 6]⟩
theorem fc_slab_cellBytes_ok : compF Try.prog 26 [[0, 1, 2], [0, 1, 7], [0, 7, 9], [6]] = some fc_slab_cellBytes := by kernel_rfl
/-- joist/joistref12.Words -/
abbrev F.joistref12_Words : Nat := 27
def cmd_joistref12_Words : Cmd :=
  .seq (.seq (.reg [⟨(some 2), none, .inl (.mv (.c (.int .i64 0)))⟩,
      ⟨(some 3), none, .inl (.mv (.c (.int .i64 0)))⟩])
   (.keep [0]))
   (.seq (.seq (.reg [⟨(some 5), none, .inr (.call 40 [])⟩,
       ⟨(some 4), none, .inl (.mv (.t 5))⟩])
    (.keep [0, 4]))
    (.seq (.seq (.seq (.reg [⟨(some 6), none, .inl (.mv (.t 0))⟩,
        ⟨(some 7), none, .inl (.bin .lss (.t 6) (.c (.int .i64 0)))⟩,
        ⟨(some 8), none, .inl (.mv (.t 7))⟩,
        ⟨(some 9), (some (8, false)), .inl (.mv (.t 0))⟩,
        ⟨(some 10), (some (8, false)), .inl (.mv (.t 4))⟩,
        ⟨(some 11), (some (8, false)), .inl (.len (.t 10))⟩,
        ⟨(some 12), (some (8, false)), .inl (.bin .geq (.t 9) (.t 11))⟩,
        ⟨(some 13), none, .inl (.pick (.t 8) (.c (.bool true)) (.t 12))⟩])
     (.keep [0, 4, 13]))
     (.cond (.t 13)
       (.seq (.seq (.reg [⟨(some 2), none, .inl (.mv (.c (.int .i64 0)))⟩,
           ⟨(some 3), none, .inl (.mv (.c (.int .i64 1)))⟩])
        (.keep [2, 3]))
        (.ret))
       (.skip)))
     (.seq (.seq (.reg [⟨(some 14), none, .inl (.mv (.t 4))⟩,
         ⟨(some 15), none, .inl (.mv (.t 0))⟩,
         ⟨(some 16), none, .inl (.iaddr 1 (.t 14) (.t 15))⟩,
         ⟨(some 17), none, .inl (.load false 1 (.t 16))⟩,
         ⟨(some 2), none, .inl (.mv (.t 17))⟩,
         ⟨(some 3), none, .inl (.mv (.c (.int .i64 0)))⟩])
      (.keep [2, 3]))
      (.ret))))
def fc_joistref12_Words : FC := ⟨18, cmd_joistref12_Words, [.t 2, .t 3]⟩
theorem fc_joistref12_Words_ok : compF Try.prog 27 [[0], [0, 4], [0, 4, 13], [2, 3], [2, 3]] = some fc_joistref12_Words := by kernel_rfl
/-- joist/joistref01.Of -/
abbrev F.joistref01_Of : Nat := 28
def cmd_joistref01_Of : Cmd :=
  .seq (.seq (.reg [⟨(some 2), none, .inl (.mv (.c .nils))⟩,
      ⟨(some 3), none, .inl (.mv (.c (.int .i64 0)))⟩])
   (.keep [0]))
   (.seq (.seq (.reg [⟨(some 4), none, .inl (.mv (.c .nils))⟩])
    (.keep [0, 4]))
    (.seq (.seq (.seq (.reg [⟨(some 5), none, .inl (.mv (.c (.int .i64 0)))⟩])
     (.keep [0, 4, 5]))
     (.block 0 (.loop [0, 4, 5] (.seq (.seq (.seq (.reg [⟨(some 6), none, .inl (.mv (.t 5))⟩,
         ⟨(some 7), none, .inl (.mv (.t 0))⟩,
         ⟨(some 8), none, .inl (.len (.t 7))⟩,
         ⟨(some 9), none, .inl (.bin .lss (.t 6) (.t 8))⟩])
      (.keep [0, 4, 5, 9]))
      (.cond (.t 9)
        (.skip)
        (.exit 0)))
      (.seq (.block 1 (.seq (.seq (.seq (.reg [⟨(some 12), none, .inl (.mv (.t 0))⟩,
          ⟨(some 13), none, .inl (.mv (.t 5))⟩,
          ⟨(some 14), none, .inl (.iaddr 1 (.t 12) (.t 13))⟩,
          ⟨(some 15), none, .inl (.load false 1 (.t 14))⟩,
          ⟨(some 16), none, .inl (.bin .lss (.t 15) (.c (.int .i64 0)))⟩,
          ⟨(some 17), none, .inl (.mv (.t 16))⟩,
          ⟨(some 18), (some (17, false)), .inl (.mv (.t 0))⟩,
          ⟨(some 19), (some (17, false)), .inl (.mv (.t 5))⟩,
          ⟨(some 20), (some (17, false)), .inl (.iaddr 1 (.t 18) (.t 19))⟩,
          ⟨(some 21), (some (17, false)), .inl (.load false 1 (.t 20))⟩,
          ⟨(some 22), (some (17, false)), .inl (.bin .gtr (.t 21) (.c (.int .i64 4611686018427387903)))⟩,
          ⟨(some 23), none, .inl (.pick (.t 17) (.c (.bool true)) (.t 22))⟩])
       (.keep [0, 4, 5, 23]))
       (.cond (.t 23)
         (.seq (.seq (.reg [⟨(some 2), none, .inl (.mv (.c .nils))⟩,
             ⟨(some 3), none, .inl (.mv (.c (.int .i64 4)))⟩])
          (.keep [2, 3]))
          (.ret))
         (.skip)))
       (.seq (.reg [⟨(some 24), none, .inl (.mv (.t 4))⟩,
           ⟨(some 25), none, .inl (.mv (.t 0))⟩,
           ⟨(some 26), none, .inl (.mv (.t 5))⟩,
           ⟨(some 27), none, .inl (.iaddr 1 (.t 25) (.t 26))⟩,
           ⟨(some 28), none, .inl (.load false 1 (.t 27))⟩,
           ⟨(some 29), none, .inr (.call 41 [(.t 28)])⟩,
           ⟨(some 30), none, .inr (.append 1 1 (.t 24) (.t 29))⟩,
           ⟨(some 4), none, .inl (.mv (.t 30))⟩])
        (.keep [0, 4, 5]))))
       (.seq (.reg [⟨(some 10), none, .inl (.mv (.t 5))⟩,
           ⟨(some 11), none, .inl (.bin .add (.t 10) (.c (.int .i64 1)))⟩,
           ⟨(some 5), none, .inl (.mv (.t 11))⟩])
        (.keep [0, 4, 5])))))))
     (.seq (.seq (.reg [⟨(some 31), none, .inl (.mv (.t 4))⟩,
         ⟨(some 2), none, .inl (.mv (.t 31))⟩,
         ⟨(some 3), none, .inl (.mv (.c (.int .i64 0)))⟩])
      (.keep [2, 3]))
      (.ret))))
def fc_joistref01_Of : FC := ⟨32, cmd_joistref01_Of, [.t 2, .t 3]⟩
theorem fc_joistref01_Of_ok : compF Try.prog 28 [[0], [0, 4], [0, 4, 5], [0, 4, 5], [0, 4, 5, 9], [0, 4, 5, 23], [2, 3], [0, 4, 5], [0, 4, 5], [2, 3]] = some fc_joistref01_Of := by kernel_rfl
/-- joist/joistref12.Cell -/
abbrev F.joistref12_Cell : Nat := 29
def cmd_joistref12_Cell : Cmd :=
  .seq (.seq (.reg [⟨(some 4), none, .inl (.mv (.c (.int .i64 0)))⟩,
      ⟨(some 5), none, .inl (.mv (.c (.int .i64 0)))⟩])
   (.keep [0, 1]))
   (.seq (.seq (.reg [⟨(some 11), none, .inl (.mv (.t 0))⟩,
       ⟨(some 12), none, .inr (.call 30 [(.t 11)])⟩,
       ⟨(some 10), none, .inl (.mv (.t 12))⟩,
       ⟨(some 13), none, .inl (.ext 0 (.t 10))⟩,
       ⟨(some 14), none, .inl (.ext 1 (.t 10))⟩,
       ⟨(some 6), none, .inl (.mv (.t 13))⟩,
       ⟨(some 7), none, .inl (.mv (.t 14))⟩])
    (.keep [0, 1, 6, 7]))
    (.seq (.seq (.seq (.reg [⟨(some 15), none, .inl (.mv (.t 7))⟩,
        ⟨(some 16), none, .inl (.bin .neq (.t 15) (.c (.int .i64 0)))⟩,
        ⟨(some 17), none, .inl (.mv (.t 16))⟩,
        ⟨(some 18), (some (17, false)), .inl (.mv (.t 1))⟩,
        ⟨(some 19), (some (17, false)), .inl (.bin .lss (.t 18) (.c (.int .i64 0)))⟩,
        ⟨(some 20), none, .inl (.pick (.t 17) (.c (.bool true)) (.t 19))⟩,
        ⟨(some 21), none, .inl (.mv (.t 20))⟩,
        ⟨(some 22), (some (21, false)), .inl (.mv (.t 1))⟩,
        ⟨(some 23), (some (21, false)), .inl (.mv (.t 6))⟩,
        ⟨(some 24), (some (21, false)), .inl (.bin .geq (.t 22) (.t 23))⟩,
        ⟨(some 25), none, .inl (.pick (.t 21) (.c (.bool true)) (.t 24))⟩])
     (.keep [0, 1, 25]))
     (.cond (.t 25)
       (.seq (.seq (.reg [⟨(some 4), none, .inl (.mv (.c (.int .i64 0)))⟩,
           ⟨(some 5), none, .inl (.mv (.c (.int .i64 1)))⟩])
        (.keep [4, 5]))
        (.ret))
       (.skip)))
     (.seq (.seq (.reg [⟨(some 27), none, .inl (.mv (.t 0))⟩,
         ⟨(some 28), none, .inr (.call 27 [(.t 27)])⟩,
         ⟨(some 26), none, .inl (.mv (.t 28))⟩,
         ⟨(some 29), none, .inl (.ext 0 (.t 26))⟩,
         ⟨(some 30), none, .inl (.ext 1 (.t 26))⟩,
         ⟨(some 8), none, .inl (.mv (.t 29))⟩,
         ⟨(some 9), none, .inl (.mv (.t 30))⟩])
      (.keep [1, 8]))
      (.seq (.seq (.reg [⟨(some 31), none, .inl (.mv (.t 8))⟩,
          ⟨(some 32), none, .inl (.mv (.t 1))⟩,
          ⟨(some 33), none, .inl (.bin .mul (.t 31) (.t 32))⟩,
          ⟨(some 34), none, .inl (.bin .add (.c (.int .i64 4)) (.t 33))⟩,
          ⟨(some 4), none, .inl (.mv (.t 34))⟩,
          ⟨(some 5), none, .inl (.mv (.c (.int .i64 0)))⟩])
       (.keep [4, 5]))
       (.ret)))))
def fc_joistref12_Cell : FC := ⟨35, cmd_joistref12_Cell, [.t 4, .t 5]⟩
theorem fc_joistref12_Cell_ok : compF Try.prog 29 [[0, 1], [0, 1, 6, 7], [0, 1, 25], [4, 5], [1, 8], [4, 5]] = some fc_joistref12_Cell := by kernel_rfl
/-- joist/joistref12.Cells -/
abbrev F.joistref12_Cells : Nat := 30
def cmd_joistref12_Cells : Cmd :=
  .seq (.seq (.reg [⟨(some 2), none, .inl (.mv (.c (.int .i64 0)))⟩,
      ⟨(some 3), none, .inl (.mv (.c (.int .i64 0)))⟩])
   (.keep [0]))
   (.seq (.seq (.reg [⟨(some 7), none, .inl (.mv (.t 0))⟩,
       ⟨(some 8), none, .inr (.call 27 [(.t 7)])⟩,
       ⟨(some 6), none, .inl (.mv (.t 8))⟩,
       ⟨(some 9), none, .inl (.ext 0 (.t 6))⟩,
       ⟨(some 10), none, .inl (.ext 1 (.t 6))⟩,
       ⟨(some 4), none, .inl (.mv (.t 9))⟩,
       ⟨(some 5), none, .inl (.mv (.t 10))⟩])
    (.keep [4, 5]))
    (.seq (.seq (.seq (.reg [⟨(some 11), none, .inl (.mv (.t 5))⟩,
        ⟨(some 12), none, .inl (.bin .neq (.t 11) (.c (.int .i64 0)))⟩])
     (.keep [4, 5, 12]))
     (.cond (.t 12)
       (.seq (.seq (.reg [⟨(some 13), none, .inl (.mv (.t 5))⟩,
           ⟨(some 2), none, .inl (.mv (.c (.int .i64 0)))⟩,
           ⟨(some 3), none, .inl (.mv (.t 13))⟩])
        (.keep [2, 3]))
        (.ret))
       (.skip)))
     (.seq (.seq (.reg [⟨(some 14), none, .inl (.mv (.t 4))⟩,
         ⟨(some 15), none, .inl (.bin .quo (.c (.int .i64 28)) (.t 14))⟩,
         ⟨(some 2), none, .inl (.mv (.t 15))⟩,
         ⟨(some 3), none, .inl (.mv (.c (.int .i64 0)))⟩])
      (.keep [2, 3]))
      (.ret))))
def fc_joistref12_Cells : FC := ⟨16, cmd_joistref12_Cells, [.t 2, .t 3]⟩
theorem fc_joistref12_Cells_ok : compF Try.prog 30 [[0], [4, 5], [4, 5, 12], [2, 3], [2, 3]] = some fc_joistref12_Cells := by kernel_rfl
/-- joist/words.Get -/
abbrev F.words_Get : Nat := 31
def cmd_words_Get : Cmd :=
  .seq (.seq (.reg [⟨(some 4), none, .inl (.mv (.c (.int .i64 0)))⟩,
      ⟨(some 5), none, .inl (.mv (.c (.bool false)))⟩])
   (.keep [0, 1]))
   (.seq (.seq (.reg [⟨(some 7), none, .inl (.mv (.t 0))⟩,
       ⟨(some 8), none, .inl (.mv (.t 1))⟩,
       ⟨(some 9), none, .inr (.call 39 [(.t 7), (.t 8)])⟩,
       ⟨(some 6), none, .inl (.mv (.t 9))⟩])
    (.keep [6]))
    (.seq (.seq (.seq (.reg [⟨(some 10), none, .inl (.mv (.t 6))⟩,
        ⟨(some 11), none, .inl (.eqnil false (.t 10))⟩])
     (.keep [6, 11]))
     (.cond (.t 11)
       (.seq (.seq (.reg [⟨(some 4), none, .inl (.mv (.c (.int .i64 0)))⟩,
           ⟨(some 5), none, .inl (.mv (.c (.bool false)))⟩])
        (.keep [4, 5]))
        (.ret))
       (.skip)))
     (.seq (.seq (.reg [⟨(some 12), none, .inl (.mv (.t 6))⟩,
         ⟨(some 13), none, .inr (.call 42 [(.t 12)])⟩,
         ⟨(some 14), none, .inl (.ext 0 (.t 13))⟩,
         ⟨(some 15), none, .inl (.ext 1 (.t 13))⟩,
         ⟨(some 4), none, .inl (.mv (.t 14))⟩,
         ⟨(some 5), none, .inl (.mv (.t 15))⟩])
      (.keep [4, 5]))
      (.ret))))
def fc_words_Get : FC := ⟨16, cmd_words_Get, [.t 4, .t 5]⟩
theorem fc_words_Get_ok : compF Try.prog 31 [[0, 1], [6], [6, 11], [4, 5], [4, 5]] = some fc_words_Get := by kernel_rfl
/-- bytes.Clone -/
abbrev F.bytes_Clone : Nat := 32
def cmd_bytes_Clone : Cmd :=
  .seq (.seq (.reg [⟨(some 2), none, .inl (.mv (.c .nils))⟩])
   (.keep [0]))
   (.seq (.seq (.seq (.reg [⟨(some 3), none, .inl (.mv (.t 0))⟩,
       ⟨(some 4), none, .inl (.eqnil false (.t 3))⟩])
    (.keep [0, 4]))
    (.cond (.t 4)
      (.seq (.seq (.reg [⟨(some 2), none, .inl (.mv (.c .nils))⟩])
       (.keep [2]))
       (.ret))
      (.skip)))
    (.seq (.seq (.reg [⟨(some 5), none, .inr (.bslice 1 [(.int .u8 0)] 0 [])⟩,
        ⟨(some 6), none, .inl (.mv (.t 0))⟩,
        ⟨(some 7), none, .inr (.append 1 1 (.t 5) (.t 6))⟩,
        ⟨(some 2), none, .inl (.mv (.t 7))⟩])
     (.keep [2]))
     (.ret)))
def fc_bytes_Clone : FC := ⟨8, cmd_bytes_Clone, [.t 2]⟩
theorem fc_bytes_Clone_ok : compF Try.prog 32 [[0], [0, 4], [2], [2]] = some fc_bytes_Clone := by kernel_rfl
/-- bytes.Equal -/
abbrev F.bytes_Equal : Nat := 33
def cmd_bytes_Equal : Cmd :=
  .seq (.seq (.reg [⟨(some 4), none, .inl (.mv (.c (.bool false)))⟩])
   (.keep [0, 1]))
   (.seq (.seq (.reg [⟨(some 5), none, .inl (.mv (.t 0))⟩,
       ⟨(some 6), none, .inl (.b2s (.t 5))⟩,
       ⟨(some 7), none, .inl (.mv (.t 1))⟩,
       ⟨(some 8), none, .inl (.b2s (.t 7))⟩,
       ⟨(some 9), none, .inl (.bins .eql (.t 6) (.t 8))⟩,
       ⟨(some 4), none, .inl (.mv (.t 9))⟩])
    (.keep [4]))
    (.ret))
def fc_bytes_Equal : FC := ⟨10, cmd_bytes_Equal, [.t 4]⟩
theorem fc_bytes_Equal_ok : compF Try.prog 33 [[0, 1], [4]] = some fc_bytes_Equal := by kernel_rfl
/-- joist/joistref01.Get -/
abbrev F.joistref01_Get : Nat := 34
def cmd_joistref01_Get : Cmd :=
  .seq (.seq (.reg [⟨(some 4), none, .inl (.mv (.c (.int .i64 0)))⟩,
      ⟨(some 5), none, .inl (.mv (.c (.bool false)))⟩])
   (.keep [0, 1]))
   (.seq (.seq (.seq (.reg [⟨(some 9), none, .inl (.mv (.t 1))⟩,
       ⟨(some 10), none, .inl (.bin .lss (.t 9) (.c (.int .i64 0)))⟩,
       ⟨(some 11), none, .inl (.mv (.t 10))⟩,
       ⟨(some 12), (some (11, false)), .inl (.mv (.t 1))⟩,
       ⟨(some 13), (some (11, false)), .inl (.mv (.t 0))⟩,
       ⟨(some 14), (some (11, false)), .inl (.len (.t 13))⟩,
       ⟨(some 15), (some (11, false)), .inl (.bin .quo (.t 14) (.c (.int .i64 8)))⟩,
       ⟨(some 16), (some (11, false)), .inl (.bin .geq (.t 12) (.t 15))⟩,
       ⟨(some 17), none, .inl (.pick (.t 11) (.c (.bool true)) (.t 16))⟩])
    (.keep [0, 1, 17]))
    (.cond (.t 17)
      (.seq (.seq (.reg [⟨(some 4), none, .inl (.mv (.c (.int .i64 0)))⟩,
          ⟨(some 5), none, .inl (.mv (.c (.bool false)))⟩])
       (.keep [4, 5]))
       (.ret))
      (.skip)))
    (.seq (.seq (.reg [⟨(some 18), none, .inl (.mv (.t 0))⟩,
        ⟨(some 19), none, .inl (.mv (.t 1))⟩,
        ⟨(some 20), none, .inl (.bin .mul (.c (.int .i64 8)) (.t 19))⟩,
        ⟨(some 21), none, .inl (.mv (.t 1))⟩,
        ⟨(some 22), none, .inl (.bin .mul (.c (.int .i64 8)) (.t 21))⟩,
        ⟨(some 23), none, .inl (.bin .add (.t 22) (.c (.int .i64 8)))⟩,
        ⟨(some 24), none, .inl (.slice 1 (.t 18) (some (.t 20)) (some (.t 23)) none)⟩,
        ⟨(some 6), none, .inl (.mv (.t 24))⟩])
     (.keep [6]))
     (.seq (.seq (.seq (.reg [⟨(some 25), none, .inl (.mv (.t 6))⟩,
         ⟨(some 26), none, .inl (.iaddr 1 (.t 25) (.c (.int .i64 7)))⟩,
         ⟨(some 27), none, .inl (.load false 1 (.t 26))⟩,
         ⟨(some 28), none, .inl (.bin .geq (.t 27) (.c (.int .u8 64)))⟩])
      (.keep [6, 28]))
      (.cond (.t 28)
        (.seq (.seq (.reg [⟨(some 4), none, .inl (.mv (.c (.int .i64 0)))⟩,
            ⟨(some 5), none, .inl (.mv (.c (.bool false)))⟩])
         (.keep [4, 5]))
         (.ret))
        (.skip)))
      (.seq (.seq (.reg [⟨(some 7), none, .inl (.mv (.c (.int .i64 0)))⟩])
       (.keep [6, 7]))
       (.seq (.seq (.seq (.reg [⟨(some 8), none, .inl (.mv (.c (.int .i64 7)))⟩])
        (.keep [6, 7, 8]))
        (.block 0 (.loop [6, 7, 8] (.seq (.seq (.seq (.reg [⟨(some 29), none, .inl (.mv (.t 8))⟩,
            ⟨(some 30), none, .inl (.bin .geq (.t 29) (.c (.int .i64 0)))⟩])
         (.keep [6, 7, 8, 30]))
         (.cond (.t 30)
           (.skip)
           (.exit 0)))
         (.seq (.block 1 (.seq (.reg [⟨(some 33), none, .inl (.mv (.t 7))⟩,
             ⟨(some 34), none, .inl (.bin .mul (.t 33) (.c (.int .i64 256)))⟩,
             ⟨(some 35), none, .inl (.mv (.t 6))⟩,
             ⟨(some 36), none, .inl (.mv (.t 8))⟩,
             ⟨(some 37), none, .inl (.iaddr 1 (.t 35) (.t 36))⟩,
             ⟨(some 38), none, .inl (.load false 1 (.t 37))⟩,
             ⟨(some 39), none, .inl (.conv .i64 (.t 38))⟩,
             ⟨(some 40), none, .inl (.bin .add (.t 34) (.t 39))⟩,
             ⟨(some 7), none, .inl (.mv (.t 40))⟩])
          (.keep [6, 7, 8])))
          (.seq (.reg [⟨(some 31), none, .inl (.mv (.t 8))⟩,
              ⟨(some 32), none, .inl (.bin .sub (.t 31) (.c (.int .i64 1)))⟩,
              ⟨(some 8), none, .inl (.mv (.t 32))⟩])
           (.keep [6, 7, 8])))))))
        (.seq (.seq (.reg [⟨(some 41), none, .inl (.mv (.t 7))⟩,
            ⟨(some 4), none, .inl (.mv (.t 41))⟩,
            ⟨(some 5), none, .inl (.mv (.c (.bool true)))⟩])
         (.keep [4, 5]))
         (.ret)))))))
def fc_joistref01_Get : FC := ⟨42, cmd_joistref01_Get, [.t 4, .t 5]⟩
theorem fc_joistref01_Get_ok : compF Try.prog 34 [[0, 1], [0, 1, 17], [4, 5], [6], [6, 28], [4, 5], [6, 7], [6, 7, 8], [6, 7, 8], [6, 7, 8, 30], [6, 7, 8], [6, 7, 8], [4, 5]] = some fc_joistref01_Get := by kernel_rfl
/-- joist/class.Words -/
abbrev F.class_Words : Nat := 35
def cmd_class_Words : Cmd :=
  .seq (.seq (.reg [⟨(some 2), none, .inl (.mv (.c (.int .i64 0)))⟩,
      ⟨(some 3), none, .inl (.mv (.c (.int .i64 0)))⟩])
   (.keep [0]))
   (.seq (.seq (.seq (.reg [⟨(some 4), none, .inl (.mv (.t 0))⟩,
       ⟨(some 5), none, .inl (.bin .lss (.t 4) (.c (.int .i64 0)))⟩,
       ⟨(some 6), none, .inl (.mv (.t 5))⟩,
       ⟨(some 7), (some (6, false)), .inl (.mv (.t 0))⟩,
       ⟨(some 8), (some (6, false)), .inl (.bin .geq (.t 7) (.c (.int .i64 6)))⟩,
       ⟨(some 9), none, .inl (.pick (.t 6) (.c (.bool true)) (.t 8))⟩])
    (.keep [0, 9]))
    (.cond (.t 9)
      (.seq (.seq (.reg [⟨(some 2), none, .inl (.mv (.c (.int .i64 0)))⟩,
          ⟨(some 3), none, .inl (.mv (.c (.int .i64 1)))⟩])
       (.keep [2, 3]))
       (.ret))
      (.skip)))
    (.seq (.seq (.reg [⟨(some 10), none, .inr (.call 36 [])⟩,
        ⟨(some 11), none, .inl (.mv (.t 0))⟩,
        ⟨(some 12), none, .inl (.idxA false 6 1 (.t 10) (.t 11))⟩,
        ⟨(some 2), none, .inl (.mv (.t 12))⟩,
        ⟨(some 3), none, .inl (.mv (.c (.int .i64 0)))⟩])
     (.keep [2, 3]))
     (.ret)))
def fc_class_Words : FC := ⟨13, cmd_class_Words, [.t 2, .t 3]⟩
theorem fc_class_Words_ok : compF Try.prog 35 [[0], [0, 9], [2, 3], [2, 3]] = some fc_class_Words := by kernel_rfl
/-- joist/class.words -/
abbrev F.class_words : Nat := 36
def cmd_class_words : Cmd :=
  .seq (.seq (.reg [⟨(some 0), none, .inr (.alloc [(.int .i64 0), (.int .i64 0), (.int .i64 0), (.int .i64 0), (.int .i64 0), (.int .i64 0)])⟩])
   (.keep [0]))
   (.seq (.seq (.reg [⟨(some 1), none, .inl (.build [(.int .i64 0), (.int .i64 0), (.int .i64 0), (.int .i64 0), (.int .i64 0), (.int .i64 0)] [(0, 1, (.c (.int .i64 2))), (1, 1, (.c (.int .i64 3))), (2, 1, (.c (.int .i64 5))), (3, 1, (.c (.int .i64 7))), (4, 1, (.c (.int .i64 10))), (5, 1, (.c (.int .i64 15)))])⟩,
       ⟨none, none, .inr (.store 6 (.t 0) (.t 1))⟩])
    (.keep [0]))
    (.ret))
def fc_class_words : FC := ⟨2, cmd_class_words, [.cell 0 true 6]⟩
theorem fc_class_words_ok : compF Try.prog 36 [[0], [0]] = some fc_class_words := by kernel_rfl
/-- joist/words.may -/
abbrev F.words_may : Nat := 37
def cmd_words_may : Cmd :=
  .seq (.seq (.reg [⟨(some 2), none, .inl (.mv (.c (.bool false)))⟩])
   (.keep [0]))
   (.seq (.seq (.reg [⟨(some 3), none, .inl (.mv (.t 0))⟩,
       ⟨(some 4), none, .inl (.bin .geq (.t 3) (.c (.int .i64 0)))⟩,
       ⟨(some 5), none, .inl (.mv (.t 4))⟩,
       ⟨(some 6), (some (5, true)), .inl (.mv (.t 0))⟩,
       ⟨(some 7), (some (5, true)), .inl (.bin .leq (.t 6) (.c (.int .i64 4611686018427387903)))⟩,
       ⟨(some 8), none, .inl (.pick (.t 5) (.t 7) (.c (.bool false)))⟩,
       ⟨(some 2), none, .inl (.mv (.t 8))⟩])
    (.keep [2]))
    (.ret))
def fc_words_may : FC := ⟨9, cmd_words_may, [.t 2]⟩
theorem fc_words_may_ok : compF Try.prog 37 [[0], [2]] = some fc_words_may := by kernel_rfl
/-- joist/words.write -/
abbrev F.words_write : Nat := 38
def cmd_words_write : Cmd :=
  .seq (.seq (.reg [⟨(some 5), none, .inl (.mv (.c (.int .i64 0)))⟩])
   (.keep [0, 1, 5]))
   (.block 0 (.loop [0, 1, 5] (.seq (.seq (.reg [⟨(some 6), none, .inl (.bin .lss (.t 5) (.c (.int .i64 8)))⟩])
    (.keep [0, 1, 5, 6]))
    (.seq (.cond (.t 6)
      (.skip)
      (.exit 0))
     (.seq (.block 1 (.seq (.seq (.reg [⟨(some 7), none, .inl (.mv (.t 5))⟩,
         ⟨(some 4), none, .inl (.mv (.t 7))⟩])
      (.keep [0, 1, 4, 5]))
      (.seq (.reg [⟨(some 8), none, .inl (.mv (.t 0))⟩,
          ⟨(some 9), none, .inl (.mv (.t 4))⟩,
          ⟨(some 10), none, .inl (.mv (.t 1))⟩,
          ⟨(some 11), none, .inl (.mv (.t 4))⟩,
          ⟨(some 12), none, .inl (.bin .mul (.c (.int .i64 8)) (.t 11))⟩,
          ⟨(some 13), none, .inl (.bin .shr (.t 10) (.t 12))⟩,
          ⟨(some 14), none, .inl (.conv .u8 (.t 13))⟩,
          ⟨(some 15), none, .inl (.iaddr 1 (.t 8) (.t 9))⟩,
          ⟨none, none, .inr (.store 1 (.t 15) (.t 14))⟩])
       (.keep [0, 1, 5]))))
      (.seq (.reg [⟨(some 16), none, .inl (.bin .add (.t 5) (.c (.int .i64 1)))⟩,
          ⟨(some 5), none, .inl (.mv (.t 16))⟩])
       (.keep [0, 1, 5])))))))
def fc_words_write : FC := ⟨17, cmd_words_write, []⟩
theorem fc_words_write_ok : compF Try.prog 38 [[0, 1, 5], [0, 1, 5], [0, 1, 5, 6], [0, 1, 4, 5], [0, 1, 5], [0, 1, 5]] = some fc_words_write := by kernel_rfl
/-- joist/words.place -/
abbrev F.words_place : Nat := 39
def cmd_words_place : Cmd :=
  .seq (.seq (.reg [⟨(some 4), none, .inl (.mv (.c .nils))⟩])
   (.keep [0, 1]))
   (.seq (.seq (.seq (.reg [⟨(some 6), none, .inl (.mv (.t 1))⟩,
       ⟨(some 7), none, .inl (.bin .lss (.t 6) (.c (.int .i64 0)))⟩,
       ⟨(some 8), none, .inl (.mv (.t 7))⟩,
       ⟨(some 9), (some (8, false)), .inl (.mv (.t 1))⟩,
       ⟨(some 10), (some (8, false)), .inl (.mv (.t 0))⟩,
       ⟨(some 11), (some (8, false)), .inl (.len (.t 10))⟩,
       ⟨(some 12), (some (8, false)), .inl (.bin .quo (.t 11) (.c (.int .i64 8)))⟩,
       ⟨(some 13), (some (8, false)), .inl (.bin .geq (.t 9) (.t 12))⟩,
       ⟨(some 14), none, .inl (.pick (.t 8) (.c (.bool true)) (.t 13))⟩])
    (.keep [0, 1, 14]))
    (.cond (.t 14)
      (.seq (.seq (.reg [⟨(some 4), none, .inl (.mv (.c .nils))⟩])
       (.keep [4]))
       (.ret))
      (.skip)))
    (.seq (.seq (.reg [⟨(some 15), none, .inl (.mv (.t 1))⟩,
        ⟨(some 16), none, .inl (.bin .mul (.t 15) (.c (.int .i64 8)))⟩,
        ⟨(some 5), none, .inl (.mv (.t 16))⟩])
     (.keep [0, 5]))
     (.seq (.seq (.reg [⟨(some 17), none, .inl (.mv (.t 0))⟩,
         ⟨(some 18), none, .inl (.mv (.t 5))⟩,
         ⟨(some 19), none, .inl (.mv (.t 5))⟩,
         ⟨(some 20), none, .inl (.bin .add (.t 19) (.c (.int .i64 8)))⟩,
         ⟨(some 21), none, .inl (.slice 1 (.t 17) (some (.t 18)) (some (.t 20)) none)⟩,
         ⟨(some 4), none, .inl (.mv (.t 21))⟩])
      (.keep [4]))
      (.ret))))
def fc_words_place : FC := ⟨22, cmd_words_place, [.t 4]⟩
theorem fc_words_place_ok : compF Try.prog 39 [[0, 1], [0, 1, 14], [4], [0, 5], [4]] = some fc_words_place := by kernel_rfl
/-- joist/joistref12.sizes -/
abbrev F.joistref12_sizes : Nat := 40
def cmd_joistref12_sizes : Cmd :=
  .seq (.seq (.reg [⟨(some 0), none, .inl (.mv (.c .nils))⟩])
   (.keep []))
   (.seq (.seq (.reg [⟨(some 1), none, .inr (.bslice 1 [(.int .i64 0)] 6 [(0, (.c (.int .i64 2))), (1, (.c (.int .i64 3))), (2, (.c (.int .i64 5))), (3, (.c (.int .i64 7))), (4, (.c (.int .i64 10))), (5, (.c (.int .i64 15)))])⟩,
       ⟨(some 0), none, .inl (.mv (.t 1))⟩])
    (.keep [0]))
    (.ret))
def fc_joistref12_sizes : FC := ⟨2, cmd_joistref12_sizes, [.t 0]⟩
theorem fc_joistref12_sizes_ok : compF Try.prog 40 [[], [0]] = some fc_joistref12_sizes := by kernel_rfl
/-- joist/joistref01.Bytes -/
abbrev F.joistref01_Bytes : Nat := 41
def cmd_joistref01_Bytes : Cmd :=
  .seq (.seq (.reg [⟨(some 2), none, .inl (.mv (.c .nils))⟩])
   (.keep [0]))
   (.seq (.seq (.reg [⟨(some 3), none, .inl (.mv (.c .nils))⟩])
    (.keep [0, 3]))
    (.seq (.seq (.seq (.reg [⟨(some 4), none, .inl (.mv (.c (.int .i64 0)))⟩])
     (.keep [0, 3, 4]))
     (.block 0 (.loop [0, 3, 4] (.seq (.seq (.seq (.reg [⟨(some 5), none, .inl (.mv (.t 4))⟩,
         ⟨(some 6), none, .inl (.bin .lss (.t 5) (.c (.int .i64 8)))⟩])
      (.keep [0, 3, 4, 6]))
      (.cond (.t 6)
        (.skip)
        (.exit 0)))
      (.seq (.block 1 (.seq (.seq (.reg [⟨(some 9), none, .inl (.mv (.t 3))⟩,
          ⟨(some 10), none, .inl (.mv (.t 0))⟩,
          ⟨(some 11), none, .inl (.conv .u8 (.t 10))⟩,
          ⟨(some 12), none, .inr (.bslice 1 [(.int .u8 0)] 1 [(0, (.t 11))])⟩,
          ⟨(some 13), none, .inr (.append 1 1 (.t 9) (.t 12))⟩,
          ⟨(some 3), none, .inl (.mv (.t 13))⟩])
       (.keep [0, 3, 4]))
       (.seq (.reg [⟨(some 14), none, .inl (.mv (.t 0))⟩,
           ⟨(some 15), none, .inl (.bin .quo (.t 14) (.c (.int .i64 256)))⟩,
           ⟨(some 0), none, .inl (.mv (.t 15))⟩])
        (.keep [0, 3, 4]))))
       (.seq (.reg [⟨(some 7), none, .inl (.mv (.t 4))⟩,
           ⟨(some 8), none, .inl (.bin .add (.t 7) (.c (.int .i64 1)))⟩,
           ⟨(some 4), none, .inl (.mv (.t 8))⟩])
        (.keep [0, 3, 4])))))))
     (.seq (.seq (.reg [⟨(some 16), none, .inl (.mv (.t 3))⟩,
         ⟨(some 2), none, .inl (.mv (.t 16))⟩])
      (.keep [2]))
      (.ret))))
def fc_joistref01_Bytes : FC := ⟨17, cmd_joistref01_Bytes, [.t 2]⟩
theorem fc_joistref01_Bytes_ok : compF Try.prog 41 [[0], [0, 3], [0, 3, 4], [0, 3, 4], [0, 3, 4, 6], [0, 3, 4], [0, 3, 4], [0, 3, 4], [2]] = some fc_joistref01_Bytes := by kernel_rfl
/-- joist/words.read -/
abbrev F.words_read : Nat := 42
def cmd_words_read : Cmd :=
  .seq (.seq (.reg [⟨(some 2), none, .inl (.mv (.c (.int .i64 0)))⟩,
      ⟨(some 3), none, .inl (.mv (.c (.bool false)))⟩])
   (.keep [0, 2]))
   (.seq (.seq (.seq (.reg [⟨(some 5), none, .inl (.mv (.t 0))⟩,
       ⟨(some 6), none, .inl (.iaddr 1 (.t 5) (.c (.int .i64 7)))⟩,
       ⟨(some 7), none, .inl (.load false 1 (.t 6))⟩,
       ⟨(some 8), none, .inl (.bin .geq (.t 7) (.c (.int .u8 64)))⟩])
    (.keep [0, 2, 8]))
    (.cond (.t 8)
      (.seq (.seq (.reg [⟨(some 2), none, .inl (.mv (.c (.int .i64 0)))⟩,
          ⟨(some 3), none, .inl (.mv (.c (.bool false)))⟩])
       (.keep [2, 3]))
       (.ret))
      (.skip)))
    (.seq (.seq (.seq (.reg [⟨(some 9), none, .inl (.mv (.c (.int .i64 0)))⟩])
     (.keep [0, 2, 9]))
     (.block 0 (.loop [0, 2, 9] (.seq (.seq (.reg [⟨(some 10), none, .inl (.bin .lss (.t 9) (.c (.int .i64 8)))⟩])
      (.keep [0, 2, 9, 10]))
      (.seq (.cond (.t 10)
        (.skip)
        (.exit 0))
       (.seq (.block 1 (.seq (.seq (.reg [⟨(some 11), none, .inl (.mv (.t 9))⟩,
           ⟨(some 4), none, .inl (.mv (.t 11))⟩])
        (.keep [0, 2, 4, 9]))
        (.seq (.reg [⟨(some 12), none, .inl (.mv (.t 2))⟩,
            ⟨(some 13), none, .inl (.bin .shl (.t 12) (.c (.int .u64 8)))⟩,
            ⟨(some 14), none, .inl (.mv (.t 0))⟩,
            ⟨(some 15), none, .inl (.mv (.t 4))⟩,
            ⟨(some 16), none, .inl (.bin .sub (.c (.int .i64 7)) (.t 15))⟩,
            ⟨(some 17), none, .inl (.iaddr 1 (.t 14) (.t 16))⟩,
            ⟨(some 18), none, .inl (.load false 1 (.t 17))⟩,
            ⟨(some 19), none, .inl (.conv .i64 (.t 18))⟩,
            ⟨(some 20), none, .inl (.bin .or (.t 13) (.t 19))⟩,
            ⟨(some 2), none, .inl (.mv (.t 20))⟩])
         (.keep [0, 2, 9]))))
        (.seq (.reg [⟨(some 21), none, .inl (.bin .add (.t 9) (.c (.int .i64 1)))⟩,
            ⟨(some 9), none, .inl (.mv (.t 21))⟩])
         (.keep [0, 2, 9]))))))))
     (.seq (.seq (.reg [⟨(some 22), none, .inl (.mv (.t 2))⟩,
         ⟨(some 2), none, .inl (.mv (.t 22))⟩,
         ⟨(some 3), none, .inl (.mv (.c (.bool true)))⟩])
      (.keep [2, 3]))
      (.ret))))
def fc_words_read : FC := ⟨23, cmd_words_read, [.t 2, .t 3]⟩
theorem fc_words_read_ok : compF Try.prog 42 [[0, 2], [0, 2, 8], [2, 3], [0, 2, 9], [0, 2, 9], [0, 2, 9, 10], [0, 2, 4, 9], [0, 2, 9], [0, 2, 9], [2, 3]] = some fc_words_read := by kernel_rfl
end Go.Proofs.Ytabdieanlhecoaa
