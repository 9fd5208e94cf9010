import Derived.Test.YtjbfdhnfdehdeaaProg
import Derived.Test.YtjbfdhnfdehdeaaVG
import Derived.KernelRfl
namespace Go.Proofs.Ytjbfdhnfdehdeaa
open Go Go.Proofs.Ytjbfdhnfdehdeaa.V
set_option linter.unusedVariables false

theorem mixed : Try.prog.follows .mixedOrders = true := by kernel_rfl
/-- joist/joistlaw11.TagsWrites -/
abbrev F.joistlaw11_TagsWrites : Nat := 3
def cmd_joistlaw11_TagsWrites : Cmd :=
  .seq (.seq (.reg [⟨(some 10), none, .inl (.mv (.c (.bool false)))⟩])
   (.keep [0, 1, 2, 3, 4]))
   (.seq (.seq (.reg [⟨(some 29), none, .inr (.call 8 [])⟩,
       ⟨(some 11), none, .inl (.mv (.t 29))⟩])
    (.keep [0, 1, 2, 3, 4, 11]))
    (.seq (.seq (.reg [⟨(some 30), none, .inl (.mv (.t 3))⟩,
        ⟨(some 31), none, .inr (.call 9 [(.t 30)])⟩,
        ⟨(some 12), none, .inl (.mv (.t 31))⟩])
     (.keep [0, 1, 2, 3, 4, 11, 12]))
     (.seq (.seq (.seq (.reg [⟨(some 32), none, .inl (.mv (.t 12))⟩,
         ⟨(some 33), none, .inl (.un .not (.t 32))⟩,
         ⟨(some 34), none, .inl (.mv (.t 33))⟩,
         ⟨(some 35), (some (34, false)), .inl (.mv (.t 2))⟩,
         ⟨(some 36), (some (34, false)), .inl (.len (.t 35))⟩,
         ⟨(some 37), (some (34, false)), .inl (.bin .gtr (.t 36) (.c (.int .i64 60)))⟩,
         ⟨(some 38), none, .inl (.pick (.t 34) (.c (.bool true)) (.t 37))⟩])
      (.keep [0, 1, 2, 3, 4, 11, 38]))
      (.cond (.t 38)
        (.seq (.seq (.reg [⟨(some 39), none, .inl (.mv (.t 11))⟩,
            ⟨(some 10), none, .inl (.mv (.t 39))⟩])
         (.keep [10]))
         (.ret))
        (.skip)))
      (.seq (.seq (.reg [⟨(some 13), none, .inl (.mv (.c .nils))⟩])
       (.keep [0, 1, 2, 3, 4, 11, 13]))
       (.seq (.seq (.seq (.reg [⟨(some 14), none, .inl (.mv (.c (.int .i64 0)))⟩])
        (.keep [0, 1, 2, 3, 4, 11, 13, 14]))
        (.block 0 (.loop [0, 1, 2, 3, 4, 11, 13, 14] (.seq (.seq (.seq (.reg [⟨(some 40), none, .inl (.mv (.t 14))⟩,
            ⟨(some 41), none, .inl (.mv (.t 3))⟩,
            ⟨(some 42), none, .inl (.len (.t 41))⟩,
            ⟨(some 43), none, .inl (.bin .lss (.t 40) (.t 42))⟩])
         (.keep [0, 1, 2, 3, 4, 11, 13, 14, 43]))
         (.cond (.t 43)
           (.skip)
           (.exit 0)))
         (.seq (.block 1 (.seq (.reg [⟨(some 46), none, .inl (.mv (.t 13))⟩,
             ⟨(some 47), none, .inl (.mv (.t 3))⟩,
             ⟨(some 48), none, .inl (.mv (.t 14))⟩,
             ⟨(some 49), none, .inl (.iaddr 1 (.t 47) (.t 48))⟩,
             ⟨(some 50), none, .inl (.load false 1 (.t 49))⟩,
             ⟨(some 51), none, .inr (.call 10 [(.t 50)])⟩,
             ⟨(some 52), none, .inr (.bslice 1 [.nils] 1 [(0, (.t 51))])⟩,
             ⟨(some 53), none, .inr (.append 1 24 (.t 46) (.t 52))⟩,
             ⟨(some 13), none, .inl (.mv (.t 53))⟩])
          (.keep [0, 1, 2, 3, 4, 11, 13, 14])))
          (.seq (.reg [⟨(some 44), none, .inl (.mv (.t 14))⟩,
              ⟨(some 45), none, .inl (.bin .add (.t 44) (.c (.int .i64 1)))⟩,
              ⟨(some 14), none, .inl (.mv (.t 45))⟩])
           (.keep [0, 1, 2, 3, 4, 11, 13, 14])))))))
        (.seq (.seq (.reg [⟨(some 55), none, .inl (.mv (.t 0))⟩,
            ⟨(some 56), none, .inl (.mv (.t 1))⟩,
            ⟨(some 57), none, .inl (.mv (.t 2))⟩,
            ⟨(some 58), none, .inl (.mv (.t 13))⟩,
            ⟨(some 59), none, .inr (.call 11 [(.t 55), (.t 56), (.t 57), (.t 58)])⟩,
            ⟨(some 54), none, .inl (.mv (.t 59))⟩,
            ⟨(some 60), none, .inl (.ext 0 (.t 54))⟩,
            ⟨(some 61), none, .inl (.ext 1 (.t 54))⟩,
            ⟨(some 62), none, .inl (.ext 2 (.t 54))⟩,
            ⟨(some 15), none, .inl (.mv (.t 60))⟩,
            ⟨(some 16), none, .inl (.mv (.t 61))⟩,
            ⟨(some 17), none, .inl (.mv (.t 62))⟩])
         (.keep [0, 1, 2, 3, 4, 11, 13, 15, 16, 17]))
         (.seq (.seq (.reg [⟨(some 64), none, .inl (.mv (.t 0))⟩,
             ⟨(some 65), none, .inl (.mv (.t 1))⟩,
             ⟨(some 66), none, .inl (.mv (.t 2))⟩,
             ⟨(some 67), none, .inl (.mv (.t 3))⟩,
             ⟨(some 68), none, .inr (.call 12 [(.t 64), (.t 65), (.t 66), (.t 67)])⟩,
             ⟨(some 63), none, .inl (.mv (.t 68))⟩,
             ⟨(some 69), none, .inl (.ext 0 (.t 63))⟩,
             ⟨(some 70), none, .inl (.ext 1 (.t 63))⟩,
             ⟨(some 71), none, .inl (.ext 2 (.t 63))⟩,
             ⟨(some 18), none, .inl (.mv (.t 69))⟩,
             ⟨(some 19), none, .inl (.mv (.t 70))⟩,
             ⟨(some 20), none, .inl (.mv (.t 71))⟩])
          (.keep [3, 4, 11, 13, 15, 16, 17, 18, 19, 20]))
          (.seq (.seq (.seq (.reg [⟨(some 21), none, .inl (.mv (.c (.int .i64 0)))⟩])
           (.keep [3, 4, 11, 13, 15, 16, 17, 18, 19, 20, 21]))
           (.block 2 (.loop [3, 4, 11, 13, 15, 16, 17, 18, 19, 20, 21] (.seq (.seq (.seq (.reg [⟨(some 72), none, .inl (.mv (.t 21))⟩,
               ⟨(some 73), none, .inl (.mv (.t 13))⟩,
               ⟨(some 74), none, .inl (.len (.t 73))⟩,
               ⟨(some 75), none, .inl (.bin .lss (.t 72) (.t 74))⟩])
            (.keep [3, 4, 11, 13, 15, 16, 17, 18, 19, 20, 21, 75]))
            (.cond (.t 75)
              (.skip)
              (.exit 2)))
            (.seq (.block 3 (.seq (.seq (.ord [⟨0, ⟨(some 78), none, .inl (.mv (.t 13))⟩, [], false⟩,
                ⟨1, ⟨(some 79), none, .inl (.mv (.t 21))⟩, [], false⟩,
                ⟨2, ⟨(some 80), none, .inl (.iaddr 1 (.t 78) (.t 79))⟩, [], false⟩,
                ⟨3, ⟨(some 81), none, .inl (.load false 1 (.t 80))⟩, [], false⟩,
                ⟨4, ⟨(some 82), none, .inl (.mv (.t 3))⟩, [], false⟩,
                ⟨5, ⟨(some 83), none, .inl (.mv (.t 21))⟩, [], false⟩,
                ⟨6, ⟨(some 84), none, .inl (.iaddr 1 (.t 82) (.t 83))⟩, [], false⟩,
                ⟨7, ⟨(some 85), none, .inl (.load false 1 (.t 84))⟩, [], false⟩,
                ⟨8, ⟨(some 86), none, .inr (.call 13 [(.t 81), (.t 85)])⟩, [], false⟩,
                ⟨9, ⟨(some 22), none, .inl (.mv (.t 86))⟩, [], false⟩])
             (.keep [3, 4, 11, 13, 15, 16, 17, 18, 19, 20, 21, 22]))
             (.seq (.seq (.reg [⟨(some 87), none, .inl (.mv (.t 22))⟩,
                 ⟨(some 88), none, .inl (.un .not (.t 87))⟩])
              (.keep [3, 4, 11, 13, 15, 16, 17, 18, 19, 20, 21, 88]))
              (.cond (.t 88)
                (.seq (.seq (.reg [⟨(some 10), none, .inl (.mv (.c (.bool false)))⟩])
                 (.keep [10]))
                 (.ret))
                (.skip)))))
             (.seq (.reg [⟨(some 76), none, .inl (.mv (.t 21))⟩,
                 ⟨(some 77), none, .inl (.bin .add (.t 76) (.c (.int .i64 1)))⟩,
                 ⟨(some 21), none, .inl (.mv (.t 77))⟩])
              (.keep [3, 4, 11, 13, 15, 16, 17, 18, 19, 20, 21])))))))
           (.seq (.seq (.reg [⟨(some 89), none, .inl (.mv (.t 15))⟩,
               ⟨(some 90), none, .inl (.b2s (.t 89))⟩,
               ⟨(some 91), none, .inl (.mv (.t 18))⟩,
               ⟨(some 92), none, .inl (.b2s (.t 91))⟩,
               ⟨(some 93), none, .inl (.bins .eql (.t 90) (.t 92))⟩,
               ⟨(some 94), none, .inl (.mv (.t 93))⟩,
               ⟨(some 95), (some (94, true)), .inl (.mv (.t 16))⟩,
               ⟨(some 96), (some (94, true)), .inl (.mv (.t 19))⟩,
               ⟨(some 97), (some (94, true)), .inr (.call 14 [(.t 95), (.t 96)])⟩,
               ⟨(some 98), none, .inl (.pick (.t 94) (.t 97) (.c (.bool false)))⟩,
               ⟨(some 23), none, .inl (.mv (.t 98))⟩])
            (.keep [4, 11, 13, 15, 17, 20, 23]))
            (.seq (.seq (.reg [⟨(some 99), none, .inr (.bslice 1 [.nils] 0 [])⟩,
                ⟨(some 100), none, .inl (.mv (.t 13))⟩,
                ⟨(some 101), none, .inr (.append 1 24 (.t 99) (.t 100))⟩,
                ⟨(some 102), none, .inl (.mv (.t 15))⟩,
                ⟨(some 103), none, .inr (.bslice 1 [.nils] 1 [(0, (.t 102))])⟩,
                ⟨(some 104), none, .inr (.append 1 24 (.t 101) (.t 103))⟩,
                ⟨(some 105), none, .inr (.call 15 [(.t 104)])⟩,
                ⟨(some 24), none, .inl (.mv (.t 105))⟩])
             (.keep [4, 11, 17, 20, 23, 24]))
             (.seq (.seq (.reg [⟨(some 107), none, .inl (.mv (.t 4))⟩,
                 ⟨(some 108), none, .inr (.call 16 [(.t 107)])⟩,
                 ⟨(some 106), none, .inl (.mv (.t 108))⟩,
                 ⟨(some 109), none, .inl (.ext 0 (.t 106))⟩,
                 ⟨(some 110), none, .inl (.ext 1 (.t 106))⟩,
                 ⟨(some 25), none, .inl (.mv (.t 109))⟩,
                 ⟨(some 26), none, .inl (.mv (.t 110))⟩])
              (.keep [4, 11, 17, 20, 23, 24, 25, 26]))
              (.seq (.seq (.reg [⟨(some 112), none, .inl (.mv (.t 4))⟩,
                  ⟨(some 113), none, .inr (.call 17 [(.t 112)])⟩,
                  ⟨(some 111), none, .inl (.mv (.t 113))⟩,
                  ⟨(some 114), none, .inl (.ext 0 (.t 111))⟩,
                  ⟨(some 115), none, .inl (.ext 1 (.t 111))⟩,
                  ⟨(some 27), none, .inl (.mv (.t 114))⟩,
                  ⟨(some 28), none, .inl (.mv (.t 115))⟩])
               (.keep [11, 17, 20, 23, 24, 25, 26, 27, 28]))
               (.seq (.seq (.reg [⟨(some 116), none, .inl (.mv (.t 11))⟩,
                   ⟨(some 117), none, .inl (.mv (.t 116))⟩,
                   ⟨(some 118), (some (117, true)), .inl (.mv (.t 23))⟩,
                   ⟨(some 119), none, .inl (.pick (.t 117) (.t 118) (.c (.bool false)))⟩,
                   ⟨(some 120), none, .inl (.mv (.t 119))⟩,
                   ⟨(some 121), (some (120, true)), .inl (.mv (.t 24))⟩,
                   ⟨(some 122), none, .inl (.pick (.t 120) (.t 121) (.c (.bool false)))⟩,
                   ⟨(some 123), none, .inl (.mv (.t 122))⟩,
                   ⟨(some 124), (some (123, true)), .inl (.mv (.t 17))⟩,
                   ⟨(some 125), (some (123, true)), .inl (.mv (.t 20))⟩,
                   ⟨(some 126), (some (123, true)), .inl (.bin .eql (.t 124) (.t 125))⟩,
                   ⟨(some 127), none, .inl (.pick (.t 123) (.t 126) (.c (.bool false)))⟩,
                   ⟨(some 128), none, .inl (.mv (.t 127))⟩,
                   ⟨(some 129), (some (128, true)), .inl (.mv (.t 25))⟩,
                   ⟨(some 130), (some (128, true)), .inl (.mv (.t 27))⟩,
                   ⟨(some 131), (some (128, true)), .inl (.bin .eql (.t 129) (.t 130))⟩,
                   ⟨(some 132), none, .inl (.pick (.t 128) (.t 131) (.c (.bool false)))⟩,
                   ⟨(some 133), none, .inl (.mv (.t 132))⟩,
                   ⟨(some 134), (some (133, true)), .inl (.mv (.t 26))⟩,
                   ⟨(some 135), (some (133, true)), .inl (.mv (.t 28))⟩,
                   ⟨(some 136), (some (133, true)), .inl (.binb .eql (.t 134) (.t 135))⟩,
                   ⟨(some 137), none, .inl (.pick (.t 133) (.t 136) (.c (.bool false)))⟩,
                   ⟨(some 10), none, .inl (.mv (.t 137))⟩])
                (.keep [10]))
                (.ret))))))))))))))
def fc_joistlaw11_TagsWrites : FC := ⟨138, cmd_joistlaw11_TagsWrites, [.t 10]⟩
theorem fc_joistlaw11_TagsWrites_ok : compF Try.prog 3 [[0, 1, 2, 3, 4], [0, 1, 2, 3, 4, 11], [0, 1, 2, 3, 4, 11, 12], [0, 1, 2, 3, 4, 11, 38], [10], [0, 1, 2, 3, 4, 11, 13], [0, 1, 2, 3, 4, 11, 13, 14], [0, 1, 2, 3, 4, 11, 13, 14], [0, 1, 2, 3, 4, 11, 13, 14, 43], [0, 1, 2, 3, 4, 11, 13, 14], [0, 1, 2, 3, 4, 11, 13, 14], [0, 1, 2, 3, 4, 11, 13, 15, 16, 17], [3, 4, 11, 13, 15, 16, 17, 18, 19, 20], [3, 4, 11, 13, 15, 16, 17, 18, 19, 20, 21], [3, 4, 11, 13, 15, 16, 17, 18, 19, 20, 21], [3, 4, 11, 13, 15, 16, 17, 18, 19, 20, 21, 75], [3, 4, 11, 13, 15, 16, 17, 18, 19, 20, 21, 22], [0, 1, 2, 3, 4, 5, 6, 7, 8, 9], [3, 4, 11, 13, 15, 16, 17, 18, 19, 20, 21, 88], [10], [3, 4, 11, 13, 15, 16, 17, 18, 19, 20, 21], [4, 11, 13, 15, 17, 20, 23], [4, 11, 17, 20, 23, 24], [4, 11, 17, 20, 23, 24, 25, 26], [11, 17, 20, 23, 24, 25, 26, 27, 28], [10]] = some fc_joistlaw11_TagsWrites := by kernel_rfl
/-- joist/joistlaw11.TagsReads -/
abbrev F.joistlaw11_TagsReads : Nat := 4
def cmd_joistlaw11_TagsReads : Cmd :=
  .seq (.seq (.reg [⟨(some 8), none, .inl (.mv (.c (.bool false)))⟩])
   (.keep [0, 1, 2, 3]))
   (.seq (.seq (.reg [⟨(some 20), none, .inr (.call 8 [])⟩,
       ⟨(some 9), none, .inl (.mv (.t 20))⟩])
    (.keep [0, 1, 2, 3, 9]))
    (.seq (.seq (.seq (.reg [⟨(some 21), none, .inl (.mv (.t 2))⟩,
        ⟨(some 22), none, .inl (.len (.t 21))⟩,
        ⟨(some 23), none, .inl (.bin .gtr (.t 22) (.c (.int .i64 32768)))⟩])
     (.keep [0, 1, 2, 3, 9, 23]))
     (.cond (.t 23)
       (.seq (.seq (.reg [⟨(some 24), none, .inl (.mv (.t 9))⟩,
           ⟨(some 8), none, .inl (.mv (.t 24))⟩])
        (.keep [8]))
        (.ret))
       (.skip)))
     (.seq (.seq (.reg [⟨(some 25), none, .inl (.mv (.t 2))⟩,
         ⟨(some 26), none, .inr (.call 10 [(.t 25)])⟩,
         ⟨(some 10), none, .inl (.mv (.t 26))⟩])
      (.keep [0, 1, 2, 3, 9, 10]))
      (.seq (.seq (.reg [⟨(some 28), none, .inl (.mv (.t 0))⟩,
          ⟨(some 29), none, .inl (.mv (.t 1))⟩,
          ⟨(some 30), none, .inl (.mv (.t 10))⟩,
          ⟨(some 31), none, .inl (.mv (.t 3))⟩,
          ⟨(some 32), none, .inr (.call 18 [(.t 28), (.t 29), (.t 30), (.t 31)])⟩,
          ⟨(some 27), none, .inl (.mv (.t 32))⟩,
          ⟨(some 33), none, .inl (.ext 0 (.t 27))⟩,
          ⟨(some 34), none, .inl (.ext 1 (.t 27))⟩,
          ⟨(some 35), none, .inl (.ext 2 (.t 27))⟩,
          ⟨(some 11), none, .inl (.mv (.t 33))⟩,
          ⟨(some 12), none, .inl (.mv (.t 34))⟩,
          ⟨(some 13), none, .inl (.mv (.t 35))⟩])
       (.keep [0, 1, 2, 3, 9, 10, 11, 12, 13]))
       (.seq (.seq (.reg [⟨(some 36), none, .inl (.mv (.t 10))⟩,
           ⟨(some 37), none, .inl (.mv (.t 2))⟩,
           ⟨(some 38), none, .inr (.call 13 [(.t 36), (.t 37)])⟩,
           ⟨(some 14), none, .inl (.mv (.t 38))⟩])
        (.keep [0, 1, 2, 3, 9, 10, 11, 12, 13, 14]))
        (.seq (.seq (.reg [⟨(some 40), none, .inl (.mv (.t 0))⟩,
            ⟨(some 41), none, .inl (.mv (.t 1))⟩,
            ⟨(some 42), none, .inl (.mv (.t 2))⟩,
            ⟨(some 43), none, .inl (.mv (.t 3))⟩,
            ⟨(some 44), none, .inr (.call 19 [(.t 40), (.t 41), (.t 42), (.t 43)])⟩,
            ⟨(some 39), none, .inl (.mv (.t 44))⟩,
            ⟨(some 45), none, .inl (.ext 0 (.t 39))⟩,
            ⟨(some 46), none, .inl (.ext 1 (.t 39))⟩,
            ⟨(some 47), none, .inl (.ext 2 (.t 39))⟩,
            ⟨(some 15), none, .inl (.mv (.t 45))⟩,
            ⟨(some 16), none, .inl (.mv (.t 46))⟩,
            ⟨(some 17), none, .inl (.mv (.t 47))⟩])
         (.keep [9, 10, 11, 12, 13, 14, 15, 16, 17]))
         (.seq (.seq (.reg [⟨(some 48), none, .inl (.mv (.t 11))⟩,
             ⟨(some 49), none, .inl (.mv (.t 15))⟩,
             ⟨(some 50), none, .inr (.call 20 [(.t 48), (.t 49)])⟩,
             ⟨(some 51), none, .inl (.mv (.t 50))⟩,
             ⟨(some 52), (some (51, true)), .inl (.mv (.t 12))⟩,
             ⟨(some 53), (some (51, true)), .inl (.mv (.t 16))⟩,
             ⟨(some 54), (some (51, true)), .inr (.call 21 [(.t 52), (.t 53)])⟩,
             ⟨(some 55), none, .inl (.pick (.t 51) (.t 54) (.c (.bool false)))⟩,
             ⟨(some 18), none, .inl (.mv (.t 55))⟩])
          (.keep [9, 10, 12, 13, 14, 17, 18]))
          (.seq (.seq (.reg [⟨(some 56), none, .inr (.bslice 1 [.nils] 0 [])⟩,
              ⟨(some 57), none, .inl (.mv (.t 12))⟩,
              ⟨(some 58), none, .inr (.append 1 24 (.t 56) (.t 57))⟩,
              ⟨(some 59), none, .inl (.mv (.t 10))⟩,
              ⟨(some 60), none, .inr (.bslice 1 [.nils] 1 [(0, (.t 59))])⟩,
              ⟨(some 61), none, .inr (.append 1 24 (.t 58) (.t 60))⟩,
              ⟨(some 62), none, .inr (.call 15 [(.t 61)])⟩,
              ⟨(some 19), none, .inl (.mv (.t 62))⟩])
           (.keep [9, 13, 14, 17, 18, 19]))
           (.seq (.seq (.reg [⟨(some 63), none, .inl (.mv (.t 9))⟩,
               ⟨(some 64), none, .inl (.mv (.t 63))⟩,
               ⟨(some 65), (some (64, true)), .inl (.mv (.t 14))⟩,
               ⟨(some 66), none, .inl (.pick (.t 64) (.t 65) (.c (.bool false)))⟩,
               ⟨(some 67), none, .inl (.mv (.t 66))⟩,
               ⟨(some 68), (some (67, true)), .inl (.mv (.t 18))⟩,
               ⟨(some 69), none, .inl (.pick (.t 67) (.t 68) (.c (.bool false)))⟩,
               ⟨(some 70), none, .inl (.mv (.t 69))⟩,
               ⟨(some 71), (some (70, true)), .inl (.mv (.t 19))⟩,
               ⟨(some 72), none, .inl (.pick (.t 70) (.t 71) (.c (.bool false)))⟩,
               ⟨(some 73), none, .inl (.mv (.t 72))⟩,
               ⟨(some 74), (some (73, true)), .inl (.mv (.t 13))⟩,
               ⟨(some 75), (some (73, true)), .inl (.mv (.t 17))⟩,
               ⟨(some 76), (some (73, true)), .inl (.binb .eql (.t 74) (.t 75))⟩,
               ⟨(some 77), none, .inl (.pick (.t 73) (.t 76) (.c (.bool false)))⟩,
               ⟨(some 8), none, .inl (.mv (.t 77))⟩])
            (.keep [8]))
            (.ret))))))))))
def fc_joistlaw11_TagsReads : FC := ⟨78, cmd_joistlaw11_TagsReads, [.t 8]⟩
theorem fc_joistlaw11_TagsReads_ok : compF Try.prog 4 [[0, 1, 2, 3], [0, 1, 2, 3, 9], [0, 1, 2, 3, 9, 23], [8], [0, 1, 2, 3, 9, 10], [0, 1, 2, 3, 9, 10, 11, 12, 13], [0, 1, 2, 3, 9, 10, 11, 12, 13, 14], [9, 10, 11, 12, 13, 14, 15, 16, 17], [9, 10, 12, 13, 14, 17, 18], [9, 13, 14, 17, 18, 19], [8]] = some fc_joistlaw11_TagsReads := by kernel_rfl
/-- joist/joistlaw11.TagsWalks -/
abbrev F.joistlaw11_TagsWalks : Nat := 5
def cmd_joistlaw11_TagsWalks : Cmd :=
  .seq (.seq (.reg [⟨(some 8), none, .inl (.mv (.c (.bool false)))⟩])
   (.keep [0, 1, 2, 3]))
   (.seq (.seq (.reg [⟨(some 22), none, .inr (.call 8 [])⟩,
       ⟨(some 9), none, .inl (.mv (.t 22))⟩])
    (.keep [0, 1, 2, 3, 9]))
    (.seq (.seq (.reg [⟨(some 23), none, .inl (.mv (.t 3))⟩,
        ⟨(some 24), none, .inr (.call 9 [(.t 23)])⟩,
        ⟨(some 10), none, .inl (.mv (.t 24))⟩])
     (.keep [0, 1, 2, 3, 9, 10]))
     (.seq (.seq (.seq (.reg [⟨(some 25), none, .inl (.mv (.t 10))⟩,
         ⟨(some 26), none, .inl (.un .not (.t 25))⟩,
         ⟨(some 27), none, .inl (.mv (.t 26))⟩,
         ⟨(some 28), (some (27, false)), .inl (.mv (.t 2))⟩,
         ⟨(some 29), (some (27, false)), .inl (.len (.t 28))⟩,
         ⟨(some 30), (some (27, false)), .inl (.bin .gtr (.t 29) (.c (.int .i64 60)))⟩,
         ⟨(some 31), none, .inl (.pick (.t 27) (.c (.bool true)) (.t 30))⟩])
      (.keep [0, 1, 2, 3, 9, 31]))
      (.cond (.t 31)
        (.seq (.seq (.reg [⟨(some 32), none, .inl (.mv (.t 9))⟩,
            ⟨(some 8), none, .inl (.mv (.t 32))⟩])
         (.keep [8]))
         (.ret))
        (.skip)))
      (.seq (.seq (.reg [⟨(some 34), none, .inl (.mv (.t 0))⟩,
          ⟨(some 35), none, .inl (.mv (.t 1))⟩,
          ⟨(some 36), none, .inl (.mv (.t 2))⟩,
          ⟨(some 37), none, .inl (.mv (.t 3))⟩,
          ⟨(some 38), none, .inr (.call 11 [(.t 34), (.t 35), (.t 36), (.t 37)])⟩,
          ⟨(some 33), none, .inl (.mv (.t 38))⟩,
          ⟨(some 39), none, .inl (.ext 0 (.t 33))⟩,
          ⟨(some 40), none, .inl (.ext 1 (.t 33))⟩,
          ⟨(some 41), none, .inl (.ext 2 (.t 33))⟩,
          ⟨(some 11), none, .inl (.mv (.t 39))⟩,
          ⟨(some 12), none, .inl (.mv (.t 40))⟩,
          ⟨(some 13), none, .inl (.mv (.t 41))⟩])
       (.keep [0, 1, 2, 9, 11, 13]))
       (.seq (.seq (.seq (.reg [⟨(some 42), none, .inl (.mv (.t 13))⟩,
           ⟨(some 43), none, .inl (.bin .neq (.t 42) (.c (.int .i64 0)))⟩])
        (.keep [0, 1, 2, 9, 11, 43]))
        (.cond (.t 43)
          (.seq (.seq (.reg [⟨(some 44), none, .inl (.mv (.t 9))⟩,
              ⟨(some 8), none, .inl (.mv (.t 44))⟩])
           (.keep [8]))
           (.ret))
          (.skip)))
        (.seq (.seq (.reg [⟨(some 14), none, .inl (.mv (.c (.int .i64 0)))⟩])
         (.keep [0, 1, 2, 9, 11, 14]))
         (.seq (.seq (.reg [⟨(some 15), none, .inl (.mv (.c (.int .i64 0)))⟩])
          (.keep [0, 1, 2, 9, 11, 14, 15]))
          (.seq (.seq (.reg [⟨(some 16), none, .inl (.mv (.c (.bool false)))⟩])
           (.keep [0, 1, 2, 9, 11, 14, 15, 16]))
           (.seq (.block 0 (.loop [0, 1, 2, 9, 11, 14, 15, 16] (.seq (.seq (.seq (.reg [⟨(some 45), none, .inl (.mv (.t 14))⟩,
               ⟨(some 46), none, .inl (.mv (.t 1))⟩,
               ⟨(some 47), none, .inl (.mv (.t 0))⟩,
               ⟨(some 48), none, .inl (.bin .sub (.t 46) (.t 47))⟩,
               ⟨(some 49), none, .inl (.bin .lss (.t 45) (.t 48))⟩])
            (.keep [0, 1, 2, 9, 11, 14, 15, 16, 49]))
            (.cond (.t 49)
              (.skip)
              (.exit 0)))
            (.block 1 (.seq (.seq (.reg [⟨(some 51), none, .inl (.mv (.t 11))⟩,
                ⟨(some 52), none, .inl (.mv (.t 14))⟩,
                ⟨(some 53), none, .inr (.call 22 [(.t 51), (.t 52)])⟩,
                ⟨(some 50), none, .inl (.mv (.t 53))⟩,
                ⟨(some 54), none, .inl (.ext 0 (.t 50))⟩,
                ⟨(some 55), none, .inl (.ext 1 (.t 50))⟩,
                ⟨(some 17), none, .inl (.mv (.t 54))⟩,
                ⟨(some 18), none, .inl (.mv (.t 55))⟩])
             (.keep [0, 1, 2, 9, 11, 14, 15, 16, 17, 18]))
             (.seq (.seq (.reg [⟨(some 56), none, .inl (.mv (.t 17))⟩,
                 ⟨(some 57), none, .inl (.bin .quo (.t 56) (.c (.int .i64 64)))⟩,
                 ⟨(some 19), none, .inl (.mv (.t 57))⟩])
              (.keep [0, 1, 2, 9, 11, 14, 15, 16, 17, 18, 19]))
              (.seq (.seq (.seq (.reg [⟨(some 58), none, .inl (.mv (.t 18))⟩,
                  ⟨(some 59), none, .inl (.un .not (.t 58))⟩,
                  ⟨(some 60), none, .inl (.mv (.t 59))⟩,
                  ⟨(some 61), (some (60, false)), .inl (.mv (.t 19))⟩,
                  ⟨(some 62), (some (60, false)), .inl (.bin .lss (.t 61) (.c (.int .i64 4)))⟩,
                  ⟨(some 63), none, .inl (.pick (.t 60) (.c (.bool true)) (.t 62))⟩,
                  ⟨(some 64), none, .inl (.mv (.t 63))⟩,
                  ⟨(some 65), (some (64, false)), .inl (.mv (.t 19))⟩,
                  ⟨(some 66), (some (64, false)), .inl (.mv (.t 1))⟩,
                  ⟨(some 67), (some (64, false)), .inl (.mv (.t 0))⟩,
                  ⟨(some 68), (some (64, false)), .inl (.bin .sub (.t 66) (.t 67))⟩,
                  ⟨(some 69), (some (64, false)), .inl (.mv (.t 14))⟩,
                  ⟨(some 70), (some (64, false)), .inl (.bin .sub (.t 68) (.t 69))⟩,
                  ⟨(some 71), (some (64, false)), .inl (.bin .gtr (.t 65) (.t 70))⟩,
                  ⟨(some 72), none, .inl (.pick (.t 64) (.c (.bool true)) (.t 71))⟩])
               (.keep [0, 1, 2, 9, 11, 14, 15, 16, 17, 19, 72]))
               (.cond (.t 72)
                 (.seq (.seq (.reg [⟨(some 8), none, .inl (.mv (.c (.bool false)))⟩])
                  (.keep [8]))
                  (.ret))
                 (.skip)))
               (.seq (.seq (.reg [⟨(some 74), none, .inl (.mv (.t 11))⟩,
                   ⟨(some 75), none, .inl (.mv (.t 14))⟩,
                   ⟨(some 76), none, .inl (.mv (.t 19))⟩,
                   ⟨(some 77), none, .inl (.bin .add (.t 75) (.t 76))⟩,
                   ⟨(some 78), none, .inl (.bin .sub (.t 77) (.c (.int .i64 1)))⟩,
                   ⟨(some 79), none, .inr (.call 22 [(.t 74), (.t 78)])⟩,
                   ⟨(some 73), none, .inl (.mv (.t 79))⟩,
                   ⟨(some 80), none, .inl (.ext 0 (.t 73))⟩,
                   ⟨(some 81), none, .inl (.ext 1 (.t 73))⟩,
                   ⟨(some 20), none, .inl (.mv (.t 80))⟩,
                   ⟨(some 21), none, .inl (.mv (.t 81))⟩])
                (.keep [0, 1, 2, 9, 11, 14, 15, 16, 17, 19, 20, 21]))
                (.seq (.seq (.seq (.reg [⟨(some 82), none, .inl (.mv (.t 21))⟩,
                    ⟨(some 83), none, .inl (.un .not (.t 82))⟩,
                    ⟨(some 84), none, .inl (.mv (.t 83))⟩,
                    ⟨(some 85), (some (84, false)), .inl (.mv (.t 20))⟩,
                    ⟨(some 86), (some (84, false)), .inl (.mv (.t 17))⟩,
                    ⟨(some 87), (some (84, false)), .inl (.bin .neq (.t 85) (.t 86))⟩,
                    ⟨(some 88), none, .inl (.pick (.t 84) (.c (.bool true)) (.t 87))⟩])
                 (.keep [0, 1, 2, 9, 11, 14, 15, 16, 17, 19, 88]))
                 (.cond (.t 88)
                   (.seq (.seq (.reg [⟨(some 8), none, .inl (.mv (.c (.bool false)))⟩])
                    (.keep [8]))
                    (.ret))
                   (.skip)))
                 (.seq (.seq (.seq (.reg [⟨(some 89), none, .inl (.mv (.t 17))⟩,
                     ⟨(some 90), none, .inl (.bin .rem (.t 89) (.c (.int .i64 64)))⟩,
                     ⟨(some 91), none, .inl (.bin .gtr (.t 90) (.c (.int .i64 0)))⟩])
                  (.keep [0, 1, 2, 9, 11, 14, 15, 16, 17, 19, 91]))
                  (.cond (.t 91)
                    (.seq (.seq (.seq (.reg [⟨(some 92), none, .inl (.mv (.t 15))⟩,
                        ⟨(some 93), none, .inl (.mv (.t 2))⟩,
                        ⟨(some 94), none, .inl (.len (.t 93))⟩,
                        ⟨(some 95), none, .inl (.bin .geq (.t 92) (.t 94))⟩,
                        ⟨(some 96), none, .inl (.mv (.t 95))⟩,
                        ⟨(some 97), (some (96, false)), .inl (.mv (.t 2))⟩,
                        ⟨(some 98), (some (96, false)), .inl (.mv (.t 15))⟩,
                        ⟨(some 99), (some (96, false)), .inl (.iaddr 3 (.t 97) (.t 98))⟩,
                        ⟨(some 100), (some (96, false)), .inl (.faddr 0 (.t 99))⟩,
                        ⟨(some 101), (some (96, false)), .inl (.load false 1 (.t 100))⟩,
                        ⟨(some 102), (some (96, false)), .inl (.mv (.t 0))⟩,
                        ⟨(some 103), (some (96, false)), .inl (.mv (.t 14))⟩,
                        ⟨(some 104), (some (96, false)), .inl (.bin .add (.t 102) (.t 103))⟩,
                        ⟨(some 105), (some (96, false)), .inl (.bin .neq (.t 101) (.t 104))⟩,
                        ⟨(some 106), none, .inl (.pick (.t 96) (.c (.bool true)) (.t 105))⟩,
                        ⟨(some 107), none, .inl (.mv (.t 106))⟩,
                        ⟨(some 108), (some (107, false)), .inl (.mv (.t 2))⟩,
                        ⟨(some 109), (some (107, false)), .inl (.mv (.t 15))⟩,
                        ⟨(some 110), (some (107, false)), .inl (.iaddr 3 (.t 108) (.t 109))⟩,
                        ⟨(some 111), (some (107, false)), .inl (.faddr 1 (.t 110))⟩,
                        ⟨(some 112), (some (107, false)), .inl (.load false 1 (.t 111))⟩,
                        ⟨(some 113), (some (107, false)), .inl (.mv (.t 19))⟩,
                        ⟨(some 114), (some (107, false)), .inl (.bin .neq (.t 112) (.t 113))⟩,
                        ⟨(some 115), none, .inl (.pick (.t 107) (.c (.bool true)) (.t 114))⟩,
                        ⟨(some 116), none, .inl (.mv (.t 115))⟩,
                        ⟨(some 117), (some (116, false)), .inl (.mv (.t 2))⟩,
                        ⟨(some 118), (some (116, false)), .inl (.mv (.t 15))⟩,
                        ⟨(some 119), (some (116, false)), .inl (.iaddr 3 (.t 117) (.t 118))⟩,
                        ⟨(some 120), (some (116, false)), .inl (.faddr 2 (.t 119))⟩,
                        ⟨(some 121), (some (116, false)), .inl (.load false 1 (.t 120))⟩,
                        ⟨(some 122), (some (116, false)), .inl (.mv (.t 17))⟩,
                        ⟨(some 123), (some (116, false)), .inl (.bin .rem (.t 122) (.c (.int .i64 64)))⟩,
                        ⟨(some 124), (some (116, false)), .inl (.bin .sub (.t 123) (.c (.int .i64 1)))⟩,
                        ⟨(some 125), (some (116, false)), .inl (.bin .neq (.t 121) (.t 124))⟩,
                        ⟨(some 126), none, .inl (.pick (.t 116) (.c (.bool true)) (.t 125))⟩])
                     (.keep [0, 1, 2, 9, 11, 14, 15, 17, 19, 126]))
                     (.cond (.t 126)
                       (.seq (.seq (.reg [⟨(some 8), none, .inl (.mv (.c (.bool false)))⟩])
                        (.keep [8]))
                        (.ret))
                       (.skip)))
                     (.seq (.reg [⟨(some 127), none, .inl (.mv (.t 15))⟩,
                         ⟨(some 128), none, .inl (.bin .add (.t 127) (.c (.int .i64 1)))⟩,
                         ⟨(some 15), none, .inl (.mv (.t 128))⟩])
                      (.keep [0, 1, 2, 9, 11, 14, 15, 17, 19])))
                    (.seq (.seq (.reg [⟨(some 129), none, .inl (.mv (.t 16))⟩])
                     (.keep [0, 1, 2, 9, 11, 14, 15, 17, 19, 129]))
                     (.cond (.t 129)
                       (.seq (.seq (.reg [⟨(some 8), none, .inl (.mv (.c (.bool false)))⟩])
                        (.keep [8]))
                        (.ret))
                       (.skip)))))
                  (.seq (.seq (.reg [⟨(some 130), none, .inl (.mv (.t 17))⟩,
                      ⟨(some 131), none, .inl (.bin .rem (.t 130) (.c (.int .i64 64)))⟩,
                      ⟨(some 132), none, .inl (.bin .eql (.t 131) (.c (.int .i64 0)))⟩,
                      ⟨(some 16), none, .inl (.mv (.t 132))⟩])
                   (.keep [0, 1, 2, 9, 11, 14, 15, 16, 19]))
                   (.seq (.reg [⟨(some 133), none, .inl (.mv (.t 14))⟩,
                       ⟨(some 134), none, .inl (.mv (.t 19))⟩,
                       ⟨(some 135), none, .inl (.bin .add (.t 133) (.t 134))⟩,
                       ⟨(some 14), none, .inl (.mv (.t 135))⟩])
                    (.keep [0, 1, 2, 9, 11, 14, 15, 16])))))))))))))
            (.seq (.seq (.reg [⟨(some 136), none, .inl (.mv (.t 9))⟩,
                ⟨(some 137), none, .inl (.mv (.t 136))⟩,
                ⟨(some 138), (some (137, true)), .inl (.mv (.t 14))⟩,
                ⟨(some 139), (some (137, true)), .inl (.mv (.t 1))⟩,
                ⟨(some 140), (some (137, true)), .inl (.mv (.t 0))⟩,
                ⟨(some 141), (some (137, true)), .inl (.bin .sub (.t 139) (.t 140))⟩,
                ⟨(some 142), (some (137, true)), .inl (.bin .eql (.t 138) (.t 141))⟩,
                ⟨(some 143), none, .inl (.pick (.t 137) (.t 142) (.c (.bool false)))⟩,
                ⟨(some 144), none, .inl (.mv (.t 143))⟩,
                ⟨(some 145), (some (144, true)), .inl (.mv (.t 15))⟩,
                ⟨(some 146), (some (144, true)), .inl (.mv (.t 2))⟩,
                ⟨(some 147), (some (144, true)), .inl (.len (.t 146))⟩,
                ⟨(some 148), (some (144, true)), .inl (.bin .eql (.t 145) (.t 147))⟩,
                ⟨(some 149), none, .inl (.pick (.t 144) (.t 148) (.c (.bool false)))⟩,
                ⟨(some 8), none, .inl (.mv (.t 149))⟩])
             (.keep [8]))
             (.ret)))))))))))
def fc_joistlaw11_TagsWalks : FC := ⟨150, cmd_joistlaw11_TagsWalks, [.t 8]⟩
theorem fc_joistlaw11_TagsWalks_ok : compF Try.prog 5 [[0, 1, 2, 3], [0, 1, 2, 3, 9], [0, 1, 2, 3, 9, 10], [0, 1, 2, 3, 9, 31], [8], [0, 1, 2, 9, 11, 13], [0, 1, 2, 9, 11, 43], [8], [0, 1, 2, 9, 11, 14], [0, 1, 2, 9, 11, 14, 15], [0, 1, 2, 9, 11, 14, 15, 16], [0, 1, 2, 9, 11, 14, 15, 16], [0, 1, 2, 9, 11, 14, 15, 16, 49], [0, 1, 2, 9, 11, 14, 15, 16, 17, 18], [0, 1, 2, 9, 11, 14, 15, 16, 17, 18, 19], [0, 1, 2, 9, 11, 14, 15, 16, 17, 19, 72], [8], [0, 1, 2, 9, 11, 14, 15, 16, 17, 19, 20, 21], [0, 1, 2, 9, 11, 14, 15, 16, 17, 19, 88], [8], [0, 1, 2, 9, 11, 14, 15, 16, 17, 19, 91], [0, 1, 2, 9, 11, 14, 15, 17, 19, 126], [8], [0, 1, 2, 9, 11, 14, 15, 17, 19], [0, 1, 2, 9, 11, 14, 15, 17, 19, 129], [8], [0, 1, 2, 9, 11, 14, 15, 16, 19], [0, 1, 2, 9, 11, 14, 15, 16], [8]] = some fc_joistlaw11_TagsWalks := by kernel_rfl
/-- joist/joistlaw11.TagsLists -/
abbrev F.joistlaw11_TagsLists : Nat := 6
def cmd_joistlaw11_TagsLists : Cmd :=
  .seq (.seq (.reg [⟨(some 12), none, .inl (.mv (.c (.bool false)))⟩])
   (.keep [0, 1, 2, 3, 4, 5]))
   (.seq (.seq (.reg [⟨(some 29), none, .inr (.call 8 [])⟩,
       ⟨(some 13), none, .inl (.mv (.t 29))⟩])
    (.keep [0, 1, 2, 3, 4, 5, 13]))
    (.seq (.seq (.reg [⟨(some 30), none, .inl (.mv (.t 3))⟩,
        ⟨(some 31), none, .inr (.call 9 [(.t 30)])⟩,
        ⟨(some 14), none, .inl (.mv (.t 31))⟩])
     (.keep [0, 1, 2, 3, 4, 5, 13, 14]))
     (.seq (.seq (.seq (.reg [⟨(some 32), none, .inl (.mv (.t 14))⟩,
         ⟨(some 33), none, .inl (.un .not (.t 32))⟩,
         ⟨(some 34), none, .inl (.mv (.t 33))⟩,
         ⟨(some 35), (some (34, false)), .inl (.mv (.t 2))⟩,
         ⟨(some 36), (some (34, false)), .inl (.len (.t 35))⟩,
         ⟨(some 37), (some (34, false)), .inl (.bin .gtr (.t 36) (.c (.int .i64 60)))⟩,
         ⟨(some 38), none, .inl (.pick (.t 34) (.c (.bool true)) (.t 37))⟩])
      (.keep [0, 1, 2, 3, 4, 5, 13, 38]))
      (.cond (.t 38)
        (.seq (.seq (.reg [⟨(some 39), none, .inl (.mv (.t 13))⟩,
            ⟨(some 12), none, .inl (.mv (.t 39))⟩])
         (.keep [12]))
         (.ret))
        (.skip)))
      (.seq (.seq (.reg [⟨(some 41), none, .inl (.mv (.t 4))⟩,
          ⟨(some 42), none, .inr (.call 16 [(.t 41)])⟩,
          ⟨(some 40), none, .inl (.mv (.t 42))⟩,
          ⟨(some 43), none, .inl (.ext 0 (.t 40))⟩,
          ⟨(some 44), none, .inl (.ext 1 (.t 40))⟩,
          ⟨(some 15), none, .inl (.mv (.t 43))⟩,
          ⟨(some 16), none, .inl (.mv (.t 44))⟩])
       (.keep [0, 1, 2, 3, 4, 5, 13, 15, 16]))
       (.seq (.seq (.reg [⟨(some 46), none, .inl (.mv (.t 5))⟩,
           ⟨(some 47), none, .inr (.call 16 [(.t 46)])⟩,
           ⟨(some 45), none, .inl (.mv (.t 47))⟩,
           ⟨(some 48), none, .inl (.ext 0 (.t 45))⟩,
           ⟨(some 49), none, .inl (.ext 1 (.t 45))⟩,
           ⟨(some 17), none, .inl (.mv (.t 48))⟩,
           ⟨(some 18), none, .inl (.mv (.t 49))⟩])
        (.keep [0, 1, 2, 3, 4, 5, 13, 15, 16, 17, 18]))
        (.seq (.seq (.seq (.reg [⟨(some 50), none, .inl (.mv (.t 16))⟩,
            ⟨(some 51), none, .inl (.mv (.t 4))⟩,
            ⟨(some 52), none, .inl (.bin .geq (.t 51) (.c (.int .i64 4)))⟩,
            ⟨(some 53), none, .inl (.binb .neq (.t 50) (.t 52))⟩,
            ⟨(some 54), none, .inl (.mv (.t 53))⟩,
            ⟨(some 55), (some (54, false)), .inl (.mv (.t 16))⟩,
            ⟨(some 56), (some (54, false)), .inl (.mv (.t 55))⟩,
            ⟨(some 57), (some (56, true)), .inl (.mv (.t 18))⟩,
            ⟨(some 58), (some (54, false)), .inl (.pick (.t 56) (.t 57) (.c (.bool false)))⟩,
            ⟨(some 59), (some (54, false)), .inl (.mv (.t 58))⟩,
            ⟨(some 60), (some (59, true)), .inl (.mv (.t 4))⟩,
            ⟨(some 61), (some (59, true)), .inl (.mv (.t 5))⟩,
            ⟨(some 62), (some (59, true)), .inl (.bin .leq (.t 60) (.t 61))⟩,
            ⟨(some 63), (some (54, false)), .inl (.pick (.t 59) (.t 62) (.c (.bool false)))⟩,
            ⟨(some 64), (some (54, false)), .inl (.mv (.t 63))⟩,
            ⟨(some 65), (some (64, true)), .inl (.mv (.t 15))⟩,
            ⟨(some 66), (some (64, true)), .inl (.mv (.t 17))⟩,
            ⟨(some 67), (some (64, true)), .inl (.bin .gtr (.t 65) (.t 66))⟩,
            ⟨(some 68), (some (54, false)), .inl (.pick (.t 64) (.t 67) (.c (.bool false)))⟩,
            ⟨(some 69), none, .inl (.pick (.t 54) (.c (.bool true)) (.t 68))⟩,
            ⟨(some 70), none, .inl (.mv (.t 69))⟩,
            ⟨(some 71), (some (70, false)), .inl (.mv (.t 15))⟩,
            ⟨(some 72), (some (70, false)), .inl (.bin .lss (.t 71) (.c (.int .i64 0)))⟩,
            ⟨(some 73), none, .inl (.pick (.t 70) (.c (.bool true)) (.t 72))⟩,
            ⟨(some 74), none, .inl (.mv (.t 73))⟩,
            ⟨(some 75), (some (74, false)), .inl (.mv (.t 15))⟩,
            ⟨(some 76), (some (74, false)), .inl (.bin .geq (.t 75) (.c (.int .i64 7)))⟩,
            ⟨(some 77), none, .inl (.pick (.t 74) (.c (.bool true)) (.t 76))⟩])
         (.keep [0, 1, 2, 3, 13, 77]))
         (.cond (.t 77)
           (.seq (.seq (.reg [⟨(some 12), none, .inl (.mv (.c (.bool false)))⟩])
            (.keep [12]))
            (.ret))
           (.skip)))
         (.seq (.seq (.reg [⟨(some 79), none, .inl (.mv (.t 0))⟩,
             ⟨(some 80), none, .inl (.mv (.t 1))⟩,
             ⟨(some 81), none, .inl (.mv (.t 2))⟩,
             ⟨(some 82), none, .inl (.mv (.t 3))⟩,
             ⟨(some 83), none, .inr (.call 11 [(.t 79), (.t 80), (.t 81), (.t 82)])⟩,
             ⟨(some 78), none, .inl (.mv (.t 83))⟩,
             ⟨(some 84), none, .inl (.ext 0 (.t 78))⟩,
             ⟨(some 85), none, .inl (.ext 1 (.t 78))⟩,
             ⟨(some 86), none, .inl (.ext 2 (.t 78))⟩,
             ⟨(some 19), none, .inl (.mv (.t 84))⟩,
             ⟨(some 20), none, .inl (.mv (.t 85))⟩,
             ⟨(some 21), none, .inl (.mv (.t 86))⟩])
          (.keep [0, 1, 2, 13, 20, 21]))
          (.seq (.seq (.seq (.reg [⟨(some 87), none, .inl (.mv (.t 21))⟩,
              ⟨(some 88), none, .inl (.bin .neq (.t 87) (.c (.int .i64 0)))⟩])
           (.keep [0, 1, 2, 13, 20, 88]))
           (.cond (.t 88)
             (.seq (.seq (.reg [⟨(some 89), none, .inl (.mv (.t 13))⟩,
                 ⟨(some 90), none, .inl (.mv (.t 89))⟩,
                 ⟨(some 91), (some (90, true)), .inl (.mv (.t 20))⟩,
                 ⟨(some 92), (some (90, true)), .inl (.len (.t 91))⟩,
                 ⟨(some 93), (some (90, true)), .inl (.bin .eql (.t 92) (.c (.int .i64 0)))⟩,
                 ⟨(some 94), none, .inl (.pick (.t 90) (.t 93) (.c (.bool false)))⟩,
                 ⟨(some 12), none, .inl (.mv (.t 94))⟩])
              (.keep [12]))
              (.ret))
             (.skip)))
           (.seq (.seq (.seq (.reg [⟨(some 95), none, .inl (.mv (.t 20))⟩,
               ⟨(some 96), none, .inl (.len (.t 95))⟩,
               ⟨(some 97), none, .inl (.bin .neq (.t 96) (.c (.int .i64 7)))⟩])
            (.keep [0, 1, 2, 13, 20, 97]))
            (.cond (.t 97)
              (.seq (.seq (.reg [⟨(some 12), none, .inl (.mv (.c (.bool false)))⟩])
               (.keep [12]))
               (.ret))
              (.skip)))
            (.seq (.seq (.reg [⟨(some 98), none, .inl (.mv (.t 0))⟩,
                ⟨(some 22), none, .inl (.mv (.t 98))⟩])
             (.keep [1, 2, 13, 20, 22]))
             (.seq (.seq (.reg [⟨(some 23), none, .inr (.alloc [(.int .i64 0), (.int .i64 0), (.int .i64 0), (.int .i64 0), (.int .i64 0), (.int .i64 0), (.int .i64 0)])⟩])
              (.keep [1, 2, 13, 20, 22, 23]))
              (.seq (.seq (.seq (.reg [⟨(some 24), none, .inl (.mv (.c (.int .i64 0)))⟩])
               (.keep [1, 2, 13, 20, 22, 23, 24]))
               (.block 0 (.loop [1, 2, 13, 20, 22, 23, 24] (.seq (.seq (.seq (.reg [⟨(some 99), none, .inl (.mv (.t 24))⟩,
                   ⟨(some 100), none, .inl (.mv (.t 2))⟩,
                   ⟨(some 101), none, .inl (.len (.t 100))⟩,
                   ⟨(some 102), none, .inl (.bin .leq (.t 99) (.t 101))⟩])
                (.keep [1, 2, 13, 20, 22, 23, 24, 102]))
                (.cond (.t 102)
                  (.skip)
                  (.exit 0)))
                (.seq (.block 1 (.seq (.seq (.reg [⟨(some 105), none, .inl (.mv (.t 1))⟩,
                    ⟨(some 25), none, .inl (.mv (.t 105))⟩])
                 (.keep [1, 2, 13, 20, 22, 23, 24, 25]))
                 (.seq (.seq (.seq (.reg [⟨(some 106), none, .inl (.mv (.t 24))⟩,
                     ⟨(some 107), none, .inl (.mv (.t 2))⟩,
                     ⟨(some 108), none, .inl (.len (.t 107))⟩,
                     ⟨(some 109), none, .inl (.bin .lss (.t 106) (.t 108))⟩])
                  (.keep [1, 2, 13, 20, 22, 23, 24, 25, 109]))
                  (.cond (.t 109)
                    (.seq (.reg [⟨(some 110), none, .inl (.mv (.t 2))⟩,
                        ⟨(some 111), none, .inl (.mv (.t 24))⟩,
                        ⟨(some 112), none, .inl (.iaddr 3 (.t 110) (.t 111))⟩,
                        ⟨(some 113), none, .inl (.faddr 0 (.t 112))⟩,
                        ⟨(some 114), none, .inl (.load false 1 (.t 113))⟩,
                        ⟨(some 25), none, .inl (.mv (.t 114))⟩])
                     (.keep [1, 2, 13, 20, 22, 23, 24, 25]))
                    (.skip)))
                  (.seq (.seq (.seq (.reg [⟨(some 115), none, .inl (.mv (.t 25))⟩,
                      ⟨(some 116), none, .inl (.mv (.t 22))⟩,
                      ⟨(some 117), none, .inl (.bin .gtr (.t 115) (.t 116))⟩])
                   (.keep [1, 2, 13, 20, 22, 23, 24, 25, 117]))
                   (.cond (.t 117)
                     (.seq (.seq (.reg [⟨(some 119), none, .inl (.mv (.t 25))⟩,
                         ⟨(some 120), none, .inl (.mv (.t 22))⟩,
                         ⟨(some 121), none, .inl (.bin .sub (.t 119) (.t 120))⟩,
                         ⟨(some 122), none, .inr (.call 16 [(.t 121)])⟩,
                         ⟨(some 118), none, .inl (.mv (.t 122))⟩,
                         ⟨(some 123), none, .inl (.ext 0 (.t 118))⟩,
                         ⟨(some 124), none, .inl (.ext 1 (.t 118))⟩,
                         ⟨(some 26), none, .inl (.mv (.t 123))⟩,
                         ⟨(some 27), none, .inl (.mv (.t 124))⟩])
                      (.keep [1, 2, 13, 20, 22, 23, 24, 26, 27]))
                      (.seq (.seq (.seq (.reg [⟨(some 125), none, .inl (.mv (.t 27))⟩,
                          ⟨(some 126), none, .inl (.un .not (.t 125))⟩,
                          ⟨(some 127), none, .inl (.mv (.t 126))⟩,
                          ⟨(some 128), (some (127, false)), .inl (.mv (.t 26))⟩,
                          ⟨(some 129), (some (127, false)), .inl (.bin .lss (.t 128) (.c (.int .i64 0)))⟩,
                          ⟨(some 130), none, .inl (.pick (.t 127) (.c (.bool true)) (.t 129))⟩,
                          ⟨(some 131), none, .inl (.mv (.t 130))⟩,
                          ⟨(some 132), (some (131, false)), .inl (.mv (.t 26))⟩,
                          ⟨(some 133), (some (131, false)), .inl (.bin .gtr (.t 132) (.c (.int .i64 6)))⟩,
                          ⟨(some 134), none, .inl (.pick (.t 131) (.c (.bool true)) (.t 133))⟩])
                       (.keep [1, 2, 13, 20, 22, 23, 24, 26, 134]))
                       (.cond (.t 134)
                         (.seq (.seq (.reg [⟨(some 12), none, .inl (.mv (.c (.bool false)))⟩])
                          (.keep [12]))
                          (.ret))
                         (.skip)))
                       (.seq (.seq (.reg [⟨(some 135), none, .inl (.mv (.t 26))⟩,
                           ⟨(some 136), none, .inl (.iaddrA 7 1 (.t 23) (.t 135))⟩,
                           ⟨(some 137), none, .inl (.load false 1 (.t 136))⟩,
                           ⟨(some 138), none, .inl (.bin .eql (.t 137) (.c (.int .i64 0)))⟩])
                        (.keep [1, 2, 13, 20, 22, 23, 24, 26, 138]))
                        (.cond (.t 138)
                          (.seq (.reg [⟨(some 139), none, .inl (.mv (.t 26))⟩,
                              ⟨(some 140), none, .inl (.mv (.t 22))⟩,
                              ⟨(some 141), none, .inl (.bin .add (.t 140) (.c (.int .i64 1)))⟩,
                              ⟨(some 142), none, .inl (.iaddrA 7 1 (.t 23) (.t 139))⟩,
                              ⟨none, none, .inr (.store 1 (.t 142) (.t 141))⟩])
                           (.keep [1, 2, 13, 20, 22, 23, 24]))
                          (.skip)))))
                     (.skip)))
                   (.seq (.seq (.reg [⟨(some 143), none, .inl (.mv (.t 24))⟩,
                       ⟨(some 144), none, .inl (.mv (.t 2))⟩,
                       ⟨(some 145), none, .inl (.len (.t 144))⟩,
                       ⟨(some 146), none, .inl (.bin .lss (.t 143) (.t 145))⟩])
                    (.keep [1, 2, 13, 20, 22, 23, 24, 146]))
                    (.cond (.t 146)
                      (.seq (.ord [⟨0, ⟨(some 147), none, .inl (.mv (.t 2))⟩, [], false⟩,
                          ⟨1, ⟨(some 148), none, .inl (.mv (.t 24))⟩, [], false⟩,
                          ⟨2, ⟨(some 149), none, .inl (.iaddr 3 (.t 147) (.t 148))⟩, [], false⟩,
                          ⟨3, ⟨(some 150), none, .inl (.faddr 0 (.t 149))⟩, [], false⟩,
                          ⟨4, ⟨(some 151), none, .inl (.load false 1 (.t 150))⟩, [], false⟩,
                          ⟨5, ⟨(some 152), none, .inl (.mv (.t 2))⟩, [], false⟩,
                          ⟨6, ⟨(some 153), none, .inl (.mv (.t 24))⟩, [], false⟩,
                          ⟨7, ⟨(some 154), none, .inl (.iaddr 3 (.t 152) (.t 153))⟩, [], false⟩,
                          ⟨8, ⟨(some 155), none, .inl (.faddr 1 (.t 154))⟩, [], false⟩,
                          ⟨9, ⟨(some 156), none, .inl (.load false 1 (.t 155))⟩, [], false⟩,
                          ⟨10, ⟨(some 157), none, .inl (.bin .add (.t 151) (.t 156))⟩, [], false⟩,
                          ⟨11, ⟨(some 22), none, .inl (.mv (.t 157))⟩, [], false⟩])
                       (.keep [1, 2, 13, 20, 22, 23, 24]))
                      (.skip)))))))
                 (.seq (.reg [⟨(some 103), none, .inl (.mv (.t 24))⟩,
                     ⟨(some 104), none, .inl (.bin .add (.t 103) (.c (.int .i64 1)))⟩,
                     ⟨(some 24), none, .inl (.mv (.t 104))⟩])
                  (.keep [1, 2, 13, 20, 22, 23, 24])))))))
               (.seq (.seq (.seq (.reg [⟨(some 28), none, .inl (.mv (.c (.int .i64 0)))⟩])
                (.keep [13, 20, 23, 28]))
                (.block 2 (.loop [13, 20, 23, 28] (.seq (.seq (.seq (.reg [⟨(some 158), none, .inl (.mv (.t 28))⟩,
                    ⟨(some 159), none, .inl (.bin .lss (.t 158) (.c (.int .i64 7)))⟩])
                 (.keep [13, 20, 23, 28, 159]))
                 (.cond (.t 159)
                   (.skip)
                   (.exit 2)))
                 (.seq (.block 3 (.seq (.seq (.ord [⟨0, ⟨(some 162), none, .inl (.mv (.t 20))⟩, [], false⟩,
                     ⟨1, ⟨(some 163), none, .inl (.mv (.t 28))⟩, [], false⟩,
                     ⟨2, ⟨(some 164), none, .inl (.iaddr 1 (.t 162) (.t 163))⟩, [], false⟩,
                     ⟨3, ⟨(some 165), none, .inl (.load false 1 (.t 164))⟩, [], false⟩,
                     ⟨4, ⟨(some 166), none, .inl (.mv (.t 28))⟩, [], false⟩,
                     ⟨5, ⟨(some 167), none, .inl (.iaddrA 7 1 (.t 23) (.t 166))⟩, [], false⟩,
                     ⟨6, ⟨(some 168), none, .inl (.load false 1 (.t 167))⟩, [], false⟩,
                     ⟨7, ⟨(some 169), none, .inl (.bin .neq (.t 165) (.t 168))⟩, [], false⟩])
                  (.keep [13, 20, 23, 28, 169]))
                  (.cond (.t 169)
                    (.seq (.seq (.reg [⟨(some 12), none, .inl (.mv (.c (.bool false)))⟩])
                     (.keep [12]))
                     (.ret))
                    (.skip))))
                  (.seq (.reg [⟨(some 160), none, .inl (.mv (.t 28))⟩,
                      ⟨(some 161), none, .inl (.bin .add (.t 160) (.c (.int .i64 1)))⟩,
                      ⟨(some 28), none, .inl (.mv (.t 161))⟩])
                   (.keep [13, 20, 23, 28])))))))
                (.seq (.seq (.reg [⟨(some 170), none, .inl (.mv (.t 13))⟩,
                    ⟨(some 12), none, .inl (.mv (.t 170))⟩])
                 (.keep [12]))
                 (.ret)))))))))))))))
def fc_joistlaw11_TagsLists : FC := ⟨171, cmd_joistlaw11_TagsLists, [.t 12]⟩
theorem fc_joistlaw11_TagsLists_ok : compF Try.prog 6 [[0, 1, 2, 3, 4, 5], [0, 1, 2, 3, 4, 5, 13], [0, 1, 2, 3, 4, 5, 13, 14], [0, 1, 2, 3, 4, 5, 13, 38], [12], [0, 1, 2, 3, 4, 5, 13, 15, 16], [0, 1, 2, 3, 4, 5, 13, 15, 16, 17, 18], [0, 1, 2, 3, 13, 77], [12], [0, 1, 2, 13, 20, 21], [0, 1, 2, 13, 20, 88], [12], [0, 1, 2, 13, 20, 97], [12], [1, 2, 13, 20, 22], [1, 2, 13, 20, 22, 23], [1, 2, 13, 20, 22, 23, 24], [1, 2, 13, 20, 22, 23, 24], [1, 2, 13, 20, 22, 23, 24, 102], [1, 2, 13, 20, 22, 23, 24, 25], [1, 2, 13, 20, 22, 23, 24, 25, 109], [1, 2, 13, 20, 22, 23, 24, 25], [1, 2, 13, 20, 22, 23, 24, 25, 117], [1, 2, 13, 20, 22, 23, 24, 26, 27], [1, 2, 13, 20, 22, 23, 24, 26, 134], [12], [1, 2, 13, 20, 22, 23, 24, 26, 138], [1, 2, 13, 20, 22, 23, 24], [1, 2, 13, 20, 22, 23, 24, 146], [1, 2, 13, 20, 22, 23, 24], [0, 1, 2, 3, 4, 5, 6, 7, 8, 9, 10, 11], [1, 2, 13, 20, 22, 23, 24], [13, 20, 23, 28], [13, 20, 23, 28], [13, 20, 23, 28, 159], [13, 20, 23, 28, 169], [0, 1, 2, 3, 4, 5, 6, 7], [12], [13, 20, 23, 28], [12]] = some fc_joistlaw11_TagsLists := by kernel_rfl
/-- joist/joistlaw11.TagsBack -/
abbrev F.joistlaw11_TagsBack : Nat := 7
def cmd_joistlaw11_TagsBack : Cmd :=
  .seq (.seq (.reg [⟨(some 12), none, .inl (.mv (.c (.bool false)))⟩])
   (.keep [0, 1, 2, 3, 4, 5]))
   (.seq (.seq (.reg [⟨(some 29), none, .inr (.call 8 [])⟩,
       ⟨(some 13), none, .inl (.mv (.t 29))⟩])
    (.keep [0, 1, 2, 3, 4, 5, 13]))
    (.seq (.seq (.reg [⟨(some 30), none, .inl (.mv (.t 3))⟩,
        ⟨(some 31), none, .inr (.call 9 [(.t 30)])⟩,
        ⟨(some 14), none, .inl (.mv (.t 31))⟩])
     (.keep [0, 1, 2, 3, 4, 5, 13, 14]))
     (.seq (.seq (.seq (.reg [⟨(some 32), none, .inl (.mv (.t 14))⟩,
         ⟨(some 33), none, .inl (.un .not (.t 32))⟩,
         ⟨(some 34), none, .inl (.mv (.t 33))⟩,
         ⟨(some 35), (some (34, false)), .inl (.mv (.t 2))⟩,
         ⟨(some 36), (some (34, false)), .inl (.len (.t 35))⟩,
         ⟨(some 37), (some (34, false)), .inl (.bin .gtr (.t 36) (.c (.int .i64 60)))⟩,
         ⟨(some 38), none, .inl (.pick (.t 34) (.c (.bool true)) (.t 37))⟩,
         ⟨(some 39), none, .inl (.mv (.t 38))⟩,
         ⟨(some 40), (some (39, false)), .inl (.mv (.t 4))⟩,
         ⟨(some 41), (some (39, false)), .inl (.len (.t 40))⟩,
         ⟨(some 42), (some (39, false)), .inl (.bin .gtr (.t 41) (.c (.int .i64 32768)))⟩,
         ⟨(some 43), none, .inl (.pick (.t 39) (.c (.bool true)) (.t 42))⟩])
      (.keep [0, 1, 2, 3, 4, 5, 13, 43]))
      (.cond (.t 43)
        (.seq (.seq (.reg [⟨(some 44), none, .inl (.mv (.t 13))⟩,
            ⟨(some 12), none, .inl (.mv (.t 44))⟩])
         (.keep [12]))
         (.ret))
        (.skip)))
      (.seq (.seq (.reg [⟨(some 46), none, .inl (.mv (.t 0))⟩,
          ⟨(some 47), none, .inl (.mv (.t 1))⟩,
          ⟨(some 48), none, .inl (.mv (.t 2))⟩,
          ⟨(some 49), none, .inl (.mv (.t 3))⟩,
          ⟨(some 50), none, .inr (.call 11 [(.t 46), (.t 47), (.t 48), (.t 49)])⟩,
          ⟨(some 45), none, .inl (.mv (.t 50))⟩,
          ⟨(some 51), none, .inl (.ext 0 (.t 45))⟩,
          ⟨(some 52), none, .inl (.ext 1 (.t 45))⟩,
          ⟨(some 53), none, .inl (.ext 2 (.t 45))⟩,
          ⟨(some 15), none, .inl (.mv (.t 51))⟩,
          ⟨(some 16), none, .inl (.mv (.t 52))⟩,
          ⟨(some 17), none, .inl (.mv (.t 53))⟩])
       (.keep [0, 1, 2, 3, 4, 5, 13, 15, 16, 17]))
       (.seq (.seq (.seq (.reg [⟨(some 54), none, .inl (.mv (.t 17))⟩,
           ⟨(some 55), none, .inl (.bin .eql (.t 54) (.c (.int .i64 0)))⟩])
        (.keep [0, 1, 2, 3, 4, 5, 13, 15, 16, 55]))
        (.cond (.t 55)
          (.seq (.seq (.reg [⟨(some 57), none, .inl (.mv (.t 0))⟩,
              ⟨(some 58), none, .inl (.mv (.t 1))⟩,
              ⟨(some 59), none, .inl (.mv (.t 15))⟩,
              ⟨(some 60), none, .inl (.mv (.t 16))⟩,
              ⟨(some 61), none, .inr (.call 18 [(.t 57), (.t 58), (.t 59), (.t 60)])⟩,
              ⟨(some 56), none, .inl (.mv (.t 61))⟩,
              ⟨(some 62), none, .inl (.ext 0 (.t 56))⟩,
              ⟨(some 63), none, .inl (.ext 1 (.t 56))⟩,
              ⟨(some 64), none, .inl (.ext 2 (.t 56))⟩,
              ⟨(some 18), none, .inl (.mv (.t 62))⟩,
              ⟨(some 19), none, .inl (.mv (.t 63))⟩,
              ⟨(some 20), none, .inl (.mv (.t 64))⟩])
           (.keep [0, 1, 2, 3, 4, 5, 13, 18, 19, 20]))
           (.seq (.seq (.seq (.reg [⟨(some 65), none, .inl (.mv (.t 20))⟩,
               ⟨(some 66), none, .inl (.un .not (.t 65))⟩,
               ⟨(some 67), none, .inl (.mv (.t 66))⟩,
               ⟨(some 68), (some (67, false)), .inl (.mv (.t 18))⟩,
               ⟨(some 69), (some (67, false)), .inl (.mv (.t 2))⟩,
               ⟨(some 70), (some (67, false)), .inr (.call 20 [(.t 68), (.t 69)])⟩,
               ⟨(some 71), (some (67, false)), .inl (.un .not (.t 70))⟩,
               ⟨(some 72), none, .inl (.pick (.t 67) (.c (.bool true)) (.t 71))⟩,
               ⟨(some 73), none, .inl (.mv (.t 72))⟩,
               ⟨(some 74), (some (73, false)), .inl (.mv (.t 19))⟩,
               ⟨(some 75), (some (73, false)), .inl (.len (.t 74))⟩,
               ⟨(some 76), (some (73, false)), .inl (.mv (.t 3))⟩,
               ⟨(some 77), (some (73, false)), .inl (.len (.t 76))⟩,
               ⟨(some 78), (some (73, false)), .inl (.bin .neq (.t 75) (.t 77))⟩,
               ⟨(some 79), none, .inl (.pick (.t 73) (.c (.bool true)) (.t 78))⟩])
            (.keep [0, 1, 2, 3, 4, 5, 13, 19, 79]))
            (.cond (.t 79)
              (.seq (.seq (.reg [⟨(some 12), none, .inl (.mv (.c (.bool false)))⟩])
               (.keep [12]))
               (.ret))
              (.skip)))
            (.seq (.seq (.reg [⟨(some 21), none, .inl (.mv (.c (.int .i64 0)))⟩])
             (.keep [0, 1, 2, 3, 4, 5, 13, 19, 21]))
             (.block 0 (.loop [0, 1, 2, 3, 4, 5, 13, 19, 21] (.seq (.seq (.seq (.reg [⟨(some 80), none, .inl (.mv (.t 21))⟩,
                 ⟨(some 81), none, .inl (.mv (.t 19))⟩,
                 ⟨(some 82), none, .inl (.len (.t 81))⟩,
                 ⟨(some 83), none, .inl (.bin .lss (.t 80) (.t 82))⟩])
              (.keep [0, 1, 2, 3, 4, 5, 13, 19, 21, 83]))
              (.cond (.t 83)
                (.skip)
                (.exit 0)))
              (.seq (.block 1 (.seq (.seq (.reg [⟨(some 86), none, .inl (.mv (.t 3))⟩,
                  ⟨(some 87), none, .inl (.mv (.t 21))⟩,
                  ⟨(some 88), none, .inl (.iaddr 1 (.t 86) (.t 87))⟩,
                  ⟨(some 89), none, .inl (.load false 1 (.t 88))⟩,
                  ⟨(some 90), none, .inl (.len (.t 89))⟩,
                  ⟨(some 22), none, .inl (.mv (.t 90))⟩])
               (.keep [0, 1, 2, 3, 4, 5, 13, 19, 21, 22]))
               (.seq (.seq (.ord [⟨0, ⟨(some 91), none, .inl (.mv (.t 19))⟩, [], false⟩,
                   ⟨1, ⟨(some 92), none, .inl (.mv (.t 21))⟩, [], false⟩,
                   ⟨2, ⟨(some 93), none, .inl (.iaddr 1 (.t 91) (.t 92))⟩, [], false⟩,
                   ⟨3, ⟨(some 94), none, .inl (.load false 1 (.t 93))⟩, [], false⟩,
                   ⟨4, ⟨(some 95), none, .inl (.len (.t 94))⟩, [], false⟩,
                   ⟨5, ⟨(some 96), none, .inl (.mv (.t 2))⟩, [], false⟩,
                   ⟨6, ⟨(some 97), none, .inl (.mv (.t 21))⟩, [], false⟩,
                   ⟨7, ⟨(some 98), none, .inl (.iaddr 3 (.t 96) (.t 97))⟩, [], false⟩,
                   ⟨8, ⟨(some 99), none, .inl (.faddr 1 (.t 98))⟩, [], false⟩,
                   ⟨9, ⟨(some 100), none, .inl (.load false 1 (.t 99))⟩, [], false⟩,
                   ⟨10, ⟨(some 101), none, .inl (.bin .sub (.t 100) (.c (.int .i64 2)))⟩, [], false⟩,
                   ⟨11, ⟨(some 102), none, .inl (.bin .mul (.c (.int .i64 8)) (.t 101))⟩, [], false⟩,
                   ⟨12, ⟨(some 103), none, .inl (.bin .neq (.t 95) (.t 102))⟩, [], false⟩,
                   ⟨13, ⟨(some 104), none, .inl (.mv (.t 103))⟩, [], false⟩,
                   ⟨14, ⟨(some 105), (some (104, false)), .inl (.mv (.t 22))⟩, [], false⟩,
                   ⟨15, ⟨(some 106), (some (104, false)), .inl (.mv (.t 19))⟩, [], false⟩,
                   ⟨16, ⟨(some 107), (some (104, false)), .inl (.mv (.t 21))⟩, [], false⟩,
                   ⟨17, ⟨(some 108), (some (104, false)), .inl (.iaddr 1 (.t 106) (.t 107))⟩, [], false⟩,
                   ⟨18, ⟨(some 109), (some (104, false)), .inl (.load false 1 (.t 108))⟩, [], false⟩,
                   ⟨19, ⟨(some 110), (some (104, false)), .inl (.len (.t 109))⟩, [], false⟩,
                   ⟨20, ⟨(some 111), (some (104, false)), .inl (.bin .gtr (.t 105) (.t 110))⟩, [], false⟩,
                   ⟨21, ⟨(some 112), none, .inl (.pick (.t 104) (.c (.bool true)) (.t 111))⟩, [], false⟩,
                   ⟨22, ⟨(some 113), none, .inl (.mv (.t 112))⟩, [], false⟩,
                   ⟨23, ⟨(some 114), (some (113, false)), .inl (.mv (.t 19))⟩, [], false⟩,
                   ⟨24, ⟨(some 115), (some (113, false)), .inl (.mv (.t 21))⟩, [], false⟩,
                   ⟨25, ⟨(some 116), (some (113, false)), .inl (.iaddr 1 (.t 114) (.t 115))⟩, [], false⟩,
                   ⟨26, ⟨(some 117), (some (113, false)), .inl (.load false 1 (.t 116))⟩, [], false⟩,
                   ⟨27, ⟨(some 118), (some (113, false)), .inl (.mv (.t 22))⟩, [], false⟩,
                   ⟨28, ⟨(some 119), (some (113, false)), .inl (.slice 1 (.t 117) none (some (.t 118)) none)⟩, [], false⟩,
                   ⟨29, ⟨(some 120), (some (113, false)), .inl (.b2s (.t 119))⟩, [], false⟩,
                   ⟨30, ⟨(some 121), (some (113, false)), .inl (.mv (.t 3))⟩, [], false⟩,
                   ⟨31, ⟨(some 122), (some (113, false)), .inl (.mv (.t 21))⟩, [], false⟩,
                   ⟨32, ⟨(some 123), (some (113, false)), .inl (.iaddr 1 (.t 121) (.t 122))⟩, [], false⟩,
                   ⟨33, ⟨(some 124), (some (113, false)), .inl (.load false 1 (.t 123))⟩, [], false⟩,
                   ⟨34, ⟨(some 125), (some (113, false)), .inl (.b2s (.t 124))⟩, [], false⟩,
                   ⟨35, ⟨(some 126), (some (113, false)), .inl (.bins .neq (.t 120) (.t 125))⟩, [], false⟩,
                   ⟨36, ⟨(some 127), none, .inl (.pick (.t 113) (.c (.bool true)) (.t 126))⟩, [], false⟩,
                   ⟨37, ⟨(some 128), none, .inl (.mv (.t 127))⟩, [], false⟩,
                   ⟨38, ⟨(some 129), (some (128, false)), .inl (.mv (.t 19))⟩, [], false⟩,
                   ⟨39, ⟨(some 130), (some (128, false)), .inl (.mv (.t 21))⟩, [], false⟩,
                   ⟨40, ⟨(some 131), (some (128, false)), .inl (.iaddr 1 (.t 129) (.t 130))⟩, [], false⟩,
                   ⟨41, ⟨(some 132), (some (128, false)), .inl (.load false 1 (.t 131))⟩, [], false⟩,
                   ⟨42, ⟨(some 133), (some (128, false)), .inl (.mv (.t 22))⟩, [], false⟩,
                   ⟨43, ⟨(some 134), (some (128, false)), .inl (.slice 1 (.t 132) (some (.t 133)) none none)⟩, [], false⟩,
                   ⟨44, ⟨(some 135), (some (128, false)), .inr (.call 23 [(.t 134)])⟩, [], false⟩,
                   ⟨45, ⟨(some 136), (some (128, false)), .inl (.un .not (.t 135))⟩, [], false⟩,
                   ⟨46, ⟨(some 137), none, .inl (.pick (.t 128) (.c (.bool true)) (.t 136))⟩, [], false⟩])
                (.keep [0, 1, 2, 3, 4, 5, 13, 19, 21, 137]))
                (.cond (.t 137)
                  (.seq (.seq (.reg [⟨(some 12), none, .inl (.mv (.c (.bool false)))⟩])
                   (.keep [12]))
                   (.ret))
                  (.skip)))))
               (.seq (.reg [⟨(some 84), none, .inl (.mv (.t 21))⟩,
                   ⟨(some 85), none, .inl (.bin .add (.t 84) (.c (.int .i64 1)))⟩,
                   ⟨(some 21), none, .inl (.mv (.t 85))⟩])
                (.keep [0, 1, 2, 3, 4, 5, 13, 19, 21])))))))))
          (.skip)))
        (.seq (.seq (.reg [⟨(some 139), none, .inl (.mv (.t 0))⟩,
            ⟨(some 140), none, .inl (.mv (.t 1))⟩,
            ⟨(some 141), none, .inl (.mv (.t 4))⟩,
            ⟨(some 142), none, .inl (.mv (.t 5))⟩,
            ⟨(some 143), none, .inr (.call 18 [(.t 139), (.t 140), (.t 141), (.t 142)])⟩,
            ⟨(some 138), none, .inl (.mv (.t 143))⟩,
            ⟨(some 144), none, .inl (.ext 0 (.t 138))⟩,
            ⟨(some 145), none, .inl (.ext 1 (.t 138))⟩,
            ⟨(some 146), none, .inl (.ext 2 (.t 138))⟩,
            ⟨(some 23), none, .inl (.mv (.t 144))⟩,
            ⟨(some 24), none, .inl (.mv (.t 145))⟩,
            ⟨(some 25), none, .inl (.mv (.t 146))⟩])
         (.keep [0, 1, 4, 5, 13, 23, 24, 25]))
         (.seq (.seq (.seq (.reg [⟨(some 147), none, .inl (.mv (.t 25))⟩,
             ⟨(some 148), none, .inl (.un .not (.t 147))⟩])
          (.keep [0, 1, 4, 5, 13, 23, 24, 148]))
          (.cond (.t 148)
            (.seq (.seq (.reg [⟨(some 149), none, .inl (.mv (.t 13))⟩,
                ⟨(some 150), none, .inl (.mv (.t 149))⟩,
                ⟨(some 151), (some (150, true)), .inl (.mv (.t 23))⟩,
                ⟨(some 152), (some (150, true)), .inl (.len (.t 151))⟩,
                ⟨(some 153), (some (150, true)), .inl (.bin .eql (.t 152) (.c (.int .i64 0)))⟩,
                ⟨(some 154), none, .inl (.pick (.t 150) (.t 153) (.c (.bool false)))⟩,
                ⟨(some 155), none, .inl (.mv (.t 154))⟩,
                ⟨(some 156), (some (155, true)), .inl (.mv (.t 24))⟩,
                ⟨(some 157), (some (155, true)), .inl (.len (.t 156))⟩,
                ⟨(some 158), (some (155, true)), .inl (.bin .eql (.t 157) (.c (.int .i64 0)))⟩,
                ⟨(some 159), none, .inl (.pick (.t 155) (.t 158) (.c (.bool false)))⟩,
                ⟨(some 12), none, .inl (.mv (.t 159))⟩])
             (.keep [12]))
             (.ret))
            (.skip)))
          (.seq (.seq (.reg [⟨(some 161), none, .inl (.mv (.t 0))⟩,
              ⟨(some 162), none, .inl (.mv (.t 1))⟩,
              ⟨(some 163), none, .inl (.mv (.t 23))⟩,
              ⟨(some 164), none, .inl (.mv (.t 24))⟩,
              ⟨(some 165), none, .inr (.call 11 [(.t 161), (.t 162), (.t 163), (.t 164)])⟩,
              ⟨(some 160), none, .inl (.mv (.t 165))⟩,
              ⟨(some 166), none, .inl (.ext 0 (.t 160))⟩,
              ⟨(some 167), none, .inl (.ext 1 (.t 160))⟩,
              ⟨(some 168), none, .inl (.ext 2 (.t 160))⟩,
              ⟨(some 26), none, .inl (.mv (.t 166))⟩,
              ⟨(some 27), none, .inl (.mv (.t 167))⟩,
              ⟨(some 28), none, .inl (.mv (.t 168))⟩])
           (.keep [4, 5, 13, 26, 27, 28]))
           (.seq (.seq (.reg [⟨(some 169), none, .inl (.mv (.t 13))⟩,
               ⟨(some 170), none, .inl (.mv (.t 169))⟩,
               ⟨(some 171), (some (170, true)), .inl (.mv (.t 28))⟩,
               ⟨(some 172), (some (170, true)), .inl (.bin .eql (.t 171) (.c (.int .i64 0)))⟩,
               ⟨(some 173), none, .inl (.pick (.t 170) (.t 172) (.c (.bool false)))⟩,
               ⟨(some 174), none, .inl (.mv (.t 173))⟩,
               ⟨(some 175), (some (174, true)), .inl (.mv (.t 26))⟩,
               ⟨(some 176), (some (174, true)), .inl (.b2s (.t 175))⟩,
               ⟨(some 177), (some (174, true)), .inl (.mv (.t 4))⟩,
               ⟨(some 178), (some (174, true)), .inl (.b2s (.t 177))⟩,
               ⟨(some 179), (some (174, true)), .inl (.bins .eql (.t 176) (.t 178))⟩,
               ⟨(some 180), none, .inl (.pick (.t 174) (.t 179) (.c (.bool false)))⟩,
               ⟨(some 181), none, .inl (.mv (.t 180))⟩,
               ⟨(some 182), (some (181, true)), .inl (.mv (.t 27))⟩,
               ⟨(some 183), (some (181, true)), .inl (.mv (.t 5))⟩,
               ⟨(some 184), (some (181, true)), .inr (.call 14 [(.t 182), (.t 183)])⟩,
               ⟨(some 185), none, .inl (.pick (.t 181) (.t 184) (.c (.bool false)))⟩,
               ⟨(some 12), none, .inl (.mv (.t 185))⟩])
            (.keep [12]))
            (.ret))))))))))
def fc_joistlaw11_TagsBack : FC := ⟨186, cmd_joistlaw11_TagsBack, [.t 12]⟩
theorem fc_joistlaw11_TagsBack_ok : compF Try.prog 7 [[0, 1, 2, 3, 4, 5], [0, 1, 2, 3, 4, 5, 13], [0, 1, 2, 3, 4, 5, 13, 14], [0, 1, 2, 3, 4, 5, 13, 43], [12], [0, 1, 2, 3, 4, 5, 13, 15, 16, 17], [0, 1, 2, 3, 4, 5, 13, 15, 16, 55], [0, 1, 2, 3, 4, 5, 13, 18, 19, 20], [0, 1, 2, 3, 4, 5, 13, 19, 79], [12], [0, 1, 2, 3, 4, 5, 13, 19, 21], [0, 1, 2, 3, 4, 5, 13, 19, 21], [0, 1, 2, 3, 4, 5, 13, 19, 21, 83], [0, 1, 2, 3, 4, 5, 13, 19, 21, 22], [0, 1, 2, 3, 4, 5, 13, 19, 21, 137], [0, 1, 2, 3, 4, 5, 6, 7, 8, 9, 10, 11, 12, 13, 14, 15, 16, 17, 18, 19, 20, 21, 22, 23, 24, 25, 26, 27, 28, 29, 30, 31, 32, 33, 34, 35, 36, 37, 38, 39, 40, 41, 42, 43, 44, 45, 46], [12], [0, 1, 2, 3, 4, 5, 13, 19, 21], [0, 1, 4, 5, 13, 23, 24, 25], [0, 1, 4, 5, 13, 23, 24, 148], [12], [4, 5, 13, 26, 27, 28], [12]] = some fc_joistlaw11_TagsBack := by kernel_rfl
/-- joist/joistlaw11.small -/
abbrev F.joistlaw11_small : Nat := 8
def cmd_joistlaw11_small : Cmd :=
  .seq (.seq (.reg [⟨(some 0), none, .inl (.mv (.c (.bool false)))⟩])
   (.keep []))
   (.seq (.seq (.reg [⟨(some 12), none, .inl (.build [(.int .i64 0), (.int .i64 0), (.int .i64 0)] [(0, 1, (.c (.int .i64 4))), (1, 1, (.c (.int .i64 4)))])⟩,
       ⟨(some 13), none, .inr (.bslice 3 [(.int .i64 0), (.int .i64 0), (.int .i64 0)] 1 [(0, (.t 12))])⟩,
       ⟨(some 14), none, .inr (.bslice 1 [(.int .u8 0)] 1 [(0, (.c (.int .u8 7)))])⟩,
       ⟨(some 15), none, .inr (.bslice 1 [.nils] 1 [(0, (.t 14))])⟩,
       ⟨(some 16), none, .inr (.call 11 [(.c (.int .i64 0)), (.c (.int .i64 12)), (.t 13), (.t 15)])⟩,
       ⟨(some 11), none, .inl (.mv (.t 16))⟩,
       ⟨(some 17), none, .inl (.ext 0 (.t 11))⟩,
       ⟨(some 18), none, .inl (.ext 1 (.t 11))⟩,
       ⟨(some 19), none, .inl (.ext 2 (.t 11))⟩,
       ⟨(some 1), none, .inl (.mv (.t 17))⟩,
       ⟨(some 2), none, .inl (.mv (.t 18))⟩,
       ⟨(some 3), none, .inl (.mv (.t 19))⟩])
    (.keep [1, 2, 3]))
    (.seq (.seq (.reg [⟨(some 21), none, .inr (.bslice 1 [(.int .i64 0)] 12 [(0, (.c (.int .i64 256))), (1, (.c (.int .i64 9))), (2, (.c (.int .i64 0))), (3, (.c (.int .i64 256))), (4, (.c (.int .i64 257))), (5, (.c (.int .i64 7))), (6, (.c (.int .i64 0))), (7, (.c (.int .i64 257))), (8, (.c (.int .i64 256))), (9, (.c (.int .i64 0))), (10, (.c (.int .i64 1))), (11, (.c (.int .i64 256)))])⟩,
        ⟨(some 22), none, .inr (.call 24 [(.t 21)])⟩,
        ⟨(some 20), none, .inl (.mv (.t 22))⟩,
        ⟨(some 23), none, .inl (.ext 0 (.t 20))⟩,
        ⟨(some 24), none, .inl (.ext 1 (.t 20))⟩,
        ⟨(some 4), none, .inl (.mv (.t 23))⟩,
        ⟨(some 5), none, .inl (.mv (.t 24))⟩])
     (.keep [1, 2, 3, 4]))
     (.seq (.seq (.reg [⟨(some 26), none, .inl (.mv (.t 1))⟩,
         ⟨(some 27), none, .inl (.mv (.t 2))⟩,
         ⟨(some 28), none, .inr (.call 18 [(.c (.int .i64 0)), (.c (.int .i64 12)), (.t 26), (.t 27)])⟩,
         ⟨(some 25), none, .inl (.mv (.t 28))⟩,
         ⟨(some 29), none, .inl (.ext 0 (.t 25))⟩,
         ⟨(some 30), none, .inl (.ext 1 (.t 25))⟩,
         ⟨(some 31), none, .inl (.ext 2 (.t 25))⟩,
         ⟨(some 6), none, .inl (.mv (.t 29))⟩,
         ⟨(some 7), none, .inl (.mv (.t 30))⟩,
         ⟨(some 8), none, .inl (.mv (.t 31))⟩])
      (.keep [1, 2, 3, 4, 6, 7, 8]))
      (.seq (.seq (.reg [⟨(some 33), none, .inr (.call 16 [(.c (.int .i64 129))])⟩,
          ⟨(some 32), none, .inl (.mv (.t 33))⟩,
          ⟨(some 34), none, .inl (.ext 0 (.t 32))⟩,
          ⟨(some 35), none, .inl (.ext 1 (.t 32))⟩,
          ⟨(some 9), none, .inl (.mv (.t 34))⟩,
          ⟨(some 10), none, .inl (.mv (.t 35))⟩])
       (.keep [1, 2, 3, 4, 6, 7, 8, 9, 10]))
       (.seq (.seq (.reg [⟨(some 36), none, .inl (.mv (.t 3))⟩,
           ⟨(some 37), none, .inl (.bin .eql (.t 36) (.c (.int .i64 0)))⟩,
           ⟨(some 38), none, .inl (.mv (.t 37))⟩,
           ⟨(some 39), (some (38, true)), .inl (.mv (.t 1))⟩,
           ⟨(some 40), (some (38, true)), .inl (.len (.t 39))⟩,
           ⟨(some 41), (some (38, true)), .inl (.bin .eql (.t 40) (.c (.int .i64 96)))⟩,
           ⟨(some 42), none, .inl (.pick (.t 38) (.t 41) (.c (.bool false)))⟩,
           ⟨(some 43), none, .inl (.mv (.t 42))⟩,
           ⟨(some 44), (some (43, true)), .inl (.mv (.t 1))⟩,
           ⟨(some 45), (some (43, true)), .inl (.b2s (.t 44))⟩,
           ⟨(some 46), (some (43, true)), .inl (.mv (.t 4))⟩,
           ⟨(some 47), (some (43, true)), .inl (.b2s (.t 46))⟩,
           ⟨(some 48), (some (43, true)), .inl (.bins .eql (.t 45) (.t 47))⟩,
           ⟨(some 49), none, .inl (.pick (.t 43) (.t 48) (.c (.bool false)))⟩,
           ⟨(some 50), none, .inl (.mv (.t 49))⟩,
           ⟨(some 51), (some (50, true)), .inl (.mv (.t 2))⟩,
           ⟨(some 52), (some (50, true)), .inl (.len (.t 51))⟩,
           ⟨(some 53), (some (50, true)), .inl (.bin .eql (.t 52) (.c (.int .i64 7)))⟩,
           ⟨(some 54), none, .inl (.pick (.t 50) (.t 53) (.c (.bool false)))⟩,
           ⟨(some 55), none, .inl (.mv (.t 54))⟩,
           ⟨(some 56), (some (55, true)), .inl (.mv (.t 2))⟩,
           ⟨(some 57), (some (55, true)), .inl (.iaddr 1 (.t 56) (.c (.int .i64 0)))⟩,
           ⟨(some 58), (some (55, true)), .inl (.load false 1 (.t 57))⟩,
           ⟨(some 59), (some (55, true)), .inl (.bin .eql (.t 58) (.c (.int .i64 1)))⟩,
           ⟨(some 60), none, .inl (.pick (.t 55) (.t 59) (.c (.bool false)))⟩,
           ⟨(some 61), none, .inl (.mv (.t 60))⟩,
           ⟨(some 62), (some (61, true)), .inl (.mv (.t 8))⟩,
           ⟨(some 63), none, .inl (.pick (.t 61) (.t 62) (.c (.bool false)))⟩,
           ⟨(some 64), none, .inl (.mv (.t 63))⟩,
           ⟨(some 65), (some (64, true)), .inl (.mv (.t 6))⟩,
           ⟨(some 66), (some (64, true)), .inl (.len (.t 65))⟩,
           ⟨(some 67), (some (64, true)), .inl (.bin .eql (.t 66) (.c (.int .i64 1)))⟩,
           ⟨(some 68), none, .inl (.pick (.t 64) (.t 67) (.c (.bool false)))⟩,
           ⟨(some 69), none, .inl (.mv (.t 68))⟩,
           ⟨(some 70), (some (69, true)), .inl (.mv (.t 6))⟩,
           ⟨(some 71), (some (69, true)), .inl (.iaddr 3 (.t 70) (.c (.int .i64 0)))⟩,
           ⟨(some 72), (some (69, true)), .inl (.faddr 1 (.t 71))⟩,
           ⟨(some 73), (some (69, true)), .inl (.load false 1 (.t 72))⟩,
           ⟨(some 74), (some (69, true)), .inl (.bin .eql (.t 73) (.c (.int .i64 4)))⟩,
           ⟨(some 75), none, .inl (.pick (.t 69) (.t 74) (.c (.bool false)))⟩,
           ⟨(some 76), none, .inl (.mv (.t 75))⟩,
           ⟨(some 77), (some (76, true)), .inl (.mv (.t 7))⟩,
           ⟨(some 78), (some (76, true)), .inl (.len (.t 77))⟩,
           ⟨(some 79), (some (76, true)), .inl (.bin .eql (.t 78) (.c (.int .i64 1)))⟩,
           ⟨(some 80), none, .inl (.pick (.t 76) (.t 79) (.c (.bool false)))⟩,
           ⟨(some 81), none, .inl (.mv (.t 80))⟩,
           ⟨(some 82), (some (81, true)), .inl (.mv (.t 7))⟩,
           ⟨(some 83), (some (81, true)), .inl (.iaddr 1 (.t 82) (.c (.int .i64 0)))⟩,
           ⟨(some 84), (some (81, true)), .inl (.load false 1 (.t 83))⟩,
           ⟨(some 85), (some (81, true)), .inl (.len (.t 84))⟩,
           ⟨(some 86), (some (81, true)), .inl (.bin .eql (.t 85) (.c (.int .i64 16)))⟩,
           ⟨(some 87), none, .inl (.pick (.t 81) (.t 86) (.c (.bool false)))⟩,
           ⟨(some 88), none, .inl (.mv (.t 87))⟩,
           ⟨(some 89), (some (88, true)), .inl (.mv (.t 9))⟩,
           ⟨(some 90), (some (88, true)), .inl (.bin .eql (.t 89) (.c (.int .i64 6)))⟩,
           ⟨(some 91), none, .inl (.pick (.t 88) (.t 90) (.c (.bool false)))⟩,
           ⟨(some 92), none, .inl (.mv (.t 91))⟩,
           ⟨(some 93), (some (92, true)), .inl (.mv (.t 10))⟩,
           ⟨(some 94), none, .inl (.pick (.t 92) (.t 93) (.c (.bool false)))⟩,
           ⟨(some 0), none, .inl (.mv (.t 94))⟩])
        (.keep [0]))
        (.ret))))))
def fc_joistlaw11_small : FC := ⟨95, cmd_joistlaw11_small, [.t 0]⟩
theorem fc_joistlaw11_small_ok : compF Try.prog 8 [[], [1, 2, 3], [1, 2, 3, 4], [1, 2, 3, 4, 6, 7, 8], [1, 2, 3, 4, 6, 7, 8, 9, 10], [0]] = some fc_joistlaw11_small := by kernel_rfl
/-- joist/joistlaw11.few -/
abbrev F.joistlaw11_few : Nat := 9
def cmd_joistlaw11_few : Cmd :=
  .seq (.seq (.reg [⟨(some 2), none, .inl (.mv (.c (.bool false)))⟩])
   (.keep [0]))
   (.seq (.seq (.seq (.reg [⟨(some 3), none, .inl (.mv (.c (.int .i64 0)))⟩])
    (.keep [0, 3]))
    (.block 0 (.loop [0, 3] (.seq (.seq (.seq (.reg [⟨(some 4), none, .inl (.mv (.t 3))⟩,
        ⟨(some 5), none, .inl (.mv (.t 0))⟩,
        ⟨(some 6), none, .inl (.len (.t 5))⟩,
        ⟨(some 7), none, .inl (.bin .lss (.t 4) (.t 6))⟩])
     (.keep [0, 3, 7]))
     (.cond (.t 7)
       (.skip)
       (.exit 0)))
     (.seq (.block 1 (.seq (.seq (.reg [⟨(some 10), none, .inl (.mv (.t 0))⟩,
         ⟨(some 11), none, .inl (.mv (.t 3))⟩,
         ⟨(some 12), none, .inl (.iaddr 1 (.t 10) (.t 11))⟩,
         ⟨(some 13), none, .inl (.load false 1 (.t 12))⟩,
         ⟨(some 14), none, .inl (.len (.t 13))⟩,
         ⟨(some 15), none, .inl (.bin .gtr (.t 14) (.c (.int .i64 4096)))⟩])
      (.keep [0, 3, 15]))
      (.cond (.t 15)
        (.seq (.seq (.reg [⟨(some 2), none, .inl (.mv (.c (.bool false)))⟩])
         (.keep [2]))
         (.ret))
        (.skip))))
      (.seq (.reg [⟨(some 8), none, .inl (.mv (.t 3))⟩,
          ⟨(some 9), none, .inl (.bin .add (.t 8) (.c (.int .i64 1)))⟩,
          ⟨(some 3), none, .inl (.mv (.t 9))⟩])
       (.keep [0, 3])))))))
    (.seq (.seq (.reg [⟨(some 16), none, .inl (.mv (.t 0))⟩,
        ⟨(some 17), none, .inl (.len (.t 16))⟩,
        ⟨(some 18), none, .inl (.bin .leq (.t 17) (.c (.int .i64 60)))⟩,
        ⟨(some 2), none, .inl (.mv (.t 18))⟩])
     (.keep [2]))
     (.ret)))
def fc_joistlaw11_few : FC := ⟨19, cmd_joistlaw11_few, [.t 2]⟩
theorem fc_joistlaw11_few_ok : compF Try.prog 9 [[0], [0, 3], [0, 3], [0, 3, 7], [0, 3, 15], [2], [0, 3], [2]] = some fc_joistlaw11_few := by kernel_rfl
/-- joist/joistlaw01.Lent -/
abbrev F.joistlaw01_Lent : Nat := 10
def cmd_joistlaw01_Lent : Cmd :=
  .seq (.seq (.reg [⟨(some 2), none, .inl (.mv (.c .nils))⟩])
   (.keep [0]))
   (.seq (.seq (.reg [⟨(some 4), none, .inl (.mv (.t 0))⟩,
       ⟨(some 5), none, .inl (.len (.t 4))⟩,
       ⟨(some 6), none, .inl (.mv (.t 0))⟩,
       ⟨(some 7), none, .inl (.len (.t 6))⟩,
       ⟨(some 8), none, .inl (.bin .add (.t 7) (.c (.int .i64 1)))⟩,
       ⟨(some 9), none, .inr (.mksl 1 1 [(.int .u8 0)] (.t 5) (.t 8))⟩,
       ⟨(some 3), none, .inl (.mv (.t 9))⟩])
    (.keep [0, 3]))
    (.seq (.seq (.reg [⟨(some 10), none, .inl (.mv (.t 3))⟩,
        ⟨(some 11), none, .inl (.mv (.t 0))⟩,
        ⟨(some 12), none, .inr (.copy 1 (.t 10) (.t 11))⟩])
     (.keep [0, 3]))
     (.seq (.seq (.reg [⟨(some 13), none, .inl (.mv (.t 3))⟩,
         ⟨(some 14), none, .inl (.mv (.t 0))⟩,
         ⟨(some 15), none, .inl (.len (.t 14))⟩,
         ⟨(some 16), none, .inl (.bin .add (.t 15) (.c (.int .i64 1)))⟩,
         ⟨(some 17), none, .inl (.slice 1 (.t 13) none (some (.t 16)) none)⟩,
         ⟨(some 18), none, .inl (.mv (.t 0))⟩,
         ⟨(some 19), none, .inl (.len (.t 18))⟩,
         ⟨(some 20), none, .inl (.iaddr 1 (.t 17) (.t 19))⟩,
         ⟨none, none, .inr (.store 1 (.t 20) (.c (.int .u8 77)))⟩])
      (.keep [3]))
      (.seq (.seq (.reg [⟨(some 21), none, .inl (.mv (.t 3))⟩,
          ⟨(some 2), none, .inl (.mv (.t 21))⟩])
       (.keep [2]))
       (.ret)))))
def fc_joistlaw01_Lent : FC := ⟨22, cmd_joistlaw01_Lent, [.t 2]⟩
theorem fc_joistlaw01_Lent_ok : compF Try.prog 10 [[0], [0, 3], [0, 3], [3], [2]] = some fc_joistlaw01_Lent := by kernel_rfl
/-- joist/tags.Write -/
abbrev F.tags_Write : Nat := 11
def cmd_tags_Write : Cmd :=
  .seq (.seq (.reg [⟨(some 8), none, .inl (.mv (.c .nils))⟩,
      ⟨(some 9), none, .inl (.mv (.c .nils))⟩,
      ⟨(some 10), none, .inl (.mv (.c (.int .i64 0)))⟩])
   (.keep [0, 1, 2, 3]))
   (.seq (.seq (.seq (.reg [⟨(some 22), none, .inl (.mv (.t 0))⟩,
       ⟨(some 23), none, .inl (.mv (.t 1))⟩,
       ⟨(some 24), none, .inl (.mv (.t 2))⟩,
       ⟨(some 25), none, .inl (.mv (.t 3))⟩,
       ⟨(some 26), none, .inr (.call 25 [(.t 22), (.t 23), (.t 24), (.t 25)])⟩,
       ⟨(some 27), none, .inl (.un .not (.t 26))⟩])
    (.keep [0, 1, 2, 3, 27]))
    (.cond (.t 27)
      (.seq (.seq (.reg [⟨(some 8), none, .inl (.mv (.c .nils))⟩,
          ⟨(some 9), none, .inl (.mv (.c .nils))⟩,
          ⟨(some 10), none, .inl (.mv (.c (.int .i64 1)))⟩])
       (.keep [8, 9, 10]))
       (.ret))
      (.skip)))
    (.seq (.seq (.reg [⟨(some 29), none, .inl (.mv (.t 0))⟩,
        ⟨(some 30), none, .inl (.mv (.t 1))⟩,
        ⟨(some 31), none, .inl (.mv (.t 2))⟩,
        ⟨(some 32), none, .inr (.call 27 [(.t 31)])⟩,
        ⟨(some 33), none, .inr (.call 26 [(.t 29), (.t 30), (.t 32)])⟩,
        ⟨(some 28), none, .inl (.mv (.t 33))⟩,
        ⟨(some 34), none, .inl (.ext 0 (.t 28))⟩,
        ⟨(some 35), none, .inl (.ext 1 (.t 28))⟩,
        ⟨(some 11), none, .inl (.mv (.t 34))⟩,
        ⟨(some 12), none, .inl (.mv (.t 35))⟩])
     (.keep [0, 1, 2, 3, 11]))
     (.seq (.seq (.reg [⟨(some 37), none, .inl (.mv (.t 11))⟩,
         ⟨(some 38), none, .inr (.call 28 [(.t 37)])⟩,
         ⟨(some 36), none, .inl (.mv (.t 38))⟩,
         ⟨(some 39), none, .inl (.ext 0 (.t 36))⟩,
         ⟨(some 40), none, .inl (.ext 1 (.t 36))⟩,
         ⟨(some 13), none, .inl (.mv (.t 39))⟩,
         ⟨(some 14), none, .inl (.mv (.t 40))⟩])
      (.keep [0, 1, 2, 3, 11, 13, 14]))
      (.seq (.seq (.reg [⟨(some 41), none, .inl (.mv (.t 1))⟩,
          ⟨(some 42), none, .inl (.mv (.t 0))⟩,
          ⟨(some 43), none, .inl (.bin .sub (.t 41) (.t 42))⟩,
          ⟨(some 44), none, .inl (.bin .mul (.t 43) (.c (.int .i64 8)))⟩,
          ⟨(some 45), none, .inr (.mksl 1 1 [(.int .u8 0)] (.t 44) (.t 44))⟩,
          ⟨(some 15), none, .inl (.mv (.t 45))⟩])
       (.keep [0, 2, 3, 11, 13, 14, 15]))
       (.seq (.seq (.seq (.reg [⟨(some 46), none, .inl (.mv (.t 2))⟩,
           ⟨(some 47), none, .inl (.len (.t 46))⟩,
           ⟨(some 48), none, .inl (.mv (.c (.int .i64 0)))⟩])
        (.keep [0, 3, 11, 13, 14, 15, 46, 47, 48]))
        (.block 0 (.loop [0, 3, 11, 13, 14, 15, 46, 47, 48] (.seq (.seq (.reg [⟨(some 49), none, .inl (.bin .lss (.t 48) (.t 47))⟩])
         (.keep [0, 3, 11, 13, 14, 15, 46, 47, 48, 49]))
         (.seq (.cond (.t 49)
           (.skip)
           (.exit 0))
          (.seq (.block 1 (.seq (.seq (.reg [⟨(some 50), none, .inl (.mv (.t 48))⟩,
              ⟨(some 51), none, .inl (.iaddr 3 (.t 46) (.t 48))⟩,
              ⟨(some 52), none, .inl (.load true 3 (.t 51))⟩,
              ⟨(some 17), none, .inr (.alloc [(.int .i64 0), (.int .i64 0), (.int .i64 0)])⟩,
              ⟨(some 16), none, .inl (.mv (.t 50))⟩,
              ⟨none, none, .inr (.store 3 (.t 17) (.t 52))⟩])
           (.keep [0, 3, 11, 13, 14, 15, 16, 17, 46, 47, 48]))
           (.seq (.ord [⟨0, ⟨(some 53), none, .inl (.mv (.t 15))⟩, [], true⟩,
               ⟨1, ⟨(some 54), none, .inl (.faddr 0 (.t 17))⟩, [], true⟩,
               ⟨2, ⟨(some 55), none, .inl (.load false 1 (.t 54))⟩, [], true⟩,
               ⟨3, ⟨(some 56), none, .inl (.mv (.t 0))⟩, [], true⟩,
               ⟨4, ⟨(some 57), none, .inl (.bin .sub (.t 55) (.t 56))⟩, [], true⟩,
               ⟨5, ⟨(some 58), none, .inl (.bin .mul (.t 57) (.c (.int .i64 8)))⟩, [], true⟩,
               ⟨6, ⟨(some 59), none, .inl (.slice 1 (.t 53) (some (.t 58)) none none)⟩, [], true⟩,
               ⟨7, ⟨(some 60), none, .inl (.faddr 1 (.t 17))⟩, [], false⟩,
               ⟨8, ⟨(some 61), none, .inl (.load false 1 (.t 60))⟩, [], false⟩,
               ⟨9, ⟨(some 62), none, .inl (.faddr 2 (.t 17))⟩, [], false⟩,
               ⟨10, ⟨(some 63), none, .inl (.load false 1 (.t 62))⟩, [], false⟩,
               ⟨11, ⟨(some 64), none, .inl (.bin .add (.t 63) (.c (.int .i64 1)))⟩, [], false⟩,
               ⟨12, ⟨(some 65), none, .inl (.mv (.t 3))⟩, [], false⟩,
               ⟨13, ⟨(some 66), none, .inl (.mv (.t 16))⟩, [], false⟩,
               ⟨14, ⟨(some 67), none, .inl (.iaddr 1 (.t 65) (.t 66))⟩, [], false⟩,
               ⟨15, ⟨(some 68), none, .inl (.load false 1 (.t 67))⟩, [], false⟩,
               ⟨16, ⟨(some 69), none, .inr (.call 29 [(.t 61), (.t 64), (.t 68)])⟩, [0, 1, 2, 3, 4, 5, 6], false⟩,
               ⟨17, ⟨(some 70), none, .inr (.copy 1 (.t 59) (.t 69))⟩, [], false⟩])
            (.keep [0, 3, 11, 13, 14, 15, 46, 47, 48]))))
           (.seq (.reg [⟨(some 71), none, .inl (.bin .add (.t 48) (.c (.int .i64 1)))⟩,
               ⟨(some 48), none, .inl (.mv (.t 71))⟩])
            (.keep [0, 3, 11, 13, 14, 15, 46, 47, 48]))))))))
        (.seq (.seq (.seq (.reg [⟨(some 72), none, .inl (.mv (.t 11))⟩,
            ⟨(some 73), none, .inl (.len (.t 72))⟩,
            ⟨(some 74), none, .inl (.mv (.c (.int .i64 0)))⟩])
         (.keep [0, 13, 14, 15, 72, 73, 74]))
         (.block 2 (.loop [0, 13, 14, 15, 72, 73, 74] (.seq (.seq (.reg [⟨(some 75), none, .inl (.bin .lss (.t 74) (.t 73))⟩])
          (.keep [0, 13, 14, 15, 72, 73, 74, 75]))
          (.seq (.cond (.t 75)
            (.skip)
            (.exit 2))
           (.seq (.block 3 (.seq (.seq (.reg [⟨(some 76), none, .inl (.mv (.t 74))⟩,
               ⟨(some 77), none, .inl (.iaddr 2 (.t 72) (.t 74))⟩,
               ⟨(some 78), none, .inl (.load true 2 (.t 77))⟩,
               ⟨(some 19), none, .inr (.alloc [(.int .i64 0), (.int .i64 0)])⟩,
               ⟨(some 18), none, .inl (.mv (.t 76))⟩,
               ⟨none, none, .inr (.store 2 (.t 19) (.t 78))⟩])
            (.keep [0, 13, 14, 15, 18, 19, 72, 73, 74]))
            (.seq (.seq (.ord [⟨0, ⟨(some 80), none, .inl (.mv (.t 13))⟩, [], false⟩,
                ⟨1, ⟨(some 81), none, .inl (.mv (.t 18))⟩, [], false⟩,
                ⟨2, ⟨(some 82), none, .inl (.iaddr 2 (.t 80) (.t 81))⟩, [], false⟩,
                ⟨3, ⟨(some 83), none, .inl (.faddr 0 (.t 82))⟩, [], false⟩,
                ⟨4, ⟨(some 84), none, .inl (.load false 1 (.t 83))⟩, [], false⟩,
                ⟨5, ⟨(some 85), none, .inl (.mv (.t 13))⟩, [], false⟩,
                ⟨6, ⟨(some 86), none, .inl (.mv (.t 18))⟩, [], false⟩,
                ⟨7, ⟨(some 87), none, .inl (.iaddr 2 (.t 85) (.t 86))⟩, [], false⟩,
                ⟨8, ⟨(some 88), none, .inl (.faddr 1 (.t 87))⟩, [], false⟩,
                ⟨9, ⟨(some 89), none, .inl (.load false 1 (.t 88))⟩, [], false⟩,
                ⟨10, ⟨(some 90), none, .inr (.bslice 1 [(.int .i64 0)] 2 [(0, (.t 84)), (1, (.t 89))])⟩, [], false⟩,
                ⟨11, ⟨(some 91), none, .inr (.call 24 [(.t 90)])⟩, [], false⟩,
                ⟨12, ⟨(some 79), none, .inl (.mv (.t 91))⟩, [], false⟩,
                ⟨13, ⟨(some 92), none, .inl (.ext 0 (.t 79))⟩, [], false⟩,
                ⟨14, ⟨(some 93), none, .inl (.ext 1 (.t 79))⟩, [], false⟩,
                ⟨15, ⟨(some 20), none, .inl (.mv (.t 92))⟩, [], false⟩,
                ⟨16, ⟨(some 21), none, .inl (.mv (.t 93))⟩, [], false⟩])
             (.keep [0, 13, 14, 15, 19, 20, 72, 73, 74]))
             (.seq (.ord [⟨0, ⟨(some 94), none, .inl (.mv (.t 15))⟩, [], true⟩,
                 ⟨1, ⟨(some 95), none, .inl (.faddr 0 (.t 19))⟩, [], true⟩,
                 ⟨2, ⟨(some 96), none, .inl (.load false 1 (.t 95))⟩, [], true⟩,
                 ⟨3, ⟨(some 97), none, .inl (.mv (.t 0))⟩, [], true⟩,
                 ⟨4, ⟨(some 98), none, .inl (.bin .sub (.t 96) (.t 97))⟩, [], true⟩,
                 ⟨5, ⟨(some 99), none, .inl (.bin .mul (.t 98) (.c (.int .i64 8)))⟩, [], true⟩,
                 ⟨6, ⟨(some 100), none, .inl (.slice 1 (.t 94) (some (.t 99)) none none)⟩, [], true⟩,
                 ⟨7, ⟨(some 101), none, .inl (.faddr 1 (.t 19))⟩, [], false⟩,
                 ⟨8, ⟨(some 102), none, .inl (.load false 1 (.t 101))⟩, [], false⟩,
                 ⟨9, ⟨(some 103), none, .inl (.mv (.t 20))⟩, [], false⟩,
                 ⟨10, ⟨(some 104), none, .inr (.call 29 [(.t 102), (.c (.int .i64 0)), (.t 103)])⟩, [0, 1, 2, 3, 4, 5, 6], false⟩,
                 ⟨11, ⟨(some 105), none, .inr (.copy 1 (.t 100) (.t 104))⟩, [], false⟩])
              (.keep [0, 13, 14, 15, 72, 73, 74])))))
            (.seq (.reg [⟨(some 106), none, .inl (.bin .add (.t 74) (.c (.int .i64 1)))⟩,
                ⟨(some 74), none, .inl (.mv (.t 106))⟩])
             (.keep [0, 13, 14, 15, 72, 73, 74]))))))))
         (.seq (.seq (.reg [⟨(some 107), none, .inl (.mv (.t 15))⟩,
             ⟨(some 108), none, .inl (.mv (.t 14))⟩,
             ⟨(some 8), none, .inl (.mv (.t 107))⟩,
             ⟨(some 9), none, .inl (.mv (.t 108))⟩,
             ⟨(some 10), none, .inl (.mv (.c (.int .i64 0)))⟩])
          (.keep [8, 9, 10]))
          (.ret))))))))
def fc_tags_Write : FC := ⟨109, cmd_tags_Write, [.t 8, .t 9, .t 10]⟩
theorem fc_tags_Write_ok : compF Try.prog 11 [[0, 1, 2, 3], [0, 1, 2, 3, 27], [8, 9, 10], [0, 1, 2, 3, 11], [0, 1, 2, 3, 11, 13, 14], [0, 2, 3, 11, 13, 14, 15], [0, 3, 11, 13, 14, 15, 46, 47, 48], [0, 3, 11, 13, 14, 15, 46, 47, 48], [0, 3, 11, 13, 14, 15, 46, 47, 48, 49], [0, 3, 11, 13, 14, 15, 16, 17, 46, 47, 48], [0, 3, 11, 13, 14, 15, 46, 47, 48], [0, 1, 2, 3, 4, 5, 6, 7, 8, 9, 10, 11, 12, 13, 14, 15, 16, 17], [0, 3, 11, 13, 14, 15, 46, 47, 48], [0, 13, 14, 15, 72, 73, 74], [0, 13, 14, 15, 72, 73, 74], [0, 13, 14, 15, 72, 73, 74, 75], [0, 13, 14, 15, 18, 19, 72, 73, 74], [0, 13, 14, 15, 19, 20, 72, 73, 74], [0, 1, 2, 3, 4, 5, 6, 7, 8, 9, 10, 11, 12, 13, 14, 15, 16], [0, 13, 14, 15, 72, 73, 74], [0, 1, 2, 3, 4, 5, 6, 7, 8, 9, 10, 11], [0, 13, 14, 15, 72, 73, 74], [8, 9, 10]] = some fc_tags_Write := by kernel_rfl
/-- joist/joistref11.Write -/
abbrev F.joistref11_Write : Nat := 12
def cmd_joistref11_Write : Cmd :=
  .seq (.seq (.reg [⟨(some 8), none, .inl (.mv (.c .nils))⟩,
      ⟨(some 9), none, .inl (.mv (.c .nils))⟩,
      ⟨(some 10), none, .inl (.mv (.c (.int .i64 0)))⟩])
   (.keep [0, 1, 2, 3]))
   (.seq (.seq (.reg [⟨(some 23), none, .inl (.mv (.t 0))⟩,
       ⟨(some 24), none, .inl (.mv (.t 1))⟩,
       ⟨(some 25), none, .inl (.mv (.t 2))⟩,
       ⟨(some 26), none, .inl (.mv (.t 3))⟩,
       ⟨(some 27), none, .inr (.call 30 [(.t 23), (.t 24), (.t 25), (.t 26)])⟩,
       ⟨(some 11), none, .inl (.mv (.t 27))⟩])
    (.keep [0, 1, 2, 3, 11]))
    (.seq (.seq (.seq (.reg [⟨(some 28), none, .inl (.mv (.t 11))⟩,
        ⟨(some 29), none, .inl (.un .not (.t 28))⟩])
     (.keep [0, 1, 2, 3, 29]))
     (.cond (.t 29)
       (.seq (.seq (.reg [⟨(some 8), none, .inl (.mv (.c .nils))⟩,
           ⟨(some 9), none, .inl (.mv (.c .nils))⟩,
           ⟨(some 10), none, .inl (.mv (.c (.int .i64 1)))⟩])
        (.keep [8, 9, 10]))
        (.ret))
       (.skip)))
     (.seq (.seq (.reg [⟨(some 30), none, .inl (.mv (.t 1))⟩,
         ⟨(some 31), none, .inl (.mv (.t 0))⟩,
         ⟨(some 32), none, .inl (.bin .sub (.t 30) (.t 31))⟩,
         ⟨(some 33), none, .inl (.bin .mul (.c (.int .i64 8)) (.t 32))⟩,
         ⟨(some 34), none, .inr (.mksl 1 1 [(.int .u8 0)] (.t 33) (.t 33))⟩,
         ⟨(some 12), none, .inl (.mv (.t 34))⟩])
      (.keep [0, 1, 2, 3, 12]))
      (.seq (.seq (.seq (.reg [⟨(some 13), none, .inl (.mv (.c (.int .i64 0)))⟩])
       (.keep [0, 1, 2, 3, 12, 13]))
       (.block 0 (.loop [0, 1, 2, 3, 12, 13] (.seq (.seq (.seq (.reg [⟨(some 35), none, .inl (.mv (.t 13))⟩,
           ⟨(some 36), none, .inl (.mv (.t 2))⟩,
           ⟨(some 37), none, .inl (.len (.t 36))⟩,
           ⟨(some 38), none, .inl (.bin .lss (.t 35) (.t 37))⟩])
        (.keep [0, 1, 2, 3, 12, 13, 38]))
        (.cond (.t 38)
          (.skip)
          (.exit 0)))
        (.seq (.block 1 (.seq (.seq (.reg [⟨(some 41), none, .inl (.mv (.t 2))⟩,
            ⟨(some 42), none, .inl (.mv (.t 13))⟩,
            ⟨(some 43), none, .inl (.iaddr 3 (.t 41) (.t 42))⟩,
            ⟨(some 44), none, .inl (.load true 3 (.t 43))⟩,
            ⟨(some 14), none, .inr (.alloc [(.int .i64 0), (.int .i64 0), (.int .i64 0)])⟩,
            ⟨none, none, .inr (.store 3 (.t 14) (.t 44))⟩])
         (.keep [0, 1, 2, 3, 12, 13, 14]))
         (.seq (.seq (.reg [⟨(some 45), none, .inl (.faddr 0 (.t 14))⟩,
             ⟨(some 46), none, .inl (.load false 1 (.t 45))⟩,
             ⟨(some 47), none, .inl (.mv (.t 0))⟩,
             ⟨(some 48), none, .inl (.bin .sub (.t 46) (.t 47))⟩,
             ⟨(some 15), none, .inl (.mv (.t 48))⟩])
          (.keep [0, 1, 2, 3, 12, 13, 14, 15]))
          (.seq (.seq (.reg [⟨(some 50), none, .inl (.mv (.t 12))⟩,
              ⟨(some 51), none, .inl (.mv (.t 15))⟩,
              ⟨(some 52), none, .inl (.faddr 1 (.t 14))⟩,
              ⟨(some 53), none, .inl (.load false 1 (.t 52))⟩,
              ⟨(some 54), none, .inl (.bin .mul (.c (.int .i64 64)) (.t 53))⟩,
              ⟨(some 55), none, .inl (.faddr 2 (.t 14))⟩,
              ⟨(some 56), none, .inl (.load false 1 (.t 55))⟩,
              ⟨(some 57), none, .inl (.bin .add (.t 54) (.t 56))⟩,
              ⟨(some 58), none, .inl (.bin .add (.t 57) (.c (.int .i64 1)))⟩,
              ⟨(some 59), none, .inr (.call 31 [(.t 50), (.t 51), (.t 58)])⟩,
              ⟨(some 49), none, .inl (.mv (.t 59))⟩,
              ⟨(some 60), none, .inl (.ext 0 (.t 49))⟩,
              ⟨(some 61), none, .inl (.ext 1 (.t 49))⟩,
              ⟨(some 12), none, .inl (.mv (.t 60))⟩])
           (.keep [0, 1, 2, 3, 12, 13, 14, 15]))
           (.seq (.seq (.reg [⟨(some 63), none, .inl (.mv (.t 12))⟩,
               ⟨(some 64), none, .inl (.mv (.t 15))⟩,
               ⟨(some 65), none, .inl (.faddr 1 (.t 14))⟩,
               ⟨(some 66), none, .inl (.load false 1 (.t 65))⟩,
               ⟨(some 67), none, .inl (.bin .add (.t 64) (.t 66))⟩,
               ⟨(some 68), none, .inl (.bin .sub (.t 67) (.c (.int .i64 1)))⟩,
               ⟨(some 69), none, .inl (.faddr 1 (.t 14))⟩,
               ⟨(some 70), none, .inl (.load false 1 (.t 69))⟩,
               ⟨(some 71), none, .inl (.bin .mul (.c (.int .i64 64)) (.t 70))⟩,
               ⟨(some 72), none, .inl (.faddr 2 (.t 14))⟩,
               ⟨(some 73), none, .inl (.load false 1 (.t 72))⟩,
               ⟨(some 74), none, .inl (.bin .add (.t 71) (.t 73))⟩,
               ⟨(some 75), none, .inl (.bin .add (.t 74) (.c (.int .i64 1)))⟩,
               ⟨(some 76), none, .inr (.call 31 [(.t 63), (.t 68), (.t 75)])⟩,
               ⟨(some 62), none, .inl (.mv (.t 76))⟩,
               ⟨(some 77), none, .inl (.ext 0 (.t 62))⟩,
               ⟨(some 78), none, .inl (.ext 1 (.t 62))⟩,
               ⟨(some 12), none, .inl (.mv (.t 77))⟩])
            (.keep [0, 1, 2, 3, 12, 13, 15]))
            (.seq (.seq (.reg [⟨(some 16), none, .inl (.mv (.c (.int .i64 0)))⟩])
             (.keep [0, 1, 2, 3, 12, 13, 15, 16]))
             (.block 2 (.loop [0, 1, 2, 3, 12, 13, 15, 16] (.seq (.seq (.seq (.reg [⟨(some 79), none, .inl (.mv (.t 16))⟩,
                 ⟨(some 80), none, .inl (.mv (.t 3))⟩,
                 ⟨(some 81), none, .inl (.mv (.t 13))⟩,
                 ⟨(some 82), none, .inl (.iaddr 1 (.t 80) (.t 81))⟩,
                 ⟨(some 83), none, .inl (.load false 1 (.t 82))⟩,
                 ⟨(some 84), none, .inl (.len (.t 83))⟩,
                 ⟨(some 85), none, .inl (.bin .lss (.t 79) (.t 84))⟩])
              (.keep [0, 1, 2, 3, 12, 13, 15, 16, 85]))
              (.cond (.t 85)
                (.skip)
                (.exit 2)))
              (.seq (.block 3 (.seq (.reg [⟨(some 88), none, .inl (.mv (.t 12))⟩,
                  ⟨(some 89), none, .inl (.mv (.t 15))⟩,
                  ⟨(some 90), none, .inl (.bin .add (.t 89) (.c (.int .i64 1)))⟩,
                  ⟨(some 91), none, .inl (.bin .mul (.c (.int .i64 8)) (.t 90))⟩,
                  ⟨(some 92), none, .inl (.mv (.t 16))⟩,
                  ⟨(some 93), none, .inl (.bin .add (.t 91) (.t 92))⟩,
                  ⟨(some 94), none, .inl (.mv (.t 3))⟩,
                  ⟨(some 95), none, .inl (.mv (.t 13))⟩,
                  ⟨(some 96), none, .inl (.iaddr 1 (.t 94) (.t 95))⟩,
                  ⟨(some 97), none, .inl (.load false 1 (.t 96))⟩,
                  ⟨(some 98), none, .inl (.mv (.t 16))⟩,
                  ⟨(some 99), none, .inl (.iaddr 1 (.t 97) (.t 98))⟩,
                  ⟨(some 100), none, .inl (.load false 1 (.t 99))⟩,
                  ⟨(some 101), none, .inl (.iaddr 1 (.t 88) (.t 93))⟩,
                  ⟨none, none, .inr (.store 1 (.t 101) (.t 100))⟩])
               (.keep [0, 1, 2, 3, 12, 13, 15, 16])))
               (.seq (.reg [⟨(some 86), none, .inl (.mv (.t 16))⟩,
                   ⟨(some 87), none, .inl (.bin .add (.t 86) (.c (.int .i64 1)))⟩,
                   ⟨(some 16), none, .inl (.mv (.t 87))⟩])
                (.keep [0, 1, 2, 3, 12, 13, 15, 16]))))))))))))
         (.seq (.reg [⟨(some 39), none, .inl (.mv (.t 13))⟩,
             ⟨(some 40), none, .inl (.bin .add (.t 39) (.c (.int .i64 1)))⟩,
             ⟨(some 13), none, .inl (.mv (.t 40))⟩])
          (.keep [0, 1, 2, 3, 12, 13])))))))
       (.seq (.seq (.reg [⟨(some 102), none, .inl (.mv (.t 0))⟩,
           ⟨(some 103), none, .inl (.mv (.t 1))⟩,
           ⟨(some 104), none, .inl (.mv (.t 2))⟩,
           ⟨(some 105), none, .inr (.call 32 [(.t 102), (.t 103), (.t 104)])⟩,
           ⟨(some 17), none, .inl (.mv (.t 105))⟩])
        (.keep [0, 12, 17]))
        (.seq (.seq (.reg [⟨(some 106), none, .inr (.mksl 1 8 [(.int .i64 0)] (.c (.int .i64 7)) (.c (.int .i64 7)))⟩,
            ⟨(some 18), none, .inl (.mv (.t 106))⟩])
         (.keep [0, 12, 17, 18]))
         (.seq (.seq (.seq (.reg [⟨(some 107), none, .inl (.mv (.t 17))⟩,
             ⟨(some 108), none, .inl (.len (.t 107))⟩,
             ⟨(some 109), none, .inl (.bin .sub (.t 108) (.c (.int .i64 1)))⟩,
             ⟨(some 19), none, .inl (.mv (.t 109))⟩])
          (.keep [0, 12, 17, 18, 19]))
          (.block 4 (.loop [0, 12, 17, 18, 19] (.seq (.seq (.seq (.reg [⟨(some 110), none, .inl (.mv (.t 19))⟩,
              ⟨(some 111), none, .inl (.bin .geq (.t 110) (.c (.int .i64 0)))⟩])
           (.keep [0, 12, 17, 18, 19, 111]))
           (.cond (.t 111)
             (.skip)
             (.exit 4)))
           (.seq (.block 5 (.seq (.seq (.reg [⟨(some 114), none, .inl (.mv (.t 17))⟩,
               ⟨(some 115), none, .inl (.mv (.t 19))⟩,
               ⟨(some 116), none, .inl (.iaddr 2 (.t 114) (.t 115))⟩,
               ⟨(some 117), none, .inl (.faddr 0 (.t 116))⟩,
               ⟨(some 118), none, .inl (.load false 1 (.t 117))⟩,
               ⟨(some 119), none, .inl (.mv (.t 0))⟩,
               ⟨(some 120), none, .inl (.bin .sub (.t 118) (.t 119))⟩,
               ⟨(some 20), none, .inl (.mv (.t 120))⟩])
            (.keep [0, 12, 17, 18, 19, 20]))
            (.seq (.seq (.reg [⟨(some 122), none, .inl (.mv (.t 12))⟩,
                ⟨(some 123), none, .inl (.mv (.t 20))⟩,
                ⟨(some 124), none, .inl (.mv (.t 17))⟩,
                ⟨(some 125), none, .inl (.mv (.t 19))⟩,
                ⟨(some 126), none, .inl (.iaddr 2 (.t 124) (.t 125))⟩,
                ⟨(some 127), none, .inl (.faddr 1 (.t 126))⟩,
                ⟨(some 128), none, .inl (.load false 1 (.t 127))⟩,
                ⟨(some 129), none, .inl (.bin .mul (.c (.int .i64 64)) (.t 128))⟩,
                ⟨(some 130), none, .inr (.call 31 [(.t 122), (.t 123), (.t 129)])⟩,
                ⟨(some 121), none, .inl (.mv (.t 130))⟩,
                ⟨(some 131), none, .inl (.ext 0 (.t 121))⟩,
                ⟨(some 132), none, .inl (.ext 1 (.t 121))⟩,
                ⟨(some 12), none, .inl (.mv (.t 131))⟩])
             (.keep [0, 12, 17, 18, 19, 20]))
             (.seq (.seq (.reg [⟨(some 134), none, .inl (.mv (.t 12))⟩,
                 ⟨(some 135), none, .inl (.mv (.t 20))⟩,
                 ⟨(some 136), none, .inl (.bin .add (.t 135) (.c (.int .i64 1)))⟩,
                 ⟨(some 137), none, .inl (.mv (.t 17))⟩,
                 ⟨(some 138), none, .inl (.mv (.t 19))⟩,
                 ⟨(some 139), none, .inr (.call 33 [(.t 137), (.t 138), (.c (.int .i64 1))])⟩,
                 ⟨(some 140), none, .inr (.call 31 [(.t 134), (.t 136), (.t 139)])⟩,
                 ⟨(some 133), none, .inl (.mv (.t 140))⟩,
                 ⟨(some 141), none, .inl (.ext 0 (.t 133))⟩,
                 ⟨(some 142), none, .inl (.ext 1 (.t 133))⟩,
                 ⟨(some 12), none, .inl (.mv (.t 141))⟩])
              (.keep [0, 12, 17, 18, 19, 20]))
              (.seq (.seq (.reg [⟨(some 144), none, .inl (.mv (.t 12))⟩,
                  ⟨(some 145), none, .inl (.mv (.t 20))⟩,
                  ⟨(some 146), none, .inl (.bin .add (.t 145) (.c (.int .i64 2)))⟩,
                  ⟨(some 147), none, .inl (.mv (.t 17))⟩,
                  ⟨(some 148), none, .inl (.mv (.t 19))⟩,
                  ⟨(some 149), none, .inr (.call 33 [(.t 147), (.t 148), (.c (.int .i64 (-1)))])⟩,
                  ⟨(some 150), none, .inr (.call 31 [(.t 144), (.t 146), (.t 149)])⟩,
                  ⟨(some 143), none, .inl (.mv (.t 150))⟩,
                  ⟨(some 151), none, .inl (.ext 0 (.t 143))⟩,
                  ⟨(some 152), none, .inl (.ext 1 (.t 143))⟩,
                  ⟨(some 12), none, .inl (.mv (.t 151))⟩])
               (.keep [0, 12, 17, 18, 19, 20]))
               (.seq (.seq (.ord [⟨0, ⟨(some 154), none, .inl (.mv (.t 12))⟩, [], false⟩,
                   ⟨1, ⟨(some 155), none, .inl (.mv (.t 20))⟩, [], false⟩,
                   ⟨2, ⟨(some 156), none, .inl (.mv (.t 17))⟩, [], false⟩,
                   ⟨3, ⟨(some 157), none, .inl (.mv (.t 19))⟩, [], false⟩,
                   ⟨4, ⟨(some 158), none, .inl (.iaddr 2 (.t 156) (.t 157))⟩, [], false⟩,
                   ⟨5, ⟨(some 159), none, .inl (.faddr 1 (.t 158))⟩, [], false⟩,
                   ⟨6, ⟨(some 160), none, .inl (.load false 1 (.t 159))⟩, [], false⟩,
                   ⟨7, ⟨(some 161), none, .inl (.bin .add (.t 155) (.t 160))⟩, [], false⟩,
                   ⟨8, ⟨(some 162), none, .inl (.bin .sub (.t 161) (.c (.int .i64 1)))⟩, [], false⟩,
                   ⟨9, ⟨(some 163), none, .inl (.mv (.t 17))⟩, [], false⟩,
                   ⟨10, ⟨(some 164), none, .inl (.mv (.t 19))⟩, [], false⟩,
                   ⟨11, ⟨(some 165), none, .inl (.iaddr 2 (.t 163) (.t 164))⟩, [], false⟩,
                   ⟨12, ⟨(some 166), none, .inl (.faddr 1 (.t 165))⟩, [], false⟩,
                   ⟨13, ⟨(some 167), none, .inl (.load false 1 (.t 166))⟩, [], false⟩,
                   ⟨14, ⟨(some 168), none, .inl (.bin .mul (.c (.int .i64 64)) (.t 167))⟩, [], false⟩,
                   ⟨15, ⟨(some 169), none, .inr (.call 31 [(.t 154), (.t 162), (.t 168)])⟩, [], false⟩,
                   ⟨16, ⟨(some 153), none, .inl (.mv (.t 169))⟩, [], false⟩,
                   ⟨17, ⟨(some 170), none, .inl (.ext 0 (.t 153))⟩, [], false⟩,
                   ⟨18, ⟨(some 171), none, .inl (.ext 1 (.t 153))⟩, [], false⟩,
                   ⟨19, ⟨(some 12), none, .inl (.mv (.t 170))⟩, [], false⟩])
                (.keep [0, 12, 17, 18, 19]))
                (.seq (.seq (.reg [⟨(some 173), none, .inl (.mv (.t 17))⟩,
                    ⟨(some 174), none, .inl (.mv (.t 19))⟩,
                    ⟨(some 175), none, .inl (.iaddr 2 (.t 173) (.t 174))⟩,
                    ⟨(some 176), none, .inl (.faddr 1 (.t 175))⟩,
                    ⟨(some 177), none, .inl (.load false 1 (.t 176))⟩,
                    ⟨(some 178), none, .inr (.call 17 [(.t 177)])⟩,
                    ⟨(some 172), none, .inl (.mv (.t 178))⟩,
                    ⟨(some 179), none, .inl (.ext 0 (.t 172))⟩,
                    ⟨(some 180), none, .inl (.ext 1 (.t 172))⟩,
                    ⟨(some 21), none, .inl (.mv (.t 179))⟩,
                    ⟨(some 22), none, .inl (.mv (.t 180))⟩])
                 (.keep [0, 12, 17, 18, 19, 21]))
                 (.seq (.reg [⟨(some 181), none, .inl (.mv (.t 18))⟩,
                     ⟨(some 182), none, .inl (.mv (.t 21))⟩,
                     ⟨(some 183), none, .inl (.mv (.t 17))⟩,
                     ⟨(some 184), none, .inl (.mv (.t 19))⟩,
                     ⟨(some 185), none, .inl (.iaddr 2 (.t 183) (.t 184))⟩,
                     ⟨(some 186), none, .inl (.faddr 0 (.t 185))⟩,
                     ⟨(some 187), none, .inl (.load false 1 (.t 186))⟩,
                     ⟨(some 188), none, .inl (.bin .add (.t 187) (.c (.int .i64 1)))⟩,
                     ⟨(some 189), none, .inl (.iaddr 1 (.t 181) (.t 182))⟩,
                     ⟨none, none, .inr (.store 1 (.t 189) (.t 188))⟩])
                  (.keep [0, 12, 17, 18, 19])))))))))
            (.seq (.reg [⟨(some 112), none, .inl (.mv (.t 19))⟩,
                ⟨(some 113), none, .inl (.bin .sub (.t 112) (.c (.int .i64 1)))⟩,
                ⟨(some 19), none, .inl (.mv (.t 113))⟩])
             (.keep [0, 12, 17, 18, 19])))))))
          (.seq (.seq (.reg [⟨(some 190), none, .inl (.mv (.t 12))⟩,
              ⟨(some 191), none, .inl (.mv (.t 18))⟩,
              ⟨(some 8), none, .inl (.mv (.t 190))⟩,
              ⟨(some 9), none, .inl (.mv (.t 191))⟩,
              ⟨(some 10), none, .inl (.mv (.c (.int .i64 0)))⟩])
           (.keep [8, 9, 10]))
           (.ret)))))))))
def fc_joistref11_Write : FC := ⟨192, cmd_joistref11_Write, [.t 8, .t 9, .t 10]⟩
theorem fc_joistref11_Write_ok : compF Try.prog 12 [[0, 1, 2, 3], [0, 1, 2, 3, 11], [0, 1, 2, 3, 29], [8, 9, 10], [0, 1, 2, 3, 12], [0, 1, 2, 3, 12, 13], [0, 1, 2, 3, 12, 13], [0, 1, 2, 3, 12, 13, 38], [0, 1, 2, 3, 12, 13, 14], [0, 1, 2, 3, 12, 13, 14, 15], [0, 1, 2, 3, 12, 13, 14, 15], [0, 1, 2, 3, 12, 13, 15], [0, 1, 2, 3, 12, 13, 15, 16], [0, 1, 2, 3, 12, 13, 15, 16], [0, 1, 2, 3, 12, 13, 15, 16, 85], [0, 1, 2, 3, 12, 13, 15, 16], [0, 1, 2, 3, 12, 13, 15, 16], [0, 1, 2, 3, 12, 13], [0, 12, 17], [0, 12, 17, 18], [0, 12, 17, 18, 19], [0, 12, 17, 18, 19], [0, 12, 17, 18, 19, 111], [0, 12, 17, 18, 19, 20], [0, 12, 17, 18, 19, 20], [0, 12, 17, 18, 19, 20], [0, 12, 17, 18, 19, 20], [0, 12, 17, 18, 19], [0, 1, 2, 3, 4, 5, 6, 7, 8, 9, 10, 11, 12, 13, 14, 15, 16, 17, 18, 19], [0, 12, 17, 18, 19, 21], [0, 12, 17, 18, 19], [0, 12, 17, 18, 19], [8, 9, 10]] = some fc_joistref11_Write := by kernel_rfl
/-- joist/joistlaw01.Kept -/
abbrev F.joistlaw01_Kept : Nat := 13
def cmd_joistlaw01_Kept : Cmd :=
  .seq (.seq (.reg [⟨(some 4), none, .inl (.mv (.c (.bool false)))⟩])
   (.keep [0, 1]))
   (.seq (.seq (.reg [⟨(some 5), none, .inl (.mv (.t 0))⟩,
       ⟨(some 6), none, .inl (.b2s (.t 5))⟩,
       ⟨(some 7), none, .inl (.mv (.t 1))⟩,
       ⟨(some 8), none, .inl (.b2s (.t 7))⟩,
       ⟨(some 9), none, .inl (.bins .eql (.t 6) (.t 8))⟩,
       ⟨(some 10), none, .inl (.mv (.t 9))⟩,
       ⟨(some 11), (some (10, true)), .inl (.mv (.t 0))⟩,
       ⟨(some 12), (some (10, true)), .inl (.mv (.t 1))⟩,
       ⟨(some 13), (some (10, true)), .inl (.len (.t 12))⟩,
       ⟨(some 14), (some (10, true)), .inl (.bin .add (.t 13) (.c (.int .i64 1)))⟩,
       ⟨(some 15), (some (10, true)), .inl (.slice 1 (.t 11) none (some (.t 14)) none)⟩,
       ⟨(some 16), (some (10, true)), .inl (.mv (.t 1))⟩,
       ⟨(some 17), (some (10, true)), .inl (.len (.t 16))⟩,
       ⟨(some 18), (some (10, true)), .inl (.iaddr 1 (.t 15) (.t 17))⟩,
       ⟨(some 19), (some (10, true)), .inl (.load false 1 (.t 18))⟩,
       ⟨(some 20), (some (10, true)), .inl (.bin .eql (.t 19) (.c (.int .u8 77)))⟩,
       ⟨(some 21), none, .inl (.pick (.t 10) (.t 20) (.c (.bool false)))⟩,
       ⟨(some 4), none, .inl (.mv (.t 21))⟩])
    (.keep [4]))
    (.ret))
def fc_joistlaw01_Kept : FC := ⟨22, cmd_joistlaw01_Kept, [.t 4]⟩
theorem fc_joistlaw01_Kept_ok : compF Try.prog 13 [[0, 1], [4]] = some fc_joistlaw01_Kept := by kernel_rfl
/-- joist/joistref01.Same -/
abbrev F.joistref01_Same : Nat := 14
def cmd_joistref01_Same : Cmd :=
  .seq (.seq (.reg [⟨(some 4), none, .inl (.mv (.c (.bool false)))⟩])
   (.keep [0, 1]))
   (.seq (.seq (.seq (.reg [⟨(some 6), none, .inl (.mv (.t 0))⟩,
       ⟨(some 7), none, .inl (.len (.t 6))⟩,
       ⟨(some 8), none, .inl (.mv (.t 1))⟩,
       ⟨(some 9), none, .inl (.len (.t 8))⟩,
       ⟨(some 10), none, .inl (.bin .neq (.t 7) (.t 9))⟩])
    (.keep [0, 1, 10]))
    (.cond (.t 10)
      (.seq (.seq (.reg [⟨(some 4), none, .inl (.mv (.c (.bool false)))⟩])
       (.keep [4]))
       (.ret))
      (.skip)))
    (.seq (.seq (.seq (.reg [⟨(some 5), none, .inl (.mv (.c (.int .i64 0)))⟩])
     (.keep [0, 1, 5]))
     (.block 0 (.loop [0, 1, 5] (.seq (.seq (.seq (.reg [⟨(some 11), none, .inl (.mv (.t 5))⟩,
         ⟨(some 12), none, .inl (.mv (.t 0))⟩,
         ⟨(some 13), none, .inl (.len (.t 12))⟩,
         ⟨(some 14), none, .inl (.bin .lss (.t 11) (.t 13))⟩])
      (.keep [0, 1, 5, 14]))
      (.cond (.t 14)
        (.skip)
        (.exit 0)))
      (.seq (.block 1 (.seq (.seq (.ord [⟨0, ⟨(some 17), none, .inl (.mv (.t 0))⟩, [], false⟩,
          ⟨1, ⟨(some 18), none, .inl (.mv (.t 5))⟩, [], false⟩,
          ⟨2, ⟨(some 19), none, .inl (.iaddr 1 (.t 17) (.t 18))⟩, [], false⟩,
          ⟨3, ⟨(some 20), none, .inl (.load false 1 (.t 19))⟩, [], false⟩,
          ⟨4, ⟨(some 21), none, .inl (.mv (.t 1))⟩, [], false⟩,
          ⟨5, ⟨(some 22), none, .inl (.mv (.t 5))⟩, [], false⟩,
          ⟨6, ⟨(some 23), none, .inl (.iaddr 1 (.t 21) (.t 22))⟩, [], false⟩,
          ⟨7, ⟨(some 24), none, .inl (.load false 1 (.t 23))⟩, [], false⟩,
          ⟨8, ⟨(some 25), none, .inl (.bin .neq (.t 20) (.t 24))⟩, [], false⟩])
       (.keep [0, 1, 5, 25]))
       (.cond (.t 25)
         (.seq (.seq (.reg [⟨(some 4), none, .inl (.mv (.c (.bool false)))⟩])
          (.keep [4]))
          (.ret))
         (.skip))))
       (.seq (.reg [⟨(some 15), none, .inl (.mv (.t 5))⟩,
           ⟨(some 16), none, .inl (.bin .add (.t 15) (.c (.int .i64 1)))⟩,
           ⟨(some 5), none, .inl (.mv (.t 16))⟩])
        (.keep [0, 1, 5])))))))
     (.seq (.seq (.reg [⟨(some 4), none, .inl (.mv (.c (.bool true)))⟩])
      (.keep [4]))
      (.ret))))
def fc_joistref01_Same : FC := ⟨26, cmd_joistref01_Same, [.t 4]⟩
theorem fc_joistref01_Same_ok : compF Try.prog 14 [[0, 1], [0, 1, 10], [4], [0, 1, 5], [0, 1, 5], [0, 1, 5, 14], [0, 1, 5, 25], [0, 1, 2, 3, 4, 5, 6, 7, 8], [4], [0, 1, 5], [4]] = some fc_joistref01_Same := by kernel_rfl
/-- joist/joistlaw01.Owned -/
abbrev F.joistlaw01_Owned : Nat := 15
def cmd_joistlaw01_Owned : Cmd :=
  .seq (.seq (.reg [⟨(some 2), none, .inl (.mv (.c (.bool false)))⟩])
   (.keep [0]))
   (.seq (.seq (.seq (.reg [⟨(some 3), none, .inl (.mv (.c (.int .i64 0)))⟩])
    (.keep [0, 3]))
    (.block 0 (.loop [0, 3] (.seq (.seq (.seq (.reg [⟨(some 9), none, .inl (.mv (.t 3))⟩,
        ⟨(some 10), none, .inl (.mv (.t 0))⟩,
        ⟨(some 11), none, .inl (.len (.t 10))⟩,
        ⟨(some 12), none, .inl (.bin .lss (.t 9) (.t 11))⟩])
     (.keep [0, 3, 12]))
     (.cond (.t 12)
       (.skip)
       (.exit 0)))
     (.seq (.block 1 (.seq (.seq (.ord [⟨0, ⟨(some 15), none, .inl (.mv (.t 0))⟩, [], false⟩,
         ⟨1, ⟨(some 16), none, .inl (.mv (.t 3))⟩, [], false⟩,
         ⟨2, ⟨(some 17), none, .inl (.iaddr 1 (.t 15) (.t 16))⟩, [], false⟩,
         ⟨3, ⟨(some 18), none, .inl (.load false 1 (.t 17))⟩, [], false⟩,
         ⟨4, ⟨(some 19), none, .inl (.mv (.t 0))⟩, [], false⟩,
         ⟨5, ⟨(some 20), none, .inl (.mv (.t 3))⟩, [], false⟩,
         ⟨6, ⟨(some 21), none, .inl (.iaddr 1 (.t 19) (.t 20))⟩, [], false⟩,
         ⟨7, ⟨(some 22), none, .inl (.load false 1 (.t 21))⟩, [], false⟩,
         ⟨8, ⟨(some 23), none, .inl (.cap (.t 22))⟩, [], false⟩,
         ⟨9, ⟨(some 24), none, .inl (.slice 1 (.t 18) none (some (.t 23)) none)⟩, [], false⟩,
         ⟨10, ⟨(some 4), none, .inl (.mv (.t 24))⟩, [], false⟩])
      (.keep [0, 3, 4]))
      (.seq (.seq (.reg [⟨(some 5), none, .inl (.mv (.c (.int .i64 0)))⟩])
       (.keep [0, 3, 4, 5]))
       (.block 2 (.loop [0, 3, 4, 5] (.seq (.seq (.seq (.reg [⟨(some 25), none, .inl (.mv (.t 5))⟩,
           ⟨(some 26), none, .inl (.mv (.t 4))⟩,
           ⟨(some 27), none, .inl (.len (.t 26))⟩,
           ⟨(some 28), none, .inl (.bin .lss (.t 25) (.t 27))⟩])
        (.keep [0, 3, 4, 5, 28]))
        (.cond (.t 28)
          (.skip)
          (.exit 2)))
        (.seq (.block 3 (.seq (.reg [⟨(some 31), none, .inl (.mv (.t 4))⟩,
            ⟨(some 32), none, .inl (.mv (.t 5))⟩,
            ⟨(some 33), none, .inl (.mv (.t 3))⟩,
            ⟨(some 34), none, .inl (.bin .add (.t 33) (.c (.int .i64 1)))⟩,
            ⟨(some 35), none, .inl (.conv .u8 (.t 34))⟩,
            ⟨(some 36), none, .inl (.iaddr 1 (.t 31) (.t 32))⟩,
            ⟨none, none, .inr (.store 1 (.t 36) (.t 35))⟩])
         (.keep [0, 3, 4, 5])))
         (.seq (.reg [⟨(some 29), none, .inl (.mv (.t 5))⟩,
             ⟨(some 30), none, .inl (.bin .add (.t 29) (.c (.int .i64 1)))⟩,
             ⟨(some 5), none, .inl (.mv (.t 30))⟩])
          (.keep [0, 3, 4, 5])))))))))
      (.seq (.reg [⟨(some 13), none, .inl (.mv (.t 3))⟩,
          ⟨(some 14), none, .inl (.bin .add (.t 13) (.c (.int .i64 1)))⟩,
          ⟨(some 3), none, .inl (.mv (.t 14))⟩])
       (.keep [0, 3])))))))
    (.seq (.seq (.seq (.reg [⟨(some 6), none, .inl (.mv (.c (.int .i64 0)))⟩])
     (.keep [0, 6]))
     (.block 4 (.loop [0, 6] (.seq (.seq (.seq (.reg [⟨(some 37), none, .inl (.mv (.t 6))⟩,
         ⟨(some 38), none, .inl (.mv (.t 0))⟩,
         ⟨(some 39), none, .inl (.len (.t 38))⟩,
         ⟨(some 40), none, .inl (.bin .lss (.t 37) (.t 39))⟩])
      (.keep [0, 6, 40]))
      (.cond (.t 40)
        (.skip)
        (.exit 4)))
      (.seq (.block 5 (.seq (.seq (.ord [⟨0, ⟨(some 43), none, .inl (.mv (.t 0))⟩, [], false⟩,
          ⟨1, ⟨(some 44), none, .inl (.mv (.t 6))⟩, [], false⟩,
          ⟨2, ⟨(some 45), none, .inl (.iaddr 1 (.t 43) (.t 44))⟩, [], false⟩,
          ⟨3, ⟨(some 46), none, .inl (.load false 1 (.t 45))⟩, [], false⟩,
          ⟨4, ⟨(some 47), none, .inl (.mv (.t 0))⟩, [], false⟩,
          ⟨5, ⟨(some 48), none, .inl (.mv (.t 6))⟩, [], false⟩,
          ⟨6, ⟨(some 49), none, .inl (.iaddr 1 (.t 47) (.t 48))⟩, [], false⟩,
          ⟨7, ⟨(some 50), none, .inl (.load false 1 (.t 49))⟩, [], false⟩,
          ⟨8, ⟨(some 51), none, .inl (.cap (.t 50))⟩, [], false⟩,
          ⟨9, ⟨(some 52), none, .inl (.slice 1 (.t 46) none (some (.t 51)) none)⟩, [], false⟩,
          ⟨10, ⟨(some 7), none, .inl (.mv (.t 52))⟩, [], false⟩])
       (.keep [0, 6, 7]))
       (.seq (.seq (.reg [⟨(some 8), none, .inl (.mv (.c (.int .i64 0)))⟩])
        (.keep [0, 6, 7, 8]))
        (.block 6 (.loop [0, 6, 7, 8] (.seq (.seq (.seq (.reg [⟨(some 53), none, .inl (.mv (.t 8))⟩,
            ⟨(some 54), none, .inl (.mv (.t 7))⟩,
            ⟨(some 55), none, .inl (.len (.t 54))⟩,
            ⟨(some 56), none, .inl (.bin .lss (.t 53) (.t 55))⟩])
         (.keep [0, 6, 7, 8, 56]))
         (.cond (.t 56)
           (.skip)
           (.exit 6)))
         (.seq (.block 7 (.seq (.seq (.reg [⟨(some 59), none, .inl (.mv (.t 7))⟩,
             ⟨(some 60), none, .inl (.mv (.t 8))⟩,
             ⟨(some 61), none, .inl (.iaddr 1 (.t 59) (.t 60))⟩,
             ⟨(some 62), none, .inl (.load false 1 (.t 61))⟩,
             ⟨(some 63), none, .inl (.mv (.t 6))⟩,
             ⟨(some 64), none, .inl (.bin .add (.t 63) (.c (.int .i64 1)))⟩,
             ⟨(some 65), none, .inl (.conv .u8 (.t 64))⟩,
             ⟨(some 66), none, .inl (.bin .neq (.t 62) (.t 65))⟩])
          (.keep [0, 6, 7, 8, 66]))
          (.cond (.t 66)
            (.seq (.seq (.reg [⟨(some 2), none, .inl (.mv (.c (.bool false)))⟩])
             (.keep [2]))
             (.ret))
            (.skip))))
          (.seq (.reg [⟨(some 57), none, .inl (.mv (.t 8))⟩,
              ⟨(some 58), none, .inl (.bin .add (.t 57) (.c (.int .i64 1)))⟩,
              ⟨(some 8), none, .inl (.mv (.t 58))⟩])
           (.keep [0, 6, 7, 8])))))))))
       (.seq (.reg [⟨(some 41), none, .inl (.mv (.t 6))⟩,
           ⟨(some 42), none, .inl (.bin .add (.t 41) (.c (.int .i64 1)))⟩,
           ⟨(some 6), none, .inl (.mv (.t 42))⟩])
        (.keep [0, 6])))))))
     (.seq (.seq (.reg [⟨(some 2), none, .inl (.mv (.c (.bool true)))⟩])
      (.keep [2]))
      (.ret))))
def fc_joistlaw01_Owned : FC := ⟨67, cmd_joistlaw01_Owned, [.t 2]⟩
theorem fc_joistlaw01_Owned_ok : compF Try.prog 15 [[0], [0, 3], [0, 3], [0, 3, 12], [0, 3, 4], [0, 1, 2, 3, 4, 5, 6, 7, 8, 9, 10], [0, 3, 4, 5], [0, 3, 4, 5], [0, 3, 4, 5, 28], [0, 3, 4, 5], [0, 3, 4, 5], [0, 3], [0, 6], [0, 6], [0, 6, 40], [0, 6, 7], [0, 1, 2, 3, 4, 5, 6, 7, 8, 9, 10], [0, 6, 7, 8], [0, 6, 7, 8], [0, 6, 7, 8, 56], [0, 6, 7, 8, 66], [2], [0, 6, 7, 8], [0, 6], [2]] = some fc_joistlaw01_Owned := by kernel_rfl
/-- joist/tags.List -/
abbrev F.tags_List : Nat := 16
def cmd_tags_List : Cmd :=
  .seq (.seq (.reg [⟨(some 2), none, .inl (.mv (.c (.int .i64 0)))⟩,
      ⟨(some 3), none, .inl (.mv (.c (.bool false)))⟩])
   (.keep [0]))
   (.seq (.seq (.seq (.reg [⟨(some 6), none, .inl (.mv (.t 0))⟩,
       ⟨(some 7), none, .inl (.bin .lss (.t 6) (.c (.int .i64 4)))⟩])
    (.keep [0, 7]))
    (.cond (.t 7)
      (.seq (.seq (.reg [⟨(some 2), none, .inl (.mv (.c (.int .i64 0)))⟩,
          ⟨(some 3), none, .inl (.mv (.c (.bool false)))⟩])
       (.keep [2, 3]))
       (.ret))
      (.skip)))
    (.seq (.seq (.reg [⟨(some 4), none, .inl (.mv (.c (.int .i64 0)))⟩])
     (.keep [0, 4]))
     (.seq (.seq (.seq (.reg [⟨(some 5), none, .inl (.mv (.c (.int .i64 4)))⟩])
      (.keep [0, 4, 5]))
      (.block 0 (.loop [0, 4, 5] (.seq (.seq (.seq (.reg [⟨(some 8), none, .inl (.mv (.t 4))⟩,
          ⟨(some 9), none, .inl (.bin .lss (.t 8) (.c (.int .i64 6)))⟩,
          ⟨(some 10), none, .inl (.mv (.t 9))⟩,
          ⟨(some 11), (some (10, true)), .inl (.mv (.t 0))⟩,
          ⟨(some 12), (some (10, true)), .inl (.mv (.t 5))⟩,
          ⟨(some 13), (some (10, true)), .inl (.bin .gtr (.t 11) (.t 12))⟩,
          ⟨(some 14), none, .inl (.pick (.t 10) (.t 13) (.c (.bool false)))⟩])
       (.keep [0, 4, 5, 14]))
       (.cond (.t 14)
         (.skip)
         (.exit 0)))
       (.seq (.block 1 (.seq (.reg [⟨(some 17), none, .inl (.mv (.t 4))⟩,
           ⟨(some 18), none, .inl (.bin .add (.t 17) (.c (.int .i64 1)))⟩,
           ⟨(some 4), none, .inl (.mv (.t 18))⟩])
        (.keep [0, 4, 5])))
        (.seq (.reg [⟨(some 15), none, .inl (.mv (.t 5))⟩,
            ⟨(some 16), none, .inl (.bin .mul (.t 15) (.c (.int .i64 2)))⟩,
            ⟨(some 5), none, .inl (.mv (.t 16))⟩])
         (.keep [0, 4, 5])))))))
      (.seq (.seq (.reg [⟨(some 19), none, .inl (.mv (.t 4))⟩,
          ⟨(some 2), none, .inl (.mv (.t 19))⟩,
          ⟨(some 3), none, .inl (.mv (.c (.bool true)))⟩])
       (.keep [2, 3]))
       (.ret)))))
def fc_tags_List : FC := ⟨20, cmd_tags_List, [.t 2, .t 3]⟩
theorem fc_tags_List_ok : compF Try.prog 16 [[0], [0, 7], [2, 3], [0, 4], [0, 4, 5], [0, 4, 5], [0, 4, 5, 14], [0, 4, 5], [0, 4, 5], [2, 3]] = some fc_tags_List := by kernel_rfl
/-- joist/joistref11.List -/
abbrev F.joistref11_List : Nat := 17
def cmd_joistref11_List : Cmd :=
  .seq (.seq (.reg [⟨(some 2), none, .inl (.mv (.c (.int .i64 0)))⟩,
      ⟨(some 3), none, .inl (.mv (.c (.bool false)))⟩])
   (.keep [0]))
   (.seq (.seq (.seq (.reg [⟨(some 6), none, .inl (.mv (.t 0))⟩,
       ⟨(some 7), none, .inl (.bin .lss (.t 6) (.c (.int .i64 4)))⟩])
    (.keep [0, 7]))
    (.cond (.t 7)
      (.seq (.seq (.reg [⟨(some 2), none, .inl (.mv (.c (.int .i64 0)))⟩,
          ⟨(some 3), none, .inl (.mv (.c (.bool false)))⟩])
       (.keep [2, 3]))
       (.ret))
      (.skip)))
    (.seq (.seq (.reg [⟨(some 8), none, .inr (.bslice 1 [(.int .i64 0)] 6 [(0, (.c (.int .i64 4))), (1, (.c (.int .i64 8))), (2, (.c (.int .i64 16))), (3, (.c (.int .i64 32))), (4, (.c (.int .i64 64))), (5, (.c (.int .i64 128)))])⟩,
        ⟨(some 4), none, .inl (.mv (.t 8))⟩])
     (.keep [0, 4]))
     (.seq (.seq (.seq (.reg [⟨(some 5), none, .inl (.mv (.c (.int .i64 0)))⟩])
      (.keep [0, 4, 5]))
      (.block 0 (.loop [0, 4, 5] (.seq (.seq (.seq (.reg [⟨(some 9), none, .inl (.mv (.t 5))⟩,
          ⟨(some 10), none, .inl (.mv (.t 4))⟩,
          ⟨(some 11), none, .inl (.len (.t 10))⟩,
          ⟨(some 12), none, .inl (.bin .lss (.t 9) (.t 11))⟩])
       (.keep [0, 4, 5, 12]))
       (.cond (.t 12)
         (.skip)
         (.exit 0)))
       (.seq (.block 1 (.seq (.seq (.reg [⟨(some 15), none, .inl (.mv (.t 0))⟩,
           ⟨(some 16), none, .inl (.mv (.t 4))⟩,
           ⟨(some 17), none, .inl (.mv (.t 5))⟩,
           ⟨(some 18), none, .inl (.iaddr 1 (.t 16) (.t 17))⟩,
           ⟨(some 19), none, .inl (.load false 1 (.t 18))⟩,
           ⟨(some 20), none, .inl (.bin .leq (.t 15) (.t 19))⟩])
        (.keep [0, 4, 5, 20]))
        (.cond (.t 20)
          (.seq (.seq (.reg [⟨(some 21), none, .inl (.mv (.t 5))⟩,
              ⟨(some 2), none, .inl (.mv (.t 21))⟩,
              ⟨(some 3), none, .inl (.mv (.c (.bool true)))⟩])
           (.keep [2, 3]))
           (.ret))
          (.skip))))
        (.seq (.reg [⟨(some 13), none, .inl (.mv (.t 5))⟩,
            ⟨(some 14), none, .inl (.bin .add (.t 13) (.c (.int .i64 1)))⟩,
            ⟨(some 5), none, .inl (.mv (.t 14))⟩])
         (.keep [0, 4, 5])))))))
      (.seq (.seq (.reg [⟨(some 2), none, .inl (.mv (.c (.int .i64 6)))⟩,
          ⟨(some 3), none, .inl (.mv (.c (.bool true)))⟩])
       (.keep [2, 3]))
       (.ret)))))
def fc_joistref11_List : FC := ⟨22, cmd_joistref11_List, [.t 2, .t 3]⟩
theorem fc_joistref11_List_ok : compF Try.prog 17 [[0], [0, 7], [2, 3], [0, 4], [0, 4, 5], [0, 4, 5], [0, 4, 5, 12], [0, 4, 5, 20], [2, 3], [0, 4, 5], [2, 3]] = some fc_joistref11_List := by kernel_rfl
/-- joist/tags.Read -/
abbrev F.tags_Read : Nat := 18
def cmd_tags_Read : Cmd :=
  .seq (.seq (.reg [⟨(some 8), none, .inl (.mv (.c .nils))⟩,
      ⟨(some 9), none, .inl (.mv (.c .nils))⟩,
      ⟨(some 10), none, .inl (.mv (.c (.bool false)))⟩])
   (.keep [0, 1, 2, 3]))
   (.seq (.seq (.seq (.reg [⟨(some 22), none, .inl (.mv (.t 0))⟩,
       ⟨(some 23), none, .inl (.mv (.t 1))⟩,
       ⟨(some 24), none, .inr (.call 34 [(.t 22), (.t 23), (.c .nils)])⟩,
       ⟨(some 25), none, .inl (.un .not (.t 24))⟩,
       ⟨(some 26), none, .inl (.mv (.t 25))⟩,
       ⟨(some 27), (some (26, false)), .inl (.mv (.t 2))⟩,
       ⟨(some 28), (some (26, false)), .inl (.len (.t 27))⟩,
       ⟨(some 29), (some (26, false)), .inl (.mv (.t 1))⟩,
       ⟨(some 30), (some (26, false)), .inl (.mv (.t 0))⟩,
       ⟨(some 31), (some (26, false)), .inl (.bin .sub (.t 29) (.t 30))⟩,
       ⟨(some 32), (some (26, false)), .inl (.bin .mul (.t 31) (.c (.int .i64 8)))⟩,
       ⟨(some 33), (some (26, false)), .inl (.bin .neq (.t 28) (.t 32))⟩,
       ⟨(some 34), none, .inl (.pick (.t 26) (.c (.bool true)) (.t 33))⟩])
    (.keep [0, 1, 2, 3, 34]))
    (.cond (.t 34)
      (.seq (.seq (.reg [⟨(some 8), none, .inl (.mv (.c .nils))⟩,
          ⟨(some 9), none, .inl (.mv (.c .nils))⟩,
          ⟨(some 10), none, .inl (.mv (.c (.bool false)))⟩])
       (.keep [8, 9, 10]))
       (.ret))
      (.skip)))
    (.seq (.seq (.reg [⟨(some 11), none, .inl (.mv (.c .nils))⟩])
     (.keep [0, 1, 2, 3, 11]))
     (.seq (.seq (.reg [⟨(some 12), none, .inl (.mv (.c .nils))⟩])
      (.keep [0, 1, 2, 3, 11, 12]))
      (.seq (.skip)
       (.seq (.seq (.seq (.reg [⟨(some 35), none, .inl (.mv (.t 0))⟩,
           ⟨(some 13), none, .inl (.mv (.t 35))⟩])
        (.keep [0, 1, 2, 3, 11, 12, 13]))
        (.block 0 (.loop [0, 1, 2, 3, 11, 12, 13] (.seq (.seq (.seq (.reg [⟨(some 36), none, .inl (.mv (.t 13))⟩,
            ⟨(some 37), none, .inl (.mv (.t 1))⟩,
            ⟨(some 38), none, .inl (.bin .lss (.t 36) (.t 37))⟩])
         (.keep [0, 1, 2, 3, 11, 12, 13, 38]))
         (.cond (.t 38)
           (.skip)
           (.exit 0)))
         (.block 1 (.seq (.seq (.reg [⟨(some 40), none, .inl (.mv (.t 2))⟩,
             ⟨(some 41), none, .inl (.mv (.t 13))⟩,
             ⟨(some 42), none, .inl (.mv (.t 0))⟩,
             ⟨(some 43), none, .inl (.bin .sub (.t 41) (.t 42))⟩,
             ⟨(some 44), none, .inr (.call 22 [(.t 40), (.t 43)])⟩,
             ⟨(some 39), none, .inl (.mv (.t 44))⟩,
             ⟨(some 45), none, .inl (.ext 0 (.t 39))⟩,
             ⟨(some 46), none, .inl (.ext 1 (.t 39))⟩,
             ⟨(some 14), none, .inl (.mv (.t 45))⟩,
             ⟨(some 15), none, .inl (.mv (.t 46))⟩])
          (.keep [0, 1, 2, 3, 11, 12, 13, 14]))
          (.seq (.seq (.reg [⟨(some 47), none, .inl (.mv (.t 14))⟩,
              ⟨(some 48), none, .inl (.bin .quo (.t 47) (.c (.int .i64 64)))⟩,
              ⟨(some 49), none, .inl (.mv (.t 14))⟩,
              ⟨(some 50), none, .inl (.bin .rem (.t 49) (.c (.int .i64 64)))⟩,
              ⟨(some 16), none, .inl (.mv (.t 48))⟩,
              ⟨(some 17), none, .inl (.mv (.t 50))⟩])
           (.keep [0, 1, 2, 3, 11, 12, 13, 16, 17]))
           (.seq (.seq (.seq (.reg [⟨(some 51), none, .inl (.mv (.t 16))⟩,
               ⟨(some 52), none, .inl (.bin .lss (.t 51) (.c (.int .i64 4)))⟩,
               ⟨(some 53), none, .inl (.mv (.t 52))⟩,
               ⟨(some 54), (some (53, false)), .inl (.mv (.t 16))⟩,
               ⟨(some 55), (some (53, false)), .inl (.mv (.t 1))⟩,
               ⟨(some 56), (some (53, false)), .inl (.mv (.t 13))⟩,
               ⟨(some 57), (some (53, false)), .inl (.bin .sub (.t 55) (.t 56))⟩,
               ⟨(some 58), (some (53, false)), .inl (.bin .gtr (.t 54) (.t 57))⟩,
               ⟨(some 59), none, .inl (.pick (.t 53) (.c (.bool true)) (.t 58))⟩])
            (.keep [0, 1, 2, 3, 11, 12, 13, 16, 17, 59]))
            (.cond (.t 59)
              (.exit 0)
              (.skip)))
            (.seq (.seq (.seq (.reg [⟨(some 60), none, .inl (.mv (.t 17))⟩,
                ⟨(some 61), none, .inl (.bin .gtr (.t 60) (.c (.int .i64 0)))⟩])
             (.keep [0, 1, 2, 3, 11, 12, 13, 16, 17, 61]))
             (.cond (.t 61)
               (.seq (.seq (.reg [⟨(some 62), none, .inl (.mv (.t 13))⟩,
                   ⟨(some 63), none, .inl (.mv (.t 0))⟩,
                   ⟨(some 64), none, .inl (.bin .sub (.t 62) (.t 63))⟩,
                   ⟨(some 65), none, .inl (.bin .add (.t 64) (.c (.int .i64 1)))⟩,
                   ⟨(some 66), none, .inl (.bin .mul (.t 65) (.c (.int .i64 8)))⟩,
                   ⟨(some 18), none, .inl (.mv (.t 66))⟩])
                (.keep [0, 1, 2, 3, 11, 12, 13, 16, 17, 18]))
                (.seq (.seq (.reg [⟨(some 67), none, .inl (.mv (.t 11))⟩,
                    ⟨(some 68), none, .inl (.mv (.t 13))⟩,
                    ⟨(some 69), none, .inl (.mv (.t 16))⟩,
                    ⟨(some 70), none, .inl (.mv (.t 17))⟩,
                    ⟨(some 71), none, .inl (.bin .sub (.t 70) (.c (.int .i64 1)))⟩,
                    ⟨(some 72), none, .inl (.build [(.int .i64 0), (.int .i64 0), (.int .i64 0)] [(0, 1, (.t 68)), (1, 1, (.t 69)), (2, 1, (.t 71))])⟩,
                    ⟨(some 73), none, .inr (.bslice 3 [(.int .i64 0), (.int .i64 0), (.int .i64 0)] 1 [(0, (.t 72))])⟩,
                    ⟨(some 74), none, .inr (.append 3 24 (.t 67) (.t 73))⟩,
                    ⟨(some 11), none, .inl (.mv (.t 74))⟩])
                 (.keep [0, 1, 2, 3, 11, 12, 13, 16, 18]))
                 (.seq (.reg [⟨(some 75), none, .inl (.mv (.t 12))⟩,
                     ⟨(some 76), none, .inl (.mv (.t 2))⟩,
                     ⟨(some 77), none, .inl (.mv (.t 18))⟩,
                     ⟨(some 78), none, .inl (.mv (.t 18))⟩,
                     ⟨(some 79), none, .inl (.mv (.t 16))⟩,
                     ⟨(some 80), none, .inl (.bin .sub (.t 79) (.c (.int .i64 2)))⟩,
                     ⟨(some 81), none, .inl (.bin .mul (.t 80) (.c (.int .i64 8)))⟩,
                     ⟨(some 82), none, .inl (.bin .add (.t 78) (.t 81))⟩,
                     ⟨(some 83), none, .inl (.slice 1 (.t 76) (some (.t 77)) (some (.t 82)) none)⟩,
                     ⟨(some 84), none, .inr (.call 35 [(.t 83)])⟩,
                     ⟨(some 85), none, .inr (.bslice 1 [.nils] 1 [(0, (.t 84))])⟩,
                     ⟨(some 86), none, .inr (.append 1 24 (.t 75) (.t 85))⟩,
                     ⟨(some 12), none, .inl (.mv (.t 86))⟩])
                  (.keep [0, 1, 2, 3, 11, 12, 13, 16]))))
               (.skip)))
             (.seq (.reg [⟨(some 87), none, .inl (.mv (.t 13))⟩,
                 ⟨(some 88), none, .inl (.mv (.t 16))⟩,
                 ⟨(some 89), none, .inl (.bin .add (.t 87) (.t 88))⟩,
                 ⟨(some 13), none, .inl (.mv (.t 89))⟩])
              (.keep [0, 1, 2, 3, 11, 12, 13])))))))))))
        (.seq (.seq (.reg [⟨(some 91), none, .inl (.mv (.t 0))⟩,
            ⟨(some 92), none, .inl (.mv (.t 1))⟩,
            ⟨(some 93), none, .inl (.mv (.t 11))⟩,
            ⟨(some 94), none, .inl (.mv (.t 12))⟩,
            ⟨(some 95), none, .inr (.call 11 [(.t 91), (.t 92), (.t 93), (.t 94)])⟩,
            ⟨(some 90), none, .inl (.mv (.t 95))⟩,
            ⟨(some 96), none, .inl (.ext 0 (.t 90))⟩,
            ⟨(some 97), none, .inl (.ext 1 (.t 90))⟩,
            ⟨(some 98), none, .inl (.ext 2 (.t 90))⟩,
            ⟨(some 19), none, .inl (.mv (.t 96))⟩,
            ⟨(some 20), none, .inl (.mv (.t 97))⟩,
            ⟨(some 21), none, .inl (.mv (.t 98))⟩])
         (.keep [2, 3, 11, 12, 19, 20, 21]))
         (.seq (.seq (.seq (.reg [⟨(some 99), none, .inl (.mv (.t 21))⟩,
             ⟨(some 100), none, .inl (.bin .neq (.t 99) (.c (.int .i64 0)))⟩,
             ⟨(some 101), none, .inl (.mv (.t 100))⟩,
             ⟨(some 102), (some (101, false)), .inl (.mv (.t 19))⟩,
             ⟨(some 103), (some (101, false)), .inl (.mv (.t 2))⟩,
             ⟨(some 104), (some (101, false)), .inr (.call 36 [(.t 102), (.t 103)])⟩,
             ⟨(some 105), (some (101, false)), .inl (.un .not (.t 104))⟩,
             ⟨(some 106), none, .inl (.pick (.t 101) (.c (.bool true)) (.t 105))⟩,
             ⟨(some 107), none, .inl (.mv (.t 106))⟩,
             ⟨(some 108), (some (107, false)), .inl (.mv (.t 20))⟩,
             ⟨(some 109), (some (107, false)), .inl (.mv (.t 3))⟩,
             ⟨(some 110), (some (107, false)), .inr (.call 37 [(.t 108), (.t 109)])⟩,
             ⟨(some 111), (some (107, false)), .inl (.un .not (.t 110))⟩,
             ⟨(some 112), none, .inl (.pick (.t 107) (.c (.bool true)) (.t 111))⟩])
          (.keep [11, 12, 112]))
          (.cond (.t 112)
            (.seq (.seq (.reg [⟨(some 8), none, .inl (.mv (.c .nils))⟩,
                ⟨(some 9), none, .inl (.mv (.c .nils))⟩,
                ⟨(some 10), none, .inl (.mv (.c (.bool false)))⟩])
             (.keep [8, 9, 10]))
             (.ret))
            (.skip)))
          (.seq (.seq (.reg [⟨(some 113), none, .inl (.mv (.t 11))⟩,
              ⟨(some 114), none, .inl (.mv (.t 12))⟩,
              ⟨(some 8), none, .inl (.mv (.t 113))⟩,
              ⟨(some 9), none, .inl (.mv (.t 114))⟩,
              ⟨(some 10), none, .inl (.mv (.c (.bool true)))⟩])
           (.keep [8, 9, 10]))
           (.ret)))))))))
def fc_tags_Read : FC := ⟨115, cmd_tags_Read, [.t 8, .t 9, .t 10]⟩
theorem fc_tags_Read_ok : compF Try.prog 18 [[0, 1, 2, 3], [0, 1, 2, 3, 34], [8, 9, 10], [0, 1, 2, 3, 11], [0, 1, 2, 3, 11, 12], [0, 1, 2, 3, 11, 12, 13], [0, 1, 2, 3, 11, 12, 13], [0, 1, 2, 3, 11, 12, 13, 38], [0, 1, 2, 3, 11, 12, 13, 14], [0, 1, 2, 3, 11, 12, 13, 16, 17], [0, 1, 2, 3, 11, 12, 13, 16, 17, 59], [0, 1, 2, 3, 11, 12, 13, 16, 17, 61], [0, 1, 2, 3, 11, 12, 13, 16, 17, 18], [0, 1, 2, 3, 11, 12, 13, 16, 18], [0, 1, 2, 3, 11, 12, 13, 16], [0, 1, 2, 3, 11, 12, 13], [2, 3, 11, 12, 19, 20, 21], [11, 12, 112], [8, 9, 10], [8, 9, 10]] = some fc_tags_Read := by kernel_rfl
/-- joist/joistref11.Read -/
abbrev F.joistref11_Read : Nat := 19
def cmd_joistref11_Read : Cmd :=
  .seq (.seq (.reg [⟨(some 8), none, .inl (.mv (.c .nils))⟩,
      ⟨(some 9), none, .inl (.mv (.c .nils))⟩,
      ⟨(some 10), none, .inl (.mv (.c (.bool false)))⟩])
   (.keep [0, 1, 2, 3]))
   (.seq (.seq (.reg [⟨(some 21), none, .inl (.mv (.t 0))⟩,
       ⟨(some 22), none, .inl (.mv (.t 1))⟩,
       ⟨(some 23), none, .inr (.call 38 [(.t 21), (.t 22), (.c .nils)])⟩,
       ⟨(some 11), none, .inl (.mv (.t 23))⟩])
    (.keep [0, 1, 2, 3, 11]))
    (.seq (.seq (.seq (.reg [⟨(some 24), none, .inl (.mv (.t 11))⟩,
        ⟨(some 25), none, .inl (.un .not (.t 24))⟩,
        ⟨(some 26), none, .inl (.mv (.t 25))⟩,
        ⟨(some 27), (some (26, false)), .inl (.mv (.t 2))⟩,
        ⟨(some 28), (some (26, false)), .inl (.len (.t 27))⟩,
        ⟨(some 29), (some (26, false)), .inl (.mv (.t 1))⟩,
        ⟨(some 30), (some (26, false)), .inl (.mv (.t 0))⟩,
        ⟨(some 31), (some (26, false)), .inl (.bin .sub (.t 29) (.t 30))⟩,
        ⟨(some 32), (some (26, false)), .inl (.bin .mul (.c (.int .i64 8)) (.t 31))⟩,
        ⟨(some 33), (some (26, false)), .inl (.bin .neq (.t 28) (.t 32))⟩,
        ⟨(some 34), none, .inl (.pick (.t 26) (.c (.bool true)) (.t 33))⟩])
     (.keep [0, 1, 2, 3, 34]))
     (.cond (.t 34)
       (.seq (.seq (.reg [⟨(some 8), none, .inl (.mv (.c .nils))⟩,
           ⟨(some 9), none, .inl (.mv (.c .nils))⟩,
           ⟨(some 10), none, .inl (.mv (.c (.bool false)))⟩])
        (.keep [8, 9, 10]))
        (.ret))
       (.skip)))
     (.seq (.seq (.reg [⟨(some 12), none, .inl (.mv (.c .nils))⟩])
      (.keep [0, 1, 2, 3, 12]))
      (.seq (.seq (.reg [⟨(some 13), none, .inl (.mv (.c .nils))⟩])
       (.keep [0, 1, 2, 3, 12, 13]))
       (.seq (.seq (.reg [⟨(some 35), none, .inl (.mv (.t 0))⟩,
           ⟨(some 14), none, .inl (.mv (.t 35))⟩])
        (.keep [0, 1, 2, 3, 12, 13, 14]))
        (.seq (.block 0 (.loop [0, 1, 2, 3, 12, 13, 14] (.seq (.seq (.seq (.reg [⟨(some 36), none, .inl (.mv (.t 14))⟩,
            ⟨(some 37), none, .inl (.mv (.t 1))⟩,
            ⟨(some 38), none, .inl (.bin .lss (.t 36) (.t 37))⟩])
         (.keep [0, 1, 2, 3, 12, 13, 14, 38]))
         (.cond (.t 38)
           (.skip)
           (.exit 0)))
         (.block 1 (.seq (.seq (.reg [⟨(some 40), none, .inl (.mv (.t 2))⟩,
             ⟨(some 41), none, .inl (.mv (.t 14))⟩,
             ⟨(some 42), none, .inl (.mv (.t 0))⟩,
             ⟨(some 43), none, .inl (.bin .sub (.t 41) (.t 42))⟩,
             ⟨(some 44), none, .inr (.call 39 [(.t 40), (.t 43)])⟩,
             ⟨(some 39), none, .inl (.mv (.t 44))⟩,
             ⟨(some 45), none, .inl (.ext 0 (.t 39))⟩,
             ⟨(some 46), none, .inl (.ext 1 (.t 39))⟩,
             ⟨(some 15), none, .inl (.mv (.t 45))⟩,
             ⟨(some 16), none, .inl (.mv (.t 46))⟩])
          (.keep [0, 1, 2, 3, 12, 13, 14, 15]))
          (.seq (.seq (.reg [⟨(some 47), none, .inl (.mv (.t 15))⟩,
              ⟨(some 48), none, .inl (.bin .quo (.t 47) (.c (.int .i64 64)))⟩,
              ⟨(some 17), none, .inl (.mv (.t 48))⟩])
           (.keep [0, 1, 2, 3, 12, 13, 14, 15, 17]))
           (.seq (.seq (.seq (.reg [⟨(some 49), none, .inl (.mv (.t 17))⟩,
               ⟨(some 50), none, .inl (.bin .lss (.t 49) (.c (.int .i64 4)))⟩,
               ⟨(some 51), none, .inl (.mv (.t 50))⟩,
               ⟨(some 52), (some (51, false)), .inl (.mv (.t 17))⟩,
               ⟨(some 53), (some (51, false)), .inl (.mv (.t 1))⟩,
               ⟨(some 54), (some (51, false)), .inl (.mv (.t 14))⟩,
               ⟨(some 55), (some (51, false)), .inl (.bin .sub (.t 53) (.t 54))⟩,
               ⟨(some 56), (some (51, false)), .inl (.bin .gtr (.t 52) (.t 55))⟩,
               ⟨(some 57), none, .inl (.pick (.t 51) (.c (.bool true)) (.t 56))⟩])
            (.keep [0, 1, 2, 3, 12, 13, 14, 15, 17, 57]))
            (.cond (.t 57)
              (.seq (.seq (.reg [⟨(some 8), none, .inl (.mv (.c .nils))⟩,
                  ⟨(some 9), none, .inl (.mv (.c .nils))⟩,
                  ⟨(some 10), none, .inl (.mv (.c (.bool false)))⟩])
               (.keep [8, 9, 10]))
               (.ret))
              (.skip)))
            (.seq (.seq (.seq (.reg [⟨(some 58), none, .inl (.mv (.t 15))⟩,
                ⟨(some 59), none, .inl (.bin .rem (.t 58) (.c (.int .i64 64)))⟩,
                ⟨(some 60), none, .inl (.bin .gtr (.t 59) (.c (.int .i64 0)))⟩])
             (.keep [0, 1, 2, 3, 12, 13, 14, 15, 17, 60]))
             (.cond (.t 60)
               (.seq (.seq (.reg [⟨(some 61), none, .inl (.mv (.t 12))⟩,
                   ⟨(some 62), none, .inl (.mv (.t 14))⟩,
                   ⟨(some 63), none, .inl (.mv (.t 17))⟩,
                   ⟨(some 64), none, .inl (.mv (.t 15))⟩,
                   ⟨(some 65), none, .inl (.bin .rem (.t 64) (.c (.int .i64 64)))⟩,
                   ⟨(some 66), none, .inl (.bin .sub (.t 65) (.c (.int .i64 1)))⟩,
                   ⟨(some 67), none, .inl (.build [(.int .i64 0), (.int .i64 0), (.int .i64 0)] [(0, 1, (.t 62)), (1, 1, (.t 63)), (2, 1, (.t 66))])⟩,
                   ⟨(some 68), none, .inr (.bslice 3 [(.int .i64 0), (.int .i64 0), (.int .i64 0)] 1 [(0, (.t 67))])⟩,
                   ⟨(some 69), none, .inr (.append 3 24 (.t 61) (.t 68))⟩,
                   ⟨(some 12), none, .inl (.mv (.t 69))⟩])
                (.keep [0, 1, 2, 3, 12, 13, 14, 17]))
                (.seq (.reg [⟨(some 70), none, .inl (.mv (.t 13))⟩,
                    ⟨(some 71), none, .inr (.bslice 1 [(.int .u8 0)] 0 [])⟩,
                    ⟨(some 72), none, .inl (.mv (.t 2))⟩,
                    ⟨(some 73), none, .inl (.mv (.t 14))⟩,
                    ⟨(some 74), none, .inl (.mv (.t 0))⟩,
                    ⟨(some 75), none, .inl (.bin .sub (.t 73) (.t 74))⟩,
                    ⟨(some 76), none, .inl (.bin .add (.t 75) (.c (.int .i64 1)))⟩,
                    ⟨(some 77), none, .inl (.bin .mul (.c (.int .i64 8)) (.t 76))⟩,
                    ⟨(some 78), none, .inl (.mv (.t 14))⟩,
                    ⟨(some 79), none, .inl (.mv (.t 0))⟩,
                    ⟨(some 80), none, .inl (.bin .sub (.t 78) (.t 79))⟩,
                    ⟨(some 81), none, .inl (.mv (.t 17))⟩,
                    ⟨(some 82), none, .inl (.bin .add (.t 80) (.t 81))⟩,
                    ⟨(some 83), none, .inl (.bin .sub (.t 82) (.c (.int .i64 1)))⟩,
                    ⟨(some 84), none, .inl (.bin .mul (.c (.int .i64 8)) (.t 83))⟩,
                    ⟨(some 85), none, .inl (.slice 1 (.t 72) (some (.t 77)) (some (.t 84)) none)⟩,
                    ⟨(some 86), none, .inr (.append 1 1 (.t 71) (.t 85))⟩,
                    ⟨(some 87), none, .inr (.bslice 1 [.nils] 1 [(0, (.t 86))])⟩,
                    ⟨(some 88), none, .inr (.append 1 24 (.t 70) (.t 87))⟩,
                    ⟨(some 13), none, .inl (.mv (.t 88))⟩])
                 (.keep [0, 1, 2, 3, 12, 13, 14, 17])))
               (.skip)))
             (.seq (.reg [⟨(some 89), none, .inl (.mv (.t 14))⟩,
                 ⟨(some 90), none, .inl (.mv (.t 17))⟩,
                 ⟨(some 91), none, .inl (.bin .add (.t 89) (.t 90))⟩,
                 ⟨(some 14), none, .inl (.mv (.t 91))⟩])
              (.keep [0, 1, 2, 3, 12, 13, 14]))))))))))
         (.seq (.seq (.reg [⟨(some 93), none, .inl (.mv (.t 0))⟩,
             ⟨(some 94), none, .inl (.mv (.t 1))⟩,
             ⟨(some 95), none, .inl (.mv (.t 12))⟩,
             ⟨(some 96), none, .inl (.mv (.t 13))⟩,
             ⟨(some 97), none, .inr (.call 12 [(.t 93), (.t 94), (.t 95), (.t 96)])⟩,
             ⟨(some 92), none, .inl (.mv (.t 97))⟩,
             ⟨(some 98), none, .inl (.ext 0 (.t 92))⟩,
             ⟨(some 99), none, .inl (.ext 1 (.t 92))⟩,
             ⟨(some 100), none, .inl (.ext 2 (.t 92))⟩,
             ⟨(some 18), none, .inl (.mv (.t 98))⟩,
             ⟨(some 19), none, .inl (.mv (.t 99))⟩,
             ⟨(some 20), none, .inl (.mv (.t 100))⟩])
          (.keep [2, 3, 12, 13, 18, 19, 20]))
          (.seq (.seq (.seq (.reg [⟨(some 101), none, .inl (.mv (.t 20))⟩,
              ⟨(some 102), none, .inl (.bin .neq (.t 101) (.c (.int .i64 0)))⟩,
              ⟨(some 103), none, .inl (.mv (.t 102))⟩,
              ⟨(some 104), (some (103, false)), .inl (.mv (.t 18))⟩,
              ⟨(some 105), (some (103, false)), .inl (.b2s (.t 104))⟩,
              ⟨(some 106), (some (103, false)), .inl (.mv (.t 2))⟩,
              ⟨(some 107), (some (103, false)), .inl (.b2s (.t 106))⟩,
              ⟨(some 108), (some (103, false)), .inl (.bins .neq (.t 105) (.t 107))⟩,
              ⟨(some 109), none, .inl (.pick (.t 103) (.c (.bool true)) (.t 108))⟩,
              ⟨(some 110), none, .inl (.mv (.t 109))⟩,
              ⟨(some 111), (some (110, false)), .inl (.mv (.t 19))⟩,
              ⟨(some 112), (some (110, false)), .inl (.mv (.t 3))⟩,
              ⟨(some 113), (some (110, false)), .inr (.call 14 [(.t 111), (.t 112)])⟩,
              ⟨(some 114), (some (110, false)), .inl (.un .not (.t 113))⟩,
              ⟨(some 115), none, .inl (.pick (.t 110) (.c (.bool true)) (.t 114))⟩])
           (.keep [12, 13, 115]))
           (.cond (.t 115)
             (.seq (.seq (.reg [⟨(some 8), none, .inl (.mv (.c .nils))⟩,
                 ⟨(some 9), none, .inl (.mv (.c .nils))⟩,
                 ⟨(some 10), none, .inl (.mv (.c (.bool false)))⟩])
              (.keep [8, 9, 10]))
              (.ret))
             (.skip)))
           (.seq (.seq (.reg [⟨(some 116), none, .inl (.mv (.t 12))⟩,
               ⟨(some 117), none, .inl (.mv (.t 13))⟩,
               ⟨(some 8), none, .inl (.mv (.t 116))⟩,
               ⟨(some 9), none, .inl (.mv (.t 117))⟩,
               ⟨(some 10), none, .inl (.mv (.c (.bool true)))⟩])
            (.keep [8, 9, 10]))
            (.ret))))))))))
def fc_joistref11_Read : FC := ⟨118, cmd_joistref11_Read, [.t 8, .t 9, .t 10]⟩
theorem fc_joistref11_Read_ok : compF Try.prog 19 [[0, 1, 2, 3], [0, 1, 2, 3, 11], [0, 1, 2, 3, 34], [8, 9, 10], [0, 1, 2, 3, 12], [0, 1, 2, 3, 12, 13], [0, 1, 2, 3, 12, 13, 14], [0, 1, 2, 3, 12, 13, 14], [0, 1, 2, 3, 12, 13, 14, 38], [0, 1, 2, 3, 12, 13, 14, 15], [0, 1, 2, 3, 12, 13, 14, 15, 17], [0, 1, 2, 3, 12, 13, 14, 15, 17, 57], [8, 9, 10], [0, 1, 2, 3, 12, 13, 14, 15, 17, 60], [0, 1, 2, 3, 12, 13, 14, 17], [0, 1, 2, 3, 12, 13, 14, 17], [0, 1, 2, 3, 12, 13, 14], [2, 3, 12, 13, 18, 19, 20], [12, 13, 115], [8, 9, 10], [8, 9, 10]] = some fc_joistref11_Read := by kernel_rfl
/-- joist/joistref11.Same -/
abbrev F.joistref11_Same : Nat := 20
def cmd_joistref11_Same : Cmd :=
  .seq (.seq (.reg [⟨(some 4), none, .inl (.mv (.c (.bool false)))⟩])
   (.keep [0, 1]))
   (.seq (.seq (.seq (.reg [⟨(some 6), none, .inl (.mv (.t 0))⟩,
       ⟨(some 7), none, .inl (.len (.t 6))⟩,
       ⟨(some 8), none, .inl (.mv (.t 1))⟩,
       ⟨(some 9), none, .inl (.len (.t 8))⟩,
       ⟨(some 10), none, .inl (.bin .neq (.t 7) (.t 9))⟩])
    (.keep [0, 1, 10]))
    (.cond (.t 10)
      (.seq (.seq (.reg [⟨(some 4), none, .inl (.mv (.c (.bool false)))⟩])
       (.keep [4]))
       (.ret))
      (.skip)))
    (.seq (.seq (.seq (.reg [⟨(some 5), none, .inl (.mv (.c (.int .i64 0)))⟩])
     (.keep [0, 1, 5]))
     (.block 0 (.loop [0, 1, 5] (.seq (.seq (.seq (.reg [⟨(some 11), none, .inl (.mv (.t 5))⟩,
         ⟨(some 12), none, .inl (.mv (.t 0))⟩,
         ⟨(some 13), none, .inl (.len (.t 12))⟩,
         ⟨(some 14), none, .inl (.bin .lss (.t 11) (.t 13))⟩])
      (.keep [0, 1, 5, 14]))
      (.cond (.t 14)
        (.skip)
        (.exit 0)))
      (.seq (.block 1 (.seq (.seq (.ord [⟨0, ⟨(some 17), none, .inl (.mv (.t 0))⟩, [], false⟩,
          ⟨1, ⟨(some 18), none, .inl (.mv (.t 5))⟩, [], false⟩,
          ⟨2, ⟨(some 19), none, .inl (.iaddr 3 (.t 17) (.t 18))⟩, [], false⟩,
          ⟨3, ⟨(some 20), none, .inl (.load true 3 (.t 19))⟩, [], false⟩,
          ⟨4, ⟨(some 21), none, .inl (.mv (.t 1))⟩, [], false⟩,
          ⟨5, ⟨(some 22), none, .inl (.mv (.t 5))⟩, [], false⟩,
          ⟨6, ⟨(some 23), none, .inl (.iaddr 3 (.t 21) (.t 22))⟩, [], false⟩,
          ⟨7, ⟨(some 24), none, .inl (.load true 3 (.t 23))⟩, [], false⟩,
          ⟨8, ⟨(some 25), none, .inl (.eqagg true [0, 0, 0] (.t 20) (.t 24))⟩, [], false⟩])
       (.keep [0, 1, 5, 25]))
       (.cond (.t 25)
         (.seq (.seq (.reg [⟨(some 4), none, .inl (.mv (.c (.bool false)))⟩])
          (.keep [4]))
          (.ret))
         (.skip))))
       (.seq (.reg [⟨(some 15), none, .inl (.mv (.t 5))⟩,
           ⟨(some 16), none, .inl (.bin .add (.t 15) (.c (.int .i64 1)))⟩,
           ⟨(some 5), none, .inl (.mv (.t 16))⟩])
        (.keep [0, 1, 5])))))))
     (.seq (.seq (.reg [⟨(some 4), none, .inl (.mv (.c (.bool true)))⟩])
      (.keep [4]))
      (.ret))))
def fc_joistref11_Same : FC := ⟨26, cmd_joistref11_Same, [.t 4]⟩
theorem fc_joistref11_Same_ok : compF Try.prog 20 [[0, 1], [0, 1, 10], [4], [0, 1, 5], [0, 1, 5], [0, 1, 5, 14], [0, 1, 5, 25], [0, 1, 2, 3, 4, 5, 6, 7, 8], [4], [0, 1, 5], [4]] = some fc_joistref11_Same := by kernel_rfl
/-- joist/joistref11.SameRows -/
abbrev F.joistref11_SameRows : Nat := 21
def cmd_joistref11_SameRows : Cmd :=
  .seq (.seq (.reg [⟨(some 4), none, .inl (.mv (.c (.bool false)))⟩])
   (.keep [0, 1]))
   (.seq (.seq (.seq (.reg [⟨(some 6), none, .inl (.mv (.t 0))⟩,
       ⟨(some 7), none, .inl (.len (.t 6))⟩,
       ⟨(some 8), none, .inl (.mv (.t 1))⟩,
       ⟨(some 9), none, .inl (.len (.t 8))⟩,
       ⟨(some 10), none, .inl (.bin .neq (.t 7) (.t 9))⟩])
    (.keep [0, 1, 10]))
    (.cond (.t 10)
      (.seq (.seq (.reg [⟨(some 4), none, .inl (.mv (.c (.bool false)))⟩])
       (.keep [4]))
       (.ret))
      (.skip)))
    (.seq (.seq (.seq (.reg [⟨(some 5), none, .inl (.mv (.c (.int .i64 0)))⟩])
     (.keep [0, 1, 5]))
     (.block 0 (.loop [0, 1, 5] (.seq (.seq (.seq (.reg [⟨(some 11), none, .inl (.mv (.t 5))⟩,
         ⟨(some 12), none, .inl (.mv (.t 0))⟩,
         ⟨(some 13), none, .inl (.len (.t 12))⟩,
         ⟨(some 14), none, .inl (.bin .lss (.t 11) (.t 13))⟩])
      (.keep [0, 1, 5, 14]))
      (.cond (.t 14)
        (.skip)
        (.exit 0)))
      (.seq (.block 1 (.seq (.seq (.ord [⟨0, ⟨(some 17), none, .inl (.mv (.t 0))⟩, [], false⟩,
          ⟨1, ⟨(some 18), none, .inl (.mv (.t 5))⟩, [], false⟩,
          ⟨2, ⟨(some 19), none, .inl (.iaddr 1 (.t 17) (.t 18))⟩, [], false⟩,
          ⟨3, ⟨(some 20), none, .inl (.load false 1 (.t 19))⟩, [], false⟩,
          ⟨4, ⟨(some 21), none, .inl (.b2s (.t 20))⟩, [], false⟩,
          ⟨5, ⟨(some 22), none, .inl (.mv (.t 1))⟩, [], false⟩,
          ⟨6, ⟨(some 23), none, .inl (.mv (.t 5))⟩, [], false⟩,
          ⟨7, ⟨(some 24), none, .inl (.iaddr 1 (.t 22) (.t 23))⟩, [], false⟩,
          ⟨8, ⟨(some 25), none, .inl (.load false 1 (.t 24))⟩, [], false⟩,
          ⟨9, ⟨(some 26), none, .inl (.b2s (.t 25))⟩, [], false⟩,
          ⟨10, ⟨(some 27), none, .inl (.bins .neq (.t 21) (.t 26))⟩, [], false⟩])
       (.keep [0, 1, 5, 27]))
       (.cond (.t 27)
         (.seq (.seq (.reg [⟨(some 4), none, .inl (.mv (.c (.bool false)))⟩])
          (.keep [4]))
          (.ret))
         (.skip))))
       (.seq (.reg [⟨(some 15), none, .inl (.mv (.t 5))⟩,
           ⟨(some 16), none, .inl (.bin .add (.t 15) (.c (.int .i64 1)))⟩,
           ⟨(some 5), none, .inl (.mv (.t 16))⟩])
        (.keep [0, 1, 5])))))))
     (.seq (.seq (.reg [⟨(some 4), none, .inl (.mv (.c (.bool true)))⟩])
      (.keep [4]))
      (.ret))))
def fc_joistref11_SameRows : FC := ⟨28, cmd_joistref11_SameRows, [.t 4]⟩
theorem fc_joistref11_SameRows_ok : compF Try.prog 21 [[0, 1], [0, 1, 10], [4], [0, 1, 5], [0, 1, 5], [0, 1, 5, 14], [0, 1, 5, 27], [0, 1, 2, 3, 4, 5, 6, 7, 8, 9, 10], [4], [0, 1, 5], [4]] = some fc_joistref11_SameRows := by kernel_rfl
/-- joist/words.Get -/
abbrev F.words_Get : Nat := 22
def cmd_words_Get : Cmd :=
  .seq (.seq (.reg [⟨(some 4), none, .inl (.mv (.c (.int .i64 0)))⟩,
      ⟨(some 5), none, .inl (.mv (.c (.bool false)))⟩])
   (.keep [0, 1]))
   (.seq (.seq (.reg [⟨(some 7), none, .inl (.mv (.t 0))⟩,
       ⟨(some 8), none, .inl (.mv (.t 1))⟩,
       ⟨(some 9), none, .inr (.call 40 [(.t 7), (.t 8)])⟩,
       ⟨(some 6), none, .inl (.mv (.t 9))⟩])
    (.keep [6]))
    (.seq (.seq (.seq (.reg [⟨(some 10), none, .inl (.mv (.t 6))⟩,
        ⟨(some 11), none, .inl (.eqnil false (.t 10))⟩])
     (.keep [6, 11]))
     (.cond (.t 11)
       (.seq (.seq (.reg [⟨(some 4), none, .inl (.mv (.c (.int .i64 0)))⟩,
           ⟨(some 5), none, .inl (.mv (.c (.bool false)))⟩])
        (.keep [4, 5]))
        (.ret))
       (.skip)))
     (.seq (.seq (.reg [⟨(some 12), none, .inl (.mv (.t 6))⟩,
         ⟨(some 13), none, .inr (.call 41 [(.t 12)])⟩,
         ⟨(some 14), none, .inl (.ext 0 (.t 13))⟩,
         ⟨(some 15), none, .inl (.ext 1 (.t 13))⟩,
         ⟨(some 4), none, .inl (.mv (.t 14))⟩,
         ⟨(some 5), none, .inl (.mv (.t 15))⟩])
      (.keep [4, 5]))
      (.ret))))
def fc_words_Get : FC := ⟨16, cmd_words_Get, [.t 4, .t 5]⟩
theorem fc_words_Get_ok : compF Try.prog 22 [[0, 1], [6], [6, 11], [4, 5], [4, 5]] = some fc_words_Get := by kernel_rfl
/-- joist/words.Zero -/
abbrev F.words_Zero : Nat := 23
def cmd_words_Zero : Cmd :=
  .seq (.seq (.reg [⟨(some 2), none, .inl (.mv (.c (.bool false)))⟩])
   (.keep [0]))
   (.seq (.seq (.seq (.reg [⟨(some 5), none, .inl (.mv (.t 0))⟩,
       ⟨(some 6), none, .inl (.len (.t 5))⟩,
       ⟨(some 7), none, .inl (.mv (.c (.int .i64 0)))⟩])
    (.keep [5, 6, 7]))
    (.block 0 (.loop [5, 6, 7] (.seq (.seq (.reg [⟨(some 8), none, .inl (.bin .lss (.t 7) (.t 6))⟩])
     (.keep [5, 6, 7, 8]))
     (.seq (.cond (.t 8)
       (.skip)
       (.exit 0))
      (.seq (.block 1 (.seq (.seq (.reg [⟨(some 9), none, .inl (.iaddr 1 (.t 5) (.t 7))⟩,
          ⟨(some 10), none, .inl (.load false 1 (.t 9))⟩,
          ⟨(some 4), none, .inl (.mv (.t 10))⟩])
       (.keep [4, 5, 6, 7]))
       (.seq (.seq (.reg [⟨(some 11), none, .inl (.mv (.t 4))⟩,
           ⟨(some 12), none, .inl (.bin .neq (.t 11) (.c (.int .u8 0)))⟩])
        (.keep [5, 6, 7, 12]))
        (.cond (.t 12)
          (.seq (.seq (.reg [⟨(some 2), none, .inl (.mv (.c (.bool false)))⟩])
           (.keep [2]))
           (.ret))
          (.skip)))))
       (.seq (.reg [⟨(some 13), none, .inl (.bin .add (.t 7) (.c (.int .i64 1)))⟩,
           ⟨(some 7), none, .inl (.mv (.t 13))⟩])
        (.keep [5, 6, 7]))))))))
    (.seq (.seq (.reg [⟨(some 2), none, .inl (.mv (.c (.bool true)))⟩])
     (.keep [2]))
     (.ret)))
def fc_words_Zero : FC := ⟨14, cmd_words_Zero, [.t 2]⟩
theorem fc_words_Zero_ok : compF Try.prog 23 [[0], [5, 6, 7], [5, 6, 7], [5, 6, 7, 8], [4, 5, 6, 7], [5, 6, 7, 12], [2], [5, 6, 7], [2]] = some fc_words_Zero := by kernel_rfl
/-- joist/words.Of -/
abbrev F.words_Of : Nat := 24
def cmd_words_Of : Cmd :=
  .seq (.seq (.reg [⟨(some 2), none, .inl (.mv (.c .nils))⟩,
      ⟨(some 3), none, .inl (.mv (.c (.int .i64 0)))⟩])
   (.keep [0]))
   (.seq (.seq (.reg [⟨(some 7), none, .inl (.mv (.t 0))⟩,
       ⟨(some 8), none, .inl (.len (.t 7))⟩,
       ⟨(some 9), none, .inl (.bin .mul (.t 8) (.c (.int .i64 8)))⟩,
       ⟨(some 10), none, .inr (.mksl 1 1 [(.int .u8 0)] (.t 9) (.t 9))⟩,
       ⟨(some 4), none, .inl (.mv (.t 10))⟩])
    (.keep [0, 4]))
    (.seq (.seq (.seq (.reg [⟨(some 11), none, .inl (.mv (.t 0))⟩,
        ⟨(some 12), none, .inl (.len (.t 11))⟩,
        ⟨(some 13), none, .inl (.mv (.c (.int .i64 0)))⟩])
     (.keep [4, 11, 12, 13]))
     (.block 0 (.loop [4, 11, 12, 13] (.seq (.seq (.reg [⟨(some 14), none, .inl (.bin .lss (.t 13) (.t 12))⟩])
      (.keep [4, 11, 12, 13, 14]))
      (.seq (.cond (.t 14)
        (.skip)
        (.exit 0))
       (.seq (.block 1 (.seq (.seq (.reg [⟨(some 15), none, .inl (.mv (.t 13))⟩,
           ⟨(some 16), none, .inl (.iaddr 1 (.t 11) (.t 13))⟩,
           ⟨(some 17), none, .inl (.load false 1 (.t 16))⟩,
           ⟨(some 5), none, .inl (.mv (.t 15))⟩,
           ⟨(some 6), none, .inl (.mv (.t 17))⟩])
        (.keep [4, 5, 6, 11, 12, 13]))
        (.seq (.seq (.seq (.reg [⟨(some 18), none, .inl (.mv (.t 6))⟩,
            ⟨(some 19), none, .inr (.call 42 [(.t 18)])⟩,
            ⟨(some 20), none, .inl (.un .not (.t 19))⟩])
         (.keep [4, 5, 6, 11, 12, 13, 20]))
         (.cond (.t 20)
           (.seq (.seq (.reg [⟨(some 2), none, .inl (.mv (.c .nils))⟩,
               ⟨(some 3), none, .inl (.mv (.c (.int .i64 4)))⟩])
            (.keep [2, 3]))
            (.ret))
           (.skip)))
         (.seq (.reg [⟨(some 21), none, .inl (.mv (.t 4))⟩,
             ⟨(some 22), none, .inl (.mv (.t 5))⟩,
             ⟨(some 23), none, .inr (.call 40 [(.t 21), (.t 22)])⟩,
             ⟨(some 24), none, .inl (.mv (.t 6))⟩,
             ⟨(some 25), none, .inr (.call 43 [(.t 23), (.t 24)])⟩])
          (.keep [4, 11, 12, 13])))))
        (.seq (.reg [⟨(some 26), none, .inl (.bin .add (.t 13) (.c (.int .i64 1)))⟩,
            ⟨(some 13), none, .inl (.mv (.t 26))⟩])
         (.keep [4, 11, 12, 13]))))))))
     (.seq (.seq (.reg [⟨(some 27), none, .inl (.mv (.t 4))⟩,
         ⟨(some 2), none, .inl (.mv (.t 27))⟩,
         ⟨(some 3), none, .inl (.mv (.c (.int .i64 0)))⟩])
      (.keep [2, 3]))
      (.ret))))
def fc_words_Of : FC := ⟨28, cmd_words_Of, [.t 2, .t 3]⟩
theorem fc_words_Of_ok : compF Try.prog 24 [[0], [0, 4], [4, 11, 12, 13], [4, 11, 12, 13], [4, 11, 12, 13, 14], [4, 5, 6, 11, 12, 13], [4, 5, 6, 11, 12, 13, 20], [2, 3], [4, 11, 12, 13], [4, 11, 12, 13], [2, 3]] = some fc_words_Of := by kernel_rfl
/-- joist/tags.right -/
abbrev F.tags_right : Nat := 25
def cmd_tags_right : Cmd :=
  .seq (.seq (.reg [⟨(some 8), none, .inl (.mv (.c (.bool false)))⟩])
   (.keep [0, 1, 2, 3]))
   (.seq (.seq (.seq (.reg [⟨(some 12), none, .inl (.mv (.t 0))⟩,
       ⟨(some 13), none, .inl (.mv (.t 1))⟩,
       ⟨(some 14), none, .inl (.mv (.t 2))⟩,
       ⟨(some 15), none, .inr (.call 27 [(.t 14)])⟩,
       ⟨(some 16), none, .inr (.call 34 [(.t 12), (.t 13), (.t 15)])⟩,
       ⟨(some 17), none, .inl (.un .not (.t 16))⟩,
       ⟨(some 18), none, .inl (.mv (.t 17))⟩,
       ⟨(some 19), (some (18, false)), .inl (.mv (.t 2))⟩,
       ⟨(some 20), (some (18, false)), .inl (.len (.t 19))⟩,
       ⟨(some 21), (some (18, false)), .inl (.mv (.t 3))⟩,
       ⟨(some 22), (some (18, false)), .inl (.len (.t 21))⟩,
       ⟨(some 23), (some (18, false)), .inl (.bin .neq (.t 20) (.t 22))⟩,
       ⟨(some 24), none, .inl (.pick (.t 18) (.c (.bool true)) (.t 23))⟩])
    (.keep [2, 3, 24]))
    (.cond (.t 24)
      (.seq (.seq (.reg [⟨(some 8), none, .inl (.mv (.c (.bool false)))⟩])
       (.keep [8]))
       (.ret))
      (.skip)))
    (.seq (.seq (.reg [⟨(some 9), none, .inr (.alloc [(.bool false), (.bool false), (.bool false), (.bool false), (.bool false), (.bool false), (.bool false), (.bool false), (.bool false), (.bool false), (.bool false), (.bool false), (.bool false), (.bool false), (.bool false), (.bool false), (.bool false), (.bool false), (.bool false), (.bool false), (.bool false), (.bool false), (.bool false), (.bool false), (.bool false), (.bool false), (.bool false), (.bool false), (.bool false), (.bool false), (.bool false), (.bool false)])⟩])
     (.keep [2, 3, 9]))
     (.seq (.seq (.seq (.reg [⟨(some 25), none, .inl (.mv (.t 2))⟩,
         ⟨(some 26), none, .inl (.len (.t 25))⟩,
         ⟨(some 27), none, .inl (.mv (.c (.int .i64 0)))⟩])
      (.keep [3, 9, 25, 26, 27]))
      (.block 0 (.loop [3, 9, 25, 26, 27] (.seq (.seq (.reg [⟨(some 28), none, .inl (.bin .lss (.t 27) (.t 26))⟩])
       (.keep [3, 9, 25, 26, 27, 28]))
       (.seq (.cond (.t 28)
         (.skip)
         (.exit 0))
        (.seq (.block 1 (.seq (.seq (.reg [⟨(some 29), none, .inl (.mv (.t 27))⟩,
            ⟨(some 30), none, .inl (.iaddr 3 (.t 25) (.t 27))⟩,
            ⟨(some 31), none, .inl (.load true 3 (.t 30))⟩,
            ⟨(some 11), none, .inr (.alloc [(.int .i64 0), (.int .i64 0), (.int .i64 0)])⟩,
            ⟨(some 10), none, .inl (.mv (.t 29))⟩,
            ⟨none, none, .inr (.store 3 (.t 11) (.t 31))⟩])
         (.keep [3, 9, 10, 11, 25, 26, 27]))
         (.seq (.seq (.seq (.ord [⟨0, ⟨(some 32), none, .inl (.faddr 2 (.t 11))⟩, [], false⟩,
             ⟨1, ⟨(some 33), none, .inl (.load false 1 (.t 32))⟩, [], false⟩,
             ⟨2, ⟨(some 34), none, .inl (.bin .lss (.t 33) (.c (.int .i64 0)))⟩, [], false⟩,
             ⟨3, ⟨(some 35), none, .inl (.mv (.t 34))⟩, [], false⟩,
             ⟨4, ⟨(some 36), (some (35, false)), .inl (.faddr 2 (.t 11))⟩, [], false⟩,
             ⟨5, ⟨(some 37), (some (35, false)), .inl (.load false 1 (.t 36))⟩, [], false⟩,
             ⟨6, ⟨(some 38), (some (35, false)), .inl (.bin .geq (.t 37) (.c (.int .i64 32)))⟩, [], false⟩,
             ⟨7, ⟨(some 39), none, .inl (.pick (.t 35) (.c (.bool true)) (.t 38))⟩, [], false⟩,
             ⟨8, ⟨(some 40), none, .inl (.mv (.t 39))⟩, [], false⟩,
             ⟨9, ⟨(some 41), (some (40, false)), .inl (.faddr 2 (.t 11))⟩, [], false⟩,
             ⟨10, ⟨(some 42), (some (40, false)), .inl (.load false 1 (.t 41))⟩, [], false⟩,
             ⟨11, ⟨(some 43), (some (40, false)), .inl (.iaddrA 32 1 (.t 9) (.t 42))⟩, [], false⟩,
             ⟨12, ⟨(some 44), (some (40, false)), .inl (.load false 1 (.t 43))⟩, [], false⟩,
             ⟨13, ⟨(some 45), none, .inl (.pick (.t 40) (.c (.bool true)) (.t 44))⟩, [], false⟩,
             ⟨14, ⟨(some 46), none, .inl (.mv (.t 45))⟩, [], false⟩,
             ⟨15, ⟨(some 47), (some (46, false)), .inl (.mv (.t 3))⟩, [], false⟩,
             ⟨16, ⟨(some 48), (some (46, false)), .inl (.mv (.t 10))⟩, [], false⟩,
             ⟨17, ⟨(some 49), (some (46, false)), .inl (.iaddr 1 (.t 47) (.t 48))⟩, [], false⟩,
             ⟨18, ⟨(some 50), (some (46, false)), .inl (.load false 1 (.t 49))⟩, [], false⟩,
             ⟨19, ⟨(some 51), (some (46, false)), .inl (.len (.t 50))⟩, [], false⟩,
             ⟨20, ⟨(some 52), (some (46, false)), .inl (.faddr 1 (.t 11))⟩, [], false⟩,
             ⟨21, ⟨(some 53), (some (46, false)), .inl (.load false 1 (.t 52))⟩, [], false⟩,
             ⟨22, ⟨(some 54), (some (46, false)), .inl (.bin .sub (.t 53) (.c (.int .i64 2)))⟩, [], false⟩,
             ⟨23, ⟨(some 55), (some (46, false)), .inl (.bin .mul (.t 54) (.c (.int .i64 8)))⟩, [], false⟩,
             ⟨24, ⟨(some 56), (some (46, false)), .inl (.bin .gtr (.t 51) (.t 55))⟩, [], false⟩,
             ⟨25, ⟨(some 57), none, .inl (.pick (.t 46) (.c (.bool true)) (.t 56))⟩, [], false⟩])
          (.keep [3, 9, 11, 25, 26, 27, 57]))
          (.cond (.t 57)
            (.seq (.seq (.reg [⟨(some 8), none, .inl (.mv (.c (.bool false)))⟩])
             (.keep [8]))
             (.ret))
            (.skip)))
          (.seq (.reg [⟨(some 58), none, .inl (.faddr 2 (.t 11))⟩,
              ⟨(some 59), none, .inl (.load false 1 (.t 58))⟩,
              ⟨(some 60), none, .inl (.iaddrA 32 1 (.t 9) (.t 59))⟩,
              ⟨none, none, .inr (.store 1 (.t 60) (.c (.bool true)))⟩])
           (.keep [3, 9, 25, 26, 27])))))
         (.seq (.reg [⟨(some 61), none, .inl (.bin .add (.t 27) (.c (.int .i64 1)))⟩,
             ⟨(some 27), none, .inl (.mv (.t 61))⟩])
          (.keep [3, 9, 25, 26, 27]))))))))
      (.seq (.seq (.reg [⟨(some 8), none, .inl (.mv (.c (.bool true)))⟩])
       (.keep [8]))
       (.ret)))))
def fc_tags_right : FC := ⟨62, cmd_tags_right, [.t 8]⟩
theorem fc_tags_right_ok : compF Try.prog 25 [[0, 1, 2, 3], [2, 3, 24], [8], [2, 3, 9], [3, 9, 25, 26, 27], [3, 9, 25, 26, 27], [3, 9, 25, 26, 27, 28], [3, 9, 10, 11, 25, 26, 27], [3, 9, 11, 25, 26, 27, 57], [0, 1, 2, 3, 4, 5, 6, 7, 8, 9, 10, 11, 12, 13, 14, 15, 16, 17, 18, 19, 20, 21, 22, 23, 24, 25], [8], [3, 9, 25, 26, 27], [3, 9, 25, 26, 27], [8]] = some fc_tags_right := by kernel_rfl
/-- joist/gaps.Gaps -/
abbrev F.gaps_Gaps : Nat := 26
def cmd_gaps_Gaps : Cmd :=
  .seq (.seq (.reg [⟨(some 6), none, .inl (.mv (.c .nils))⟩,
      ⟨(some 7), none, .inl (.mv (.c (.int .i64 0)))⟩])
   (.keep [0, 1, 2]))
   (.seq (.seq (.reg [⟨(some 8), none, .inr (.alloc [.nils])⟩])
    (.keep [0, 1, 2, 8]))
    (.seq (.seq (.reg [⟨(some 10), none, .inl (.mv (.t 0))⟩,
        ⟨(some 11), none, .inl (.mv (.t 1))⟩,
        ⟨(some 12), none, .inl (.mv (.t 2))⟩,
        ⟨(some 13), none, .inl (.mkfn 45 [(.t 8)])⟩,
        ⟨(some 14), none, .inr (.call 44 [(.t 10), (.t 11), (.t 12), (.t 13)])⟩,
        ⟨(some 9), none, .inl (.mv (.t 14))⟩])
     (.keep [8, 9]))
     (.seq (.seq (.seq (.reg [⟨(some 15), none, .inl (.mv (.t 9))⟩,
         ⟨(some 16), none, .inl (.un .not (.t 15))⟩])
      (.keep [8, 16]))
      (.cond (.t 16)
        (.seq (.seq (.reg [⟨(some 6), none, .inl (.mv (.c .nils))⟩,
            ⟨(some 7), none, .inl (.mv (.c (.int .i64 1)))⟩])
         (.keep [6, 7]))
         (.ret))
        (.skip)))
      (.seq (.seq (.reg [⟨(some 17), none, .inl (.load false 1 (.t 8))⟩,
          ⟨(some 6), none, .inl (.mv (.t 17))⟩,
          ⟨(some 7), none, .inl (.mv (.c (.int .i64 0)))⟩])
       (.keep [6, 7]))
       (.ret)))))
def fc_gaps_Gaps : FC := ⟨18, cmd_gaps_Gaps, [.t 6, .t 7]⟩
theorem fc_gaps_Gaps_ok : compF Try.prog 26 [[0, 1, 2], [0, 1, 2, 8], [8, 9], [8, 16], [6, 7], [6, 7]] = some fc_gaps_Gaps := by kernel_rfl
/-- joist/tags.spansOf -/
abbrev F.tags_spansOf : Nat := 27
def cmd_tags_spansOf : Cmd :=
  .seq (.seq (.reg [⟨(some 2), none, .inl (.mv (.c .nils))⟩])
   (.keep [0]))
   (.seq (.seq (.reg [⟨(some 3), none, .inl (.mv (.c .nils))⟩])
    (.keep [0, 3]))
    (.seq (.seq (.seq (.reg [⟨(some 6), none, .inl (.mv (.t 0))⟩,
        ⟨(some 7), none, .inl (.len (.t 6))⟩,
        ⟨(some 8), none, .inl (.mv (.c (.int .i64 0)))⟩])
     (.keep [3, 6, 7, 8]))
     (.block 0 (.loop [3, 6, 7, 8] (.seq (.seq (.reg [⟨(some 9), none, .inl (.bin .lss (.t 8) (.t 7))⟩])
      (.keep [3, 6, 7, 8, 9]))
      (.seq (.cond (.t 9)
        (.skip)
        (.exit 0))
       (.seq (.block 1 (.seq (.seq (.reg [⟨(some 10), none, .inl (.iaddr 3 (.t 6) (.t 8))⟩,
           ⟨(some 11), none, .inl (.load true 3 (.t 10))⟩,
           ⟨(some 5), none, .inr (.alloc [(.int .i64 0), (.int .i64 0), (.int .i64 0)])⟩,
           ⟨none, none, .inr (.store 3 (.t 5) (.t 11))⟩])
        (.keep [3, 5, 6, 7, 8]))
        (.seq (.reg [⟨(some 12), none, .inl (.mv (.t 3))⟩,
            ⟨(some 13), none, .inl (.faddr 0 (.t 5))⟩,
            ⟨(some 14), none, .inl (.load false 1 (.t 13))⟩,
            ⟨(some 15), none, .inl (.faddr 1 (.t 5))⟩,
            ⟨(some 16), none, .inl (.load false 1 (.t 15))⟩,
            ⟨(some 17), none, .inl (.build [(.int .i64 0), (.int .i64 0)] [(0, 1, (.t 14)), (1, 1, (.t 16))])⟩,
            ⟨(some 18), none, .inr (.bslice 2 [(.int .i64 0), (.int .i64 0)] 1 [(0, (.t 17))])⟩,
            ⟨(some 19), none, .inr (.append 2 16 (.t 12) (.t 18))⟩,
            ⟨(some 3), none, .inl (.mv (.t 19))⟩])
         (.keep [3, 6, 7, 8]))))
        (.seq (.reg [⟨(some 20), none, .inl (.bin .add (.t 8) (.c (.int .i64 1)))⟩,
            ⟨(some 8), none, .inl (.mv (.t 20))⟩])
         (.keep [3, 6, 7, 8]))))))))
     (.seq (.seq (.reg [⟨(some 21), none, .inl (.mv (.t 3))⟩,
         ⟨(some 2), none, .inl (.mv (.t 21))⟩])
      (.keep [2]))
      (.ret))))
def fc_tags_spansOf : FC := ⟨22, cmd_tags_spansOf, [.t 2]⟩
theorem fc_tags_spansOf_ok : compF Try.prog 27 [[0], [0, 3], [3, 6, 7, 8], [3, 6, 7, 8], [3, 6, 7, 8, 9], [3, 5, 6, 7, 8], [3, 6, 7, 8], [3, 6, 7, 8], [2]] = some fc_tags_spansOf := by kernel_rfl
/-- joist/tags.chains -/
abbrev F.tags_chains : Nat := 28
def cmd_tags_chains : Cmd :=
  .seq (.seq (.reg [⟨(some 2), none, .inl (.mv (.c .nils))⟩,
      ⟨(some 3), none, .inl (.mv (.c .nils))⟩])
   (.keep [0]))
   (.seq (.seq (.reg [⟨(some 12), none, .inl (.mv (.t 0))⟩,
       ⟨(some 13), none, .inl (.len (.t 12))⟩,
       ⟨(some 14), none, .inr (.mksl 2 16 [(.int .i64 0), (.int .i64 0)] (.t 13) (.t 13))⟩,
       ⟨(some 4), none, .inl (.mv (.t 14))⟩])
    (.keep [0, 4]))
    (.seq (.seq (.reg [⟨(some 15), none, .inr (.mksl 1 8 [(.int .i64 0)] (.c (.int .i64 7)) (.c (.int .i64 7)))⟩,
        ⟨(some 5), none, .inl (.mv (.t 15))⟩])
     (.keep [0, 4, 5]))
     (.seq (.seq (.reg [⟨(some 6), none, .inr (.alloc [(.int .i64 0), (.int .i64 0), (.int .i64 0), (.int .i64 0), (.int .i64 0), (.int .i64 0), (.int .i64 0)])⟩])
      (.keep [0, 4, 5, 6]))
      (.seq (.seq (.seq (.reg [⟨(some 16), none, .inl (.mv (.t 0))⟩,
          ⟨(some 17), none, .inl (.len (.t 16))⟩,
          ⟨(some 18), none, .inl (.mv (.c (.int .i64 0)))⟩])
       (.keep [0, 4, 5, 6, 16, 17, 18]))
       (.block 0 (.loop [0, 4, 5, 6, 16, 17, 18] (.seq (.seq (.reg [⟨(some 19), none, .inl (.bin .lss (.t 18) (.t 17))⟩])
        (.keep [0, 4, 5, 6, 16, 17, 18, 19]))
        (.seq (.cond (.t 19)
          (.skip)
          (.exit 0))
         (.seq (.block 1 (.seq (.seq (.reg [⟨(some 20), none, .inl (.mv (.t 18))⟩,
             ⟨(some 21), none, .inl (.iaddr 2 (.t 16) (.t 18))⟩,
             ⟨(some 22), none, .inl (.load true 2 (.t 21))⟩,
             ⟨(some 8), none, .inr (.alloc [(.int .i64 0), (.int .i64 0)])⟩,
             ⟨(some 7), none, .inl (.mv (.t 20))⟩,
             ⟨none, none, .inr (.store 2 (.t 8) (.t 22))⟩])
          (.keep [0, 4, 5, 6, 7, 8, 16, 17, 18]))
          (.seq (.seq (.reg [⟨(some 24), none, .inl (.faddr 1 (.t 8))⟩,
              ⟨(some 25), none, .inl (.load false 1 (.t 24))⟩,
              ⟨(some 26), none, .inr (.call 16 [(.t 25)])⟩,
              ⟨(some 23), none, .inl (.mv (.t 26))⟩,
              ⟨(some 27), none, .inl (.ext 0 (.t 23))⟩,
              ⟨(some 28), none, .inl (.ext 1 (.t 23))⟩,
              ⟨(some 9), none, .inl (.mv (.t 27))⟩,
              ⟨(some 10), none, .inl (.mv (.t 28))⟩])
           (.keep [0, 4, 5, 6, 7, 8, 9, 16, 17, 18]))
           (.seq (.seq (.reg [⟨(some 29), none, .inl (.mv (.t 9))⟩,
               ⟨(some 30), none, .inl (.iaddrA 7 1 (.t 6) (.t 29))⟩,
               ⟨(some 31), none, .inl (.load false 1 (.t 30))⟩,
               ⟨(some 11), none, .inl (.mv (.t 31))⟩])
            (.keep [0, 4, 5, 6, 7, 8, 9, 11, 16, 17, 18]))
            (.seq (.seq (.seq (.reg [⟨(some 32), none, .inl (.mv (.t 11))⟩,
                ⟨(some 33), none, .inl (.bin .gtr (.t 32) (.c (.int .i64 0)))⟩])
             (.keep [0, 4, 5, 6, 7, 8, 9, 11, 16, 17, 18, 33]))
             (.cond (.t 33)
               (.seq (.ord [⟨0, ⟨(some 34), none, .inl (.mv (.t 4))⟩, [], false⟩,
                   ⟨1, ⟨(some 35), none, .inl (.mv (.t 11))⟩, [], false⟩,
                   ⟨2, ⟨(some 36), none, .inl (.bin .sub (.t 35) (.c (.int .i64 1)))⟩, [], false⟩,
                   ⟨3, ⟨(some 37), none, .inl (.mv (.t 4))⟩, [], true⟩,
                   ⟨4, ⟨(some 38), none, .inl (.mv (.t 7))⟩, [], true⟩,
                   ⟨5, ⟨(some 39), none, .inl (.faddr 0 (.t 8))⟩, [], false⟩,
                   ⟨6, ⟨(some 40), none, .inl (.load false 1 (.t 39))⟩, [], false⟩,
                   ⟨7, ⟨(some 41), none, .inl (.bin .add (.t 40) (.c (.int .i64 1)))⟩, [], false⟩,
                   ⟨8, ⟨(some 42), none, .inl (.mv (.t 0))⟩, [], false⟩,
                   ⟨9, ⟨(some 43), none, .inl (.mv (.t 11))⟩, [], false⟩,
                   ⟨10, ⟨(some 44), none, .inl (.bin .sub (.t 43) (.c (.int .i64 1)))⟩, [], false⟩,
                   ⟨11, ⟨(some 45), none, .inl (.iaddr 2 (.t 42) (.t 44))⟩, [], false⟩,
                   ⟨12, ⟨(some 46), none, .inl (.faddr 0 (.t 45))⟩, [], false⟩,
                   ⟨13, ⟨(some 47), none, .inl (.load false 1 (.t 46))⟩, [], false⟩,
                   ⟨14, ⟨(some 48), none, .inl (.bin .add (.t 47) (.c (.int .i64 1)))⟩, [], true⟩,
                   ⟨15, ⟨(some 49), none, .inl (.iaddr 2 (.t 34) (.t 36))⟩, [], false⟩,
                   ⟨16, ⟨(some 50), none, .inl (.faddr 0 (.t 49))⟩, [], false⟩,
                   ⟨17, ⟨none, none, .inr (.store 1 (.t 50) (.t 41))⟩, [3, 4, 14], false⟩,
                   ⟨18, ⟨(some 51), none, .inl (.iaddr 2 (.t 37) (.t 38))⟩, [], false⟩,
                   ⟨19, ⟨(some 52), none, .inl (.faddr 1 (.t 51))⟩, [], false⟩,
                   ⟨20, ⟨none, none, .inr (.store 1 (.t 52) (.t 48))⟩, [], false⟩])
                (.keep [0, 4, 5, 6, 7, 9, 16, 17, 18]))
               (.seq (.reg [⟨(some 53), none, .inl (.mv (.t 5))⟩,
                   ⟨(some 54), none, .inl (.mv (.t 9))⟩,
                   ⟨(some 55), none, .inl (.faddr 0 (.t 8))⟩,
                   ⟨(some 56), none, .inl (.load false 1 (.t 55))⟩,
                   ⟨(some 57), none, .inl (.bin .add (.t 56) (.c (.int .i64 1)))⟩,
                   ⟨(some 58), none, .inl (.iaddr 1 (.t 53) (.t 54))⟩,
                   ⟨none, none, .inr (.store 1 (.t 58) (.t 57))⟩])
                (.keep [0, 4, 5, 6, 7, 9, 16, 17, 18]))))
             (.seq (.reg [⟨(some 59), none, .inl (.mv (.t 9))⟩,
                 ⟨(some 60), none, .inl (.mv (.t 7))⟩,
                 ⟨(some 61), none, .inl (.bin .add (.t 60) (.c (.int .i64 1)))⟩,
                 ⟨(some 62), none, .inl (.iaddrA 7 1 (.t 6) (.t 59))⟩,
                 ⟨none, none, .inr (.store 1 (.t 62) (.t 61))⟩])
              (.keep [0, 4, 5, 6, 16, 17, 18])))))))
          (.seq (.reg [⟨(some 63), none, .inl (.bin .add (.t 18) (.c (.int .i64 1)))⟩,
              ⟨(some 18), none, .inl (.mv (.t 63))⟩])
           (.keep [0, 4, 5, 6, 16, 17, 18]))))))))
       (.seq (.seq (.reg [⟨(some 64), none, .inl (.mv (.t 4))⟩,
           ⟨(some 65), none, .inl (.mv (.t 5))⟩,
           ⟨(some 2), none, .inl (.mv (.t 64))⟩,
           ⟨(some 3), none, .inl (.mv (.t 65))⟩])
        (.keep [2, 3]))
        (.ret))))))
def fc_tags_chains : FC := ⟨66, cmd_tags_chains, [.t 2, .t 3]⟩
theorem fc_tags_chains_ok : compF Try.prog 28 [[0], [0, 4], [0, 4, 5], [0, 4, 5, 6], [0, 4, 5, 6, 16, 17, 18], [0, 4, 5, 6, 16, 17, 18], [0, 4, 5, 6, 16, 17, 18, 19], [0, 4, 5, 6, 7, 8, 16, 17, 18], [0, 4, 5, 6, 7, 8, 9, 16, 17, 18], [0, 4, 5, 6, 7, 8, 9, 11, 16, 17, 18], [0, 4, 5, 6, 7, 8, 9, 11, 16, 17, 18, 33], [0, 4, 5, 6, 7, 9, 16, 17, 18], [0, 1, 2, 3, 4, 5, 6, 7, 8, 9, 10, 11, 12, 13, 14, 15, 16, 17, 18, 19, 20], [0, 4, 5, 6, 7, 9, 16, 17, 18], [0, 4, 5, 6, 16, 17, 18], [0, 4, 5, 6, 16, 17, 18], [2, 3]] = some fc_tags_chains := by kernel_rfl
/-- joist/tags.piece -/
abbrev F.tags_piece : Nat := 29
def cmd_tags_piece : Cmd :=
  .seq (.seq (.reg [⟨(some 6), none, .inl (.mv (.c .nils))⟩])
   (.keep [0, 1, 2]))
   (.seq (.seq (.reg [⟨(some 11), none, .inl (.mv (.t 0))⟩,
       ⟨(some 12), none, .inl (.bin .mul (.t 11) (.c (.int .i64 64)))⟩,
       ⟨(some 13), none, .inl (.mv (.t 1))⟩,
       ⟨(some 14), none, .inl (.bin .add (.t 12) (.t 13))⟩,
       ⟨(some 15), none, .inr (.bslice 1 [(.int .i64 0)] 1 [(0, (.t 14))])⟩,
       ⟨(some 16), none, .inr (.call 24 [(.t 15)])⟩,
       ⟨(some 10), none, .inl (.mv (.t 16))⟩,
       ⟨(some 17), none, .inl (.ext 0 (.t 10))⟩,
       ⟨(some 18), none, .inl (.ext 1 (.t 10))⟩,
       ⟨(some 7), none, .inl (.mv (.t 17))⟩,
       ⟨(some 8), none, .inl (.mv (.t 18))⟩])
    (.keep [0, 2, 7]))
    (.seq (.seq (.reg [⟨(some 19), none, .inl (.mv (.t 0))⟩,
        ⟨(some 20), none, .inl (.bin .mul (.t 19) (.c (.int .i64 8)))⟩,
        ⟨(some 21), none, .inr (.mksl 1 1 [(.int .u8 0)] (.t 20) (.t 20))⟩,
        ⟨(some 9), none, .inl (.mv (.t 21))⟩])
     (.keep [2, 7, 9]))
     (.seq (.seq (.reg [⟨(some 22), none, .inl (.mv (.t 9))⟩,
         ⟨(some 23), none, .inl (.mv (.t 7))⟩,
         ⟨(some 24), none, .inr (.copy 1 (.t 22) (.t 23))⟩])
      (.keep [2, 7, 9]))
      (.seq (.seq (.reg [⟨(some 25), none, .inl (.mv (.t 9))⟩,
          ⟨(some 26), none, .inl (.slice 1 (.t 25) (some (.c (.int .i64 8))) none none)⟩,
          ⟨(some 27), none, .inl (.mv (.t 2))⟩,
          ⟨(some 28), none, .inr (.copy 1 (.t 26) (.t 27))⟩])
       (.keep [7, 9]))
       (.seq (.seq (.reg [⟨(some 29), none, .inl (.mv (.t 9))⟩,
           ⟨(some 30), none, .inl (.mv (.t 9))⟩,
           ⟨(some 31), none, .inl (.len (.t 30))⟩,
           ⟨(some 32), none, .inl (.bin .sub (.t 31) (.c (.int .i64 8)))⟩,
           ⟨(some 33), none, .inl (.slice 1 (.t 29) (some (.t 32)) none none)⟩,
           ⟨(some 34), none, .inl (.mv (.t 7))⟩,
           ⟨(some 35), none, .inr (.copy 1 (.t 33) (.t 34))⟩])
        (.keep [9]))
        (.seq (.seq (.reg [⟨(some 36), none, .inl (.mv (.t 9))⟩,
            ⟨(some 6), none, .inl (.mv (.t 36))⟩])
         (.keep [6]))
         (.ret)))))))
def fc_tags_piece : FC := ⟨37, cmd_tags_piece, [.t 6]⟩
theorem fc_tags_piece_ok : compF Try.prog 29 [[0, 1, 2], [0, 2, 7], [2, 7, 9], [2, 7, 9], [7, 9], [9], [6]] = some fc_tags_piece := by kernel_rfl
/-- joist/joistref11.Right -/
abbrev F.joistref11_Right : Nat := 30
def cmd_joistref11_Right : Cmd :=
  .seq (.seq (.reg [⟨(some 8), none, .inl (.mv (.c (.bool false)))⟩])
   (.keep [0, 1, 2, 3]))
   (.seq (.seq (.reg [⟨(some 12), none, .inl (.mv (.t 0))⟩,
       ⟨(some 13), none, .inl (.mv (.t 1))⟩,
       ⟨(some 14), none, .inl (.mv (.t 2))⟩,
       ⟨(some 15), none, .inr (.call 46 [(.t 14)])⟩,
       ⟨(some 16), none, .inr (.call 38 [(.t 12), (.t 13), (.t 15)])⟩,
       ⟨(some 9), none, .inl (.mv (.t 16))⟩])
    (.keep [2, 3, 9]))
    (.seq (.seq (.seq (.reg [⟨(some 17), none, .inl (.mv (.t 9))⟩,
        ⟨(some 18), none, .inl (.un .not (.t 17))⟩,
        ⟨(some 19), none, .inl (.mv (.t 18))⟩,
        ⟨(some 20), (some (19, false)), .inl (.mv (.t 2))⟩,
        ⟨(some 21), (some (19, false)), .inl (.len (.t 20))⟩,
        ⟨(some 22), (some (19, false)), .inl (.mv (.t 3))⟩,
        ⟨(some 23), (some (19, false)), .inl (.len (.t 22))⟩,
        ⟨(some 24), (some (19, false)), .inl (.bin .neq (.t 21) (.t 23))⟩,
        ⟨(some 25), none, .inl (.pick (.t 19) (.c (.bool true)) (.t 24))⟩])
     (.keep [2, 3, 25]))
     (.cond (.t 25)
       (.seq (.seq (.reg [⟨(some 8), none, .inl (.mv (.c (.bool false)))⟩])
        (.keep [8]))
        (.ret))
       (.skip)))
     (.seq (.seq (.seq (.reg [⟨(some 10), none, .inl (.mv (.c (.int .i64 0)))⟩])
      (.keep [2, 3, 10]))
      (.block 0 (.loop [2, 3, 10] (.seq (.seq (.seq (.reg [⟨(some 26), none, .inl (.mv (.t 10))⟩,
          ⟨(some 27), none, .inl (.mv (.t 2))⟩,
          ⟨(some 28), none, .inl (.len (.t 27))⟩,
          ⟨(some 29), none, .inl (.bin .lss (.t 26) (.t 28))⟩])
       (.keep [2, 3, 10, 29]))
       (.cond (.t 29)
         (.skip)
         (.exit 0)))
       (.seq (.block 1 (.seq (.seq (.seq (.ord [⟨0, ⟨(some 32), none, .inl (.mv (.t 2))⟩, [], false⟩,
           ⟨1, ⟨(some 33), none, .inl (.mv (.t 10))⟩, [], false⟩,
           ⟨2, ⟨(some 34), none, .inl (.iaddr 3 (.t 32) (.t 33))⟩, [], false⟩,
           ⟨3, ⟨(some 35), none, .inl (.faddr 2 (.t 34))⟩, [], false⟩,
           ⟨4, ⟨(some 36), none, .inl (.load false 1 (.t 35))⟩, [], false⟩,
           ⟨5, ⟨(some 37), none, .inl (.bin .lss (.t 36) (.c (.int .i64 0)))⟩, [], false⟩,
           ⟨6, ⟨(some 38), none, .inl (.mv (.t 37))⟩, [], false⟩,
           ⟨7, ⟨(some 39), (some (38, false)), .inl (.mv (.t 2))⟩, [], false⟩,
           ⟨8, ⟨(some 40), (some (38, false)), .inl (.mv (.t 10))⟩, [], false⟩,
           ⟨9, ⟨(some 41), (some (38, false)), .inl (.iaddr 3 (.t 39) (.t 40))⟩, [], false⟩,
           ⟨10, ⟨(some 42), (some (38, false)), .inl (.faddr 2 (.t 41))⟩, [], false⟩,
           ⟨11, ⟨(some 43), (some (38, false)), .inl (.load false 1 (.t 42))⟩, [], false⟩,
           ⟨12, ⟨(some 44), (some (38, false)), .inl (.bin .geq (.t 43) (.c (.int .i64 32)))⟩, [], false⟩,
           ⟨13, ⟨(some 45), none, .inl (.pick (.t 38) (.c (.bool true)) (.t 44))⟩, [], false⟩,
           ⟨14, ⟨(some 46), none, .inl (.mv (.t 45))⟩, [], false⟩,
           ⟨15, ⟨(some 47), (some (46, false)), .inl (.mv (.t 3))⟩, [], false⟩,
           ⟨16, ⟨(some 48), (some (46, false)), .inl (.mv (.t 10))⟩, [], false⟩,
           ⟨17, ⟨(some 49), (some (46, false)), .inl (.iaddr 1 (.t 47) (.t 48))⟩, [], false⟩,
           ⟨18, ⟨(some 50), (some (46, false)), .inl (.load false 1 (.t 49))⟩, [], false⟩,
           ⟨19, ⟨(some 51), (some (46, false)), .inl (.len (.t 50))⟩, [], false⟩,
           ⟨20, ⟨(some 52), (some (46, false)), .inl (.mv (.t 2))⟩, [], false⟩,
           ⟨21, ⟨(some 53), (some (46, false)), .inl (.mv (.t 10))⟩, [], false⟩,
           ⟨22, ⟨(some 54), (some (46, false)), .inl (.iaddr 3 (.t 52) (.t 53))⟩, [], false⟩,
           ⟨23, ⟨(some 55), (some (46, false)), .inl (.faddr 1 (.t 54))⟩, [], false⟩,
           ⟨24, ⟨(some 56), (some (46, false)), .inl (.load false 1 (.t 55))⟩, [], false⟩,
           ⟨25, ⟨(some 57), (some (46, false)), .inl (.bin .sub (.t 56) (.c (.int .i64 2)))⟩, [], false⟩,
           ⟨26, ⟨(some 58), (some (46, false)), .inl (.bin .mul (.c (.int .i64 8)) (.t 57))⟩, [], false⟩,
           ⟨27, ⟨(some 59), (some (46, false)), .inl (.bin .gtr (.t 51) (.t 58))⟩, [], false⟩,
           ⟨28, ⟨(some 60), none, .inl (.pick (.t 46) (.c (.bool true)) (.t 59))⟩, [], false⟩])
        (.keep [2, 3, 10, 60]))
        (.cond (.t 60)
          (.seq (.seq (.reg [⟨(some 8), none, .inl (.mv (.c (.bool false)))⟩])
           (.keep [8]))
           (.ret))
          (.skip)))
        (.seq (.seq (.reg [⟨(some 11), none, .inl (.mv (.c (.int .i64 0)))⟩])
         (.keep [2, 3, 10, 11]))
         (.block 2 (.loop [2, 3, 10, 11] (.seq (.seq (.seq (.reg [⟨(some 61), none, .inl (.mv (.t 11))⟩,
             ⟨(some 62), none, .inl (.mv (.t 10))⟩,
             ⟨(some 63), none, .inl (.bin .lss (.t 61) (.t 62))⟩])
          (.keep [2, 3, 10, 11, 63]))
          (.cond (.t 63)
            (.skip)
            (.exit 2)))
          (.seq (.block 3 (.seq (.seq (.ord [⟨0, ⟨(some 66), none, .inl (.mv (.t 2))⟩, [], false⟩,
              ⟨1, ⟨(some 67), none, .inl (.mv (.t 11))⟩, [], false⟩,
              ⟨2, ⟨(some 68), none, .inl (.iaddr 3 (.t 66) (.t 67))⟩, [], false⟩,
              ⟨3, ⟨(some 69), none, .inl (.faddr 2 (.t 68))⟩, [], false⟩,
              ⟨4, ⟨(some 70), none, .inl (.load false 1 (.t 69))⟩, [], false⟩,
              ⟨5, ⟨(some 71), none, .inl (.mv (.t 2))⟩, [], false⟩,
              ⟨6, ⟨(some 72), none, .inl (.mv (.t 10))⟩, [], false⟩,
              ⟨7, ⟨(some 73), none, .inl (.iaddr 3 (.t 71) (.t 72))⟩, [], false⟩,
              ⟨8, ⟨(some 74), none, .inl (.faddr 2 (.t 73))⟩, [], false⟩,
              ⟨9, ⟨(some 75), none, .inl (.load false 1 (.t 74))⟩, [], false⟩,
              ⟨10, ⟨(some 76), none, .inl (.bin .eql (.t 70) (.t 75))⟩, [], false⟩])
           (.keep [2, 3, 10, 11, 76]))
           (.cond (.t 76)
             (.seq (.seq (.reg [⟨(some 8), none, .inl (.mv (.c (.bool false)))⟩])
              (.keep [8]))
              (.ret))
             (.skip))))
           (.seq (.reg [⟨(some 64), none, .inl (.mv (.t 11))⟩,
               ⟨(some 65), none, .inl (.bin .add (.t 64) (.c (.int .i64 1)))⟩,
               ⟨(some 11), none, .inl (.mv (.t 65))⟩])
            (.keep [2, 3, 10, 11])))))))))
        (.seq (.reg [⟨(some 30), none, .inl (.mv (.t 10))⟩,
            ⟨(some 31), none, .inl (.bin .add (.t 30) (.c (.int .i64 1)))⟩,
            ⟨(some 10), none, .inl (.mv (.t 31))⟩])
         (.keep [2, 3, 10])))))))
      (.seq (.seq (.reg [⟨(some 8), none, .inl (.mv (.c (.bool true)))⟩])
       (.keep [8]))
       (.ret)))))
def fc_joistref11_Right : FC := ⟨77, cmd_joistref11_Right, [.t 8]⟩
theorem fc_joistref11_Right_ok : compF Try.prog 30 [[0, 1, 2, 3], [2, 3, 9], [2, 3, 25], [8], [2, 3, 10], [2, 3, 10], [2, 3, 10, 29], [2, 3, 10, 60], [0, 1, 2, 3, 4, 5, 6, 7, 8, 9, 10, 11, 12, 13, 14, 15, 16, 17, 18, 19, 20, 21, 22, 23, 24, 25, 26, 27, 28], [8], [2, 3, 10, 11], [2, 3, 10, 11], [2, 3, 10, 11, 63], [2, 3, 10, 11, 76], [0, 1, 2, 3, 4, 5, 6, 7, 8, 9, 10], [8], [2, 3, 10, 11], [2, 3, 10], [8]] = some fc_joistref11_Right := by kernel_rfl
/-- joist/joistref01.Put -/
abbrev F.joistref01_Put : Nat := 31
def cmd_joistref01_Put : Cmd :=
  .seq (.seq (.reg [⟨(some 6), none, .inl (.mv (.c .nils))⟩,
      ⟨(some 7), none, .inl (.mv (.c (.int .i64 0)))⟩])
   (.keep [0, 1, 2]))
   (.seq (.seq (.seq (.reg [⟨(some 9), none, .inl (.mv (.t 1))⟩,
       ⟨(some 10), none, .inl (.bin .lss (.t 9) (.c (.int .i64 0)))⟩,
       ⟨(some 11), none, .inl (.mv (.t 10))⟩,
       ⟨(some 12), (some (11, false)), .inl (.mv (.t 1))⟩,
       ⟨(some 13), (some (11, false)), .inl (.mv (.t 0))⟩,
       ⟨(some 14), (some (11, false)), .inl (.len (.t 13))⟩,
       ⟨(some 15), (some (11, false)), .inl (.bin .quo (.t 14) (.c (.int .i64 8)))⟩,
       ⟨(some 16), (some (11, false)), .inl (.bin .geq (.t 12) (.t 15))⟩,
       ⟨(some 17), none, .inl (.pick (.t 11) (.c (.bool true)) (.t 16))⟩])
    (.keep [0, 1, 2, 17]))
    (.cond (.t 17)
      (.seq (.seq (.reg [⟨(some 6), none, .inl (.mv (.c .nils))⟩,
          ⟨(some 7), none, .inl (.mv (.c (.int .i64 1)))⟩])
       (.keep [6, 7]))
       (.ret))
      (.skip)))
    (.seq (.seq (.seq (.reg [⟨(some 18), none, .inl (.mv (.t 2))⟩,
        ⟨(some 19), none, .inl (.bin .lss (.t 18) (.c (.int .i64 0)))⟩,
        ⟨(some 20), none, .inl (.mv (.t 19))⟩,
        ⟨(some 21), (some (20, false)), .inl (.mv (.t 2))⟩,
        ⟨(some 22), (some (20, false)), .inl (.bin .gtr (.t 21) (.c (.int .i64 4611686018427387903)))⟩,
        ⟨(some 23), none, .inl (.pick (.t 20) (.c (.bool true)) (.t 22))⟩])
     (.keep [0, 1, 2, 23]))
     (.cond (.t 23)
       (.seq (.seq (.reg [⟨(some 6), none, .inl (.mv (.c .nils))⟩,
           ⟨(some 7), none, .inl (.mv (.c (.int .i64 4)))⟩])
        (.keep [6, 7]))
        (.ret))
       (.skip)))
     (.seq (.seq (.reg [⟨(some 24), none, .inr (.bslice 1 [(.int .u8 0)] 0 [])⟩,
         ⟨(some 25), none, .inl (.mv (.t 0))⟩,
         ⟨(some 26), none, .inl (.mv (.t 1))⟩,
         ⟨(some 27), none, .inl (.bin .mul (.c (.int .i64 8)) (.t 26))⟩,
         ⟨(some 28), none, .inl (.slice 1 (.t 25) none (some (.t 27)) none)⟩,
         ⟨(some 29), none, .inr (.append 1 1 (.t 24) (.t 28))⟩,
         ⟨(some 8), none, .inl (.mv (.t 29))⟩])
      (.keep [0, 1, 2, 8]))
      (.seq (.seq (.reg [⟨(some 30), none, .inl (.mv (.t 8))⟩,
          ⟨(some 31), none, .inl (.mv (.t 2))⟩,
          ⟨(some 32), none, .inr (.call 47 [(.t 31)])⟩,
          ⟨(some 33), none, .inr (.append 1 1 (.t 30) (.t 32))⟩,
          ⟨(some 8), none, .inl (.mv (.t 33))⟩])
       (.keep [0, 1, 8]))
       (.seq (.seq (.reg [⟨(some 34), none, .inl (.mv (.t 8))⟩,
           ⟨(some 35), none, .inl (.mv (.t 0))⟩,
           ⟨(some 36), none, .inl (.mv (.t 1))⟩,
           ⟨(some 37), none, .inl (.bin .mul (.c (.int .i64 8)) (.t 36))⟩,
           ⟨(some 38), none, .inl (.bin .add (.t 37) (.c (.int .i64 8)))⟩,
           ⟨(some 39), none, .inl (.slice 1 (.t 35) (some (.t 38)) none none)⟩,
           ⟨(some 40), none, .inr (.append 1 1 (.t 34) (.t 39))⟩,
           ⟨(some 6), none, .inl (.mv (.t 40))⟩,
           ⟨(some 7), none, .inl (.mv (.c (.int .i64 0)))⟩])
        (.keep [6, 7]))
        (.ret))))))
def fc_joistref01_Put : FC := ⟨41, cmd_joistref01_Put, [.t 6, .t 7]⟩
theorem fc_joistref01_Put_ok : compF Try.prog 31 [[0, 1, 2], [0, 1, 2, 17], [6, 7], [0, 1, 2, 23], [6, 7], [0, 1, 2, 8], [0, 1, 8], [6, 7]] = some fc_joistref01_Put := by kernel_rfl
/-- joist/joistref11.free -/
abbrev F.joistref11_free : Nat := 32
def cmd_joistref11_free : Cmd :=
  .seq (.seq (.reg [⟨(some 6), none, .inl (.mv (.c .nils))⟩])
   (.keep [0, 1, 2]))
   (.seq (.seq (.reg [⟨(some 10), none, .inl (.mv (.t 0))⟩,
       ⟨(some 11), none, .inl (.mv (.t 1))⟩,
       ⟨(some 12), none, .inl (.mv (.t 2))⟩,
       ⟨(some 13), none, .inr (.call 46 [(.t 12)])⟩,
       ⟨(some 14), none, .inr (.call 48 [(.t 10), (.t 11), (.t 13)])⟩,
       ⟨(some 9), none, .inl (.mv (.t 14))⟩,
       ⟨(some 15), none, .inl (.ext 0 (.t 9))⟩,
       ⟨(some 16), none, .inl (.ext 1 (.t 9))⟩,
       ⟨(some 7), none, .inl (.mv (.t 15))⟩,
       ⟨(some 8), none, .inl (.mv (.t 16))⟩])
    (.keep [7]))
    (.seq (.seq (.reg [⟨(some 17), none, .inl (.mv (.t 7))⟩,
        ⟨(some 6), none, .inl (.mv (.t 17))⟩])
     (.keep [6]))
     (.ret)))
def fc_joistref11_free : FC := ⟨18, cmd_joistref11_free, [.t 6]⟩
theorem fc_joistref11_free_ok : compF Try.prog 32 [[0, 1, 2], [7], [6]] = some fc_joistref11_free := by kernel_rfl
/-- joist/joistref11.beside -/
abbrev F.joistref11_beside : Nat := 33
def cmd_joistref11_beside : Cmd :=
  .seq (.seq (.reg [⟨(some 6), none, .inl (.mv (.c (.int .i64 0)))⟩])
   (.keep [0, 1, 2]))
   (.seq (.seq (.reg [⟨(some 13), none, .inl (.mv (.t 0))⟩,
       ⟨(some 14), none, .inl (.mv (.t 1))⟩,
       ⟨(some 15), none, .inl (.iaddr 2 (.t 13) (.t 14))⟩,
       ⟨(some 16), none, .inl (.faddr 1 (.t 15))⟩,
       ⟨(some 17), none, .inl (.load false 1 (.t 16))⟩,
       ⟨(some 18), none, .inr (.call 17 [(.t 17)])⟩,
       ⟨(some 12), none, .inl (.mv (.t 18))⟩,
       ⟨(some 19), none, .inl (.ext 0 (.t 12))⟩,
       ⟨(some 20), none, .inl (.ext 1 (.t 12))⟩,
       ⟨(some 7), none, .inl (.mv (.t 19))⟩,
       ⟨(some 8), none, .inl (.mv (.t 20))⟩])
    (.keep [0, 1, 2, 7]))
    (.seq (.seq (.seq (.reg [⟨(some 21), none, .inl (.mv (.t 1))⟩,
        ⟨(some 22), none, .inl (.mv (.t 2))⟩,
        ⟨(some 23), none, .inl (.bin .add (.t 21) (.t 22))⟩,
        ⟨(some 9), none, .inl (.mv (.t 23))⟩])
     (.keep [0, 2, 7, 9]))
     (.block 0 (.loop [0, 2, 7, 9] (.seq (.seq (.seq (.reg [⟨(some 24), none, .inl (.mv (.t 9))⟩,
         ⟨(some 25), none, .inl (.bin .geq (.t 24) (.c (.int .i64 0)))⟩,
         ⟨(some 26), none, .inl (.mv (.t 25))⟩,
         ⟨(some 27), (some (26, true)), .inl (.mv (.t 9))⟩,
         ⟨(some 28), (some (26, true)), .inl (.mv (.t 0))⟩,
         ⟨(some 29), (some (26, true)), .inl (.len (.t 28))⟩,
         ⟨(some 30), (some (26, true)), .inl (.bin .lss (.t 27) (.t 29))⟩,
         ⟨(some 31), none, .inl (.pick (.t 26) (.t 30) (.c (.bool false)))⟩])
      (.keep [0, 2, 7, 9, 31]))
      (.cond (.t 31)
        (.skip)
        (.exit 0)))
      (.seq (.block 1 (.seq (.seq (.reg [⟨(some 36), none, .inl (.mv (.t 0))⟩,
          ⟨(some 37), none, .inl (.mv (.t 9))⟩,
          ⟨(some 38), none, .inl (.iaddr 2 (.t 36) (.t 37))⟩,
          ⟨(some 39), none, .inl (.faddr 1 (.t 38))⟩,
          ⟨(some 40), none, .inl (.load false 1 (.t 39))⟩,
          ⟨(some 41), none, .inr (.call 17 [(.t 40)])⟩,
          ⟨(some 35), none, .inl (.mv (.t 41))⟩,
          ⟨(some 42), none, .inl (.ext 0 (.t 35))⟩,
          ⟨(some 43), none, .inl (.ext 1 (.t 35))⟩,
          ⟨(some 10), none, .inl (.mv (.t 42))⟩,
          ⟨(some 11), none, .inl (.mv (.t 43))⟩])
       (.keep [0, 2, 7, 9, 10]))
       (.seq (.seq (.reg [⟨(some 44), none, .inl (.mv (.t 10))⟩,
           ⟨(some 45), none, .inl (.mv (.t 7))⟩,
           ⟨(some 46), none, .inl (.bin .eql (.t 44) (.t 45))⟩])
        (.keep [0, 2, 7, 9, 46]))
        (.cond (.t 46)
          (.seq (.seq (.reg [⟨(some 47), none, .inl (.mv (.t 0))⟩,
              ⟨(some 48), none, .inl (.mv (.t 9))⟩,
              ⟨(some 49), none, .inl (.iaddr 2 (.t 47) (.t 48))⟩,
              ⟨(some 50), none, .inl (.faddr 0 (.t 49))⟩,
              ⟨(some 51), none, .inl (.load false 1 (.t 50))⟩,
              ⟨(some 52), none, .inl (.bin .add (.t 51) (.c (.int .i64 1)))⟩,
              ⟨(some 6), none, .inl (.mv (.t 52))⟩])
           (.keep [6]))
           (.ret))
          (.skip)))))
       (.seq (.reg [⟨(some 32), none, .inl (.mv (.t 9))⟩,
           ⟨(some 33), none, .inl (.mv (.t 2))⟩,
           ⟨(some 34), none, .inl (.bin .add (.t 32) (.t 33))⟩,
           ⟨(some 9), none, .inl (.mv (.t 34))⟩])
        (.keep [0, 2, 7, 9])))))))
     (.seq (.seq (.reg [⟨(some 6), none, .inl (.mv (.c (.int .i64 0)))⟩])
      (.keep [6]))
      (.ret))))
def fc_joistref11_beside : FC := ⟨53, cmd_joistref11_beside, [.t 6]⟩
theorem fc_joistref11_beside_ok : compF Try.prog 33 [[0, 1, 2], [0, 1, 2, 7], [0, 2, 7, 9], [0, 2, 7, 9], [0, 2, 7, 9, 31], [0, 2, 7, 9, 10], [0, 2, 7, 9, 46], [6], [0, 2, 7, 9], [6]] = some fc_joistref11_beside := by kernel_rfl
/-- joist/gaps.Right -/
abbrev F.gaps_Right : Nat := 34
def cmd_gaps_Right : Cmd :=
  .seq (.seq (.reg [⟨(some 6), none, .inl (.mv (.c (.bool false)))⟩])
   (.keep [0, 1, 2]))
   (.seq (.seq (.reg [⟨(some 7), none, .inl (.mv (.t 0))⟩,
       ⟨(some 8), none, .inl (.mv (.t 1))⟩,
       ⟨(some 9), none, .inl (.mv (.t 2))⟩,
       ⟨(some 10), none, .inr (.call 44 [(.t 7), (.t 8), (.t 9), (.c (.fn 49 []))])⟩,
       ⟨(some 6), none, .inl (.mv (.t 10))⟩])
    (.keep [6]))
    (.ret))
def fc_gaps_Right : FC := ⟨11, cmd_gaps_Right, [.t 6]⟩
theorem fc_gaps_Right_ok : compF Try.prog 34 [[0, 1, 2], [6]] = some fc_gaps_Right := by kernel_rfl
/-- bytes.Clone -/
abbrev F.bytes_Clone : Nat := 35
def cmd_bytes_Clone : Cmd :=
  .seq (.seq (.reg [⟨(some 2), none, .inl (.mv (.c .nils))⟩])
   (.keep [0]))
   (.seq (.seq (.seq (.reg [⟨(some 3), none, .inl (.mv (.t 0))⟩,
       ⟨(some 4), none, .inl (.eqnil false (.t 3))⟩])
    (.keep [0, 4]))
    (.cond (.t 4)
      (.seq (.seq (.reg [⟨(some 2), none, .inl (.mv (.c .nils))⟩])
       (.keep [2]))
       (.ret))
      (.skip)))
    (.seq (.seq (.reg [⟨(some 5), none, .inr (.bslice 1 [(.int .u8 0)] 0 [])⟩,
        ⟨(some 6), none, .inl (.mv (.t 0))⟩,
        ⟨(some 7), none, .inr (.append 1 1 (.t 5) (.t 6))⟩,
        ⟨(some 2), none, .inl (.mv (.t 7))⟩])
     (.keep [2]))
     (.ret)))
def fc_bytes_Clone : FC := ⟨8, cmd_bytes_Clone, [.t 2]⟩
theorem fc_bytes_Clone_ok : compF Try.prog 35 [[0], [0, 4], [2], [2]] = some fc_bytes_Clone := by kernel_rfl
/-- bytes.Equal -/
abbrev F.bytes_Equal : Nat := 36
def cmd_bytes_Equal : Cmd :=
  .seq (.seq (.reg [⟨(some 4), none, .inl (.mv (.c (.bool false)))⟩])
   (.keep [0, 1]))
   (.seq (.seq (.reg [⟨(some 5), none, .inl (.mv (.t 0))⟩,
       ⟨(some 6), none, .inl (.b2s (.t 5))⟩,
       ⟨(some 7), none, .inl (.mv (.t 1))⟩,
       ⟨(some 8), none, .inl (.b2s (.t 7))⟩,
       ⟨(some 9), none, .inl (.bins .eql (.t 6) (.t 8))⟩,
       ⟨(some 4), none, .inl (.mv (.t 9))⟩])
    (.keep [4]))
    (.ret))
def fc_bytes_Equal : FC := ⟨10, cmd_bytes_Equal, [.t 4]⟩
theorem fc_bytes_Equal_ok : compF Try.prog 36 [[0, 1], [4]] = some fc_bytes_Equal := by kernel_rfl
/-- slices.Equal[[]int,int] -/
abbrev F.slices_Equal : Nat := 37
def cmd_slices_Equal : Cmd :=
  .seq (.seq (.reg [⟨(some 4), none, .inl (.mv (.c (.bool false)))⟩])
   (.keep [0, 1]))
   (.seq (.seq (.seq (.reg [⟨(some 6), none, .inl (.mv (.t 0))⟩,
       ⟨(some 7), none, .inl (.len (.t 6))⟩,
       ⟨(some 8), none, .inl (.mv (.t 1))⟩,
       ⟨(some 9), none, .inl (.len (.t 8))⟩,
       ⟨(some 10), none, .inl (.bin .neq (.t 7) (.t 9))⟩])
    (.keep [0, 1, 10]))
    (.cond (.t 10)
      (.seq (.seq (.reg [⟨(some 4), none, .inl (.mv (.c (.bool false)))⟩])
       (.keep [4]))
       (.ret))
      (.skip)))
    (.seq (.seq (.seq (.reg [⟨(some 11), none, .inl (.mv (.t 0))⟩,
        ⟨(some 12), none, .inl (.len (.t 11))⟩,
        ⟨(some 13), none, .inl (.mv (.c (.int .i64 0)))⟩])
     (.keep [0, 1, 12, 13]))
     (.block 0 (.loop [0, 1, 12, 13] (.seq (.seq (.reg [⟨(some 14), none, .inl (.bin .lss (.t 13) (.t 12))⟩])
      (.keep [0, 1, 12, 13, 14]))
      (.seq (.cond (.t 14)
        (.skip)
        (.exit 0))
       (.seq (.block 1 (.seq (.seq (.reg [⟨(some 15), none, .inl (.mv (.t 13))⟩,
           ⟨(some 5), none, .inl (.mv (.t 15))⟩])
        (.keep [0, 1, 5, 12, 13]))
        (.seq (.seq (.ord [⟨0, ⟨(some 16), none, .inl (.mv (.t 0))⟩, [], false⟩,
            ⟨1, ⟨(some 17), none, .inl (.mv (.t 5))⟩, [], false⟩,
            ⟨2, ⟨(some 18), none, .inl (.iaddr 1 (.t 16) (.t 17))⟩, [], false⟩,
            ⟨3, ⟨(some 19), none, .inl (.load false 1 (.t 18))⟩, [], false⟩,
            ⟨4, ⟨(some 20), none, .inl (.mv (.t 1))⟩, [], false⟩,
            ⟨5, ⟨(some 21), none, .inl (.mv (.t 5))⟩, [], false⟩,
            ⟨6, ⟨(some 22), none, .inl (.iaddr 1 (.t 20) (.t 21))⟩, [], false⟩,
            ⟨7, ⟨(some 23), none, .inl (.load false 1 (.t 22))⟩, [], false⟩,
            ⟨8, ⟨(some 24), none, .inl (.bin .neq (.t 19) (.t 23))⟩, [], false⟩])
         (.keep [0, 1, 12, 13, 24]))
         (.cond (.t 24)
           (.seq (.seq (.reg [⟨(some 4), none, .inl (.mv (.c (.bool false)))⟩])
            (.keep [4]))
            (.ret))
           (.skip)))))
        (.seq (.reg [⟨(some 25), none, .inl (.bin .add (.t 13) (.c (.int .i64 1)))⟩,
            ⟨(some 13), none, .inl (.mv (.t 25))⟩])
         (.keep [0, 1, 12, 13]))))))))
     (.seq (.seq (.reg [⟨(some 4), none, .inl (.mv (.c (.bool true)))⟩])
      (.keep [4]))
      (.ret))))
def fc_slices_Equal : FC := ⟨26, cmd_slices_Equal, [.t 4]⟩
theorem fc_slices_Equal_ok : compF Try.prog 37 [[0, 1], [0, 1, 10], [4], [0, 1, 12, 13], [0, 1, 12, 13], [0, 1, 12, 13, 14], [0, 1, 5, 12, 13], [0, 1, 12, 13, 24], [0, 1, 2, 3, 4, 5, 6, 7, 8], [4], [0, 1, 12, 13], [4]] = some fc_slices_Equal := by kernel_rfl
/-- joist/joistref10.Right -/
abbrev F.joistref10_Right : Nat := 38
def cmd_joistref10_Right : Cmd :=
  .seq (.seq (.reg [⟨(some 6), none, .inl (.mv (.c (.bool false)))⟩])
   (.keep [0, 1, 2]))
   (.seq (.seq (.seq (.reg [⟨(some 10), none, .inl (.mv (.t 0))⟩,
       ⟨(some 11), none, .inl (.bin .lss (.t 10) (.c (.int .i64 0)))⟩,
       ⟨(some 12), none, .inl (.mv (.t 11))⟩,
       ⟨(some 13), (some (12, false)), .inl (.mv (.t 0))⟩,
       ⟨(some 14), (some (12, false)), .inl (.mv (.t 1))⟩,
       ⟨(some 15), (some (12, false)), .inl (.bin .gtr (.t 13) (.t 14))⟩,
       ⟨(some 16), none, .inl (.pick (.t 12) (.c (.bool true)) (.t 15))⟩,
       ⟨(some 17), none, .inl (.mv (.t 16))⟩,
       ⟨(some 18), (some (17, false)), .inl (.mv (.t 1))⟩,
       ⟨(some 19), (some (17, false)), .inl (.bin .gtr (.t 18) (.c (.int .i64 2048)))⟩,
       ⟨(some 20), none, .inl (.pick (.t 17) (.c (.bool true)) (.t 19))⟩,
       ⟨(some 21), none, .inl (.mv (.t 20))⟩,
       ⟨(some 22), (some (21, false)), .inl (.mv (.t 0))⟩,
       ⟨(some 23), (some (21, false)), .inl (.bin .rem (.t 22) (.c (.int .i64 4)))⟩,
       ⟨(some 24), (some (21, false)), .inl (.bin .neq (.t 23) (.c (.int .i64 0)))⟩,
       ⟨(some 25), none, .inl (.pick (.t 21) (.c (.bool true)) (.t 24))⟩,
       ⟨(some 26), none, .inl (.mv (.t 25))⟩,
       ⟨(some 27), (some (26, false)), .inl (.mv (.t 1))⟩,
       ⟨(some 28), (some (26, false)), .inl (.bin .rem (.t 27) (.c (.int .i64 4)))⟩,
       ⟨(some 29), (some (26, false)), .inl (.bin .neq (.t 28) (.c (.int .i64 0)))⟩,
       ⟨(some 30), none, .inl (.pick (.t 26) (.c (.bool true)) (.t 29))⟩])
    (.keep [0, 1, 2, 30]))
    (.cond (.t 30)
      (.seq (.seq (.reg [⟨(some 6), none, .inl (.mv (.c (.bool false)))⟩])
       (.keep [6]))
       (.ret))
      (.skip)))
    (.seq (.seq (.reg [⟨(some 31), none, .inl (.mv (.t 0))⟩,
        ⟨(some 7), none, .inl (.mv (.t 31))⟩])
     (.keep [1, 2, 7]))
     (.seq (.seq (.seq (.reg [⟨(some 8), none, .inl (.mv (.c (.int .i64 0)))⟩])
      (.keep [1, 2, 7, 8]))
      (.block 0 (.loop [1, 2, 7, 8] (.seq (.seq (.seq (.reg [⟨(some 32), none, .inl (.mv (.t 8))⟩,
          ⟨(some 33), none, .inl (.mv (.t 2))⟩,
          ⟨(some 34), none, .inl (.len (.t 33))⟩,
          ⟨(some 35), none, .inl (.bin .lss (.t 32) (.t 34))⟩])
       (.keep [1, 2, 7, 8, 35]))
       (.cond (.t 35)
         (.skip)
         (.exit 0)))
       (.seq (.block 1 (.seq (.seq (.reg [⟨(some 38), none, .inl (.mv (.t 2))⟩,
           ⟨(some 39), none, .inl (.mv (.t 8))⟩,
           ⟨(some 40), none, .inl (.iaddr 2 (.t 38) (.t 39))⟩,
           ⟨(some 41), none, .inl (.load true 2 (.t 40))⟩,
           ⟨(some 9), none, .inr (.alloc [(.int .i64 0), (.int .i64 0)])⟩,
           ⟨none, none, .inr (.store 2 (.t 9) (.t 41))⟩])
        (.keep [1, 2, 7, 8, 9]))
        (.seq (.seq (.seq (.reg [⟨(some 42), none, .inl (.faddr 0 (.t 9))⟩,
            ⟨(some 43), none, .inl (.load false 1 (.t 42))⟩,
            ⟨(some 44), none, .inl (.mv (.t 7))⟩,
            ⟨(some 45), none, .inl (.bin .lss (.t 43) (.t 44))⟩,
            ⟨(some 46), none, .inl (.mv (.t 45))⟩,
            ⟨(some 47), (some (46, false)), .inl (.faddr 0 (.t 9))⟩,
            ⟨(some 48), (some (46, false)), .inl (.load false 1 (.t 47))⟩,
            ⟨(some 49), (some (46, false)), .inl (.mv (.t 1))⟩,
            ⟨(some 50), (some (46, false)), .inl (.bin .gtr (.t 48) (.t 49))⟩,
            ⟨(some 51), none, .inl (.pick (.t 46) (.c (.bool true)) (.t 50))⟩,
            ⟨(some 52), none, .inl (.mv (.t 51))⟩,
            ⟨(some 53), (some (52, false)), .inl (.faddr 1 (.t 9))⟩,
            ⟨(some 54), (some (52, false)), .inl (.load false 1 (.t 53))⟩,
            ⟨(some 55), (some (52, false)), .inl (.bin .lss (.t 54) (.c (.int .i64 4)))⟩,
            ⟨(some 56), none, .inl (.pick (.t 52) (.c (.bool true)) (.t 55))⟩,
            ⟨(some 57), none, .inl (.mv (.t 56))⟩,
            ⟨(some 58), (some (57, false)), .inl (.faddr 1 (.t 9))⟩,
            ⟨(some 59), (some (57, false)), .inl (.load false 1 (.t 58))⟩,
            ⟨(some 60), (some (57, false)), .inl (.mv (.t 1))⟩,
            ⟨(some 61), (some (57, false)), .inl (.faddr 0 (.t 9))⟩,
            ⟨(some 62), (some (57, false)), .inl (.load false 1 (.t 61))⟩,
            ⟨(some 63), (some (57, false)), .inl (.bin .sub (.t 60) (.t 62))⟩,
            ⟨(some 64), (some (57, false)), .inl (.bin .gtr (.t 59) (.t 63))⟩,
            ⟨(some 65), none, .inl (.pick (.t 57) (.c (.bool true)) (.t 64))⟩,
            ⟨(some 66), none, .inl (.mv (.t 65))⟩,
            ⟨(some 67), (some (66, false)), .inl (.faddr 0 (.t 9))⟩,
            ⟨(some 68), (some (66, false)), .inl (.load false 1 (.t 67))⟩,
            ⟨(some 69), (some (66, false)), .inl (.bin .rem (.t 68) (.c (.int .i64 4)))⟩,
            ⟨(some 70), (some (66, false)), .inl (.bin .neq (.t 69) (.c (.int .i64 0)))⟩,
            ⟨(some 71), none, .inl (.pick (.t 66) (.c (.bool true)) (.t 70))⟩,
            ⟨(some 72), none, .inl (.mv (.t 71))⟩,
            ⟨(some 73), (some (72, false)), .inl (.faddr 1 (.t 9))⟩,
            ⟨(some 74), (some (72, false)), .inl (.load false 1 (.t 73))⟩,
            ⟨(some 75), (some (72, false)), .inl (.bin .rem (.t 74) (.c (.int .i64 4)))⟩,
            ⟨(some 76), (some (72, false)), .inl (.bin .neq (.t 75) (.c (.int .i64 0)))⟩,
            ⟨(some 77), none, .inl (.pick (.t 72) (.c (.bool true)) (.t 76))⟩])
         (.keep [1, 2, 8, 9, 77]))
         (.cond (.t 77)
           (.seq (.seq (.reg [⟨(some 6), none, .inl (.mv (.c (.bool false)))⟩])
            (.keep [6]))
            (.ret))
           (.skip)))
         (.seq (.reg [⟨(some 78), none, .inl (.faddr 0 (.t 9))⟩,
             ⟨(some 79), none, .inl (.load false 1 (.t 78))⟩,
             ⟨(some 80), none, .inl (.faddr 1 (.t 9))⟩,
             ⟨(some 81), none, .inl (.load false 1 (.t 80))⟩,
             ⟨(some 82), none, .inl (.bin .add (.t 79) (.t 81))⟩,
             ⟨(some 7), none, .inl (.mv (.t 82))⟩])
          (.keep [1, 2, 7, 8])))))
        (.seq (.reg [⟨(some 36), none, .inl (.mv (.t 8))⟩,
            ⟨(some 37), none, .inl (.bin .add (.t 36) (.c (.int .i64 1)))⟩,
            ⟨(some 8), none, .inl (.mv (.t 37))⟩])
         (.keep [1, 2, 7, 8])))))))
      (.seq (.seq (.reg [⟨(some 6), none, .inl (.mv (.c (.bool true)))⟩])
       (.keep [6]))
       (.ret)))))
def fc_joistref10_Right : FC := ⟨83, cmd_joistref10_Right, [.t 6]⟩
theorem fc_joistref10_Right_ok : compF Try.prog 38 [[0, 1, 2], [0, 1, 2, 30], [6], [1, 2, 7], [1, 2, 7, 8], [1, 2, 7, 8], [1, 2, 7, 8, 35], [1, 2, 7, 8, 9], [1, 2, 8, 9, 77], [6], [1, 2, 7, 8], [1, 2, 7, 8], [6]] = some fc_joistref10_Right := by kernel_rfl
/-- joist/joistref01.Get -/
abbrev F.joistref01_Get : Nat := 39
def cmd_joistref01_Get : Cmd :=
  .seq (.seq (.reg [⟨(some 4), none, .inl (.mv (.c (.int .i64 0)))⟩,
      ⟨(some 5), none, .inl (.mv (.c (.bool false)))⟩])
   (.keep [0, 1]))
   (.seq (.seq (.seq (.reg [⟨(some 9), none, .inl (.mv (.t 1))⟩,
       ⟨(some 10), none, .inl (.bin .lss (.t 9) (.c (.int .i64 0)))⟩,
       ⟨(some 11), none, .inl (.mv (.t 10))⟩,
       ⟨(some 12), (some (11, false)), .inl (.mv (.t 1))⟩,
       ⟨(some 13), (some (11, false)), .inl (.mv (.t 0))⟩,
       ⟨(some 14), (some (11, false)), .inl (.len (.t 13))⟩,
       ⟨(some 15), (some (11, false)), .inl (.bin .quo (.t 14) (.c (.int .i64 8)))⟩,
       ⟨(some 16), (some (11, false)), .inl (.bin .geq (.t 12) (.t 15))⟩,
       ⟨(some 17), none, .inl (.pick (.t 11) (.c (.bool true)) (.t 16))⟩])
    (.keep [0, 1, 17]))
    (.cond (.t 17)
      (.seq (.seq (.reg [⟨(some 4), none, .inl (.mv (.c (.int .i64 0)))⟩,
          ⟨(some 5), none, .inl (.mv (.c (.bool false)))⟩])
       (.keep [4, 5]))
       (.ret))
      (.skip)))
    (.seq (.seq (.reg [⟨(some 18), none, .inl (.mv (.t 0))⟩,
        ⟨(some 19), none, .inl (.mv (.t 1))⟩,
        ⟨(some 20), none, .inl (.bin .mul (.c (.int .i64 8)) (.t 19))⟩,
        ⟨(some 21), none, .inl (.mv (.t 1))⟩,
        ⟨(some 22), none, .inl (.bin .mul (.c (.int .i64 8)) (.t 21))⟩,
        ⟨(some 23), none, .inl (.bin .add (.t 22) (.c (.int .i64 8)))⟩,
        ⟨(some 24), none, .inl (.slice 1 (.t 18) (some (.t 20)) (some (.t 23)) none)⟩,
        ⟨(some 6), none, .inl (.mv (.t 24))⟩])
     (.keep [6]))
     (.seq (.seq (.seq (.reg [⟨(some 25), none, .inl (.mv (.t 6))⟩,
         ⟨(some 26), none, .inl (.iaddr 1 (.t 25) (.c (.int .i64 7)))⟩,
         ⟨(some 27), none, .inl (.load false 1 (.t 26))⟩,
         ⟨(some 28), none, .inl (.bin .geq (.t 27) (.c (.int .u8 64)))⟩])
      (.keep [6, 28]))
      (.cond (.t 28)
        (.seq (.seq (.reg [⟨(some 4), none, .inl (.mv (.c (.int .i64 0)))⟩,
            ⟨(some 5), none, .inl (.mv (.c (.bool false)))⟩])
         (.keep [4, 5]))
         (.ret))
        (.skip)))
      (.seq (.seq (.reg [⟨(some 7), none, .inl (.mv (.c (.int .i64 0)))⟩])
       (.keep [6, 7]))
       (.seq (.seq (.seq (.reg [⟨(some 8), none, .inl (.mv (.c (.int .i64 7)))⟩])
        (.keep [6, 7, 8]))
        (.block 0 (.loop [6, 7, 8] (.seq (.seq (.seq (.reg [⟨(some 29), none, .inl (.mv (.t 8))⟩,
            ⟨(some 30), none, .inl (.bin .geq (.t 29) (.c (.int .i64 0)))⟩])
         (.keep [6, 7, 8, 30]))
         (.cond (.t 30)
           (.skip)
           (.exit 0)))
         (.seq (.block 1 (.seq (.reg [⟨(some 33), none, .inl (.mv (.t 7))⟩,
             ⟨(some 34), none, .inl (.bin .mul (.t 33) (.c (.int .i64 256)))⟩,
             ⟨(some 35), none, .inl (.mv (.t 6))⟩,
             ⟨(some 36), none, .inl (.mv (.t 8))⟩,
             ⟨(some 37), none, .inl (.iaddr 1 (.t 35) (.t 36))⟩,
             ⟨(some 38), none, .inl (.load false 1 (.t 37))⟩,
             ⟨(some 39), none, .inl (.conv .i64 (.t 38))⟩,
             ⟨(some 40), none, .inl (.bin .add (.t 34) (.t 39))⟩,
             ⟨(some 7), none, .inl (.mv (.t 40))⟩])
          (.keep [6, 7, 8])))
          (.seq (.reg [⟨(some 31), none, .inl (.mv (.t 8))⟩,
              ⟨(some 32), none, .inl (.bin .sub (.t 31) (.c (.int .i64 1)))⟩,
              ⟨(some 8), none, .inl (.mv (.t 32))⟩])
           (.keep [6, 7, 8])))))))
        (.seq (.seq (.reg [⟨(some 41), none, .inl (.mv (.t 7))⟩,
            ⟨(some 4), none, .inl (.mv (.t 41))⟩,
            ⟨(some 5), none, .inl (.mv (.c (.bool true)))⟩])
         (.keep [4, 5]))
         (.ret)))))))
def fc_joistref01_Get : FC := ⟨42, cmd_joistref01_Get, [.t 4, .t 5]⟩
theorem fc_joistref01_Get_ok : compF Try.prog 39 [[0, 1], [0, 1, 17], [4, 5], [6], [6, 28], [4, 5], [6, 7], [6, 7, 8], [6, 7, 8], [6, 7, 8, 30], [6, 7, 8], [6, 7, 8], [4, 5]] = some fc_joistref01_Get := by kernel_rfl
/-- joist/words.place -/
abbrev F.words_place : Nat := 40
def cmd_words_place : Cmd :=
  .seq (.seq (.reg [⟨(some 4), none, .inl (.mv (.c .nils))⟩])
   (.keep [0, 1]))
   (.seq (.seq (.seq (.reg [⟨(some 6), none, .inl (.mv (.t 1))⟩,
       ⟨(some 7), none, .inl (.bin .lss (.t 6) (.c (.int .i64 0)))⟩,
       ⟨(some 8), none, .inl (.mv (.t 7))⟩,
       ⟨(some 9), (some (8, false)), .inl (.mv (.t 1))⟩,
       ⟨(some 10), (some (8, false)), .inl (.mv (.t 0))⟩,
       ⟨(some 11), (some (8, false)), .inl (.len (.t 10))⟩,
       ⟨(some 12), (some (8, false)), .inl (.bin .quo (.t 11) (.c (.int .i64 8)))⟩,
       ⟨(some 13), (some (8, false)), .inl (.bin .geq (.t 9) (.t 12))⟩,
       ⟨(some 14), none, .inl (.pick (.t 8) (.c (.bool true)) (.t 13))⟩])
    (.keep [0, 1, 14]))
    (.cond (.t 14)
      (.seq (.seq (.reg [⟨(some 4), none, .inl (.mv (.c .nils))⟩])
       (.keep [4]))
       (.ret))
      (.skip)))
    (.seq (.seq (.reg [⟨(some 15), none, .inl (.mv (.t 1))⟩,
        ⟨(some 16), none, .inl (.bin .mul (.t 15) (.c (.int .i64 8)))⟩,
        ⟨(some 5), none, .inl (.mv (.t 16))⟩])
     (.keep [0, 5]))
     (.seq (.seq (.reg [⟨(some 17), none, .inl (.mv (.t 0))⟩,
         ⟨(some 18), none, .inl (.mv (.t 5))⟩,
         ⟨(some 19), none, .inl (.mv (.t 5))⟩,
         ⟨(some 20), none, .inl (.bin .add (.t 19) (.c (.int .i64 8)))⟩,
         ⟨(some 21), none, .inl (.slice 1 (.t 17) (some (.t 18)) (some (.t 20)) none)⟩,
         ⟨(some 4), none, .inl (.mv (.t 21))⟩])
      (.keep [4]))
      (.ret))))
def fc_words_place : FC := ⟨22, cmd_words_place, [.t 4]⟩
theorem fc_words_place_ok : compF Try.prog 40 [[0, 1], [0, 1, 14], [4], [0, 5], [4]] = some fc_words_place := by kernel_rfl
/-- joist/words.read -/
abbrev F.words_read : Nat := 41
def cmd_words_read : Cmd :=
  .seq (.seq (.reg [⟨(some 2), none, .inl (.mv (.c (.int .i64 0)))⟩,
      ⟨(some 3), none, .inl (.mv (.c (.bool false)))⟩])
   (.keep [0, 2]))
   (.seq (.seq (.seq (.reg [⟨(some 5), none, .inl (.mv (.t 0))⟩,
       ⟨(some 6), none, .inl (.iaddr 1 (.t 5) (.c (.int .i64 7)))⟩,
       ⟨(some 7), none, .inl (.load false 1 (.t 6))⟩,
       ⟨(some 8), none, .inl (.bin .geq (.t 7) (.c (.int .u8 64)))⟩])
    (.keep [0, 2, 8]))
    (.cond (.t 8)
      (.seq (.seq (.reg [⟨(some 2), none, .inl (.mv (.c (.int .i64 0)))⟩,
          ⟨(some 3), none, .inl (.mv (.c (.bool false)))⟩])
       (.keep [2, 3]))
       (.ret))
      (.skip)))
    (.seq (.seq (.seq (.reg [⟨(some 9), none, .inl (.mv (.c (.int .i64 0)))⟩])
     (.keep [0, 2, 9]))
     (.block 0 (.loop [0, 2, 9] (.seq (.seq (.reg [⟨(some 10), none, .inl (.bin .lss (.t 9) (.c (.int .i64 8)))⟩])
      (.keep [0, 2, 9, 10]))
      (.seq (.cond (.t 10)
        (.skip)
        (.exit 0))
       (.seq (.block 1 (.seq (.seq (.reg [⟨(some 11), none, .inl (.mv (.t 9))⟩,
           ⟨(some 4), none, .inl (.mv (.t 11))⟩])
        (.keep [0, 2, 4, 9]))
        (.seq (.reg [⟨(some 12), none, .inl (.mv (.t 2))⟩,
            ⟨(some 13), none, .inl (.bin .shl (.t 12) (.c (.int .u64 8)))⟩,
            ⟨(some 14), none, .inl (.mv (.t 0))⟩,
            ⟨(some 15), none, .inl (.mv (.t 4))⟩,
            ⟨(some 16), none, .inl (.bin .sub (.c (.int .i64 7)) (.t 15))⟩,
            ⟨(some 17), none, .inl (.iaddr 1 (.t 14) (.t 16))⟩,
            ⟨(some 18), none, .inl (.load false 1 (.t 17))⟩,
            ⟨(some 19), none, .inl (.conv .i64 (.t 18))⟩,
            ⟨(some 20), none, .inl (.bin .or (.t 13) (.t 19))⟩,
            ⟨(some 2), none, .inl (.mv (.t 20))⟩])
         (.keep [0, 2, 9]))))
        (.seq (.reg [⟨(some 21), none, .inl (.bin .add (.t 9) (.c (.int .i64 1)))⟩,
            ⟨(some 9), none, .inl (.mv (.t 21))⟩])
         (.keep [0, 2, 9]))))))))
     (.seq (.seq (.reg [⟨(some 22), none, .inl (.mv (.t 2))⟩,
         ⟨(some 2), none, .inl (.mv (.t 22))⟩,
         ⟨(some 3), none, .inl (.mv (.c (.bool true)))⟩])
      (.keep [2, 3]))
      (.ret))))
def fc_words_read : FC := ⟨23, cmd_words_read, [.t 2, .t 3]⟩
theorem fc_words_read_ok : compF Try.prog 41 [[0, 2], [0, 2, 8], [2, 3], [0, 2, 9], [0, 2, 9], [0, 2, 9, 10], [0, 2, 4, 9], [0, 2, 9], [0, 2, 9], [2, 3]] = some fc_words_read := by kernel_rfl
/-- joist/words.may -/
abbrev F.words_may : Nat := 42
def cmd_words_may : Cmd :=
  .seq (.seq (.reg [⟨(some 2), none, .inl (.mv (.c (.bool false)))⟩])
   (.keep [0]))
   (.seq (.seq (.reg [⟨(some 3), none, .inl (.mv (.t 0))⟩,
       ⟨(some 4), none, .inl (.bin .geq (.t 3) (.c (.int .i64 0)))⟩,
       ⟨(some 5), none, .inl (.mv (.t 4))⟩,
       ⟨(some 6), (some (5, true)), .inl (.mv (.t 0))⟩,
       ⟨(some 7), (some (5, true)), .inl (.bin .leq (.t 6) (.c (.int .i64 4611686018427387903)))⟩,
       ⟨(some 8), none, .inl (.pick (.t 5) (.t 7) (.c (.bool false)))⟩,
       ⟨(some 2), none, .inl (.mv (.t 8))⟩])
    (.keep [2]))
    (.ret))
def fc_words_may : FC := ⟨9, cmd_words_may, [.t 2]⟩
theorem fc_words_may_ok : compF Try.prog 42 [[0], [2]] = some fc_words_may := by kernel_rfl
/-- joist/words.write -/
abbrev F.words_write : Nat := 43
def cmd_words_write : Cmd :=
  .seq (.seq (.reg [⟨(some 5), none, .inl (.mv (.c (.int .i64 0)))⟩])
   (.keep [0, 1, 5]))
   (.block 0 (.loop [0, 1, 5] (.seq (.seq (.reg [⟨(some 6), none, .inl (.bin .lss (.t 5) (.c (.int .i64 8)))⟩])
    (.keep [0, 1, 5, 6]))
    (.seq (.cond (.t 6)
      (.skip)
      (.exit 0))
     (.seq (.block 1 (.seq (.seq (.reg [⟨(some 7), none, .inl (.mv (.t 5))⟩,
         ⟨(some 4), none, .inl (.mv (.t 7))⟩])
      (.keep [0, 1, 4, 5]))
      (.seq (.reg [⟨(some 8), none, .inl (.mv (.t 0))⟩,
          ⟨(some 9), none, .inl (.mv (.t 4))⟩,
          ⟨(some 10), none, .inl (.mv (.t 1))⟩,
          ⟨(some 11), none, .inl (.mv (.t 4))⟩,
          ⟨(some 12), none, .inl (.bin .mul (.c (.int .i64 8)) (.t 11))⟩,
          ⟨(some 13), none, .inl (.bin .shr (.t 10) (.t 12))⟩,
          ⟨(some 14), none, .inl (.conv .u8 (.t 13))⟩,
          ⟨(some 15), none, .inl (.iaddr 1 (.t 8) (.t 9))⟩,
          ⟨none, none, .inr (.store 1 (.t 15) (.t 14))⟩])
       (.keep [0, 1, 5]))))
      (.seq (.reg [⟨(some 16), none, .inl (.bin .add (.t 5) (.c (.int .i64 1)))⟩,
          ⟨(some 5), none, .inl (.mv (.t 16))⟩])
       (.keep [0, 1, 5])))))))
def fc_words_write : FC := ⟨17, cmd_words_write, []⟩
theorem fc_words_write_ok : compF Try.prog 43 [[0, 1, 5], [0, 1, 5], [0, 1, 5, 6], [0, 1, 4, 5], [0, 1, 5], [0, 1, 5]] = some fc_words_write := by kernel_rfl
/-- joist/gaps.between -/
abbrev F.gaps_between : Nat := 44
def cmd_gaps_between : Cmd :=
  .seq (.seq (.reg [⟨(some 8), none, .inl (.mv (.c (.bool false)))⟩])
   (.keep [0, 1, 2, 3]))
   (.seq (.seq (.seq (.reg [⟨(some 12), none, .inl (.mv (.t 0))⟩,
       ⟨(some 13), none, .inl (.bin .lss (.t 12) (.c (.int .i64 0)))⟩,
       ⟨(some 14), none, .inl (.mv (.t 13))⟩,
       ⟨(some 15), (some (14, false)), .inl (.mv (.t 0))⟩,
       ⟨(some 16), (some (14, false)), .inl (.mv (.t 1))⟩,
       ⟨(some 17), (some (14, false)), .inl (.bin .gtr (.t 15) (.t 16))⟩,
       ⟨(some 18), none, .inl (.pick (.t 14) (.c (.bool true)) (.t 17))⟩,
       ⟨(some 19), none, .inl (.mv (.t 18))⟩,
       ⟨(some 20), (some (19, false)), .inl (.mv (.t 1))⟩,
       ⟨(some 21), (some (19, false)), .inl (.bin .gtr (.t 20) (.c (.int .i64 2048)))⟩,
       ⟨(some 22), none, .inl (.pick (.t 19) (.c (.bool true)) (.t 21))⟩,
       ⟨(some 23), none, .inl (.mv (.t 22))⟩,
       ⟨(some 24), (some (23, false)), .inl (.mv (.t 0))⟩,
       ⟨(some 25), (some (23, false)), .inr (.call 50 [(.t 24)])⟩,
       ⟨(some 26), (some (23, false)), .inl (.un .not (.t 25))⟩,
       ⟨(some 27), none, .inl (.pick (.t 23) (.c (.bool true)) (.t 26))⟩,
       ⟨(some 28), none, .inl (.mv (.t 27))⟩,
       ⟨(some 29), (some (28, false)), .inl (.mv (.t 1))⟩,
       ⟨(some 30), (some (28, false)), .inr (.call 50 [(.t 29)])⟩,
       ⟨(some 31), (some (28, false)), .inl (.un .not (.t 30))⟩,
       ⟨(some 32), none, .inl (.pick (.t 28) (.c (.bool true)) (.t 31))⟩])
    (.keep [0, 1, 2, 3, 32]))
    (.cond (.t 32)
      (.seq (.seq (.reg [⟨(some 8), none, .inl (.mv (.c (.bool false)))⟩])
       (.keep [8]))
       (.ret))
      (.skip)))
    (.seq (.seq (.reg [⟨(some 33), none, .inl (.mv (.t 0))⟩,
        ⟨(some 9), none, .inl (.mv (.t 33))⟩])
     (.keep [1, 2, 3, 9]))
     (.seq (.seq (.seq (.reg [⟨(some 34), none, .inl (.mv (.t 2))⟩,
         ⟨(some 35), none, .inl (.len (.t 34))⟩,
         ⟨(some 36), none, .inl (.mv (.c (.int .i64 0)))⟩])
      (.keep [1, 3, 9, 34, 35, 36]))
      (.block 0 (.loop [1, 3, 9, 34, 35, 36] (.seq (.seq (.reg [⟨(some 37), none, .inl (.bin .lss (.t 36) (.t 35))⟩])
       (.keep [1, 3, 9, 34, 35, 36, 37]))
       (.seq (.cond (.t 37)
         (.skip)
         (.exit 0))
        (.seq (.block 1 (.seq (.seq (.reg [⟨(some 38), none, .inl (.iaddr 2 (.t 34) (.t 36))⟩,
            ⟨(some 39), none, .inl (.load true 2 (.t 38))⟩,
            ⟨(some 11), none, .inr (.alloc [(.int .i64 0), (.int .i64 0)])⟩,
            ⟨none, none, .inr (.store 2 (.t 11) (.t 39))⟩])
         (.keep [1, 3, 9, 11, 34, 35, 36]))
         (.seq (.block 2 (.seq (.seq (.seq (.reg [⟨(some 41), none, .inl (.faddr 0 (.t 11))⟩,
             ⟨(some 42), none, .inl (.load false 1 (.t 41))⟩,
             ⟨(some 43), none, .inl (.mv (.t 9))⟩,
             ⟨(some 44), none, .inl (.bin .lss (.t 42) (.t 43))⟩,
             ⟨(some 40), none, .inl (.mv (.t 44))⟩])
          (.keep [1, 3, 9, 11, 34, 35, 36, 40]))
          (.cond (.t 40)
            (.skip)
            (.seq (.seq (.reg [⟨(some 45), none, .inl (.faddr 0 (.t 11))⟩,
                ⟨(some 46), none, .inl (.load false 1 (.t 45))⟩,
                ⟨(some 47), none, .inl (.mv (.t 1))⟩,
                ⟨(some 48), none, .inl (.bin .gtr (.t 46) (.t 47))⟩,
                ⟨(some 40), none, .inl (.mv (.t 48))⟩])
             (.keep [1, 3, 9, 11, 34, 35, 36, 40]))
             (.cond (.t 40)
               (.skip)
               (.seq (.seq (.reg [⟨(some 49), none, .inl (.faddr 1 (.t 11))⟩,
                   ⟨(some 50), none, .inl (.load false 1 (.t 49))⟩,
                   ⟨(some 51), none, .inl (.bin .lss (.t 50) (.c (.int .i64 4)))⟩,
                   ⟨(some 40), none, .inl (.mv (.t 51))⟩])
                (.keep [1, 3, 9, 11, 34, 35, 36, 40]))
                (.cond (.t 40)
                  (.skip)
                  (.seq (.seq (.reg [⟨(some 52), none, .inl (.faddr 1 (.t 11))⟩,
                      ⟨(some 53), none, .inl (.load false 1 (.t 52))⟩,
                      ⟨(some 54), none, .inl (.mv (.t 1))⟩,
                      ⟨(some 55), none, .inl (.faddr 0 (.t 11))⟩,
                      ⟨(some 56), none, .inl (.load false 1 (.t 55))⟩,
                      ⟨(some 57), none, .inl (.bin .sub (.t 54) (.t 56))⟩,
                      ⟨(some 58), none, .inl (.bin .gtr (.t 53) (.t 57))⟩,
                      ⟨(some 40), none, .inl (.mv (.t 58))⟩])
                   (.keep [1, 3, 9, 11, 34, 35, 36, 40]))
                   (.cond (.t 40)
                     (.skip)
                     (.seq (.seq (.reg [⟨(some 59), none, .inl (.faddr 0 (.t 11))⟩,
                         ⟨(some 60), none, .inl (.load false 1 (.t 59))⟩,
                         ⟨(some 61), none, .inr (.call 50 [(.t 60)])⟩,
                         ⟨(some 62), none, .inl (.un .not (.t 61))⟩,
                         ⟨(some 40), none, .inl (.mv (.t 62))⟩])
                      (.keep [1, 3, 9, 11, 34, 35, 36, 40]))
                      (.cond (.t 40)
                        (.skip)
                        (.seq (.reg [⟨(some 63), none, .inl (.faddr 1 (.t 11))⟩,
                            ⟨(some 64), none, .inl (.load false 1 (.t 63))⟩,
                            ⟨(some 65), none, .inr (.call 50 [(.t 64)])⟩,
                            ⟨(some 66), none, .inl (.un .not (.t 65))⟩,
                            ⟨(some 40), none, .inl (.mv (.t 66))⟩])
                         (.keep [1, 3, 9, 11, 34, 35, 36, 40]))))))))))))
          (.cond (.t 40)
            (.seq (.seq (.reg [⟨(some 8), none, .inl (.mv (.c (.bool false)))⟩])
             (.keep [8]))
             (.ret))
            (.skip))))
          (.seq (.seq (.reg [⟨(some 67), none, .inl (.mv (.t 3))⟩,
              ⟨(some 68), none, .inl (.mv (.t 9))⟩,
              ⟨(some 69), none, .inl (.faddr 0 (.t 11))⟩,
              ⟨(some 70), none, .inl (.load false 1 (.t 69))⟩,
              ⟨(some 71), none, .inr (.callv (.t 67) [(.t 68), (.t 70)])⟩])
           (.keep [1, 3, 11, 34, 35, 36]))
           (.seq (.reg [⟨(some 72), none, .inl (.faddr 0 (.t 11))⟩,
               ⟨(some 73), none, .inl (.load false 1 (.t 72))⟩,
               ⟨(some 74), none, .inl (.faddr 1 (.t 11))⟩,
               ⟨(some 75), none, .inl (.load false 1 (.t 74))⟩,
               ⟨(some 76), none, .inl (.bin .add (.t 73) (.t 75))⟩,
               ⟨(some 9), none, .inl (.mv (.t 76))⟩])
            (.keep [1, 3, 9, 34, 35, 36]))))))
         (.seq (.reg [⟨(some 77), none, .inl (.bin .add (.t 36) (.c (.int .i64 1)))⟩,
             ⟨(some 36), none, .inl (.mv (.t 77))⟩])
          (.keep [1, 3, 9, 34, 35, 36]))))))))
      (.seq (.seq (.reg [⟨(some 78), none, .inl (.mv (.t 3))⟩,
          ⟨(some 79), none, .inl (.mv (.t 9))⟩,
          ⟨(some 80), none, .inl (.mv (.t 1))⟩,
          ⟨(some 81), none, .inr (.callv (.t 78) [(.t 79), (.t 80)])⟩])
       (.keep []))
       (.seq (.seq (.reg [⟨(some 8), none, .inl (.mv (.c (.bool true)))⟩])
        (.keep [8]))
        (.ret))))))
def fc_gaps_between : FC := ⟨82, cmd_gaps_between, [.t 8]⟩
theorem fc_gaps_between_ok : compF Try.prog 44 [[0, 1, 2, 3], [0, 1, 2, 3, 32], [8], [1, 2, 3, 9], [1, 3, 9, 34, 35, 36], [1, 3, 9, 34, 35, 36], [1, 3, 9, 34, 35, 36, 37], [1, 3, 9, 11, 34, 35, 36], [1, 3, 9, 11, 34, 35, 36, 40], [1, 3, 9, 11, 34, 35, 36, 40], [1, 3, 9, 11, 34, 35, 36, 40], [1, 3, 9, 11, 34, 35, 36, 40], [1, 3, 9, 11, 34, 35, 36, 40], [1, 3, 9, 11, 34, 35, 36, 40], [8], [1, 3, 11, 34, 35, 36], [1, 3, 9, 34, 35, 36], [1, 3, 9, 34, 35, 36], [], [8]] = some fc_gaps_between := by kernel_rfl
/-- joist/gaps.Gaps$1 -/
abbrev F.gaps_Gaps_1 : Nat := 45
def cmd_gaps_Gaps_1 : Cmd :=
  .seq (.seq (.reg [⟨(some 5), none, .inl (.mv (.t 1))⟩,
      ⟨(some 6), none, .inl (.mv (.t 0))⟩,
      ⟨(some 7), none, .inl (.bin .gtr (.t 5) (.t 6))⟩])
   (.keep [0, 1, 2, 7]))
   (.cond (.t 7)
     (.seq (.reg [⟨(some 8), none, .inl (.load false 1 (.t 2))⟩,
         ⟨(some 9), none, .inl (.mv (.t 0))⟩,
         ⟨(some 10), none, .inl (.mv (.t 1))⟩,
         ⟨(some 11), none, .inl (.mv (.t 0))⟩,
         ⟨(some 12), none, .inl (.bin .sub (.t 10) (.t 11))⟩,
         ⟨(some 13), none, .inl (.build [(.int .i64 0), (.int .i64 0)] [(0, 1, (.t 9)), (1, 1, (.t 12))])⟩,
         ⟨(some 14), none, .inr (.bslice 2 [(.int .i64 0), (.int .i64 0)] 1 [(0, (.t 13))])⟩,
         ⟨(some 15), none, .inr (.append 2 16 (.t 8) (.t 14))⟩,
         ⟨none, none, .inr (.store 1 (.t 2) (.t 15))⟩])
      (.keep []))
     (.skip))
def fc_gaps_Gaps_1 : FC := ⟨16, cmd_gaps_Gaps_1, []⟩
theorem fc_gaps_Gaps_1_ok : compF Try.prog 45 [[0, 1, 2, 7], []] = some fc_gaps_Gaps_1 := by kernel_rfl
/-- joist/joistref11.spans -/
abbrev F.joistref11_spans : Nat := 46
def cmd_joistref11_spans : Cmd :=
  .seq (.seq (.reg [⟨(some 2), none, .inl (.mv (.c .nils))⟩])
   (.keep [0]))
   (.seq (.seq (.reg [⟨(some 3), none, .inl (.mv (.c .nils))⟩])
    (.keep [0, 3]))
    (.seq (.seq (.seq (.reg [⟨(some 4), none, .inl (.mv (.c (.int .i64 0)))⟩])
     (.keep [0, 3, 4]))
     (.block 0 (.loop [0, 3, 4] (.seq (.seq (.seq (.reg [⟨(some 5), none, .inl (.mv (.t 4))⟩,
         ⟨(some 6), none, .inl (.mv (.t 0))⟩,
         ⟨(some 7), none, .inl (.len (.t 6))⟩,
         ⟨(some 8), none, .inl (.bin .lss (.t 5) (.t 7))⟩])
      (.keep [0, 3, 4, 8]))
      (.cond (.t 8)
        (.skip)
        (.exit 0)))
      (.seq (.block 1 (.seq (.ord [⟨0, ⟨(some 11), none, .inl (.mv (.t 3))⟩, [], true⟩,
          ⟨1, ⟨(some 12), none, .inl (.mv (.t 0))⟩, [], false⟩,
          ⟨2, ⟨(some 13), none, .inl (.mv (.t 4))⟩, [], false⟩,
          ⟨3, ⟨(some 14), none, .inl (.iaddr 3 (.t 12) (.t 13))⟩, [], false⟩,
          ⟨4, ⟨(some 15), none, .inl (.faddr 0 (.t 14))⟩, [], false⟩,
          ⟨5, ⟨(some 16), none, .inl (.load false 1 (.t 15))⟩, [], false⟩,
          ⟨6, ⟨(some 17), none, .inl (.mv (.t 0))⟩, [], false⟩,
          ⟨7, ⟨(some 18), none, .inl (.mv (.t 4))⟩, [], false⟩,
          ⟨8, ⟨(some 19), none, .inl (.iaddr 3 (.t 17) (.t 18))⟩, [], false⟩,
          ⟨9, ⟨(some 20), none, .inl (.faddr 1 (.t 19))⟩, [], false⟩,
          ⟨10, ⟨(some 21), none, .inl (.load false 1 (.t 20))⟩, [], false⟩,
          ⟨11, ⟨(some 22), none, .inl (.build [(.int .i64 0), (.int .i64 0)] [(0, 1, (.t 16)), (1, 1, (.t 21))])⟩, [], false⟩,
          ⟨12, ⟨(some 23), none, .inr (.bslice 2 [(.int .i64 0), (.int .i64 0)] 1 [(0, (.t 22))])⟩, [0], false⟩,
          ⟨13, ⟨(some 24), none, .inr (.append 2 16 (.t 11) (.t 23))⟩, [], false⟩,
          ⟨14, ⟨(some 3), none, .inl (.mv (.t 24))⟩, [], false⟩])
       (.keep [0, 3, 4])))
       (.seq (.reg [⟨(some 9), none, .inl (.mv (.t 4))⟩,
           ⟨(some 10), none, .inl (.bin .add (.t 9) (.c (.int .i64 1)))⟩,
           ⟨(some 4), none, .inl (.mv (.t 10))⟩])
        (.keep [0, 3, 4])))))))
     (.seq (.seq (.reg [⟨(some 25), none, .inl (.mv (.t 3))⟩,
         ⟨(some 2), none, .inl (.mv (.t 25))⟩])
      (.keep [2]))
      (.ret))))
def fc_joistref11_spans : FC := ⟨26, cmd_joistref11_spans, [.t 2]⟩
theorem fc_joistref11_spans_ok : compF Try.prog 46 [[0], [0, 3], [0, 3, 4], [0, 3, 4], [0, 3, 4, 8], [0, 3, 4], [0, 1, 2, 3, 4, 5, 6, 7, 8, 9, 10, 11, 12, 13, 14], [0, 3, 4], [2]] = some fc_joistref11_spans := by kernel_rfl
/-- joist/joistref01.Bytes -/
abbrev F.joistref01_Bytes : Nat := 47
def cmd_joistref01_Bytes : Cmd :=
  .seq (.seq (.reg [⟨(some 2), none, .inl (.mv (.c .nils))⟩])
   (.keep [0]))
   (.seq (.seq (.reg [⟨(some 3), none, .inl (.mv (.c .nils))⟩])
    (.keep [0, 3]))
    (.seq (.seq (.seq (.reg [⟨(some 4), none, .inl (.mv (.c (.int .i64 0)))⟩])
     (.keep [0, 3, 4]))
     (.block 0 (.loop [0, 3, 4] (.seq (.seq (.seq (.reg [⟨(some 5), none, .inl (.mv (.t 4))⟩,
         ⟨(some 6), none, .inl (.bin .lss (.t 5) (.c (.int .i64 8)))⟩])
      (.keep [0, 3, 4, 6]))
      (.cond (.t 6)
        (.skip)
        (.exit 0)))
      (.seq (.block 1 (.seq (.seq (.reg [⟨(some 9), none, .inl (.mv (.t 3))⟩,
          ⟨(some 10), none, .inl (.mv (.t 0))⟩,
          ⟨(some 11), none, .inl (.conv .u8 (.t 10))⟩,
          ⟨(some 12), none, .inr (.bslice 1 [(.int .u8 0)] 1 [(0, (.t 11))])⟩,
          ⟨(some 13), none, .inr (.append 1 1 (.t 9) (.t 12))⟩,
          ⟨(some 3), none, .inl (.mv (.t 13))⟩])
       (.keep [0, 3, 4]))
       (.seq (.reg [⟨(some 14), none, .inl (.mv (.t 0))⟩,
           ⟨(some 15), none, .inl (.bin .quo (.t 14) (.c (.int .i64 256)))⟩,
           ⟨(some 0), none, .inl (.mv (.t 15))⟩])
        (.keep [0, 3, 4]))))
       (.seq (.reg [⟨(some 7), none, .inl (.mv (.t 4))⟩,
           ⟨(some 8), none, .inl (.bin .add (.t 7) (.c (.int .i64 1)))⟩,
           ⟨(some 4), none, .inl (.mv (.t 8))⟩])
        (.keep [0, 3, 4])))))))
     (.seq (.seq (.reg [⟨(some 16), none, .inl (.mv (.t 3))⟩,
         ⟨(some 2), none, .inl (.mv (.t 16))⟩])
      (.keep [2]))
      (.ret))))
def fc_joistref01_Bytes : FC := ⟨17, cmd_joistref01_Bytes, [.t 2]⟩
theorem fc_joistref01_Bytes_ok : compF Try.prog 47 [[0], [0, 3], [0, 3, 4], [0, 3, 4], [0, 3, 4, 6], [0, 3, 4], [0, 3, 4], [0, 3, 4], [2]] = some fc_joistref01_Bytes := by kernel_rfl
/-- joist/joistref10.Gaps -/
abbrev F.joistref10_Gaps : Nat := 48
def cmd_joistref10_Gaps : Cmd :=
  .seq (.seq (.reg [⟨(some 6), none, .inl (.mv (.c .nils))⟩,
      ⟨(some 7), none, .inl (.mv (.c (.int .i64 0)))⟩])
   (.keep [0, 1, 2]))
   (.seq (.seq (.reg [⟨(some 13), none, .inl (.mv (.t 0))⟩,
       ⟨(some 14), none, .inl (.mv (.t 1))⟩,
       ⟨(some 15), none, .inl (.mv (.t 2))⟩,
       ⟨(some 16), none, .inr (.call 38 [(.t 13), (.t 14), (.t 15)])⟩,
       ⟨(some 8), none, .inl (.mv (.t 16))⟩])
    (.keep [0, 1, 2, 8]))
    (.seq (.seq (.seq (.reg [⟨(some 17), none, .inl (.mv (.t 8))⟩,
        ⟨(some 18), none, .inl (.un .not (.t 17))⟩])
     (.keep [0, 1, 2, 18]))
     (.cond (.t 18)
       (.seq (.seq (.reg [⟨(some 6), none, .inl (.mv (.c .nils))⟩,
           ⟨(some 7), none, .inl (.mv (.c (.int .i64 1)))⟩])
        (.keep [6, 7]))
        (.ret))
       (.skip)))
     (.seq (.seq (.reg [⟨(some 9), none, .inl (.mv (.c .nils))⟩])
      (.keep [0, 1, 2, 9]))
      (.seq (.seq (.reg [⟨(some 19), none, .inl (.mv (.t 0))⟩,
          ⟨(some 10), none, .inl (.mv (.t 19))⟩])
       (.keep [1, 2, 9, 10]))
       (.seq (.seq (.seq (.reg [⟨(some 11), none, .inl (.mv (.c (.int .i64 0)))⟩])
        (.keep [1, 2, 9, 10, 11]))
        (.block 0 (.loop [1, 2, 9, 10, 11] (.seq (.seq (.seq (.reg [⟨(some 20), none, .inl (.mv (.t 11))⟩,
            ⟨(some 21), none, .inl (.mv (.t 2))⟩,
            ⟨(some 22), none, .inl (.len (.t 21))⟩,
            ⟨(some 23), none, .inl (.bin .leq (.t 20) (.t 22))⟩])
         (.keep [1, 2, 9, 10, 11, 23]))
         (.cond (.t 23)
           (.skip)
           (.exit 0)))
         (.seq (.block 1 (.seq (.seq (.reg [⟨(some 26), none, .inl (.mv (.t 1))⟩,
             ⟨(some 12), none, .inl (.mv (.t 26))⟩])
          (.keep [1, 2, 9, 10, 11, 12]))
          (.seq (.seq (.seq (.reg [⟨(some 27), none, .inl (.mv (.t 11))⟩,
              ⟨(some 28), none, .inl (.mv (.t 2))⟩,
              ⟨(some 29), none, .inl (.len (.t 28))⟩,
              ⟨(some 30), none, .inl (.bin .lss (.t 27) (.t 29))⟩])
           (.keep [1, 2, 9, 10, 11, 12, 30]))
           (.cond (.t 30)
             (.seq (.reg [⟨(some 31), none, .inl (.mv (.t 2))⟩,
                 ⟨(some 32), none, .inl (.mv (.t 11))⟩,
                 ⟨(some 33), none, .inl (.iaddr 2 (.t 31) (.t 32))⟩,
                 ⟨(some 34), none, .inl (.faddr 0 (.t 33))⟩,
                 ⟨(some 35), none, .inl (.load false 1 (.t 34))⟩,
                 ⟨(some 12), none, .inl (.mv (.t 35))⟩])
              (.keep [1, 2, 9, 10, 11, 12]))
             (.skip)))
           (.seq (.seq (.seq (.reg [⟨(some 36), none, .inl (.mv (.t 12))⟩,
               ⟨(some 37), none, .inl (.mv (.t 10))⟩,
               ⟨(some 38), none, .inl (.bin .gtr (.t 36) (.t 37))⟩])
            (.keep [1, 2, 9, 10, 11, 12, 38]))
            (.cond (.t 38)
              (.seq (.reg [⟨(some 39), none, .inl (.mv (.t 9))⟩,
                  ⟨(some 40), none, .inl (.mv (.t 10))⟩,
                  ⟨(some 41), none, .inl (.mv (.t 12))⟩,
                  ⟨(some 42), none, .inl (.mv (.t 10))⟩,
                  ⟨(some 43), none, .inl (.bin .sub (.t 41) (.t 42))⟩,
                  ⟨(some 44), none, .inl (.build [(.int .i64 0), (.int .i64 0)] [(0, 1, (.t 40)), (1, 1, (.t 43))])⟩,
                  ⟨(some 45), none, .inr (.bslice 2 [(.int .i64 0), (.int .i64 0)] 1 [(0, (.t 44))])⟩,
                  ⟨(some 46), none, .inr (.append 2 16 (.t 39) (.t 45))⟩,
                  ⟨(some 9), none, .inl (.mv (.t 46))⟩])
               (.keep [1, 2, 9, 10, 11]))
              (.skip)))
            (.seq (.seq (.reg [⟨(some 47), none, .inl (.mv (.t 11))⟩,
                ⟨(some 48), none, .inl (.mv (.t 2))⟩,
                ⟨(some 49), none, .inl (.len (.t 48))⟩,
                ⟨(some 50), none, .inl (.bin .lss (.t 47) (.t 49))⟩])
             (.keep [1, 2, 9, 10, 11, 50]))
             (.cond (.t 50)
               (.seq (.ord [⟨0, ⟨(some 51), none, .inl (.mv (.t 2))⟩, [], false⟩,
                   ⟨1, ⟨(some 52), none, .inl (.mv (.t 11))⟩, [], false⟩,
                   ⟨2, ⟨(some 53), none, .inl (.iaddr 2 (.t 51) (.t 52))⟩, [], false⟩,
                   ⟨3, ⟨(some 54), none, .inl (.faddr 0 (.t 53))⟩, [], false⟩,
                   ⟨4, ⟨(some 55), none, .inl (.load false 1 (.t 54))⟩, [], false⟩,
                   ⟨5, ⟨(some 56), none, .inl (.mv (.t 2))⟩, [], false⟩,
                   ⟨6, ⟨(some 57), none, .inl (.mv (.t 11))⟩, [], false⟩,
                   ⟨7, ⟨(some 58), none, .inl (.iaddr 2 (.t 56) (.t 57))⟩, [], false⟩,
                   ⟨8, ⟨(some 59), none, .inl (.faddr 1 (.t 58))⟩, [], false⟩,
                   ⟨9, ⟨(some 60), none, .inl (.load false 1 (.t 59))⟩, [], false⟩,
                   ⟨10, ⟨(some 61), none, .inl (.bin .add (.t 55) (.t 60))⟩, [], false⟩,
                   ⟨11, ⟨(some 10), none, .inl (.mv (.t 61))⟩, [], false⟩])
                (.keep [1, 2, 9, 10, 11]))
               (.skip)))))))
          (.seq (.reg [⟨(some 24), none, .inl (.mv (.t 11))⟩,
              ⟨(some 25), none, .inl (.bin .add (.t 24) (.c (.int .i64 1)))⟩,
              ⟨(some 11), none, .inl (.mv (.t 25))⟩])
           (.keep [1, 2, 9, 10, 11])))))))
        (.seq (.seq (.reg [⟨(some 62), none, .inl (.mv (.t 9))⟩,
            ⟨(some 6), none, .inl (.mv (.t 62))⟩,
            ⟨(some 7), none, .inl (.mv (.c (.int .i64 0)))⟩])
         (.keep [6, 7]))
         (.ret)))))))
def fc_joistref10_Gaps : FC := ⟨63, cmd_joistref10_Gaps, [.t 6, .t 7]⟩
theorem fc_joistref10_Gaps_ok : compF Try.prog 48 [[0, 1, 2], [0, 1, 2, 8], [0, 1, 2, 18], [6, 7], [0, 1, 2, 9], [1, 2, 9, 10], [1, 2, 9, 10, 11], [1, 2, 9, 10, 11], [1, 2, 9, 10, 11, 23], [1, 2, 9, 10, 11, 12], [1, 2, 9, 10, 11, 12, 30], [1, 2, 9, 10, 11, 12], [1, 2, 9, 10, 11, 12, 38], [1, 2, 9, 10, 11], [1, 2, 9, 10, 11, 50], [1, 2, 9, 10, 11], [0, 1, 2, 3, 4, 5, 6, 7, 8, 9, 10, 11], [1, 2, 9, 10, 11], [6, 7]] = some fc_joistref10_Gaps := by kernel_rfl
/-- joist/gaps.Right$1 -/
abbrev F.gaps_Right_1 : Nat := 49
def cmd_gaps_Right_1 : Cmd :=
  .skip
def fc_gaps_Right_1 : FC := ⟨4, cmd_gaps_Right_1, []⟩
theorem fc_gaps_Right_1_ok : compF Try.prog 49 [] = some fc_gaps_Right_1 := by kernel_rfl
/-- joist/gaps.even -/
abbrev F.gaps_even : Nat := 50
def cmd_gaps_even : Cmd :=
  .seq (.seq (.reg [⟨(some 2), none, .inl (.mv (.c (.bool false)))⟩])
   (.keep [0]))
   (.seq (.seq (.reg [⟨(some 3), none, .inl (.mv (.t 0))⟩,
       ⟨(some 4), none, .inl (.bin .rem (.t 3) (.c (.int .i64 4)))⟩,
       ⟨(some 5), none, .inl (.bin .eql (.t 4) (.c (.int .i64 0)))⟩,
       ⟨(some 2), none, .inl (.mv (.t 5))⟩])
    (.keep [2]))
    (.ret))
def fc_gaps_even : FC := ⟨6, cmd_gaps_even, [.t 2]⟩
theorem fc_gaps_even_ok : compF Try.prog 50 [[0], [2]] = some fc_gaps_even := by kernel_rfl
end Go.Proofs.Ytjbfdhnfdehdeaa
