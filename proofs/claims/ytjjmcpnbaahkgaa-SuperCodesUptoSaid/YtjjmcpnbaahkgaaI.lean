import Derived.Test.YtjjmcpnbaahkgaaProg
import Derived.Test.YtjjmcpnbaahkgaaVG
import Derived.KernelRfl
namespace Go.Proofs.Ytjjmcpnbaahkgaa
open Go Go.Proofs.Ytjjmcpnbaahkgaa.V
set_option linter.unusedVariables false

theorem mixed : Try.prog.follows .mixedOrders = true := by kernel_rfl
/-- joist/joistlaw17.SuperCodes -/
abbrev F.joistlaw17_SuperCodes : Nat := 3
def cmd_joistlaw17_SuperCodes : Cmd :=
  .seq (.seq (.reg [⟨(some 5), none, .inr (.box 4 (.t 0))⟩,
      ⟨(some 10), none, .inl (.mv (.c (.bool false)))⟩])
   (.keep [1, 2, 3, 4, 5]))
   (.seq (.seq (.reg [⟨(some 32), none, .inr (.call 6 [])⟩,
       ⟨(some 11), none, .inl (.mv (.t 32))⟩])
    (.keep [1, 2, 3, 4, 5, 11]))
    (.seq (.seq (.reg [⟨(some 33), none, .inl (.mv (.t 3))⟩,
        ⟨(some 34), none, .inr (.call 7 [(.t 33)])⟩,
        ⟨(some 12), none, .inl (.mv (.t 34))⟩])
     (.keep [1, 2, 3, 4, 5, 11, 12]))
     (.seq (.seq (.reg [⟨(some 36), none, .inl (.load true 4 (.t 5))⟩,
         ⟨(some 37), none, .inl (.mv (.t 1))⟩,
         ⟨(some 38), none, .inl (.mv (.t 2))⟩,
         ⟨(some 39), none, .inr (.call 8 [(.t 36), (.t 37), (.t 38)])⟩,
         ⟨(some 35), none, .inl (.mv (.t 39))⟩,
         ⟨(some 40), none, .inl (.ext 0 (.t 35))⟩,
         ⟨(some 41), none, .inl (.ext 1 (.t 35))⟩,
         ⟨(some 13), none, .inl (.mv (.t 40))⟩,
         ⟨(some 14), none, .inl (.mv (.t 41))⟩])
      (.keep [1, 2, 3, 4, 5, 11, 12, 13, 14]))
      (.seq (.seq (.reg [⟨(some 43), none, .inl (.mv (.t 12))⟩,
          ⟨(some 44), none, .inr (.call 9 [(.t 43)])⟩,
          ⟨(some 42), none, .inl (.mv (.t 44))⟩,
          ⟨(some 45), none, .inl (.ext 0 (.t 42))⟩,
          ⟨(some 46), none, .inl (.ext 1 (.t 42))⟩,
          ⟨(some 47), none, .inl (.ext 2 (.t 42))⟩,
          ⟨(some 48), none, .inl (.ext 3 (.t 42))⟩,
          ⟨(some 15), none, .inr (.alloc [(.int .i64 0), (.int .i64 0), (.int .i64 0), (.int .i64 0)])⟩,
          ⟨none, none, .inr (.store 4 (.t 15) (.t 45))⟩,
          ⟨(some 16), none, .inl (.mv (.t 46))⟩,
          ⟨(some 17), none, .inl (.mv (.t 47))⟩,
          ⟨(some 18), none, .inl (.mv (.t 48))⟩])
       (.keep [1, 2, 3, 4, 5, 11, 12, 13, 14, 15, 16, 17, 18]))
       (.seq (.seq (.reg [⟨(some 49), none, .inl (.mv (.t 12))⟩,
           ⟨(some 50), none, .inl (.mv (.t 3))⟩,
           ⟨(some 51), none, .inr (.call 10 [(.t 49), (.t 50)])⟩,
           ⟨(some 19), none, .inl (.mv (.t 51))⟩])
        (.keep [1, 2, 3, 4, 5, 11, 12, 13, 14, 15, 16, 17, 18, 19]))
        (.seq (.seq (.reg [⟨(some 53), none, .inl (.load true 4 (.t 5))⟩,
            ⟨(some 54), none, .inl (.mv (.t 1))⟩,
            ⟨(some 55), none, .inl (.mv (.t 2))⟩,
            ⟨(some 56), none, .inr (.call 11 [(.t 53), (.t 54), (.t 55)])⟩,
            ⟨(some 52), none, .inl (.mv (.t 56))⟩,
            ⟨(some 57), none, .inl (.ext 0 (.t 52))⟩,
            ⟨(some 58), none, .inl (.ext 1 (.t 52))⟩,
            ⟨(some 20), none, .inl (.mv (.t 57))⟩,
            ⟨(some 21), none, .inl (.mv (.t 58))⟩])
         (.keep [1, 2, 3, 4, 5, 11, 12, 13, 14, 15, 16, 17, 18, 19, 20, 21]))
         (.seq (.seq (.reg [⟨(some 60), none, .inl (.mv (.t 3))⟩,
             ⟨(some 61), none, .inr (.call 12 [(.t 60)])⟩,
             ⟨(some 59), none, .inl (.mv (.t 61))⟩,
             ⟨(some 62), none, .inl (.ext 0 (.t 59))⟩,
             ⟨(some 63), none, .inl (.ext 1 (.t 59))⟩,
             ⟨(some 64), none, .inl (.ext 2 (.t 59))⟩,
             ⟨(some 65), none, .inl (.ext 3 (.t 59))⟩,
             ⟨(some 22), none, .inr (.alloc [(.int .i64 0), (.int .i64 0), (.int .i64 0), (.int .i64 0)])⟩,
             ⟨none, none, .inr (.store 4 (.t 22) (.t 62))⟩,
             ⟨(some 23), none, .inl (.mv (.t 63))⟩,
             ⟨(some 24), none, .inl (.mv (.t 64))⟩,
             ⟨(some 25), none, .inl (.mv (.t 65))⟩])
          (.keep [1, 2, 4, 5, 11, 12, 13, 14, 15, 16, 17, 18, 19, 20, 21, 22, 23, 24, 25]))
          (.seq (.seq (.reg [⟨(some 66), none, .inl (.mv (.t 13))⟩,
              ⟨(some 67), none, .inl (.b2s (.t 66))⟩,
              ⟨(some 68), none, .inl (.mv (.t 20))⟩,
              ⟨(some 69), none, .inl (.b2s (.t 68))⟩,
              ⟨(some 70), none, .inl (.bins .eql (.t 67) (.t 69))⟩,
              ⟨(some 26), none, .inl (.mv (.t 70))⟩])
           (.keep [1, 2, 4, 5, 11, 12, 13, 14, 15, 16, 17, 18, 19, 21, 22, 23, 24, 25, 26]))
           (.seq (.seq (.reg [⟨(some 71), none, .inl (.mv (.t 13))⟩,
               ⟨(some 72), none, .inl (.mv (.t 12))⟩,
               ⟨(some 73), none, .inr (.bslice 1 [.nils] 2 [(0, (.t 71)), (1, (.t 72))])⟩,
               ⟨(some 74), none, .inr (.call 13 [(.t 73)])⟩,
               ⟨(some 27), none, .inl (.mv (.t 74))⟩])
            (.keep [1, 2, 4, 5, 11, 14, 15, 16, 17, 18, 19, 21, 22, 23, 24, 25, 26, 27]))
            (.seq (.seq (.reg [⟨(some 76), none, .inl (.mv (.t 4))⟩,
                ⟨(some 77), none, .inr (.call 14 [(.t 76)])⟩,
                ⟨(some 75), none, .inl (.mv (.t 77))⟩,
                ⟨(some 78), none, .inl (.ext 0 (.t 75))⟩,
                ⟨(some 79), none, .inl (.ext 1 (.t 75))⟩,
                ⟨(some 28), none, .inl (.mv (.t 78))⟩,
                ⟨(some 29), none, .inl (.mv (.t 79))⟩])
             (.keep [1, 2, 4, 5, 11, 14, 15, 16, 17, 18, 19, 21, 22, 23, 24, 25, 26, 27, 28, 29]))
             (.seq (.seq (.reg [⟨(some 81), none, .inl (.mv (.t 4))⟩,
                 ⟨(some 82), none, .inr (.call 15 [(.t 81)])⟩,
                 ⟨(some 80), none, .inl (.mv (.t 82))⟩,
                 ⟨(some 83), none, .inl (.ext 0 (.t 80))⟩,
                 ⟨(some 84), none, .inl (.ext 1 (.t 80))⟩,
                 ⟨(some 30), none, .inl (.mv (.t 83))⟩,
                 ⟨(some 31), none, .inl (.mv (.t 84))⟩])
              (.keep [1, 2, 5, 11, 14, 15, 16, 17, 18, 19, 21, 22, 23, 24, 25, 26, 27, 28, 29, 30, 31]))
              (.seq (.seq (.ord [⟨0, ⟨(some 85), none, .inl (.mv (.t 11))⟩, [], false⟩,
                  ⟨1, ⟨(some 86), none, .inl (.mv (.t 85))⟩, [], false⟩,
                  ⟨2, ⟨(some 87), (some (86, true)), .inl (.mv (.t 19))⟩, [], false⟩,
                  ⟨3, ⟨(some 88), none, .inl (.pick (.t 86) (.t 87) (.c (.bool false)))⟩, [], false⟩,
                  ⟨4, ⟨(some 89), none, .inl (.mv (.t 88))⟩, [], false⟩,
                  ⟨5, ⟨(some 90), (some (89, true)), .inl (.mv (.t 26))⟩, [], false⟩,
                  ⟨6, ⟨(some 91), none, .inl (.pick (.t 89) (.t 90) (.c (.bool false)))⟩, [], false⟩,
                  ⟨7, ⟨(some 92), none, .inl (.mv (.t 91))⟩, [], false⟩,
                  ⟨8, ⟨(some 93), (some (92, true)), .inl (.mv (.t 27))⟩, [], false⟩,
                  ⟨9, ⟨(some 94), none, .inl (.pick (.t 92) (.t 93) (.c (.bool false)))⟩, [], false⟩,
                  ⟨10, ⟨(some 95), none, .inl (.mv (.t 94))⟩, [], false⟩,
                  ⟨11, ⟨(some 96), (some (95, true)), .inl (.mv (.t 14))⟩, [], false⟩,
                  ⟨12, ⟨(some 97), (some (95, true)), .inl (.mv (.t 21))⟩, [], false⟩,
                  ⟨13, ⟨(some 98), (some (95, true)), .inl (.bin .eql (.t 96) (.t 97))⟩, [], false⟩,
                  ⟨14, ⟨(some 99), none, .inl (.pick (.t 95) (.t 98) (.c (.bool false)))⟩, [], false⟩,
                  ⟨15, ⟨(some 100), none, .inl (.mv (.t 99))⟩, [], false⟩,
                  ⟨16, ⟨(some 101), (some (100, true)), .inl (.load true 4 (.t 15))⟩, [], false⟩,
                  ⟨17, ⟨(some 102), (some (100, true)), .inl (.load true 4 (.t 22))⟩, [], false⟩,
                  ⟨18, ⟨(some 103), (some (100, true)), .inl (.eqagg false [0, 0, 0, 0] (.t 101) (.t 102))⟩, [], false⟩,
                  ⟨19, ⟨(some 104), none, .inl (.pick (.t 100) (.t 103) (.c (.bool false)))⟩, [], false⟩,
                  ⟨20, ⟨(some 105), none, .inl (.mv (.t 104))⟩, [], false⟩,
                  ⟨21, ⟨(some 106), (some (105, true)), .inl (.mv (.t 16))⟩, [], false⟩,
                  ⟨22, ⟨(some 107), (some (105, true)), .inl (.mv (.t 23))⟩, [], false⟩,
                  ⟨23, ⟨(some 108), (some (105, true)), .inl (.bin .eql (.t 106) (.t 107))⟩, [], false⟩,
                  ⟨24, ⟨(some 109), none, .inl (.pick (.t 105) (.t 108) (.c (.bool false)))⟩, [], false⟩,
                  ⟨25, ⟨(some 110), none, .inl (.mv (.t 109))⟩, [], false⟩,
                  ⟨26, ⟨(some 111), (some (110, true)), .inl (.mv (.t 17))⟩, [], false⟩,
                  ⟨27, ⟨(some 112), (some (110, true)), .inl (.mv (.t 24))⟩, [], false⟩,
                  ⟨28, ⟨(some 113), (some (110, true)), .inl (.bin .eql (.t 111) (.t 112))⟩, [], false⟩,
                  ⟨29, ⟨(some 114), none, .inl (.pick (.t 110) (.t 113) (.c (.bool false)))⟩, [], false⟩,
                  ⟨30, ⟨(some 115), none, .inl (.mv (.t 114))⟩, [], false⟩,
                  ⟨31, ⟨(some 116), (some (115, true)), .inl (.mv (.t 18))⟩, [], false⟩,
                  ⟨32, ⟨(some 117), (some (115, true)), .inl (.mv (.t 25))⟩, [], false⟩,
                  ⟨33, ⟨(some 118), (some (115, true)), .inl (.binb .eql (.t 116) (.t 117))⟩, [], false⟩,
                  ⟨34, ⟨(some 119), none, .inl (.pick (.t 115) (.t 118) (.c (.bool false)))⟩, [], false⟩,
                  ⟨35, ⟨(some 120), none, .inl (.mv (.t 119))⟩, [], false⟩,
                  ⟨36, ⟨(some 121), (some (120, true)), .inl (.mv (.t 28))⟩, [], false⟩,
                  ⟨37, ⟨(some 122), (some (120, true)), .inl (.mv (.t 30))⟩, [], false⟩,
                  ⟨38, ⟨(some 123), (some (120, true)), .inl (.bin .eql (.t 121) (.t 122))⟩, [], false⟩,
                  ⟨39, ⟨(some 124), none, .inl (.pick (.t 120) (.t 123) (.c (.bool false)))⟩, [], false⟩,
                  ⟨40, ⟨(some 125), none, .inl (.mv (.t 124))⟩, [], false⟩,
                  ⟨41, ⟨(some 126), (some (125, true)), .inl (.mv (.t 29))⟩, [], false⟩,
                  ⟨42, ⟨(some 127), (some (125, true)), .inl (.mv (.t 31))⟩, [], false⟩,
                  ⟨43, ⟨(some 128), (some (125, true)), .inl (.binb .eql (.t 126) (.t 127))⟩, [], false⟩,
                  ⟨44, ⟨(some 129), none, .inl (.pick (.t 125) (.t 128) (.c (.bool false)))⟩, [], false⟩,
                  ⟨45, ⟨(some 130), none, .inl (.mv (.t 129))⟩, [], false⟩,
                  ⟨46, ⟨(some 131), (some (130, true)), .inl (.mv (.t 1))⟩, [], false⟩,
                  ⟨48, ⟨(some 133), (some (130, true)), .inl (.mv (.t 1))⟩, [], true⟩,
                  ⟨47, ⟨(some 132), (some (130, true)), .inr (.call 16 [(.t 131)])⟩, [48], false⟩,
                  ⟨49, ⟨(some 134), (some (130, true)), .inr (.call 17 [(.t 133)])⟩, [], false⟩,
                  ⟨50, ⟨(some 135), (some (130, true)), .inl (.bins .eql (.t 132) (.t 134))⟩, [], false⟩,
                  ⟨51, ⟨(some 136), none, .inl (.pick (.t 130) (.t 135) (.c (.bool false)))⟩, [], false⟩,
                  ⟨52, ⟨(some 137), none, .inl (.mv (.t 136))⟩, [], false⟩,
                  ⟨53, ⟨(some 138), (some (137, true)), .inl (.load true 4 (.t 5))⟩, [], false⟩,
                  ⟨54, ⟨(some 139), (some (137, true)), .inl (.mv (.t 1))⟩, [], false⟩,
                  ⟨55, ⟨(some 140), (some (137, true)), .inl (.mv (.t 2))⟩, [], false⟩,
                  ⟨57, ⟨(some 142), (some (137, true)), .inl (.load true 4 (.t 5))⟩, [], true⟩,
                  ⟨58, ⟨(some 143), (some (137, true)), .inl (.mv (.t 1))⟩, [], true⟩,
                  ⟨59, ⟨(some 144), (some (137, true)), .inl (.mv (.t 2))⟩, [], true⟩,
                  ⟨56, ⟨(some 141), (some (137, true)), .inr (.call 18 [(.t 138), (.t 139), (.t 140)])⟩, [57, 58, 59], false⟩,
                  ⟨60, ⟨(some 145), (some (137, true)), .inr (.call 19 [(.t 142), (.t 143), (.t 144)])⟩, [], false⟩,
                  ⟨61, ⟨(some 146), (some (137, true)), .inl (.binb .eql (.t 141) (.t 145))⟩, [], false⟩,
                  ⟨62, ⟨(some 147), none, .inl (.pick (.t 137) (.t 146) (.c (.bool false)))⟩, [], false⟩,
                  ⟨63, ⟨(some 10), none, .inl (.mv (.t 147))⟩, [], false⟩])
               (.keep [10]))
               (.ret)))))))))))))
def fc_joistlaw17_SuperCodes : FC := ⟨148, cmd_joistlaw17_SuperCodes, [.t 10]⟩
theorem fc_joistlaw17_SuperCodes_ok : compF Try.prog 3 [[1, 2, 3, 4, 5], [1, 2, 3, 4, 5, 11], [1, 2, 3, 4, 5, 11, 12], [1, 2, 3, 4, 5, 11, 12, 13, 14], [1, 2, 3, 4, 5, 11, 12, 13, 14, 15, 16, 17, 18], [1, 2, 3, 4, 5, 11, 12, 13, 14, 15, 16, 17, 18, 19], [1, 2, 3, 4, 5, 11, 12, 13, 14, 15, 16, 17, 18, 19, 20, 21], [1, 2, 4, 5, 11, 12, 13, 14, 15, 16, 17, 18, 19, 20, 21, 22, 23, 24, 25], [1, 2, 4, 5, 11, 12, 13, 14, 15, 16, 17, 18, 19, 21, 22, 23, 24, 25, 26], [1, 2, 4, 5, 11, 14, 15, 16, 17, 18, 19, 21, 22, 23, 24, 25, 26, 27], [1, 2, 4, 5, 11, 14, 15, 16, 17, 18, 19, 21, 22, 23, 24, 25, 26, 27, 28, 29], [1, 2, 5, 11, 14, 15, 16, 17, 18, 19, 21, 22, 23, 24, 25, 26, 27, 28, 29, 30, 31], [10], [0, 1, 2, 3, 4, 5, 6, 7, 8, 9, 10, 11, 12, 13, 14, 15, 16, 17, 18, 19, 20, 21, 22, 23, 24, 25, 26, 27, 28, 29, 30, 31, 32, 33, 34, 35, 36, 37, 38, 39, 40, 41, 42, 43, 44, 45, 46, 48, 47, 49, 50, 51, 52, 53, 54, 55, 57, 58, 59, 56, 60, 61, 62, 63]] = some fc_joistlaw17_SuperCodes := by kernel_rfl
/-- joist/joistlaw17.SuperBack -/
abbrev F.joistlaw17_SuperBack : Nat := 4
def cmd_joistlaw17_SuperBack : Cmd :=
  .seq (.seq (.reg [⟨(some 5), none, .inr (.box 4 (.t 0))⟩,
      ⟨(some 10), none, .inl (.mv (.c (.bool false)))⟩])
   (.keep [1, 2, 3, 4, 5]))
   (.seq (.seq (.reg [⟨(some 28), none, .inr (.call 6 [])⟩,
       ⟨(some 11), none, .inl (.mv (.t 28))⟩])
    (.keep [1, 2, 3, 4, 5, 11]))
    (.seq (.seq (.reg [⟨(some 30), none, .inl (.load true 4 (.t 5))⟩,
        ⟨(some 31), none, .inl (.mv (.t 1))⟩,
        ⟨(some 32), none, .inl (.mv (.t 2))⟩,
        ⟨(some 33), none, .inr (.call 8 [(.t 30), (.t 31), (.t 32)])⟩,
        ⟨(some 29), none, .inl (.mv (.t 33))⟩,
        ⟨(some 34), none, .inl (.ext 0 (.t 29))⟩,
        ⟨(some 35), none, .inl (.ext 1 (.t 29))⟩,
        ⟨(some 12), none, .inl (.mv (.t 34))⟩,
        ⟨(some 13), none, .inl (.mv (.t 35))⟩])
     (.keep [1, 2, 3, 4, 5, 11, 12, 13]))
     (.seq (.seq (.seq (.reg [⟨(some 36), none, .inl (.mv (.t 13))⟩,
         ⟨(some 37), none, .inl (.bin .eql (.t 36) (.c (.int .i64 0)))⟩])
      (.keep [1, 2, 3, 4, 5, 11, 12, 37]))
      (.cond (.t 37)
        (.seq (.seq (.reg [⟨(some 39), none, .inl (.mv (.t 12))⟩,
            ⟨(some 40), none, .inr (.call 9 [(.t 39)])⟩,
            ⟨(some 38), none, .inl (.mv (.t 40))⟩,
            ⟨(some 41), none, .inl (.ext 0 (.t 38))⟩,
            ⟨(some 42), none, .inl (.ext 1 (.t 38))⟩,
            ⟨(some 43), none, .inl (.ext 2 (.t 38))⟩,
            ⟨(some 44), none, .inl (.ext 3 (.t 38))⟩,
            ⟨(some 14), none, .inr (.alloc [(.int .i64 0), (.int .i64 0), (.int .i64 0), (.int .i64 0)])⟩,
            ⟨none, none, .inr (.store 4 (.t 14) (.t 41))⟩,
            ⟨(some 15), none, .inl (.mv (.t 42))⟩,
            ⟨(some 16), none, .inl (.mv (.t 43))⟩,
            ⟨(some 17), none, .inl (.mv (.t 44))⟩])
         (.keep [1, 2, 3, 4, 5, 11, 12, 14, 15, 16, 17]))
         (.seq (.seq (.reg [⟨(some 45), none, .inl (.mv (.t 17))⟩,
             ⟨(some 46), none, .inl (.un .not (.t 45))⟩,
             ⟨(some 47), none, .inl (.mv (.t 46))⟩,
             ⟨(some 48), (some (47, false)), .inl (.load true 4 (.t 14))⟩,
             ⟨(some 49), (some (47, false)), .inl (.load true 4 (.t 5))⟩,
             ⟨(some 50), (some (47, false)), .inl (.eqagg true [0, 0, 0, 0] (.t 48) (.t 49))⟩,
             ⟨(some 51), none, .inl (.pick (.t 47) (.c (.bool true)) (.t 50))⟩,
             ⟨(some 52), none, .inl (.mv (.t 51))⟩,
             ⟨(some 53), (some (52, false)), .inl (.mv (.t 15))⟩,
             ⟨(some 54), (some (52, false)), .inl (.mv (.t 1))⟩,
             ⟨(some 55), (some (52, false)), .inl (.bin .neq (.t 53) (.t 54))⟩,
             ⟨(some 56), none, .inl (.pick (.t 52) (.c (.bool true)) (.t 55))⟩,
             ⟨(some 57), none, .inl (.mv (.t 56))⟩,
             ⟨(some 58), (some (57, false)), .inl (.mv (.t 16))⟩,
             ⟨(some 59), (some (57, false)), .inl (.mv (.t 2))⟩,
             ⟨(some 60), (some (57, false)), .inl (.bin .neq (.t 58) (.t 59))⟩,
             ⟨(some 61), none, .inl (.pick (.t 57) (.c (.bool true)) (.t 60))⟩,
             ⟨(some 62), none, .inl (.mv (.t 61))⟩,
             ⟨(some 63), (some (62, false)), .inl (.mv (.t 12))⟩,
             ⟨(some 64), (some (62, false)), .inl (.len (.t 63))⟩,
             ⟨(some 65), (some (62, false)), .inl (.bin .neq (.t 64) (.c (.int .i64 64)))⟩,
             ⟨(some 66), none, .inl (.pick (.t 62) (.c (.bool true)) (.t 65))⟩])
          (.keep [1, 3, 4, 11, 66]))
          (.cond (.t 66)
            (.seq (.seq (.reg [⟨(some 10), none, .inl (.mv (.c (.bool false)))⟩])
             (.keep [10]))
             (.ret))
            (.skip))))
        (.skip)))
      (.seq (.seq (.reg [⟨(some 68), none, .inl (.mv (.t 3))⟩,
          ⟨(some 69), none, .inr (.call 9 [(.t 68)])⟩,
          ⟨(some 67), none, .inl (.mv (.t 69))⟩,
          ⟨(some 70), none, .inl (.ext 0 (.t 67))⟩,
          ⟨(some 71), none, .inl (.ext 1 (.t 67))⟩,
          ⟨(some 72), none, .inl (.ext 2 (.t 67))⟩,
          ⟨(some 73), none, .inl (.ext 3 (.t 67))⟩,
          ⟨(some 18), none, .inr (.alloc [(.int .i64 0), (.int .i64 0), (.int .i64 0), (.int .i64 0)])⟩,
          ⟨none, none, .inr (.store 4 (.t 18) (.t 70))⟩,
          ⟨(some 19), none, .inl (.mv (.t 71))⟩,
          ⟨(some 20), none, .inl (.mv (.t 72))⟩,
          ⟨(some 21), none, .inl (.mv (.t 73))⟩])
       (.keep [1, 3, 4, 11, 18, 19, 20, 21]))
       (.seq (.seq (.seq (.reg [⟨(some 74), none, .inl (.mv (.t 21))⟩])
        (.keep [1, 3, 4, 11, 18, 19, 20, 74]))
        (.cond (.t 74)
          (.seq (.seq (.reg [⟨(some 76), none, .inl (.load true 4 (.t 18))⟩,
              ⟨(some 77), none, .inl (.mv (.t 19))⟩,
              ⟨(some 78), none, .inl (.mv (.t 20))⟩,
              ⟨(some 79), none, .inr (.call 8 [(.t 76), (.t 77), (.t 78)])⟩,
              ⟨(some 75), none, .inl (.mv (.t 79))⟩,
              ⟨(some 80), none, .inl (.ext 0 (.t 75))⟩,
              ⟨(some 81), none, .inl (.ext 1 (.t 75))⟩,
              ⟨(some 22), none, .inl (.mv (.t 80))⟩,
              ⟨(some 23), none, .inl (.mv (.t 81))⟩])
           (.keep [1, 3, 4, 11, 22, 23]))
           (.seq (.seq (.reg [⟨(some 82), none, .inl (.mv (.t 23))⟩,
               ⟨(some 83), none, .inl (.bin .neq (.t 82) (.c (.int .i64 0)))⟩,
               ⟨(some 84), none, .inl (.mv (.t 83))⟩,
               ⟨(some 85), (some (84, false)), .inl (.mv (.t 22))⟩,
               ⟨(some 86), (some (84, false)), .inl (.b2s (.t 85))⟩,
               ⟨(some 87), (some (84, false)), .inl (.mv (.t 3))⟩,
               ⟨(some 88), (some (84, false)), .inl (.b2s (.t 87))⟩,
               ⟨(some 89), (some (84, false)), .inl (.bins .neq (.t 86) (.t 88))⟩,
               ⟨(some 90), none, .inl (.pick (.t 84) (.c (.bool true)) (.t 89))⟩])
            (.keep [1, 4, 11, 90]))
            (.cond (.t 90)
              (.seq (.seq (.reg [⟨(some 10), none, .inl (.mv (.c (.bool false)))⟩])
               (.keep [10]))
               (.ret))
              (.skip))))
          (.skip)))
        (.seq (.seq (.reg [⟨(some 92), none, .inl (.mv (.t 4))⟩,
            ⟨(some 93), none, .inr (.call 14 [(.t 92)])⟩,
            ⟨(some 91), none, .inl (.mv (.t 93))⟩,
            ⟨(some 94), none, .inl (.ext 0 (.t 91))⟩,
            ⟨(some 95), none, .inl (.ext 1 (.t 91))⟩,
            ⟨(some 24), none, .inl (.mv (.t 94))⟩,
            ⟨(some 25), none, .inl (.mv (.t 95))⟩])
         (.keep [1, 4, 11, 24, 25]))
         (.seq (.seq (.seq (.reg [⟨(some 96), none, .inl (.mv (.t 25))⟩,
             ⟨(some 97), none, .inl (.mv (.t 96))⟩,
             ⟨(some 98), (some (97, true)), .inl (.mv (.t 24))⟩,
             ⟨(some 99), (some (97, true)), .inr (.call 16 [(.t 98)])⟩,
             ⟨(some 100), (some (97, true)), .inl (.mv (.t 4))⟩,
             ⟨(some 101), (some (97, true)), .inl (.bins .neq (.t 99) (.t 100))⟩,
             ⟨(some 102), none, .inl (.pick (.t 97) (.t 101) (.c (.bool false)))⟩])
          (.keep [1, 11, 102]))
          (.cond (.t 102)
            (.seq (.seq (.reg [⟨(some 10), none, .inl (.mv (.c (.bool false)))⟩])
             (.keep [10]))
             (.ret))
            (.skip)))
          (.seq (.seq (.reg [⟨(some 104), none, .inl (.mv (.t 1))⟩,
              ⟨(some 105), none, .inr (.call 16 [(.t 104)])⟩,
              ⟨(some 106), none, .inr (.call 14 [(.t 105)])⟩,
              ⟨(some 103), none, .inl (.mv (.t 106))⟩,
              ⟨(some 107), none, .inl (.ext 0 (.t 103))⟩,
              ⟨(some 108), none, .inl (.ext 1 (.t 103))⟩,
              ⟨(some 26), none, .inl (.mv (.t 107))⟩,
              ⟨(some 27), none, .inl (.mv (.t 108))⟩])
           (.keep [1, 11, 26, 27]))
           (.seq (.seq (.reg [⟨(some 109), none, .inl (.mv (.t 11))⟩,
               ⟨(some 110), none, .inl (.mv (.t 109))⟩,
               ⟨(some 111), (some (110, true)), .inl (.mv (.t 27))⟩,
               ⟨(some 112), (some (110, true)), .inl (.mv (.t 1))⟩,
               ⟨(some 113), (some (110, true)), .inr (.call 16 [(.t 112)])⟩,
               ⟨(some 114), (some (110, true)), .inl (.bins .neq (.t 113) (.c (.str [])))⟩,
               ⟨(some 115), (some (110, true)), .inl (.binb .eql (.t 111) (.t 114))⟩,
               ⟨(some 116), none, .inl (.pick (.t 110) (.t 115) (.c (.bool false)))⟩,
               ⟨(some 117), none, .inl (.mv (.t 116))⟩,
               ⟨(some 118), (some (117, true)), .inl (.mv (.t 27))⟩,
               ⟨(some 119), (some (117, true)), .inl (.un .not (.t 118))⟩,
               ⟨(some 120), (some (117, true)), .inl (.mv (.t 119))⟩,
               ⟨(some 121), (some (120, false)), .inl (.mv (.t 26))⟩,
               ⟨(some 122), (some (120, false)), .inl (.mv (.t 1))⟩,
               ⟨(some 123), (some (120, false)), .inl (.bin .eql (.t 121) (.t 122))⟩,
               ⟨(some 124), (some (117, true)), .inl (.pick (.t 120) (.c (.bool true)) (.t 123))⟩,
               ⟨(some 125), none, .inl (.pick (.t 117) (.t 124) (.c (.bool false)))⟩,
               ⟨(some 10), none, .inl (.mv (.t 125))⟩])
            (.keep [10]))
            (.ret))))))))))
def fc_joistlaw17_SuperBack : FC := ⟨126, cmd_joistlaw17_SuperBack, [.t 10]⟩
theorem fc_joistlaw17_SuperBack_ok : compF Try.prog 4 [[1, 2, 3, 4, 5], [1, 2, 3, 4, 5, 11], [1, 2, 3, 4, 5, 11, 12, 13], [1, 2, 3, 4, 5, 11, 12, 37], [1, 2, 3, 4, 5, 11, 12, 14, 15, 16, 17], [1, 3, 4, 11, 66], [10], [1, 3, 4, 11, 18, 19, 20, 21], [1, 3, 4, 11, 18, 19, 20, 74], [1, 3, 4, 11, 22, 23], [1, 4, 11, 90], [10], [1, 4, 11, 24, 25], [1, 11, 102], [10], [1, 11, 26, 27], [10]] = some fc_joistlaw17_SuperBack := by kernel_rfl
/-- joist/joistlaw17.SuperModes -/
abbrev F.joistlaw17_SuperModes : Nat := 5
def cmd_joistlaw17_SuperModes : Cmd :=
  .seq (.seq (.reg [⟨(some 3), none, .inr (.box 4 (.t 0))⟩,
      ⟨(some 6), none, .inl (.mv (.c (.bool false)))⟩])
   (.keep [1, 2, 3]))
   (.seq (.seq (.reg [⟨(some 11), none, .inr (.call 6 [])⟩,
       ⟨(some 7), none, .inl (.mv (.t 11))⟩])
    (.keep [1, 2, 3, 7]))
    (.seq (.seq (.reg [⟨(some 12), none, .inl (.load true 4 (.t 3))⟩,
        ⟨(some 13), none, .inr (.call 18 [(.t 12), (.c (.int .i64 1)), (.c (.int .i64 0))])⟩,
        ⟨(some 8), none, .inl (.mv (.t 13))⟩])
     (.keep [1, 2, 3, 7, 8]))
     (.seq (.seq (.reg [⟨(some 14), none, .inl (.load true 4 (.t 3))⟩,
         ⟨(some 15), none, .inl (.mv (.t 1))⟩,
         ⟨(some 16), none, .inl (.mv (.t 2))⟩,
         ⟨(some 17), none, .inr (.call 18 [(.t 14), (.t 15), (.t 16)])⟩,
         ⟨(some 9), none, .inl (.mv (.t 17))⟩])
      (.keep [1, 2, 3, 7, 8, 9]))
      (.seq (.seq (.seq (.reg [⟨(some 18), none, .inl (.mv (.t 8))⟩,
          ⟨(some 19), none, .inl (.un .not (.t 18))⟩])
       (.keep [1, 2, 3, 7, 9, 19]))
       (.cond (.t 19)
         (.seq (.seq (.reg [⟨(some 20), none, .inl (.mv (.t 7))⟩,
             ⟨(some 21), none, .inl (.mv (.t 20))⟩,
             ⟨(some 22), (some (21, true)), .inl (.mv (.t 9))⟩,
             ⟨(some 23), (some (21, true)), .inl (.un .not (.t 22))⟩,
             ⟨(some 24), none, .inl (.pick (.t 21) (.t 23) (.c (.bool false)))⟩,
             ⟨(some 6), none, .inl (.mv (.t 24))⟩])
          (.keep [6]))
          (.ret))
         (.skip)))
       (.seq (.seq (.reg [⟨(some 25), none, .inl (.mv (.t 2))⟩,
           ⟨(some 26), none, .inl (.bin .geq (.t 25) (.c (.int .i64 0)))⟩,
           ⟨(some 27), none, .inl (.mv (.t 26))⟩,
           ⟨(some 28), (some (27, true)), .inl (.mv (.t 2))⟩,
           ⟨(some 29), (some (27, true)), .inl (.faddr 0 (.t 3))⟩,
           ⟨(some 30), (some (27, true)), .inl (.load false 1 (.t 29))⟩,
           ⟨(some 31), (some (27, true)), .inl (.bin .leq (.t 28) (.t 30))⟩,
           ⟨(some 32), none, .inl (.pick (.t 27) (.t 31) (.c (.bool false)))⟩,
           ⟨(some 33), none, .inl (.mv (.t 32))⟩,
           ⟨(some 34), (some (33, true)), .inl (.mv (.t 1))⟩,
           ⟨(some 35), (some (33, true)), .inl (.bin .eql (.t 34) (.c (.int .i64 1)))⟩,
           ⟨(some 36), (some (33, true)), .inl (.mv (.t 35))⟩,
           ⟨(some 37), (some (36, true)), .inl (.mv (.t 2))⟩,
           ⟨(some 38), (some (36, true)), .inl (.bin .eql (.t 37) (.c (.int .i64 0)))⟩,
           ⟨(some 39), (some (33, true)), .inl (.pick (.t 36) (.t 38) (.c (.bool false)))⟩,
           ⟨(some 40), (some (33, true)), .inl (.mv (.t 39))⟩,
           ⟨(some 41), (some (40, false)), .inl (.mv (.t 1))⟩,
           ⟨(some 42), (some (40, false)), .inl (.bin .eql (.t 41) (.c (.int .i64 2)))⟩,
           ⟨(some 43), (some (40, false)), .inl (.mv (.t 42))⟩,
           ⟨(some 44), (some (43, true)), .inl (.mv (.t 2))⟩,
           ⟨(some 45), (some (43, true)), .inl (.faddr 0 (.t 3))⟩,
           ⟨(some 46), (some (43, true)), .inl (.load false 1 (.t 45))⟩,
           ⟨(some 47), (some (43, true)), .inl (.bin .eql (.t 44) (.t 46))⟩,
           ⟨(some 48), (some (40, false)), .inl (.pick (.t 43) (.t 47) (.c (.bool false)))⟩,
           ⟨(some 49), (some (33, true)), .inl (.pick (.t 40) (.c (.bool true)) (.t 48))⟩,
           ⟨(some 50), (some (33, true)), .inl (.mv (.t 49))⟩,
           ⟨(some 51), (some (50, false)), .inl (.mv (.t 1))⟩,
           ⟨(some 52), (some (50, false)), .inl (.bin .eql (.t 51) (.c (.int .i64 3)))⟩,
           ⟨(some 53), (some (33, true)), .inl (.pick (.t 50) (.c (.bool true)) (.t 52))⟩,
           ⟨(some 54), (some (33, true)), .inl (.mv (.t 53))⟩,
           ⟨(some 55), (some (54, false)), .inl (.mv (.t 1))⟩,
           ⟨(some 56), (some (54, false)), .inl (.bin .eql (.t 55) (.c (.int .i64 4)))⟩,
           ⟨(some 57), (some (33, true)), .inl (.pick (.t 54) (.c (.bool true)) (.t 56))⟩,
           ⟨(some 58), none, .inl (.pick (.t 33) (.t 57) (.c (.bool false)))⟩,
           ⟨(some 10), none, .inl (.mv (.t 58))⟩])
        (.keep [7, 9, 10]))
        (.seq (.seq (.reg [⟨(some 59), none, .inl (.mv (.t 7))⟩,
            ⟨(some 60), none, .inl (.mv (.t 59))⟩,
            ⟨(some 61), (some (60, true)), .inl (.mv (.t 9))⟩,
            ⟨(some 62), (some (60, true)), .inl (.mv (.t 10))⟩,
            ⟨(some 63), (some (60, true)), .inl (.binb .eql (.t 61) (.t 62))⟩,
            ⟨(some 64), none, .inl (.pick (.t 60) (.t 63) (.c (.bool false)))⟩,
            ⟨(some 6), none, .inl (.mv (.t 64))⟩])
         (.keep [6]))
         (.ret)))))))
def fc_joistlaw17_SuperModes : FC := ⟨65, cmd_joistlaw17_SuperModes, [.t 6]⟩
theorem fc_joistlaw17_SuperModes_ok : compF Try.prog 5 [[1, 2, 3], [1, 2, 3, 7], [1, 2, 3, 7, 8], [1, 2, 3, 7, 8, 9], [1, 2, 3, 7, 9, 19], [6], [7, 9, 10], [6]] = some fc_joistlaw17_SuperModes := by kernel_rfl
/-- joist/joistlaw17.small -/
abbrev F.joistlaw17_small : Nat := 6
def cmd_joistlaw17_small : Cmd :=
  .seq (.seq (.reg [⟨(some 0), none, .inl (.mv (.c (.bool false)))⟩])
   (.keep []))
   (.seq (.seq (.reg [⟨(some 12), none, .inl (.build [(.int .i64 0), (.int .i64 0), (.int .i64 0), (.int .i64 0)] [(0, 1, (.c (.int .i64 4))), (1, 1, (.c (.int .i64 4))), (2, 1, (.c (.int .i64 2))), (3, 1, (.c (.int .i64 30)))])⟩,
       ⟨(some 1), none, .inr (.alloc [(.int .i64 0), (.int .i64 0), (.int .i64 0), (.int .i64 0)])⟩,
       ⟨none, none, .inr (.store 4 (.t 1) (.t 12))⟩])
    (.keep [1]))
    (.seq (.seq (.reg [⟨(some 14), none, .inl (.load true 4 (.t 1))⟩,
        ⟨(some 15), none, .inr (.call 8 [(.t 14), (.c (.int .i64 3)), (.c (.int .i64 2))])⟩,
        ⟨(some 13), none, .inl (.mv (.t 15))⟩,
        ⟨(some 16), none, .inl (.ext 0 (.t 13))⟩,
        ⟨(some 17), none, .inl (.ext 1 (.t 13))⟩,
        ⟨(some 2), none, .inl (.mv (.t 16))⟩,
        ⟨(some 3), none, .inl (.mv (.t 17))⟩])
     (.keep [1, 2, 3]))
     (.seq (.seq (.reg [⟨(some 19), none, .inl (.mv (.t 2))⟩,
         ⟨(some 20), none, .inr (.call 9 [(.t 19)])⟩,
         ⟨(some 18), none, .inl (.mv (.t 20))⟩,
         ⟨(some 21), none, .inl (.ext 0 (.t 18))⟩,
         ⟨(some 22), none, .inl (.ext 1 (.t 18))⟩,
         ⟨(some 23), none, .inl (.ext 2 (.t 18))⟩,
         ⟨(some 24), none, .inl (.ext 3 (.t 18))⟩,
         ⟨(some 4), none, .inr (.alloc [(.int .i64 0), (.int .i64 0), (.int .i64 0), (.int .i64 0)])⟩,
         ⟨none, none, .inr (.store 4 (.t 4) (.t 21))⟩,
         ⟨(some 5), none, .inl (.mv (.t 22))⟩,
         ⟨(some 6), none, .inl (.mv (.t 23))⟩,
         ⟨(some 7), none, .inl (.mv (.t 24))⟩])
      (.keep [1, 2, 3, 4, 5, 6, 7]))
      (.seq (.seq (.reg [⟨(some 26), none, .inl (.load true 4 (.t 1))⟩,
          ⟨(some 27), none, .inr (.call 8 [(.t 26), (.c (.int .i64 1)), (.c (.int .i64 1))])⟩,
          ⟨(some 25), none, .inl (.mv (.t 27))⟩,
          ⟨(some 28), none, .inl (.ext 0 (.t 25))⟩,
          ⟨(some 29), none, .inl (.ext 1 (.t 25))⟩,
          ⟨(some 8), none, .inl (.mv (.t 28))⟩,
          ⟨(some 9), none, .inl (.mv (.t 29))⟩])
       (.keep [1, 2, 3, 4, 5, 6, 7, 9]))
       (.seq (.seq (.reg [⟨(some 31), none, .inr (.call 14 [(.c (.str [116, 119, 111]))])⟩,
           ⟨(some 30), none, .inl (.mv (.t 31))⟩,
           ⟨(some 32), none, .inl (.ext 0 (.t 30))⟩,
           ⟨(some 33), none, .inl (.ext 1 (.t 30))⟩,
           ⟨(some 10), none, .inl (.mv (.t 32))⟩,
           ⟨(some 11), none, .inl (.mv (.t 33))⟩])
        (.keep [1, 2, 3, 4, 5, 6, 7, 9, 10, 11]))
        (.seq (.seq (.reg [⟨(some 34), none, .inl (.mv (.t 3))⟩,
            ⟨(some 35), none, .inl (.bin .eql (.t 34) (.c (.int .i64 0)))⟩,
            ⟨(some 36), none, .inl (.mv (.t 35))⟩,
            ⟨(some 37), (some (36, true)), .inl (.mv (.t 2))⟩,
            ⟨(some 38), (some (36, true)), .inl (.len (.t 37))⟩,
            ⟨(some 39), (some (36, true)), .inl (.bin .eql (.t 38) (.c (.int .i64 64)))⟩,
            ⟨(some 40), none, .inl (.pick (.t 36) (.t 39) (.c (.bool false)))⟩,
            ⟨(some 41), none, .inl (.mv (.t 40))⟩,
            ⟨(some 42), (some (41, true)), .inl (.load true 4 (.t 4))⟩,
            ⟨(some 43), (some (41, true)), .inl (.load true 4 (.t 1))⟩,
            ⟨(some 44), (some (41, true)), .inl (.eqagg false [0, 0, 0, 0] (.t 42) (.t 43))⟩,
            ⟨(some 45), none, .inl (.pick (.t 41) (.t 44) (.c (.bool false)))⟩,
            ⟨(some 46), none, .inl (.mv (.t 45))⟩,
            ⟨(some 47), (some (46, true)), .inl (.mv (.t 5))⟩,
            ⟨(some 48), (some (46, true)), .inl (.bin .eql (.t 47) (.c (.int .i64 3)))⟩,
            ⟨(some 49), none, .inl (.pick (.t 46) (.t 48) (.c (.bool false)))⟩,
            ⟨(some 50), none, .inl (.mv (.t 49))⟩,
            ⟨(some 51), (some (50, true)), .inl (.mv (.t 6))⟩,
            ⟨(some 52), (some (50, true)), .inl (.bin .eql (.t 51) (.c (.int .i64 2)))⟩,
            ⟨(some 53), none, .inl (.pick (.t 50) (.t 52) (.c (.bool false)))⟩,
            ⟨(some 54), none, .inl (.mv (.t 53))⟩,
            ⟨(some 55), (some (54, true)), .inl (.mv (.t 7))⟩,
            ⟨(some 56), none, .inl (.pick (.t 54) (.t 55) (.c (.bool false)))⟩,
            ⟨(some 57), none, .inl (.mv (.t 56))⟩,
            ⟨(some 58), (some (57, true)), .inl (.mv (.t 9))⟩,
            ⟨(some 59), (some (57, true)), .inl (.bin .eql (.t 58) (.c (.int .i64 1)))⟩,
            ⟨(some 60), none, .inl (.pick (.t 57) (.t 59) (.c (.bool false)))⟩,
            ⟨(some 61), none, .inl (.mv (.t 60))⟩,
            ⟨(some 62), (some (61, true)), .inl (.mv (.t 10))⟩,
            ⟨(some 63), (some (61, true)), .inl (.bin .eql (.t 62) (.c (.int .i64 2)))⟩,
            ⟨(some 64), none, .inl (.pick (.t 61) (.t 63) (.c (.bool false)))⟩,
            ⟨(some 65), none, .inl (.mv (.t 64))⟩,
            ⟨(some 66), (some (65, true)), .inl (.mv (.t 11))⟩,
            ⟨(some 67), none, .inl (.pick (.t 65) (.t 66) (.c (.bool false)))⟩,
            ⟨(some 68), none, .inl (.mv (.t 67))⟩,
            ⟨(some 69), (some (68, true)), .inl (.mv (.t 10))⟩,
            ⟨(some 70), (some (68, true)), .inr (.call 16 [(.t 69)])⟩,
            ⟨(some 71), (some (68, true)), .inl (.bins .eql (.t 70) (.c (.str [116, 119, 111])))⟩,
            ⟨(some 72), none, .inl (.pick (.t 68) (.t 71) (.c (.bool false)))⟩,
            ⟨(some 0), none, .inl (.mv (.t 72))⟩])
         (.keep [0]))
         (.ret)))))))
def fc_joistlaw17_small : FC := ⟨73, cmd_joistlaw17_small, [.t 0]⟩
theorem fc_joistlaw17_small_ok : compF Try.prog 6 [[], [1], [1, 2, 3], [1, 2, 3, 4, 5, 6, 7], [1, 2, 3, 4, 5, 6, 7, 9], [1, 2, 3, 4, 5, 6, 7, 9, 10, 11], [0]] = some fc_joistlaw17_small := by kernel_rfl
/-- joist/joistlaw01.Lent -/
abbrev F.joistlaw01_Lent : Nat := 7
def cmd_joistlaw01_Lent : Cmd :=
  .seq (.seq (.reg [⟨(some 2), none, .inl (.mv (.c .nils))⟩])
   (.keep [0]))
   (.seq (.seq (.reg [⟨(some 4), none, .inl (.mv (.t 0))⟩,
       ⟨(some 5), none, .inl (.len (.t 4))⟩,
       ⟨(some 6), none, .inl (.mv (.t 0))⟩,
       ⟨(some 7), none, .inl (.len (.t 6))⟩,
       ⟨(some 8), none, .inl (.bin .add (.t 7) (.c (.int .i64 1)))⟩,
       ⟨(some 9), none, .inr (.mksl 1 1 [(.int .u8 0)] (.t 5) (.t 8))⟩,
       ⟨(some 3), none, .inl (.mv (.t 9))⟩])
    (.keep [0, 3]))
    (.seq (.seq (.reg [⟨(some 10), none, .inl (.mv (.t 3))⟩,
        ⟨(some 11), none, .inl (.mv (.t 0))⟩,
        ⟨(some 12), none, .inr (.copy 1 (.t 10) (.t 11))⟩])
     (.keep [0, 3]))
     (.seq (.seq (.reg [⟨(some 13), none, .inl (.mv (.t 3))⟩,
         ⟨(some 14), none, .inl (.mv (.t 0))⟩,
         ⟨(some 15), none, .inl (.len (.t 14))⟩,
         ⟨(some 16), none, .inl (.bin .add (.t 15) (.c (.int .i64 1)))⟩,
         ⟨(some 17), none, .inl (.slice 1 (.t 13) none (some (.t 16)) none)⟩,
         ⟨(some 18), none, .inl (.mv (.t 0))⟩,
         ⟨(some 19), none, .inl (.len (.t 18))⟩,
         ⟨(some 20), none, .inl (.iaddr 1 (.t 17) (.t 19))⟩,
         ⟨none, none, .inr (.store 1 (.t 20) (.c (.int .u8 77)))⟩])
      (.keep [3]))
      (.seq (.seq (.reg [⟨(some 21), none, .inl (.mv (.t 3))⟩,
          ⟨(some 2), none, .inl (.mv (.t 21))⟩])
       (.keep [2]))
       (.ret)))))
def fc_joistlaw01_Lent : FC := ⟨22, cmd_joistlaw01_Lent, [.t 2]⟩
theorem fc_joistlaw01_Lent_ok : compF Try.prog 7 [[0], [0, 3], [0, 3], [3], [2]] = some fc_joistlaw01_Lent := by kernel_rfl
/-- joist/super.Write -/
abbrev F.super_Write : Nat := 8
def cmd_super_Write : Cmd :=
  .seq (.seq (.reg [⟨(some 3), none, .inr (.box 4 (.t 0))⟩,
      ⟨(some 6), none, .inl (.mv (.c .nils))⟩,
      ⟨(some 7), none, .inl (.mv (.c (.int .i64 0)))⟩])
   (.keep [1, 2, 3]))
   (.seq (.seq (.seq (.reg [⟨(some 10), none, .inl (.load true 4 (.t 3))⟩,
       ⟨(some 11), none, .inl (.mv (.t 1))⟩,
       ⟨(some 12), none, .inl (.mv (.t 2))⟩,
       ⟨(some 13), none, .inr (.call 18 [(.t 10), (.t 11), (.t 12)])⟩,
       ⟨(some 14), none, .inl (.un .not (.t 13))⟩])
    (.keep [1, 2, 3, 14]))
    (.cond (.t 14)
      (.seq (.seq (.reg [⟨(some 6), none, .inl (.mv (.c .nils))⟩,
          ⟨(some 7), none, .inl (.mv (.c (.int .i64 1)))⟩])
       (.keep [6, 7]))
       (.ret))
      (.skip)))
    (.seq (.seq (.reg [⟨(some 16), none, .inl (.mv (.t 1))⟩,
        ⟨(some 17), none, .inl (.faddr 0 (.t 3))⟩,
        ⟨(some 18), none, .inl (.load false 1 (.t 17))⟩,
        ⟨(some 19), none, .inl (.faddr 1 (.t 3))⟩,
        ⟨(some 20), none, .inl (.load false 1 (.t 19))⟩,
        ⟨(some 21), none, .inl (.faddr 2 (.t 3))⟩,
        ⟨(some 22), none, .inl (.load false 1 (.t 21))⟩,
        ⟨(some 23), none, .inl (.faddr 3 (.t 3))⟩,
        ⟨(some 24), none, .inl (.load false 1 (.t 23))⟩,
        ⟨(some 25), none, .inl (.mv (.t 2))⟩,
        ⟨(some 26), none, .inr (.bslice 1 [(.int .i64 0)] 7 [(0, (.c (.int .i64 54238244327242))), (1, (.t 16)), (2, (.t 18)), (3, (.t 20)), (4, (.t 22)), (5, (.t 24)), (6, (.t 25))])⟩,
        ⟨(some 27), none, .inr (.call 20 [(.t 26)])⟩,
        ⟨(some 15), none, .inl (.mv (.t 27))⟩,
        ⟨(some 28), none, .inl (.ext 0 (.t 15))⟩,
        ⟨(some 29), none, .inl (.ext 1 (.t 15))⟩,
        ⟨(some 8), none, .inl (.mv (.t 28))⟩,
        ⟨(some 9), none, .inl (.mv (.t 29))⟩])
     (.keep [8]))
     (.seq (.seq (.reg [⟨(some 30), none, .inl (.mv (.t 8))⟩,
         ⟨(some 31), none, .inr (.call 21 [(.t 30)])⟩,
         ⟨(some 6), none, .inl (.mv (.t 31))⟩,
         ⟨(some 7), none, .inl (.mv (.c (.int .i64 0)))⟩])
      (.keep [6, 7]))
      (.ret))))
def fc_super_Write : FC := ⟨32, cmd_super_Write, [.t 6, .t 7]⟩
theorem fc_super_Write_ok : compF Try.prog 8 [[1, 2, 3], [1, 2, 3, 14], [6, 7], [8], [6, 7]] = some fc_super_Write := by kernel_rfl
/-- joist/super.Read -/
abbrev F.super_Read : Nat := 9
def cmd_super_Read : Cmd :=
  .seq (.seq (.reg [⟨(some 2), none, .inr (.alloc [(.int .i64 0), (.int .i64 0), (.int .i64 0), (.int .i64 0)])⟩,
      ⟨(some 3), none, .inl (.mv (.c (.int .i64 0)))⟩,
      ⟨(some 4), none, .inl (.mv (.c (.int .i64 0)))⟩,
      ⟨(some 5), none, .inl (.mv (.c (.bool false)))⟩])
   (.keep [0, 2]))
   (.seq (.seq (.reg [⟨(some 12), none, .inl (.mv (.t 0))⟩,
       ⟨(some 13), none, .inr (.call 22 [(.t 12)])⟩,
       ⟨(some 11), none, .inl (.mv (.t 13))⟩,
       ⟨(some 14), none, .inl (.ext 0 (.t 11))⟩,
       ⟨(some 15), none, .inl (.ext 1 (.t 11))⟩,
       ⟨(some 6), none, .inl (.mv (.t 14))⟩,
       ⟨(some 5), none, .inl (.mv (.t 15))⟩])
    (.keep [0, 2, 5, 6]))
    (.seq (.seq (.reg [⟨(some 17), none, .inl (.mv (.t 6))⟩,
        ⟨(some 18), none, .inr (.call 23 [(.t 17)])⟩,
        ⟨(some 16), none, .inl (.mv (.t 18))⟩,
        ⟨(some 19), none, .inl (.ext 0 (.t 16))⟩,
        ⟨(some 20), none, .inl (.ext 1 (.t 16))⟩,
        ⟨(some 7), none, .inl (.mv (.t 19))⟩,
        ⟨(some 8), none, .inl (.mv (.t 20))⟩])
     (.keep [0, 2, 5, 7, 8]))
     (.seq (.seq (.seq (.reg [⟨(some 21), none, .inl (.mv (.t 5))⟩,
         ⟨(some 22), none, .inl (.un .not (.t 21))⟩,
         ⟨(some 23), none, .inl (.mv (.t 22))⟩,
         ⟨(some 24), (some (23, false)), .inl (.mv (.t 8))⟩,
         ⟨(some 25), (some (23, false)), .inl (.un .not (.t 24))⟩,
         ⟨(some 26), none, .inl (.pick (.t 23) (.c (.bool true)) (.t 25))⟩,
         ⟨(some 27), none, .inl (.mv (.t 26))⟩,
         ⟨(some 28), (some (27, false)), .inl (.mv (.t 7))⟩,
         ⟨(some 29), (some (27, false)), .inl (.len (.t 28))⟩,
         ⟨(some 30), (some (27, false)), .inl (.bin .neq (.t 29) (.c (.int .i64 7)))⟩,
         ⟨(some 31), none, .inl (.pick (.t 27) (.c (.bool true)) (.t 30))⟩])
      (.keep [0, 2, 7, 31]))
      (.cond (.t 31)
        (.seq (.seq (.reg [⟨(some 32), none, .inl (.build [(.int .i64 0), (.int .i64 0), (.int .i64 0), (.int .i64 0)] [])⟩,
            ⟨none, none, .inr (.store 4 (.t 2) (.t 32))⟩,
            ⟨(some 3), none, .inl (.mv (.c (.int .i64 0)))⟩,
            ⟨(some 4), none, .inl (.mv (.c (.int .i64 0)))⟩,
            ⟨(some 5), none, .inl (.mv (.c (.bool false)))⟩])
         (.keep [2, 3, 4, 5]))
         (.ret))
        (.skip)))
      (.seq (.seq (.ord [⟨0, ⟨(some 33), none, .inl (.mv (.t 7))⟩, [], false⟩,
          ⟨1, ⟨(some 34), none, .inl (.iaddr 1 (.t 33) (.c (.int .i64 1)))⟩, [], false⟩,
          ⟨2, ⟨(some 35), none, .inl (.load false 1 (.t 34))⟩, [], false⟩,
          ⟨3, ⟨(some 36), none, .inl (.mv (.t 7))⟩, [], false⟩,
          ⟨4, ⟨(some 37), none, .inl (.iaddr 1 (.t 36) (.c (.int .i64 6)))⟩, [], false⟩,
          ⟨5, ⟨(some 38), none, .inl (.load false 1 (.t 37))⟩, [], false⟩,
          ⟨6, ⟨(some 3), none, .inl (.mv (.t 35))⟩, [], false⟩,
          ⟨7, ⟨(some 4), none, .inl (.mv (.t 38))⟩, [], false⟩])
       (.keep [0, 2, 3, 4, 7]))
       (.seq (.seq (.ord [⟨0, ⟨(some 39), none, .inl (.mv (.t 7))⟩, [], false⟩,
           ⟨1, ⟨(some 40), none, .inl (.iaddr 1 (.t 39) (.c (.int .i64 2)))⟩, [], false⟩,
           ⟨2, ⟨(some 41), none, .inl (.load false 1 (.t 40))⟩, [], false⟩,
           ⟨3, ⟨(some 42), none, .inl (.mv (.t 7))⟩, [], false⟩,
           ⟨4, ⟨(some 43), none, .inl (.iaddr 1 (.t 42) (.c (.int .i64 3)))⟩, [], false⟩,
           ⟨5, ⟨(some 44), none, .inl (.load false 1 (.t 43))⟩, [], false⟩,
           ⟨6, ⟨(some 45), none, .inl (.mv (.t 7))⟩, [], false⟩,
           ⟨7, ⟨(some 46), none, .inl (.iaddr 1 (.t 45) (.c (.int .i64 4)))⟩, [], false⟩,
           ⟨8, ⟨(some 47), none, .inl (.load false 1 (.t 46))⟩, [], false⟩,
           ⟨9, ⟨(some 48), none, .inl (.mv (.t 7))⟩, [], false⟩,
           ⟨10, ⟨(some 49), none, .inl (.iaddr 1 (.t 48) (.c (.int .i64 5)))⟩, [], false⟩,
           ⟨11, ⟨(some 50), none, .inl (.load false 1 (.t 49))⟩, [], false⟩,
           ⟨12, ⟨(some 51), none, .inl (.build [(.int .i64 0), (.int .i64 0), (.int .i64 0), (.int .i64 0)] [(0, 1, (.t 41)), (1, 1, (.t 44)), (2, 1, (.t 47)), (3, 1, (.t 50))])⟩, [], false⟩,
           ⟨13, ⟨none, none, .inr (.store 4 (.t 2) (.t 51))⟩, [], false⟩])
        (.keep [0, 2, 3, 4]))
        (.seq (.seq (.seq (.reg [⟨(some 53), none, .inl (.load true 4 (.t 2))⟩,
            ⟨(some 54), none, .inl (.mv (.t 3))⟩,
            ⟨(some 55), none, .inl (.mv (.t 4))⟩,
            ⟨(some 56), none, .inr (.call 8 [(.t 53), (.t 54), (.t 55)])⟩,
            ⟨(some 52), none, .inl (.mv (.t 56))⟩,
            ⟨(some 57), none, .inl (.ext 0 (.t 52))⟩,
            ⟨(some 58), none, .inl (.ext 1 (.t 52))⟩,
            ⟨(some 9), none, .inl (.mv (.t 57))⟩,
            ⟨(some 10), none, .inl (.mv (.t 58))⟩])
         (.keep [0, 2, 3, 4, 9, 10]))
         (.seq (.seq (.reg [⟨(some 59), none, .inl (.mv (.t 10))⟩,
             ⟨(some 60), none, .inl (.bin .neq (.t 59) (.c (.int .i64 0)))⟩,
             ⟨(some 61), none, .inl (.mv (.t 60))⟩,
             ⟨(some 62), (some (61, false)), .inl (.mv (.t 9))⟩,
             ⟨(some 63), (some (61, false)), .inl (.mv (.t 0))⟩,
             ⟨(some 64), (some (61, false)), .inr (.call 24 [(.t 62), (.t 63)])⟩,
             ⟨(some 65), (some (61, false)), .inl (.un .not (.t 64))⟩,
             ⟨(some 66), none, .inl (.pick (.t 61) (.c (.bool true)) (.t 65))⟩])
          (.keep [2, 3, 4, 66]))
          (.cond (.t 66)
            (.seq (.seq (.reg [⟨(some 67), none, .inl (.build [(.int .i64 0), (.int .i64 0), (.int .i64 0), (.int .i64 0)] [])⟩,
                ⟨none, none, .inr (.store 4 (.t 2) (.t 67))⟩,
                ⟨(some 3), none, .inl (.mv (.c (.int .i64 0)))⟩,
                ⟨(some 4), none, .inl (.mv (.c (.int .i64 0)))⟩,
                ⟨(some 5), none, .inl (.mv (.c (.bool false)))⟩])
             (.keep [2, 3, 4, 5]))
             (.ret))
            (.skip))))
         (.seq (.seq (.reg [⟨(some 68), none, .inl (.load true 4 (.t 2))⟩,
             ⟨(some 69), none, .inl (.mv (.t 3))⟩,
             ⟨(some 70), none, .inl (.mv (.t 4))⟩,
             ⟨none, none, .inr (.store 4 (.t 2) (.t 68))⟩,
             ⟨(some 3), none, .inl (.mv (.t 69))⟩,
             ⟨(some 4), none, .inl (.mv (.t 70))⟩,
             ⟨(some 5), none, .inl (.mv (.c (.bool true)))⟩])
          (.keep [2, 3, 4, 5]))
          (.ret))))))))
def fc_super_Read : FC := ⟨71, cmd_super_Read, [.cell 2 true 4, .t 3, .t 4, .t 5]⟩
theorem fc_super_Read_ok : compF Try.prog 9 [[0, 2], [0, 2, 5, 6], [0, 2, 5, 7, 8], [0, 2, 7, 31], [2, 3, 4, 5], [0, 2, 3, 4, 7], [0, 1, 2, 3, 4, 5, 6, 7], [0, 2, 3, 4], [0, 1, 2, 3, 4, 5, 6, 7, 8, 9, 10, 11, 12, 13], [0, 2, 3, 4, 9, 10], [2, 3, 4, 66], [2, 3, 4, 5], [2, 3, 4, 5]] = some fc_super_Read := by kernel_rfl
/-- joist/joistlaw01.Kept -/
abbrev F.joistlaw01_Kept : Nat := 10
def cmd_joistlaw01_Kept : Cmd :=
  .seq (.seq (.reg [⟨(some 4), none, .inl (.mv (.c (.bool false)))⟩])
   (.keep [0, 1]))
   (.seq (.seq (.reg [⟨(some 5), none, .inl (.mv (.t 0))⟩,
       ⟨(some 6), none, .inl (.b2s (.t 5))⟩,
       ⟨(some 7), none, .inl (.mv (.t 1))⟩,
       ⟨(some 8), none, .inl (.b2s (.t 7))⟩,
       ⟨(some 9), none, .inl (.bins .eql (.t 6) (.t 8))⟩,
       ⟨(some 10), none, .inl (.mv (.t 9))⟩,
       ⟨(some 11), (some (10, true)), .inl (.mv (.t 0))⟩,
       ⟨(some 12), (some (10, true)), .inl (.mv (.t 1))⟩,
       ⟨(some 13), (some (10, true)), .inl (.len (.t 12))⟩,
       ⟨(some 14), (some (10, true)), .inl (.bin .add (.t 13) (.c (.int .i64 1)))⟩,
       ⟨(some 15), (some (10, true)), .inl (.slice 1 (.t 11) none (some (.t 14)) none)⟩,
       ⟨(some 16), (some (10, true)), .inl (.mv (.t 1))⟩,
       ⟨(some 17), (some (10, true)), .inl (.len (.t 16))⟩,
       ⟨(some 18), (some (10, true)), .inl (.iaddr 1 (.t 15) (.t 17))⟩,
       ⟨(some 19), (some (10, true)), .inl (.load false 1 (.t 18))⟩,
       ⟨(some 20), (some (10, true)), .inl (.bin .eql (.t 19) (.c (.int .u8 77)))⟩,
       ⟨(some 21), none, .inl (.pick (.t 10) (.t 20) (.c (.bool false)))⟩,
       ⟨(some 4), none, .inl (.mv (.t 21))⟩])
    (.keep [4]))
    (.ret))
def fc_joistlaw01_Kept : FC := ⟨22, cmd_joistlaw01_Kept, [.t 4]⟩
theorem fc_joistlaw01_Kept_ok : compF Try.prog 10 [[0, 1], [4]] = some fc_joistlaw01_Kept := by kernel_rfl
/-- joist/joistref17.Write -/
abbrev F.joistref17_Write : Nat := 11
def cmd_joistref17_Write : Cmd :=
  .seq (.seq (.reg [⟨(some 3), none, .inr (.box 4 (.t 0))⟩,
      ⟨(some 6), none, .inl (.mv (.c .nils))⟩,
      ⟨(some 7), none, .inl (.mv (.c (.int .i64 0)))⟩])
   (.keep [1, 2, 3]))
   (.seq (.seq (.reg [⟨(some 11), none, .inl (.load true 4 (.t 3))⟩,
       ⟨(some 12), none, .inl (.mv (.t 1))⟩,
       ⟨(some 13), none, .inl (.mv (.t 2))⟩,
       ⟨(some 14), none, .inr (.call 19 [(.t 11), (.t 12), (.t 13)])⟩,
       ⟨(some 8), none, .inl (.mv (.t 14))⟩])
    (.keep [1, 2, 3, 8]))
    (.seq (.seq (.seq (.reg [⟨(some 15), none, .inl (.mv (.t 8))⟩,
        ⟨(some 16), none, .inl (.un .not (.t 15))⟩])
     (.keep [1, 2, 3, 16]))
     (.cond (.t 16)
       (.seq (.seq (.reg [⟨(some 6), none, .inl (.mv (.c .nils))⟩,
           ⟨(some 7), none, .inl (.mv (.c (.int .i64 1)))⟩])
        (.keep [6, 7]))
        (.ret))
       (.skip)))
     (.seq (.seq (.reg [⟨(some 18), none, .inl (.mv (.t 1))⟩,
         ⟨(some 19), none, .inl (.faddr 0 (.t 3))⟩,
         ⟨(some 20), none, .inl (.load false 1 (.t 19))⟩,
         ⟨(some 21), none, .inl (.faddr 1 (.t 3))⟩,
         ⟨(some 22), none, .inl (.load false 1 (.t 21))⟩,
         ⟨(some 23), none, .inl (.faddr 2 (.t 3))⟩,
         ⟨(some 24), none, .inl (.load false 1 (.t 23))⟩,
         ⟨(some 25), none, .inl (.faddr 3 (.t 3))⟩,
         ⟨(some 26), none, .inl (.load false 1 (.t 25))⟩,
         ⟨(some 27), none, .inl (.mv (.t 2))⟩,
         ⟨(some 28), none, .inr (.bslice 1 [(.int .i64 0)] 7 [(0, (.c (.int .i64 54238244327242))), (1, (.t 18)), (2, (.t 20)), (3, (.t 22)), (4, (.t 24)), (5, (.t 26)), (6, (.t 27))])⟩,
         ⟨(some 29), none, .inr (.call 25 [(.t 28)])⟩,
         ⟨(some 17), none, .inl (.mv (.t 29))⟩,
         ⟨(some 30), none, .inl (.ext 0 (.t 17))⟩,
         ⟨(some 31), none, .inl (.ext 1 (.t 17))⟩,
         ⟨(some 9), none, .inl (.mv (.t 30))⟩,
         ⟨(some 10), none, .inl (.mv (.t 31))⟩])
      (.keep [9]))
      (.seq (.seq (.reg [⟨(some 32), none, .inl (.mv (.t 9))⟩,
          ⟨(some 33), none, .inr (.call 26 [(.t 32)])⟩,
          ⟨(some 6), none, .inl (.mv (.t 33))⟩,
          ⟨(some 7), none, .inl (.mv (.c (.int .i64 0)))⟩])
       (.keep [6, 7]))
       (.ret)))))
def fc_joistref17_Write : FC := ⟨34, cmd_joistref17_Write, [.t 6, .t 7]⟩
theorem fc_joistref17_Write_ok : compF Try.prog 11 [[1, 2, 3], [1, 2, 3, 8], [1, 2, 3, 16], [6, 7], [9], [6, 7]] = some fc_joistref17_Write := by kernel_rfl
/-- joist/joistref17.Read -/
abbrev F.joistref17_Read : Nat := 12
def cmd_joistref17_Read : Cmd :=
  .seq (.seq (.reg [⟨(some 2), none, .inr (.alloc [(.int .i64 0), (.int .i64 0), (.int .i64 0), (.int .i64 0)])⟩,
      ⟨(some 3), none, .inl (.mv (.c (.int .i64 0)))⟩,
      ⟨(some 4), none, .inl (.mv (.c (.int .i64 0)))⟩,
      ⟨(some 5), none, .inl (.mv (.c (.bool false)))⟩])
   (.keep [0, 2]))
   (.seq (.seq (.reg [⟨(some 12), none, .inl (.mv (.t 0))⟩,
       ⟨(some 13), none, .inr (.call 27 [(.t 12)])⟩,
       ⟨(some 11), none, .inl (.mv (.t 13))⟩,
       ⟨(some 14), none, .inl (.ext 0 (.t 11))⟩,
       ⟨(some 15), none, .inl (.ext 1 (.t 11))⟩,
       ⟨(some 6), none, .inl (.mv (.t 14))⟩,
       ⟨(some 7), none, .inl (.mv (.t 15))⟩])
    (.keep [0, 2, 6, 7]))
    (.seq (.seq (.seq (.reg [⟨(some 16), none, .inl (.mv (.t 7))⟩,
        ⟨(some 17), none, .inl (.un .not (.t 16))⟩,
        ⟨(some 18), none, .inl (.mv (.t 17))⟩,
        ⟨(some 19), (some (18, false)), .inl (.mv (.t 6))⟩,
        ⟨(some 20), (some (18, false)), .inl (.len (.t 19))⟩,
        ⟨(some 21), (some (18, false)), .inl (.bin .neq (.t 20) (.c (.int .i64 8)))⟩,
        ⟨(some 22), none, .inl (.pick (.t 18) (.c (.bool true)) (.t 21))⟩])
     (.keep [0, 2, 6, 22]))
     (.cond (.t 22)
       (.seq (.seq (.reg [⟨(some 23), none, .inl (.build [(.int .i64 0), (.int .i64 0), (.int .i64 0), (.int .i64 0)] [])⟩,
           ⟨none, none, .inr (.store 4 (.t 2) (.t 23))⟩,
           ⟨(some 3), none, .inl (.mv (.c (.int .i64 0)))⟩,
           ⟨(some 4), none, .inl (.mv (.c (.int .i64 0)))⟩,
           ⟨(some 5), none, .inl (.mv (.c (.bool false)))⟩])
        (.keep [2, 3, 4, 5]))
        (.ret))
       (.skip)))
     (.seq (.seq (.ord [⟨0, ⟨(some 24), none, .inl (.mv (.t 6))⟩, [], true⟩,
         ⟨1, ⟨(some 25), none, .inl (.iaddr 1 (.t 24) (.c (.int .i64 2)))⟩, [], true⟩,
         ⟨2, ⟨(some 26), none, .inl (.load false 1 (.t 25))⟩, [], true⟩,
         ⟨3, ⟨(some 27), none, .inl (.mv (.t 6))⟩, [], true⟩,
         ⟨4, ⟨(some 28), none, .inl (.iaddr 1 (.t 27) (.c (.int .i64 3)))⟩, [], true⟩,
         ⟨5, ⟨(some 29), none, .inl (.load false 1 (.t 28))⟩, [], true⟩,
         ⟨6, ⟨(some 30), none, .inl (.mv (.t 6))⟩, [], true⟩,
         ⟨7, ⟨(some 31), none, .inl (.iaddr 1 (.t 30) (.c (.int .i64 4)))⟩, [], true⟩,
         ⟨8, ⟨(some 32), none, .inl (.load false 1 (.t 31))⟩, [], true⟩,
         ⟨9, ⟨(some 33), none, .inl (.mv (.t 6))⟩, [], true⟩,
         ⟨10, ⟨(some 34), none, .inl (.iaddr 1 (.t 33) (.c (.int .i64 5)))⟩, [], true⟩,
         ⟨11, ⟨(some 35), none, .inl (.load false 1 (.t 34))⟩, [], true⟩,
         ⟨12, ⟨(some 36), none, .inl (.build [(.int .i64 0), (.int .i64 0), (.int .i64 0), (.int .i64 0)] [(0, 1, (.t 26)), (1, 1, (.t 29)), (2, 1, (.t 32)), (3, 1, (.t 35))])⟩, [], true⟩,
         ⟨13, ⟨(some 8), none, .inr (.alloc [(.int .i64 0), (.int .i64 0), (.int .i64 0), (.int .i64 0)])⟩, [0, 1, 2, 3, 4, 5, 6, 7, 8, 9, 10, 11, 12], false⟩,
         ⟨14, ⟨none, none, .inr (.store 4 (.t 8) (.t 36))⟩, [], false⟩])
      (.keep [0, 2, 6, 8]))
      (.seq (.seq (.ord [⟨0, ⟨(some 38), none, .inl (.load true 4 (.t 8))⟩, [], false⟩,
          ⟨1, ⟨(some 39), none, .inl (.mv (.t 6))⟩, [], false⟩,
          ⟨2, ⟨(some 40), none, .inl (.iaddr 1 (.t 39) (.c (.int .i64 1)))⟩, [], false⟩,
          ⟨3, ⟨(some 41), none, .inl (.load false 1 (.t 40))⟩, [], false⟩,
          ⟨4, ⟨(some 42), none, .inl (.mv (.t 6))⟩, [], false⟩,
          ⟨5, ⟨(some 43), none, .inl (.iaddr 1 (.t 42) (.c (.int .i64 6)))⟩, [], false⟩,
          ⟨6, ⟨(some 44), none, .inl (.load false 1 (.t 43))⟩, [], false⟩,
          ⟨7, ⟨(some 45), none, .inr (.call 11 [(.t 38), (.t 41), (.t 44)])⟩, [], false⟩,
          ⟨8, ⟨(some 37), none, .inl (.mv (.t 45))⟩, [], false⟩,
          ⟨9, ⟨(some 46), none, .inl (.ext 0 (.t 37))⟩, [], false⟩,
          ⟨10, ⟨(some 47), none, .inl (.ext 1 (.t 37))⟩, [], false⟩,
          ⟨11, ⟨(some 9), none, .inl (.mv (.t 46))⟩, [], false⟩,
          ⟨12, ⟨(some 10), none, .inl (.mv (.t 47))⟩, [], false⟩])
       (.keep [0, 2, 6, 8, 9, 10]))
       (.seq (.seq (.seq (.reg [⟨(some 48), none, .inl (.mv (.t 10))⟩,
           ⟨(some 49), none, .inl (.bin .neq (.t 48) (.c (.int .i64 0)))⟩,
           ⟨(some 50), none, .inl (.mv (.t 49))⟩,
           ⟨(some 51), (some (50, false)), .inl (.mv (.t 9))⟩,
           ⟨(some 52), (some (50, false)), .inl (.b2s (.t 51))⟩,
           ⟨(some 53), (some (50, false)), .inl (.mv (.t 0))⟩,
           ⟨(some 54), (some (50, false)), .inl (.b2s (.t 53))⟩,
           ⟨(some 55), (some (50, false)), .inl (.bins .neq (.t 52) (.t 54))⟩,
           ⟨(some 56), none, .inl (.pick (.t 50) (.c (.bool true)) (.t 55))⟩])
        (.keep [2, 6, 8, 56]))
        (.cond (.t 56)
          (.seq (.seq (.reg [⟨(some 57), none, .inl (.build [(.int .i64 0), (.int .i64 0), (.int .i64 0), (.int .i64 0)] [])⟩,
              ⟨none, none, .inr (.store 4 (.t 2) (.t 57))⟩,
              ⟨(some 3), none, .inl (.mv (.c (.int .i64 0)))⟩,
              ⟨(some 4), none, .inl (.mv (.c (.int .i64 0)))⟩,
              ⟨(some 5), none, .inl (.mv (.c (.bool false)))⟩])
           (.keep [2, 3, 4, 5]))
           (.ret))
          (.skip)))
        (.seq (.seq (.ord [⟨0, ⟨(some 58), none, .inl (.load true 4 (.t 8))⟩, [], false⟩,
            ⟨1, ⟨(some 59), none, .inl (.mv (.t 6))⟩, [], true⟩,
            ⟨2, ⟨(some 60), none, .inl (.iaddr 1 (.t 59) (.c (.int .i64 1)))⟩, [], true⟩,
            ⟨3, ⟨(some 61), none, .inl (.load false 1 (.t 60))⟩, [], true⟩,
            ⟨4, ⟨(some 62), none, .inl (.mv (.t 6))⟩, [], true⟩,
            ⟨5, ⟨(some 63), none, .inl (.iaddr 1 (.t 62) (.c (.int .i64 6)))⟩, [], true⟩,
            ⟨6, ⟨(some 64), none, .inl (.load false 1 (.t 63))⟩, [], true⟩,
            ⟨7, ⟨none, none, .inr (.store 4 (.t 2) (.t 58))⟩, [1, 2, 3, 4, 5, 6], false⟩,
            ⟨8, ⟨(some 3), none, .inl (.mv (.t 61))⟩, [], false⟩,
            ⟨9, ⟨(some 4), none, .inl (.mv (.t 64))⟩, [], false⟩,
            ⟨10, ⟨(some 5), none, .inl (.mv (.c (.bool true)))⟩, [], false⟩])
         (.keep [2, 3, 4, 5]))
         (.ret)))))))
def fc_joistref17_Read : FC := ⟨65, cmd_joistref17_Read, [.cell 2 true 4, .t 3, .t 4, .t 5]⟩
theorem fc_joistref17_Read_ok : compF Try.prog 12 [[0, 2], [0, 2, 6, 7], [0, 2, 6, 22], [2, 3, 4, 5], [0, 2, 6, 8], [0, 1, 2, 3, 4, 5, 6, 7, 8, 9, 10, 11, 12, 13, 14], [0, 2, 6, 8, 9, 10], [0, 1, 2, 3, 4, 5, 6, 7, 8, 9, 10, 11, 12], [2, 6, 8, 56], [2, 3, 4, 5], [2, 3, 4, 5], [0, 1, 2, 3, 4, 5, 6, 7, 8, 9, 10]] = some fc_joistref17_Read := by kernel_rfl
/-- joist/joistlaw01.Owned -/
abbrev F.joistlaw01_Owned : Nat := 13
def cmd_joistlaw01_Owned : Cmd :=
  .seq (.seq (.reg [⟨(some 2), none, .inl (.mv (.c (.bool false)))⟩])
   (.keep [0]))
   (.seq (.seq (.seq (.reg [⟨(some 3), none, .inl (.mv (.c (.int .i64 0)))⟩])
    (.keep [0, 3]))
    (.block 0 (.loop [0, 3] (.seq (.seq (.seq (.reg [⟨(some 9), none, .inl (.mv (.t 3))⟩,
        ⟨(some 10), none, .inl (.mv (.t 0))⟩,
        ⟨(some 11), none, .inl (.len (.t 10))⟩,
        ⟨(some 12), none, .inl (.bin .lss (.t 9) (.t 11))⟩])
     (.keep [0, 3, 12]))
     (.cond (.t 12)
       (.skip)
       (.exit 0)))
     (.seq (.block 1 (.seq (.seq (.ord [⟨0, ⟨(some 15), none, .inl (.mv (.t 0))⟩, [], false⟩,
         ⟨1, ⟨(some 16), none, .inl (.mv (.t 3))⟩, [], false⟩,
         ⟨2, ⟨(some 17), none, .inl (.iaddr 1 (.t 15) (.t 16))⟩, [], false⟩,
         ⟨3, ⟨(some 18), none, .inl (.load false 1 (.t 17))⟩, [], false⟩,
         ⟨4, ⟨(some 19), none, .inl (.mv (.t 0))⟩, [], false⟩,
         ⟨5, ⟨(some 20), none, .inl (.mv (.t 3))⟩, [], false⟩,
         ⟨6, ⟨(some 21), none, .inl (.iaddr 1 (.t 19) (.t 20))⟩, [], false⟩,
         ⟨7, ⟨(some 22), none, .inl (.load false 1 (.t 21))⟩, [], false⟩,
         ⟨8, ⟨(some 23), none, .inl (.cap (.t 22))⟩, [], false⟩,
         ⟨9, ⟨(some 24), none, .inl (.slice 1 (.t 18) none (some (.t 23)) none)⟩, [], false⟩,
         ⟨10, ⟨(some 4), none, .inl (.mv (.t 24))⟩, [], false⟩])
      (.keep [0, 3, 4]))
      (.seq (.seq (.reg [⟨(some 5), none, .inl (.mv (.c (.int .i64 0)))⟩])
       (.keep [0, 3, 4, 5]))
       (.block 2 (.loop [0, 3, 4, 5] (.seq (.seq (.seq (.reg [⟨(some 25), none, .inl (.mv (.t 5))⟩,
           ⟨(some 26), none, .inl (.mv (.t 4))⟩,
           ⟨(some 27), none, .inl (.len (.t 26))⟩,
           ⟨(some 28), none, .inl (.bin .lss (.t 25) (.t 27))⟩])
        (.keep [0, 3, 4, 5, 28]))
        (.cond (.t 28)
          (.skip)
          (.exit 2)))
        (.seq (.block 3 (.seq (.reg [⟨(some 31), none, .inl (.mv (.t 4))⟩,
            ⟨(some 32), none, .inl (.mv (.t 5))⟩,
            ⟨(some 33), none, .inl (.mv (.t 3))⟩,
            ⟨(some 34), none, .inl (.bin .add (.t 33) (.c (.int .i64 1)))⟩,
            ⟨(some 35), none, .inl (.conv .u8 (.t 34))⟩,
            ⟨(some 36), none, .inl (.iaddr 1 (.t 31) (.t 32))⟩,
            ⟨none, none, .inr (.store 1 (.t 36) (.t 35))⟩])
         (.keep [0, 3, 4, 5])))
         (.seq (.reg [⟨(some 29), none, .inl (.mv (.t 5))⟩,
             ⟨(some 30), none, .inl (.bin .add (.t 29) (.c (.int .i64 1)))⟩,
             ⟨(some 5), none, .inl (.mv (.t 30))⟩])
          (.keep [0, 3, 4, 5])))))))))
      (.seq (.reg [⟨(some 13), none, .inl (.mv (.t 3))⟩,
          ⟨(some 14), none, .inl (.bin .add (.t 13) (.c (.int .i64 1)))⟩,
          ⟨(some 3), none, .inl (.mv (.t 14))⟩])
       (.keep [0, 3])))))))
    (.seq (.seq (.seq (.reg [⟨(some 6), none, .inl (.mv (.c (.int .i64 0)))⟩])
     (.keep [0, 6]))
     (.block 4 (.loop [0, 6] (.seq (.seq (.seq (.reg [⟨(some 37), none, .inl (.mv (.t 6))⟩,
         ⟨(some 38), none, .inl (.mv (.t 0))⟩,
         ⟨(some 39), none, .inl (.len (.t 38))⟩,
         ⟨(some 40), none, .inl (.bin .lss (.t 37) (.t 39))⟩])
      (.keep [0, 6, 40]))
      (.cond (.t 40)
        (.skip)
        (.exit 4)))
      (.seq (.block 5 (.seq (.seq (.ord [⟨0, ⟨(some 43), none, .inl (.mv (.t 0))⟩, [], false⟩,
          ⟨1, ⟨(some 44), none, .inl (.mv (.t 6))⟩, [], false⟩,
          ⟨2, ⟨(some 45), none, .inl (.iaddr 1 (.t 43) (.t 44))⟩, [], false⟩,
          ⟨3, ⟨(some 46), none, .inl (.load false 1 (.t 45))⟩, [], false⟩,
          ⟨4, ⟨(some 47), none, .inl (.mv (.t 0))⟩, [], false⟩,
          ⟨5, ⟨(some 48), none, .inl (.mv (.t 6))⟩, [], false⟩,
          ⟨6, ⟨(some 49), none, .inl (.iaddr 1 (.t 47) (.t 48))⟩, [], false⟩,
          ⟨7, ⟨(some 50), none, .inl (.load false 1 (.t 49))⟩, [], false⟩,
          ⟨8, ⟨(some 51), none, .inl (.cap (.t 50))⟩, [], false⟩,
          ⟨9, ⟨(some 52), none, .inl (.slice 1 (.t 46) none (some (.t 51)) none)⟩, [], false⟩,
          ⟨10, ⟨(some 7), none, .inl (.mv (.t 52))⟩, [], false⟩])
       (.keep [0, 6, 7]))
       (.seq (.seq (.reg [⟨(some 8), none, .inl (.mv (.c (.int .i64 0)))⟩])
        (.keep [0, 6, 7, 8]))
        (.block 6 (.loop [0, 6, 7, 8] (.seq (.seq (.seq (.reg [⟨(some 53), none, .inl (.mv (.t 8))⟩,
            ⟨(some 54), none, .inl (.mv (.t 7))⟩,
            ⟨(some 55), none, .inl (.len (.t 54))⟩,
            ⟨(some 56), none, .inl (.bin .lss (.t 53) (.t 55))⟩])
         (.keep [0, 6, 7, 8, 56]))
         (.cond (.t 56)
           (.skip)
           (.exit 6)))
         (.seq (.block 7 (.seq (.seq (.reg [⟨(some 59), none, .inl (.mv (.t 7))⟩,
             ⟨(some 60), none, .inl (.mv (.t 8))⟩,
             ⟨(some 61), none, .inl (.iaddr 1 (.t 59) (.t 60))⟩,
             ⟨(some 62), none, .inl (.load false 1 (.t 61))⟩,
             ⟨(some 63), none, .inl (.mv (.t 6))⟩,
             ⟨(some 64), none, .inl (.bin .add (.t 63) (.c (.int .i64 1)))⟩,
             ⟨(some 65), none, .inl (.conv .u8 (.t 64))⟩,
             ⟨(some 66), none, .inl (.bin .neq (.t 62) (.t 65))⟩])
          (.keep [0, 6, 7, 8, 66]))
          (.cond (.t 66)
            (.seq (.seq (.reg [⟨(some 2), none, .inl (.mv (.c (.bool false)))⟩])
             (.keep [2]))
             (.ret))
            (.skip))))
          (.seq (.reg [⟨(some 57), none, .inl (.mv (.t 8))⟩,
              ⟨(some 58), none, .inl (.bin .add (.t 57) (.c (.int .i64 1)))⟩,
              ⟨(some 8), none, .inl (.mv (.t 58))⟩])
           (.keep [0, 6, 7, 8])))))))))
       (.seq (.reg [⟨(some 41), none, .inl (.mv (.t 6))⟩,
           ⟨(some 42), none, .inl (.bin .add (.t 41) (.c (.int .i64 1)))⟩,
           ⟨(some 6), none, .inl (.mv (.t 42))⟩])
        (.keep [0, 6])))))))
     (.seq (.seq (.reg [⟨(some 2), none, .inl (.mv (.c (.bool true)))⟩])
      (.keep [2]))
      (.ret))))
def fc_joistlaw01_Owned : FC := ⟨67, cmd_joistlaw01_Owned, [.t 2]⟩
theorem fc_joistlaw01_Owned_ok : compF Try.prog 13 [[0], [0, 3], [0, 3], [0, 3, 12], [0, 3, 4], [0, 1, 2, 3, 4, 5, 6, 7, 8, 9, 10], [0, 3, 4, 5], [0, 3, 4, 5], [0, 3, 4, 5, 28], [0, 3, 4, 5], [0, 3, 4, 5], [0, 3], [0, 6], [0, 6], [0, 6, 40], [0, 6, 7], [0, 1, 2, 3, 4, 5, 6, 7, 8, 9, 10], [0, 6, 7, 8], [0, 6, 7, 8], [0, 6, 7, 8, 56], [0, 6, 7, 8, 66], [2], [0, 6, 7, 8], [0, 6], [2]] = some fc_joistlaw01_Owned := by kernel_rfl
/-- joist/super.Mode -/
abbrev F.super_Mode : Nat := 14
def cmd_super_Mode : Cmd :=
  .seq (.seq (.reg [⟨(some 2), none, .inl (.mv (.c (.int .i64 0)))⟩,
      ⟨(some 3), none, .inl (.mv (.c (.bool false)))⟩])
   (.keep [0]))
   (.seq (.seq (.seq (.reg [⟨(some 6), none, .inr (.call 28 [])⟩,
       ⟨(some 7), none, .inl (.mv (.c (.int .i64 0)))⟩])
    (.keep [0, 6, 7]))
    (.block 0 (.loop [0, 6, 7] (.seq (.seq (.reg [⟨(some 8), none, .inl (.bin .lss (.t 7) (.c (.int .i64 5)))⟩])
     (.keep [0, 6, 7, 8]))
     (.seq (.cond (.t 8)
       (.skip)
       (.exit 0))
      (.seq (.block 1 (.seq (.seq (.reg [⟨(some 9), none, .inl (.mv (.t 7))⟩,
          ⟨(some 10), none, .inl (.idxA false 5 1 (.t 6) (.t 7))⟩,
          ⟨(some 4), none, .inl (.mv (.t 9))⟩,
          ⟨(some 5), none, .inl (.mv (.t 10))⟩])
       (.keep [0, 4, 5, 6, 7]))
       (.seq (.seq (.reg [⟨(some 11), none, .inl (.mv (.t 5))⟩,
           ⟨(some 12), none, .inl (.mv (.t 0))⟩,
           ⟨(some 13), none, .inl (.bins .eql (.t 11) (.t 12))⟩,
           ⟨(some 14), none, .inl (.mv (.t 13))⟩,
           ⟨(some 15), (some (14, true)), .inl (.mv (.t 5))⟩,
           ⟨(some 16), (some (14, true)), .inl (.bins .neq (.t 15) (.c (.str [])))⟩,
           ⟨(some 17), none, .inl (.pick (.t 14) (.t 16) (.c (.bool false)))⟩])
        (.keep [0, 4, 6, 7, 17]))
        (.cond (.t 17)
          (.seq (.seq (.reg [⟨(some 18), none, .inl (.mv (.t 4))⟩,
              ⟨(some 2), none, .inl (.mv (.t 18))⟩,
              ⟨(some 3), none, .inl (.mv (.c (.bool true)))⟩])
           (.keep [2, 3]))
           (.ret))
          (.skip)))))
       (.seq (.reg [⟨(some 19), none, .inl (.bin .add (.t 7) (.c (.int .i64 1)))⟩,
           ⟨(some 7), none, .inl (.mv (.t 19))⟩])
        (.keep [0, 6, 7]))))))))
    (.seq (.seq (.reg [⟨(some 2), none, .inl (.mv (.c (.int .i64 0)))⟩,
        ⟨(some 3), none, .inl (.mv (.c (.bool false)))⟩])
     (.keep [2, 3]))
     (.ret)))
def fc_super_Mode : FC := ⟨20, cmd_super_Mode, [.t 2, .t 3]⟩
theorem fc_super_Mode_ok : compF Try.prog 14 [[0], [0, 6, 7], [0, 6, 7], [0, 6, 7, 8], [0, 4, 5, 6, 7], [0, 4, 6, 7, 17], [2, 3], [0, 6, 7], [2, 3]] = some fc_super_Mode := by kernel_rfl
/-- joist/joistref17.Mode -/
abbrev F.joistref17_Mode : Nat := 15
def cmd_joistref17_Mode : Cmd :=
  .seq (.seq (.reg [⟨(some 2), none, .inl (.mv (.c (.int .i64 0)))⟩,
      ⟨(some 3), none, .inl (.mv (.c (.bool false)))⟩])
   (.keep [0]))
   (.seq (.seq (.seq (.reg [⟨(some 4), none, .inl (.mv (.c (.int .i64 1)))⟩])
    (.keep [0, 4]))
    (.block 0 (.loop [0, 4] (.seq (.seq (.seq (.reg [⟨(some 5), none, .inl (.mv (.t 4))⟩,
        ⟨(some 6), none, .inl (.bin .leq (.t 5) (.c (.int .i64 4)))⟩])
     (.keep [0, 4, 6]))
     (.cond (.t 6)
       (.skip)
       (.exit 0)))
     (.seq (.block 1 (.seq (.seq (.reg [⟨(some 9), none, .inl (.mv (.t 4))⟩,
         ⟨(some 10), none, .inr (.call 17 [(.t 9)])⟩,
         ⟨(some 11), none, .inl (.mv (.t 0))⟩,
         ⟨(some 12), none, .inl (.bins .eql (.t 10) (.t 11))⟩])
      (.keep [0, 4, 12]))
      (.cond (.t 12)
        (.seq (.seq (.reg [⟨(some 13), none, .inl (.mv (.t 4))⟩,
            ⟨(some 2), none, .inl (.mv (.t 13))⟩,
            ⟨(some 3), none, .inl (.mv (.c (.bool true)))⟩])
         (.keep [2, 3]))
         (.ret))
        (.skip))))
      (.seq (.reg [⟨(some 7), none, .inl (.mv (.t 4))⟩,
          ⟨(some 8), none, .inl (.bin .add (.t 7) (.c (.int .i64 1)))⟩,
          ⟨(some 4), none, .inl (.mv (.t 8))⟩])
       (.keep [0, 4])))))))
    (.seq (.seq (.reg [⟨(some 2), none, .inl (.mv (.c (.int .i64 0)))⟩,
        ⟨(some 3), none, .inl (.mv (.c (.bool false)))⟩])
     (.keep [2, 3]))
     (.ret)))
def fc_joistref17_Mode : FC := ⟨14, cmd_joistref17_Mode, [.t 2, .t 3]⟩
theorem fc_joistref17_Mode_ok : compF Try.prog 15 [[0], [0, 4], [0, 4], [0, 4, 6], [0, 4, 12], [2, 3], [0, 4], [2, 3]] = some fc_joistref17_Mode := by kernel_rfl
/-- joist/super.Name -/
abbrev F.super_Name : Nat := 16
def cmd_super_Name : Cmd :=
  .seq (.seq (.reg [⟨(some 2), none, .inl (.mv (.c (.str [])))⟩])
   (.keep [0]))
   (.seq (.seq (.seq (.reg [⟨(some 3), none, .inl (.mv (.t 0))⟩,
       ⟨(some 4), none, .inl (.bin .lss (.t 3) (.c (.int .i64 1)))⟩,
       ⟨(some 5), none, .inl (.mv (.t 4))⟩,
       ⟨(some 6), (some (5, false)), .inl (.mv (.t 0))⟩,
       ⟨(some 7), (some (5, false)), .inl (.bin .gtr (.t 6) (.c (.int .i64 4)))⟩,
       ⟨(some 8), none, .inl (.pick (.t 5) (.c (.bool true)) (.t 7))⟩])
    (.keep [0, 8]))
    (.cond (.t 8)
      (.seq (.seq (.reg [⟨(some 2), none, .inl (.mv (.c (.str [])))⟩])
       (.keep [2]))
       (.ret))
      (.skip)))
    (.seq (.seq (.reg [⟨(some 9), none, .inr (.call 28 [])⟩,
        ⟨(some 10), none, .inl (.mv (.t 0))⟩,
        ⟨(some 11), none, .inl (.idxA false 5 1 (.t 9) (.t 10))⟩,
        ⟨(some 2), none, .inl (.mv (.t 11))⟩])
     (.keep [2]))
     (.ret)))
def fc_super_Name : FC := ⟨12, cmd_super_Name, [.t 2]⟩
theorem fc_super_Name_ok : compF Try.prog 16 [[0], [0, 8], [2], [2]] = some fc_super_Name := by kernel_rfl
/-- joist/joistref17.Name -/
abbrev F.joistref17_Name : Nat := 17
def cmd_joistref17_Name : Cmd :=
  .seq (.seq (.reg [⟨(some 2), none, .inl (.mv (.c (.str [])))⟩])
   (.keep [0]))
   (.seq (.seq (.seq (.reg [⟨(some 3), none, .inl (.mv (.t 0))⟩])
    (.keep [3]))
    (.block 0 (.seq (.seq (.reg [⟨(some 5), none, .inl (.bin .eql (.t 3) (.c (.int .i64 1)))⟩,
        ⟨(some 4), none, .inl (.mv (.t 5))⟩])
     (.keep [3, 4]))
     (.cond (.t 4)
       (.seq (.seq (.reg [⟨(some 2), none, .inl (.mv (.c (.str [111, 110, 101])))⟩])
        (.keep [2]))
        (.ret))
       (.seq (.seq (.reg [⟨(some 7), none, .inl (.bin .eql (.t 3) (.c (.int .i64 2)))⟩,
           ⟨(some 6), none, .inl (.mv (.t 7))⟩])
        (.keep [3, 6]))
        (.cond (.t 6)
          (.seq (.seq (.reg [⟨(some 2), none, .inl (.mv (.c (.str [116, 119, 111])))⟩])
           (.keep [2]))
           (.ret))
          (.seq (.seq (.reg [⟨(some 9), none, .inl (.bin .eql (.t 3) (.c (.int .i64 3)))⟩,
              ⟨(some 8), none, .inl (.mv (.t 9))⟩])
           (.keep [3, 8]))
           (.cond (.t 8)
             (.seq (.seq (.reg [⟨(some 2), none, .inl (.mv (.c (.str [117, 112])))⟩])
              (.keep [2]))
              (.ret))
             (.seq (.seq (.reg [⟨(some 11), none, .inl (.bin .eql (.t 3) (.c (.int .i64 4)))⟩,
                 ⟨(some 10), none, .inl (.mv (.t 11))⟩])
              (.keep [10]))
              (.cond (.t 10)
                (.seq (.seq (.reg [⟨(some 2), none, .inl (.mv (.c (.str [100, 111, 119, 110])))⟩])
                 (.keep [2]))
                 (.ret))
                (.skip)))))))))))
    (.seq (.seq (.reg [⟨(some 2), none, .inl (.mv (.c (.str [])))⟩])
     (.keep [2]))
     (.ret)))
def fc_joistref17_Name : FC := ⟨12, cmd_joistref17_Name, [.t 2]⟩
theorem fc_joistref17_Name_ok : compF Try.prog 17 [[0], [3], [3, 4], [2], [3, 6], [2], [3, 8], [2], [10], [2], [2]] = some fc_joistref17_Name := by kernel_rfl
/-- joist/super.Right -/
abbrev F.super_Right : Nat := 18
def cmd_super_Right : Cmd :=
  .seq (.seq (.reg [⟨(some 3), none, .inr (.box 4 (.t 0))⟩,
      ⟨(some 6), none, .inl (.mv (.c (.bool false)))⟩])
   (.keep [1, 2, 3]))
   (.seq (.seq (.seq (.reg [⟨(some 7), none, .inl (.load true 4 (.t 3))⟩,
       ⟨(some 8), none, .inr (.call 29 [(.t 7)])⟩,
       ⟨(some 9), none, .inl (.un .not (.t 8))⟩,
       ⟨(some 10), none, .inl (.mv (.t 9))⟩,
       ⟨(some 11), (some (10, false)), .inl (.mv (.t 2))⟩,
       ⟨(some 12), (some (10, false)), .inl (.bin .lss (.t 11) (.c (.int .i64 0)))⟩,
       ⟨(some 13), none, .inl (.pick (.t 10) (.c (.bool true)) (.t 12))⟩,
       ⟨(some 14), none, .inl (.mv (.t 13))⟩,
       ⟨(some 15), (some (14, false)), .inl (.mv (.t 2))⟩,
       ⟨(some 16), (some (14, false)), .inl (.faddr 0 (.t 3))⟩,
       ⟨(some 17), (some (14, false)), .inl (.load false 1 (.t 16))⟩,
       ⟨(some 18), (some (14, false)), .inl (.bin .gtr (.t 15) (.t 17))⟩,
       ⟨(some 19), none, .inl (.pick (.t 14) (.c (.bool true)) (.t 18))⟩])
    (.keep [1, 2, 3, 19]))
    (.cond (.t 19)
      (.seq (.seq (.reg [⟨(some 6), none, .inl (.mv (.c (.bool false)))⟩])
       (.keep [6]))
       (.ret))
      (.skip)))
    (.seq (.seq (.seq (.reg [⟨(some 20), none, .inl (.mv (.t 1))⟩])
     (.keep [1, 2, 3, 20]))
     (.block 0 (.seq (.seq (.reg [⟨(some 22), none, .inl (.bin .eql (.t 20) (.c (.int .i64 1)))⟩,
         ⟨(some 21), none, .inl (.mv (.t 22))⟩])
      (.keep [1, 2, 3, 20, 21]))
      (.cond (.t 21)
        (.seq (.seq (.reg [⟨(some 23), none, .inl (.mv (.t 2))⟩,
            ⟨(some 24), none, .inl (.bin .eql (.t 23) (.c (.int .i64 0)))⟩,
            ⟨(some 6), none, .inl (.mv (.t 24))⟩])
         (.keep [6]))
         (.ret))
        (.seq (.seq (.reg [⟨(some 26), none, .inl (.bin .eql (.t 20) (.c (.int .i64 2)))⟩,
            ⟨(some 25), none, .inl (.mv (.t 26))⟩])
         (.keep [1, 2, 3, 25]))
         (.cond (.t 25)
           (.seq (.seq (.reg [⟨(some 27), none, .inl (.mv (.t 2))⟩,
               ⟨(some 28), none, .inl (.faddr 0 (.t 3))⟩,
               ⟨(some 29), none, .inl (.load false 1 (.t 28))⟩,
               ⟨(some 30), none, .inl (.bin .eql (.t 27) (.t 29))⟩,
               ⟨(some 6), none, .inl (.mv (.t 30))⟩])
            (.keep [6]))
            (.ret))
           (.skip)))))))
     (.seq (.seq (.reg [⟨(some 31), none, .inl (.mv (.t 1))⟩,
         ⟨(some 32), none, .inl (.bin .eql (.t 31) (.c (.int .i64 3)))⟩,
         ⟨(some 33), none, .inl (.mv (.t 32))⟩,
         ⟨(some 34), (some (33, false)), .inl (.mv (.t 1))⟩,
         ⟨(some 35), (some (33, false)), .inl (.bin .eql (.t 34) (.c (.int .i64 4)))⟩,
         ⟨(some 36), none, .inl (.pick (.t 33) (.c (.bool true)) (.t 35))⟩,
         ⟨(some 6), none, .inl (.mv (.t 36))⟩])
      (.keep [6]))
      (.ret))))
def fc_super_Right : FC := ⟨37, cmd_super_Right, [.t 6]⟩
theorem fc_super_Right_ok : compF Try.prog 18 [[1, 2, 3], [1, 2, 3, 19], [6], [1, 2, 3, 20], [1, 2, 3, 20, 21], [6], [1, 2, 3, 25], [6], [6]] = some fc_super_Right := by kernel_rfl
/-- joist/joistref17.Right -/
abbrev F.joistref17_Right : Nat := 19
def cmd_joistref17_Right : Cmd :=
  .seq (.seq (.reg [⟨(some 3), none, .inr (.box 4 (.t 0))⟩,
      ⟨(some 6), none, .inl (.mv (.c (.bool false)))⟩])
   (.keep [1, 2, 3]))
   (.seq (.seq (.reg [⟨(some 8), none, .inl (.load true 4 (.t 3))⟩,
       ⟨(some 9), none, .inr (.call 30 [(.t 8)])⟩,
       ⟨(some 7), none, .inl (.mv (.t 9))⟩])
    (.keep [1, 2, 3, 7]))
    (.seq (.seq (.seq (.reg [⟨(some 10), none, .inl (.mv (.t 7))⟩,
        ⟨(some 11), none, .inl (.un .not (.t 10))⟩,
        ⟨(some 12), none, .inl (.mv (.t 11))⟩,
        ⟨(some 13), (some (12, false)), .inl (.mv (.t 2))⟩,
        ⟨(some 14), (some (12, false)), .inl (.bin .lss (.t 13) (.c (.int .i64 0)))⟩,
        ⟨(some 15), none, .inl (.pick (.t 12) (.c (.bool true)) (.t 14))⟩,
        ⟨(some 16), none, .inl (.mv (.t 15))⟩,
        ⟨(some 17), (some (16, false)), .inl (.mv (.t 2))⟩,
        ⟨(some 18), (some (16, false)), .inl (.faddr 0 (.t 3))⟩,
        ⟨(some 19), (some (16, false)), .inl (.load false 1 (.t 18))⟩,
        ⟨(some 20), (some (16, false)), .inl (.bin .gtr (.t 17) (.t 19))⟩,
        ⟨(some 21), none, .inl (.pick (.t 16) (.c (.bool true)) (.t 20))⟩])
     (.keep [1, 2, 3, 21]))
     (.cond (.t 21)
       (.seq (.seq (.reg [⟨(some 6), none, .inl (.mv (.c (.bool false)))⟩])
        (.keep [6]))
        (.ret))
       (.skip)))
     (.seq (.seq (.seq (.reg [⟨(some 22), none, .inl (.mv (.t 1))⟩])
      (.keep [2, 3, 22]))
      (.block 0 (.seq (.seq (.reg [⟨(some 24), none, .inl (.bin .eql (.t 22) (.c (.int .i64 1)))⟩,
          ⟨(some 23), none, .inl (.mv (.t 24))⟩])
       (.keep [2, 3, 22, 23]))
       (.cond (.t 23)
         (.seq (.seq (.reg [⟨(some 25), none, .inl (.mv (.t 2))⟩,
             ⟨(some 26), none, .inl (.bin .eql (.t 25) (.c (.int .i64 0)))⟩,
             ⟨(some 6), none, .inl (.mv (.t 26))⟩])
          (.keep [6]))
          (.ret))
         (.seq (.seq (.reg [⟨(some 28), none, .inl (.bin .eql (.t 22) (.c (.int .i64 2)))⟩,
             ⟨(some 27), none, .inl (.mv (.t 28))⟩])
          (.keep [2, 3, 22, 27]))
          (.cond (.t 27)
            (.seq (.seq (.reg [⟨(some 29), none, .inl (.mv (.t 2))⟩,
                ⟨(some 30), none, .inl (.faddr 0 (.t 3))⟩,
                ⟨(some 31), none, .inl (.load false 1 (.t 30))⟩,
                ⟨(some 32), none, .inl (.bin .eql (.t 29) (.t 31))⟩,
                ⟨(some 6), none, .inl (.mv (.t 32))⟩])
             (.keep [6]))
             (.ret))
            (.seq (.seq (.seq (.reg [⟨(some 34), none, .inl (.bin .eql (.t 22) (.c (.int .i64 3)))⟩,
                ⟨(some 33), none, .inl (.mv (.t 34))⟩])
             (.keep [22, 33]))
             (.cond (.t 33)
               (.skip)
               (.seq (.reg [⟨(some 35), none, .inl (.bin .eql (.t 22) (.c (.int .i64 4)))⟩,
                   ⟨(some 33), none, .inl (.mv (.t 35))⟩])
                (.keep [33]))))
             (.cond (.t 33)
               (.seq (.seq (.reg [⟨(some 6), none, .inl (.mv (.c (.bool true)))⟩])
                (.keep [6]))
                (.ret))
               (.skip)))))))))
      (.seq (.seq (.reg [⟨(some 6), none, .inl (.mv (.c (.bool false)))⟩])
       (.keep [6]))
       (.ret)))))
def fc_joistref17_Right : FC := ⟨36, cmd_joistref17_Right, [.t 6]⟩
theorem fc_joistref17_Right_ok : compF Try.prog 19 [[1, 2, 3], [1, 2, 3, 7], [1, 2, 3, 21], [6], [2, 3, 22], [2, 3, 22, 23], [6], [2, 3, 22, 27], [6], [22, 33], [33], [6], [6]] = some fc_joistref17_Right := by kernel_rfl
/-- joist/words.Of -/
abbrev F.words_Of : Nat := 20
def cmd_words_Of : Cmd :=
  .seq (.seq (.reg [⟨(some 2), none, .inl (.mv (.c .nils))⟩,
      ⟨(some 3), none, .inl (.mv (.c (.int .i64 0)))⟩])
   (.keep [0]))
   (.seq (.seq (.reg [⟨(some 7), none, .inl (.mv (.t 0))⟩,
       ⟨(some 8), none, .inl (.len (.t 7))⟩,
       ⟨(some 9), none, .inl (.bin .mul (.t 8) (.c (.int .i64 8)))⟩,
       ⟨(some 10), none, .inr (.mksl 1 1 [(.int .u8 0)] (.t 9) (.t 9))⟩,
       ⟨(some 4), none, .inl (.mv (.t 10))⟩])
    (.keep [0, 4]))
    (.seq (.seq (.seq (.reg [⟨(some 11), none, .inl (.mv (.t 0))⟩,
        ⟨(some 12), none, .inl (.len (.t 11))⟩,
        ⟨(some 13), none, .inl (.mv (.c (.int .i64 0)))⟩])
     (.keep [4, 11, 12, 13]))
     (.block 0 (.loop [4, 11, 12, 13] (.seq (.seq (.reg [⟨(some 14), none, .inl (.bin .lss (.t 13) (.t 12))⟩])
      (.keep [4, 11, 12, 13, 14]))
      (.seq (.cond (.t 14)
        (.skip)
        (.exit 0))
       (.seq (.block 1 (.seq (.seq (.reg [⟨(some 15), none, .inl (.mv (.t 13))⟩,
           ⟨(some 16), none, .inl (.iaddr 1 (.t 11) (.t 13))⟩,
           ⟨(some 17), none, .inl (.load false 1 (.t 16))⟩,
           ⟨(some 5), none, .inl (.mv (.t 15))⟩,
           ⟨(some 6), none, .inl (.mv (.t 17))⟩])
        (.keep [4, 5, 6, 11, 12, 13]))
        (.seq (.seq (.seq (.reg [⟨(some 18), none, .inl (.mv (.t 6))⟩,
            ⟨(some 19), none, .inr (.call 31 [(.t 18)])⟩,
            ⟨(some 20), none, .inl (.un .not (.t 19))⟩])
         (.keep [4, 5, 6, 11, 12, 13, 20]))
         (.cond (.t 20)
           (.seq (.seq (.reg [⟨(some 2), none, .inl (.mv (.c .nils))⟩,
               ⟨(some 3), none, .inl (.mv (.c (.int .i64 4)))⟩])
            (.keep [2, 3]))
            (.ret))
           (.skip)))
         (.seq (.reg [⟨(some 21), none, .inl (.mv (.t 4))⟩,
             ⟨(some 22), none, .inl (.mv (.t 5))⟩,
             ⟨(some 23), none, .inr (.call 33 [(.t 21), (.t 22)])⟩,
             ⟨(some 24), none, .inl (.mv (.t 6))⟩,
             ⟨(some 25), none, .inr (.call 32 [(.t 23), (.t 24)])⟩])
          (.keep [4, 11, 12, 13])))))
        (.seq (.reg [⟨(some 26), none, .inl (.bin .add (.t 13) (.c (.int .i64 1)))⟩,
            ⟨(some 13), none, .inl (.mv (.t 26))⟩])
         (.keep [4, 11, 12, 13]))))))))
     (.seq (.seq (.reg [⟨(some 27), none, .inl (.mv (.t 4))⟩,
         ⟨(some 2), none, .inl (.mv (.t 27))⟩,
         ⟨(some 3), none, .inl (.mv (.c (.int .i64 0)))⟩])
      (.keep [2, 3]))
      (.ret))))
def fc_words_Of : FC := ⟨28, cmd_words_Of, [.t 2, .t 3]⟩
theorem fc_words_Of_ok : compF Try.prog 20 [[0], [0, 4], [4, 11, 12, 13], [4, 11, 12, 13], [4, 11, 12, 13, 14], [4, 5, 6, 11, 12, 13], [4, 5, 6, 11, 12, 13, 20], [2, 3], [4, 11, 12, 13], [4, 11, 12, 13], [2, 3]] = some fc_words_Of := by kernel_rfl
/-- joist/crc.Seal -/
abbrev F.crc_Seal : Nat := 21
def cmd_crc_Seal : Cmd :=
  .seq (.seq (.reg [⟨(some 2), none, .inl (.mv (.c .nils))⟩])
   (.keep [0]))
   (.seq (.seq (.reg [⟨(some 6), none, .inl (.mv (.t 0))⟩,
       ⟨(some 7), none, .inr (.call 34 [(.t 6)])⟩,
       ⟨(some 8), none, .inr (.bslice 1 [(.int .i64 0)] 1 [(0, (.t 7))])⟩,
       ⟨(some 9), none, .inr (.call 20 [(.t 8)])⟩,
       ⟨(some 5), none, .inl (.mv (.t 9))⟩,
       ⟨(some 10), none, .inl (.ext 0 (.t 5))⟩,
       ⟨(some 11), none, .inl (.ext 1 (.t 5))⟩,
       ⟨(some 3), none, .inl (.mv (.t 10))⟩,
       ⟨(some 4), none, .inl (.mv (.t 11))⟩])
    (.keep [0, 3]))
    (.seq (.seq (.reg [⟨(some 12), none, .inl (.mv (.t 0))⟩,
        ⟨(some 13), none, .inr (.call 35 [(.t 12)])⟩,
        ⟨(some 14), none, .inl (.mv (.t 3))⟩,
        ⟨(some 15), none, .inr (.append 1 1 (.t 13) (.t 14))⟩,
        ⟨(some 2), none, .inl (.mv (.t 15))⟩])
     (.keep [2]))
     (.ret)))
def fc_crc_Seal : FC := ⟨16, cmd_crc_Seal, [.t 2]⟩
theorem fc_crc_Seal_ok : compF Try.prog 21 [[0], [0, 3], [2]] = some fc_crc_Seal := by kernel_rfl
/-- joist/crc.Open -/
abbrev F.crc_Open : Nat := 22
def cmd_crc_Open : Cmd :=
  .seq (.seq (.reg [⟨(some 2), none, .inl (.mv (.c .nils))⟩,
      ⟨(some 3), none, .inl (.mv (.c (.bool false)))⟩])
   (.keep [0]))
   (.seq (.seq (.reg [⟨(some 5), none, .inl (.mv (.t 0))⟩,
       ⟨(some 6), none, .inl (.len (.t 5))⟩,
       ⟨(some 7), none, .inl (.bin .sub (.t 6) (.c (.int .i64 8)))⟩,
       ⟨(some 4), none, .inl (.mv (.t 7))⟩])
    (.keep [0, 4]))
    (.seq (.seq (.seq (.reg [⟨(some 8), none, .inl (.mv (.t 4))⟩,
        ⟨(some 9), none, .inl (.bin .lss (.t 8) (.c (.int .i64 0)))⟩,
        ⟨(some 10), none, .inl (.mv (.t 9))⟩,
        ⟨(some 11), (some (10, false)), .inl (.mv (.t 0))⟩,
        ⟨(some 12), (some (10, false)), .inl (.mv (.t 4))⟩,
        ⟨(some 13), (some (10, false)), .inl (.slice 1 (.t 11) none (some (.t 12)) none)⟩,
        ⟨(some 14), (some (10, false)), .inr (.call 21 [(.t 13)])⟩,
        ⟨(some 15), (some (10, false)), .inl (.mv (.t 0))⟩,
        ⟨(some 16), (some (10, false)), .inr (.call 24 [(.t 14), (.t 15)])⟩,
        ⟨(some 17), (some (10, false)), .inl (.un .not (.t 16))⟩,
        ⟨(some 18), none, .inl (.pick (.t 10) (.c (.bool true)) (.t 17))⟩])
     (.keep [0, 4, 18]))
     (.cond (.t 18)
       (.seq (.seq (.reg [⟨(some 2), none, .inl (.mv (.c .nils))⟩,
           ⟨(some 3), none, .inl (.mv (.c (.bool false)))⟩])
        (.keep [2, 3]))
        (.ret))
       (.skip)))
     (.seq (.seq (.reg [⟨(some 19), none, .inl (.mv (.t 0))⟩,
         ⟨(some 20), none, .inl (.mv (.t 4))⟩,
         ⟨(some 21), none, .inl (.slice 1 (.t 19) none (some (.t 20)) none)⟩,
         ⟨(some 22), none, .inr (.call 35 [(.t 21)])⟩,
         ⟨(some 2), none, .inl (.mv (.t 22))⟩,
         ⟨(some 3), none, .inl (.mv (.c (.bool true)))⟩])
      (.keep [2, 3]))
      (.ret))))
def fc_crc_Open : FC := ⟨23, cmd_crc_Open, [.t 2, .t 3]⟩
theorem fc_crc_Open_ok : compF Try.prog 22 [[0], [0, 4], [0, 4, 18], [2, 3], [2, 3]] = some fc_crc_Open := by kernel_rfl
/-- joist/words.All -/
abbrev F.words_All : Nat := 23
def cmd_words_All : Cmd :=
  .seq (.seq (.reg [⟨(some 2), none, .inl (.mv (.c .nils))⟩,
      ⟨(some 3), none, .inl (.mv (.c (.bool false)))⟩])
   (.keep [0]))
   (.seq (.seq (.seq (.reg [⟨(some 7), none, .inl (.mv (.t 0))⟩,
       ⟨(some 8), none, .inl (.len (.t 7))⟩,
       ⟨(some 9), none, .inl (.bin .rem (.t 8) (.c (.int .i64 8)))⟩,
       ⟨(some 10), none, .inl (.bin .neq (.t 9) (.c (.int .i64 0)))⟩])
    (.keep [0, 10]))
    (.cond (.t 10)
      (.seq (.seq (.reg [⟨(some 2), none, .inl (.mv (.c .nils))⟩,
          ⟨(some 3), none, .inl (.mv (.c (.bool false)))⟩])
       (.keep [2, 3]))
       (.ret))
      (.skip)))
    (.seq (.seq (.reg [⟨(some 4), none, .inl (.mv (.c .nils))⟩])
     (.keep [0, 4]))
     (.seq (.block 0 (.loop [0, 4] (.seq (.seq (.seq (.reg [⟨(some 11), none, .inl (.mv (.t 0))⟩,
         ⟨(some 12), none, .inl (.len (.t 11))⟩,
         ⟨(some 13), none, .inl (.bin .gtr (.t 12) (.c (.int .i64 0)))⟩])
      (.keep [0, 4, 13]))
      (.cond (.t 13)
        (.skip)
        (.exit 0)))
      (.block 1 (.seq (.seq (.reg [⟨(some 15), none, .inl (.mv (.t 0))⟩,
          ⟨(some 16), none, .inl (.slice 1 (.t 15) none (some (.c (.int .i64 8))) none)⟩,
          ⟨(some 17), none, .inr (.call 36 [(.t 16)])⟩,
          ⟨(some 14), none, .inl (.mv (.t 17))⟩,
          ⟨(some 18), none, .inl (.ext 0 (.t 14))⟩,
          ⟨(some 19), none, .inl (.ext 1 (.t 14))⟩,
          ⟨(some 5), none, .inl (.mv (.t 18))⟩,
          ⟨(some 6), none, .inl (.mv (.t 19))⟩])
       (.keep [0, 4, 5, 6]))
       (.seq (.seq (.seq (.reg [⟨(some 20), none, .inl (.mv (.t 6))⟩,
           ⟨(some 21), none, .inl (.un .not (.t 20))⟩])
        (.keep [0, 4, 5, 21]))
        (.cond (.t 21)
          (.seq (.seq (.reg [⟨(some 2), none, .inl (.mv (.c .nils))⟩,
              ⟨(some 3), none, .inl (.mv (.c (.bool false)))⟩])
           (.keep [2, 3]))
           (.ret))
          (.skip)))
        (.seq (.ord [⟨0, ⟨(some 22), none, .inl (.mv (.t 4))⟩, [], true⟩,
            ⟨1, ⟨(some 23), none, .inl (.mv (.t 5))⟩, [], false⟩,
            ⟨4, ⟨(some 26), none, .inl (.mv (.t 0))⟩, [], true⟩,
            ⟨5, ⟨(some 27), none, .inl (.slice 1 (.t 26) (some (.c (.int .i64 8))) none none)⟩, [], true⟩,
            ⟨2, ⟨(some 24), none, .inr (.bslice 1 [(.int .i64 0)] 1 [(0, (.t 23))])⟩, [0, 4, 5], false⟩,
            ⟨3, ⟨(some 25), none, .inr (.append 1 8 (.t 22) (.t 24))⟩, [4, 5], false⟩,
            ⟨6, ⟨(some 4), none, .inl (.mv (.t 25))⟩, [], false⟩,
            ⟨7, ⟨(some 0), none, .inl (.mv (.t 27))⟩, [], false⟩])
         (.keep [0, 4]))))))))
      (.seq (.seq (.reg [⟨(some 28), none, .inl (.mv (.t 4))⟩,
          ⟨(some 2), none, .inl (.mv (.t 28))⟩,
          ⟨(some 3), none, .inl (.mv (.c (.bool true)))⟩])
       (.keep [2, 3]))
       (.ret)))))
def fc_words_All : FC := ⟨29, cmd_words_All, [.t 2, .t 3]⟩
theorem fc_words_All_ok : compF Try.prog 23 [[0], [0, 10], [2, 3], [0, 4], [0, 4], [0, 4, 13], [0, 4, 5, 6], [0, 4, 5, 21], [2, 3], [0, 4], [0, 1, 4, 5, 2, 3, 6, 7], [2, 3]] = some fc_words_All := by kernel_rfl
/-- bytes.Equal -/
abbrev F.bytes_Equal : Nat := 24
def cmd_bytes_Equal : Cmd :=
  .seq (.seq (.reg [⟨(some 4), none, .inl (.mv (.c (.bool false)))⟩])
   (.keep [0, 1]))
   (.seq (.seq (.reg [⟨(some 5), none, .inl (.mv (.t 0))⟩,
       ⟨(some 6), none, .inl (.b2s (.t 5))⟩,
       ⟨(some 7), none, .inl (.mv (.t 1))⟩,
       ⟨(some 8), none, .inl (.b2s (.t 7))⟩,
       ⟨(some 9), none, .inl (.bins .eql (.t 6) (.t 8))⟩,
       ⟨(some 4), none, .inl (.mv (.t 9))⟩])
    (.keep [4]))
    (.ret))
def fc_bytes_Equal : FC := ⟨10, cmd_bytes_Equal, [.t 4]⟩
theorem fc_bytes_Equal_ok : compF Try.prog 24 [[0, 1], [4]] = some fc_bytes_Equal := by kernel_rfl
/-- joist/joistref01.Of -/
abbrev F.joistref01_Of : Nat := 25
def cmd_joistref01_Of : Cmd :=
  .seq (.seq (.reg [⟨(some 2), none, .inl (.mv (.c .nils))⟩,
      ⟨(some 3), none, .inl (.mv (.c (.int .i64 0)))⟩])
   (.keep [0]))
   (.seq (.seq (.reg [⟨(some 4), none, .inl (.mv (.c .nils))⟩])
    (.keep [0, 4]))
    (.seq (.seq (.seq (.reg [⟨(some 5), none, .inl (.mv (.c (.int .i64 0)))⟩])
     (.keep [0, 4, 5]))
     (.block 0 (.loop [0, 4, 5] (.seq (.seq (.seq (.reg [⟨(some 6), none, .inl (.mv (.t 5))⟩,
         ⟨(some 7), none, .inl (.mv (.t 0))⟩,
         ⟨(some 8), none, .inl (.len (.t 7))⟩,
         ⟨(some 9), none, .inl (.bin .lss (.t 6) (.t 8))⟩])
      (.keep [0, 4, 5, 9]))
      (.cond (.t 9)
        (.skip)
        (.exit 0)))
      (.seq (.block 1 (.seq (.seq (.seq (.reg [⟨(some 12), none, .inl (.mv (.t 0))⟩,
          ⟨(some 13), none, .inl (.mv (.t 5))⟩,
          ⟨(some 14), none, .inl (.iaddr 1 (.t 12) (.t 13))⟩,
          ⟨(some 15), none, .inl (.load false 1 (.t 14))⟩,
          ⟨(some 16), none, .inl (.bin .lss (.t 15) (.c (.int .i64 0)))⟩,
          ⟨(some 17), none, .inl (.mv (.t 16))⟩,
          ⟨(some 18), (some (17, false)), .inl (.mv (.t 0))⟩,
          ⟨(some 19), (some (17, false)), .inl (.mv (.t 5))⟩,
          ⟨(some 20), (some (17, false)), .inl (.iaddr 1 (.t 18) (.t 19))⟩,
          ⟨(some 21), (some (17, false)), .inl (.load false 1 (.t 20))⟩,
          ⟨(some 22), (some (17, false)), .inl (.bin .gtr (.t 21) (.c (.int .i64 4611686018427387903)))⟩,
          ⟨(some 23), none, .inl (.pick (.t 17) (.c (.bool true)) (.t 22))⟩])
       (.keep [0, 4, 5, 23]))
       (.cond (.t 23)
         (.seq (.seq (.reg [⟨(some 2), none, .inl (.mv (.c .nils))⟩,
             ⟨(some 3), none, .inl (.mv (.c (.int .i64 4)))⟩])
          (.keep [2, 3]))
          (.ret))
         (.skip)))
       (.seq (.reg [⟨(some 24), none, .inl (.mv (.t 4))⟩,
           ⟨(some 25), none, .inl (.mv (.t 0))⟩,
           ⟨(some 26), none, .inl (.mv (.t 5))⟩,
           ⟨(some 27), none, .inl (.iaddr 1 (.t 25) (.t 26))⟩,
           ⟨(some 28), none, .inl (.load false 1 (.t 27))⟩,
           ⟨(some 29), none, .inr (.call 37 [(.t 28)])⟩,
           ⟨(some 30), none, .inr (.append 1 1 (.t 24) (.t 29))⟩,
           ⟨(some 4), none, .inl (.mv (.t 30))⟩])
        (.keep [0, 4, 5]))))
       (.seq (.reg [⟨(some 10), none, .inl (.mv (.t 5))⟩,
           ⟨(some 11), none, .inl (.bin .add (.t 10) (.c (.int .i64 1)))⟩,
           ⟨(some 5), none, .inl (.mv (.t 11))⟩])
        (.keep [0, 4, 5])))))))
     (.seq (.seq (.reg [⟨(some 31), none, .inl (.mv (.t 4))⟩,
         ⟨(some 2), none, .inl (.mv (.t 31))⟩,
         ⟨(some 3), none, .inl (.mv (.c (.int .i64 0)))⟩])
      (.keep [2, 3]))
      (.ret))))
def fc_joistref01_Of : FC := ⟨32, cmd_joistref01_Of, [.t 2, .t 3]⟩
theorem fc_joistref01_Of_ok : compF Try.prog 25 [[0], [0, 4], [0, 4, 5], [0, 4, 5], [0, 4, 5, 9], [0, 4, 5, 23], [2, 3], [0, 4, 5], [0, 4, 5], [2, 3]] = some fc_joistref01_Of := by kernel_rfl
/-- joist/joistref02.Seal -/
abbrev F.joistref02_Seal : Nat := 26
def cmd_joistref02_Seal : Cmd :=
  .seq (.seq (.reg [⟨(some 2), none, .inl (.mv (.c .nils))⟩])
   (.keep [0]))
   (.seq (.seq (.reg [⟨(some 3), none, .inr (.bslice 1 [(.int .u8 0)] 0 [])⟩,
       ⟨(some 4), none, .inl (.mv (.t 0))⟩,
       ⟨(some 5), none, .inr (.append 1 1 (.t 3) (.t 4))⟩,
       ⟨(some 6), none, .inl (.mv (.t 0))⟩,
       ⟨(some 7), none, .inr (.call 38 [(.t 6)])⟩,
       ⟨(some 8), none, .inr (.call 37 [(.t 7)])⟩,
       ⟨(some 9), none, .inr (.append 1 1 (.t 5) (.t 8))⟩,
       ⟨(some 2), none, .inl (.mv (.t 9))⟩])
    (.keep [2]))
    (.ret))
def fc_joistref02_Seal : FC := ⟨10, cmd_joistref02_Seal, [.t 2]⟩
theorem fc_joistref02_Seal_ok : compF Try.prog 26 [[0], [2]] = some fc_joistref02_Seal := by kernel_rfl
/-- joist/joistref01.All -/
abbrev F.joistref01_All : Nat := 27
def cmd_joistref01_All : Cmd :=
  .seq (.seq (.reg [⟨(some 2), none, .inl (.mv (.c .nils))⟩,
      ⟨(some 3), none, .inl (.mv (.c (.bool false)))⟩])
   (.keep [0]))
   (.seq (.seq (.seq (.reg [⟨(some 8), none, .inl (.mv (.t 0))⟩,
       ⟨(some 9), none, .inl (.len (.t 8))⟩,
       ⟨(some 10), none, .inl (.bin .rem (.t 9) (.c (.int .i64 8)))⟩,
       ⟨(some 11), none, .inl (.bin .neq (.t 10) (.c (.int .i64 0)))⟩])
    (.keep [0, 11]))
    (.cond (.t 11)
      (.seq (.seq (.reg [⟨(some 2), none, .inl (.mv (.c .nils))⟩,
          ⟨(some 3), none, .inl (.mv (.c (.bool false)))⟩])
       (.keep [2, 3]))
       (.ret))
      (.skip)))
    (.seq (.seq (.reg [⟨(some 4), none, .inl (.mv (.c .nils))⟩])
     (.keep [0, 4]))
     (.seq (.seq (.seq (.reg [⟨(some 5), none, .inl (.mv (.c (.int .i64 0)))⟩])
      (.keep [0, 4, 5]))
      (.block 0 (.loop [0, 4, 5] (.seq (.seq (.seq (.reg [⟨(some 12), none, .inl (.mv (.t 5))⟩,
          ⟨(some 13), none, .inl (.mv (.t 0))⟩,
          ⟨(some 14), none, .inl (.len (.t 13))⟩,
          ⟨(some 15), none, .inl (.bin .quo (.t 14) (.c (.int .i64 8)))⟩,
          ⟨(some 16), none, .inl (.bin .lss (.t 12) (.t 15))⟩])
       (.keep [0, 4, 5, 16]))
       (.cond (.t 16)
         (.skip)
         (.exit 0)))
       (.seq (.block 1 (.seq (.seq (.reg [⟨(some 20), none, .inl (.mv (.t 0))⟩,
           ⟨(some 21), none, .inl (.mv (.t 5))⟩,
           ⟨(some 22), none, .inr (.call 39 [(.t 20), (.t 21)])⟩,
           ⟨(some 19), none, .inl (.mv (.t 22))⟩,
           ⟨(some 23), none, .inl (.ext 0 (.t 19))⟩,
           ⟨(some 24), none, .inl (.ext 1 (.t 19))⟩,
           ⟨(some 6), none, .inl (.mv (.t 23))⟩,
           ⟨(some 7), none, .inl (.mv (.t 24))⟩])
        (.keep [0, 4, 5, 6, 7]))
        (.seq (.seq (.seq (.reg [⟨(some 25), none, .inl (.mv (.t 7))⟩,
            ⟨(some 26), none, .inl (.un .not (.t 25))⟩])
         (.keep [0, 4, 5, 6, 26]))
         (.cond (.t 26)
           (.seq (.seq (.reg [⟨(some 2), none, .inl (.mv (.c .nils))⟩,
               ⟨(some 3), none, .inl (.mv (.c (.bool false)))⟩])
            (.keep [2, 3]))
            (.ret))
           (.skip)))
         (.seq (.reg [⟨(some 27), none, .inl (.mv (.t 4))⟩,
             ⟨(some 28), none, .inl (.mv (.t 6))⟩,
             ⟨(some 29), none, .inr (.bslice 1 [(.int .i64 0)] 1 [(0, (.t 28))])⟩,
             ⟨(some 30), none, .inr (.append 1 8 (.t 27) (.t 29))⟩,
             ⟨(some 4), none, .inl (.mv (.t 30))⟩])
          (.keep [0, 4, 5])))))
        (.seq (.reg [⟨(some 17), none, .inl (.mv (.t 5))⟩,
            ⟨(some 18), none, .inl (.bin .add (.t 17) (.c (.int .i64 1)))⟩,
            ⟨(some 5), none, .inl (.mv (.t 18))⟩])
         (.keep [0, 4, 5])))))))
      (.seq (.seq (.reg [⟨(some 31), none, .inl (.mv (.t 4))⟩,
          ⟨(some 2), none, .inl (.mv (.t 31))⟩,
          ⟨(some 3), none, .inl (.mv (.c (.bool true)))⟩])
       (.keep [2, 3]))
       (.ret)))))
def fc_joistref01_All : FC := ⟨32, cmd_joistref01_All, [.t 2, .t 3]⟩
theorem fc_joistref01_All_ok : compF Try.prog 27 [[0], [0, 11], [2, 3], [0, 4], [0, 4, 5], [0, 4, 5], [0, 4, 5, 16], [0, 4, 5, 6, 7], [0, 4, 5, 6, 26], [2, 3], [0, 4, 5], [0, 4, 5], [2, 3]] = some fc_joistref01_All := by kernel_rfl
/-- joist/super.names -/
abbrev F.super_names : Nat := 28
def cmd_super_names : Cmd :=
  .seq (.seq (.reg [⟨(some 0), none, .inr (.alloc [(.str []), (.str []), (.str []), (.str []), (.str [])])⟩])
   (.keep [0]))
   (.seq (.seq (.reg [⟨(some 1), none, .inl (.build [(.str []), (.str []), (.str []), (.str []), (.str [])] [(1, 1, (.c (.str [111, 110, 101]))), (2, 1, (.c (.str [116, 119, 111]))), (3, 1, (.c (.str [117, 112]))), (4, 1, (.c (.str [100, 111, 119, 110])))])⟩,
       ⟨none, none, .inr (.store 5 (.t 0) (.t 1))⟩])
    (.keep [0]))
    (.ret))
def fc_super_names : FC := ⟨2, cmd_super_names, [.cell 0 true 5]⟩
theorem fc_super_names_ok : compF Try.prog 28 [[0], [0]] = some fc_super_names := by kernel_rfl
/-- joist/shape.Right -/
abbrev F.shape_Right : Nat := 29
def cmd_shape_Right : Cmd :=
  .seq (.seq (.reg [⟨(some 1), none, .inr (.box 4 (.t 0))⟩,
      ⟨(some 2), none, .inl (.mv (.c (.bool false)))⟩])
   (.keep [1]))
   (.seq (.seq (.reg [⟨(some 6), none, .inl (.load true 4 (.t 1))⟩,
       ⟨(some 7), none, .inr (.call 40 [(.t 6)])⟩,
       ⟨(some 5), none, .inl (.mv (.t 7))⟩,
       ⟨(some 8), none, .inl (.ext 0 (.t 5))⟩,
       ⟨(some 9), none, .inl (.ext 1 (.t 5))⟩,
       ⟨(some 3), none, .inr (.alloc [(.int .i64 0), (.int .i64 0), (.int .i64 0), (.int .i64 0), (.int .i64 0), (.int .i64 0), (.int .i64 0), (.int .i64 0), (.int .i64 0)])⟩,
       ⟨none, none, .inr (.store 9 (.t 3) (.t 8))⟩,
       ⟨(some 4), none, .inl (.mv (.t 9))⟩])
    (.keep [3, 4]))
    (.seq (.seq (.reg [⟨(some 10), none, .inl (.mv (.t 4))⟩,
        ⟨(some 11), none, .inl (.bin .eql (.t 10) (.c (.int .i64 0)))⟩,
        ⟨(some 12), none, .inl (.mv (.t 11))⟩,
        ⟨(some 13), (some (12, true)), .inl (.load true 9 (.t 3))⟩,
        ⟨(some 14), (some (12, true)), .inl (.build [(.int .i64 0), (.int .i64 0), (.int .i64 0), (.int .i64 0), (.int .i64 0), (.int .i64 0), (.int .i64 0), (.int .i64 0), (.int .i64 0)] [])⟩,
        ⟨(some 15), (some (12, true)), .inl (.eqagg true [0, 0, 0, 0, 0, 0, 0, 0, 0] (.t 13) (.t 14))⟩,
        ⟨(some 16), none, .inl (.pick (.t 12) (.t 15) (.c (.bool false)))⟩,
        ⟨(some 2), none, .inl (.mv (.t 16))⟩])
     (.keep [2]))
     (.ret)))
def fc_shape_Right : FC := ⟨17, cmd_shape_Right, [.t 2]⟩
theorem fc_shape_Right_ok : compF Try.prog 29 [[1], [3, 4], [2]] = some fc_shape_Right := by kernel_rfl
/-- joist/joistref16.Right -/
abbrev F.joistref16_Right : Nat := 30
def cmd_joistref16_Right : Cmd :=
  .seq (.seq (.reg [⟨(some 1), none, .inr (.box 4 (.t 0))⟩,
      ⟨(some 2), none, .inl (.mv (.c (.bool false)))⟩])
   (.keep [1]))
   (.seq (.seq (.seq (.reg [⟨(some 3), none, .inl (.faddr 0 (.t 1))⟩,
       ⟨(some 4), none, .inl (.load false 1 (.t 3))⟩,
       ⟨(some 5), none, .inl (.bin .lss (.t 4) (.c (.int .i64 1)))⟩,
       ⟨(some 6), none, .inl (.mv (.t 5))⟩,
       ⟨(some 7), (some (6, false)), .inl (.faddr 0 (.t 1))⟩,
       ⟨(some 8), (some (6, false)), .inl (.load false 1 (.t 7))⟩,
       ⟨(some 9), (some (6, false)), .inl (.bin .gtr (.t 8) (.c (.int .i64 64)))⟩,
       ⟨(some 10), none, .inl (.pick (.t 6) (.c (.bool true)) (.t 9))⟩,
       ⟨(some 11), none, .inl (.mv (.t 10))⟩,
       ⟨(some 12), (some (11, false)), .inl (.faddr 1 (.t 1))⟩,
       ⟨(some 13), (some (11, false)), .inl (.load false 1 (.t 12))⟩,
       ⟨(some 14), (some (11, false)), .inl (.bin .lss (.t 13) (.c (.int .i64 2)))⟩,
       ⟨(some 15), none, .inl (.pick (.t 11) (.c (.bool true)) (.t 14))⟩,
       ⟨(some 16), none, .inl (.mv (.t 15))⟩,
       ⟨(some 17), (some (16, false)), .inl (.faddr 1 (.t 1))⟩,
       ⟨(some 18), (some (16, false)), .inl (.load false 1 (.t 17))⟩,
       ⟨(some 19), (some (16, false)), .inl (.bin .gtr (.t 18) (.c (.int .i64 32)))⟩,
       ⟨(some 20), none, .inl (.pick (.t 16) (.c (.bool true)) (.t 19))⟩,
       ⟨(some 21), none, .inl (.mv (.t 20))⟩,
       ⟨(some 22), (some (21, false)), .inl (.faddr 1 (.t 1))⟩,
       ⟨(some 23), (some (21, false)), .inl (.load false 1 (.t 22))⟩,
       ⟨(some 24), (some (21, false)), .inl (.bin .rem (.t 23) (.c (.int .i64 2)))⟩,
       ⟨(some 25), (some (21, false)), .inl (.bin .eql (.t 24) (.c (.int .i64 1)))⟩,
       ⟨(some 26), none, .inl (.pick (.t 21) (.c (.bool true)) (.t 25))⟩,
       ⟨(some 27), none, .inl (.mv (.t 26))⟩,
       ⟨(some 28), (some (27, false)), .inl (.faddr 2 (.t 1))⟩,
       ⟨(some 29), (some (27, false)), .inl (.load false 1 (.t 28))⟩,
       ⟨(some 30), (some (27, false)), .inl (.bin .lss (.t 29) (.c (.int .i64 2)))⟩,
       ⟨(some 31), none, .inl (.pick (.t 27) (.c (.bool true)) (.t 30))⟩,
       ⟨(some 32), none, .inl (.mv (.t 31))⟩,
       ⟨(some 33), (some (32, false)), .inl (.faddr 2 (.t 1))⟩,
       ⟨(some 34), (some (32, false)), .inl (.load false 1 (.t 33))⟩,
       ⟨(some 35), (some (32, false)), .inl (.bin .gtr (.t 34) (.c (.int .i64 8)))⟩,
       ⟨(some 36), none, .inl (.pick (.t 32) (.c (.bool true)) (.t 35))⟩,
       ⟨(some 37), none, .inl (.mv (.t 36))⟩,
       ⟨(some 38), (some (37, false)), .inl (.faddr 2 (.t 1))⟩,
       ⟨(some 39), (some (37, false)), .inl (.load false 1 (.t 38))⟩,
       ⟨(some 40), (some (37, false)), .inl (.bin .rem (.t 39) (.c (.int .i64 2)))⟩,
       ⟨(some 41), (some (37, false)), .inl (.bin .eql (.t 40) (.c (.int .i64 1)))⟩,
       ⟨(some 42), none, .inl (.pick (.t 37) (.c (.bool true)) (.t 41))⟩,
       ⟨(some 43), none, .inl (.mv (.t 42))⟩,
       ⟨(some 44), (some (43, false)), .inl (.faddr 3 (.t 1))⟩,
       ⟨(some 45), (some (43, false)), .inl (.load false 1 (.t 44))⟩,
       ⟨(some 46), (some (43, false)), .inl (.bin .lss (.t 45) (.c (.int .i64 1)))⟩,
       ⟨(some 47), none, .inl (.pick (.t 43) (.c (.bool true)) (.t 46))⟩,
       ⟨(some 48), none, .inl (.mv (.t 47))⟩,
       ⟨(some 49), (some (48, false)), .inl (.faddr 3 (.t 1))⟩,
       ⟨(some 50), (some (48, false)), .inl (.load false 1 (.t 49))⟩,
       ⟨(some 51), (some (48, false)), .inl (.bin .gtr (.t 50) (.c (.int .i64 4096)))⟩,
       ⟨(some 52), none, .inl (.pick (.t 48) (.c (.bool true)) (.t 51))⟩])
    (.keep [1, 52]))
    (.cond (.t 52)
      (.seq (.seq (.reg [⟨(some 2), none, .inl (.mv (.c (.bool false)))⟩])
       (.keep [2]))
       (.ret))
      (.skip)))
    (.seq (.seq (.reg [⟨(some 53), none, .inl (.load true 4 (.t 1))⟩,
        ⟨(some 54), none, .inr (.call 41 [(.t 53)])⟩,
        ⟨(some 55), none, .inl (.fld false 8 1 (.t 54))⟩,
        ⟨(some 56), none, .inl (.bin .leq (.t 55) (.c (.int .i64 4096)))⟩,
        ⟨(some 2), none, .inl (.mv (.t 56))⟩])
     (.keep [2]))
     (.ret)))
def fc_joistref16_Right : FC := ⟨57, cmd_joistref16_Right, [.t 2]⟩
theorem fc_joistref16_Right_ok : compF Try.prog 30 [[1], [1, 52], [2], [2]] = some fc_joistref16_Right := by kernel_rfl
/-- joist/words.may -/
abbrev F.words_may : Nat := 31
def cmd_words_may : Cmd :=
  .seq (.seq (.reg [⟨(some 2), none, .inl (.mv (.c (.bool false)))⟩])
   (.keep [0]))
   (.seq (.seq (.reg [⟨(some 3), none, .inl (.mv (.t 0))⟩,
       ⟨(some 4), none, .inl (.bin .geq (.t 3) (.c (.int .i64 0)))⟩,
       ⟨(some 5), none, .inl (.mv (.t 4))⟩,
       ⟨(some 6), (some (5, true)), .inl (.mv (.t 0))⟩,
       ⟨(some 7), (some (5, true)), .inl (.bin .leq (.t 6) (.c (.int .i64 4611686018427387903)))⟩,
       ⟨(some 8), none, .inl (.pick (.t 5) (.t 7) (.c (.bool false)))⟩,
       ⟨(some 2), none, .inl (.mv (.t 8))⟩])
    (.keep [2]))
    (.ret))
def fc_words_may : FC := ⟨9, cmd_words_may, [.t 2]⟩
theorem fc_words_may_ok : compF Try.prog 31 [[0], [2]] = some fc_words_may := by kernel_rfl
/-- joist/words.write -/
abbrev F.words_write : Nat := 32
def cmd_words_write : Cmd :=
  .seq (.seq (.reg [⟨(some 5), none, .inl (.mv (.c (.int .i64 0)))⟩])
   (.keep [0, 1, 5]))
   (.block 0 (.loop [0, 1, 5] (.seq (.seq (.reg [⟨(some 6), none, .inl (.bin .lss (.t 5) (.c (.int .i64 8)))⟩])
    (.keep [0, 1, 5, 6]))
    (.seq (.cond (.t 6)
      (.skip)
      (.exit 0))
     (.seq (.block 1 (.seq (.seq (.reg [⟨(some 7), none, .inl (.mv (.t 5))⟩,
         ⟨(some 4), none, .inl (.mv (.t 7))⟩])
      (.keep [0, 1, 4, 5]))
      (.seq (.reg [⟨(some 8), none, .inl (.mv (.t 0))⟩,
          ⟨(some 9), none, .inl (.mv (.t 4))⟩,
          ⟨(some 10), none, .inl (.mv (.t 1))⟩,
          ⟨(some 11), none, .inl (.mv (.t 4))⟩,
          ⟨(some 12), none, .inl (.bin .mul (.c (.int .i64 8)) (.t 11))⟩,
          ⟨(some 13), none, .inl (.bin .shr (.t 10) (.t 12))⟩,
          ⟨(some 14), none, .inl (.conv .u8 (.t 13))⟩,
          ⟨(some 15), none, .inl (.iaddr 1 (.t 8) (.t 9))⟩,
          ⟨none, none, .inr (.store 1 (.t 15) (.t 14))⟩])
       (.keep [0, 1, 5]))))
      (.seq (.reg [⟨(some 16), none, .inl (.bin .add (.t 5) (.c (.int .i64 1)))⟩,
          ⟨(some 5), none, .inl (.mv (.t 16))⟩])
       (.keep [0, 1, 5])))))))
def fc_words_write : FC := ⟨17, cmd_words_write, []⟩
theorem fc_words_write_ok : compF Try.prog 32 [[0, 1, 5], [0, 1, 5], [0, 1, 5, 6], [0, 1, 4, 5], [0, 1, 5], [0, 1, 5]] = some fc_words_write := by kernel_rfl
/-- joist/words.place -/
abbrev F.words_place : Nat := 33
def cmd_words_place : Cmd :=
  .seq (.seq (.reg [⟨(some 4), none, .inl (.mv (.c .nils))⟩])
   (.keep [0, 1]))
   (.seq (.seq (.seq (.reg [⟨(some 6), none, .inl (.mv (.t 1))⟩,
       ⟨(some 7), none, .inl (.bin .lss (.t 6) (.c (.int .i64 0)))⟩,
       ⟨(some 8), none, .inl (.mv (.t 7))⟩,
       ⟨(some 9), (some (8, false)), .inl (.mv (.t 1))⟩,
       ⟨(some 10), (some (8, false)), .inl (.mv (.t 0))⟩,
       ⟨(some 11), (some (8, false)), .inl (.len (.t 10))⟩,
       ⟨(some 12), (some (8, false)), .inl (.bin .quo (.t 11) (.c (.int .i64 8)))⟩,
       ⟨(some 13), (some (8, false)), .inl (.bin .geq (.t 9) (.t 12))⟩,
       ⟨(some 14), none, .inl (.pick (.t 8) (.c (.bool true)) (.t 13))⟩])
    (.keep [0, 1, 14]))
    (.cond (.t 14)
      (.seq (.seq (.reg [⟨(some 4), none, .inl (.mv (.c .nils))⟩])
       (.keep [4]))
       (.ret))
      (.skip)))
    (.seq (.seq (.reg [⟨(some 15), none, .inl (.mv (.t 1))⟩,
        ⟨(some 16), none, .inl (.bin .mul (.t 15) (.c (.int .i64 8)))⟩,
        ⟨(some 5), none, .inl (.mv (.t 16))⟩])
     (.keep [0, 5]))
     (.seq (.seq (.reg [⟨(some 17), none, .inl (.mv (.t 0))⟩,
         ⟨(some 18), none, .inl (.mv (.t 5))⟩,
         ⟨(some 19), none, .inl (.mv (.t 5))⟩,
         ⟨(some 20), none, .inl (.bin .add (.t 19) (.c (.int .i64 8)))⟩,
         ⟨(some 21), none, .inl (.slice 1 (.t 17) (some (.t 18)) (some (.t 20)) none)⟩,
         ⟨(some 4), none, .inl (.mv (.t 21))⟩])
      (.keep [4]))
      (.ret))))
def fc_words_place : FC := ⟨22, cmd_words_place, [.t 4]⟩
theorem fc_words_place_ok : compF Try.prog 33 [[0, 1], [0, 1, 14], [4], [0, 5], [4]] = some fc_words_place := by kernel_rfl
/-- joist/crc.Sum -/
abbrev F.crc_Sum : Nat := 34
def cmd_crc_Sum : Cmd :=
  .seq (.seq (.reg [⟨(some 2), none, .inl (.mv (.c (.int .i64 0)))⟩])
   (.keep [0]))
   (.seq (.seq (.reg [⟨(some 3), none, .inl (.mv (.t 0))⟩,
       ⟨(some 4), none, .inr (.call 42 [(.c (.int .u32 4294967295)), (.t 3)])⟩,
       ⟨(some 5), none, .inl (.un .xor (.t 4))⟩,
       ⟨(some 6), none, .inl (.conv .i64 (.t 5))⟩,
       ⟨(some 2), none, .inl (.mv (.t 6))⟩])
    (.keep [2]))
    (.ret))
def fc_crc_Sum : FC := ⟨7, cmd_crc_Sum, [.t 2]⟩
theorem fc_crc_Sum_ok : compF Try.prog 34 [[0], [2]] = some fc_crc_Sum := by kernel_rfl
/-- bytes.Clone -/
abbrev F.bytes_Clone : Nat := 35
def cmd_bytes_Clone : Cmd :=
  .seq (.seq (.reg [⟨(some 2), none, .inl (.mv (.c .nils))⟩])
   (.keep [0]))
   (.seq (.seq (.seq (.reg [⟨(some 3), none, .inl (.mv (.t 0))⟩,
       ⟨(some 4), none, .inl (.eqnil false (.t 3))⟩])
    (.keep [0, 4]))
    (.cond (.t 4)
      (.seq (.seq (.reg [⟨(some 2), none, .inl (.mv (.c .nils))⟩])
       (.keep [2]))
       (.ret))
      (.skip)))
    (.seq (.seq (.reg [⟨(some 5), none, .inr (.bslice 1 [(.int .u8 0)] 0 [])⟩,
        ⟨(some 6), none, .inl (.mv (.t 0))⟩,
        ⟨(some 7), none, .inr (.append 1 1 (.t 5) (.t 6))⟩,
        ⟨(some 2), none, .inl (.mv (.t 7))⟩])
     (.keep [2]))
     (.ret)))
def fc_bytes_Clone : FC := ⟨8, cmd_bytes_Clone, [.t 2]⟩
theorem fc_bytes_Clone_ok : compF Try.prog 35 [[0], [0, 4], [2], [2]] = some fc_bytes_Clone := by kernel_rfl
/-- joist/words.read -/
abbrev F.words_read : Nat := 36
def cmd_words_read : Cmd :=
  .seq (.seq (.reg [⟨(some 2), none, .inl (.mv (.c (.int .i64 0)))⟩,
      ⟨(some 3), none, .inl (.mv (.c (.bool false)))⟩])
   (.keep [0, 2]))
   (.seq (.seq (.seq (.reg [⟨(some 5), none, .inl (.mv (.t 0))⟩,
       ⟨(some 6), none, .inl (.iaddr 1 (.t 5) (.c (.int .i64 7)))⟩,
       ⟨(some 7), none, .inl (.load false 1 (.t 6))⟩,
       ⟨(some 8), none, .inl (.bin .geq (.t 7) (.c (.int .u8 64)))⟩])
    (.keep [0, 2, 8]))
    (.cond (.t 8)
      (.seq (.seq (.reg [⟨(some 2), none, .inl (.mv (.c (.int .i64 0)))⟩,
          ⟨(some 3), none, .inl (.mv (.c (.bool false)))⟩])
       (.keep [2, 3]))
       (.ret))
      (.skip)))
    (.seq (.seq (.seq (.reg [⟨(some 9), none, .inl (.mv (.c (.int .i64 0)))⟩])
     (.keep [0, 2, 9]))
     (.block 0 (.loop [0, 2, 9] (.seq (.seq (.reg [⟨(some 10), none, .inl (.bin .lss (.t 9) (.c (.int .i64 8)))⟩])
      (.keep [0, 2, 9, 10]))
      (.seq (.cond (.t 10)
        (.skip)
        (.exit 0))
       (.seq (.block 1 (.seq (.seq (.reg [⟨(some 11), none, .inl (.mv (.t 9))⟩,
           ⟨(some 4), none, .inl (.mv (.t 11))⟩])
        (.keep [0, 2, 4, 9]))
        (.seq (.reg [⟨(some 12), none, .inl (.mv (.t 2))⟩,
            ⟨(some 13), none, .inl (.bin .shl (.t 12) (.c (.int .u64 8)))⟩,
            ⟨(some 14), none, .inl (.mv (.t 0))⟩,
            ⟨(some 15), none, .inl (.mv (.t 4))⟩,
            ⟨(some 16), none, .inl (.bin .sub (.c (.int .i64 7)) (.t 15))⟩,
            ⟨(some 17), none, .inl (.iaddr 1 (.t 14) (.t 16))⟩,
            ⟨(some 18), none, .inl (.load false 1 (.t 17))⟩,
            ⟨(some 19), none, .inl (.conv .i64 (.t 18))⟩,
            ⟨(some 20), none, .inl (.bin .or (.t 13) (.t 19))⟩,
            ⟨(some 2), none, .inl (.mv (.t 20))⟩])
         (.keep [0, 2, 9]))))
        (.seq (.reg [⟨(some 21), none, .inl (.bin .add (.t 9) (.c (.int .i64 1)))⟩,
            ⟨(some 9), none, .inl (.mv (.t 21))⟩])
         (.keep [0, 2, 9]))))))))
     (.seq (.seq (.reg [⟨(some 22), none, .inl (.mv (.t 2))⟩,
         ⟨(some 2), none, .inl (.mv (.t 22))⟩,
         ⟨(some 3), none, .inl (.mv (.c (.bool true)))⟩])
      (.keep [2, 3]))
      (.ret))))
def fc_words_read : FC := ⟨23, cmd_words_read, [.t 2, .t 3]⟩
theorem fc_words_read_ok : compF Try.prog 36 [[0, 2], [0, 2, 8], [2, 3], [0, 2, 9], [0, 2, 9], [0, 2, 9, 10], [0, 2, 4, 9], [0, 2, 9], [0, 2, 9], [2, 3]] = some fc_words_read := by kernel_rfl
/-- joist/joistref01.Bytes -/
abbrev F.joistref01_Bytes : Nat := 37
def cmd_joistref01_Bytes : Cmd :=
  .seq (.seq (.reg [⟨(some 2), none, .inl (.mv (.c .nils))⟩])
   (.keep [0]))
   (.seq (.seq (.reg [⟨(some 3), none, .inl (.mv (.c .nils))⟩])
    (.keep [0, 3]))
    (.seq (.seq (.seq (.reg [⟨(some 4), none, .inl (.mv (.c (.int .i64 0)))⟩])
     (.keep [0, 3, 4]))
     (.block 0 (.loop [0, 3, 4] (.seq (.seq (.seq (.reg [⟨(some 5), none, .inl (.mv (.t 4))⟩,
         ⟨(some 6), none, .inl (.bin .lss (.t 5) (.c (.int .i64 8)))⟩])
      (.keep [0, 3, 4, 6]))
      (.cond (.t 6)
        (.skip)
        (.exit 0)))
      (.seq (.block 1 (.seq (.seq (.reg [⟨(some 9), none, .inl (.mv (.t 3))⟩,
          ⟨(some 10), none, .inl (.mv (.t 0))⟩,
          ⟨(some 11), none, .inl (.conv .u8 (.t 10))⟩,
          ⟨(some 12), none, .inr (.bslice 1 [(.int .u8 0)] 1 [(0, (.t 11))])⟩,
          ⟨(some 13), none, .inr (.append 1 1 (.t 9) (.t 12))⟩,
          ⟨(some 3), none, .inl (.mv (.t 13))⟩])
       (.keep [0, 3, 4]))
       (.seq (.reg [⟨(some 14), none, .inl (.mv (.t 0))⟩,
           ⟨(some 15), none, .inl (.bin .quo (.t 14) (.c (.int .i64 256)))⟩,
           ⟨(some 0), none, .inl (.mv (.t 15))⟩])
        (.keep [0, 3, 4]))))
       (.seq (.reg [⟨(some 7), none, .inl (.mv (.t 4))⟩,
           ⟨(some 8), none, .inl (.bin .add (.t 7) (.c (.int .i64 1)))⟩,
           ⟨(some 4), none, .inl (.mv (.t 8))⟩])
        (.keep [0, 3, 4])))))))
     (.seq (.seq (.reg [⟨(some 16), none, .inl (.mv (.t 3))⟩,
         ⟨(some 2), none, .inl (.mv (.t 16))⟩])
      (.keep [2]))
      (.ret))))
def fc_joistref01_Bytes : FC := ⟨17, cmd_joistref01_Bytes, [.t 2]⟩
theorem fc_joistref01_Bytes_ok : compF Try.prog 37 [[0], [0, 3], [0, 3, 4], [0, 3, 4], [0, 3, 4, 6], [0, 3, 4], [0, 3, 4], [0, 3, 4], [2]] = some fc_joistref01_Bytes := by kernel_rfl
/-- joist/joistref02.Sum -/
abbrev F.joistref02_Sum : Nat := 38
def cmd_joistref02_Sum : Cmd :=
  .seq (.seq (.reg [⟨(some 2), none, .inl (.mv (.c (.int .i64 0)))⟩])
   (.keep [0]))
   (.seq (.seq (.reg [⟨(some 3), none, .inl (.mv (.t 0))⟩,
       ⟨(some 4), none, .inr (.call 43 [(.c (.int .i64 4294967295)), (.t 3)])⟩,
       ⟨(some 5), none, .inl (.bin .xor (.c (.int .i64 4294967295)) (.t 4))⟩,
       ⟨(some 2), none, .inl (.mv (.t 5))⟩])
    (.keep [2]))
    (.ret))
def fc_joistref02_Sum : FC := ⟨6, cmd_joistref02_Sum, [.t 2]⟩
theorem fc_joistref02_Sum_ok : compF Try.prog 38 [[0], [2]] = some fc_joistref02_Sum := by kernel_rfl
/-- joist/joistref01.Get -/
abbrev F.joistref01_Get : Nat := 39
def cmd_joistref01_Get : Cmd :=
  .seq (.seq (.reg [⟨(some 4), none, .inl (.mv (.c (.int .i64 0)))⟩,
      ⟨(some 5), none, .inl (.mv (.c (.bool false)))⟩])
   (.keep [0, 1]))
   (.seq (.seq (.seq (.reg [⟨(some 9), none, .inl (.mv (.t 1))⟩,
       ⟨(some 10), none, .inl (.bin .lss (.t 9) (.c (.int .i64 0)))⟩,
       ⟨(some 11), none, .inl (.mv (.t 10))⟩,
       ⟨(some 12), (some (11, false)), .inl (.mv (.t 1))⟩,
       ⟨(some 13), (some (11, false)), .inl (.mv (.t 0))⟩,
       ⟨(some 14), (some (11, false)), .inl (.len (.t 13))⟩,
       ⟨(some 15), (some (11, false)), .inl (.bin .quo (.t 14) (.c (.int .i64 8)))⟩,
       ⟨(some 16), (some (11, false)), .inl (.bin .geq (.t 12) (.t 15))⟩,
       ⟨(some 17), none, .inl (.pick (.t 11) (.c (.bool true)) (.t 16))⟩])
    (.keep [0, 1, 17]))
    (.cond (.t 17)
      (.seq (.seq (.reg [⟨(some 4), none, .inl (.mv (.c (.int .i64 0)))⟩,
          ⟨(some 5), none, .inl (.mv (.c (.bool false)))⟩])
       (.keep [4, 5]))
       (.ret))
      (.skip)))
    (.seq (.seq (.reg [⟨(some 18), none, .inl (.mv (.t 0))⟩,
        ⟨(some 19), none, .inl (.mv (.t 1))⟩,
        ⟨(some 20), none, .inl (.bin .mul (.c (.int .i64 8)) (.t 19))⟩,
        ⟨(some 21), none, .inl (.mv (.t 1))⟩,
        ⟨(some 22), none, .inl (.bin .mul (.c (.int .i64 8)) (.t 21))⟩,
        ⟨(some 23), none, .inl (.bin .add (.t 22) (.c (.int .i64 8)))⟩,
        ⟨(some 24), none, .inl (.slice 1 (.t 18) (some (.t 20)) (some (.t 23)) none)⟩,
        ⟨(some 6), none, .inl (.mv (.t 24))⟩])
     (.keep [6]))
     (.seq (.seq (.seq (.reg [⟨(some 25), none, .inl (.mv (.t 6))⟩,
         ⟨(some 26), none, .inl (.iaddr 1 (.t 25) (.c (.int .i64 7)))⟩,
         ⟨(some 27), none, .inl (.load false 1 (.t 26))⟩,
         ⟨(some 28), none, .inl (.bin .geq (.t 27) (.c (.int .u8 64)))⟩])
      (.keep [6, 28]))
      (.cond (.t 28)
        (.seq (.seq (.reg [⟨(some 4), none, .inl (.mv (.c (.int .i64 0)))⟩,
            ⟨(some 5), none, .inl (.mv (.c (.bool false)))⟩])
         (.keep [4, 5]))
         (.ret))
        (.skip)))
      (.seq (.seq (.reg [⟨(some 7), none, .inl (.mv (.c (.int .i64 0)))⟩])
       (.keep [6, 7]))
       (.seq (.seq (.seq (.reg [⟨(some 8), none, .inl (.mv (.c (.int .i64 7)))⟩])
        (.keep [6, 7, 8]))
        (.block 0 (.loop [6, 7, 8] (.seq (.seq (.seq (.reg [⟨(some 29), none, .inl (.mv (.t 8))⟩,
            ⟨(some 30), none, .inl (.bin .geq (.t 29) (.c (.int .i64 0)))⟩])
         (.keep [6, 7, 8, 30]))
         (.cond (.t 30)
           (.skip)
           (.exit 0)))
         (.seq (.block 1 (.seq (.reg [⟨(some 33), none, .inl (.mv (.t 7))⟩,
             ⟨(some 34), none, .inl (.bin .mul (.t 33) (.c (.int .i64 256)))⟩,
             ⟨(some 35), none, .inl (.mv (.t 6))⟩,
             ⟨(some 36), none, .inl (.mv (.t 8))⟩,
             ⟨(some 37), none, .inl (.iaddr 1 (.t 35) (.t 36))⟩,
             ⟨(some 38), none, .inl (.load false 1 (.t 37))⟩,
             ⟨(some 39), none, .inl (.conv .i64 (.t 38))⟩,
             ⟨(some 40), none, .inl (.bin .add (.t 34) (.t 39))⟩,
             ⟨(some 7), none, .inl (.mv (.t 40))⟩])
          (.keep [6, 7, 8])))
          (.seq (.reg [⟨(some 31), none, .inl (.mv (.t 8))⟩,
              ⟨(some 32), none, .inl (.bin .sub (.t 31) (.c (.int .i64 1)))⟩,
              ⟨(some 8), none, .inl (.mv (.t 32))⟩])
           (.keep [6, 7, 8])))))))
        (.seq (.seq (.reg [⟨(some 41), none, .inl (.mv (.t 7))⟩,
            ⟨(some 4), none, .inl (.mv (.t 41))⟩,
            ⟨(some 5), none, .inl (.mv (.c (.bool true)))⟩])
         (.keep [4, 5]))
         (.ret)))))))
def fc_joistref01_Get : FC := ⟨42, cmd_joistref01_Get, [.t 4, .t 5]⟩
theorem fc_joistref01_Get_ok : compF Try.prog 39 [[0, 1], [0, 1, 17], [4, 5], [6], [6, 28], [4, 5], [6, 7], [6, 7, 8], [6, 7, 8], [6, 7, 8, 30], [6, 7, 8], [6, 7, 8], [4, 5]] = some fc_joistref01_Get := by kernel_rfl
/-- joist/shape.Areas -/
abbrev F.shape_Areas : Nat := 40
def cmd_shape_Areas : Cmd :=
  .seq (.seq (.reg [⟨(some 1), none, .inr (.box 4 (.t 0))⟩,
      ⟨(some 2), none, .inr (.alloc [(.int .i64 0), (.int .i64 0), (.int .i64 0), (.int .i64 0), (.int .i64 0), (.int .i64 0), (.int .i64 0), (.int .i64 0), (.int .i64 0)])⟩,
      ⟨(some 3), none, .inl (.mv (.c (.int .i64 0)))⟩])
   (.keep [1, 2]))
   (.seq (.seq (.seq (.reg [⟨(some 5), none, .inl (.load true 4 (.t 1))⟩,
       ⟨(some 6), none, .inr (.call 44 [(.t 5)])⟩,
       ⟨(some 7), none, .inl (.un .not (.t 6))⟩])
    (.keep [1, 2, 7]))
    (.cond (.t 7)
      (.seq (.seq (.reg [⟨(some 8), none, .inl (.build [(.int .i64 0), (.int .i64 0), (.int .i64 0), (.int .i64 0), (.int .i64 0), (.int .i64 0), (.int .i64 0), (.int .i64 0), (.int .i64 0)] [])⟩,
          ⟨none, none, .inr (.store 9 (.t 2) (.t 8))⟩,
          ⟨(some 3), none, .inl (.mv (.c (.int .i64 1)))⟩])
       (.keep [2, 3]))
       (.ret))
      (.skip)))
    (.seq (.seq (.reg [⟨(some 9), none, .inl (.load true 4 (.t 1))⟩,
        ⟨(some 10), none, .inr (.call 45 [(.t 9)])⟩,
        ⟨(some 4), none, .inr (.alloc [(.int .i64 0), (.int .i64 0), (.int .i64 0), (.int .i64 0), (.int .i64 0), (.int .i64 0), (.int .i64 0), (.int .i64 0), (.int .i64 0)])⟩,
        ⟨none, none, .inr (.store 9 (.t 4) (.t 10))⟩])
     (.keep [2, 4]))
     (.seq (.seq (.seq (.reg [⟨(some 11), none, .inl (.faddr 8 (.t 4))⟩,
         ⟨(some 12), none, .inl (.load false 1 (.t 11))⟩,
         ⟨(some 13), none, .inl (.bin .gtr (.t 12) (.c (.int .i64 4096)))⟩,
         ⟨(some 14), none, .inl (.mv (.t 13))⟩,
         ⟨(some 15), (some (14, false)), .inl (.faddr 0 (.t 4))⟩,
         ⟨(some 16), (some (14, false)), .inl (.load true 3 (.t 15))⟩,
         ⟨(some 17), (some (14, false)), .inl (.faddr 8 (.t 4))⟩,
         ⟨(some 18), (some (14, false)), .inl (.load false 1 (.t 17))⟩,
         ⟨(some 19), (some (14, false)), .inr (.call 46 [(.t 16), (.t 18)])⟩,
         ⟨(some 20), (some (14, false)), .inl (.un .not (.t 19))⟩,
         ⟨(some 21), none, .inl (.pick (.t 14) (.c (.bool true)) (.t 20))⟩])
      (.keep [2, 4, 21]))
      (.cond (.t 21)
        (.seq (.seq (.reg [⟨(some 22), none, .inl (.build [(.int .i64 0), (.int .i64 0), (.int .i64 0), (.int .i64 0), (.int .i64 0), (.int .i64 0), (.int .i64 0), (.int .i64 0), (.int .i64 0)] [])⟩,
            ⟨none, none, .inr (.store 9 (.t 2) (.t 22))⟩,
            ⟨(some 3), none, .inl (.mv (.c (.int .i64 1)))⟩])
         (.keep [2, 3]))
         (.ret))
        (.skip)))
      (.seq (.seq (.reg [⟨(some 23), none, .inl (.load true 9 (.t 4))⟩,
          ⟨none, none, .inr (.store 9 (.t 2) (.t 23))⟩,
          ⟨(some 3), none, .inl (.mv (.c (.int .i64 0)))⟩])
       (.keep [2, 3]))
       (.ret)))))
def fc_shape_Areas : FC := ⟨24, cmd_shape_Areas, [.cell 2 true 9, .t 3]⟩
theorem fc_shape_Areas_ok : compF Try.prog 40 [[1, 2], [1, 2, 7], [2, 3], [2, 4], [2, 4, 21], [2, 3], [2, 3]] = some fc_shape_Areas := by kernel_rfl
/-- joist/joistref16.areas -/
abbrev F.joistref16_areas : Nat := 41
def cmd_joistref16_areas : Cmd :=
  .seq (.seq (.reg [⟨(some 1), none, .inr (.box 4 (.t 0))⟩,
      ⟨(some 2), none, .inr (.alloc [(.int .i64 0), (.int .i64 0), (.int .i64 0), (.int .i64 0), (.int .i64 0), (.int .i64 0), (.int .i64 0), (.int .i64 0), (.int .i64 0)])⟩])
   (.keep [1, 2]))
   (.seq (.seq (.reg [⟨(some 4), none, .inl (.faddr 3 (.t 1))⟩,
       ⟨(some 5), none, .inl (.load false 1 (.t 4))⟩,
       ⟨(some 6), none, .inl (.build [(.int .i64 0), (.int .i64 0), (.int .i64 0)] [(0, 1, (.c (.int .i64 1))), (1, 1, (.c (.int .i64 2))), (2, 1, (.t 5))])⟩,
       ⟨(some 7), none, .inl (.build [(.int .i64 0), (.int .i64 0), (.int .i64 0), (.int .i64 0), (.int .i64 0), (.int .i64 0), (.int .i64 0), (.int .i64 0), (.int .i64 0)] [(0, 3, (.t 6))])⟩,
       ⟨(some 3), none, .inr (.alloc [(.int .i64 0), (.int .i64 0), (.int .i64 0), (.int .i64 0), (.int .i64 0), (.int .i64 0), (.int .i64 0), (.int .i64 0), (.int .i64 0)])⟩,
       ⟨none, none, .inr (.store 9 (.t 3) (.t 7))⟩])
    (.keep [1, 2, 3]))
    (.seq (.seq (.reg [⟨(some 8), none, .inl (.faddr 3 (.t 1))⟩,
        ⟨(some 9), none, .inl (.load false 1 (.t 8))⟩,
        ⟨(some 10), none, .inl (.bin .mul (.c (.int .i64 2)) (.t 9))⟩,
        ⟨(some 11), none, .inl (.bin .add (.c (.int .i64 2)) (.t 10))⟩,
        ⟨(some 12), none, .inl (.faddr 3 (.t 3))⟩,
        ⟨none, none, .inr (.store 1 (.t 12) (.t 11))⟩])
     (.keep [1, 2, 3]))
     (.seq (.seq (.reg [⟨(some 13), none, .inl (.faddr 3 (.t 3))⟩,
         ⟨(some 14), none, .inl (.load false 1 (.t 13))⟩,
         ⟨(some 15), none, .inl (.bin .add (.t 14) (.c (.int .i64 1)))⟩,
         ⟨(some 16), none, .inl (.faddr 4 (.t 3))⟩,
         ⟨none, none, .inr (.store 1 (.t 16) (.t 15))⟩])
      (.keep [1, 2, 3]))
      (.seq (.seq (.reg [⟨(some 17), none, .inl (.faddr 4 (.t 3))⟩,
          ⟨(some 18), none, .inl (.load false 1 (.t 17))⟩,
          ⟨(some 19), none, .inl (.faddr 1 (.t 1))⟩,
          ⟨(some 20), none, .inl (.load false 1 (.t 19))⟩,
          ⟨(some 21), none, .inl (.bin .quo (.t 20) (.c (.int .i64 2)))⟩,
          ⟨(some 22), none, .inl (.bin .add (.t 18) (.t 21))⟩,
          ⟨(some 23), none, .inl (.faddr 5 (.t 3))⟩,
          ⟨none, none, .inr (.store 1 (.t 23) (.t 22))⟩])
       (.keep [1, 2, 3]))
       (.seq (.seq (.reg [⟨(some 24), none, .inl (.faddr 5 (.t 3))⟩,
           ⟨(some 25), none, .inl (.load false 1 (.t 24))⟩,
           ⟨(some 26), none, .inl (.faddr 2 (.t 1))⟩,
           ⟨(some 27), none, .inl (.load false 1 (.t 26))⟩,
           ⟨(some 28), none, .inl (.bin .quo (.t 27) (.c (.int .i64 2)))⟩,
           ⟨(some 29), none, .inl (.bin .add (.t 25) (.t 28))⟩,
           ⟨(some 30), none, .inl (.faddr 6 (.t 3))⟩,
           ⟨none, none, .inr (.store 1 (.t 30) (.t 29))⟩])
        (.keep [1, 2, 3]))
        (.seq (.seq (.ord [⟨0, ⟨(some 31), none, .inl (.faddr 6 (.t 3))⟩, [], true⟩,
            ⟨1, ⟨(some 32), none, .inl (.load false 1 (.t 31))⟩, [], true⟩,
            ⟨2, ⟨(some 33), none, .inr (.call 47 [(.c (.int .i64 64))])⟩, [0, 1], false⟩,
            ⟨3, ⟨(some 34), none, .inl (.bin .mul (.c (.int .i64 2)) (.t 33))⟩, [], false⟩,
            ⟨4, ⟨(some 35), none, .inl (.bin .add (.t 32) (.t 34))⟩, [], false⟩,
            ⟨5, ⟨(some 36), none, .inl (.faddr 7 (.t 3))⟩, [], false⟩,
            ⟨6, ⟨none, none, .inr (.store 1 (.t 36) (.t 35))⟩, [], false⟩])
         (.keep [1, 2, 3]))
         (.seq (.seq (.reg [⟨(some 37), none, .inl (.faddr 7 (.t 3))⟩,
             ⟨(some 38), none, .inl (.load false 1 (.t 37))⟩,
             ⟨(some 39), none, .inl (.faddr 0 (.t 1))⟩,
             ⟨(some 40), none, .inl (.load false 1 (.t 39))⟩,
             ⟨(some 41), none, .inl (.bin .mul (.c (.int .i64 4)) (.t 40))⟩,
             ⟨(some 42), none, .inl (.bin .add (.t 38) (.t 41))⟩,
             ⟨(some 43), none, .inl (.faddr 8 (.t 3))⟩,
             ⟨none, none, .inr (.store 1 (.t 43) (.t 42))⟩])
          (.keep [2, 3]))
          (.seq (.seq (.reg [⟨(some 44), none, .inl (.load true 9 (.t 3))⟩,
              ⟨none, none, .inr (.store 9 (.t 2) (.t 44))⟩])
           (.keep [2]))
           (.ret)))))))))
def fc_joistref16_areas : FC := ⟨45, cmd_joistref16_areas, [.cell 2 true 9]⟩
theorem fc_joistref16_areas_ok : compF Try.prog 41 [[1, 2], [1, 2, 3], [1, 2, 3], [1, 2, 3], [1, 2, 3], [1, 2, 3], [1, 2, 3], [0, 1, 2, 3, 4, 5, 6], [2, 3], [2]] = some fc_joistref16_areas := by kernel_rfl
/-- joist/crc.run -/
abbrev F.crc_run : Nat := 42
def cmd_crc_run : Cmd :=
  .seq (.seq (.reg [⟨(some 4), none, .inl (.mv (.c (.int .u32 0)))⟩])
   (.keep [0, 1]))
   (.seq (.seq (.seq (.reg [⟨(some 7), none, .inl (.mv (.t 1))⟩,
       ⟨(some 8), none, .inl (.len (.t 7))⟩,
       ⟨(some 9), none, .inl (.mv (.c (.int .i64 0)))⟩])
    (.keep [0, 7, 8, 9]))
    (.block 0 (.loop [0, 7, 8, 9] (.seq (.seq (.reg [⟨(some 10), none, .inl (.bin .lss (.t 9) (.t 8))⟩])
     (.keep [0, 7, 8, 9, 10]))
     (.seq (.cond (.t 10)
       (.skip)
       (.exit 0))
      (.seq (.block 1 (.seq (.seq (.reg [⟨(some 11), none, .inl (.iaddr 1 (.t 7) (.t 9))⟩,
          ⟨(some 12), none, .inl (.load false 1 (.t 11))⟩,
          ⟨(some 6), none, .inl (.mv (.t 12))⟩])
       (.keep [0, 6, 7, 8, 9]))
       (.seq (.reg [⟨(some 13), none, .inl (.mv (.t 0))⟩,
           ⟨(some 14), none, .inl (.mv (.t 6))⟩,
           ⟨(some 15), none, .inl (.conv .u32 (.t 14))⟩,
           ⟨(some 16), none, .inl (.bin .xor (.t 13) (.t 15))⟩,
           ⟨(some 17), none, .inr (.call 48 [(.t 16)])⟩,
           ⟨(some 0), none, .inl (.mv (.t 17))⟩])
        (.keep [0, 7, 8, 9]))))
       (.seq (.reg [⟨(some 18), none, .inl (.bin .add (.t 9) (.c (.int .i64 1)))⟩,
           ⟨(some 9), none, .inl (.mv (.t 18))⟩])
        (.keep [0, 7, 8, 9]))))))))
    (.seq (.seq (.reg [⟨(some 19), none, .inl (.mv (.t 0))⟩,
        ⟨(some 4), none, .inl (.mv (.t 19))⟩])
     (.keep [4]))
     (.ret)))
def fc_crc_run : FC := ⟨20, cmd_crc_run, [.t 4]⟩
theorem fc_crc_run_ok : compF Try.prog 42 [[0, 1], [0, 7, 8, 9], [0, 7, 8, 9], [0, 7, 8, 9, 10], [0, 6, 7, 8, 9], [0, 7, 8, 9], [0, 7, 8, 9], [4]] = some fc_crc_run := by kernel_rfl
/-- joist/joistref02.goOn -/
abbrev F.joistref02_goOn : Nat := 43
def cmd_joistref02_goOn : Cmd :=
  .seq (.seq (.reg [⟨(some 4), none, .inl (.mv (.c (.int .i64 0)))⟩])
   (.keep [0, 1]))
   (.seq (.seq (.seq (.reg [⟨(some 5), none, .inl (.mv (.c (.int .i64 0)))⟩])
    (.keep [0, 1, 5]))
    (.block 0 (.loop [0, 1, 5] (.seq (.seq (.seq (.reg [⟨(some 7), none, .inl (.mv (.t 5))⟩,
        ⟨(some 8), none, .inl (.mv (.t 1))⟩,
        ⟨(some 9), none, .inl (.len (.t 8))⟩,
        ⟨(some 10), none, .inl (.bin .lss (.t 7) (.t 9))⟩])
     (.keep [0, 1, 5, 10]))
     (.cond (.t 10)
       (.skip)
       (.exit 0)))
     (.seq (.block 1 (.seq (.seq (.reg [⟨(some 13), none, .inl (.mv (.t 0))⟩,
         ⟨(some 14), none, .inl (.mv (.t 1))⟩,
         ⟨(some 15), none, .inl (.mv (.t 5))⟩,
         ⟨(some 16), none, .inl (.iaddr 1 (.t 14) (.t 15))⟩,
         ⟨(some 17), none, .inl (.load false 1 (.t 16))⟩,
         ⟨(some 18), none, .inl (.conv .i64 (.t 17))⟩,
         ⟨(some 19), none, .inl (.bin .xor (.t 13) (.t 18))⟩,
         ⟨(some 0), none, .inl (.mv (.t 19))⟩])
      (.keep [0, 1, 5]))
      (.seq (.seq (.reg [⟨(some 6), none, .inl (.mv (.c (.int .i64 0)))⟩])
       (.keep [0, 1, 5, 6]))
       (.block 2 (.loop [0, 1, 5, 6] (.seq (.seq (.seq (.reg [⟨(some 20), none, .inl (.mv (.t 6))⟩,
           ⟨(some 21), none, .inl (.bin .lss (.t 20) (.c (.int .i64 8)))⟩])
        (.keep [0, 1, 5, 6, 21]))
        (.cond (.t 21)
          (.skip)
          (.exit 2)))
        (.seq (.block 3 (.seq (.seq (.reg [⟨(some 24), none, .inl (.mv (.t 0))⟩,
            ⟨(some 25), none, .inl (.bin .rem (.t 24) (.c (.int .i64 2)))⟩,
            ⟨(some 26), none, .inl (.bin .eql (.t 25) (.c (.int .i64 1)))⟩])
         (.keep [0, 1, 5, 6, 26]))
         (.cond (.t 26)
           (.seq (.reg [⟨(some 27), none, .inl (.mv (.t 0))⟩,
               ⟨(some 28), none, .inl (.bin .quo (.t 27) (.c (.int .i64 2)))⟩,
               ⟨(some 29), none, .inl (.bin .xor (.t 28) (.c (.int .i64 3988292384)))⟩,
               ⟨(some 0), none, .inl (.mv (.t 29))⟩])
            (.keep [0, 1, 5, 6]))
           (.seq (.reg [⟨(some 30), none, .inl (.mv (.t 0))⟩,
               ⟨(some 31), none, .inl (.bin .quo (.t 30) (.c (.int .i64 2)))⟩,
               ⟨(some 0), none, .inl (.mv (.t 31))⟩])
            (.keep [0, 1, 5, 6])))))
         (.seq (.reg [⟨(some 22), none, .inl (.mv (.t 6))⟩,
             ⟨(some 23), none, .inl (.bin .add (.t 22) (.c (.int .i64 1)))⟩,
             ⟨(some 6), none, .inl (.mv (.t 23))⟩])
          (.keep [0, 1, 5, 6])))))))))
      (.seq (.reg [⟨(some 11), none, .inl (.mv (.t 5))⟩,
          ⟨(some 12), none, .inl (.bin .add (.t 11) (.c (.int .i64 1)))⟩,
          ⟨(some 5), none, .inl (.mv (.t 12))⟩])
       (.keep [0, 1, 5])))))))
    (.seq (.seq (.reg [⟨(some 32), none, .inl (.mv (.t 0))⟩,
        ⟨(some 4), none, .inl (.mv (.t 32))⟩])
     (.keep [4]))
     (.ret)))
def fc_joistref02_goOn : FC := ⟨33, cmd_joistref02_goOn, [.t 4]⟩
theorem fc_joistref02_goOn_ok : compF Try.prog 43 [[0, 1], [0, 1, 5], [0, 1, 5], [0, 1, 5, 10], [0, 1, 5], [0, 1, 5, 6], [0, 1, 5, 6], [0, 1, 5, 6, 21], [0, 1, 5, 6, 26], [0, 1, 5, 6], [0, 1, 5, 6], [0, 1, 5, 6], [0, 1, 5], [4]] = some fc_joistref02_goOn := by kernel_rfl
/-- joist/shape.sized -/
abbrev F.shape_sized : Nat := 44
def cmd_shape_sized : Cmd :=
  .seq (.seq (.reg [⟨(some 1), none, .inr (.box 4 (.t 0))⟩,
      ⟨(some 2), none, .inl (.mv (.c (.bool false)))⟩])
   (.keep [1]))
   (.seq (.block 0 (.seq (.seq (.seq (.reg [⟨(some 4), none, .inl (.faddr 0 (.t 1))⟩,
       ⟨(some 5), none, .inl (.load false 1 (.t 4))⟩,
       ⟨(some 6), none, .inl (.bin .lss (.t 5) (.c (.int .i64 1)))⟩,
       ⟨(some 3), none, .inl (.mv (.t 6))⟩])
    (.keep [1, 3]))
    (.cond (.t 3)
      (.skip)
      (.seq (.seq (.reg [⟨(some 7), none, .inl (.faddr 0 (.t 1))⟩,
          ⟨(some 8), none, .inl (.load false 1 (.t 7))⟩,
          ⟨(some 9), none, .inl (.bin .gtr (.t 8) (.c (.int .i64 64)))⟩,
          ⟨(some 3), none, .inl (.mv (.t 9))⟩])
       (.keep [1, 3]))
       (.cond (.t 3)
         (.skip)
         (.seq (.seq (.reg [⟨(some 10), none, .inl (.faddr 3 (.t 1))⟩,
             ⟨(some 11), none, .inl (.load false 1 (.t 10))⟩,
             ⟨(some 12), none, .inl (.bin .lss (.t 11) (.c (.int .i64 1)))⟩,
             ⟨(some 3), none, .inl (.mv (.t 12))⟩])
          (.keep [1, 3]))
          (.cond (.t 3)
            (.skip)
            (.seq (.reg [⟨(some 13), none, .inl (.faddr 3 (.t 1))⟩,
                ⟨(some 14), none, .inl (.load false 1 (.t 13))⟩,
                ⟨(some 15), none, .inl (.bin .gtr (.t 14) (.c (.int .i64 4096)))⟩,
                ⟨(some 3), none, .inl (.mv (.t 15))⟩])
             (.keep [1, 3]))))))))
    (.cond (.t 3)
      (.seq (.seq (.reg [⟨(some 2), none, .inl (.mv (.c (.bool false)))⟩])
       (.keep [2]))
       (.ret))
      (.seq (.seq (.seq (.reg [⟨(some 17), none, .inl (.faddr 1 (.t 1))⟩,
          ⟨(some 18), none, .inl (.load false 1 (.t 17))⟩,
          ⟨(some 19), none, .inl (.bin .lss (.t 18) (.c (.int .i64 2)))⟩,
          ⟨(some 16), none, .inl (.mv (.t 19))⟩])
       (.keep [1, 16]))
       (.cond (.t 16)
         (.skip)
         (.seq (.seq (.reg [⟨(some 20), none, .inl (.faddr 1 (.t 1))⟩,
             ⟨(some 21), none, .inl (.load false 1 (.t 20))⟩,
             ⟨(some 22), none, .inl (.bin .gtr (.t 21) (.c (.int .i64 32)))⟩,
             ⟨(some 16), none, .inl (.mv (.t 22))⟩])
          (.keep [1, 16]))
          (.cond (.t 16)
            (.skip)
            (.seq (.reg [⟨(some 23), none, .inl (.faddr 1 (.t 1))⟩,
                ⟨(some 24), none, .inl (.load false 1 (.t 23))⟩,
                ⟨(some 25), none, .inl (.bin .rem (.t 24) (.c (.int .i64 2)))⟩,
                ⟨(some 26), none, .inl (.bin .neq (.t 25) (.c (.int .i64 0)))⟩,
                ⟨(some 16), none, .inl (.mv (.t 26))⟩])
             (.keep [1, 16]))))))
       (.cond (.t 16)
         (.seq (.seq (.reg [⟨(some 2), none, .inl (.mv (.c (.bool false)))⟩])
          (.keep [2]))
          (.ret))
         (.skip))))))
    (.seq (.seq (.reg [⟨(some 27), none, .inl (.faddr 2 (.t 1))⟩,
        ⟨(some 28), none, .inl (.load false 1 (.t 27))⟩,
        ⟨(some 29), none, .inl (.bin .geq (.t 28) (.c (.int .i64 2)))⟩,
        ⟨(some 30), none, .inl (.mv (.t 29))⟩,
        ⟨(some 31), (some (30, true)), .inl (.faddr 2 (.t 1))⟩,
        ⟨(some 32), (some (30, true)), .inl (.load false 1 (.t 31))⟩,
        ⟨(some 33), (some (30, true)), .inl (.bin .leq (.t 32) (.c (.int .i64 8)))⟩,
        ⟨(some 34), none, .inl (.pick (.t 30) (.t 33) (.c (.bool false)))⟩,
        ⟨(some 35), none, .inl (.mv (.t 34))⟩,
        ⟨(some 36), (some (35, true)), .inl (.faddr 2 (.t 1))⟩,
        ⟨(some 37), (some (35, true)), .inl (.load false 1 (.t 36))⟩,
        ⟨(some 38), (some (35, true)), .inl (.bin .rem (.t 37) (.c (.int .i64 2)))⟩,
        ⟨(some 39), (some (35, true)), .inl (.bin .eql (.t 38) (.c (.int .i64 0)))⟩,
        ⟨(some 40), none, .inl (.pick (.t 35) (.t 39) (.c (.bool false)))⟩,
        ⟨(some 2), none, .inl (.mv (.t 40))⟩])
     (.keep [2]))
     (.ret)))
def fc_shape_sized : FC := ⟨41, cmd_shape_sized, [.t 2]⟩
theorem fc_shape_sized_ok : compF Try.prog 44 [[1], [1, 3], [1, 3], [1, 3], [1, 3], [2], [1, 16], [1, 16], [1, 16], [2], [2]] = some fc_shape_sized := by kernel_rfl
/-- joist/shape.lay -/
abbrev F.shape_lay : Nat := 45
def cmd_shape_lay : Cmd :=
  .seq (.seq (.reg [⟨(some 1), none, .inr (.box 4 (.t 0))⟩,
      ⟨(some 2), none, .inr (.alloc [(.int .i64 0), (.int .i64 0), (.int .i64 0), (.int .i64 0), (.int .i64 0), (.int .i64 0), (.int .i64 0), (.int .i64 0), (.int .i64 0)])⟩])
   (.keep [1, 2]))
   (.seq (.seq (.reg [⟨(some 6), none, .inl (.faddr 3 (.t 1))⟩,
       ⟨(some 7), none, .inl (.load false 1 (.t 6))⟩,
       ⟨(some 8), none, .inl (.build [(.int .i64 0), (.int .i64 0), (.int .i64 0)] [(0, 1, (.c (.int .i64 1))), (1, 1, (.c (.int .i64 2))), (2, 1, (.t 7))])⟩,
       ⟨(some 9), none, .inl (.build [(.int .i64 0), (.int .i64 0), (.int .i64 0), (.int .i64 0), (.int .i64 0), (.int .i64 0), (.int .i64 0), (.int .i64 0), (.int .i64 0)] [(0, 3, (.t 8))])⟩,
       ⟨(some 3), none, .inr (.alloc [(.int .i64 0), (.int .i64 0), (.int .i64 0), (.int .i64 0), (.int .i64 0), (.int .i64 0), (.int .i64 0), (.int .i64 0), (.int .i64 0)])⟩,
       ⟨none, none, .inr (.store 9 (.t 3) (.t 9))⟩])
    (.keep [1, 2, 3]))
    (.seq (.seq (.reg [⟨(some 4), none, .inr (.alloc [(.int .i64 0)])⟩,
        ⟨none, none, .inr (.store 1 (.t 4) (.c (.int .i64 2)))⟩])
     (.keep [1, 2, 3, 4]))
     (.seq (.seq (.reg [⟨(some 10), none, .inl (.mkfn 49 [(.t 4)])⟩,
         ⟨(some 5), none, .inl (.mv (.t 10))⟩])
      (.keep [1, 2, 3, 4, 5]))
      (.seq (.seq (.reg [⟨(some 11), none, .inl (.mv (.t 5))⟩,
          ⟨(some 12), none, .inl (.faddr 3 (.t 1))⟩,
          ⟨(some 13), none, .inl (.load false 1 (.t 12))⟩,
          ⟨(some 14), none, .inl (.bin .mul (.t 13) (.c (.int .i64 2)))⟩,
          ⟨(some 15), none, .inr (.callv (.t 11) [(.t 14)])⟩])
       (.keep [1, 2, 3, 4, 5]))
       (.seq (.seq (.reg [⟨(some 16), none, .inl (.mv (.t 5))⟩,
           ⟨(some 17), none, .inr (.callv (.t 16) [(.c (.int .i64 1))])⟩,
           ⟨(some 18), none, .inl (.faddr 3 (.t 3))⟩,
           ⟨none, none, .inr (.store 1 (.t 18) (.t 17))⟩])
        (.keep [1, 2, 3, 4, 5]))
        (.seq (.seq (.reg [⟨(some 19), none, .inl (.mv (.t 5))⟩,
            ⟨(some 20), none, .inl (.faddr 1 (.t 1))⟩,
            ⟨(some 21), none, .inl (.load false 1 (.t 20))⟩,
            ⟨(some 22), none, .inl (.bin .quo (.t 21) (.c (.int .i64 2)))⟩,
            ⟨(some 23), none, .inr (.callv (.t 19) [(.t 22)])⟩,
            ⟨(some 24), none, .inl (.faddr 4 (.t 3))⟩,
            ⟨none, none, .inr (.store 1 (.t 24) (.t 23))⟩])
         (.keep [1, 2, 3, 4, 5]))
         (.seq (.seq (.reg [⟨(some 25), none, .inl (.mv (.t 5))⟩,
             ⟨(some 26), none, .inl (.faddr 2 (.t 1))⟩,
             ⟨(some 27), none, .inl (.load false 1 (.t 26))⟩,
             ⟨(some 28), none, .inl (.bin .quo (.t 27) (.c (.int .i64 2)))⟩,
             ⟨(some 29), none, .inr (.callv (.t 25) [(.t 28)])⟩,
             ⟨(some 30), none, .inl (.faddr 5 (.t 3))⟩,
             ⟨none, none, .inr (.store 1 (.t 30) (.t 29))⟩])
          (.keep [1, 2, 3, 4, 5]))
          (.seq (.seq (.reg [⟨(some 31), none, .inl (.mv (.t 5))⟩,
              ⟨(some 32), none, .inr (.call 50 [(.c (.int .i64 64))])⟩,
              ⟨(some 33), none, .inl (.bin .mul (.t 32) (.c (.int .i64 2)))⟩,
              ⟨(some 34), none, .inr (.callv (.t 31) [(.t 33)])⟩,
              ⟨(some 35), none, .inl (.faddr 6 (.t 3))⟩,
              ⟨none, none, .inr (.store 1 (.t 35) (.t 34))⟩])
           (.keep [1, 2, 3, 4, 5]))
           (.seq (.seq (.reg [⟨(some 36), none, .inl (.mv (.t 5))⟩,
               ⟨(some 37), none, .inl (.faddr 0 (.t 1))⟩,
               ⟨(some 38), none, .inl (.load false 1 (.t 37))⟩,
               ⟨(some 39), none, .inl (.bin .mul (.t 38) (.c (.int .i64 4)))⟩,
               ⟨(some 40), none, .inr (.callv (.t 36) [(.t 39)])⟩,
               ⟨(some 41), none, .inl (.faddr 7 (.t 3))⟩,
               ⟨none, none, .inr (.store 1 (.t 41) (.t 40))⟩])
            (.keep [2, 3, 4]))
            (.seq (.seq (.reg [⟨(some 42), none, .inl (.load false 1 (.t 4))⟩,
                ⟨(some 43), none, .inl (.faddr 8 (.t 3))⟩,
                ⟨none, none, .inr (.store 1 (.t 43) (.t 42))⟩])
             (.keep [2, 3]))
             (.seq (.seq (.reg [⟨(some 44), none, .inl (.load true 9 (.t 3))⟩,
                 ⟨none, none, .inr (.store 9 (.t 2) (.t 44))⟩])
              (.keep [2]))
              (.ret))))))))))))
def fc_shape_lay : FC := ⟨45, cmd_shape_lay, [.cell 2 true 9]⟩
theorem fc_shape_lay_ok : compF Try.prog 45 [[1, 2], [1, 2, 3], [1, 2, 3, 4], [1, 2, 3, 4, 5], [1, 2, 3, 4, 5], [1, 2, 3, 4, 5], [1, 2, 3, 4, 5], [1, 2, 3, 4, 5], [1, 2, 3, 4, 5], [2, 3, 4], [2, 3], [2]] = some fc_shape_lay := by kernel_rfl
/-- joist/wal.Right -/
abbrev F.wal_Right : Nat := 46
def cmd_wal_Right : Cmd :=
  .seq (.seq (.reg [⟨(some 2), none, .inr (.box 3 (.t 0))⟩,
      ⟨(some 4), none, .inl (.mv (.c (.bool false)))⟩])
   (.keep [1, 2]))
   (.seq (.block 0 (.seq (.seq (.seq (.reg [⟨(some 6), none, .inl (.faddr 2 (.t 2))⟩,
       ⟨(some 7), none, .inl (.load false 1 (.t 6))⟩,
       ⟨(some 8), none, .inl (.bin .lss (.t 7) (.c (.int .i64 1)))⟩,
       ⟨(some 5), none, .inl (.mv (.t 8))⟩])
    (.keep [1, 2, 5]))
    (.cond (.t 5)
      (.skip)
      (.seq (.seq (.reg [⟨(some 9), none, .inl (.faddr 2 (.t 2))⟩,
          ⟨(some 10), none, .inl (.load false 1 (.t 9))⟩,
          ⟨(some 11), none, .inl (.bin .gtr (.t 10) (.c (.int .i64 4096)))⟩,
          ⟨(some 5), none, .inl (.mv (.t 11))⟩])
       (.keep [1, 2, 5]))
       (.cond (.t 5)
         (.skip)
         (.seq (.seq (.reg [⟨(some 12), none, .inl (.faddr 1 (.t 2))⟩,
             ⟨(some 13), none, .inl (.load false 1 (.t 12))⟩,
             ⟨(some 14), none, .inl (.bin .lss (.t 13) (.c (.int .i64 0)))⟩,
             ⟨(some 5), none, .inl (.mv (.t 14))⟩])
          (.keep [1, 2, 5]))
          (.cond (.t 5)
            (.skip)
            (.seq (.reg [⟨(some 15), none, .inl (.faddr 1 (.t 2))⟩,
                ⟨(some 16), none, .inl (.load false 1 (.t 15))⟩,
                ⟨(some 17), none, .inl (.mv (.t 1))⟩,
                ⟨(some 18), none, .inl (.bin .gtr (.t 16) (.t 17))⟩,
                ⟨(some 5), none, .inl (.mv (.t 18))⟩])
             (.keep [1, 2, 5]))))))))
    (.cond (.t 5)
      (.seq (.seq (.reg [⟨(some 4), none, .inl (.mv (.c (.bool false)))⟩])
       (.keep [4]))
       (.ret))
      (.seq (.seq (.seq (.reg [⟨(some 20), none, .inl (.faddr 2 (.t 2))⟩,
          ⟨(some 21), none, .inl (.load false 1 (.t 20))⟩,
          ⟨(some 22), none, .inl (.bin .mul (.c (.int .i64 2)) (.t 21))⟩,
          ⟨(some 23), none, .inl (.mv (.t 1))⟩,
          ⟨(some 24), none, .inl (.faddr 1 (.t 2))⟩,
          ⟨(some 25), none, .inl (.load false 1 (.t 24))⟩,
          ⟨(some 26), none, .inl (.bin .sub (.t 23) (.t 25))⟩,
          ⟨(some 27), none, .inl (.bin .gtr (.t 22) (.t 26))⟩,
          ⟨(some 19), none, .inl (.mv (.t 27))⟩])
       (.keep [1, 2, 19]))
       (.cond (.t 19)
         (.skip)
         (.seq (.seq (.reg [⟨(some 28), none, .inl (.faddr 0 (.t 2))⟩,
             ⟨(some 29), none, .inl (.load false 1 (.t 28))⟩,
             ⟨(some 30), none, .inl (.bin .lss (.t 29) (.c (.int .i64 0)))⟩,
             ⟨(some 19), none, .inl (.mv (.t 30))⟩])
          (.keep [1, 2, 19]))
          (.cond (.t 19)
            (.skip)
            (.seq (.reg [⟨(some 31), none, .inl (.faddr 0 (.t 2))⟩,
                ⟨(some 32), none, .inl (.load false 1 (.t 31))⟩,
                ⟨(some 33), none, .inl (.mv (.t 1))⟩,
                ⟨(some 34), none, .inl (.bin .geq (.t 32) (.t 33))⟩,
                ⟨(some 19), none, .inl (.mv (.t 34))⟩])
             (.keep [2, 19]))))))
       (.cond (.t 19)
         (.seq (.seq (.reg [⟨(some 4), none, .inl (.mv (.c (.bool false)))⟩])
          (.keep [4]))
          (.ret))
         (.skip))))))
    (.seq (.seq (.reg [⟨(some 35), none, .inl (.faddr 0 (.t 2))⟩,
        ⟨(some 36), none, .inl (.load false 1 (.t 35))⟩,
        ⟨(some 37), none, .inl (.faddr 1 (.t 2))⟩,
        ⟨(some 38), none, .inl (.load false 1 (.t 37))⟩,
        ⟨(some 39), none, .inl (.bin .lss (.t 36) (.t 38))⟩,
        ⟨(some 40), none, .inl (.mv (.t 39))⟩,
        ⟨(some 41), (some (40, false)), .inl (.faddr 0 (.t 2))⟩,
        ⟨(some 42), (some (40, false)), .inl (.load false 1 (.t 41))⟩,
        ⟨(some 43), (some (40, false)), .inl (.faddr 1 (.t 2))⟩,
        ⟨(some 44), (some (40, false)), .inl (.load false 1 (.t 43))⟩,
        ⟨(some 45), (some (40, false)), .inl (.bin .sub (.t 42) (.t 44))⟩,
        ⟨(some 46), (some (40, false)), .inl (.faddr 2 (.t 2))⟩,
        ⟨(some 47), (some (40, false)), .inl (.load false 1 (.t 46))⟩,
        ⟨(some 48), (some (40, false)), .inl (.bin .mul (.c (.int .i64 2)) (.t 47))⟩,
        ⟨(some 49), (some (40, false)), .inl (.bin .geq (.t 45) (.t 48))⟩,
        ⟨(some 50), none, .inl (.pick (.t 40) (.c (.bool true)) (.t 49))⟩,
        ⟨(some 4), none, .inl (.mv (.t 50))⟩])
     (.keep [4]))
     (.ret)))
def fc_wal_Right : FC := ⟨51, cmd_wal_Right, [.t 4]⟩
theorem fc_wal_Right_ok : compF Try.prog 46 [[1, 2], [1, 2, 5], [1, 2, 5], [1, 2, 5], [1, 2, 5], [4], [1, 2, 19], [1, 2, 19], [2, 19], [4], [4]] = some fc_wal_Right := by kernel_rfl
/-- joist/joistref14.Nodes -/
abbrev F.joistref14_Nodes : Nat := 47
def cmd_joistref14_Nodes : Cmd :=
  .seq (.seq (.reg [⟨(some 2), none, .inl (.mv (.c (.int .i64 0)))⟩])
   (.keep [0]))
   (.seq (.seq (.seq (.reg [⟨(some 4), none, .inl (.mv (.t 0))⟩,
       ⟨(some 5), none, .inl (.bin .lss (.t 4) (.c (.int .i64 0)))⟩])
    (.keep [0, 5]))
    (.cond (.t 5)
      (.seq (.seq (.reg [⟨(some 2), none, .inl (.mv (.c (.int .i64 0)))⟩])
       (.keep [2]))
       (.ret))
      (.skip)))
    (.seq (.seq (.reg [⟨(some 6), none, .inl (.mv (.t 0))⟩,
        ⟨(some 7), none, .inl (.bin .quo (.t 6) (.c (.int .i64 7)))⟩,
        ⟨(some 8), none, .inl (.mv (.t 0))⟩,
        ⟨(some 9), none, .inl (.bin .rem (.t 8) (.c (.int .i64 7)))⟩,
        ⟨(some 10), none, .inl (.mn (.t 9) (.c (.int .i64 1)))⟩,
        ⟨(some 11), none, .inl (.bin .add (.t 7) (.t 10))⟩,
        ⟨(some 0), none, .inl (.mv (.t 11))⟩])
     (.keep [0]))
     (.seq (.seq (.reg [⟨(some 12), none, .inl (.mv (.t 0))⟩,
         ⟨(some 13), none, .inl (.mx (.t 12) (.c (.int .i64 1)))⟩,
         ⟨(some 0), none, .inl (.mv (.t 13))⟩])
      (.keep [0]))
      (.seq (.seq (.reg [⟨(some 14), none, .inl (.mv (.t 0))⟩,
          ⟨(some 3), none, .inl (.mv (.t 14))⟩])
       (.keep [0, 3]))
       (.seq (.block 0 (.loop [0, 3] (.seq (.seq (.seq (.reg [⟨(some 15), none, .inl (.mv (.t 0))⟩,
           ⟨(some 16), none, .inl (.bin .gtr (.t 15) (.c (.int .i64 1)))⟩])
        (.keep [0, 3, 16]))
        (.cond (.t 16)
          (.skip)
          (.exit 0)))
        (.block 1 (.seq (.seq (.reg [⟨(some 17), none, .inl (.mv (.t 0))⟩,
            ⟨(some 18), none, .inl (.bin .quo (.t 17) (.c (.int .i64 7)))⟩,
            ⟨(some 19), none, .inl (.mv (.t 0))⟩,
            ⟨(some 20), none, .inl (.bin .rem (.t 19) (.c (.int .i64 7)))⟩,
            ⟨(some 21), none, .inl (.mn (.t 20) (.c (.int .i64 1)))⟩,
            ⟨(some 22), none, .inl (.bin .add (.t 18) (.t 21))⟩,
            ⟨(some 0), none, .inl (.mv (.t 22))⟩])
         (.keep [0, 3]))
         (.seq (.reg [⟨(some 23), none, .inl (.mv (.t 3))⟩,
             ⟨(some 24), none, .inl (.mv (.t 0))⟩,
             ⟨(some 25), none, .inl (.bin .add (.t 23) (.t 24))⟩,
             ⟨(some 3), none, .inl (.mv (.t 25))⟩])
          (.keep [0, 3])))))))
        (.seq (.seq (.reg [⟨(some 26), none, .inl (.mv (.t 3))⟩,
            ⟨(some 2), none, .inl (.mv (.t 26))⟩])
         (.keep [2]))
         (.ret)))))))
def fc_joistref14_Nodes : FC := ⟨27, cmd_joistref14_Nodes, [.t 2]⟩
theorem fc_joistref14_Nodes_ok : compF Try.prog 47 [[0], [0, 5], [2], [0], [0], [0, 3], [0, 3], [0, 3, 16], [0, 3], [0, 3], [2]] = some fc_joistref14_Nodes := by kernel_rfl
/-- joist/crc.step -/
abbrev F.crc_step : Nat := 48
def cmd_crc_step : Cmd :=
  .seq (.seq (.reg [⟨(some 2), none, .inl (.mv (.c (.int .u32 0)))⟩])
   (.keep [0]))
   (.seq (.seq (.seq (.reg [⟨(some 4), none, .inl (.mv (.c (.int .i64 0)))⟩])
    (.keep [0, 4]))
    (.block 0 (.loop [0, 4] (.seq (.seq (.reg [⟨(some 5), none, .inl (.bin .lss (.t 4) (.c (.int .i64 8)))⟩])
     (.keep [0, 4, 5]))
     (.seq (.cond (.t 5)
       (.skip)
       (.exit 0))
      (.seq (.block 1 (.seq (.seq (.reg [⟨(some 6), none, .inl (.mv (.t 0))⟩,
          ⟨(some 7), none, .inl (.bin .and (.t 6) (.c (.int .u32 1)))⟩,
          ⟨(some 3), none, .inl (.mv (.t 7))⟩])
       (.keep [0, 3, 4]))
       (.seq (.seq (.reg [⟨(some 8), none, .inl (.mv (.t 0))⟩,
           ⟨(some 9), none, .inl (.bin .shr (.t 8) (.c (.int .u64 1)))⟩,
           ⟨(some 0), none, .inl (.mv (.t 9))⟩])
        (.keep [0, 3, 4]))
        (.seq (.seq (.reg [⟨(some 10), none, .inl (.mv (.t 3))⟩,
            ⟨(some 11), none, .inl (.bin .eql (.t 10) (.c (.int .u32 1)))⟩])
         (.keep [0, 4, 11]))
         (.cond (.t 11)
           (.seq (.reg [⟨(some 12), none, .inl (.mv (.t 0))⟩,
               ⟨(some 13), none, .inl (.bin .xor (.t 12) (.c (.int .u32 3988292384)))⟩,
               ⟨(some 0), none, .inl (.mv (.t 13))⟩])
            (.keep [0, 4]))
           (.skip))))))
       (.seq (.reg [⟨(some 14), none, .inl (.bin .add (.t 4) (.c (.int .i64 1)))⟩,
           ⟨(some 4), none, .inl (.mv (.t 14))⟩])
        (.keep [0, 4]))))))))
    (.seq (.seq (.reg [⟨(some 15), none, .inl (.mv (.t 0))⟩,
        ⟨(some 2), none, .inl (.mv (.t 15))⟩])
     (.keep [2]))
     (.ret)))
def fc_crc_step : FC := ⟨16, cmd_crc_step, [.t 2]⟩
theorem fc_crc_step_ok : compF Try.prog 48 [[0], [0, 4], [0, 4], [0, 4, 5], [0, 3, 4], [0, 3, 4], [0, 4, 11], [0, 4], [0, 4], [2]] = some fc_crc_step := by kernel_rfl
/-- joist/shape.lay$1 -/
abbrev F.shape_lay_1 : Nat := 49
def cmd_shape_lay_1 : Cmd :=
  .seq (.seq (.reg [⟨(some 3), none, .inl (.mv (.c (.int .i64 0)))⟩])
   (.keep [0, 1]))
   (.seq (.seq (.reg [⟨(some 5), none, .inl (.load false 1 (.t 1))⟩,
       ⟨(some 4), none, .inl (.mv (.t 5))⟩])
    (.keep [0, 1, 4]))
    (.seq (.seq (.reg [⟨(some 6), none, .inl (.load false 1 (.t 1))⟩,
        ⟨(some 7), none, .inl (.mv (.t 0))⟩,
        ⟨(some 8), none, .inl (.bin .add (.t 6) (.t 7))⟩,
        ⟨none, none, .inr (.store 1 (.t 1) (.t 8))⟩])
     (.keep [4]))
     (.seq (.seq (.reg [⟨(some 9), none, .inl (.mv (.t 4))⟩,
         ⟨(some 3), none, .inl (.mv (.t 9))⟩])
      (.keep [3]))
      (.ret))))
def fc_shape_lay_1 : FC := ⟨10, cmd_shape_lay_1, [.t 3]⟩
theorem fc_shape_lay_1_ok : compF Try.prog 49 [[0, 1], [0, 1, 4], [4], [3]] = some fc_shape_lay_1 := by kernel_rfl
/-- joist/tree.Nodes -/
abbrev F.tree_Nodes : Nat := 50
def cmd_tree_Nodes : Cmd :=
  .seq (.seq (.reg [⟨(some 2), none, .inl (.mv (.c (.int .i64 0)))⟩])
   (.keep [0]))
   (.seq (.seq (.seq (.reg [⟨(some 4), none, .inl (.mv (.t 0))⟩,
       ⟨(some 5), none, .inl (.bin .lss (.t 4) (.c (.int .i64 0)))⟩])
    (.keep [0, 5]))
    (.cond (.t 5)
      (.seq (.seq (.reg [⟨(some 2), none, .inl (.mv (.c (.int .i64 0)))⟩])
       (.keep [2]))
       (.ret))
      (.skip)))
    (.seq (.seq (.reg [⟨(some 6), none, .inl (.mv (.t 0))⟩,
        ⟨(some 7), none, .inr (.call 51 [(.t 6)])⟩,
        ⟨(some 0), none, .inl (.mv (.t 7))⟩])
     (.keep [0]))
     (.seq (.seq (.reg [⟨(some 8), none, .inl (.mv (.t 0))⟩,
         ⟨(some 3), none, .inl (.mv (.t 8))⟩])
      (.keep [0, 3]))
      (.seq (.block 0 (.loop [0, 3] (.seq (.seq (.seq (.reg [⟨(some 9), none, .inl (.mv (.t 0))⟩,
          ⟨(some 10), none, .inl (.bin .gtr (.t 9) (.c (.int .i64 1)))⟩])
       (.keep [0, 3, 10]))
       (.cond (.t 10)
         (.skip)
         (.exit 0)))
       (.block 1 (.seq (.seq (.reg [⟨(some 11), none, .inl (.mv (.t 0))⟩,
           ⟨(some 12), none, .inr (.call 51 [(.t 11)])⟩,
           ⟨(some 0), none, .inl (.mv (.t 12))⟩])
        (.keep [0, 3]))
        (.seq (.reg [⟨(some 13), none, .inl (.mv (.t 3))⟩,
            ⟨(some 14), none, .inl (.mv (.t 0))⟩,
            ⟨(some 15), none, .inl (.bin .add (.t 13) (.t 14))⟩,
            ⟨(some 3), none, .inl (.mv (.t 15))⟩])
         (.keep [0, 3])))))))
       (.seq (.seq (.reg [⟨(some 16), none, .inl (.mv (.t 3))⟩,
           ⟨(some 2), none, .inl (.mv (.t 16))⟩])
        (.keep [2]))
        (.ret))))))
def fc_tree_Nodes : FC := ⟨17, cmd_tree_Nodes, [.t 2]⟩
theorem fc_tree_Nodes_ok : compF Try.prog 50 [[0], [0, 5], [2], [0], [0, 3], [0, 3], [0, 3, 10], [0, 3], [0, 3], [2]] = some fc_tree_Nodes := by kernel_rfl
/-- joist/tree.holders -/
abbrev F.tree_holders : Nat := 51
def cmd_tree_holders : Cmd :=
  .seq (.seq (.reg [⟨(some 2), none, .inl (.mv (.c (.int .i64 0)))⟩])
   (.keep [0]))
   (.seq (.seq (.seq (.reg [⟨(some 3), none, .inl (.mv (.t 0))⟩,
       ⟨(some 4), none, .inl (.bin .eql (.t 3) (.c (.int .i64 0)))⟩])
    (.keep [0, 4]))
    (.cond (.t 4)
      (.seq (.seq (.reg [⟨(some 2), none, .inl (.mv (.c (.int .i64 1)))⟩])
       (.keep [2]))
       (.ret))
      (.skip)))
    (.seq (.seq (.reg [⟨(some 5), none, .inl (.mv (.t 0))⟩,
        ⟨(some 6), none, .inl (.bin .sub (.t 5) (.c (.int .i64 1)))⟩,
        ⟨(some 7), none, .inl (.bin .quo (.t 6) (.c (.int .i64 7)))⟩,
        ⟨(some 8), none, .inl (.bin .add (.t 7) (.c (.int .i64 1)))⟩,
        ⟨(some 2), none, .inl (.mv (.t 8))⟩])
     (.keep [2]))
     (.ret)))
def fc_tree_holders : FC := ⟨9, cmd_tree_holders, [.t 2]⟩
theorem fc_tree_holders_ok : compF Try.prog 51 [[0], [0, 4], [2], [2]] = some fc_tree_holders := by kernel_rfl
end Go.Proofs.Ytjjmcpnbaahkgaa
