import Derived.Test.YthakanioekmhbaaProg
import Derived.Test.YthakanioekmhbaaVG
import Derived.KernelRfl
namespace Go.Proofs.Ythakanioekmhbaa
open Go Go.Proofs.Ythakanioekmhbaa.V
set_option linter.unusedVariables false

theorem mixed : Try.prog.follows .mixedOrders = true := by kernel_rfl
/-- joist/joistlaw03.PmemLasts -/
abbrev F.joistlaw03_PmemLasts : Nat := 3
def cmd_joistlaw03_PmemLasts : Cmd :=
  .seq (.seq (.reg [⟨(some 10), none, .inl (.mv (.c (.bool false)))⟩])
   (.keep [0, 1, 2, 3, 4]))
   (.seq (.seq (.reg [⟨(some 22), none, .inr (.call 8 [])⟩,
       ⟨(some 11), none, .inl (.mv (.t 22))⟩])
    (.keep [0, 1, 2, 3, 4, 11]))
    (.seq (.seq (.seq (.reg [⟨(some 23), none, .inl (.mv (.t 0))⟩,
        ⟨(some 24), none, .inl (.len (.t 23))⟩,
        ⟨(some 25), none, .inl (.bin .gtr (.t 24) (.c (.int .i64 2048)))⟩,
        ⟨(some 26), none, .inl (.mv (.t 25))⟩,
        ⟨(some 27), (some (26, false)), .inl (.mv (.t 3))⟩,
        ⟨(some 28), (some (26, false)), .inl (.len (.t 27))⟩,
        ⟨(some 29), (some (26, false)), .inl (.bin .gtr (.t 28) (.c (.int .i64 2048)))⟩,
        ⟨(some 30), none, .inl (.pick (.t 26) (.c (.bool true)) (.t 29))⟩])
     (.keep [0, 1, 2, 3, 4, 11, 30]))
     (.cond (.t 30)
       (.seq (.seq (.reg [⟨(some 31), none, .inl (.mv (.t 11))⟩,
           ⟨(some 10), none, .inl (.mv (.t 31))⟩])
        (.keep [10]))
        (.ret))
       (.skip)))
     (.seq (.seq (.reg [⟨(some 33), none, .inl (.mv (.t 0))⟩,
         ⟨(some 34), none, .inr (.call 9 [(.t 33)])⟩,
         ⟨(some 32), none, .inl (.mv (.t 34))⟩,
         ⟨(some 35), none, .inl (.ext 0 (.t 32))⟩,
         ⟨(some 36), none, .inl (.ext 1 (.t 32))⟩,
         ⟨(some 12), none, .inl (.mv (.t 35))⟩,
         ⟨(some 13), none, .inl (.mv (.t 36))⟩])
      (.keep [0, 1, 2, 3, 4, 11, 12, 13]))
      (.seq (.seq (.seq (.reg [⟨(some 37), none, .inl (.mv (.t 11))⟩,
          ⟨(some 38), none, .inl (.un .not (.t 37))⟩,
          ⟨(some 39), none, .inl (.mv (.t 38))⟩,
          ⟨(some 40), (some (39, false)), .inl (.mv (.t 13))⟩,
          ⟨(some 41), (some (39, false)), .inl (.bin .neq (.t 40) (.c (.int .i64 0)))⟩,
          ⟨(some 42), none, .inl (.pick (.t 39) (.c (.bool true)) (.t 41))⟩,
          ⟨(some 43), none, .inl (.mv (.t 42))⟩,
          ⟨(some 44), (some (43, false)), .inl (.mv (.t 12))⟩,
          ⟨(some 45), (some (43, false)), .inl (.eqnilp false (.t 44))⟩,
          ⟨(some 46), none, .inl (.pick (.t 43) (.c (.bool true)) (.t 45))⟩])
       (.keep [0, 1, 2, 3, 4, 11, 12, 13, 46]))
       (.cond (.t 46)
         (.seq (.seq (.reg [⟨(some 47), none, .inl (.mv (.t 11))⟩,
             ⟨(some 48), none, .inl (.mv (.t 47))⟩,
             ⟨(some 49), (some (48, true)), .inl (.mv (.t 13))⟩,
             ⟨(some 50), (some (48, true)), .inl (.bin .neq (.t 49) (.c (.int .i64 0)))⟩,
             ⟨(some 51), (some (48, true)), .inl (.mv (.t 12))⟩,
             ⟨(some 52), (some (48, true)), .inl (.eqnilp false (.t 51))⟩,
             ⟨(some 53), (some (48, true)), .inl (.binb .eql (.t 50) (.t 52))⟩,
             ⟨(some 54), none, .inl (.pick (.t 48) (.t 53) (.c (.bool false)))⟩,
             ⟨(some 10), none, .inl (.mv (.t 54))⟩])
          (.keep [10]))
          (.ret))
         (.skip)))
       (.seq (.seq (.seq (.reg [⟨(some 14), none, .inl (.mv (.c (.int .i64 0)))⟩])
        (.keep [0, 1, 2, 3, 4, 12, 14]))
        (.block 0 (.loop [0, 1, 2, 3, 4, 12, 14] (.seq (.seq (.seq (.reg [⟨(some 55), none, .inl (.mv (.t 14))⟩,
            ⟨(some 56), none, .inl (.mv (.t 1))⟩,
            ⟨(some 57), none, .inl (.len (.t 56))⟩,
            ⟨(some 58), none, .inl (.bin .lss (.t 55) (.t 57))⟩,
            ⟨(some 59), none, .inl (.mv (.t 58))⟩,
            ⟨(some 60), (some (59, true)), .inl (.mv (.t 14))⟩,
            ⟨(some 61), (some (59, true)), .inl (.bin .lss (.t 60) (.c (.int .i64 40)))⟩,
            ⟨(some 62), none, .inl (.pick (.t 59) (.t 61) (.c (.bool false)))⟩])
         (.keep [0, 1, 2, 3, 4, 12, 14, 62]))
         (.cond (.t 62)
           (.skip)
           (.exit 0)))
         (.seq (.block 1 (.seq (.seq (.seq (.reg [⟨(some 65), none, .inl (.mv (.t 1))⟩,
             ⟨(some 66), none, .inl (.mv (.t 14))⟩,
             ⟨(some 67), none, .inl (.iaddr 5 (.t 65) (.t 66))⟩,
             ⟨(some 68), none, .inl (.faddr 3 (.t 67))⟩,
             ⟨(some 69), none, .inl (.load false 1 (.t 68))⟩,
             ⟨(some 70), none, .inl (.len (.t 69))⟩,
             ⟨(some 71), none, .inl (.bin .gtr (.t 70) (.c (.int .i64 4096)))⟩])
          (.keep [0, 1, 2, 3, 4, 12, 14, 71]))
          (.cond (.t 71)
            (.seq (.seq (.reg [⟨(some 10), none, .inl (.mv (.c (.bool true)))⟩])
             (.keep [10]))
             (.ret))
            (.skip)))
          (.seq (.reg [⟨(some 72), none, .inl (.mv (.t 12))⟩,
              ⟨(some 73), none, .inl (.mv (.t 1))⟩,
              ⟨(some 74), none, .inl (.mv (.t 14))⟩,
              ⟨(some 75), none, .inl (.iaddr 5 (.t 73) (.t 74))⟩,
              ⟨(some 76), none, .inl (.load true 5 (.t 75))⟩,
              ⟨(some 77), none, .inr (.call 10 [(.t 72), (.t 76)])⟩])
           (.keep [0, 1, 2, 3, 4, 12, 14]))))
          (.seq (.reg [⟨(some 63), none, .inl (.mv (.t 14))⟩,
              ⟨(some 64), none, .inl (.bin .add (.t 63) (.c (.int .i64 1)))⟩,
              ⟨(some 14), none, .inl (.mv (.t 64))⟩])
           (.keep [0, 1, 2, 3, 4, 12, 14])))))))
        (.seq (.seq (.reg [⟨(some 78), none, .inl (.mv (.t 12))⟩,
            ⟨(some 79), none, .inl (.mv (.t 2))⟩,
            ⟨(some 80), none, .inl (.mv (.t 3))⟩,
            ⟨(some 81), none, .inr (.call 11 [(.t 78), (.t 79), (.t 80)])⟩,
            ⟨(some 82), none, .inl (.bin .eql (.t 81) (.c (.int .i64 0)))⟩,
            ⟨(some 83), none, .inl (.mv (.t 82))⟩,
            ⟨(some 84), (some (83, true)), .inl (.mv (.t 12))⟩,
            ⟨(some 85), (some (83, true)), .inl (.mv (.t 2))⟩,
            ⟨(some 86), (some (83, true)), .inl (.mv (.t 3))⟩,
            ⟨(some 87), (some (83, true)), .inl (.len (.t 86))⟩,
            ⟨(some 88), (some (83, true)), .inr (.call 12 [(.t 84), (.t 85), (.t 87)])⟩,
            ⟨(some 89), (some (83, true)), .inl (.bin .eql (.t 88) (.c (.int .i64 0)))⟩,
            ⟨(some 90), none, .inl (.pick (.t 83) (.t 89) (.c (.bool false)))⟩,
            ⟨(some 91), none, .inl (.mv (.t 90))⟩,
            ⟨(some 92), (some (91, true)), .inl (.mv (.t 12))⟩,
            ⟨(some 93), (some (91, true)), .inr (.call 13 [(.t 92)])⟩,
            ⟨(some 94), (some (91, true)), .inl (.bin .eql (.t 93) (.c (.int .i64 0)))⟩,
            ⟨(some 95), none, .inl (.pick (.t 91) (.t 94) (.c (.bool false)))⟩,
            ⟨(some 15), none, .inl (.mv (.t 95))⟩])
         (.keep [0, 2, 3, 4, 12, 15]))
         (.seq (.seq (.reg [⟨(some 96), none, .inl (.mv (.t 12))⟩,
             ⟨(some 97), none, .inr (.call 14 [(.t 96)])⟩,
             ⟨(some 16), none, .inl (.mv (.t 97))⟩])
          (.keep [0, 2, 3, 4, 12, 15, 16]))
          (.seq (.seq (.reg [⟨(some 98), none, .inl (.mv (.t 12))⟩,
              ⟨(some 99), none, .inr (.call 15 [(.t 98)])⟩,
              ⟨(some 17), none, .inl (.mv (.t 99))⟩])
           (.keep [0, 2, 3, 4, 12, 15, 16, 17]))
           (.seq (.seq (.reg [⟨(some 100), none, .inl (.mv (.t 12))⟩,
               ⟨(some 101), none, .inl (.mv (.t 4))⟩,
               ⟨(some 102), none, .inr (.call 16 [(.t 100), (.t 101)])⟩])
            (.keep [0, 2, 3, 12, 15, 16, 17]))
            (.seq (.seq (.reg [⟨(some 103), none, .inl (.mv (.t 12))⟩,
                ⟨(some 104), none, .inr (.call 14 [(.t 103)])⟩,
                ⟨(some 18), none, .inl (.mv (.t 104))⟩])
             (.keep [0, 2, 3, 12, 15, 16, 17, 18]))
             (.seq (.seq (.reg [⟨(some 105), none, .inl (.mv (.t 12))⟩,
                 ⟨(some 106), none, .inr (.call 15 [(.t 105)])⟩,
                 ⟨(some 19), none, .inl (.mv (.t 106))⟩])
              (.keep [0, 2, 3, 12, 15, 16, 17, 18, 19]))
              (.seq (.seq (.seq (.reg [⟨(some 107), none, .inl (.mv (.t 18))⟩,
                  ⟨(some 108), none, .inl (.len (.t 107))⟩,
                  ⟨(some 109), none, .inl (.mv (.t 0))⟩,
                  ⟨(some 110), none, .inl (.len (.t 109))⟩,
                  ⟨(some 111), none, .inl (.bin .neq (.t 108) (.t 110))⟩,
                  ⟨(some 112), none, .inl (.mv (.t 111))⟩,
                  ⟨(some 113), (some (112, false)), .inl (.mv (.t 16))⟩,
                  ⟨(some 114), (some (112, false)), .inl (.len (.t 113))⟩,
                  ⟨(some 115), (some (112, false)), .inl (.mv (.t 0))⟩,
                  ⟨(some 116), (some (112, false)), .inl (.len (.t 115))⟩,
                  ⟨(some 117), (some (112, false)), .inl (.bin .neq (.t 114) (.t 116))⟩,
                  ⟨(some 118), none, .inl (.pick (.t 112) (.c (.bool true)) (.t 117))⟩,
                  ⟨(some 119), none, .inl (.mv (.t 118))⟩,
                  ⟨(some 120), (some (119, false)), .inl (.mv (.t 17))⟩,
                  ⟨(some 121), (some (119, false)), .inl (.len (.t 120))⟩,
                  ⟨(some 122), (some (119, false)), .inl (.mv (.t 0))⟩,
                  ⟨(some 123), (some (119, false)), .inl (.len (.t 122))⟩,
                  ⟨(some 124), (some (119, false)), .inl (.bin .neq (.t 121) (.t 123))⟩,
                  ⟨(some 125), none, .inl (.pick (.t 119) (.c (.bool true)) (.t 124))⟩,
                  ⟨(some 126), none, .inl (.mv (.t 125))⟩,
                  ⟨(some 127), (some (126, false)), .inl (.mv (.t 19))⟩,
                  ⟨(some 128), (some (126, false)), .inl (.b2s (.t 127))⟩,
                  ⟨(some 129), (some (126, false)), .inl (.mv (.t 18))⟩,
                  ⟨(some 130), (some (126, false)), .inl (.b2s (.t 129))⟩,
                  ⟨(some 131), (some (126, false)), .inl (.bins .neq (.t 128) (.t 130))⟩,
                  ⟨(some 132), none, .inl (.pick (.t 126) (.c (.bool true)) (.t 131))⟩,
                  ⟨(some 133), none, .inl (.mv (.t 132))⟩,
                  ⟨(some 134), (some (133, false)), .inl (.mv (.t 12))⟩,
                  ⟨(some 135), (some (133, false)), .inr (.call 17 [(.t 134)])⟩,
                  ⟨(some 136), none, .inl (.pick (.t 133) (.c (.bool true)) (.t 135))⟩,
                  ⟨(some 137), none, .inl (.mv (.t 136))⟩,
                  ⟨(some 138), (some (137, false)), .inl (.mv (.t 12))⟩,
                  ⟨(some 139), (some (137, false)), .inr (.call 18 [(.t 138)])⟩,
                  ⟨(some 140), (some (137, false)), .inl (.len (.t 139))⟩,
                  ⟨(some 141), (some (137, false)), .inl (.bin .neq (.t 140) (.c (.int .i64 0)))⟩,
                  ⟨(some 142), none, .inl (.pick (.t 137) (.c (.bool true)) (.t 141))⟩])
               (.keep [2, 3, 15, 16, 17, 18, 142]))
               (.cond (.t 142)
                 (.seq (.seq (.reg [⟨(some 10), none, .inl (.mv (.c (.bool false)))⟩])
                  (.keep [10]))
                  (.ret))
                 (.skip)))
               (.seq (.seq (.seq (.reg [⟨(some 20), none, .inl (.mv (.c (.int .i64 0)))⟩])
                (.keep [2, 3, 15, 16, 17, 18, 20]))
                (.block 2 (.loop [2, 3, 15, 16, 17, 18, 20] (.seq (.seq (.seq (.reg [⟨(some 143), none, .inl (.mv (.t 20))⟩,
                    ⟨(some 144), none, .inl (.mv (.t 18))⟩,
                    ⟨(some 145), none, .inl (.len (.t 144))⟩,
                    ⟨(some 146), none, .inl (.bin .lss (.t 143) (.t 145))⟩])
                 (.keep [2, 3, 15, 16, 17, 18, 20, 146]))
                 (.cond (.t 146)
                   (.skip)
                   (.exit 2)))
                 (.seq (.block 3 (.seq (.seq (.reg [⟨(some 149), none, .inl (.mv (.t 18))⟩,
                     ⟨(some 150), none, .inl (.mv (.t 20))⟩,
                     ⟨(some 151), none, .inl (.mv (.t 20))⟩,
                     ⟨(some 152), none, .inl (.bin .add (.t 151) (.c (.int .i64 64)))⟩,
                     ⟨(some 153), none, .inl (.slice 1 (.t 149) (some (.t 150)) (some (.t 152)) none)⟩,
                     ⟨(some 154), none, .inl (.b2s (.t 153))⟩,
                     ⟨(some 21), none, .inl (.mv (.t 154))⟩])
                  (.keep [2, 3, 15, 16, 17, 18, 20, 21]))
                  (.seq (.seq (.reg [⟨(some 155), none, .inl (.mv (.t 21))⟩,
                      ⟨(some 156), none, .inl (.mv (.t 16))⟩,
                      ⟨(some 157), none, .inl (.mv (.t 20))⟩,
                      ⟨(some 158), none, .inl (.mv (.t 20))⟩,
                      ⟨(some 159), none, .inl (.bin .add (.t 158) (.c (.int .i64 64)))⟩,
                      ⟨(some 160), none, .inl (.slice 1 (.t 156) (some (.t 157)) (some (.t 159)) none)⟩,
                      ⟨(some 161), none, .inl (.b2s (.t 160))⟩,
                      ⟨(some 162), none, .inl (.bins .neq (.t 155) (.t 161))⟩,
                      ⟨(some 163), none, .inl (.mv (.t 162))⟩,
                      ⟨(some 164), (some (163, true)), .inl (.mv (.t 21))⟩,
                      ⟨(some 165), (some (163, true)), .inl (.mv (.t 17))⟩,
                      ⟨(some 166), (some (163, true)), .inl (.mv (.t 20))⟩,
                      ⟨(some 167), (some (163, true)), .inl (.mv (.t 20))⟩,
                      ⟨(some 168), (some (163, true)), .inl (.bin .add (.t 167) (.c (.int .i64 64)))⟩,
                      ⟨(some 169), (some (163, true)), .inl (.slice 1 (.t 165) (some (.t 166)) (some (.t 168)) none)⟩,
                      ⟨(some 170), (some (163, true)), .inl (.b2s (.t 169))⟩,
                      ⟨(some 171), (some (163, true)), .inl (.bins .neq (.t 164) (.t 170))⟩,
                      ⟨(some 172), none, .inl (.pick (.t 163) (.t 171) (.c (.bool false)))⟩])
                   (.keep [2, 3, 15, 16, 17, 18, 20, 172]))
                   (.cond (.t 172)
                     (.seq (.seq (.reg [⟨(some 10), none, .inl (.mv (.c (.bool false)))⟩])
                      (.keep [10]))
                      (.ret))
                     (.skip)))))
                  (.seq (.reg [⟨(some 147), none, .inl (.mv (.t 20))⟩,
                      ⟨(some 148), none, .inl (.bin .add (.t 147) (.c (.int .i64 64)))⟩,
                      ⟨(some 20), none, .inl (.mv (.t 148))⟩])
                   (.keep [2, 3, 15, 16, 17, 18, 20])))))))
                (.seq (.seq (.ord [⟨0, ⟨(some 173), none, .inl (.mv (.t 15))⟩, [], false⟩,
                    ⟨1, ⟨(some 174), none, .inl (.un .not (.t 173))⟩, [], false⟩,
                    ⟨2, ⟨(some 175), none, .inl (.mv (.t 174))⟩, [], false⟩,
                    ⟨3, ⟨(some 176), (some (175, false)), .inl (.mv (.t 18))⟩, [], false⟩,
                    ⟨4, ⟨(some 177), (some (175, false)), .inl (.mv (.t 2))⟩, [], false⟩,
                    ⟨5, ⟨(some 178), (some (175, false)), .inl (.mv (.t 2))⟩, [], false⟩,
                    ⟨6, ⟨(some 179), (some (175, false)), .inl (.mv (.t 3))⟩, [], false⟩,
                    ⟨7, ⟨(some 180), (some (175, false)), .inl (.len (.t 179))⟩, [], false⟩,
                    ⟨8, ⟨(some 181), (some (175, false)), .inl (.bin .add (.t 178) (.t 180))⟩, [], false⟩,
                    ⟨9, ⟨(some 182), (some (175, false)), .inl (.slice 1 (.t 176) (some (.t 177)) (some (.t 181)) none)⟩, [], false⟩,
                    ⟨10, ⟨(some 183), (some (175, false)), .inl (.b2s (.t 182))⟩, [], false⟩,
                    ⟨11, ⟨(some 184), (some (175, false)), .inl (.mv (.t 3))⟩, [], false⟩,
                    ⟨12, ⟨(some 185), (some (175, false)), .inl (.b2s (.t 184))⟩, [], false⟩,
                    ⟨13, ⟨(some 186), (some (175, false)), .inl (.bins .eql (.t 183) (.t 185))⟩, [], false⟩,
                    ⟨14, ⟨(some 187), none, .inl (.pick (.t 175) (.c (.bool true)) (.t 186))⟩, [], false⟩,
                    ⟨15, ⟨(some 10), none, .inl (.mv (.t 187))⟩, [], false⟩])
                 (.keep [10]))
                 (.ret)))))))))))))))
def fc_joistlaw03_PmemLasts : FC := ⟨188, cmd_joistlaw03_PmemLasts, [.t 10]⟩
theorem fc_joistlaw03_PmemLasts_ok : compF Try.prog 3 [[0, 1, 2, 3, 4], [0, 1, 2, 3, 4, 11], [0, 1, 2, 3, 4, 11, 30], [10], [0, 1, 2, 3, 4, 11, 12, 13], [0, 1, 2, 3, 4, 11, 12, 13, 46], [10], [0, 1, 2, 3, 4, 12, 14], [0, 1, 2, 3, 4, 12, 14], [0, 1, 2, 3, 4, 12, 14, 62], [0, 1, 2, 3, 4, 12, 14, 71], [10], [0, 1, 2, 3, 4, 12, 14], [0, 1, 2, 3, 4, 12, 14], [0, 2, 3, 4, 12, 15], [0, 2, 3, 4, 12, 15, 16], [0, 2, 3, 4, 12, 15, 16, 17], [0, 2, 3, 12, 15, 16, 17], [0, 2, 3, 12, 15, 16, 17, 18], [0, 2, 3, 12, 15, 16, 17, 18, 19], [2, 3, 15, 16, 17, 18, 142], [10], [2, 3, 15, 16, 17, 18, 20], [2, 3, 15, 16, 17, 18, 20], [2, 3, 15, 16, 17, 18, 20, 146], [2, 3, 15, 16, 17, 18, 20, 21], [2, 3, 15, 16, 17, 18, 20, 172], [10], [2, 3, 15, 16, 17, 18, 20], [10], [0, 1, 2, 3, 4, 5, 6, 7, 8, 9, 10, 11, 12, 13, 14, 15]] = some fc_joistlaw03_PmemLasts := by kernel_rfl
/-- joist/joistlaw03.PmemCrashes -/
abbrev F.joistlaw03_PmemCrashes : Nat := 4
def cmd_joistlaw03_PmemCrashes : Cmd :=
  .seq (.seq (.reg [⟨(some 4), none, .inl (.mv (.c (.bool false)))⟩])
   (.keep [0, 1]))
   (.seq (.seq (.reg [⟨(some 15), none, .inr (.call 8 [])⟩,
       ⟨(some 5), none, .inl (.mv (.t 15))⟩])
    (.keep [0, 1, 5]))
    (.seq (.seq (.seq (.reg [⟨(some 16), none, .inl (.mv (.t 0))⟩,
        ⟨(some 17), none, .inl (.len (.t 16))⟩,
        ⟨(some 18), none, .inl (.bin .gtr (.t 17) (.c (.int .i64 2048)))⟩])
     (.keep [0, 1, 5, 18]))
     (.cond (.t 18)
       (.seq (.seq (.reg [⟨(some 19), none, .inl (.mv (.t 5))⟩,
           ⟨(some 4), none, .inl (.mv (.t 19))⟩])
        (.keep [4]))
        (.ret))
       (.skip)))
     (.seq (.seq (.reg [⟨(some 21), none, .inl (.mv (.t 0))⟩,
         ⟨(some 22), none, .inr (.call 9 [(.t 21)])⟩,
         ⟨(some 20), none, .inl (.mv (.t 22))⟩,
         ⟨(some 23), none, .inl (.ext 0 (.t 20))⟩,
         ⟨(some 24), none, .inl (.ext 1 (.t 20))⟩,
         ⟨(some 6), none, .inl (.mv (.t 23))⟩,
         ⟨(some 7), none, .inl (.mv (.t 24))⟩])
      (.keep [0, 1, 5, 6, 7]))
      (.seq (.seq (.reg [⟨(some 26), none, .inl (.mv (.t 0))⟩,
          ⟨(some 27), none, .inr (.call 9 [(.t 26)])⟩,
          ⟨(some 25), none, .inl (.mv (.t 27))⟩,
          ⟨(some 28), none, .inl (.ext 0 (.t 25))⟩,
          ⟨(some 29), none, .inl (.ext 1 (.t 25))⟩,
          ⟨(some 8), none, .inl (.mv (.t 28))⟩,
          ⟨(some 9), none, .inl (.mv (.t 29))⟩])
       (.keep [1, 5, 6, 7, 8, 9]))
       (.seq (.seq (.seq (.reg [⟨(some 30), none, .inl (.mv (.t 5))⟩,
           ⟨(some 31), none, .inl (.un .not (.t 30))⟩,
           ⟨(some 32), none, .inl (.mv (.t 31))⟩,
           ⟨(some 33), (some (32, false)), .inl (.mv (.t 7))⟩,
           ⟨(some 34), (some (32, false)), .inl (.bin .neq (.t 33) (.c (.int .i64 0)))⟩,
           ⟨(some 35), none, .inl (.pick (.t 32) (.c (.bool true)) (.t 34))⟩,
           ⟨(some 36), none, .inl (.mv (.t 35))⟩,
           ⟨(some 37), (some (36, false)), .inl (.mv (.t 9))⟩,
           ⟨(some 38), (some (36, false)), .inl (.bin .neq (.t 37) (.c (.int .i64 0)))⟩,
           ⟨(some 39), none, .inl (.pick (.t 36) (.c (.bool true)) (.t 38))⟩,
           ⟨(some 40), none, .inl (.mv (.t 39))⟩,
           ⟨(some 41), (some (40, false)), .inl (.mv (.t 6))⟩,
           ⟨(some 42), (some (40, false)), .inl (.eqnilp false (.t 41))⟩,
           ⟨(some 43), none, .inl (.pick (.t 40) (.c (.bool true)) (.t 42))⟩,
           ⟨(some 44), none, .inl (.mv (.t 43))⟩,
           ⟨(some 45), (some (44, false)), .inl (.mv (.t 8))⟩,
           ⟨(some 46), (some (44, false)), .inl (.eqnilp false (.t 45))⟩,
           ⟨(some 47), none, .inl (.pick (.t 44) (.c (.bool true)) (.t 46))⟩])
        (.keep [1, 5, 6, 7, 8, 9, 47]))
        (.cond (.t 47)
          (.seq (.seq (.reg [⟨(some 48), none, .inl (.mv (.t 5))⟩,
              ⟨(some 49), none, .inl (.mv (.t 48))⟩,
              ⟨(some 50), (some (49, true)), .inl (.mv (.t 7))⟩,
              ⟨(some 51), (some (49, true)), .inl (.mv (.t 9))⟩,
              ⟨(some 52), (some (49, true)), .inl (.bin .eql (.t 50) (.t 51))⟩,
              ⟨(some 53), none, .inl (.pick (.t 49) (.t 52) (.c (.bool false)))⟩,
              ⟨(some 54), none, .inl (.mv (.t 53))⟩,
              ⟨(some 55), (some (54, true)), .inl (.mv (.t 6))⟩,
              ⟨(some 56), (some (54, true)), .inl (.eqnilp false (.t 55))⟩,
              ⟨(some 57), (some (54, true)), .inl (.mv (.t 7))⟩,
              ⟨(some 58), (some (54, true)), .inl (.bin .neq (.t 57) (.c (.int .i64 0)))⟩,
              ⟨(some 59), (some (54, true)), .inl (.binb .eql (.t 56) (.t 58))⟩,
              ⟨(some 60), none, .inl (.pick (.t 54) (.t 59) (.c (.bool false)))⟩,
              ⟨(some 4), none, .inl (.mv (.t 60))⟩])
           (.keep [4]))
           (.ret))
          (.skip)))
        (.seq (.seq (.seq (.reg [⟨(some 10), none, .inl (.mv (.c (.int .i64 0)))⟩])
         (.keep [1, 6, 8, 10]))
         (.block 0 (.loop [1, 6, 8, 10] (.seq (.seq (.seq (.reg [⟨(some 61), none, .inl (.mv (.t 10))⟩,
             ⟨(some 62), none, .inl (.mv (.t 1))⟩,
             ⟨(some 63), none, .inl (.len (.t 62))⟩,
             ⟨(some 64), none, .inl (.bin .lss (.t 61) (.t 63))⟩,
             ⟨(some 65), none, .inl (.mv (.t 64))⟩,
             ⟨(some 66), (some (65, true)), .inl (.mv (.t 10))⟩,
             ⟨(some 67), (some (65, true)), .inl (.bin .lss (.t 66) (.c (.int .i64 40)))⟩,
             ⟨(some 68), none, .inl (.pick (.t 65) (.t 67) (.c (.bool false)))⟩])
          (.keep [1, 6, 8, 10, 68]))
          (.cond (.t 68)
            (.skip)
            (.exit 0)))
          (.seq (.block 1 (.seq (.seq (.seq (.reg [⟨(some 71), none, .inl (.mv (.t 1))⟩,
              ⟨(some 72), none, .inl (.mv (.t 10))⟩,
              ⟨(some 73), none, .inl (.iaddr 5 (.t 71) (.t 72))⟩,
              ⟨(some 74), none, .inl (.faddr 3 (.t 73))⟩,
              ⟨(some 75), none, .inl (.load false 1 (.t 74))⟩,
              ⟨(some 76), none, .inl (.len (.t 75))⟩,
              ⟨(some 77), none, .inl (.bin .gtr (.t 76) (.c (.int .i64 4096)))⟩,
              ⟨(some 78), none, .inl (.mv (.t 77))⟩,
              ⟨(some 79), (some (78, false)), .inl (.mv (.t 1))⟩,
              ⟨(some 80), (some (78, false)), .inl (.mv (.t 10))⟩,
              ⟨(some 81), (some (78, false)), .inl (.iaddr 5 (.t 79) (.t 80))⟩,
              ⟨(some 82), (some (78, false)), .inl (.faddr 0 (.t 81))⟩,
              ⟨(some 83), (some (78, false)), .inl (.load false 1 (.t 82))⟩,
              ⟨(some 84), (some (78, false)), .inl (.bin .eql (.t 83) (.c (.int .i64 4)))⟩,
              ⟨(some 85), none, .inl (.pick (.t 78) (.c (.bool true)) (.t 84))⟩,
              ⟨(some 86), none, .inl (.mv (.t 85))⟩,
              ⟨(some 87), (some (86, false)), .inl (.mv (.t 1))⟩,
              ⟨(some 88), (some (86, false)), .inl (.mv (.t 10))⟩,
              ⟨(some 89), (some (86, false)), .inl (.iaddr 5 (.t 87) (.t 88))⟩,
              ⟨(some 90), (some (86, false)), .inl (.faddr 0 (.t 89))⟩,
              ⟨(some 91), (some (86, false)), .inl (.load false 1 (.t 90))⟩,
              ⟨(some 92), (some (86, false)), .inl (.bin .eql (.t 91) (.c (.int .i64 5)))⟩,
              ⟨(some 93), none, .inl (.pick (.t 86) (.c (.bool true)) (.t 92))⟩])
           (.keep [1, 6, 8, 10, 93]))
           (.cond (.t 93)
             (.exit 1)
             (.skip)))
           (.seq (.seq (.reg [⟨(some 94), none, .inl (.mv (.t 6))⟩,
               ⟨(some 95), none, .inl (.mv (.t 1))⟩,
               ⟨(some 96), none, .inl (.mv (.t 10))⟩,
               ⟨(some 97), none, .inl (.iaddr 5 (.t 95) (.t 96))⟩,
               ⟨(some 98), none, .inl (.load true 5 (.t 97))⟩,
               ⟨(some 99), none, .inr (.call 10 [(.t 94), (.t 98)])⟩])
            (.keep [1, 6, 8, 10]))
            (.seq (.reg [⟨(some 100), none, .inl (.mv (.t 8))⟩,
                ⟨(some 101), none, .inl (.mv (.t 1))⟩,
                ⟨(some 102), none, .inl (.mv (.t 10))⟩,
                ⟨(some 103), none, .inl (.iaddr 5 (.t 101) (.t 102))⟩,
                ⟨(some 104), none, .inl (.load true 5 (.t 103))⟩,
                ⟨(some 105), none, .inr (.call 10 [(.t 100), (.t 104)])⟩])
             (.keep [1, 6, 8, 10])))))
           (.seq (.reg [⟨(some 69), none, .inl (.mv (.t 10))⟩,
               ⟨(some 70), none, .inl (.bin .add (.t 69) (.c (.int .i64 1)))⟩,
               ⟨(some 10), none, .inl (.mv (.t 70))⟩])
            (.keep [1, 6, 8, 10])))))))
         (.seq (.seq (.reg [⟨(some 106), none, .inl (.mv (.t 6))⟩,
             ⟨(some 107), none, .inr (.call 15 [(.t 106)])⟩,
             ⟨(some 108), none, .inl (.b2s (.t 107))⟩,
             ⟨(some 11), none, .inl (.mv (.t 108))⟩])
          (.keep [6, 8, 11]))
          (.seq (.seq (.reg [⟨(some 109), none, .inl (.mv (.t 6))⟩,
              ⟨(some 110), none, .inr (.call 14 [(.t 109)])⟩,
              ⟨(some 111), none, .inl (.b2s (.t 110))⟩,
              ⟨(some 12), none, .inl (.mv (.t 111))⟩])
           (.keep [6, 8, 11, 12]))
           (.seq (.seq (.reg [⟨(some 112), none, .inl (.mv (.t 6))⟩,
               ⟨(some 113), none, .inr (.call 19 [(.t 112)])⟩,
               ⟨(some 114), none, .inr (.mksl 1 1 [(.bool false)] (.t 113) (.t 113))⟩,
               ⟨(some 13), none, .inl (.mv (.t 114))⟩])
            (.keep [6, 8, 11, 12, 13]))
            (.seq (.seq (.seq (.reg [⟨(some 14), none, .inl (.mv (.c (.int .i64 0)))⟩])
             (.keep [6, 8, 11, 12, 13, 14]))
             (.block 2 (.loop [6, 8, 11, 12, 13, 14] (.seq (.seq (.seq (.reg [⟨(some 115), none, .inl (.mv (.t 14))⟩,
                 ⟨(some 116), none, .inl (.mv (.t 13))⟩,
                 ⟨(some 117), none, .inl (.len (.t 116))⟩,
                 ⟨(some 118), none, .inl (.bin .lss (.t 115) (.t 117))⟩])
              (.keep [6, 8, 11, 12, 13, 14, 118]))
              (.cond (.t 118)
                (.skip)
                (.exit 2)))
              (.seq (.block 3 (.seq (.reg [⟨(some 121), none, .inl (.mv (.t 13))⟩,
                  ⟨(some 122), none, .inl (.mv (.t 14))⟩,
                  ⟨(some 123), none, .inl (.iaddr 1 (.t 121) (.t 122))⟩,
                  ⟨none, none, .inr (.store 1 (.t 123) (.c (.bool true)))⟩])
               (.keep [6, 8, 11, 12, 13, 14])))
               (.seq (.reg [⟨(some 119), none, .inl (.mv (.t 14))⟩,
                   ⟨(some 120), none, .inl (.bin .add (.t 119) (.c (.int .i64 1)))⟩,
                   ⟨(some 14), none, .inl (.mv (.t 120))⟩])
                (.keep [6, 8, 11, 12, 13, 14])))))))
             (.seq (.seq (.reg [⟨(some 124), none, .inl (.mv (.t 6))⟩,
                 ⟨(some 125), none, .inl (.mv (.t 13))⟩,
                 ⟨(some 126), none, .inr (.call 16 [(.t 124), (.t 125)])⟩])
              (.keep [6, 8, 11, 12, 13]))
              (.seq (.seq (.reg [⟨(some 127), none, .inl (.mv (.t 8))⟩,
                  ⟨(some 128), none, .inl (.mv (.t 13))⟩,
                  ⟨(some 129), none, .inl (.len (.t 128))⟩,
                  ⟨(some 130), none, .inr (.mksl 1 1 [(.bool false)] (.t 129) (.t 129))⟩,
                  ⟨(some 131), none, .inr (.call 16 [(.t 127), (.t 130)])⟩])
               (.keep [6, 8, 11, 12]))
               (.seq (.seq (.reg [⟨(some 132), none, .inl (.mv (.t 6))⟩,
                   ⟨(some 133), none, .inr (.call 14 [(.t 132)])⟩,
                   ⟨(some 134), none, .inl (.b2s (.t 133))⟩,
                   ⟨(some 135), none, .inl (.mv (.t 11))⟩,
                   ⟨(some 136), none, .inl (.bins .eql (.t 134) (.t 135))⟩,
                   ⟨(some 137), none, .inl (.mv (.t 136))⟩,
                   ⟨(some 138), (some (137, true)), .inl (.mv (.t 8))⟩,
                   ⟨(some 139), (some (137, true)), .inr (.call 14 [(.t 138)])⟩,
                   ⟨(some 140), (some (137, true)), .inl (.b2s (.t 139))⟩,
                   ⟨(some 141), (some (137, true)), .inl (.mv (.t 12))⟩,
                   ⟨(some 142), (some (137, true)), .inl (.bins .eql (.t 140) (.t 141))⟩,
                   ⟨(some 143), none, .inl (.pick (.t 137) (.t 142) (.c (.bool false)))⟩,
                   ⟨(some 144), none, .inl (.mv (.t 143))⟩,
                   ⟨(some 145), (some (144, true)), .inl (.mv (.t 6))⟩,
                   ⟨(some 146), (some (144, true)), .inr (.call 15 [(.t 145)])⟩,
                   ⟨(some 147), (some (144, true)), .inl (.b2s (.t 146))⟩,
                   ⟨(some 148), (some (144, true)), .inl (.mv (.t 11))⟩,
                   ⟨(some 149), (some (144, true)), .inl (.bins .eql (.t 147) (.t 148))⟩,
                   ⟨(some 150), none, .inl (.pick (.t 144) (.t 149) (.c (.bool false)))⟩,
                   ⟨(some 151), none, .inl (.mv (.t 150))⟩,
                   ⟨(some 152), (some (151, true)), .inl (.mv (.t 6))⟩,
                   ⟨(some 153), (some (151, true)), .inr (.call 18 [(.t 152)])⟩,
                   ⟨(some 154), (some (151, true)), .inl (.len (.t 153))⟩,
                   ⟨(some 155), (some (151, true)), .inl (.mv (.t 8))⟩,
                   ⟨(some 156), (some (151, true)), .inr (.call 18 [(.t 155)])⟩,
                   ⟨(some 157), (some (151, true)), .inl (.len (.t 156))⟩,
                   ⟨(some 158), (some (151, true)), .inl (.bin .add (.t 154) (.t 157))⟩,
                   ⟨(some 159), (some (151, true)), .inl (.bin .eql (.t 158) (.c (.int .i64 0)))⟩,
                   ⟨(some 160), none, .inl (.pick (.t 151) (.t 159) (.c (.bool false)))⟩,
                   ⟨(some 4), none, .inl (.mv (.t 160))⟩])
                (.keep [4]))
                (.ret))))))))))))))
def fc_joistlaw03_PmemCrashes : FC := ⟨161, cmd_joistlaw03_PmemCrashes, [.t 4]⟩
theorem fc_joistlaw03_PmemCrashes_ok : compF Try.prog 4 [[0, 1], [0, 1, 5], [0, 1, 5, 18], [4], [0, 1, 5, 6, 7], [1, 5, 6, 7, 8, 9], [1, 5, 6, 7, 8, 9, 47], [4], [1, 6, 8, 10], [1, 6, 8, 10], [1, 6, 8, 10, 68], [1, 6, 8, 10, 93], [1, 6, 8, 10], [1, 6, 8, 10], [1, 6, 8, 10], [6, 8, 11], [6, 8, 11, 12], [6, 8, 11, 12, 13], [6, 8, 11, 12, 13, 14], [6, 8, 11, 12, 13, 14], [6, 8, 11, 12, 13, 14, 118], [6, 8, 11, 12, 13, 14], [6, 8, 11, 12, 13, 14], [6, 8, 11, 12, 13], [6, 8, 11, 12], [4]] = some fc_joistlaw03_PmemCrashes := by kernel_rfl
/-- joist/joistlaw03.PmemFails -/
abbrev F.joistlaw03_PmemFails : Nat := 5
def cmd_joistlaw03_PmemFails : Cmd :=
  .seq (.seq (.reg [⟨(some 6), none, .inl (.mv (.c (.bool false)))⟩])
   (.keep [0, 1, 2]))
   (.seq (.seq (.reg [⟨(some 20), none, .inr (.call 8 [])⟩,
       ⟨(some 7), none, .inl (.mv (.t 20))⟩])
    (.keep [0, 1, 2, 7]))
    (.seq (.seq (.seq (.reg [⟨(some 21), none, .inl (.mv (.t 0))⟩,
        ⟨(some 22), none, .inl (.len (.t 21))⟩,
        ⟨(some 23), none, .inl (.bin .gtr (.t 22) (.c (.int .i64 2048)))⟩])
     (.keep [0, 1, 2, 7, 23]))
     (.cond (.t 23)
       (.seq (.seq (.reg [⟨(some 24), none, .inl (.mv (.t 7))⟩,
           ⟨(some 6), none, .inl (.mv (.t 24))⟩])
        (.keep [6]))
        (.ret))
       (.skip)))
     (.seq (.seq (.reg [⟨(some 26), none, .inl (.mv (.t 0))⟩,
         ⟨(some 27), none, .inr (.call 9 [(.t 26)])⟩,
         ⟨(some 25), none, .inl (.mv (.t 27))⟩,
         ⟨(some 28), none, .inl (.ext 0 (.t 25))⟩,
         ⟨(some 29), none, .inl (.ext 1 (.t 25))⟩,
         ⟨(some 8), none, .inl (.mv (.t 28))⟩,
         ⟨(some 9), none, .inl (.mv (.t 29))⟩])
      (.keep [1, 2, 7, 8, 9]))
      (.seq (.seq (.seq (.reg [⟨(some 30), none, .inl (.mv (.t 7))⟩,
          ⟨(some 31), none, .inl (.un .not (.t 30))⟩,
          ⟨(some 32), none, .inl (.mv (.t 31))⟩,
          ⟨(some 33), (some (32, false)), .inl (.mv (.t 9))⟩,
          ⟨(some 34), (some (32, false)), .inl (.bin .neq (.t 33) (.c (.int .i64 0)))⟩,
          ⟨(some 35), none, .inl (.pick (.t 32) (.c (.bool true)) (.t 34))⟩,
          ⟨(some 36), none, .inl (.mv (.t 35))⟩,
          ⟨(some 37), (some (36, false)), .inl (.mv (.t 8))⟩,
          ⟨(some 38), (some (36, false)), .inl (.eqnilp false (.t 37))⟩,
          ⟨(some 39), none, .inl (.pick (.t 36) (.c (.bool true)) (.t 38))⟩])
       (.keep [1, 2, 7, 8, 9, 39]))
       (.cond (.t 39)
         (.seq (.seq (.reg [⟨(some 40), none, .inl (.mv (.t 7))⟩,
             ⟨(some 41), none, .inl (.mv (.t 40))⟩,
             ⟨(some 42), (some (41, true)), .inl (.mv (.t 9))⟩,
             ⟨(some 43), (some (41, true)), .inl (.bin .neq (.t 42) (.c (.int .i64 0)))⟩,
             ⟨(some 44), (some (41, true)), .inl (.mv (.t 8))⟩,
             ⟨(some 45), (some (41, true)), .inl (.eqnilp false (.t 44))⟩,
             ⟨(some 46), (some (41, true)), .inl (.binb .eql (.t 43) (.t 45))⟩,
             ⟨(some 47), none, .inl (.pick (.t 41) (.t 46) (.c (.bool false)))⟩,
             ⟨(some 6), none, .inl (.mv (.t 47))⟩])
          (.keep [6]))
          (.ret))
         (.skip)))
       (.seq (.seq (.reg [⟨(some 48), none, .inl (.mv (.t 1))⟩,
           ⟨(some 49), none, .inl (.bin .and (.t 48) (.c (.int .i64 7)))⟩,
           ⟨(some 50), none, .inl (.bin .add (.c (.int .i64 1)) (.t 49))⟩,
           ⟨(some 10), none, .inl (.mv (.t 50))⟩])
        (.keep [2, 8, 10]))
        (.seq (.seq (.reg [⟨(some 51), none, .inl (.mv (.t 8))⟩,
            ⟨(some 52), none, .inl (.mv (.t 10))⟩,
            ⟨(some 53), none, .inr (.call 20 [(.t 51), (.t 52)])⟩])
         (.keep [2, 8, 10]))
         (.seq (.seq (.seq (.reg [⟨(some 11), none, .inl (.mv (.c (.int .i64 0)))⟩])
          (.keep [2, 8, 10, 11]))
          (.block 0 (.loop [2, 8, 10, 11] (.seq (.seq (.seq (.reg [⟨(some 54), none, .inl (.mv (.t 11))⟩,
              ⟨(some 55), none, .inl (.mv (.t 2))⟩,
              ⟨(some 56), none, .inl (.len (.t 55))⟩,
              ⟨(some 57), none, .inl (.bin .lss (.t 54) (.t 56))⟩,
              ⟨(some 58), none, .inl (.mv (.t 57))⟩,
              ⟨(some 59), (some (58, true)), .inl (.mv (.t 11))⟩,
              ⟨(some 60), (some (58, true)), .inl (.bin .lss (.t 59) (.c (.int .i64 40)))⟩,
              ⟨(some 61), none, .inl (.pick (.t 58) (.t 60) (.c (.bool false)))⟩])
           (.keep [2, 8, 10, 11, 61]))
           (.cond (.t 61)
             (.skip)
             (.exit 0)))
           (.seq (.block 1 (.seq (.seq (.reg [⟨(some 64), none, .inl (.mv (.t 2))⟩,
               ⟨(some 65), none, .inl (.mv (.t 11))⟩,
               ⟨(some 66), none, .inl (.iaddr 5 (.t 64) (.t 65))⟩,
               ⟨(some 67), none, .inl (.load true 5 (.t 66))⟩,
               ⟨(some 12), none, .inr (.alloc [(.int .i64 0), (.int .i64 0), (.int .i64 0), .nils, .nils])⟩,
               ⟨none, none, .inr (.store 5 (.t 12) (.t 67))⟩])
            (.keep [2, 8, 10, 11, 12]))
            (.seq (.seq (.seq (.reg [⟨(some 68), none, .inl (.faddr 0 (.t 12))⟩,
                ⟨(some 69), none, .inl (.load false 1 (.t 68))⟩,
                ⟨(some 70), none, .inl (.bin .lss (.t 69) (.c (.int .i64 1)))⟩,
                ⟨(some 71), none, .inl (.mv (.t 70))⟩,
                ⟨(some 72), (some (71, false)), .inl (.faddr 0 (.t 12))⟩,
                ⟨(some 73), (some (71, false)), .inl (.load false 1 (.t 72))⟩,
                ⟨(some 74), (some (71, false)), .inl (.bin .gtr (.t 73) (.c (.int .i64 3)))⟩,
                ⟨(some 75), none, .inl (.pick (.t 71) (.c (.bool true)) (.t 74))⟩,
                ⟨(some 76), none, .inl (.mv (.t 75))⟩,
                ⟨(some 77), (some (76, false)), .inl (.faddr 3 (.t 12))⟩,
                ⟨(some 78), (some (76, false)), .inl (.load false 1 (.t 77))⟩,
                ⟨(some 79), (some (76, false)), .inl (.len (.t 78))⟩,
                ⟨(some 80), (some (76, false)), .inl (.bin .gtr (.t 79) (.c (.int .i64 4096)))⟩,
                ⟨(some 81), none, .inl (.pick (.t 76) (.c (.bool true)) (.t 80))⟩])
             (.keep [2, 8, 10, 11, 12, 81]))
             (.cond (.t 81)
               (.exit 1)
               (.skip)))
             (.seq (.seq (.reg [⟨(some 82), none, .inl (.mv (.t 8))⟩,
                 ⟨(some 83), none, .inr (.call 15 [(.t 82)])⟩,
                 ⟨(some 84), none, .inl (.b2s (.t 83))⟩,
                 ⟨(some 13), none, .inl (.mv (.t 84))⟩])
              (.keep [2, 8, 10, 11, 12, 13]))
              (.seq (.seq (.reg [⟨(some 85), none, .inl (.mv (.t 8))⟩,
                  ⟨(some 86), none, .inr (.call 18 [(.t 85)])⟩,
                  ⟨(some 87), none, .inl (.len (.t 86))⟩,
                  ⟨(some 14), none, .inl (.mv (.t 87))⟩])
               (.keep [2, 8, 10, 11, 12, 13, 14]))
               (.seq (.seq (.reg [⟨(some 15), none, .inl (.mv (.c (.int .i64 0)))⟩])
                (.keep [2, 8, 10, 11, 12, 13, 14, 15]))
                (.seq (.seq (.seq (.reg [⟨(some 88), none, .inl (.faddr 0 (.t 12))⟩,
                    ⟨(some 89), none, .inl (.load false 1 (.t 88))⟩,
                    ⟨(some 90), none, .inl (.bin .eql (.t 89) (.c (.int .i64 1)))⟩])
                 (.keep [2, 8, 10, 11, 12, 13, 14, 15, 90]))
                 (.cond (.t 90)
                   (.seq (.reg [⟨(some 91), none, .inl (.mv (.t 8))⟩,
                       ⟨(some 92), none, .inl (.faddr 1 (.t 12))⟩,
                       ⟨(some 93), none, .inl (.load false 1 (.t 92))⟩,
                       ⟨(some 94), none, .inl (.faddr 3 (.t 12))⟩,
                       ⟨(some 95), none, .inl (.load false 1 (.t 94))⟩,
                       ⟨(some 96), none, .inr (.call 11 [(.t 91), (.t 93), (.t 95)])⟩,
                       ⟨(some 15), none, .inl (.mv (.t 96))⟩])
                    (.keep [2, 8, 10, 11, 12, 13, 14, 15]))
                   (.skip)))
                 (.seq (.seq (.seq (.reg [⟨(some 97), none, .inl (.faddr 0 (.t 12))⟩,
                     ⟨(some 98), none, .inl (.load false 1 (.t 97))⟩,
                     ⟨(some 99), none, .inl (.bin .eql (.t 98) (.c (.int .i64 2)))⟩])
                  (.keep [2, 8, 10, 11, 12, 13, 14, 15, 99]))
                  (.cond (.t 99)
                    (.seq (.reg [⟨(some 100), none, .inl (.mv (.t 8))⟩,
                        ⟨(some 101), none, .inl (.faddr 1 (.t 12))⟩,
                        ⟨(some 102), none, .inl (.load false 1 (.t 101))⟩,
                        ⟨(some 103), none, .inl (.faddr 2 (.t 12))⟩,
                        ⟨(some 104), none, .inl (.load false 1 (.t 103))⟩,
                        ⟨(some 105), none, .inr (.call 12 [(.t 100), (.t 102), (.t 104)])⟩,
                        ⟨(some 15), none, .inl (.mv (.t 105))⟩])
                     (.keep [2, 8, 10, 11, 12, 13, 14, 15]))
                    (.skip)))
                  (.seq (.seq (.seq (.reg [⟨(some 106), none, .inl (.faddr 0 (.t 12))⟩,
                      ⟨(some 107), none, .inl (.load false 1 (.t 106))⟩,
                      ⟨(some 108), none, .inl (.bin .eql (.t 107) (.c (.int .i64 3)))⟩])
                   (.keep [2, 8, 10, 11, 13, 14, 15, 108]))
                   (.cond (.t 108)
                     (.seq (.reg [⟨(some 109), none, .inl (.mv (.t 8))⟩,
                         ⟨(some 110), none, .inr (.call 13 [(.t 109)])⟩,
                         ⟨(some 15), none, .inl (.mv (.t 110))⟩])
                      (.keep [2, 8, 10, 11, 13, 14, 15]))
                     (.skip)))
                   (.seq (.seq (.seq (.reg [⟨(some 111), none, .inl (.mv (.t 10))⟩,
                       ⟨(some 112), none, .inl (.bin .gtr (.t 111) (.c (.int .i64 0)))⟩,
                       ⟨(some 113), none, .inl (.mv (.t 112))⟩,
                       ⟨(some 114), (some (113, true)), .inl (.mv (.t 15))⟩,
                       ⟨(some 115), (some (113, true)), .inl (.bin .neq (.t 114) (.c (.int .i64 1)))⟩,
                       ⟨(some 116), none, .inl (.pick (.t 113) (.t 115) (.c (.bool false)))⟩])
                    (.keep [2, 8, 10, 11, 13, 14, 15, 116]))
                    (.cond (.t 116)
                      (.seq (.reg [⟨(some 117), none, .inl (.mv (.t 10))⟩,
                          ⟨(some 118), none, .inl (.bin .sub (.t 117) (.c (.int .i64 1)))⟩,
                          ⟨(some 10), none, .inl (.mv (.t 118))⟩])
                       (.keep [2, 8, 10, 11, 13, 14, 15]))
                      (.skip)))
                    (.seq (.seq (.reg [⟨(some 119), none, .inl (.mv (.t 15))⟩,
                        ⟨(some 120), none, .inl (.bin .eql (.t 119) (.c (.int .i64 5)))⟩,
                        ⟨(some 121), none, .inl (.mv (.t 10))⟩,
                        ⟨(some 122), none, .inl (.bin .eql (.t 121) (.c (.int .i64 0)))⟩,
                        ⟨(some 123), none, .inl (.binb .neq (.t 120) (.t 122))⟩,
                        ⟨(some 124), none, .inl (.mv (.t 123))⟩,
                        ⟨(some 125), (some (124, false)), .inl (.mv (.t 8))⟩,
                        ⟨(some 126), (some (124, false)), .inr (.call 17 [(.t 125)])⟩,
                        ⟨(some 127), (some (124, false)), .inl (.mv (.t 10))⟩,
                        ⟨(some 128), (some (124, false)), .inl (.bin .eql (.t 127) (.c (.int .i64 0)))⟩,
                        ⟨(some 129), (some (124, false)), .inl (.binb .neq (.t 126) (.t 128))⟩,
                        ⟨(some 130), none, .inl (.pick (.t 124) (.c (.bool true)) (.t 129))⟩,
                        ⟨(some 131), none, .inl (.mv (.t 130))⟩,
                        ⟨(some 132), (some (131, false)), .inl (.mv (.t 10))⟩,
                        ⟨(some 133), (some (131, false)), .inl (.bin .eql (.t 132) (.c (.int .i64 0)))⟩,
                        ⟨(some 134), (some (131, false)), .inl (.mv (.t 133))⟩,
                        ⟨(some 135), (some (134, true)), .inl (.mv (.t 8))⟩,
                        ⟨(some 136), (some (134, true)), .inr (.call 15 [(.t 135)])⟩,
                        ⟨(some 137), (some (134, true)), .inl (.b2s (.t 136))⟩,
                        ⟨(some 138), (some (134, true)), .inl (.mv (.t 13))⟩,
                        ⟨(some 139), (some (134, true)), .inl (.bins .neq (.t 137) (.t 138))⟩,
                        ⟨(some 140), (some (134, true)), .inl (.mv (.t 139))⟩,
                        ⟨(some 141), (some (140, false)), .inl (.mv (.t 8))⟩,
                        ⟨(some 142), (some (140, false)), .inr (.call 18 [(.t 141)])⟩,
                        ⟨(some 143), (some (140, false)), .inl (.len (.t 142))⟩,
                        ⟨(some 144), (some (140, false)), .inl (.mv (.t 14))⟩,
                        ⟨(some 145), (some (140, false)), .inl (.bin .neq (.t 143) (.t 144))⟩,
                        ⟨(some 146), (some (134, true)), .inl (.pick (.t 140) (.c (.bool true)) (.t 145))⟩,
                        ⟨(some 147), (some (131, false)), .inl (.pick (.t 134) (.t 146) (.c (.bool false)))⟩,
                        ⟨(some 148), none, .inl (.pick (.t 131) (.c (.bool true)) (.t 147))⟩])
                     (.keep [2, 8, 10, 11, 148]))
                     (.cond (.t 148)
                       (.seq (.seq (.reg [⟨(some 6), none, .inl (.mv (.c (.bool false)))⟩])
                        (.keep [6]))
                        (.ret))
                       (.skip)))))))))))))
            (.seq (.reg [⟨(some 62), none, .inl (.mv (.t 11))⟩,
                ⟨(some 63), none, .inl (.bin .add (.t 62) (.c (.int .i64 1)))⟩,
                ⟨(some 11), none, .inl (.mv (.t 63))⟩])
             (.keep [2, 8, 10, 11])))))))
          (.seq (.seq (.seq (.reg [⟨(some 149), none, .inl (.mv (.t 10))⟩,
              ⟨(some 150), none, .inl (.bin .gtr (.t 149) (.c (.int .i64 0)))⟩])
           (.keep [8, 150]))
           (.cond (.t 150)
             (.seq (.seq (.reg [⟨(some 6), none, .inl (.mv (.c (.bool true)))⟩])
              (.keep [6]))
              (.ret))
             (.skip)))
           (.seq (.seq (.reg [⟨(some 152), none, .inl (.mv (.t 8))⟩,
               ⟨(some 153), none, .inr (.call 21 [(.t 152), (.c (.int .i64 0)), (.c (.int .i64 1))])⟩,
               ⟨(some 151), none, .inl (.mv (.t 153))⟩,
               ⟨(some 154), none, .inl (.ext 0 (.t 151))⟩,
               ⟨(some 155), none, .inl (.ext 1 (.t 151))⟩,
               ⟨(some 16), none, .inl (.mv (.t 154))⟩,
               ⟨(some 17), none, .inl (.mv (.t 155))⟩])
            (.keep [8, 17]))
            (.seq (.seq (.reg [⟨(some 156), none, .inl (.mv (.t 8))⟩,
                ⟨(some 157), none, .inr (.call 16 [(.t 156), (.c .nils)])⟩])
             (.keep [8, 17]))
             (.seq (.seq (.reg [⟨(some 159), none, .inl (.mv (.t 8))⟩,
                 ⟨(some 160), none, .inr (.call 21 [(.t 159), (.c (.int .i64 0)), (.c (.int .i64 1))])⟩,
                 ⟨(some 158), none, .inl (.mv (.t 160))⟩,
                 ⟨(some 161), none, .inl (.ext 0 (.t 158))⟩,
                 ⟨(some 162), none, .inl (.ext 1 (.t 158))⟩,
                 ⟨(some 18), none, .inl (.mv (.t 161))⟩,
                 ⟨(some 19), none, .inl (.mv (.t 162))⟩])
              (.keep [8, 17, 19]))
              (.seq (.seq (.reg [⟨(some 163), none, .inl (.mv (.t 17))⟩,
                  ⟨(some 164), none, .inl (.bin .eql (.t 163) (.c (.int .i64 5)))⟩,
                  ⟨(some 165), none, .inl (.mv (.t 164))⟩,
                  ⟨(some 166), (some (165, true)), .inl (.mv (.t 19))⟩,
                  ⟨(some 167), (some (165, true)), .inl (.bin .eql (.t 166) (.c (.int .i64 0)))⟩,
                  ⟨(some 168), none, .inl (.pick (.t 165) (.t 167) (.c (.bool false)))⟩,
                  ⟨(some 169), none, .inl (.mv (.t 168))⟩,
                  ⟨(some 170), (some (169, true)), .inl (.mv (.t 8))⟩,
                  ⟨(some 171), (some (169, true)), .inr (.call 13 [(.t 170)])⟩,
                  ⟨(some 172), (some (169, true)), .inl (.bin .eql (.t 171) (.c (.int .i64 0)))⟩,
                  ⟨(some 173), none, .inl (.pick (.t 169) (.t 172) (.c (.bool false)))⟩,
                  ⟨(some 174), none, .inl (.mv (.t 173))⟩,
                  ⟨(some 175), (some (174, true)), .inl (.mv (.t 8))⟩,
                  ⟨(some 176), (some (174, true)), .inr (.call 13 [(.t 175)])⟩,
                  ⟨(some 177), (some (174, true)), .inl (.bin .eql (.t 176) (.c (.int .i64 0)))⟩,
                  ⟨(some 178), none, .inl (.pick (.t 174) (.t 177) (.c (.bool false)))⟩,
                  ⟨(some 6), none, .inl (.mv (.t 178))⟩])
               (.keep [6]))
               (.ret)))))))))))))
def fc_joistlaw03_PmemFails : FC := ⟨179, cmd_joistlaw03_PmemFails, [.t 6]⟩
theorem fc_joistlaw03_PmemFails_ok : compF Try.prog 5 [[0, 1, 2], [0, 1, 2, 7], [0, 1, 2, 7, 23], [6], [1, 2, 7, 8, 9], [1, 2, 7, 8, 9, 39], [6], [2, 8, 10], [2, 8, 10], [2, 8, 10, 11], [2, 8, 10, 11], [2, 8, 10, 11, 61], [2, 8, 10, 11, 12], [2, 8, 10, 11, 12, 81], [2, 8, 10, 11, 12, 13], [2, 8, 10, 11, 12, 13, 14], [2, 8, 10, 11, 12, 13, 14, 15], [2, 8, 10, 11, 12, 13, 14, 15, 90], [2, 8, 10, 11, 12, 13, 14, 15], [2, 8, 10, 11, 12, 13, 14, 15, 99], [2, 8, 10, 11, 12, 13, 14, 15], [2, 8, 10, 11, 13, 14, 15, 108], [2, 8, 10, 11, 13, 14, 15], [2, 8, 10, 11, 13, 14, 15, 116], [2, 8, 10, 11, 13, 14, 15], [2, 8, 10, 11, 148], [6], [2, 8, 10, 11], [8, 150], [6], [8, 17], [8, 17], [8, 17, 19], [6]] = some fc_joistlaw03_PmemFails := by kernel_rfl
/-- joist/joistlaw03.PmemAsks -/
abbrev F.joistlaw03_PmemAsks : Nat := 6
def cmd_joistlaw03_PmemAsks : Cmd :=
  .seq (.seq (.reg [⟨(some 8), none, .inl (.mv (.c (.bool false)))⟩])
   (.keep [0, 1, 2, 3]))
   (.seq (.seq (.reg [⟨(some 16), none, .inr (.call 8 [])⟩,
       ⟨(some 9), none, .inl (.mv (.t 16))⟩])
    (.keep [0, 1, 2, 3, 9]))
    (.seq (.seq (.seq (.reg [⟨(some 17), none, .inl (.mv (.t 0))⟩,
        ⟨(some 18), none, .inl (.len (.t 17))⟩,
        ⟨(some 19), none, .inl (.bin .gtr (.t 18) (.c (.int .i64 2048)))⟩,
        ⟨(some 20), none, .inl (.mv (.t 19))⟩,
        ⟨(some 21), (some (20, false)), .inl (.mv (.t 3))⟩,
        ⟨(some 22), (some (20, false)), .inl (.len (.t 21))⟩,
        ⟨(some 23), (some (20, false)), .inl (.bin .gtr (.t 22) (.c (.int .i64 2048)))⟩,
        ⟨(some 24), none, .inl (.pick (.t 20) (.c (.bool true)) (.t 23))⟩])
     (.keep [0, 1, 2, 3, 9, 24]))
     (.cond (.t 24)
       (.seq (.seq (.reg [⟨(some 25), none, .inl (.mv (.t 9))⟩,
           ⟨(some 8), none, .inl (.mv (.t 25))⟩])
        (.keep [8]))
        (.ret))
       (.skip)))
     (.seq (.seq (.reg [⟨(some 27), none, .inl (.mv (.t 0))⟩,
         ⟨(some 28), none, .inr (.call 9 [(.t 27)])⟩,
         ⟨(some 26), none, .inl (.mv (.t 28))⟩,
         ⟨(some 29), none, .inl (.ext 0 (.t 26))⟩,
         ⟨(some 30), none, .inl (.ext 1 (.t 26))⟩,
         ⟨(some 10), none, .inl (.mv (.t 29))⟩,
         ⟨(some 11), none, .inl (.mv (.t 30))⟩])
      (.keep [0, 1, 2, 3, 9, 10, 11]))
      (.seq (.seq (.seq (.reg [⟨(some 31), none, .inl (.mv (.t 9))⟩,
          ⟨(some 32), none, .inl (.un .not (.t 31))⟩,
          ⟨(some 33), none, .inl (.mv (.t 32))⟩,
          ⟨(some 34), (some (33, false)), .inl (.mv (.t 11))⟩,
          ⟨(some 35), (some (33, false)), .inl (.bin .neq (.t 34) (.c (.int .i64 0)))⟩,
          ⟨(some 36), none, .inl (.pick (.t 33) (.c (.bool true)) (.t 35))⟩,
          ⟨(some 37), none, .inl (.mv (.t 36))⟩,
          ⟨(some 38), (some (37, false)), .inl (.mv (.t 10))⟩,
          ⟨(some 39), (some (37, false)), .inl (.eqnilp false (.t 38))⟩,
          ⟨(some 40), none, .inl (.pick (.t 37) (.c (.bool true)) (.t 39))⟩])
       (.keep [0, 1, 2, 3, 9, 10, 11, 40]))
       (.cond (.t 40)
         (.seq (.seq (.reg [⟨(some 41), none, .inl (.mv (.t 9))⟩,
             ⟨(some 42), none, .inl (.mv (.t 41))⟩,
             ⟨(some 43), (some (42, true)), .inl (.mv (.t 11))⟩,
             ⟨(some 44), (some (42, true)), .inl (.bin .neq (.t 43) (.c (.int .i64 0)))⟩,
             ⟨(some 45), (some (42, true)), .inl (.mv (.t 10))⟩,
             ⟨(some 46), (some (42, true)), .inl (.eqnilp false (.t 45))⟩,
             ⟨(some 47), (some (42, true)), .inl (.binb .eql (.t 44) (.t 46))⟩,
             ⟨(some 48), none, .inl (.pick (.t 42) (.t 47) (.c (.bool false)))⟩,
             ⟨(some 8), none, .inl (.mv (.t 48))⟩])
          (.keep [8]))
          (.ret))
         (.skip)))
       (.seq (.seq (.reg [⟨(some 49), none, .inl (.mv (.t 10))⟩,
           ⟨(some 50), none, .inr (.call 20 [(.t 49), (.c (.int .i64 1))])⟩])
        (.keep [0, 1, 2, 3, 10]))
        (.seq (.seq (.reg [⟨(some 51), none, .inl (.mv (.t 10))⟩,
            ⟨(some 52), none, .inr (.call 15 [(.t 51)])⟩,
            ⟨(some 53), none, .inl (.b2s (.t 52))⟩,
            ⟨(some 12), none, .inl (.mv (.t 53))⟩])
         (.keep [0, 1, 2, 3, 10, 12]))
         (.seq (.seq (.reg [⟨(some 54), none, .inl (.mv (.t 1))⟩,
             ⟨(some 55), none, .inl (.bin .geq (.t 54) (.c (.int .i64 0)))⟩,
             ⟨(some 56), none, .inl (.mv (.t 55))⟩,
             ⟨(some 57), (some (56, true)), .inl (.mv (.t 1))⟩,
             ⟨(some 58), (some (56, true)), .inl (.mv (.t 0))⟩,
             ⟨(some 59), (some (56, true)), .inl (.len (.t 58))⟩,
             ⟨(some 60), (some (56, true)), .inl (.bin .leq (.t 57) (.t 59))⟩,
             ⟨(some 61), none, .inl (.pick (.t 56) (.t 60) (.c (.bool false)))⟩,
             ⟨(some 62), none, .inl (.mv (.t 61))⟩,
             ⟨(some 63), (some (62, true)), .inl (.mv (.t 2))⟩,
             ⟨(some 64), (some (62, true)), .inl (.bin .geq (.t 63) (.c (.int .i64 0)))⟩,
             ⟨(some 65), none, .inl (.pick (.t 62) (.t 64) (.c (.bool false)))⟩,
             ⟨(some 66), none, .inl (.mv (.t 65))⟩,
             ⟨(some 67), (some (66, true)), .inl (.mv (.t 2))⟩,
             ⟨(some 68), (some (66, true)), .inl (.mv (.t 0))⟩,
             ⟨(some 69), (some (66, true)), .inl (.len (.t 68))⟩,
             ⟨(some 70), (some (66, true)), .inl (.mv (.t 1))⟩,
             ⟨(some 71), (some (66, true)), .inl (.bin .sub (.t 69) (.t 70))⟩,
             ⟨(some 72), (some (66, true)), .inl (.bin .leq (.t 67) (.t 71))⟩,
             ⟨(some 73), none, .inl (.pick (.t 66) (.t 72) (.c (.bool false)))⟩,
             ⟨(some 13), none, .inl (.mv (.t 73))⟩])
          (.keep [1, 2, 3, 10, 12, 13]))
          (.seq (.seq (.reg [⟨(some 75), none, .inl (.mv (.t 10))⟩,
              ⟨(some 76), none, .inl (.mv (.t 1))⟩,
              ⟨(some 77), none, .inl (.mv (.t 2))⟩,
              ⟨(some 78), none, .inr (.call 21 [(.t 75), (.t 76), (.t 77)])⟩,
              ⟨(some 74), none, .inl (.mv (.t 78))⟩,
              ⟨(some 79), none, .inl (.ext 0 (.t 74))⟩,
              ⟨(some 80), none, .inl (.ext 1 (.t 74))⟩,
              ⟨(some 14), none, .inl (.mv (.t 79))⟩,
              ⟨(some 15), none, .inl (.mv (.t 80))⟩])
           (.keep [1, 2, 3, 10, 12, 13, 15]))
           (.seq (.seq (.seq (.reg [⟨(some 81), none, .inl (.mv (.t 15))⟩,
               ⟨(some 82), none, .inl (.bin .eql (.t 81) (.c (.int .i64 0)))⟩,
               ⟨(some 83), none, .inl (.mv (.t 13))⟩,
               ⟨(some 84), none, .inl (.binb .neq (.t 82) (.t 83))⟩,
               ⟨(some 85), none, .inl (.mv (.t 84))⟩,
               ⟨(some 86), (some (85, false)), .inl (.mv (.t 15))⟩,
               ⟨(some 87), (some (85, false)), .inl (.bin .neq (.t 86) (.c (.int .i64 0)))⟩,
               ⟨(some 88), (some (85, false)), .inl (.mv (.t 87))⟩,
               ⟨(some 89), (some (88, true)), .inl (.mv (.t 15))⟩,
               ⟨(some 90), (some (88, true)), .inl (.bin .neq (.t 89) (.c (.int .i64 1)))⟩,
               ⟨(some 91), (some (85, false)), .inl (.pick (.t 88) (.t 90) (.c (.bool false)))⟩,
               ⟨(some 92), none, .inl (.pick (.t 85) (.c (.bool true)) (.t 91))⟩,
               ⟨(some 93), none, .inl (.mv (.t 92))⟩,
               ⟨(some 94), (some (93, false)), .inl (.mv (.t 10))⟩,
               ⟨(some 95), (some (93, false)), .inr (.call 17 [(.t 94)])⟩,
               ⟨(some 96), none, .inl (.pick (.t 93) (.c (.bool true)) (.t 95))⟩])
            (.keep [1, 2, 3, 10, 12, 13, 96]))
            (.cond (.t 96)
              (.seq (.seq (.reg [⟨(some 8), none, .inl (.mv (.c (.bool false)))⟩])
               (.keep [8]))
               (.ret))
              (.skip)))
            (.seq (.seq (.seq (.reg [⟨(some 97), none, .inl (.mv (.t 13))⟩,
                ⟨(some 98), none, .inl (.un .not (.t 97))⟩])
             (.keep [1, 2, 3, 10, 12, 98]))
             (.cond (.t 98)
               (.seq (.seq (.reg [⟨(some 99), none, .inl (.mv (.t 10))⟩,
                   ⟨(some 100), none, .inl (.mv (.t 1))⟩,
                   ⟨(some 101), none, .inl (.mv (.t 2))⟩,
                   ⟨(some 102), none, .inr (.call 12 [(.t 99), (.t 100), (.t 101)])⟩,
                   ⟨(some 103), none, .inl (.bin .eql (.t 102) (.c (.int .i64 1)))⟩,
                   ⟨(some 104), none, .inl (.mv (.t 103))⟩,
                   ⟨(some 105), (some (104, true)), .inl (.mv (.t 10))⟩,
                   ⟨(some 106), (some (104, true)), .inr (.call 17 [(.t 105)])⟩,
                   ⟨(some 107), (some (104, true)), .inl (.un .not (.t 106))⟩,
                   ⟨(some 108), none, .inl (.pick (.t 104) (.t 107) (.c (.bool false)))⟩,
                   ⟨(some 109), none, .inl (.mv (.t 108))⟩,
                   ⟨(some 110), (some (109, true)), .inl (.mv (.t 10))⟩,
                   ⟨(some 111), (some (109, true)), .inr (.call 15 [(.t 110)])⟩,
                   ⟨(some 112), (some (109, true)), .inl (.b2s (.t 111))⟩,
                   ⟨(some 113), (some (109, true)), .inl (.mv (.t 12))⟩,
                   ⟨(some 114), (some (109, true)), .inl (.bins .eql (.t 112) (.t 113))⟩,
                   ⟨(some 115), none, .inl (.pick (.t 109) (.t 114) (.c (.bool false)))⟩,
                   ⟨(some 116), none, .inl (.mv (.t 115))⟩,
                   ⟨(some 117), (some (116, true)), .inl (.mv (.t 10))⟩,
                   ⟨(some 118), (some (116, true)), .inr (.call 13 [(.t 117)])⟩,
                   ⟨(some 119), (some (116, true)), .inl (.bin .eql (.t 118) (.c (.int .i64 5)))⟩,
                   ⟨(some 120), none, .inl (.pick (.t 116) (.t 119) (.c (.bool false)))⟩,
                   ⟨(some 121), none, .inl (.mv (.t 120))⟩,
                   ⟨(some 122), (some (121, true)), .inl (.mv (.t 10))⟩,
                   ⟨(some 123), (some (121, true)), .inr (.call 17 [(.t 122)])⟩,
                   ⟨(some 124), none, .inl (.pick (.t 121) (.t 123) (.c (.bool false)))⟩,
                   ⟨(some 8), none, .inl (.mv (.t 124))⟩])
                (.keep [8]))
                (.ret))
               (.skip)))
             (.seq (.seq (.reg [⟨(some 125), none, .inl (.mv (.t 10))⟩,
                 ⟨(some 126), none, .inl (.mv (.t 1))⟩,
                 ⟨(some 127), none, .inl (.mv (.t 2))⟩,
                 ⟨(some 128), none, .inr (.call 12 [(.t 125), (.t 126), (.t 127)])⟩,
                 ⟨(some 129), none, .inl (.bin .eql (.t 128) (.c (.int .i64 5)))⟩,
                 ⟨(some 130), none, .inl (.mv (.t 129))⟩,
                 ⟨(some 131), (some (130, true)), .inl (.mv (.t 10))⟩,
                 ⟨(some 132), (some (130, true)), .inr (.call 17 [(.t 131)])⟩,
                 ⟨(some 133), none, .inl (.pick (.t 130) (.t 132) (.c (.bool false)))⟩,
                 ⟨(some 134), none, .inl (.mv (.t 133))⟩,
                 ⟨(some 135), (some (134, true)), .inl (.mv (.t 10))⟩,
                 ⟨(some 136), (some (134, true)), .inl (.mv (.t 3))⟩,
                 ⟨(some 137), (some (134, true)), .inr (.call 11 [(.t 135), (.c (.int .i64 0)), (.t 136)])⟩,
                 ⟨(some 138), (some (134, true)), .inl (.bin .eql (.t 137) (.c (.int .i64 5)))⟩,
                 ⟨(some 139), none, .inl (.pick (.t 134) (.t 138) (.c (.bool false)))⟩,
                 ⟨(some 140), none, .inl (.mv (.t 139))⟩,
                 ⟨(some 141), (some (140, true)), .inl (.mv (.t 10))⟩,
                 ⟨(some 142), (some (140, true)), .inr (.call 15 [(.t 141)])⟩,
                 ⟨(some 143), (some (140, true)), .inl (.b2s (.t 142))⟩,
                 ⟨(some 144), (some (140, true)), .inl (.mv (.t 12))⟩,
                 ⟨(some 145), (some (140, true)), .inl (.bins .eql (.t 143) (.t 144))⟩,
                 ⟨(some 146), none, .inl (.pick (.t 140) (.t 145) (.c (.bool false)))⟩,
                 ⟨(some 8), none, .inl (.mv (.t 146))⟩])
              (.keep [8]))
              (.ret))))))))))))
def fc_joistlaw03_PmemAsks : FC := ⟨147, cmd_joistlaw03_PmemAsks, [.t 8]⟩
theorem fc_joistlaw03_PmemAsks_ok : compF Try.prog 6 [[0, 1, 2, 3], [0, 1, 2, 3, 9], [0, 1, 2, 3, 9, 24], [8], [0, 1, 2, 3, 9, 10, 11], [0, 1, 2, 3, 9, 10, 11, 40], [8], [0, 1, 2, 3, 10], [0, 1, 2, 3, 10, 12], [1, 2, 3, 10, 12, 13], [1, 2, 3, 10, 12, 13, 15], [1, 2, 3, 10, 12, 13, 96], [8], [1, 2, 3, 10, 12, 98], [8], [8]] = some fc_joistlaw03_PmemAsks := by kernel_rfl
/-- joist/joistlaw03.PmemPlays -/
abbrev F.joistlaw03_PmemPlays : Nat := 7
def cmd_joistlaw03_PmemPlays : Cmd :=
  .seq (.seq (.reg [⟨(some 4), none, .inl (.mv (.c (.bool false)))⟩])
   (.keep [0, 1]))
   (.seq (.seq (.reg [⟨(some 22), none, .inr (.call 8 [])⟩,
       ⟨(some 5), none, .inl (.mv (.t 22))⟩])
    (.keep [0, 1, 5]))
    (.seq (.seq (.seq (.reg [⟨(some 23), none, .inl (.mv (.t 0))⟩,
        ⟨(some 24), none, .inl (.len (.t 23))⟩,
        ⟨(some 25), none, .inl (.bin .gtr (.t 24) (.c (.int .i64 2048)))⟩,
        ⟨(some 26), none, .inl (.mv (.t 25))⟩,
        ⟨(some 27), (some (26, true)), .inl (.mv (.t 0))⟩,
        ⟨(some 28), (some (26, true)), .inl (.len (.t 27))⟩,
        ⟨(some 29), (some (26, true)), .inl (.bin .leq (.t 28) (.c (.int .i64 262144)))⟩,
        ⟨(some 30), none, .inl (.pick (.t 26) (.t 29) (.c (.bool false)))⟩])
     (.keep [0, 1, 5, 30]))
     (.cond (.t 30)
       (.seq (.seq (.reg [⟨(some 31), none, .inl (.mv (.t 5))⟩,
           ⟨(some 4), none, .inl (.mv (.t 31))⟩])
        (.keep [4]))
        (.ret))
       (.skip)))
     (.seq (.seq (.reg [⟨(some 32), none, .inl (.mv (.t 0))⟩,
         ⟨(some 33), none, .inr (.call 22 [(.t 32)])⟩,
         ⟨(some 6), none, .inl (.mv (.t 33))⟩])
      (.keep [0, 1, 5, 6]))
      (.seq (.seq (.reg [⟨(some 35), none, .inl (.mv (.t 6))⟩,
          ⟨(some 36), none, .inr (.call 9 [(.t 35)])⟩,
          ⟨(some 34), none, .inl (.mv (.t 36))⟩,
          ⟨(some 37), none, .inl (.ext 0 (.t 34))⟩,
          ⟨(some 38), none, .inl (.ext 1 (.t 34))⟩,
          ⟨(some 7), none, .inl (.mv (.t 37))⟩,
          ⟨(some 8), none, .inl (.mv (.t 38))⟩])
       (.keep [0, 1, 5, 6, 7, 8]))
       (.seq (.seq (.reg [⟨(some 39), none, .inl (.mv (.t 6))⟩,
           ⟨(some 40), none, .inl (.mv (.t 0))⟩,
           ⟨(some 41), none, .inr (.call 23 [(.t 39), (.t 40)])⟩,
           ⟨(some 9), none, .inl (.mv (.t 41))⟩])
        (.keep [0, 1, 5, 6, 7, 8, 9]))
        (.seq (.seq (.reg [⟨(some 42), none, .inl (.mv (.t 6))⟩,
            ⟨(some 43), none, .inr (.bslice 1 [.nils] 1 [(0, (.t 42))])⟩,
            ⟨(some 44), none, .inr (.call 24 [(.t 43)])⟩])
         (.keep [0, 1, 5, 7, 8, 9]))
         (.seq (.seq (.reg [⟨(some 46), none, .inl (.mv (.t 0))⟩,
             ⟨(some 47), none, .inr (.call 25 [(.t 46)])⟩,
             ⟨(some 45), none, .inl (.mv (.t 47))⟩,
             ⟨(some 48), none, .inl (.ext 0 (.t 45))⟩,
             ⟨(some 49), none, .inl (.ext 1 (.t 45))⟩,
             ⟨(some 10), none, .inl (.mv (.t 48))⟩,
             ⟨(some 11), none, .inl (.mv (.t 49))⟩])
          (.keep [1, 5, 7, 8, 9, 10, 11]))
          (.seq (.seq (.seq (.reg [⟨(some 50), none, .inl (.mv (.t 5))⟩,
              ⟨(some 51), none, .inl (.un .not (.t 50))⟩,
              ⟨(some 52), none, .inl (.mv (.t 51))⟩,
              ⟨(some 53), (some (52, false)), .inl (.mv (.t 9))⟩,
              ⟨(some 54), (some (52, false)), .inl (.un .not (.t 53))⟩,
              ⟨(some 55), none, .inl (.pick (.t 52) (.c (.bool true)) (.t 54))⟩,
              ⟨(some 56), none, .inl (.mv (.t 55))⟩,
              ⟨(some 57), (some (56, false)), .inl (.mv (.t 8))⟩,
              ⟨(some 58), (some (56, false)), .inl (.mv (.t 11))⟩,
              ⟨(some 59), (some (56, false)), .inl (.bin .neq (.t 57) (.t 58))⟩,
              ⟨(some 60), none, .inl (.pick (.t 56) (.c (.bool true)) (.t 59))⟩,
              ⟨(some 61), none, .inl (.mv (.t 60))⟩,
              ⟨(some 62), (some (61, false)), .inl (.mv (.t 7))⟩,
              ⟨(some 63), (some (61, false)), .inl (.eqnilp false (.t 62))⟩,
              ⟨(some 64), (some (61, false)), .inl (.mv (.t 11))⟩,
              ⟨(some 65), (some (61, false)), .inl (.bin .neq (.t 64) (.c (.int .i64 0)))⟩,
              ⟨(some 66), (some (61, false)), .inl (.binb .neq (.t 63) (.t 65))⟩,
              ⟨(some 67), none, .inl (.pick (.t 61) (.c (.bool true)) (.t 66))⟩])
           (.keep [1, 7, 10, 11, 67]))
           (.cond (.t 67)
             (.seq (.seq (.reg [⟨(some 4), none, .inl (.mv (.c (.bool false)))⟩])
              (.keep [4]))
              (.ret))
             (.skip)))
           (.seq (.seq (.seq (.reg [⟨(some 68), none, .inl (.mv (.t 11))⟩,
               ⟨(some 69), none, .inl (.bin .neq (.t 68) (.c (.int .i64 0)))⟩])
            (.keep [1, 7, 10, 69]))
            (.cond (.t 69)
              (.seq (.seq (.reg [⟨(some 4), none, .inl (.mv (.c (.bool true)))⟩])
               (.keep [4]))
               (.ret))
              (.skip)))
            (.seq (.seq (.seq (.reg [⟨(some 12), none, .inl (.mv (.c (.int .i64 0)))⟩])
             (.keep [1, 7, 10, 12]))
             (.block 0 (.loop [1, 7, 10, 12] (.seq (.seq (.seq (.reg [⟨(some 70), none, .inl (.mv (.t 12))⟩,
                 ⟨(some 71), none, .inl (.mv (.t 1))⟩,
                 ⟨(some 72), none, .inl (.len (.t 71))⟩,
                 ⟨(some 73), none, .inl (.bin .lss (.t 70) (.t 72))⟩,
                 ⟨(some 74), none, .inl (.mv (.t 73))⟩,
                 ⟨(some 75), (some (74, true)), .inl (.mv (.t 12))⟩,
                 ⟨(some 76), (some (74, true)), .inl (.bin .lss (.t 75) (.c (.int .i64 60)))⟩,
                 ⟨(some 77), none, .inl (.pick (.t 74) (.t 76) (.c (.bool false)))⟩])
              (.keep [1, 7, 10, 12, 77]))
              (.cond (.t 77)
                (.skip)
                (.exit 0)))
              (.seq (.block 1 (.seq (.seq (.reg [⟨(some 80), none, .inl (.mv (.t 1))⟩,
                  ⟨(some 81), none, .inl (.mv (.t 12))⟩,
                  ⟨(some 82), none, .inl (.iaddr 5 (.t 80) (.t 81))⟩,
                  ⟨(some 83), none, .inl (.load true 5 (.t 82))⟩,
                  ⟨(some 13), none, .inr (.alloc [(.int .i64 0), (.int .i64 0), (.int .i64 0), .nils, .nils])⟩,
                  ⟨none, none, .inr (.store 5 (.t 13) (.t 83))⟩])
               (.keep [1, 7, 10, 12, 13]))
               (.seq (.seq (.seq (.reg [⟨(some 84), none, .inl (.faddr 3 (.t 13))⟩,
                   ⟨(some 85), none, .inl (.load false 1 (.t 84))⟩,
                   ⟨(some 86), none, .inl (.len (.t 85))⟩,
                   ⟨(some 87), none, .inl (.bin .gtr (.t 86) (.c (.int .i64 4096)))⟩])
                (.keep [1, 7, 10, 12, 13, 87]))
                (.cond (.t 87)
                  (.seq (.seq (.reg [⟨(some 4), none, .inl (.mv (.c (.bool true)))⟩])
                   (.keep [4]))
                   (.ret))
                  (.skip)))
                (.seq (.seq (.seq (.reg [⟨(some 88), none, .inl (.faddr 0 (.t 13))⟩,
                    ⟨(some 89), none, .inl (.load false 1 (.t 88))⟩])
                 (.keep [1, 7, 10, 12, 13, 89]))
                 (.block 2 (.seq (.seq (.reg [⟨(some 91), none, .inl (.bin .eql (.t 89) (.c (.int .i64 0)))⟩,
                     ⟨(some 90), none, .inl (.mv (.t 91))⟩])
                  (.keep [1, 7, 10, 12, 13, 89, 90]))
                  (.cond (.t 90)
                    (.seq (.seq (.reg [⟨(some 93), none, .inl (.mv (.t 7))⟩,
                        ⟨(some 94), none, .inl (.faddr 1 (.t 13))⟩,
                        ⟨(some 95), none, .inl (.load false 1 (.t 94))⟩,
                        ⟨(some 96), none, .inl (.faddr 2 (.t 13))⟩,
                        ⟨(some 97), none, .inl (.load false 1 (.t 96))⟩,
                        ⟨(some 98), none, .inr (.call 21 [(.t 93), (.t 95), (.t 97)])⟩,
                        ⟨(some 92), none, .inl (.mv (.t 98))⟩,
                        ⟨(some 99), none, .inl (.ext 0 (.t 92))⟩,
                        ⟨(some 100), none, .inl (.ext 1 (.t 92))⟩,
                        ⟨(some 14), none, .inl (.mv (.t 99))⟩,
                        ⟨(some 15), none, .inl (.mv (.t 100))⟩])
                     (.keep [1, 7, 10, 12, 13, 14, 15]))
                     (.seq (.seq (.reg [⟨(some 102), none, .inl (.mv (.t 10))⟩,
                         ⟨(some 103), none, .inl (.faddr 1 (.t 13))⟩,
                         ⟨(some 104), none, .inl (.load false 1 (.t 103))⟩,
                         ⟨(some 105), none, .inl (.faddr 2 (.t 13))⟩,
                         ⟨(some 106), none, .inl (.load false 1 (.t 105))⟩,
                         ⟨(some 107), none, .inr (.call 26 [(.t 102), (.t 104), (.t 106)])⟩,
                         ⟨(some 101), none, .inl (.mv (.t 107))⟩,
                         ⟨(some 108), none, .inl (.ext 0 (.t 101))⟩,
                         ⟨(some 109), none, .inl (.ext 1 (.t 101))⟩,
                         ⟨(some 16), none, .inl (.mv (.t 108))⟩,
                         ⟨(some 17), none, .inl (.mv (.t 109))⟩])
                      (.keep [1, 7, 10, 12, 14, 15, 16, 17]))
                      (.seq (.seq (.reg [⟨(some 110), none, .inl (.mv (.t 14))⟩,
                          ⟨(some 111), none, .inl (.b2s (.t 110))⟩,
                          ⟨(some 112), none, .inl (.mv (.t 16))⟩,
                          ⟨(some 113), none, .inl (.b2s (.t 112))⟩,
                          ⟨(some 114), none, .inl (.bins .eql (.t 111) (.t 113))⟩,
                          ⟨(some 18), none, .inl (.mv (.t 114))⟩])
                       (.keep [1, 7, 10, 12, 14, 15, 17, 18]))
                       (.seq (.seq (.reg [⟨(some 115), none, .inl (.mv (.t 14))⟩,
                           ⟨(some 116), none, .inr (.bslice 1 [.nils] 1 [(0, (.t 115))])⟩,
                           ⟨(some 117), none, .inr (.call 24 [(.t 116)])⟩])
                        (.keep [1, 7, 10, 12, 15, 17, 18]))
                        (.seq (.seq (.reg [⟨(some 118), none, .inl (.mv (.t 18))⟩,
                            ⟨(some 119), none, .inl (.un .not (.t 118))⟩,
                            ⟨(some 120), none, .inl (.mv (.t 119))⟩,
                            ⟨(some 121), (some (120, false)), .inl (.mv (.t 15))⟩,
                            ⟨(some 122), (some (120, false)), .inl (.mv (.t 17))⟩,
                            ⟨(some 123), (some (120, false)), .inl (.bin .neq (.t 121) (.t 122))⟩,
                            ⟨(some 124), none, .inl (.pick (.t 120) (.c (.bool true)) (.t 123))⟩])
                         (.keep [1, 7, 10, 12, 124]))
                         (.cond (.t 124)
                           (.seq (.seq (.reg [⟨(some 4), none, .inl (.mv (.c (.bool false)))⟩])
                            (.keep [4]))
                            (.ret))
                           (.skip)))))))
                    (.seq (.seq (.reg [⟨(some 126), none, .inl (.bin .eql (.t 89) (.c (.int .i64 1)))⟩,
                        ⟨(some 125), none, .inl (.mv (.t 126))⟩])
                     (.keep [1, 7, 10, 12, 13, 89, 125]))
                     (.cond (.t 125)
                       (.seq (.seq (.reg [⟨(some 127), none, .inl (.faddr 3 (.t 13))⟩,
                           ⟨(some 128), none, .inl (.load false 1 (.t 127))⟩,
                           ⟨(some 129), none, .inr (.call 22 [(.t 128)])⟩,
                           ⟨(some 19), none, .inl (.mv (.t 129))⟩])
                        (.keep [1, 7, 10, 12, 13, 19]))
                        (.seq (.seq (.reg [⟨(some 130), none, .inl (.mv (.t 7))⟩,
                            ⟨(some 131), none, .inl (.faddr 1 (.t 13))⟩,
                            ⟨(some 132), none, .inl (.load false 1 (.t 131))⟩,
                            ⟨(some 133), none, .inl (.mv (.t 19))⟩,
                            ⟨(some 134), none, .inr (.call 11 [(.t 130), (.t 132), (.t 133)])⟩,
                            ⟨(some 20), none, .inl (.mv (.t 134))⟩])
                         (.keep [1, 7, 10, 12, 13, 19, 20]))
                         (.seq (.seq (.reg [⟨(some 135), none, .inl (.mv (.t 19))⟩,
                             ⟨(some 136), none, .inl (.faddr 3 (.t 13))⟩,
                             ⟨(some 137), none, .inl (.load false 1 (.t 136))⟩,
                             ⟨(some 138), none, .inr (.call 23 [(.t 135), (.t 137)])⟩,
                             ⟨(some 21), none, .inl (.mv (.t 138))⟩])
                          (.keep [1, 7, 10, 12, 13, 19, 20, 21]))
                          (.seq (.seq (.reg [⟨(some 139), none, .inl (.mv (.t 19))⟩,
                              ⟨(some 140), none, .inr (.bslice 1 [.nils] 1 [(0, (.t 139))])⟩,
                              ⟨(some 141), none, .inr (.call 24 [(.t 140)])⟩])
                           (.keep [1, 7, 10, 12, 13, 20, 21]))
                           (.seq (.seq (.reg [⟨(some 142), none, .inl (.mv (.t 21))⟩,
                               ⟨(some 143), none, .inl (.un .not (.t 142))⟩,
                               ⟨(some 144), none, .inl (.mv (.t 143))⟩,
                               ⟨(some 145), (some (144, false)), .inl (.mv (.t 20))⟩,
                               ⟨(some 146), (some (144, false)), .inl (.mv (.t 10))⟩,
                               ⟨(some 147), (some (144, false)), .inl (.faddr 1 (.t 13))⟩,
                               ⟨(some 148), (some (144, false)), .inl (.load false 1 (.t 147))⟩,
                               ⟨(some 149), (some (144, false)), .inl (.faddr 3 (.t 13))⟩,
                               ⟨(some 150), (some (144, false)), .inl (.load false 1 (.t 149))⟩,
                               ⟨(some 151), (some (144, false)), .inr (.call 27 [(.t 146), (.t 148), (.t 150)])⟩,
                               ⟨(some 152), (some (144, false)), .inl (.bin .neq (.t 145) (.t 151))⟩,
                               ⟨(some 153), none, .inl (.pick (.t 144) (.c (.bool true)) (.t 152))⟩])
                            (.keep [1, 7, 10, 12, 153]))
                            (.cond (.t 153)
                              (.seq (.seq (.reg [⟨(some 4), none, .inl (.mv (.c (.bool false)))⟩])
                               (.keep [4]))
                               (.ret))
                              (.skip)))))))
                       (.seq (.seq (.reg [⟨(some 155), none, .inl (.bin .eql (.t 89) (.c (.int .i64 2)))⟩,
                           ⟨(some 154), none, .inl (.mv (.t 155))⟩])
                        (.keep [1, 7, 10, 12, 13, 89, 154]))
                        (.cond (.t 154)
                          (.seq (.seq (.ord [⟨0, ⟨(some 156), none, .inl (.mv (.t 7))⟩, [], false⟩,
                              ⟨1, ⟨(some 157), none, .inl (.faddr 1 (.t 13))⟩, [], false⟩,
                              ⟨2, ⟨(some 158), none, .inl (.load false 1 (.t 157))⟩, [], false⟩,
                              ⟨3, ⟨(some 159), none, .inl (.faddr 2 (.t 13))⟩, [], false⟩,
                              ⟨4, ⟨(some 160), none, .inl (.load false 1 (.t 159))⟩, [], false⟩,
                              ⟨6, ⟨(some 162), none, .inl (.mv (.t 10))⟩, [], true⟩,
                              ⟨7, ⟨(some 163), none, .inl (.faddr 1 (.t 13))⟩, [], true⟩,
                              ⟨8, ⟨(some 164), none, .inl (.load false 1 (.t 163))⟩, [], true⟩,
                              ⟨9, ⟨(some 165), none, .inl (.faddr 2 (.t 13))⟩, [], true⟩,
                              ⟨10, ⟨(some 166), none, .inl (.load false 1 (.t 165))⟩, [], true⟩,
                              ⟨5, ⟨(some 161), none, .inr (.call 12 [(.t 156), (.t 158), (.t 160)])⟩, [6, 7, 8, 9, 10], false⟩,
                              ⟨11, ⟨(some 167), none, .inr (.call 28 [(.t 162), (.t 164), (.t 166)])⟩, [], false⟩,
                              ⟨12, ⟨(some 168), none, .inl (.bin .neq (.t 161) (.t 167))⟩, [], false⟩])
                           (.keep [1, 7, 10, 12, 168]))
                           (.cond (.t 168)
                             (.seq (.seq (.reg [⟨(some 4), none, .inl (.mv (.c (.bool false)))⟩])
                              (.keep [4]))
                              (.ret))
                             (.skip)))
                          (.seq (.seq (.reg [⟨(some 170), none, .inl (.bin .eql (.t 89) (.c (.int .i64 3)))⟩,
                              ⟨(some 169), none, .inl (.mv (.t 170))⟩])
                           (.keep [1, 7, 10, 12, 13, 89, 169]))
                           (.cond (.t 169)
                             (.seq (.seq (.reg [⟨(some 171), none, .inl (.mv (.t 7))⟩,
                                 ⟨(some 172), none, .inr (.call 13 [(.t 171)])⟩,
                                 ⟨(some 173), none, .inl (.mv (.t 10))⟩,
                                 ⟨(some 174), none, .inr (.call 29 [(.t 173)])⟩,
                                 ⟨(some 175), none, .inl (.bin .neq (.t 172) (.t 174))⟩])
                              (.keep [1, 7, 10, 12, 175]))
                              (.cond (.t 175)
                                (.seq (.seq (.reg [⟨(some 4), none, .inl (.mv (.c (.bool false)))⟩])
                                 (.keep [4]))
                                 (.ret))
                                (.skip)))
                             (.seq (.seq (.reg [⟨(some 177), none, .inl (.bin .eql (.t 89) (.c (.int .i64 4)))⟩,
                                 ⟨(some 176), none, .inl (.mv (.t 177))⟩])
                              (.keep [1, 7, 10, 12, 13, 89, 176]))
                              (.cond (.t 176)
                                (.seq (.seq (.reg [⟨(some 178), none, .inl (.mv (.t 7))⟩,
                                    ⟨(some 179), none, .inl (.faddr 2 (.t 13))⟩,
                                    ⟨(some 180), none, .inl (.load false 1 (.t 179))⟩,
                                    ⟨(some 181), none, .inr (.call 20 [(.t 178), (.t 180)])⟩])
                                 (.keep [1, 7, 10, 12, 13]))
                                 (.seq (.reg [⟨(some 182), none, .inl (.mv (.t 10))⟩,
                                     ⟨(some 183), none, .inl (.faddr 2 (.t 13))⟩,
                                     ⟨(some 184), none, .inl (.load false 1 (.t 183))⟩,
                                     ⟨(some 185), none, .inr (.call 30 [(.t 182), (.t 184)])⟩])
                                  (.keep [1, 7, 10, 12])))
                                (.seq (.seq (.reg [⟨(some 187), none, .inl (.bin .eql (.t 89) (.c (.int .i64 5)))⟩,
                                    ⟨(some 186), none, .inl (.mv (.t 187))⟩])
                                 (.keep [1, 7, 10, 12, 13, 186]))
                                 (.cond (.t 186)
                                   (.seq (.seq (.reg [⟨(some 188), none, .inl (.mv (.t 7))⟩,
                                       ⟨(some 189), none, .inl (.faddr 4 (.t 13))⟩,
                                       ⟨(some 190), none, .inl (.load false 1 (.t 189))⟩,
                                       ⟨(some 191), none, .inr (.call 16 [(.t 188), (.t 190)])⟩])
                                    (.keep [1, 7, 10, 12, 13]))
                                    (.seq (.reg [⟨(some 192), none, .inl (.mv (.t 10))⟩,
                                        ⟨(some 193), none, .inl (.faddr 4 (.t 13))⟩,
                                        ⟨(some 194), none, .inl (.load false 1 (.t 193))⟩,
                                        ⟨(some 195), none, .inr (.call 31 [(.t 192), (.t 194)])⟩])
                                     (.keep [1, 7, 10, 12])))
                                   (.skip)))))))))))))))
                 (.seq (.seq (.reg [⟨(some 196), none, .inl (.mv (.t 7))⟩,
                     ⟨(some 197), none, .inl (.mv (.t 10))⟩,
                     ⟨(some 198), none, .inr (.call 32 [(.t 196), (.t 197)])⟩,
                     ⟨(some 199), none, .inl (.un .not (.t 198))⟩,
                     ⟨(some 200), none, .inl (.mv (.t 199))⟩,
                     ⟨(some 201), (some (200, false)), .inl (.mv (.t 7))⟩,
                     ⟨(some 202), (some (200, false)), .inl (.mv (.t 10))⟩,
                     ⟨(some 203), (some (200, false)), .inr (.call 32 [(.t 201), (.t 202)])⟩,
                     ⟨(some 204), (some (200, false)), .inl (.un .not (.t 203))⟩,
                     ⟨(some 205), none, .inl (.pick (.t 200) (.c (.bool true)) (.t 204))⟩])
                  (.keep [1, 7, 10, 12, 205]))
                  (.cond (.t 205)
                    (.seq (.seq (.reg [⟨(some 4), none, .inl (.mv (.c (.bool false)))⟩])
                     (.keep [4]))
                     (.ret))
                    (.skip)))))))
               (.seq (.reg [⟨(some 78), none, .inl (.mv (.t 12))⟩,
                   ⟨(some 79), none, .inl (.bin .add (.t 78) (.c (.int .i64 1)))⟩,
                   ⟨(some 12), none, .inl (.mv (.t 79))⟩])
                (.keep [1, 7, 10, 12])))))))
             (.seq (.seq (.reg [⟨(some 4), none, .inl (.mv (.c (.bool true)))⟩])
              (.keep [4]))
              (.ret))))))))))))
def fc_joistlaw03_PmemPlays : FC := ⟨206, cmd_joistlaw03_PmemPlays, [.t 4]⟩
theorem fc_joistlaw03_PmemPlays_ok : compF Try.prog 7 [[0, 1], [0, 1, 5], [0, 1, 5, 30], [4], [0, 1, 5, 6], [0, 1, 5, 6, 7, 8], [0, 1, 5, 6, 7, 8, 9], [0, 1, 5, 7, 8, 9], [1, 5, 7, 8, 9, 10, 11], [1, 7, 10, 11, 67], [4], [1, 7, 10, 69], [4], [1, 7, 10, 12], [1, 7, 10, 12], [1, 7, 10, 12, 77], [1, 7, 10, 12, 13], [1, 7, 10, 12, 13, 87], [4], [1, 7, 10, 12, 13, 89], [1, 7, 10, 12, 13, 89, 90], [1, 7, 10, 12, 13, 14, 15], [1, 7, 10, 12, 14, 15, 16, 17], [1, 7, 10, 12, 14, 15, 17, 18], [1, 7, 10, 12, 15, 17, 18], [1, 7, 10, 12, 124], [4], [1, 7, 10, 12, 13, 89, 125], [1, 7, 10, 12, 13, 19], [1, 7, 10, 12, 13, 19, 20], [1, 7, 10, 12, 13, 19, 20, 21], [1, 7, 10, 12, 13, 20, 21], [1, 7, 10, 12, 153], [4], [1, 7, 10, 12, 13, 89, 154], [1, 7, 10, 12, 168], [0, 1, 2, 3, 4, 6, 7, 8, 9, 10, 5, 11, 12], [4], [1, 7, 10, 12, 13, 89, 169], [1, 7, 10, 12, 175], [4], [1, 7, 10, 12, 13, 89, 176], [1, 7, 10, 12, 13], [1, 7, 10, 12], [1, 7, 10, 12, 13, 186], [1, 7, 10, 12, 13], [1, 7, 10, 12], [1, 7, 10, 12, 205], [4], [1, 7, 10, 12], [4]] = some fc_joistlaw03_PmemPlays := by kernel_rfl
/-- joist/joistlaw03.small -/
abbrev F.joistlaw03_small : Nat := 8
def cmd_joistlaw03_small : Cmd :=
  .seq (.seq (.reg [⟨(some 0), none, .inl (.mv (.c (.bool false)))⟩])
   (.keep []))
   (.seq (.seq (.reg [⟨(some 9), none, .inr (.mksl 1 1 [(.int .u8 0)] (.c (.int .i64 128)) (.c (.int .i64 128)))⟩,
       ⟨(some 10), none, .inr (.call 9 [(.t 9)])⟩,
       ⟨(some 8), none, .inl (.mv (.t 10))⟩,
       ⟨(some 11), none, .inl (.ext 0 (.t 8))⟩,
       ⟨(some 12), none, .inl (.ext 1 (.t 8))⟩,
       ⟨(some 1), none, .inl (.mv (.t 11))⟩,
       ⟨(some 2), none, .inl (.mv (.t 12))⟩])
    (.keep [1, 2]))
    (.seq (.seq (.seq (.reg [⟨(some 13), none, .inl (.mv (.t 1))⟩,
        ⟨(some 14), none, .inl (.eqnilp false (.t 13))⟩,
        ⟨(some 15), none, .inl (.mv (.t 14))⟩,
        ⟨(some 16), (some (15, false)), .inl (.mv (.t 2))⟩,
        ⟨(some 17), (some (15, false)), .inl (.bin .neq (.t 16) (.c (.int .i64 0)))⟩,
        ⟨(some 18), none, .inl (.pick (.t 15) (.c (.bool true)) (.t 17))⟩])
     (.keep [1, 18]))
     (.cond (.t 18)
       (.seq (.seq (.reg [⟨(some 0), none, .inl (.mv (.c (.bool false)))⟩])
        (.keep [0]))
        (.ret))
       (.skip)))
     (.seq (.seq (.reg [⟨(some 19), none, .inl (.mv (.t 1))⟩,
         ⟨(some 20), none, .inr (.bslice 1 [(.int .u8 0)] 1 [(0, (.c (.int .u8 1)))])⟩,
         ⟨(some 21), none, .inr (.call 11 [(.t 19), (.c (.int .i64 0)), (.t 20)])⟩,
         ⟨(some 3), none, .inl (.mv (.t 21))⟩])
      (.keep [1, 3]))
      (.seq (.seq (.reg [⟨(some 22), none, .inl (.mv (.t 1))⟩,
          ⟨(some 23), none, .inr (.call 18 [(.t 22)])⟩,
          ⟨(some 4), none, .inl (.mv (.t 23))⟩])
       (.keep [1, 3, 4]))
       (.seq (.seq (.reg [⟨(some 24), none, .inl (.mv (.t 1))⟩,
           ⟨(some 25), none, .inr (.call 16 [(.t 24), (.c .nils)])⟩])
        (.keep [1, 3, 4]))
        (.seq (.seq (.reg [⟨(some 26), none, .inl (.mv (.t 1))⟩,
            ⟨(some 27), none, .inr (.call 15 [(.t 26)])⟩,
            ⟨(some 5), none, .inl (.mv (.t 27))⟩])
         (.keep [1, 3, 4, 5]))
         (.seq (.seq (.reg [⟨(some 28), none, .inl (.mv (.t 1))⟩,
             ⟨(some 29), none, .inr (.bslice 1 [(.int .u8 0)] 1 [(0, (.c (.int .u8 1)))])⟩,
             ⟨(some 30), none, .inr (.call 11 [(.t 28), (.c (.int .i64 0)), (.t 29)])⟩])
          (.keep [1, 3, 4, 5]))
          (.seq (.seq (.reg [⟨(some 31), none, .inl (.mv (.t 1))⟩,
              ⟨(some 32), none, .inr (.call 12 [(.t 31), (.c (.int .i64 0)), (.c (.int .i64 1))])⟩])
           (.keep [1, 3, 4, 5]))
           (.seq (.seq (.reg [⟨(some 33), none, .inl (.mv (.t 1))⟩,
               ⟨(some 34), none, .inr (.call 13 [(.t 33)])⟩])
            (.keep [1, 3, 4, 5]))
            (.seq (.seq (.reg [⟨(some 35), none, .inl (.mv (.t 1))⟩,
                ⟨(some 36), none, .inr (.call 16 [(.t 35), (.c .nils)])⟩])
             (.keep [1, 3, 4, 5]))
             (.seq (.seq (.reg [⟨(some 37), none, .inl (.mv (.t 1))⟩,
                 ⟨(some 38), none, .inr (.call 15 [(.t 37)])⟩,
                 ⟨(some 6), none, .inl (.mv (.t 38))⟩])
              (.keep [1, 3, 4, 5, 6]))
              (.seq (.seq (.reg [⟨(some 39), none, .inl (.mv (.t 1))⟩,
                  ⟨(some 40), none, .inr (.call 20 [(.t 39), (.c (.int .i64 1))])⟩])
               (.keep [1, 3, 4, 5, 6]))
               (.seq (.seq (.reg [⟨(some 41), none, .inl (.mv (.t 1))⟩,
                   ⟨(some 42), none, .inr (.bslice 1 [(.int .u8 0)] 1 [(0, (.c (.int .u8 2)))])⟩,
                   ⟨(some 43), none, .inr (.call 11 [(.t 41), (.c (.int .i64 0)), (.t 42)])⟩,
                   ⟨(some 7), none, .inl (.mv (.t 43))⟩])
                (.keep [1, 3, 4, 5, 6, 7]))
                (.seq (.seq (.reg [⟨(some 44), none, .inl (.mv (.t 3))⟩,
                    ⟨(some 45), none, .inl (.bin .eql (.t 44) (.c (.int .i64 0)))⟩,
                    ⟨(some 46), none, .inl (.mv (.t 45))⟩,
                    ⟨(some 47), (some (46, true)), .inl (.mv (.t 4))⟩,
                    ⟨(some 48), (some (46, true)), .inl (.len (.t 47))⟩,
                    ⟨(some 49), (some (46, true)), .inl (.bin .eql (.t 48) (.c (.int .i64 1)))⟩,
                    ⟨(some 50), none, .inl (.pick (.t 46) (.t 49) (.c (.bool false)))⟩,
                    ⟨(some 51), none, .inl (.mv (.t 50))⟩,
                    ⟨(some 52), (some (51, true)), .inl (.mv (.t 4))⟩,
                    ⟨(some 53), (some (51, true)), .inl (.iaddr 1 (.t 52) (.c (.int .i64 0)))⟩,
                    ⟨(some 54), (some (51, true)), .inl (.load false 1 (.t 53))⟩,
                    ⟨(some 55), (some (51, true)), .inl (.bin .eql (.t 54) (.c (.int .i64 0)))⟩,
                    ⟨(some 56), none, .inl (.pick (.t 51) (.t 55) (.c (.bool false)))⟩,
                    ⟨(some 57), none, .inl (.mv (.t 56))⟩,
                    ⟨(some 58), (some (57, true)), .inl (.mv (.t 5))⟩,
                    ⟨(some 59), (some (57, true)), .inl (.len (.t 58))⟩,
                    ⟨(some 60), (some (57, true)), .inl (.bin .eql (.t 59) (.c (.int .i64 128)))⟩,
                    ⟨(some 61), none, .inl (.pick (.t 57) (.t 60) (.c (.bool false)))⟩,
                    ⟨(some 62), none, .inl (.mv (.t 61))⟩,
                    ⟨(some 63), (some (62, true)), .inl (.mv (.t 5))⟩,
                    ⟨(some 64), (some (62, true)), .inl (.iaddr 1 (.t 63) (.c (.int .i64 0)))⟩,
                    ⟨(some 65), (some (62, true)), .inl (.load false 1 (.t 64))⟩,
                    ⟨(some 66), (some (62, true)), .inl (.bin .eql (.t 65) (.c (.int .u8 0)))⟩,
                    ⟨(some 67), none, .inl (.pick (.t 62) (.t 66) (.c (.bool false)))⟩,
                    ⟨(some 68), none, .inl (.mv (.t 67))⟩,
                    ⟨(some 69), (some (68, true)), .inl (.mv (.t 6))⟩,
                    ⟨(some 70), (some (68, true)), .inl (.len (.t 69))⟩,
                    ⟨(some 71), (some (68, true)), .inl (.bin .eql (.t 70) (.c (.int .i64 128)))⟩,
                    ⟨(some 72), none, .inl (.pick (.t 68) (.t 71) (.c (.bool false)))⟩,
                    ⟨(some 73), none, .inl (.mv (.t 72))⟩,
                    ⟨(some 74), (some (73, true)), .inl (.mv (.t 6))⟩,
                    ⟨(some 75), (some (73, true)), .inl (.iaddr 1 (.t 74) (.c (.int .i64 0)))⟩,
                    ⟨(some 76), (some (73, true)), .inl (.load false 1 (.t 75))⟩,
                    ⟨(some 77), (some (73, true)), .inl (.bin .eql (.t 76) (.c (.int .u8 1)))⟩,
                    ⟨(some 78), none, .inl (.pick (.t 73) (.t 77) (.c (.bool false)))⟩,
                    ⟨(some 79), none, .inl (.mv (.t 78))⟩,
                    ⟨(some 80), (some (79, true)), .inl (.mv (.t 7))⟩,
                    ⟨(some 81), (some (79, true)), .inl (.bin .eql (.t 80) (.c (.int .i64 5)))⟩,
                    ⟨(some 82), none, .inl (.pick (.t 79) (.t 81) (.c (.bool false)))⟩,
                    ⟨(some 83), none, .inl (.mv (.t 82))⟩,
                    ⟨(some 84), (some (83, true)), .inl (.mv (.t 1))⟩,
                    ⟨(some 85), (some (83, true)), .inr (.call 17 [(.t 84)])⟩,
                    ⟨(some 86), none, .inl (.pick (.t 83) (.t 85) (.c (.bool false)))⟩,
                    ⟨(some 0), none, .inl (.mv (.t 86))⟩])
                 (.keep [0]))
                 (.ret)))))))))))))))
def fc_joistlaw03_small : FC := ⟨87, cmd_joistlaw03_small, [.t 0]⟩
theorem fc_joistlaw03_small_ok : compF Try.prog 8 [[], [1, 2], [1, 18], [0], [1, 3], [1, 3, 4], [1, 3, 4], [1, 3, 4, 5], [1, 3, 4, 5], [1, 3, 4, 5], [1, 3, 4, 5], [1, 3, 4, 5], [1, 3, 4, 5, 6], [1, 3, 4, 5, 6], [1, 3, 4, 5, 6, 7], [0]] = some fc_joistlaw03_small := by kernel_rfl
/-- joist/pmem.New -/
abbrev F.pmem_New : Nat := 9
def cmd_pmem_New : Cmd :=
  .seq (.seq (.reg [⟨(some 2), none, .inl (.mv (.c .nilp))⟩,
      ⟨(some 3), none, .inl (.mv (.c (.int .i64 0)))⟩])
   (.keep [0]))
   (.seq (.seq (.seq (.reg [⟨(some 4), none, .inl (.mv (.t 0))⟩,
       ⟨(some 5), none, .inl (.len (.t 4))⟩,
       ⟨(some 6), none, .inl (.bin .eql (.t 5) (.c (.int .i64 0)))⟩,
       ⟨(some 7), none, .inl (.mv (.t 6))⟩,
       ⟨(some 8), (some (7, false)), .inl (.mv (.t 0))⟩,
       ⟨(some 9), (some (7, false)), .inl (.len (.t 8))⟩,
       ⟨(some 10), (some (7, false)), .inl (.bin .rem (.t 9) (.c (.int .i64 64)))⟩,
       ⟨(some 11), (some (7, false)), .inl (.bin .neq (.t 10) (.c (.int .i64 0)))⟩,
       ⟨(some 12), none, .inl (.pick (.t 7) (.c (.bool true)) (.t 11))⟩,
       ⟨(some 13), none, .inl (.mv (.t 12))⟩,
       ⟨(some 14), (some (13, false)), .inl (.mv (.t 0))⟩,
       ⟨(some 15), (some (13, false)), .inl (.len (.t 14))⟩,
       ⟨(some 16), (some (13, false)), .inl (.bin .quo (.t 15) (.c (.int .i64 64)))⟩,
       ⟨(some 17), (some (13, false)), .inl (.bin .gtr (.t 16) (.c (.int .i64 4096)))⟩,
       ⟨(some 18), none, .inl (.pick (.t 13) (.c (.bool true)) (.t 17))⟩])
    (.keep [0, 18]))
    (.cond (.t 18)
      (.seq (.seq (.reg [⟨(some 2), none, .inl (.mv (.c .nilp))⟩,
          ⟨(some 3), none, .inl (.mv (.c (.int .i64 1)))⟩])
       (.keep [2, 3]))
       (.ret))
      (.skip)))
    (.seq (.seq (.reg [⟨(some 19), none, .inl (.mv (.t 0))⟩,
        ⟨(some 20), none, .inr (.call 33 [(.t 19)])⟩,
        ⟨(some 21), none, .inl (.mv (.t 0))⟩,
        ⟨(some 22), none, .inr (.call 33 [(.t 21)])⟩,
        ⟨(some 23), none, .inr (.mkmap)⟩,
        ⟨(some 24), none, .inl (.build [.nils, .nils, .any, (.int .i64 0), (.bool false)] [(0, 1, (.t 20)), (1, 1, (.t 22)), (2, 1, (.t 23))])⟩,
        ⟨(some 25), none, .inr (.box 5 (.t 24))⟩,
        ⟨(some 2), none, .inl (.mv (.t 25))⟩,
        ⟨(some 3), none, .inl (.mv (.c (.int .i64 0)))⟩])
     (.keep [2, 3]))
     (.ret)))
def fc_pmem_New : FC := ⟨26, cmd_pmem_New, [.t 2, .t 3]⟩
theorem fc_pmem_New_ok : compF Try.prog 9 [[0], [0, 18], [2, 3], [2, 3]] = some fc_pmem_New := by kernel_rfl
/-- joist/joistlaw03.do -/
abbrev F.joistlaw03_do : Nat := 10
def cmd_joistlaw03_do : Cmd :=
  .seq (.seq (.reg [⟨(some 3), none, .inr (.box 5 (.t 1))⟩])
   (.keep [0, 3]))
   (.seq (.seq (.reg [⟨(some 4), none, .inl (.faddr 0 (.t 3))⟩,
       ⟨(some 5), none, .inl (.load false 1 (.t 4))⟩])
    (.keep [0, 3, 5]))
    (.block 0 (.seq (.seq (.reg [⟨(some 7), none, .inl (.bin .eql (.t 5) (.c (.int .i64 1)))⟩,
        ⟨(some 6), none, .inl (.mv (.t 7))⟩])
     (.keep [0, 3, 5, 6]))
     (.cond (.t 6)
       (.seq (.reg [⟨(some 8), none, .inl (.mv (.t 0))⟩,
           ⟨(some 9), none, .inl (.faddr 1 (.t 3))⟩,
           ⟨(some 10), none, .inl (.load false 1 (.t 9))⟩,
           ⟨(some 11), none, .inl (.faddr 3 (.t 3))⟩,
           ⟨(some 12), none, .inl (.load false 1 (.t 11))⟩,
           ⟨(some 13), none, .inr (.call 11 [(.t 8), (.t 10), (.t 12)])⟩])
        (.keep []))
       (.seq (.seq (.reg [⟨(some 15), none, .inl (.bin .eql (.t 5) (.c (.int .i64 2)))⟩,
           ⟨(some 14), none, .inl (.mv (.t 15))⟩])
        (.keep [0, 3, 5, 14]))
        (.cond (.t 14)
          (.seq (.reg [⟨(some 16), none, .inl (.mv (.t 0))⟩,
              ⟨(some 17), none, .inl (.faddr 1 (.t 3))⟩,
              ⟨(some 18), none, .inl (.load false 1 (.t 17))⟩,
              ⟨(some 19), none, .inl (.faddr 2 (.t 3))⟩,
              ⟨(some 20), none, .inl (.load false 1 (.t 19))⟩,
              ⟨(some 21), none, .inr (.call 12 [(.t 16), (.t 18), (.t 20)])⟩])
           (.keep []))
          (.seq (.seq (.reg [⟨(some 23), none, .inl (.bin .eql (.t 5) (.c (.int .i64 3)))⟩,
              ⟨(some 22), none, .inl (.mv (.t 23))⟩])
           (.keep [0, 3, 5, 22]))
           (.cond (.t 22)
             (.seq (.reg [⟨(some 24), none, .inl (.mv (.t 0))⟩,
                 ⟨(some 25), none, .inr (.call 13 [(.t 24)])⟩])
              (.keep []))
             (.seq (.seq (.reg [⟨(some 27), none, .inl (.bin .eql (.t 5) (.c (.int .i64 4)))⟩,
                 ⟨(some 26), none, .inl (.mv (.t 27))⟩])
              (.keep [0, 3, 5, 26]))
              (.cond (.t 26)
                (.seq (.reg [⟨(some 28), none, .inl (.mv (.t 0))⟩,
                    ⟨(some 29), none, .inl (.faddr 2 (.t 3))⟩,
                    ⟨(some 30), none, .inl (.load false 1 (.t 29))⟩,
                    ⟨(some 31), none, .inr (.call 20 [(.t 28), (.t 30)])⟩])
                 (.keep []))
                (.seq (.seq (.reg [⟨(some 33), none, .inl (.bin .eql (.t 5) (.c (.int .i64 5)))⟩,
                    ⟨(some 32), none, .inl (.mv (.t 33))⟩])
                 (.keep [0, 3, 32]))
                 (.cond (.t 32)
                   (.seq (.reg [⟨(some 34), none, .inl (.mv (.t 0))⟩,
                       ⟨(some 35), none, .inl (.faddr 4 (.t 3))⟩,
                       ⟨(some 36), none, .inl (.load false 1 (.t 35))⟩,
                       ⟨(some 37), none, .inr (.call 16 [(.t 34), (.t 36)])⟩])
                    (.keep []))
                   (.skip)))))))))))))
def fc_joistlaw03_do : FC := ⟨38, cmd_joistlaw03_do, []⟩
theorem fc_joistlaw03_do_ok : compF Try.prog 10 [[0, 3], [0, 3, 5], [0, 3, 5, 6], [], [0, 3, 5, 14], [], [0, 3, 5, 22], [], [0, 3, 5, 26], [], [0, 3, 32], []] = some fc_joistlaw03_do := by kernel_rfl
/-- (*joist/pmem.Device).Store -/
abbrev F.pmem_Device_Store : Nat := 11
def cmd_pmem_Device_Store : Cmd :=
  .seq (.seq (.reg [⟨(some 3), none, .inr (.box 1 (.t 0))⟩,
      ⟨(some 6), none, .inl (.mv (.c (.int .i64 0)))⟩])
   (.keep [1, 2, 3]))
   (.seq (.seq (.seq (.reg [⟨(some 8), none, .inl (.load false 1 (.t 3))⟩,
       ⟨(some 9), none, .inl (.mv (.t 1))⟩,
       ⟨(some 10), none, .inl (.mv (.t 2))⟩,
       ⟨(some 11), none, .inl (.len (.t 10))⟩,
       ⟨(some 12), none, .inr (.call 34 [(.t 8), (.t 9), (.t 11)])⟩,
       ⟨(some 7), none, .inl (.mv (.t 12))⟩])
    (.keep [1, 2, 3, 7]))
    (.seq (.seq (.reg [⟨(some 13), none, .inl (.mv (.t 7))⟩,
        ⟨(some 14), none, .inl (.bin .neq (.t 13) (.c (.int .i64 0)))⟩])
     (.keep [1, 2, 3, 7, 14]))
     (.cond (.t 14)
       (.seq (.seq (.reg [⟨(some 15), none, .inl (.mv (.t 7))⟩,
           ⟨(some 6), none, .inl (.mv (.t 15))⟩])
        (.keep [6]))
        (.ret))
       (.skip))))
    (.seq (.seq (.reg [⟨(some 16), none, .inl (.load false 1 (.t 3))⟩,
        ⟨(some 17), none, .inl (.nilchk (.t 16))⟩,
        ⟨(some 18), none, .inl (.faddr 1 (.t 17))⟩,
        ⟨(some 19), none, .inl (.load false 1 (.t 18))⟩,
        ⟨(some 20), none, .inl (.mv (.t 1))⟩,
        ⟨(some 21), none, .inl (.slice 1 (.t 19) (some (.t 20)) none none)⟩,
        ⟨(some 22), none, .inl (.mv (.t 2))⟩,
        ⟨(some 23), none, .inr (.copy 1 (.t 21) (.t 22))⟩])
     (.keep [1, 2, 3]))
     (.seq (.seq (.reg [⟨(some 24), none, .inl (.mv (.t 1))⟩,
         ⟨(some 25), none, .inl (.mv (.t 2))⟩,
         ⟨(some 26), none, .inl (.len (.t 25))⟩,
         ⟨(some 27), none, .inl (.mkfn 36 [(.t 3)])⟩,
         ⟨(some 28), none, .inr (.call 35 [(.t 24), (.t 26), (.t 27)])⟩])
      (.keep []))
      (.seq (.seq (.reg [⟨(some 6), none, .inl (.mv (.c (.int .i64 0)))⟩])
       (.keep [6]))
       (.ret)))))
def fc_pmem_Device_Store : FC := ⟨29, cmd_pmem_Device_Store, [.t 6]⟩
theorem fc_pmem_Device_Store_ok : compF Try.prog 11 [[1, 2, 3], [1, 2, 3, 7], [1, 2, 3, 7, 14], [6], [1, 2, 3], [], [6]] = some fc_pmem_Device_Store := by kernel_rfl
/-- (*joist/pmem.Device).Flush -/
abbrev F.pmem_Device_Flush : Nat := 12
def cmd_pmem_Device_Flush : Cmd :=
  .seq (.seq (.reg [⟨(some 3), none, .inr (.box 1 (.t 0))⟩,
      ⟨(some 6), none, .inl (.mv (.c (.int .i64 0)))⟩])
   (.keep [1, 2, 3]))
   (.seq (.seq (.seq (.reg [⟨(some 8), none, .inl (.load false 1 (.t 3))⟩,
       ⟨(some 9), none, .inl (.mv (.t 1))⟩,
       ⟨(some 10), none, .inl (.mv (.t 2))⟩,
       ⟨(some 11), none, .inr (.call 34 [(.t 8), (.t 9), (.t 10)])⟩,
       ⟨(some 7), none, .inl (.mv (.t 11))⟩])
    (.keep [1, 2, 3, 7]))
    (.seq (.seq (.reg [⟨(some 12), none, .inl (.mv (.t 7))⟩,
        ⟨(some 13), none, .inl (.bin .neq (.t 12) (.c (.int .i64 0)))⟩])
     (.keep [1, 2, 3, 7, 13]))
     (.cond (.t 13)
       (.seq (.seq (.reg [⟨(some 14), none, .inl (.mv (.t 7))⟩,
           ⟨(some 6), none, .inl (.mv (.t 14))⟩])
        (.keep [6]))
        (.ret))
       (.skip))))
    (.seq (.seq (.reg [⟨(some 15), none, .inl (.mv (.t 1))⟩,
        ⟨(some 16), none, .inl (.mv (.t 2))⟩,
        ⟨(some 17), none, .inl (.mkfn 37 [(.t 3)])⟩,
        ⟨(some 18), none, .inr (.call 35 [(.t 15), (.t 16), (.t 17)])⟩])
     (.keep []))
     (.seq (.seq (.reg [⟨(some 6), none, .inl (.mv (.c (.int .i64 0)))⟩])
      (.keep [6]))
      (.ret))))
def fc_pmem_Device_Flush : FC := ⟨19, cmd_pmem_Device_Flush, [.t 6]⟩
theorem fc_pmem_Device_Flush_ok : compF Try.prog 12 [[1, 2, 3], [1, 2, 3, 7], [1, 2, 3, 7, 13], [6], [], [6]] = some fc_pmem_Device_Flush := by kernel_rfl
/-- (*joist/pmem.Device).Fence -/
abbrev F.pmem_Device_Fence : Nat := 13
def cmd_pmem_Device_Fence : Cmd :=
  .seq (.seq (.reg [⟨(some 2), none, .inl (.mv (.c (.int .i64 0)))⟩])
   (.keep [0]))
   (.seq (.seq (.seq (.reg [⟨(some 6), none, .inl (.mv (.t 0))⟩,
       ⟨(some 7), none, .inr (.call 34 [(.t 6), (.c (.int .i64 0)), (.c (.int .i64 0))])⟩,
       ⟨(some 3), none, .inl (.mv (.t 7))⟩])
    (.keep [0, 3]))
    (.seq (.seq (.reg [⟨(some 8), none, .inl (.mv (.t 3))⟩,
        ⟨(some 9), none, .inl (.bin .neq (.t 8) (.c (.int .i64 0)))⟩])
     (.keep [0, 3, 9]))
     (.cond (.t 9)
       (.seq (.seq (.reg [⟨(some 10), none, .inl (.mv (.t 3))⟩,
           ⟨(some 2), none, .inl (.mv (.t 10))⟩])
        (.keep [2]))
        (.ret))
       (.skip))))
    (.seq (.seq (.seq (.reg [⟨(some 11), none, .inl (.mv (.t 0))⟩,
        ⟨(some 12), none, .inr (.call 18 [(.t 11)])⟩,
        ⟨(some 13), none, .inl (.len (.t 12))⟩,
        ⟨(some 14), none, .inl (.mv (.c (.int .i64 0)))⟩])
     (.keep [0, 12, 13, 14]))
     (.block 0 (.loop [0, 12, 13, 14] (.seq (.seq (.reg [⟨(some 15), none, .inl (.bin .lss (.t 14) (.t 13))⟩])
      (.keep [0, 12, 13, 14, 15]))
      (.seq (.cond (.t 15)
        (.skip)
        (.exit 0))
       (.seq (.block 1 (.seq (.seq (.reg [⟨(some 16), none, .inl (.iaddr 1 (.t 12) (.t 14))⟩,
           ⟨(some 17), none, .inl (.load false 1 (.t 16))⟩,
           ⟨(some 5), none, .inl (.mv (.t 17))⟩])
        (.keep [0, 5, 12, 13, 14]))
        (.seq (.seq (.reg [⟨(some 18), none, .inl (.mv (.t 0))⟩,
            ⟨(some 19), none, .inl (.nilchk (.t 18))⟩,
            ⟨(some 20), none, .inl (.faddr 2 (.t 19))⟩,
            ⟨(some 21), none, .inl (.load false 1 (.t 20))⟩,
            ⟨(some 22), none, .inl (.mv (.t 5))⟩,
            ⟨(some 23), none, .inr (.look false (.bool false) (.t 21) (.t 22))⟩])
         (.keep [0, 5, 12, 13, 14, 23]))
         (.cond (.t 23)
           (.seq (.seq (.reg [⟨(some 24), none, .inl (.mv (.t 0))⟩,
               ⟨(some 25), none, .inl (.mv (.t 5))⟩,
               ⟨(some 26), none, .inr (.call 38 [(.t 24), (.t 25)])⟩])
            (.keep [0, 5, 12, 13, 14]))
            (.seq (.reg [⟨(some 27), none, .inl (.mv (.t 0))⟩,
                ⟨(some 28), none, .inl (.nilchk (.t 27))⟩,
                ⟨(some 29), none, .inl (.faddr 2 (.t 28))⟩,
                ⟨(some 30), none, .inl (.load false 1 (.t 29))⟩,
                ⟨(some 31), none, .inl (.mv (.t 5))⟩,
                ⟨none, none, .inr (.del (.t 30) (.t 31))⟩])
             (.keep [0, 12, 13, 14])))
           (.skip)))))
        (.seq (.reg [⟨(some 32), none, .inl (.bin .add (.t 14) (.c (.int .i64 1)))⟩,
            ⟨(some 14), none, .inl (.mv (.t 32))⟩])
         (.keep [0, 12, 13, 14]))))))))
     (.seq (.seq (.reg [⟨(some 2), none, .inl (.mv (.c (.int .i64 0)))⟩])
      (.keep [2]))
      (.ret))))
def fc_pmem_Device_Fence : FC := ⟨33, cmd_pmem_Device_Fence, [.t 2]⟩
theorem fc_pmem_Device_Fence_ok : compF Try.prog 13 [[0], [0, 3], [0, 3, 9], [2], [0, 12, 13, 14], [0, 12, 13, 14], [0, 12, 13, 14, 15], [0, 5, 12, 13, 14], [0, 5, 12, 13, 14, 23], [0, 5, 12, 13, 14], [0, 12, 13, 14], [0, 12, 13, 14], [2]] = some fc_pmem_Device_Fence := by kernel_rfl
/-- (*joist/pmem.Device).Image -/
abbrev F.pmem_Device_Image : Nat := 14
def cmd_pmem_Device_Image : Cmd :=
  .seq (.seq (.reg [⟨(some 2), none, .inl (.mv (.c .nils))⟩])
   (.keep [0]))
   (.seq (.seq (.reg [⟨(some 3), none, .inl (.mv (.t 0))⟩,
       ⟨(some 4), none, .inl (.nilchk (.t 3))⟩,
       ⟨(some 5), none, .inl (.faddr 0 (.t 4))⟩,
       ⟨(some 6), none, .inl (.load false 1 (.t 5))⟩,
       ⟨(some 7), none, .inr (.call 33 [(.t 6)])⟩,
       ⟨(some 2), none, .inl (.mv (.t 7))⟩])
    (.keep [2]))
    (.ret))
def fc_pmem_Device_Image : FC := ⟨8, cmd_pmem_Device_Image, [.t 2]⟩
theorem fc_pmem_Device_Image_ok : compF Try.prog 14 [[0], [2]] = some fc_pmem_Device_Image := by kernel_rfl
/-- (*joist/pmem.Device).View -/
abbrev F.pmem_Device_View : Nat := 15
def cmd_pmem_Device_View : Cmd :=
  .seq (.seq (.reg [⟨(some 2), none, .inl (.mv (.c .nils))⟩])
   (.keep [0]))
   (.seq (.seq (.reg [⟨(some 3), none, .inl (.mv (.t 0))⟩,
       ⟨(some 4), none, .inl (.nilchk (.t 3))⟩,
       ⟨(some 5), none, .inl (.faddr 1 (.t 4))⟩,
       ⟨(some 6), none, .inl (.load false 1 (.t 5))⟩,
       ⟨(some 7), none, .inr (.call 33 [(.t 6)])⟩,
       ⟨(some 2), none, .inl (.mv (.t 7))⟩])
    (.keep [2]))
    (.ret))
def fc_pmem_Device_View : FC := ⟨8, cmd_pmem_Device_View, [.t 2]⟩
theorem fc_pmem_Device_View_ok : compF Try.prog 15 [[0], [2]] = some fc_pmem_Device_View := by kernel_rfl
/-- (*joist/pmem.Device).Crash -/
abbrev F.pmem_Device_Crash : Nat := 16
def cmd_pmem_Device_Crash : Cmd :=
  .seq (.seq (.seq (.reg [⟨(some 6), none, .inl (.mv (.t 0))⟩,
      ⟨(some 7), none, .inr (.call 18 [(.t 6)])⟩,
      ⟨(some 8), none, .inl (.len (.t 7))⟩,
      ⟨(some 9), none, .inl (.mv (.c (.int .i64 0)))⟩])
   (.keep [0, 1, 7, 8, 9]))
   (.block 0 (.loop [0, 1, 7, 8, 9] (.seq (.seq (.reg [⟨(some 10), none, .inl (.bin .lss (.t 9) (.t 8))⟩])
    (.keep [0, 1, 7, 8, 9, 10]))
    (.seq (.cond (.t 10)
      (.skip)
      (.exit 0))
     (.seq (.block 1 (.seq (.seq (.reg [⟨(some 11), none, .inl (.mv (.t 9))⟩,
         ⟨(some 12), none, .inl (.iaddr 1 (.t 7) (.t 9))⟩,
         ⟨(some 13), none, .inl (.load false 1 (.t 12))⟩,
         ⟨(some 4), none, .inl (.mv (.t 11))⟩,
         ⟨(some 5), none, .inl (.mv (.t 13))⟩])
      (.keep [0, 1, 4, 5, 7, 8, 9]))
      (.seq (.seq (.reg [⟨(some 14), none, .inl (.mv (.t 4))⟩,
          ⟨(some 15), none, .inl (.mv (.t 1))⟩,
          ⟨(some 16), none, .inl (.len (.t 15))⟩,
          ⟨(some 17), none, .inl (.bin .lss (.t 14) (.t 16))⟩,
          ⟨(some 18), none, .inl (.mv (.t 17))⟩,
          ⟨(some 19), (some (18, true)), .inl (.mv (.t 1))⟩,
          ⟨(some 20), (some (18, true)), .inl (.mv (.t 4))⟩,
          ⟨(some 21), (some (18, true)), .inl (.iaddr 1 (.t 19) (.t 20))⟩,
          ⟨(some 22), (some (18, true)), .inl (.load false 1 (.t 21))⟩,
          ⟨(some 23), none, .inl (.pick (.t 18) (.t 22) (.c (.bool false)))⟩])
       (.keep [0, 1, 5, 7, 8, 9, 23]))
       (.cond (.t 23)
         (.seq (.reg [⟨(some 24), none, .inl (.mv (.t 0))⟩,
             ⟨(some 25), none, .inl (.mv (.t 5))⟩,
             ⟨(some 26), none, .inr (.call 38 [(.t 24), (.t 25)])⟩])
          (.keep [0, 1, 7, 8, 9]))
         (.skip)))))
      (.seq (.reg [⟨(some 27), none, .inl (.bin .add (.t 9) (.c (.int .i64 1)))⟩,
          ⟨(some 9), none, .inl (.mv (.t 27))⟩])
       (.keep [0, 1, 7, 8, 9]))))))))
   (.seq (.seq (.ord [⟨0, ⟨(some 28), none, .inl (.mv (.t 0))⟩, [], false⟩,
       ⟨1, ⟨(some 29), none, .inl (.nilchk (.t 28))⟩, [], false⟩,
       ⟨2, ⟨(some 30), none, .inl (.faddr 1 (.t 29))⟩, [], false⟩,
       ⟨3, ⟨(some 31), none, .inl (.load false 1 (.t 30))⟩, [], false⟩,
       ⟨4, ⟨(some 32), none, .inl (.mv (.t 0))⟩, [], false⟩,
       ⟨5, ⟨(some 33), none, .inl (.nilchk (.t 32))⟩, [], false⟩,
       ⟨6, ⟨(some 34), none, .inl (.faddr 0 (.t 33))⟩, [], false⟩,
       ⟨7, ⟨(some 35), none, .inl (.load false 1 (.t 34))⟩, [], false⟩,
       ⟨8, ⟨(some 36), none, .inr (.copy 1 (.t 31) (.t 35))⟩, [], false⟩])
    (.keep [0]))
    (.seq (.seq (.reg [⟨(some 37), none, .inl (.mv (.t 0))⟩,
        ⟨(some 38), none, .inl (.nilchk (.t 37))⟩,
        ⟨(some 39), none, .inl (.faddr 2 (.t 38))⟩,
        ⟨(some 40), none, .inl (.load false 1 (.t 39))⟩,
        ⟨none, none, .inr (.clr (.t 40))⟩])
     (.keep [0]))
     (.seq (.reg [⟨(some 41), none, .inl (.mv (.t 0))⟩,
         ⟨(some 42), none, .inl (.mv (.t 0))⟩,
         ⟨(some 43), none, .inl (.nilchk (.t 41))⟩,
         ⟨(some 44), none, .inl (.faddr 4 (.t 43))⟩,
         ⟨none, none, .inr (.store 1 (.t 44) (.c (.bool false)))⟩,
         ⟨(some 45), none, .inl (.nilchk (.t 42))⟩,
         ⟨(some 46), none, .inl (.faddr 3 (.t 45))⟩,
         ⟨none, none, .inr (.store 1 (.t 46) (.c (.int .i64 0)))⟩])
      (.keep []))))
def fc_pmem_Device_Crash : FC := ⟨47, cmd_pmem_Device_Crash, []⟩
theorem fc_pmem_Device_Crash_ok : compF Try.prog 16 [[0, 1, 7, 8, 9], [0, 1, 7, 8, 9], [0, 1, 7, 8, 9, 10], [0, 1, 4, 5, 7, 8, 9], [0, 1, 5, 7, 8, 9, 23], [0, 1, 7, 8, 9], [0, 1, 7, 8, 9], [0], [0, 1, 2, 3, 4, 5, 6, 7, 8], [0], []] = some fc_pmem_Device_Crash := by kernel_rfl
/-- (*joist/pmem.Device).Down -/
abbrev F.pmem_Device_Down : Nat := 17
def cmd_pmem_Device_Down : Cmd :=
  .seq (.seq (.reg [⟨(some 2), none, .inl (.mv (.c (.bool false)))⟩])
   (.keep [0]))
   (.seq (.seq (.reg [⟨(some 3), none, .inl (.mv (.t 0))⟩,
       ⟨(some 4), none, .inl (.nilchk (.t 3))⟩,
       ⟨(some 5), none, .inl (.faddr 4 (.t 4))⟩,
       ⟨(some 6), none, .inl (.load false 1 (.t 5))⟩,
       ⟨(some 2), none, .inl (.mv (.t 6))⟩])
    (.keep [2]))
    (.ret))
def fc_pmem_Device_Down : FC := ⟨7, cmd_pmem_Device_Down, [.t 2]⟩
theorem fc_pmem_Device_Down_ok : compF Try.prog 17 [[0], [2]] = some fc_pmem_Device_Down := by kernel_rfl
/-- (*joist/pmem.Device).Dirty -/
abbrev F.pmem_Device_Dirty : Nat := 18
def cmd_pmem_Device_Dirty : Cmd :=
  .seq (.seq (.reg [⟨(some 2), none, .inl (.mv (.c .nils))⟩])
   (.keep [0]))
   (.seq (.seq (.reg [⟨(some 3), none, .inl (.mv (.c .nils))⟩])
    (.keep [0, 3]))
    (.seq (.seq (.seq (.reg [⟨(some 5), none, .inl (.mv (.t 0))⟩,
        ⟨(some 6), none, .inl (.nilchk (.t 5))⟩,
        ⟨(some 7), none, .inl (.faddr 2 (.t 6))⟩,
        ⟨(some 8), none, .inl (.load false 1 (.t 7))⟩,
        ⟨(some 9), none, .inr (.rng (.t 8))⟩])
     (.keep [3, 9]))
     (.block 0 (.loop [3, 9] (.seq (.seq (.reg [⟨(some 10), none, .inr (.next (.t 9))⟩,
         ⟨(some 11), none, .inl (.ext 0 (.t 10))⟩])
      (.keep [3, 9, 11]))
      (.seq (.cond (.t 11)
        (.skip)
        (.exit 0))
       (.block 1 (.seq (.seq (.reg [⟨(some 12), none, .inr (.entry (.t 9))⟩,
           ⟨(some 13), none, .inl (.ext 0 (.t 12))⟩,
           ⟨(some 4), none, .inl (.mv (.t 13))⟩])
        (.keep [3, 4, 9]))
        (.seq (.reg [⟨(some 14), none, .inl (.mv (.t 3))⟩,
            ⟨(some 15), none, .inl (.mv (.t 4))⟩,
            ⟨(some 16), none, .inr (.bslice 1 [(.int .i64 0)] 1 [(0, (.t 15))])⟩,
            ⟨(some 17), none, .inr (.append 1 8 (.t 14) (.t 16))⟩,
            ⟨(some 3), none, .inl (.mv (.t 17))⟩])
         (.keep [3, 9])))))))))
     (.seq (.seq (.reg [⟨(some 18), none, .inl (.mv (.t 3))⟩,
         ⟨(some 19), none, .inr (.call 39 [(.t 18)])⟩])
      (.keep [3]))
      (.seq (.seq (.reg [⟨(some 20), none, .inl (.mv (.t 3))⟩,
          ⟨(some 2), none, .inl (.mv (.t 20))⟩])
       (.keep [2]))
       (.ret)))))
def fc_pmem_Device_Dirty : FC := ⟨21, cmd_pmem_Device_Dirty, [.t 2]⟩
theorem fc_pmem_Device_Dirty_ok : compF Try.prog 18 [[0], [0, 3], [3, 9], [3, 9], [3, 9, 11], [3, 4, 9], [3, 9], [3], [2]] = some fc_pmem_Device_Dirty := by kernel_rfl
/-- (*joist/pmem.Device).Lines -/
abbrev F.pmem_Device_Lines : Nat := 19
def cmd_pmem_Device_Lines : Cmd :=
  .seq (.seq (.reg [⟨(some 2), none, .inl (.mv (.c (.int .i64 0)))⟩])
   (.keep [0]))
   (.seq (.seq (.reg [⟨(some 3), none, .inl (.mv (.t 0))⟩,
       ⟨(some 4), none, .inl (.nilchk (.t 3))⟩,
       ⟨(some 5), none, .inl (.faddr 1 (.t 4))⟩,
       ⟨(some 6), none, .inl (.load false 1 (.t 5))⟩,
       ⟨(some 7), none, .inl (.len (.t 6))⟩,
       ⟨(some 8), none, .inl (.bin .quo (.t 7) (.c (.int .i64 64)))⟩,
       ⟨(some 2), none, .inl (.mv (.t 8))⟩])
    (.keep [2]))
    (.ret))
def fc_pmem_Device_Lines : FC := ⟨9, cmd_pmem_Device_Lines, [.t 2]⟩
theorem fc_pmem_Device_Lines_ok : compF Try.prog 19 [[0], [2]] = some fc_pmem_Device_Lines := by kernel_rfl
/-- (*joist/pmem.Device).Arm -/
abbrev F.pmem_Device_Arm : Nat := 20
def cmd_pmem_Device_Arm : Cmd :=
  .seq (.reg [⟨(some 4), none, .inl (.mv (.t 0))⟩,
      ⟨(some 5), none, .inl (.mv (.t 1))⟩,
      ⟨(some 6), none, .inl (.mx (.t 5) (.c (.int .i64 0)))⟩,
      ⟨(some 7), none, .inl (.nilchk (.t 4))⟩,
      ⟨(some 8), none, .inl (.faddr 3 (.t 7))⟩,
      ⟨none, none, .inr (.store 1 (.t 8) (.t 6))⟩])
   (.keep [])
def fc_pmem_Device_Arm : FC := ⟨9, cmd_pmem_Device_Arm, []⟩
theorem fc_pmem_Device_Arm_ok : compF Try.prog 20 [[]] = some fc_pmem_Device_Arm := by kernel_rfl
/-- (*joist/pmem.Device).Load -/
abbrev F.pmem_Device_Load : Nat := 21
def cmd_pmem_Device_Load : Cmd :=
  .seq (.seq (.reg [⟨(some 6), none, .inl (.mv (.c .nils))⟩,
      ⟨(some 7), none, .inl (.mv (.c (.int .i64 0)))⟩])
   (.keep [0, 1, 2]))
   (.seq (.seq (.seq (.reg [⟨(some 9), none, .inl (.mv (.t 0))⟩,
       ⟨(some 10), none, .inl (.mv (.t 1))⟩,
       ⟨(some 11), none, .inl (.mv (.t 2))⟩,
       ⟨(some 12), none, .inr (.call 40 [(.t 9), (.t 10), (.t 11)])⟩,
       ⟨(some 8), none, .inl (.mv (.t 12))⟩])
    (.keep [0, 1, 2, 8]))
    (.seq (.seq (.reg [⟨(some 13), none, .inl (.mv (.t 8))⟩,
        ⟨(some 14), none, .inl (.bin .neq (.t 13) (.c (.int .i64 0)))⟩])
     (.keep [0, 1, 2, 8, 14]))
     (.cond (.t 14)
       (.seq (.seq (.reg [⟨(some 15), none, .inl (.mv (.t 8))⟩,
           ⟨(some 6), none, .inl (.mv (.c .nils))⟩,
           ⟨(some 7), none, .inl (.mv (.t 15))⟩])
        (.keep [6, 7]))
        (.ret))
       (.skip))))
    (.seq (.seq (.reg [⟨(some 16), none, .inl (.mv (.t 0))⟩,
        ⟨(some 17), none, .inl (.nilchk (.t 16))⟩,
        ⟨(some 18), none, .inl (.faddr 1 (.t 17))⟩,
        ⟨(some 19), none, .inl (.load false 1 (.t 18))⟩,
        ⟨(some 20), none, .inl (.mv (.t 1))⟩,
        ⟨(some 21), none, .inl (.mv (.t 1))⟩,
        ⟨(some 22), none, .inl (.mv (.t 2))⟩,
        ⟨(some 23), none, .inl (.bin .add (.t 21) (.t 22))⟩,
        ⟨(some 24), none, .inl (.slice 1 (.t 19) (some (.t 20)) (some (.t 23)) none)⟩,
        ⟨(some 25), none, .inr (.call 33 [(.t 24)])⟩,
        ⟨(some 6), none, .inl (.mv (.t 25))⟩,
        ⟨(some 7), none, .inl (.mv (.c (.int .i64 0)))⟩])
     (.keep [6, 7]))
     (.ret)))
def fc_pmem_Device_Load : FC := ⟨26, cmd_pmem_Device_Load, [.t 6, .t 7]⟩
theorem fc_pmem_Device_Load_ok : compF Try.prog 21 [[0, 1, 2], [0, 1, 2, 8], [0, 1, 2, 8, 14], [6, 7], [6, 7]] = some fc_pmem_Device_Load := by kernel_rfl
/-- joist/joistlaw01.Lent -/
abbrev F.joistlaw01_Lent : Nat := 22
def cmd_joistlaw01_Lent : Cmd :=
  .seq (.seq (.reg [⟨(some 2), none, .inl (.mv (.c .nils))⟩])
   (.keep [0]))
   (.seq (.seq (.reg [⟨(some 4), none, .inl (.mv (.t 0))⟩,
       ⟨(some 5), none, .inl (.len (.t 4))⟩,
       ⟨(some 6), none, .inl (.mv (.t 0))⟩,
       ⟨(some 7), none, .inl (.len (.t 6))⟩,
       ⟨(some 8), none, .inl (.bin .add (.t 7) (.c (.int .i64 1)))⟩,
       ⟨(some 9), none, .inr (.mksl 1 1 [(.int .u8 0)] (.t 5) (.t 8))⟩,
       ⟨(some 3), none, .inl (.mv (.t 9))⟩])
    (.keep [0, 3]))
    (.seq (.seq (.reg [⟨(some 10), none, .inl (.mv (.t 3))⟩,
        ⟨(some 11), none, .inl (.mv (.t 0))⟩,
        ⟨(some 12), none, .inr (.copy 1 (.t 10) (.t 11))⟩])
     (.keep [0, 3]))
     (.seq (.seq (.reg [⟨(some 13), none, .inl (.mv (.t 3))⟩,
         ⟨(some 14), none, .inl (.mv (.t 0))⟩,
         ⟨(some 15), none, .inl (.len (.t 14))⟩,
         ⟨(some 16), none, .inl (.bin .add (.t 15) (.c (.int .i64 1)))⟩,
         ⟨(some 17), none, .inl (.slice 1 (.t 13) none (some (.t 16)) none)⟩,
         ⟨(some 18), none, .inl (.mv (.t 0))⟩,
         ⟨(some 19), none, .inl (.len (.t 18))⟩,
         ⟨(some 20), none, .inl (.iaddr 1 (.t 17) (.t 19))⟩,
         ⟨none, none, .inr (.store 1 (.t 20) (.c (.int .u8 77)))⟩])
      (.keep [3]))
      (.seq (.seq (.reg [⟨(some 21), none, .inl (.mv (.t 3))⟩,
          ⟨(some 2), none, .inl (.mv (.t 21))⟩])
       (.keep [2]))
       (.ret)))))
def fc_joistlaw01_Lent : FC := ⟨22, cmd_joistlaw01_Lent, [.t 2]⟩
theorem fc_joistlaw01_Lent_ok : compF Try.prog 22 [[0], [0, 3], [0, 3], [3], [2]] = some fc_joistlaw01_Lent := by kernel_rfl
/-- joist/joistlaw01.Kept -/
abbrev F.joistlaw01_Kept : Nat := 23
def cmd_joistlaw01_Kept : Cmd :=
  .seq (.seq (.reg [⟨(some 4), none, .inl (.mv (.c (.bool false)))⟩])
   (.keep [0, 1]))
   (.seq (.seq (.reg [⟨(some 5), none, .inl (.mv (.t 0))⟩,
       ⟨(some 6), none, .inl (.b2s (.t 5))⟩,
       ⟨(some 7), none, .inl (.mv (.t 1))⟩,
       ⟨(some 8), none, .inl (.b2s (.t 7))⟩,
       ⟨(some 9), none, .inl (.bins .eql (.t 6) (.t 8))⟩,
       ⟨(some 10), none, .inl (.mv (.t 9))⟩,
       ⟨(some 11), (some (10, true)), .inl (.mv (.t 0))⟩,
       ⟨(some 12), (some (10, true)), .inl (.mv (.t 1))⟩,
       ⟨(some 13), (some (10, true)), .inl (.len (.t 12))⟩,
       ⟨(some 14), (some (10, true)), .inl (.bin .add (.t 13) (.c (.int .i64 1)))⟩,
       ⟨(some 15), (some (10, true)), .inl (.slice 1 (.t 11) none (some (.t 14)) none)⟩,
       ⟨(some 16), (some (10, true)), .inl (.mv (.t 1))⟩,
       ⟨(some 17), (some (10, true)), .inl (.len (.t 16))⟩,
       ⟨(some 18), (some (10, true)), .inl (.iaddr 1 (.t 15) (.t 17))⟩,
       ⟨(some 19), (some (10, true)), .inl (.load false 1 (.t 18))⟩,
       ⟨(some 20), (some (10, true)), .inl (.bin .eql (.t 19) (.c (.int .u8 77)))⟩,
       ⟨(some 21), none, .inl (.pick (.t 10) (.t 20) (.c (.bool false)))⟩,
       ⟨(some 4), none, .inl (.mv (.t 21))⟩])
    (.keep [4]))
    (.ret))
def fc_joistlaw01_Kept : FC := ⟨22, cmd_joistlaw01_Kept, [.t 4]⟩
theorem fc_joistlaw01_Kept_ok : compF Try.prog 23 [[0, 1], [4]] = some fc_joistlaw01_Kept := by kernel_rfl
/-- joist/joistlaw01.Owned -/
abbrev F.joistlaw01_Owned : Nat := 24
def cmd_joistlaw01_Owned : Cmd :=
  .seq (.seq (.reg [⟨(some 2), none, .inl (.mv (.c (.bool false)))⟩])
   (.keep [0]))
   (.seq (.seq (.seq (.reg [⟨(some 3), none, .inl (.mv (.c (.int .i64 0)))⟩])
    (.keep [0, 3]))
    (.block 0 (.loop [0, 3] (.seq (.seq (.seq (.reg [⟨(some 9), none, .inl (.mv (.t 3))⟩,
        ⟨(some 10), none, .inl (.mv (.t 0))⟩,
        ⟨(some 11), none, .inl (.len (.t 10))⟩,
        ⟨(some 12), none, .inl (.bin .lss (.t 9) (.t 11))⟩])
     (.keep [0, 3, 12]))
     (.cond (.t 12)
       (.skip)
       (.exit 0)))
     (.seq (.block 1 (.seq (.seq (.ord [⟨0, ⟨(some 15), none, .inl (.mv (.t 0))⟩, [], false⟩,
         ⟨1, ⟨(some 16), none, .inl (.mv (.t 3))⟩, [], false⟩,
         ⟨2, ⟨(some 17), none, .inl (.iaddr 1 (.t 15) (.t 16))⟩, [], false⟩,
         ⟨3, ⟨(some 18), none, .inl (.load false 1 (.t 17))⟩, [], false⟩,
         ⟨4, ⟨(some 19), none, .inl (.mv (.t 0))⟩, [], false⟩,
         ⟨5, ⟨(some 20), none, .inl (.mv (.t 3))⟩, [], false⟩,
         ⟨6, ⟨(some 21), none, .inl (.iaddr 1 (.t 19) (.t 20))⟩, [], false⟩,
         ⟨7, ⟨(some 22), none, .inl (.load false 1 (.t 21))⟩, [], false⟩,
         ⟨8, ⟨(some 23), none, .inl (.cap (.t 22))⟩, [], false⟩,
         ⟨9, ⟨(some 24), none, .inl (.slice 1 (.t 18) none (some (.t 23)) none)⟩, [], false⟩,
         ⟨10, ⟨(some 4), none, .inl (.mv (.t 24))⟩, [], false⟩])
      (.keep [0, 3, 4]))
      (.seq (.seq (.reg [⟨(some 5), none, .inl (.mv (.c (.int .i64 0)))⟩])
       (.keep [0, 3, 4, 5]))
       (.block 2 (.loop [0, 3, 4, 5] (.seq (.seq (.seq (.reg [⟨(some 25), none, .inl (.mv (.t 5))⟩,
           ⟨(some 26), none, .inl (.mv (.t 4))⟩,
           ⟨(some 27), none, .inl (.len (.t 26))⟩,
           ⟨(some 28), none, .inl (.bin .lss (.t 25) (.t 27))⟩])
        (.keep [0, 3, 4, 5, 28]))
        (.cond (.t 28)
          (.skip)
          (.exit 2)))
        (.seq (.block 3 (.seq (.reg [⟨(some 31), none, .inl (.mv (.t 4))⟩,
            ⟨(some 32), none, .inl (.mv (.t 5))⟩,
            ⟨(some 33), none, .inl (.mv (.t 3))⟩,
            ⟨(some 34), none, .inl (.bin .add (.t 33) (.c (.int .i64 1)))⟩,
            ⟨(some 35), none, .inl (.conv .u8 (.t 34))⟩,
            ⟨(some 36), none, .inl (.iaddr 1 (.t 31) (.t 32))⟩,
            ⟨none, none, .inr (.store 1 (.t 36) (.t 35))⟩])
         (.keep [0, 3, 4, 5])))
         (.seq (.reg [⟨(some 29), none, .inl (.mv (.t 5))⟩,
             ⟨(some 30), none, .inl (.bin .add (.t 29) (.c (.int .i64 1)))⟩,
             ⟨(some 5), none, .inl (.mv (.t 30))⟩])
          (.keep [0, 3, 4, 5])))))))))
      (.seq (.reg [⟨(some 13), none, .inl (.mv (.t 3))⟩,
          ⟨(some 14), none, .inl (.bin .add (.t 13) (.c (.int .i64 1)))⟩,
          ⟨(some 3), none, .inl (.mv (.t 14))⟩])
       (.keep [0, 3])))))))
    (.seq (.seq (.seq (.reg [⟨(some 6), none, .inl (.mv (.c (.int .i64 0)))⟩])
     (.keep [0, 6]))
     (.block 4 (.loop [0, 6] (.seq (.seq (.seq (.reg [⟨(some 37), none, .inl (.mv (.t 6))⟩,
         ⟨(some 38), none, .inl (.mv (.t 0))⟩,
         ⟨(some 39), none, .inl (.len (.t 38))⟩,
         ⟨(some 40), none, .inl (.bin .lss (.t 37) (.t 39))⟩])
      (.keep [0, 6, 40]))
      (.cond (.t 40)
        (.skip)
        (.exit 4)))
      (.seq (.block 5 (.seq (.seq (.ord [⟨0, ⟨(some 43), none, .inl (.mv (.t 0))⟩, [], false⟩,
          ⟨1, ⟨(some 44), none, .inl (.mv (.t 6))⟩, [], false⟩,
          ⟨2, ⟨(some 45), none, .inl (.iaddr 1 (.t 43) (.t 44))⟩, [], false⟩,
          ⟨3, ⟨(some 46), none, .inl (.load false 1 (.t 45))⟩, [], false⟩,
          ⟨4, ⟨(some 47), none, .inl (.mv (.t 0))⟩, [], false⟩,
          ⟨5, ⟨(some 48), none, .inl (.mv (.t 6))⟩, [], false⟩,
          ⟨6, ⟨(some 49), none, .inl (.iaddr 1 (.t 47) (.t 48))⟩, [], false⟩,
          ⟨7, ⟨(some 50), none, .inl (.load false 1 (.t 49))⟩, [], false⟩,
          ⟨8, ⟨(some 51), none, .inl (.cap (.t 50))⟩, [], false⟩,
          ⟨9, ⟨(some 52), none, .inl (.slice 1 (.t 46) none (some (.t 51)) none)⟩, [], false⟩,
          ⟨10, ⟨(some 7), none, .inl (.mv (.t 52))⟩, [], false⟩])
       (.keep [0, 6, 7]))
       (.seq (.seq (.reg [⟨(some 8), none, .inl (.mv (.c (.int .i64 0)))⟩])
        (.keep [0, 6, 7, 8]))
        (.block 6 (.loop [0, 6, 7, 8] (.seq (.seq (.seq (.reg [⟨(some 53), none, .inl (.mv (.t 8))⟩,
            ⟨(some 54), none, .inl (.mv (.t 7))⟩,
            ⟨(some 55), none, .inl (.len (.t 54))⟩,
            ⟨(some 56), none, .inl (.bin .lss (.t 53) (.t 55))⟩])
         (.keep [0, 6, 7, 8, 56]))
         (.cond (.t 56)
           (.skip)
           (.exit 6)))
         (.seq (.block 7 (.seq (.seq (.reg [⟨(some 59), none, .inl (.mv (.t 7))⟩,
             ⟨(some 60), none, .inl (.mv (.t 8))⟩,
             ⟨(some 61), none, .inl (.iaddr 1 (.t 59) (.t 60))⟩,
             ⟨(some 62), none, .inl (.load false 1 (.t 61))⟩,
             ⟨(some 63), none, .inl (.mv (.t 6))⟩,
             ⟨(some 64), none, .inl (.bin .add (.t 63) (.c (.int .i64 1)))⟩,
             ⟨(some 65), none, .inl (.conv .u8 (.t 64))⟩,
             ⟨(some 66), none, .inl (.bin .neq (.t 62) (.t 65))⟩])
          (.keep [0, 6, 7, 8, 66]))
          (.cond (.t 66)
            (.seq (.seq (.reg [⟨(some 2), none, .inl (.mv (.c (.bool false)))⟩])
             (.keep [2]))
             (.ret))
            (.skip))))
          (.seq (.reg [⟨(some 57), none, .inl (.mv (.t 8))⟩,
              ⟨(some 58), none, .inl (.bin .add (.t 57) (.c (.int .i64 1)))⟩,
              ⟨(some 8), none, .inl (.mv (.t 58))⟩])
           (.keep [0, 6, 7, 8])))))))))
       (.seq (.reg [⟨(some 41), none, .inl (.mv (.t 6))⟩,
           ⟨(some 42), none, .inl (.bin .add (.t 41) (.c (.int .i64 1)))⟩,
           ⟨(some 6), none, .inl (.mv (.t 42))⟩])
        (.keep [0, 6])))))))
     (.seq (.seq (.reg [⟨(some 2), none, .inl (.mv (.c (.bool true)))⟩])
      (.keep [2]))
      (.ret))))
def fc_joistlaw01_Owned : FC := ⟨67, cmd_joistlaw01_Owned, [.t 2]⟩
theorem fc_joistlaw01_Owned_ok : compF Try.prog 24 [[0], [0, 3], [0, 3], [0, 3, 12], [0, 3, 4], [0, 1, 2, 3, 4, 5, 6, 7, 8, 9, 10], [0, 3, 4, 5], [0, 3, 4, 5], [0, 3, 4, 5, 28], [0, 3, 4, 5], [0, 3, 4, 5], [0, 3], [0, 6], [0, 6], [0, 6, 40], [0, 6, 7], [0, 1, 2, 3, 4, 5, 6, 7, 8, 9, 10], [0, 6, 7, 8], [0, 6, 7, 8], [0, 6, 7, 8, 56], [0, 6, 7, 8, 66], [2], [0, 6, 7, 8], [0, 6], [2]] = some fc_joistlaw01_Owned := by kernel_rfl
/-- joist/joistref03.New -/
abbrev F.joistref03_New : Nat := 25
def cmd_joistref03_New : Cmd :=
  .seq (.seq (.reg [⟨(some 2), none, .inl (.mv (.c .nilp))⟩,
      ⟨(some 3), none, .inl (.mv (.c (.int .i64 0)))⟩])
   (.keep [0]))
   (.seq (.seq (.seq (.reg [⟨(some 5), none, .inl (.mv (.t 0))⟩,
       ⟨(some 6), none, .inl (.len (.t 5))⟩,
       ⟨(some 7), none, .inl (.bin .eql (.t 6) (.c (.int .i64 0)))⟩,
       ⟨(some 8), none, .inl (.mv (.t 7))⟩,
       ⟨(some 9), (some (8, false)), .inl (.mv (.t 0))⟩,
       ⟨(some 10), (some (8, false)), .inl (.len (.t 9))⟩,
       ⟨(some 11), (some (8, false)), .inl (.bin .rem (.t 10) (.c (.int .i64 64)))⟩,
       ⟨(some 12), (some (8, false)), .inl (.bin .neq (.t 11) (.c (.int .i64 0)))⟩,
       ⟨(some 13), none, .inl (.pick (.t 8) (.c (.bool true)) (.t 12))⟩,
       ⟨(some 14), none, .inl (.mv (.t 13))⟩,
       ⟨(some 15), (some (14, false)), .inl (.mv (.t 0))⟩,
       ⟨(some 16), (some (14, false)), .inl (.len (.t 15))⟩,
       ⟨(some 17), (some (14, false)), .inl (.bin .gtr (.t 16) (.c (.int .i64 262144)))⟩,
       ⟨(some 18), none, .inl (.pick (.t 14) (.c (.bool true)) (.t 17))⟩])
    (.keep [0, 18]))
    (.cond (.t 18)
      (.seq (.seq (.reg [⟨(some 2), none, .inl (.mv (.c .nilp))⟩,
          ⟨(some 3), none, .inl (.mv (.c (.int .i64 1)))⟩])
       (.keep [2, 3]))
       (.ret))
      (.skip)))
    (.seq (.seq (.reg [⟨(some 19), none, .inl (.mv (.t 0))⟩,
        ⟨(some 20), none, .inl (.len (.t 19))⟩,
        ⟨(some 21), none, .inl (.bin .quo (.t 20) (.c (.int .i64 64)))⟩,
        ⟨(some 4), none, .inl (.mv (.t 21))⟩])
     (.keep [0, 4]))
     (.seq (.seq (.par [⟨0, ⟨(some 22), none, .inr (.bslice 1 [(.int .u8 0)] 0 [])⟩, [], false⟩,
         ⟨1, ⟨(some 23), none, .inl (.mv (.t 0))⟩, [], false⟩,
         ⟨2, ⟨(some 24), none, .inr (.append 1 1 (.t 22) (.t 23))⟩, [0, 1], false⟩,
         ⟨3, ⟨(some 25), none, .inr (.bslice 1 [(.int .u8 0)] 0 [])⟩, [], false⟩,
         ⟨4, ⟨(some 26), none, .inl (.mv (.t 0))⟩, [], false⟩,
         ⟨5, ⟨(some 27), none, .inr (.append 1 1 (.t 25) (.t 26))⟩, [3, 4, 2], false⟩,
         ⟨6, ⟨(some 28), none, .inl (.mv (.t 4))⟩, [], false⟩,
         ⟨7, ⟨(some 29), none, .inr (.mksl 1 1 [(.bool false)] (.t 28) (.t 28))⟩, [6, 6], false⟩,
         ⟨8, ⟨(some 30), none, .inl (.mv (.t 4))⟩, [], false⟩,
         ⟨9, ⟨(some 31), none, .inr (.mksl 1 1 [(.bool false)] (.t 30) (.t 30))⟩, [8, 8], false⟩,
         ⟨10, ⟨(some 32), none, .inl (.build [.nils, .nils, .nils, .nils, (.int .i64 0), (.bool false)] [(0, 1, (.t 24)), (1, 1, (.t 27)), (2, 1, (.t 29)), (3, 1, (.t 31))])⟩, [2, 5, 7, 9], false⟩,
         ⟨11, ⟨(some 33), none, .inr (.box 6 (.t 32))⟩, [10], false⟩,
         ⟨12, ⟨(some 2), none, .inl (.mv (.t 33))⟩, [11, 5, 0, 1, 2, 3, 4, 5, 6, 7, 8, 9, 10, 11], false⟩,
         ⟨13, ⟨(some 3), none, .inl (.mv (.c (.int .i64 0)))⟩, [12, 0, 1, 2, 3, 4, 5, 6, 7, 8, 9, 10, 11, 12], false⟩])
      (.keep [2, 3]))
      (.ret))))
def fc_joistref03_New : FC := ⟨34, cmd_joistref03_New, [.t 2, .t 3]⟩
theorem fc_joistref03_New_ok : compF Try.prog 25 [[0], [0, 18], [2, 3], [0, 4], [2, 3], []] = some fc_joistref03_New := by kernel_rfl
/-- (*joist/joistref03.Device).Load -/
abbrev F.joistref03_Device_Load : Nat := 26
def cmd_joistref03_Device_Load : Cmd :=
  .seq (.seq (.reg [⟨(some 6), none, .inl (.mv (.c .nils))⟩,
      ⟨(some 7), none, .inl (.mv (.c (.int .i64 0)))⟩])
   (.keep [0, 1, 2]))
   (.seq (.seq (.reg [⟨(some 9), none, .inl (.mv (.t 0))⟩,
       ⟨(some 10), none, .inl (.mv (.t 1))⟩,
       ⟨(some 11), none, .inl (.mv (.t 2))⟩,
       ⟨(some 12), none, .inr (.call 41 [(.t 9), (.t 10), (.t 11)])⟩,
       ⟨(some 8), none, .inl (.mv (.t 12))⟩])
    (.keep [0, 1, 2, 8]))
    (.seq (.seq (.seq (.reg [⟨(some 13), none, .inl (.mv (.t 8))⟩,
        ⟨(some 14), none, .inl (.bin .neq (.t 13) (.c (.int .i64 0)))⟩])
     (.keep [0, 1, 2, 8, 14]))
     (.cond (.t 14)
       (.seq (.seq (.reg [⟨(some 15), none, .inl (.mv (.t 8))⟩,
           ⟨(some 6), none, .inl (.mv (.c .nils))⟩,
           ⟨(some 7), none, .inl (.mv (.t 15))⟩])
        (.keep [6, 7]))
        (.ret))
       (.skip)))
     (.seq (.seq (.reg [⟨(some 16), none, .inr (.bslice 1 [(.int .u8 0)] 0 [])⟩,
         ⟨(some 17), none, .inl (.mv (.t 0))⟩,
         ⟨(some 18), none, .inl (.nilchk (.t 17))⟩,
         ⟨(some 19), none, .inl (.faddr 1 (.t 18))⟩,
         ⟨(some 20), none, .inl (.load false 1 (.t 19))⟩,
         ⟨(some 21), none, .inl (.mv (.t 1))⟩,
         ⟨(some 22), none, .inl (.mv (.t 1))⟩,
         ⟨(some 23), none, .inl (.mv (.t 2))⟩,
         ⟨(some 24), none, .inl (.bin .add (.t 22) (.t 23))⟩,
         ⟨(some 25), none, .inl (.slice 1 (.t 20) (some (.t 21)) (some (.t 24)) none)⟩,
         ⟨(some 26), none, .inr (.append 1 1 (.t 16) (.t 25))⟩,
         ⟨(some 6), none, .inl (.mv (.t 26))⟩,
         ⟨(some 7), none, .inl (.mv (.c (.int .i64 0)))⟩])
      (.keep [6, 7]))
      (.ret))))
def fc_joistref03_Device_Load : FC := ⟨27, cmd_joistref03_Device_Load, [.t 6, .t 7]⟩
theorem fc_joistref03_Device_Load_ok : compF Try.prog 26 [[0, 1, 2], [0, 1, 2, 8], [0, 1, 2, 8, 14], [6, 7], [6, 7]] = some fc_joistref03_Device_Load := by kernel_rfl
/-- (*joist/joistref03.Device).Store -/
abbrev F.joistref03_Device_Store : Nat := 27
def cmd_joistref03_Device_Store : Cmd :=
  .seq (.seq (.reg [⟨(some 6), none, .inl (.mv (.c (.int .i64 0)))⟩])
   (.keep [0, 1, 2]))
   (.seq (.seq (.reg [⟨(some 9), none, .inl (.mv (.t 0))⟩,
       ⟨(some 10), none, .inl (.mv (.t 1))⟩,
       ⟨(some 11), none, .inl (.mv (.t 2))⟩,
       ⟨(some 12), none, .inl (.len (.t 11))⟩,
       ⟨(some 13), none, .inr (.call 41 [(.t 9), (.t 10), (.t 12)])⟩,
       ⟨(some 7), none, .inl (.mv (.t 13))⟩])
    (.keep [0, 1, 2, 7]))
    (.seq (.seq (.seq (.reg [⟨(some 14), none, .inl (.mv (.t 7))⟩,
        ⟨(some 15), none, .inl (.bin .neq (.t 14) (.c (.int .i64 0)))⟩])
     (.keep [0, 1, 2, 7, 15]))
     (.cond (.t 15)
       (.seq (.seq (.reg [⟨(some 16), none, .inl (.mv (.t 7))⟩,
           ⟨(some 6), none, .inl (.mv (.t 16))⟩])
        (.keep [6]))
        (.ret))
       (.skip)))
     (.seq (.seq (.seq (.reg [⟨(some 17), none, .inl (.mv (.t 0))⟩,
         ⟨(some 18), none, .inr (.call 42 [(.t 17)])⟩])
      (.keep [0, 1, 2, 18]))
      (.cond (.t 18)
        (.seq (.seq (.reg [⟨(some 6), none, .inl (.mv (.c (.int .i64 5)))⟩])
         (.keep [6]))
         (.ret))
        (.skip)))
      (.seq (.seq (.seq (.reg [⟨(some 8), none, .inl (.mv (.c (.int .i64 0)))⟩])
       (.keep [0, 1, 2, 8]))
       (.block 0 (.loop [0, 1, 2, 8] (.seq (.seq (.seq (.reg [⟨(some 19), none, .inl (.mv (.t 8))⟩,
           ⟨(some 20), none, .inl (.mv (.t 2))⟩,
           ⟨(some 21), none, .inl (.len (.t 20))⟩,
           ⟨(some 22), none, .inl (.bin .lss (.t 19) (.t 21))⟩])
        (.keep [0, 1, 2, 8, 22]))
        (.cond (.t 22)
          (.skip)
          (.exit 0)))
        (.seq (.block 1 (.seq (.seq (.ord [⟨0, ⟨(some 25), none, .inl (.mv (.t 0))⟩, [], false⟩,
            ⟨1, ⟨(some 26), none, .inl (.nilchk (.t 25))⟩, [], false⟩,
            ⟨2, ⟨(some 27), none, .inl (.faddr 1 (.t 26))⟩, [], false⟩,
            ⟨3, ⟨(some 28), none, .inl (.load false 1 (.t 27))⟩, [], false⟩,
            ⟨4, ⟨(some 29), none, .inl (.mv (.t 1))⟩, [], false⟩,
            ⟨5, ⟨(some 30), none, .inl (.mv (.t 8))⟩, [], false⟩,
            ⟨6, ⟨(some 31), none, .inl (.bin .add (.t 29) (.t 30))⟩, [], false⟩,
            ⟨7, ⟨(some 32), none, .inl (.mv (.t 2))⟩, [], false⟩,
            ⟨8, ⟨(some 33), none, .inl (.mv (.t 8))⟩, [], false⟩,
            ⟨9, ⟨(some 34), none, .inl (.iaddr 1 (.t 32) (.t 33))⟩, [], false⟩,
            ⟨10, ⟨(some 35), none, .inl (.load false 1 (.t 34))⟩, [], false⟩,
            ⟨11, ⟨(some 36), none, .inl (.iaddr 1 (.t 28) (.t 31))⟩, [], false⟩,
            ⟨12, ⟨none, none, .inr (.store 1 (.t 36) (.t 35))⟩, [], false⟩])
         (.keep [0, 1, 2, 8]))
         (.seq (.seq (.reg [⟨(some 37), none, .inl (.mv (.t 0))⟩,
             ⟨(some 38), none, .inl (.nilchk (.t 37))⟩,
             ⟨(some 39), none, .inl (.faddr 2 (.t 38))⟩,
             ⟨(some 40), none, .inl (.load false 1 (.t 39))⟩,
             ⟨(some 41), none, .inl (.mv (.t 1))⟩,
             ⟨(some 42), none, .inl (.mv (.t 8))⟩,
             ⟨(some 43), none, .inl (.bin .add (.t 41) (.t 42))⟩,
             ⟨(some 44), none, .inl (.bin .quo (.t 43) (.c (.int .i64 64)))⟩,
             ⟨(some 45), none, .inl (.iaddr 1 (.t 40) (.t 44))⟩,
             ⟨none, none, .inr (.store 1 (.t 45) (.c (.bool true)))⟩])
          (.keep [0, 1, 2, 8]))
          (.seq (.reg [⟨(some 46), none, .inl (.mv (.t 0))⟩,
              ⟨(some 47), none, .inl (.nilchk (.t 46))⟩,
              ⟨(some 48), none, .inl (.faddr 3 (.t 47))⟩,
              ⟨(some 49), none, .inl (.load false 1 (.t 48))⟩,
              ⟨(some 50), none, .inl (.mv (.t 1))⟩,
              ⟨(some 51), none, .inl (.mv (.t 8))⟩,
              ⟨(some 52), none, .inl (.bin .add (.t 50) (.t 51))⟩,
              ⟨(some 53), none, .inl (.bin .quo (.t 52) (.c (.int .i64 64)))⟩,
              ⟨(some 54), none, .inl (.iaddr 1 (.t 49) (.t 53))⟩,
              ⟨none, none, .inr (.store 1 (.t 54) (.c (.bool false)))⟩])
           (.keep [0, 1, 2, 8])))))
         (.seq (.reg [⟨(some 23), none, .inl (.mv (.t 8))⟩,
             ⟨(some 24), none, .inl (.bin .add (.t 23) (.c (.int .i64 1)))⟩,
             ⟨(some 8), none, .inl (.mv (.t 24))⟩])
          (.keep [0, 1, 2, 8])))))))
       (.seq (.seq (.reg [⟨(some 6), none, .inl (.mv (.c (.int .i64 0)))⟩])
        (.keep [6]))
        (.ret))))))
def fc_joistref03_Device_Store : FC := ⟨55, cmd_joistref03_Device_Store, [.t 6]⟩
theorem fc_joistref03_Device_Store_ok : compF Try.prog 27 [[0, 1, 2], [0, 1, 2, 7], [0, 1, 2, 7, 15], [6], [0, 1, 2, 18], [6], [0, 1, 2, 8], [0, 1, 2, 8], [0, 1, 2, 8, 22], [0, 1, 2, 8], [0, 1, 2, 3, 4, 5, 6, 7, 8, 9, 10, 11, 12], [0, 1, 2, 8], [0, 1, 2, 8], [0, 1, 2, 8], [6]] = some fc_joistref03_Device_Store := by kernel_rfl
/-- (*joist/joistref03.Device).Flush -/
abbrev F.joistref03_Device_Flush : Nat := 28
def cmd_joistref03_Device_Flush : Cmd :=
  .seq (.seq (.reg [⟨(some 6), none, .inl (.mv (.c (.int .i64 0)))⟩])
   (.keep [0, 1, 2]))
   (.seq (.seq (.reg [⟨(some 10), none, .inl (.mv (.t 0))⟩,
       ⟨(some 11), none, .inl (.mv (.t 1))⟩,
       ⟨(some 12), none, .inl (.mv (.t 2))⟩,
       ⟨(some 13), none, .inr (.call 41 [(.t 10), (.t 11), (.t 12)])⟩,
       ⟨(some 7), none, .inl (.mv (.t 13))⟩])
    (.keep [0, 1, 2, 7]))
    (.seq (.seq (.seq (.reg [⟨(some 14), none, .inl (.mv (.t 7))⟩,
        ⟨(some 15), none, .inl (.bin .neq (.t 14) (.c (.int .i64 0)))⟩])
     (.keep [0, 1, 2, 7, 15]))
     (.cond (.t 15)
       (.seq (.seq (.reg [⟨(some 16), none, .inl (.mv (.t 7))⟩,
           ⟨(some 6), none, .inl (.mv (.t 16))⟩])
        (.keep [6]))
        (.ret))
       (.skip)))
     (.seq (.seq (.seq (.reg [⟨(some 17), none, .inl (.mv (.t 0))⟩,
         ⟨(some 18), none, .inr (.call 42 [(.t 17)])⟩])
      (.keep [0, 1, 2, 18]))
      (.cond (.t 18)
        (.seq (.seq (.reg [⟨(some 6), none, .inl (.mv (.c (.int .i64 5)))⟩])
         (.keep [6]))
         (.ret))
        (.skip)))
      (.seq (.seq (.seq (.reg [⟨(some 8), none, .inl (.mv (.c (.int .i64 0)))⟩])
       (.keep [0, 1, 2, 8]))
       (.block 0 (.loop [0, 1, 2, 8] (.seq (.seq (.seq (.reg [⟨(some 19), none, .inl (.mv (.t 8))⟩,
           ⟨(some 20), none, .inl (.mv (.t 2))⟩,
           ⟨(some 21), none, .inl (.bin .lss (.t 19) (.t 20))⟩])
        (.keep [0, 1, 2, 8, 21]))
        (.cond (.t 21)
          (.skip)
          (.exit 0)))
        (.seq (.block 1 (.seq (.seq (.reg [⟨(some 24), none, .inl (.mv (.t 1))⟩,
            ⟨(some 25), none, .inl (.mv (.t 8))⟩,
            ⟨(some 26), none, .inl (.bin .add (.t 24) (.t 25))⟩,
            ⟨(some 27), none, .inl (.bin .quo (.t 26) (.c (.int .i64 64)))⟩,
            ⟨(some 9), none, .inl (.mv (.t 27))⟩])
         (.keep [0, 1, 2, 8, 9]))
         (.seq (.ord [⟨0, ⟨(some 28), none, .inl (.mv (.t 0))⟩, [], false⟩,
             ⟨1, ⟨(some 29), none, .inl (.nilchk (.t 28))⟩, [], false⟩,
             ⟨2, ⟨(some 30), none, .inl (.faddr 3 (.t 29))⟩, [], false⟩,
             ⟨3, ⟨(some 31), none, .inl (.load false 1 (.t 30))⟩, [], false⟩,
             ⟨4, ⟨(some 32), none, .inl (.mv (.t 9))⟩, [], false⟩,
             ⟨5, ⟨(some 33), none, .inl (.mv (.t 0))⟩, [], false⟩,
             ⟨6, ⟨(some 34), none, .inl (.nilchk (.t 33))⟩, [], false⟩,
             ⟨7, ⟨(some 35), none, .inl (.faddr 2 (.t 34))⟩, [], false⟩,
             ⟨8, ⟨(some 36), none, .inl (.load false 1 (.t 35))⟩, [], false⟩,
             ⟨9, ⟨(some 37), none, .inl (.mv (.t 9))⟩, [], false⟩,
             ⟨10, ⟨(some 38), none, .inl (.iaddr 1 (.t 36) (.t 37))⟩, [], false⟩,
             ⟨11, ⟨(some 39), none, .inl (.load false 1 (.t 38))⟩, [], false⟩,
             ⟨12, ⟨(some 40), none, .inl (.iaddr 1 (.t 31) (.t 32))⟩, [], false⟩,
             ⟨13, ⟨none, none, .inr (.store 1 (.t 40) (.t 39))⟩, [], false⟩])
          (.keep [0, 1, 2, 8]))))
         (.seq (.reg [⟨(some 22), none, .inl (.mv (.t 8))⟩,
             ⟨(some 23), none, .inl (.bin .add (.t 22) (.c (.int .i64 1)))⟩,
             ⟨(some 8), none, .inl (.mv (.t 23))⟩])
          (.keep [0, 1, 2, 8])))))))
       (.seq (.seq (.reg [⟨(some 6), none, .inl (.mv (.c (.int .i64 0)))⟩])
        (.keep [6]))
        (.ret))))))
def fc_joistref03_Device_Flush : FC := ⟨41, cmd_joistref03_Device_Flush, [.t 6]⟩
theorem fc_joistref03_Device_Flush_ok : compF Try.prog 28 [[0, 1, 2], [0, 1, 2, 7], [0, 1, 2, 7, 15], [6], [0, 1, 2, 18], [6], [0, 1, 2, 8], [0, 1, 2, 8], [0, 1, 2, 8, 21], [0, 1, 2, 8, 9], [0, 1, 2, 8], [0, 1, 2, 3, 4, 5, 6, 7, 8, 9, 10, 11, 12, 13], [0, 1, 2, 8], [6]] = some fc_joistref03_Device_Flush := by kernel_rfl
/-- (*joist/joistref03.Device).Fence -/
abbrev F.joistref03_Device_Fence : Nat := 29
def cmd_joistref03_Device_Fence : Cmd :=
  .seq (.seq (.reg [⟨(some 2), none, .inl (.mv (.c (.int .i64 0)))⟩])
   (.keep [0]))
   (.seq (.seq (.seq (.reg [⟨(some 4), none, .inl (.mv (.t 0))⟩,
       ⟨(some 5), none, .inl (.nilchk (.t 4))⟩,
       ⟨(some 6), none, .inl (.faddr 5 (.t 5))⟩,
       ⟨(some 7), none, .inl (.load false 1 (.t 6))⟩])
    (.keep [0, 7]))
    (.cond (.t 7)
      (.seq (.seq (.reg [⟨(some 2), none, .inl (.mv (.c (.int .i64 5)))⟩])
       (.keep [2]))
       (.ret))
      (.skip)))
    (.seq (.seq (.seq (.reg [⟨(some 8), none, .inl (.mv (.t 0))⟩,
        ⟨(some 9), none, .inr (.call 42 [(.t 8)])⟩])
     (.keep [0, 9]))
     (.cond (.t 9)
       (.seq (.seq (.reg [⟨(some 2), none, .inl (.mv (.c (.int .i64 5)))⟩])
        (.keep [2]))
        (.ret))
       (.skip)))
     (.seq (.seq (.seq (.reg [⟨(some 3), none, .inl (.mv (.c (.int .i64 0)))⟩])
      (.keep [0, 3]))
      (.block 0 (.loop [0, 3] (.seq (.seq (.seq (.reg [⟨(some 10), none, .inl (.mv (.t 3))⟩,
          ⟨(some 11), none, .inl (.mv (.t 0))⟩,
          ⟨(some 12), none, .inl (.nilchk (.t 11))⟩,
          ⟨(some 13), none, .inl (.faddr 2 (.t 12))⟩,
          ⟨(some 14), none, .inl (.load false 1 (.t 13))⟩,
          ⟨(some 15), none, .inl (.len (.t 14))⟩,
          ⟨(some 16), none, .inl (.bin .lss (.t 10) (.t 15))⟩])
       (.keep [0, 3, 16]))
       (.cond (.t 16)
         (.skip)
         (.exit 0)))
       (.seq (.block 1 (.seq (.seq (.reg [⟨(some 19), none, .inl (.mv (.t 0))⟩,
           ⟨(some 20), none, .inl (.nilchk (.t 19))⟩,
           ⟨(some 21), none, .inl (.faddr 3 (.t 20))⟩,
           ⟨(some 22), none, .inl (.load false 1 (.t 21))⟩,
           ⟨(some 23), none, .inl (.mv (.t 3))⟩,
           ⟨(some 24), none, .inl (.iaddr 1 (.t 22) (.t 23))⟩,
           ⟨(some 25), none, .inl (.load false 1 (.t 24))⟩])
        (.keep [0, 3, 25]))
        (.cond (.t 25)
          (.seq (.seq (.reg [⟨(some 26), none, .inl (.mv (.t 0))⟩,
              ⟨(some 27), none, .inl (.mv (.t 3))⟩,
              ⟨(some 28), none, .inr (.call 43 [(.t 26), (.t 27)])⟩])
           (.keep [0, 3]))
           (.seq (.seq (.reg [⟨(some 29), none, .inl (.mv (.t 0))⟩,
               ⟨(some 30), none, .inl (.nilchk (.t 29))⟩,
               ⟨(some 31), none, .inl (.faddr 2 (.t 30))⟩,
               ⟨(some 32), none, .inl (.load false 1 (.t 31))⟩,
               ⟨(some 33), none, .inl (.mv (.t 3))⟩,
               ⟨(some 34), none, .inl (.iaddr 1 (.t 32) (.t 33))⟩,
               ⟨none, none, .inr (.store 1 (.t 34) (.c (.bool false)))⟩])
            (.keep [0, 3]))
            (.seq (.reg [⟨(some 35), none, .inl (.mv (.t 0))⟩,
                ⟨(some 36), none, .inl (.nilchk (.t 35))⟩,
                ⟨(some 37), none, .inl (.faddr 3 (.t 36))⟩,
                ⟨(some 38), none, .inl (.load false 1 (.t 37))⟩,
                ⟨(some 39), none, .inl (.mv (.t 3))⟩,
                ⟨(some 40), none, .inl (.iaddr 1 (.t 38) (.t 39))⟩,
                ⟨none, none, .inr (.store 1 (.t 40) (.c (.bool false)))⟩])
             (.keep [0, 3]))))
          (.skip))))
        (.seq (.reg [⟨(some 17), none, .inl (.mv (.t 3))⟩,
            ⟨(some 18), none, .inl (.bin .add (.t 17) (.c (.int .i64 1)))⟩,
            ⟨(some 3), none, .inl (.mv (.t 18))⟩])
         (.keep [0, 3])))))))
      (.seq (.seq (.reg [⟨(some 2), none, .inl (.mv (.c (.int .i64 0)))⟩])
       (.keep [2]))
       (.ret)))))
def fc_joistref03_Device_Fence : FC := ⟨41, cmd_joistref03_Device_Fence, [.t 2]⟩
theorem fc_joistref03_Device_Fence_ok : compF Try.prog 29 [[0], [0, 7], [2], [0, 9], [2], [0, 3], [0, 3], [0, 3, 16], [0, 3, 25], [0, 3], [0, 3], [0, 3], [0, 3], [2]] = some fc_joistref03_Device_Fence := by kernel_rfl
/-- (*joist/joistref03.Device).Arm -/
abbrev F.joistref03_Device_Arm : Nat := 30
def cmd_joistref03_Device_Arm : Cmd :=
  .seq (.reg [⟨(some 4), none, .inl (.mv (.t 0))⟩,
      ⟨(some 5), none, .inl (.mv (.t 1))⟩,
      ⟨(some 6), none, .inl (.mx (.t 5) (.c (.int .i64 0)))⟩,
      ⟨(some 7), none, .inl (.nilchk (.t 4))⟩,
      ⟨(some 8), none, .inl (.faddr 4 (.t 7))⟩,
      ⟨none, none, .inr (.store 1 (.t 8) (.t 6))⟩])
   (.keep [])
def fc_joistref03_Device_Arm : FC := ⟨9, cmd_joistref03_Device_Arm, []⟩
theorem fc_joistref03_Device_Arm_ok : compF Try.prog 30 [[]] = some fc_joistref03_Device_Arm := by kernel_rfl
/-- (*joist/joistref03.Device).Crash -/
abbrev F.joistref03_Device_Crash : Nat := 31
def cmd_joistref03_Device_Crash : Cmd :=
  .seq (.seq (.reg [⟨(some 6), none, .inl (.mv (.t 0))⟩,
      ⟨(some 7), none, .inr (.call 44 [(.t 6)])⟩,
      ⟨(some 4), none, .inl (.mv (.t 7))⟩])
   (.keep [0, 1, 4]))
   (.seq (.seq (.seq (.reg [⟨(some 5), none, .inl (.mv (.c (.int .i64 0)))⟩])
    (.keep [0, 1, 4, 5]))
    (.block 0 (.loop [0, 1, 4, 5] (.seq (.seq (.seq (.reg [⟨(some 8), none, .inl (.mv (.t 5))⟩,
        ⟨(some 9), none, .inl (.mv (.t 4))⟩,
        ⟨(some 10), none, .inl (.len (.t 9))⟩,
        ⟨(some 11), none, .inl (.bin .lss (.t 8) (.t 10))⟩])
     (.keep [0, 1, 4, 5, 11]))
     (.cond (.t 11)
       (.skip)
       (.exit 0)))
     (.seq (.block 1 (.seq (.seq (.reg [⟨(some 14), none, .inl (.mv (.t 5))⟩,
         ⟨(some 15), none, .inl (.mv (.t 1))⟩,
         ⟨(some 16), none, .inl (.len (.t 15))⟩,
         ⟨(some 17), none, .inl (.bin .lss (.t 14) (.t 16))⟩,
         ⟨(some 18), none, .inl (.mv (.t 17))⟩,
         ⟨(some 19), (some (18, true)), .inl (.mv (.t 1))⟩,
         ⟨(some 20), (some (18, true)), .inl (.mv (.t 5))⟩,
         ⟨(some 21), (some (18, true)), .inl (.iaddr 1 (.t 19) (.t 20))⟩,
         ⟨(some 22), (some (18, true)), .inl (.load false 1 (.t 21))⟩,
         ⟨(some 23), none, .inl (.pick (.t 18) (.t 22) (.c (.bool false)))⟩])
      (.keep [0, 1, 4, 5, 23]))
      (.cond (.t 23)
        (.seq (.reg [⟨(some 24), none, .inl (.mv (.t 0))⟩,
            ⟨(some 25), none, .inl (.mv (.t 4))⟩,
            ⟨(some 26), none, .inl (.mv (.t 5))⟩,
            ⟨(some 27), none, .inl (.iaddr 1 (.t 25) (.t 26))⟩,
            ⟨(some 28), none, .inl (.load false 1 (.t 27))⟩,
            ⟨(some 29), none, .inr (.call 43 [(.t 24), (.t 28)])⟩])
         (.keep [0, 1, 4, 5]))
        (.skip))))
      (.seq (.reg [⟨(some 12), none, .inl (.mv (.t 5))⟩,
          ⟨(some 13), none, .inl (.bin .add (.t 12) (.c (.int .i64 1)))⟩,
          ⟨(some 5), none, .inl (.mv (.t 13))⟩])
       (.keep [0, 1, 4, 5])))))))
    (.seq (.seq (.reg [⟨(some 30), none, .inl (.mv (.t 0))⟩,
        ⟨(some 31), none, .inr (.bslice 1 [(.int .u8 0)] 0 [])⟩,
        ⟨(some 32), none, .inl (.mv (.t 0))⟩,
        ⟨(some 33), none, .inl (.nilchk (.t 32))⟩,
        ⟨(some 34), none, .inl (.faddr 0 (.t 33))⟩,
        ⟨(some 35), none, .inl (.load false 1 (.t 34))⟩,
        ⟨(some 36), none, .inr (.append 1 1 (.t 31) (.t 35))⟩,
        ⟨(some 37), none, .inl (.nilchk (.t 30))⟩,
        ⟨(some 38), none, .inl (.faddr 1 (.t 37))⟩,
        ⟨none, none, .inr (.store 1 (.t 38) (.t 36))⟩])
     (.keep [0]))
     (.seq (.seq (.reg [⟨(some 39), none, .inl (.mv (.t 0))⟩,
         ⟨(some 40), none, .inl (.mv (.t 0))⟩,
         ⟨(some 41), none, .inl (.nilchk (.t 40))⟩,
         ⟨(some 42), none, .inl (.faddr 2 (.t 41))⟩,
         ⟨(some 43), none, .inl (.load false 1 (.t 42))⟩,
         ⟨(some 44), none, .inl (.len (.t 43))⟩,
         ⟨(some 45), none, .inr (.mksl 1 1 [(.bool false)] (.t 44) (.t 44))⟩,
         ⟨(some 46), none, .inl (.nilchk (.t 39))⟩,
         ⟨(some 47), none, .inl (.faddr 2 (.t 46))⟩,
         ⟨none, none, .inr (.store 1 (.t 47) (.t 45))⟩])
      (.keep [0]))
      (.seq (.seq (.reg [⟨(some 48), none, .inl (.mv (.t 0))⟩,
          ⟨(some 49), none, .inl (.mv (.t 0))⟩,
          ⟨(some 50), none, .inl (.nilchk (.t 49))⟩,
          ⟨(some 51), none, .inl (.faddr 2 (.t 50))⟩,
          ⟨(some 52), none, .inl (.load false 1 (.t 51))⟩,
          ⟨(some 53), none, .inl (.len (.t 52))⟩,
          ⟨(some 54), none, .inr (.mksl 1 1 [(.bool false)] (.t 53) (.t 53))⟩,
          ⟨(some 55), none, .inl (.nilchk (.t 48))⟩,
          ⟨(some 56), none, .inl (.faddr 3 (.t 55))⟩,
          ⟨none, none, .inr (.store 1 (.t 56) (.t 54))⟩])
       (.keep [0]))
       (.seq (.seq (.reg [⟨(some 57), none, .inl (.mv (.t 0))⟩,
           ⟨(some 58), none, .inl (.nilchk (.t 57))⟩,
           ⟨(some 59), none, .inl (.faddr 5 (.t 58))⟩,
           ⟨none, none, .inr (.store 1 (.t 59) (.c (.bool false)))⟩])
        (.keep [0]))
        (.seq (.reg [⟨(some 60), none, .inl (.mv (.t 0))⟩,
            ⟨(some 61), none, .inl (.nilchk (.t 60))⟩,
            ⟨(some 62), none, .inl (.faddr 4 (.t 61))⟩,
            ⟨none, none, .inr (.store 1 (.t 62) (.c (.int .i64 0)))⟩])
         (.keep [])))))))
def fc_joistref03_Device_Crash : FC := ⟨63, cmd_joistref03_Device_Crash, []⟩
theorem fc_joistref03_Device_Crash_ok : compF Try.prog 31 [[0, 1, 4], [0, 1, 4, 5], [0, 1, 4, 5], [0, 1, 4, 5, 11], [0, 1, 4, 5, 23], [0, 1, 4, 5], [0, 1, 4, 5], [0], [0], [0], [0], []] = some fc_joistref03_Device_Crash := by kernel_rfl
/-- joist/joistlaw03.tells -/
abbrev F.joistlaw03_tells : Nat := 32
def cmd_joistlaw03_tells : Cmd :=
  .seq (.seq (.reg [⟨(some 4), none, .inl (.mv (.c (.bool false)))⟩])
   (.keep [0, 1]))
   (.seq (.seq (.reg [⟨(some 10), none, .inl (.mv (.t 0))⟩,
       ⟨(some 11), none, .inr (.call 14 [(.t 10)])⟩,
       ⟨(some 5), none, .inl (.mv (.t 11))⟩])
    (.keep [0, 1, 5]))
    (.seq (.seq (.reg [⟨(some 12), none, .inl (.mv (.t 0))⟩,
        ⟨(some 13), none, .inr (.call 15 [(.t 12)])⟩,
        ⟨(some 6), none, .inl (.mv (.t 13))⟩])
     (.keep [0, 1, 5, 6]))
     (.seq (.seq (.reg [⟨(some 14), none, .inl (.mv (.t 0))⟩,
         ⟨(some 15), none, .inr (.call 18 [(.t 14)])⟩,
         ⟨(some 7), none, .inl (.mv (.t 15))⟩])
      (.keep [0, 1, 5, 6, 7]))
      (.seq (.seq (.ord [⟨0, ⟨(some 16), none, .inl (.mv (.t 5))⟩, [], true⟩,
          ⟨1, ⟨(some 17), none, .inl (.b2s (.t 16))⟩, [], true⟩,
          ⟨2, ⟨(some 18), none, .inl (.mv (.t 1))⟩, [], false⟩,
          ⟨3, ⟨(some 19), none, .inr (.call 45 [(.t 18)])⟩, [0, 1], false⟩,
          ⟨4, ⟨(some 20), none, .inl (.b2s (.t 19))⟩, [], false⟩,
          ⟨5, ⟨(some 21), none, .inl (.bins .eql (.t 17) (.t 20))⟩, [], false⟩,
          ⟨6, ⟨(some 22), none, .inl (.mv (.t 21))⟩, [], false⟩,
          ⟨7, ⟨(some 23), (some (22, true)), .inl (.mv (.t 6))⟩, [], true⟩,
          ⟨8, ⟨(some 24), (some (22, true)), .inl (.b2s (.t 23))⟩, [], true⟩,
          ⟨9, ⟨(some 25), (some (22, true)), .inl (.mv (.t 1))⟩, [], false⟩,
          ⟨10, ⟨(some 26), (some (22, true)), .inr (.call 46 [(.t 25)])⟩, [7, 8], false⟩,
          ⟨11, ⟨(some 27), (some (22, true)), .inl (.b2s (.t 26))⟩, [], false⟩,
          ⟨12, ⟨(some 28), (some (22, true)), .inl (.bins .eql (.t 24) (.t 27))⟩, [], false⟩,
          ⟨13, ⟨(some 29), none, .inl (.pick (.t 22) (.t 28) (.c (.bool false)))⟩, [], false⟩,
          ⟨14, ⟨(some 30), none, .inl (.mv (.t 29))⟩, [], false⟩,
          ⟨15, ⟨(some 31), (some (30, true)), .inl (.mv (.t 7))⟩, [], true⟩,
          ⟨16, ⟨(some 32), (some (30, true)), .inl (.mv (.t 1))⟩, [], false⟩,
          ⟨17, ⟨(some 33), (some (30, true)), .inr (.call 44 [(.t 32)])⟩, [15], false⟩,
          ⟨18, ⟨(some 34), (some (30, true)), .inr (.call 47 [(.t 31), (.t 33)])⟩, [], false⟩,
          ⟨19, ⟨(some 35), none, .inl (.pick (.t 30) (.t 34) (.c (.bool false)))⟩, [], false⟩,
          ⟨20, ⟨(some 8), none, .inl (.mv (.t 35))⟩, [], false⟩])
       (.keep [0, 1, 5, 6, 7, 8]))
       (.seq (.seq (.reg [⟨(some 36), none, .inl (.mv (.t 5))⟩,
           ⟨(some 37), none, .inl (.mv (.t 6))⟩,
           ⟨(some 38), none, .inr (.bslice 1 [.nils] 2 [(0, (.t 36)), (1, (.t 37))])⟩,
           ⟨(some 39), none, .inr (.call 24 [(.t 38)])⟩])
        (.keep [0, 1, 7, 8]))
        (.seq (.seq (.seq (.reg [⟨(some 9), none, .inl (.mv (.c (.int .i64 0)))⟩])
         (.keep [0, 1, 7, 8, 9]))
         (.block 0 (.loop [0, 1, 7, 8, 9] (.seq (.seq (.seq (.reg [⟨(some 40), none, .inl (.mv (.t 9))⟩,
             ⟨(some 41), none, .inl (.mv (.t 7))⟩,
             ⟨(some 42), none, .inl (.len (.t 41))⟩,
             ⟨(some 43), none, .inl (.bin .lss (.t 40) (.t 42))⟩])
          (.keep [0, 1, 7, 8, 9, 43]))
          (.cond (.t 43)
            (.skip)
            (.exit 0)))
          (.seq (.block 1 (.seq (.reg [⟨(some 46), none, .inl (.mv (.t 7))⟩,
              ⟨(some 47), none, .inl (.mv (.t 9))⟩,
              ⟨(some 48), none, .inl (.iaddr 1 (.t 46) (.t 47))⟩,
              ⟨none, none, .inr (.store 1 (.t 48) (.c (.int .i64 (-7))))⟩])
           (.keep [0, 1, 7, 8, 9])))
           (.seq (.reg [⟨(some 44), none, .inl (.mv (.t 9))⟩,
               ⟨(some 45), none, .inl (.bin .add (.t 44) (.c (.int .i64 1)))⟩,
               ⟨(some 9), none, .inl (.mv (.t 45))⟩])
            (.keep [0, 1, 7, 8, 9])))))))
         (.seq (.seq (.reg [⟨(some 49), none, .inl (.mv (.t 8))⟩,
             ⟨(some 50), none, .inl (.mv (.t 49))⟩,
             ⟨(some 51), (some (50, true)), .inl (.mv (.t 0))⟩,
             ⟨(some 52), (some (50, true)), .inr (.call 17 [(.t 51)])⟩,
             ⟨(some 53), (some (50, true)), .inl (.mv (.t 1))⟩,
             ⟨(some 54), (some (50, true)), .inr (.call 48 [(.t 53)])⟩,
             ⟨(some 55), (some (50, true)), .inl (.binb .eql (.t 52) (.t 54))⟩,
             ⟨(some 56), none, .inl (.pick (.t 50) (.t 55) (.c (.bool false)))⟩,
             ⟨(some 57), none, .inl (.mv (.t 56))⟩,
             ⟨(some 58), (some (57, true)), .inl (.mv (.t 0))⟩,
             ⟨(some 59), (some (57, true)), .inr (.call 19 [(.t 58)])⟩,
             ⟨(some 60), (some (57, true)), .inl (.mv (.t 1))⟩,
             ⟨(some 61), (some (57, true)), .inr (.call 49 [(.t 60)])⟩,
             ⟨(some 62), (some (57, true)), .inl (.bin .eql (.t 59) (.t 61))⟩,
             ⟨(some 63), none, .inl (.pick (.t 57) (.t 62) (.c (.bool false)))⟩,
             ⟨(some 4), none, .inl (.mv (.t 63))⟩])
          (.keep [4]))
          (.ret))))))))
def fc_joistlaw03_tells : FC := ⟨64, cmd_joistlaw03_tells, [.t 4]⟩
theorem fc_joistlaw03_tells_ok : compF Try.prog 32 [[0, 1], [0, 1, 5], [0, 1, 5, 6], [0, 1, 5, 6, 7], [0, 1, 5, 6, 7, 8], [0, 1, 2, 3, 4, 5, 6, 7, 8, 9, 10, 11, 12, 13, 14, 15, 16, 17, 18, 19, 20], [0, 1, 7, 8], [0, 1, 7, 8, 9], [0, 1, 7, 8, 9], [0, 1, 7, 8, 9, 43], [0, 1, 7, 8, 9], [0, 1, 7, 8, 9], [4]] = some fc_joistlaw03_tells := by kernel_rfl
/-- bytes.Clone -/
abbrev F.bytes_Clone : Nat := 33
def cmd_bytes_Clone : Cmd :=
  .seq (.seq (.reg [⟨(some 2), none, .inl (.mv (.c .nils))⟩])
   (.keep [0]))
   (.seq (.seq (.seq (.reg [⟨(some 3), none, .inl (.mv (.t 0))⟩,
       ⟨(some 4), none, .inl (.eqnil false (.t 3))⟩])
    (.keep [0, 4]))
    (.cond (.t 4)
      (.seq (.seq (.reg [⟨(some 2), none, .inl (.mv (.c .nils))⟩])
       (.keep [2]))
       (.ret))
      (.skip)))
    (.seq (.seq (.reg [⟨(some 5), none, .inr (.bslice 1 [(.int .u8 0)] 0 [])⟩,
        ⟨(some 6), none, .inl (.mv (.t 0))⟩,
        ⟨(some 7), none, .inr (.append 1 1 (.t 5) (.t 6))⟩,
        ⟨(some 2), none, .inl (.mv (.t 7))⟩])
     (.keep [2]))
     (.ret)))
def fc_bytes_Clone : FC := ⟨8, cmd_bytes_Clone, [.t 2]⟩
theorem fc_bytes_Clone_ok : compF Try.prog 33 [[0], [0, 4], [2], [2]] = some fc_bytes_Clone := by kernel_rfl
/-- (*joist/pmem.Device).begins -/
abbrev F.pmem_Device_begins : Nat := 34
def cmd_pmem_Device_begins : Cmd :=
  .seq (.seq (.reg [⟨(some 6), none, .inl (.mv (.c (.int .i64 0)))⟩])
   (.keep [0, 1, 2]))
   (.seq (.seq (.seq (.reg [⟨(some 8), none, .inl (.mv (.t 0))⟩,
       ⟨(some 9), none, .inl (.mv (.t 1))⟩,
       ⟨(some 10), none, .inl (.mv (.t 2))⟩,
       ⟨(some 11), none, .inr (.call 40 [(.t 8), (.t 9), (.t 10)])⟩,
       ⟨(some 7), none, .inl (.mv (.t 11))⟩])
    (.keep [0, 7]))
    (.seq (.seq (.reg [⟨(some 12), none, .inl (.mv (.t 7))⟩,
        ⟨(some 13), none, .inl (.bin .neq (.t 12) (.c (.int .i64 0)))⟩])
     (.keep [0, 7, 13]))
     (.cond (.t 13)
       (.seq (.seq (.reg [⟨(some 14), none, .inl (.mv (.t 7))⟩,
           ⟨(some 6), none, .inl (.mv (.t 14))⟩])
        (.keep [6]))
        (.ret))
       (.skip))))
    (.seq (.seq (.seq (.reg [⟨(some 15), none, .inl (.mv (.t 0))⟩,
        ⟨(some 16), none, .inl (.nilchk (.t 15))⟩,
        ⟨(some 17), none, .inl (.faddr 3 (.t 16))⟩,
        ⟨(some 18), none, .inl (.load false 1 (.t 17))⟩,
        ⟨(some 19), none, .inl (.bin .gtr (.t 18) (.c (.int .i64 0)))⟩])
     (.keep [0, 19]))
     (.cond (.t 19)
       (.seq (.seq (.reg [⟨(some 20), none, .inl (.mv (.t 0))⟩,
           ⟨(some 21), none, .inl (.nilchk (.t 20))⟩,
           ⟨(some 22), none, .inl (.faddr 3 (.t 21))⟩,
           ⟨(some 23), none, .inl (.load false 1 (.t 22))⟩,
           ⟨(some 24), none, .inl (.bin .sub (.t 23) (.c (.int .i64 1)))⟩,
           ⟨(some 25), none, .inl (.nilchk (.t 20))⟩,
           ⟨(some 26), none, .inl (.faddr 3 (.t 25))⟩,
           ⟨none, none, .inr (.store 1 (.t 26) (.t 24))⟩])
        (.keep [0]))
        (.seq (.seq (.reg [⟨(some 27), none, .inl (.mv (.t 0))⟩,
            ⟨(some 28), none, .inl (.nilchk (.t 27))⟩,
            ⟨(some 29), none, .inl (.faddr 3 (.t 28))⟩,
            ⟨(some 30), none, .inl (.load false 1 (.t 29))⟩,
            ⟨(some 31), none, .inl (.bin .eql (.t 30) (.c (.int .i64 0)))⟩])
         (.keep [0, 31]))
         (.cond (.t 31)
           (.seq (.seq (.reg [⟨(some 32), none, .inl (.mv (.t 0))⟩,
               ⟨(some 33), none, .inl (.nilchk (.t 32))⟩,
               ⟨(some 34), none, .inl (.faddr 4 (.t 33))⟩,
               ⟨none, none, .inr (.store 1 (.t 34) (.c (.bool true)))⟩])
            (.keep []))
            (.seq (.seq (.reg [⟨(some 6), none, .inl (.mv (.c (.int .i64 5)))⟩])
             (.keep [6]))
             (.ret)))
           (.skip))))
       (.skip)))
     (.seq (.seq (.reg [⟨(some 6), none, .inl (.mv (.c (.int .i64 0)))⟩])
      (.keep [6]))
      (.ret))))
def fc_pmem_Device_begins : FC := ⟨35, cmd_pmem_Device_begins, [.t 6]⟩
theorem fc_pmem_Device_begins_ok : compF Try.prog 34 [[0, 1, 2], [0, 7], [0, 7, 13], [6], [0, 19], [0], [0, 31], [], [6], [6]] = some fc_pmem_Device_begins := by kernel_rfl
/-- joist/pmem.over -/
abbrev F.pmem_over : Nat := 35
def cmd_pmem_over : Cmd :=
  .seq (.seq (.seq (.reg [⟨(some 7), none, .inl (.mv (.t 1))⟩,
      ⟨(some 8), none, .inl (.bin .eql (.t 7) (.c (.int .i64 0)))⟩])
   (.keep [0, 1, 2, 8]))
   (.cond (.t 8)
     (.ret)
     (.skip)))
   (.seq (.seq (.reg [⟨(some 9), none, .inl (.mv (.t 0))⟩,
       ⟨(some 10), none, .inl (.bin .quo (.t 9) (.c (.int .i64 64)))⟩,
       ⟨(some 6), none, .inl (.mv (.t 10))⟩])
    (.keep [0, 1, 2, 6]))
    (.block 0 (.loop [0, 1, 2, 6] (.seq (.seq (.seq (.reg [⟨(some 11), none, .inl (.mv (.t 6))⟩,
        ⟨(some 12), none, .inl (.mv (.t 0))⟩,
        ⟨(some 13), none, .inl (.mv (.t 1))⟩,
        ⟨(some 14), none, .inl (.bin .add (.t 12) (.t 13))⟩,
        ⟨(some 15), none, .inl (.bin .sub (.t 14) (.c (.int .i64 1)))⟩,
        ⟨(some 16), none, .inl (.bin .quo (.t 15) (.c (.int .i64 64)))⟩,
        ⟨(some 17), none, .inl (.bin .leq (.t 11) (.t 16))⟩])
     (.keep [0, 1, 2, 6, 17]))
     (.cond (.t 17)
       (.skip)
       (.exit 0)))
     (.seq (.block 1 (.seq (.reg [⟨(some 20), none, .inl (.mv (.t 2))⟩,
         ⟨(some 21), none, .inl (.mv (.t 6))⟩,
         ⟨(some 22), none, .inr (.callv (.t 20) [(.t 21)])⟩])
      (.keep [0, 1, 2, 6])))
      (.seq (.reg [⟨(some 18), none, .inl (.mv (.t 6))⟩,
          ⟨(some 19), none, .inl (.bin .add (.t 18) (.c (.int .i64 1)))⟩,
          ⟨(some 6), none, .inl (.mv (.t 19))⟩])
       (.keep [0, 1, 2, 6])))))))
def fc_pmem_over : FC := ⟨23, cmd_pmem_over, []⟩
theorem fc_pmem_over_ok : compF Try.prog 35 [[0, 1, 2, 8], [0, 1, 2, 6], [0, 1, 2, 6], [0, 1, 2, 6, 17], [0, 1, 2, 6], [0, 1, 2, 6]] = some fc_pmem_over := by kernel_rfl
/-- (*joist/pmem.Device).Store$1 -/
abbrev F.pmem_Device_Store_1 : Nat := 36
def cmd_pmem_Device_Store_1 : Cmd :=
  .seq (.reg [⟨(some 3), none, .inl (.load false 1 (.t 1))⟩,
      ⟨(some 4), none, .inl (.nilchk (.t 3))⟩,
      ⟨(some 5), none, .inl (.faddr 2 (.t 4))⟩,
      ⟨(some 6), none, .inl (.load false 1 (.t 5))⟩,
      ⟨(some 7), none, .inl (.mv (.t 0))⟩,
      ⟨none, none, .inr (.upd (.t 6) (.t 7) (.c (.bool false)))⟩])
   (.keep [])
def fc_pmem_Device_Store_1 : FC := ⟨8, cmd_pmem_Device_Store_1, []⟩
theorem fc_pmem_Device_Store_1_ok : compF Try.prog 36 [[]] = some fc_pmem_Device_Store_1 := by kernel_rfl
/-- (*joist/pmem.Device).Flush$1 -/
abbrev F.pmem_Device_Flush_1 : Nat := 37
def cmd_pmem_Device_Flush_1 : Cmd :=
  .seq (.seq (.reg [⟨(some 6), none, .inl (.load false 1 (.t 1))⟩,
      ⟨(some 7), none, .inl (.nilchk (.t 6))⟩,
      ⟨(some 8), none, .inl (.faddr 2 (.t 7))⟩,
      ⟨(some 9), none, .inl (.load false 1 (.t 8))⟩,
      ⟨(some 10), none, .inl (.mv (.t 0))⟩,
      ⟨(some 11), none, .inr (.look true (.bool false) (.t 9) (.t 10))⟩,
      ⟨(some 5), none, .inl (.mv (.t 11))⟩,
      ⟨(some 12), none, .inl (.ext 0 (.t 5))⟩,
      ⟨(some 13), none, .inl (.ext 1 (.t 5))⟩,
      ⟨(some 3), none, .inl (.mv (.t 12))⟩,
      ⟨(some 4), none, .inl (.mv (.t 13))⟩])
   (.keep [0, 1, 4]))
   (.seq (.seq (.reg [⟨(some 14), none, .inl (.mv (.t 4))⟩])
    (.keep [0, 1, 14]))
    (.cond (.t 14)
      (.seq (.reg [⟨(some 15), none, .inl (.load false 1 (.t 1))⟩,
          ⟨(some 16), none, .inl (.nilchk (.t 15))⟩,
          ⟨(some 17), none, .inl (.faddr 2 (.t 16))⟩,
          ⟨(some 18), none, .inl (.load false 1 (.t 17))⟩,
          ⟨(some 19), none, .inl (.mv (.t 0))⟩,
          ⟨none, none, .inr (.upd (.t 18) (.t 19) (.c (.bool true)))⟩])
       (.keep []))
      (.skip)))
def fc_pmem_Device_Flush_1 : FC := ⟨20, cmd_pmem_Device_Flush_1, []⟩
theorem fc_pmem_Device_Flush_1_ok : compF Try.prog 37 [[0, 1, 4], [0, 1, 14], []] = some fc_pmem_Device_Flush_1 := by kernel_rfl
/-- (*joist/pmem.Device).last -/
abbrev F.pmem_Device_last : Nat := 38
def cmd_pmem_Device_last : Cmd :=
  .seq (.seq (.reg [⟨(some 5), none, .inl (.mv (.t 1))⟩,
      ⟨(some 6), none, .inl (.bin .mul (.t 5) (.c (.int .i64 64)))⟩,
      ⟨(some 4), none, .inl (.mv (.t 6))⟩])
   (.keep [0, 4]))
   (.seq (.ord [⟨0, ⟨(some 7), none, .inl (.mv (.t 0))⟩, [], false⟩,
       ⟨1, ⟨(some 8), none, .inl (.nilchk (.t 7))⟩, [], false⟩,
       ⟨2, ⟨(some 9), none, .inl (.faddr 0 (.t 8))⟩, [], false⟩,
       ⟨3, ⟨(some 10), none, .inl (.load false 1 (.t 9))⟩, [], false⟩,
       ⟨4, ⟨(some 11), none, .inl (.mv (.t 4))⟩, [], false⟩,
       ⟨5, ⟨(some 12), none, .inl (.mv (.t 4))⟩, [], false⟩,
       ⟨6, ⟨(some 13), none, .inl (.bin .add (.t 12) (.c (.int .i64 64)))⟩, [], false⟩,
       ⟨7, ⟨(some 14), none, .inl (.slice 1 (.t 10) (some (.t 11)) (some (.t 13)) none)⟩, [], false⟩,
       ⟨8, ⟨(some 15), none, .inl (.mv (.t 0))⟩, [], false⟩,
       ⟨9, ⟨(some 16), none, .inl (.nilchk (.t 15))⟩, [], false⟩,
       ⟨10, ⟨(some 17), none, .inl (.faddr 1 (.t 16))⟩, [], false⟩,
       ⟨11, ⟨(some 18), none, .inl (.load false 1 (.t 17))⟩, [], false⟩,
       ⟨12, ⟨(some 19), none, .inl (.mv (.t 4))⟩, [], false⟩,
       ⟨13, ⟨(some 20), none, .inl (.slice 1 (.t 18) (some (.t 19)) none none)⟩, [], false⟩,
       ⟨14, ⟨(some 21), none, .inr (.copy 1 (.t 14) (.t 20))⟩, [], false⟩])
    (.keep []))
def fc_pmem_Device_last : FC := ⟨22, cmd_pmem_Device_last, []⟩
theorem fc_pmem_Device_last_ok : compF Try.prog 38 [[0, 4], [], [0, 1, 2, 3, 4, 5, 6, 7, 8, 9, 10, 11, 12, 13, 14]] = some fc_pmem_Device_last := by kernel_rfl
/-- slices.Sort[[]int,int] -/
abbrev F.slices_Sort : Nat := 39
def cmd_slices_Sort : Cmd :=
  .seq (.seq (.reg [⟨(some 3), none, .inl (.mv (.t 0))⟩,
      ⟨(some 4), none, .inl (.len (.t 3))⟩,
      ⟨(some 2), none, .inl (.mv (.t 4))⟩])
   (.keep [0, 2]))
   (.seq (.reg [⟨(some 5), none, .inl (.mv (.t 0))⟩,
       ⟨(some 6), none, .inl (.mv (.t 2))⟩,
       ⟨(some 7), none, .inl (.mv (.t 2))⟩,
       ⟨(some 8), none, .inl (.conv .u64 (.t 7))⟩,
       ⟨(some 9), none, .inr (.call 51 [(.t 8)])⟩,
       ⟨(some 10), none, .inr (.call 50 [(.t 5), (.c (.int .i64 0)), (.t 6), (.t 9)])⟩])
    (.keep []))
def fc_slices_Sort : FC := ⟨11, cmd_slices_Sort, []⟩
theorem fc_slices_Sort_ok : compF Try.prog 39 [[0, 2], []] = some fc_slices_Sort := by kernel_rfl
/-- (*joist/pmem.Device).asks -/
abbrev F.pmem_Device_asks : Nat := 40
def cmd_pmem_Device_asks : Cmd :=
  .seq (.seq (.reg [⟨(some 6), none, .inl (.mv (.c (.int .i64 0)))⟩])
   (.keep [0, 1, 2]))
   (.seq (.block 0 (.seq (.seq (.reg [⟨(some 8), none, .inl (.mv (.t 0))⟩,
       ⟨(some 9), none, .inl (.nilchk (.t 8))⟩,
       ⟨(some 10), none, .inl (.faddr 4 (.t 9))⟩,
       ⟨(some 11), none, .inl (.load false 1 (.t 10))⟩,
       ⟨(some 7), none, .inl (.mv (.t 11))⟩])
    (.keep [0, 1, 2, 7]))
    (.cond (.t 7)
      (.seq (.seq (.reg [⟨(some 6), none, .inl (.mv (.c (.int .i64 5)))⟩])
       (.keep [6]))
       (.ret))
      (.seq (.seq (.reg [⟨(some 13), none, .inl (.mv (.t 1))⟩,
          ⟨(some 14), none, .inl (.bin .lss (.t 13) (.c (.int .i64 0)))⟩,
          ⟨(some 15), none, .inl (.mv (.t 14))⟩,
          ⟨(some 16), (some (15, false)), .inl (.mv (.t 1))⟩,
          ⟨(some 17), (some (15, false)), .inl (.mv (.t 0))⟩,
          ⟨(some 18), (some (15, false)), .inl (.nilchk (.t 17))⟩,
          ⟨(some 19), (some (15, false)), .inl (.faddr 1 (.t 18))⟩,
          ⟨(some 20), (some (15, false)), .inl (.load false 1 (.t 19))⟩,
          ⟨(some 21), (some (15, false)), .inl (.len (.t 20))⟩,
          ⟨(some 22), (some (15, false)), .inl (.bin .gtr (.t 16) (.t 21))⟩,
          ⟨(some 23), none, .inl (.pick (.t 15) (.c (.bool true)) (.t 22))⟩,
          ⟨(some 24), none, .inl (.mv (.t 23))⟩,
          ⟨(some 25), (some (24, false)), .inl (.mv (.t 2))⟩,
          ⟨(some 26), (some (24, false)), .inl (.bin .lss (.t 25) (.c (.int .i64 0)))⟩,
          ⟨(some 27), none, .inl (.pick (.t 24) (.c (.bool true)) (.t 26))⟩,
          ⟨(some 28), none, .inl (.mv (.t 27))⟩,
          ⟨(some 29), (some (28, false)), .inl (.mv (.t 2))⟩,
          ⟨(some 30), (some (28, false)), .inl (.mv (.t 0))⟩,
          ⟨(some 31), (some (28, false)), .inl (.nilchk (.t 30))⟩,
          ⟨(some 32), (some (28, false)), .inl (.faddr 1 (.t 31))⟩,
          ⟨(some 33), (some (28, false)), .inl (.load false 1 (.t 32))⟩,
          ⟨(some 34), (some (28, false)), .inl (.len (.t 33))⟩,
          ⟨(some 35), (some (28, false)), .inl (.mv (.t 1))⟩,
          ⟨(some 36), (some (28, false)), .inl (.bin .sub (.t 34) (.t 35))⟩,
          ⟨(some 37), (some (28, false)), .inl (.bin .gtr (.t 29) (.t 36))⟩,
          ⟨(some 38), none, .inl (.pick (.t 28) (.c (.bool true)) (.t 37))⟩,
          ⟨(some 12), none, .inl (.mv (.t 38))⟩])
       (.keep [12]))
       (.cond (.t 12)
         (.seq (.seq (.reg [⟨(some 6), none, .inl (.mv (.c (.int .i64 1)))⟩])
          (.keep [6]))
          (.ret))
         (.skip))))))
    (.seq (.seq (.reg [⟨(some 6), none, .inl (.mv (.c (.int .i64 0)))⟩])
     (.keep [6]))
     (.ret)))
def fc_pmem_Device_asks : FC := ⟨39, cmd_pmem_Device_asks, [.t 6]⟩
theorem fc_pmem_Device_asks_ok : compF Try.prog 40 [[0, 1, 2], [0, 1, 2, 7], [6], [12], [6], [6]] = some fc_pmem_Device_asks := by kernel_rfl
/-- (*joist/joistref03.Device).asks -/
abbrev F.joistref03_Device_asks : Nat := 41
def cmd_joistref03_Device_asks : Cmd :=
  .seq (.seq (.reg [⟨(some 6), none, .inl (.mv (.c (.int .i64 0)))⟩])
   (.keep [0, 1, 2]))
   (.seq (.seq (.seq (.reg [⟨(some 7), none, .inl (.mv (.t 0))⟩,
       ⟨(some 8), none, .inl (.nilchk (.t 7))⟩,
       ⟨(some 9), none, .inl (.faddr 5 (.t 8))⟩,
       ⟨(some 10), none, .inl (.load false 1 (.t 9))⟩])
    (.keep [0, 1, 2, 10]))
    (.cond (.t 10)
      (.seq (.seq (.reg [⟨(some 6), none, .inl (.mv (.c (.int .i64 5)))⟩])
       (.keep [6]))
       (.ret))
      (.skip)))
    (.seq (.seq (.seq (.reg [⟨(some 11), none, .inl (.mv (.t 1))⟩,
        ⟨(some 12), none, .inl (.bin .lss (.t 11) (.c (.int .i64 0)))⟩,
        ⟨(some 13), none, .inl (.mv (.t 12))⟩,
        ⟨(some 14), (some (13, false)), .inl (.mv (.t 1))⟩,
        ⟨(some 15), (some (13, false)), .inl (.mv (.t 0))⟩,
        ⟨(some 16), (some (13, false)), .inl (.nilchk (.t 15))⟩,
        ⟨(some 17), (some (13, false)), .inl (.faddr 1 (.t 16))⟩,
        ⟨(some 18), (some (13, false)), .inl (.load false 1 (.t 17))⟩,
        ⟨(some 19), (some (13, false)), .inl (.len (.t 18))⟩,
        ⟨(some 20), (some (13, false)), .inl (.bin .gtr (.t 14) (.t 19))⟩,
        ⟨(some 21), none, .inl (.pick (.t 13) (.c (.bool true)) (.t 20))⟩,
        ⟨(some 22), none, .inl (.mv (.t 21))⟩,
        ⟨(some 23), (some (22, false)), .inl (.mv (.t 2))⟩,
        ⟨(some 24), (some (22, false)), .inl (.bin .lss (.t 23) (.c (.int .i64 0)))⟩,
        ⟨(some 25), none, .inl (.pick (.t 22) (.c (.bool true)) (.t 24))⟩,
        ⟨(some 26), none, .inl (.mv (.t 25))⟩,
        ⟨(some 27), (some (26, false)), .inl (.mv (.t 2))⟩,
        ⟨(some 28), (some (26, false)), .inl (.mv (.t 0))⟩,
        ⟨(some 29), (some (26, false)), .inl (.nilchk (.t 28))⟩,
        ⟨(some 30), (some (26, false)), .inl (.faddr 1 (.t 29))⟩,
        ⟨(some 31), (some (26, false)), .inl (.load false 1 (.t 30))⟩,
        ⟨(some 32), (some (26, false)), .inl (.len (.t 31))⟩,
        ⟨(some 33), (some (26, false)), .inl (.mv (.t 1))⟩,
        ⟨(some 34), (some (26, false)), .inl (.bin .sub (.t 32) (.t 33))⟩,
        ⟨(some 35), (some (26, false)), .inl (.bin .gtr (.t 27) (.t 34))⟩,
        ⟨(some 36), none, .inl (.pick (.t 26) (.c (.bool true)) (.t 35))⟩])
     (.keep [36]))
     (.cond (.t 36)
       (.seq (.seq (.reg [⟨(some 6), none, .inl (.mv (.c (.int .i64 1)))⟩])
        (.keep [6]))
        (.ret))
       (.skip)))
     (.seq (.seq (.reg [⟨(some 6), none, .inl (.mv (.c (.int .i64 0)))⟩])
      (.keep [6]))
      (.ret))))
def fc_joistref03_Device_asks : FC := ⟨37, cmd_joistref03_Device_asks, [.t 6]⟩
theorem fc_joistref03_Device_asks_ok : compF Try.prog 41 [[0, 1, 2], [0, 1, 2, 10], [6], [36], [6], [6]] = some fc_joistref03_Device_asks := by kernel_rfl
/-- (*joist/joistref03.Device).step -/
abbrev F.joistref03_Device_step : Nat := 42
def cmd_joistref03_Device_step : Cmd :=
  .seq (.seq (.reg [⟨(some 2), none, .inl (.mv (.c (.bool false)))⟩])
   (.keep [0]))
   (.seq (.seq (.seq (.reg [⟨(some 3), none, .inl (.mv (.t 0))⟩,
       ⟨(some 4), none, .inl (.nilchk (.t 3))⟩,
       ⟨(some 5), none, .inl (.faddr 4 (.t 4))⟩,
       ⟨(some 6), none, .inl (.load false 1 (.t 5))⟩,
       ⟨(some 7), none, .inl (.bin .eql (.t 6) (.c (.int .i64 0)))⟩])
    (.keep [0, 7]))
    (.cond (.t 7)
      (.seq (.seq (.reg [⟨(some 2), none, .inl (.mv (.c (.bool false)))⟩])
       (.keep [2]))
       (.ret))
      (.skip)))
    (.seq (.seq (.reg [⟨(some 8), none, .inl (.mv (.t 0))⟩,
        ⟨(some 9), none, .inl (.nilchk (.t 8))⟩,
        ⟨(some 10), none, .inl (.faddr 4 (.t 9))⟩,
        ⟨(some 11), none, .inl (.load false 1 (.t 10))⟩,
        ⟨(some 12), none, .inl (.bin .sub (.t 11) (.c (.int .i64 1)))⟩,
        ⟨(some 13), none, .inl (.nilchk (.t 8))⟩,
        ⟨(some 14), none, .inl (.faddr 4 (.t 13))⟩,
        ⟨none, none, .inr (.store 1 (.t 14) (.t 12))⟩])
     (.keep [0]))
     (.seq (.seq (.reg [⟨(some 15), none, .inl (.mv (.t 0))⟩,
         ⟨(some 16), none, .inl (.mv (.t 0))⟩,
         ⟨(some 17), none, .inl (.nilchk (.t 16))⟩,
         ⟨(some 18), none, .inl (.faddr 4 (.t 17))⟩,
         ⟨(some 19), none, .inl (.load false 1 (.t 18))⟩,
         ⟨(some 20), none, .inl (.bin .eql (.t 19) (.c (.int .i64 0)))⟩,
         ⟨(some 21), none, .inl (.nilchk (.t 15))⟩,
         ⟨(some 22), none, .inl (.faddr 5 (.t 21))⟩,
         ⟨none, none, .inr (.store 1 (.t 22) (.t 20))⟩])
      (.keep [0]))
      (.seq (.seq (.reg [⟨(some 23), none, .inl (.mv (.t 0))⟩,
          ⟨(some 24), none, .inl (.nilchk (.t 23))⟩,
          ⟨(some 25), none, .inl (.faddr 5 (.t 24))⟩,
          ⟨(some 26), none, .inl (.load false 1 (.t 25))⟩,
          ⟨(some 2), none, .inl (.mv (.t 26))⟩])
       (.keep [2]))
       (.ret)))))
def fc_joistref03_Device_step : FC := ⟨27, cmd_joistref03_Device_step, [.t 2]⟩
theorem fc_joistref03_Device_step_ok : compF Try.prog 42 [[0], [0, 7], [2], [0], [0], [2]] = some fc_joistref03_Device_step := by kernel_rfl
/-- (*joist/joistref03.Device).lasting -/
abbrev F.joistref03_Device_lasting : Nat := 43
def cmd_joistref03_Device_lasting : Cmd :=
  .seq (.seq (.reg [⟨(some 5), none, .inl (.mv (.t 1))⟩,
      ⟨(some 6), none, .inl (.bin .mul (.c (.int .i64 64)) (.t 5))⟩,
      ⟨(some 4), none, .inl (.mv (.t 6))⟩])
   (.keep [0, 1, 4]))
   (.block 0 (.loop [0, 1, 4] (.seq (.seq (.seq (.reg [⟨(some 7), none, .inl (.mv (.t 4))⟩,
       ⟨(some 8), none, .inl (.mv (.t 1))⟩,
       ⟨(some 9), none, .inl (.bin .add (.t 8) (.c (.int .i64 1)))⟩,
       ⟨(some 10), none, .inl (.bin .mul (.c (.int .i64 64)) (.t 9))⟩,
       ⟨(some 11), none, .inl (.bin .lss (.t 7) (.t 10))⟩])
    (.keep [0, 1, 4, 11]))
    (.cond (.t 11)
      (.skip)
      (.exit 0)))
    (.seq (.block 1 (.seq (.ord [⟨0, ⟨(some 14), none, .inl (.mv (.t 0))⟩, [], false⟩,
        ⟨1, ⟨(some 15), none, .inl (.nilchk (.t 14))⟩, [], false⟩,
        ⟨2, ⟨(some 16), none, .inl (.faddr 0 (.t 15))⟩, [], false⟩,
        ⟨3, ⟨(some 17), none, .inl (.load false 1 (.t 16))⟩, [], false⟩,
        ⟨4, ⟨(some 18), none, .inl (.mv (.t 4))⟩, [], false⟩,
        ⟨5, ⟨(some 19), none, .inl (.mv (.t 0))⟩, [], false⟩,
        ⟨6, ⟨(some 20), none, .inl (.nilchk (.t 19))⟩, [], false⟩,
        ⟨7, ⟨(some 21), none, .inl (.faddr 1 (.t 20))⟩, [], false⟩,
        ⟨8, ⟨(some 22), none, .inl (.load false 1 (.t 21))⟩, [], false⟩,
        ⟨9, ⟨(some 23), none, .inl (.mv (.t 4))⟩, [], false⟩,
        ⟨10, ⟨(some 24), none, .inl (.iaddr 1 (.t 22) (.t 23))⟩, [], false⟩,
        ⟨11, ⟨(some 25), none, .inl (.load false 1 (.t 24))⟩, [], false⟩,
        ⟨12, ⟨(some 26), none, .inl (.iaddr 1 (.t 17) (.t 18))⟩, [], false⟩,
        ⟨13, ⟨none, none, .inr (.store 1 (.t 26) (.t 25))⟩, [], false⟩])
     (.keep [0, 1, 4])))
     (.seq (.reg [⟨(some 12), none, .inl (.mv (.t 4))⟩,
         ⟨(some 13), none, .inl (.bin .add (.t 12) (.c (.int .i64 1)))⟩,
         ⟨(some 4), none, .inl (.mv (.t 13))⟩])
      (.keep [0, 1, 4]))))))
def fc_joistref03_Device_lasting : FC := ⟨27, cmd_joistref03_Device_lasting, []⟩
theorem fc_joistref03_Device_lasting_ok : compF Try.prog 43 [[0, 1, 4], [0, 1, 4], [0, 1, 4, 11], [0, 1, 4], [0, 1, 2, 3, 4, 5, 6, 7, 8, 9, 10, 11, 12, 13], [0, 1, 4]] = some fc_joistref03_Device_lasting := by kernel_rfl
/-- (*joist/joistref03.Device).Dirty -/
abbrev F.joistref03_Device_Dirty : Nat := 44
def cmd_joistref03_Device_Dirty : Cmd :=
  .seq (.seq (.reg [⟨(some 2), none, .inl (.mv (.c .nils))⟩])
   (.keep [0]))
   (.seq (.seq (.reg [⟨(some 3), none, .inl (.mv (.c .nils))⟩])
    (.keep [0, 3]))
    (.seq (.seq (.seq (.reg [⟨(some 4), none, .inl (.mv (.c (.int .i64 0)))⟩])
     (.keep [0, 3, 4]))
     (.block 0 (.loop [0, 3, 4] (.seq (.seq (.seq (.reg [⟨(some 5), none, .inl (.mv (.t 4))⟩,
         ⟨(some 6), none, .inl (.mv (.t 0))⟩,
         ⟨(some 7), none, .inl (.nilchk (.t 6))⟩,
         ⟨(some 8), none, .inl (.faddr 2 (.t 7))⟩,
         ⟨(some 9), none, .inl (.load false 1 (.t 8))⟩,
         ⟨(some 10), none, .inl (.len (.t 9))⟩,
         ⟨(some 11), none, .inl (.bin .lss (.t 5) (.t 10))⟩])
      (.keep [0, 3, 4, 11]))
      (.cond (.t 11)
        (.skip)
        (.exit 0)))
      (.seq (.block 1 (.seq (.seq (.reg [⟨(some 14), none, .inl (.mv (.t 0))⟩,
          ⟨(some 15), none, .inl (.nilchk (.t 14))⟩,
          ⟨(some 16), none, .inl (.faddr 2 (.t 15))⟩,
          ⟨(some 17), none, .inl (.load false 1 (.t 16))⟩,
          ⟨(some 18), none, .inl (.mv (.t 4))⟩,
          ⟨(some 19), none, .inl (.iaddr 1 (.t 17) (.t 18))⟩,
          ⟨(some 20), none, .inl (.load false 1 (.t 19))⟩])
       (.keep [0, 3, 4, 20]))
       (.cond (.t 20)
         (.seq (.reg [⟨(some 21), none, .inl (.mv (.t 3))⟩,
             ⟨(some 22), none, .inl (.mv (.t 4))⟩,
             ⟨(some 23), none, .inr (.bslice 1 [(.int .i64 0)] 1 [(0, (.t 22))])⟩,
             ⟨(some 24), none, .inr (.append 1 8 (.t 21) (.t 23))⟩,
             ⟨(some 3), none, .inl (.mv (.t 24))⟩])
          (.keep [0, 3, 4]))
         (.skip))))
       (.seq (.reg [⟨(some 12), none, .inl (.mv (.t 4))⟩,
           ⟨(some 13), none, .inl (.bin .add (.t 12) (.c (.int .i64 1)))⟩,
           ⟨(some 4), none, .inl (.mv (.t 13))⟩])
        (.keep [0, 3, 4])))))))
     (.seq (.seq (.reg [⟨(some 25), none, .inl (.mv (.t 3))⟩,
         ⟨(some 2), none, .inl (.mv (.t 25))⟩])
      (.keep [2]))
      (.ret))))
def fc_joistref03_Device_Dirty : FC := ⟨26, cmd_joistref03_Device_Dirty, [.t 2]⟩
theorem fc_joistref03_Device_Dirty_ok : compF Try.prog 44 [[0], [0, 3], [0, 3, 4], [0, 3, 4], [0, 3, 4, 11], [0, 3, 4, 20], [0, 3, 4], [0, 3, 4], [2]] = some fc_joistref03_Device_Dirty := by kernel_rfl
/-- (*joist/joistref03.Device).Image -/
abbrev F.joistref03_Device_Image : Nat := 45
def cmd_joistref03_Device_Image : Cmd :=
  .seq (.seq (.reg [⟨(some 2), none, .inl (.mv (.c .nils))⟩])
   (.keep [0]))
   (.seq (.seq (.reg [⟨(some 3), none, .inr (.bslice 1 [(.int .u8 0)] 0 [])⟩,
       ⟨(some 4), none, .inl (.mv (.t 0))⟩,
       ⟨(some 5), none, .inl (.nilchk (.t 4))⟩,
       ⟨(some 6), none, .inl (.faddr 0 (.t 5))⟩,
       ⟨(some 7), none, .inl (.load false 1 (.t 6))⟩,
       ⟨(some 8), none, .inr (.append 1 1 (.t 3) (.t 7))⟩,
       ⟨(some 2), none, .inl (.mv (.t 8))⟩])
    (.keep [2]))
    (.ret))
def fc_joistref03_Device_Image : FC := ⟨9, cmd_joistref03_Device_Image, [.t 2]⟩
theorem fc_joistref03_Device_Image_ok : compF Try.prog 45 [[0], [2]] = some fc_joistref03_Device_Image := by kernel_rfl
/-- (*joist/joistref03.Device).View -/
abbrev F.joistref03_Device_View : Nat := 46
def cmd_joistref03_Device_View : Cmd :=
  .seq (.seq (.reg [⟨(some 2), none, .inl (.mv (.c .nils))⟩])
   (.keep [0]))
   (.seq (.seq (.reg [⟨(some 3), none, .inr (.bslice 1 [(.int .u8 0)] 0 [])⟩,
       ⟨(some 4), none, .inl (.mv (.t 0))⟩,
       ⟨(some 5), none, .inl (.nilchk (.t 4))⟩,
       ⟨(some 6), none, .inl (.faddr 1 (.t 5))⟩,
       ⟨(some 7), none, .inl (.load false 1 (.t 6))⟩,
       ⟨(some 8), none, .inr (.append 1 1 (.t 3) (.t 7))⟩,
       ⟨(some 2), none, .inl (.mv (.t 8))⟩])
    (.keep [2]))
    (.ret))
def fc_joistref03_Device_View : FC := ⟨9, cmd_joistref03_Device_View, [.t 2]⟩
theorem fc_joistref03_Device_View_ok : compF Try.prog 46 [[0], [2]] = some fc_joistref03_Device_View := by kernel_rfl
/-- joist/joistref01.Same -/
abbrev F.joistref01_Same : Nat := 47
def cmd_joistref01_Same : Cmd :=
  .seq (.seq (.reg [⟨(some 4), none, .inl (.mv (.c (.bool false)))⟩])
   (.keep [0, 1]))
   (.seq (.seq (.seq (.reg [⟨(some 6), none, .inl (.mv (.t 0))⟩,
       ⟨(some 7), none, .inl (.len (.t 6))⟩,
       ⟨(some 8), none, .inl (.mv (.t 1))⟩,
       ⟨(some 9), none, .inl (.len (.t 8))⟩,
       ⟨(some 10), none, .inl (.bin .neq (.t 7) (.t 9))⟩])
    (.keep [0, 1, 10]))
    (.cond (.t 10)
      (.seq (.seq (.reg [⟨(some 4), none, .inl (.mv (.c (.bool false)))⟩])
       (.keep [4]))
       (.ret))
      (.skip)))
    (.seq (.seq (.seq (.reg [⟨(some 5), none, .inl (.mv (.c (.int .i64 0)))⟩])
     (.keep [0, 1, 5]))
     (.block 0 (.loop [0, 1, 5] (.seq (.seq (.seq (.reg [⟨(some 11), none, .inl (.mv (.t 5))⟩,
         ⟨(some 12), none, .inl (.mv (.t 0))⟩,
         ⟨(some 13), none, .inl (.len (.t 12))⟩,
         ⟨(some 14), none, .inl (.bin .lss (.t 11) (.t 13))⟩])
      (.keep [0, 1, 5, 14]))
      (.cond (.t 14)
        (.skip)
        (.exit 0)))
      (.seq (.block 1 (.seq (.seq (.ord [⟨0, ⟨(some 17), none, .inl (.mv (.t 0))⟩, [], false⟩,
          ⟨1, ⟨(some 18), none, .inl (.mv (.t 5))⟩, [], false⟩,
          ⟨2, ⟨(some 19), none, .inl (.iaddr 1 (.t 17) (.t 18))⟩, [], false⟩,
          ⟨3, ⟨(some 20), none, .inl (.load false 1 (.t 19))⟩, [], false⟩,
          ⟨4, ⟨(some 21), none, .inl (.mv (.t 1))⟩, [], false⟩,
          ⟨5, ⟨(some 22), none, .inl (.mv (.t 5))⟩, [], false⟩,
          ⟨6, ⟨(some 23), none, .inl (.iaddr 1 (.t 21) (.t 22))⟩, [], false⟩,
          ⟨7, ⟨(some 24), none, .inl (.load false 1 (.t 23))⟩, [], false⟩,
          ⟨8, ⟨(some 25), none, .inl (.bin .neq (.t 20) (.t 24))⟩, [], false⟩])
       (.keep [0, 1, 5, 25]))
       (.cond (.t 25)
         (.seq (.seq (.reg [⟨(some 4), none, .inl (.mv (.c (.bool false)))⟩])
          (.keep [4]))
          (.ret))
         (.skip))))
       (.seq (.reg [⟨(some 15), none, .inl (.mv (.t 5))⟩,
           ⟨(some 16), none, .inl (.bin .add (.t 15) (.c (.int .i64 1)))⟩,
           ⟨(some 5), none, .inl (.mv (.t 16))⟩])
        (.keep [0, 1, 5])))))))
     (.seq (.seq (.reg [⟨(some 4), none, .inl (.mv (.c (.bool true)))⟩])
      (.keep [4]))
      (.ret))))
def fc_joistref01_Same : FC := ⟨26, cmd_joistref01_Same, [.t 4]⟩
theorem fc_joistref01_Same_ok : compF Try.prog 47 [[0, 1], [0, 1, 10], [4], [0, 1, 5], [0, 1, 5], [0, 1, 5, 14], [0, 1, 5, 25], [0, 1, 2, 3, 4, 5, 6, 7, 8], [4], [0, 1, 5], [4]] = some fc_joistref01_Same := by kernel_rfl
/-- (*joist/joistref03.Device).Down -/
abbrev F.joistref03_Device_Down : Nat := 48
def cmd_joistref03_Device_Down : Cmd :=
  .seq (.seq (.reg [⟨(some 2), none, .inl (.mv (.c (.bool false)))⟩])
   (.keep [0]))
   (.seq (.seq (.reg [⟨(some 3), none, .inl (.mv (.t 0))⟩,
       ⟨(some 4), none, .inl (.nilchk (.t 3))⟩,
       ⟨(some 5), none, .inl (.faddr 5 (.t 4))⟩,
       ⟨(some 6), none, .inl (.load false 1 (.t 5))⟩,
       ⟨(some 2), none, .inl (.mv (.t 6))⟩])
    (.keep [2]))
    (.ret))
def fc_joistref03_Device_Down : FC := ⟨7, cmd_joistref03_Device_Down, [.t 2]⟩
theorem fc_joistref03_Device_Down_ok : compF Try.prog 48 [[0], [2]] = some fc_joistref03_Device_Down := by kernel_rfl
/-- (*joist/joistref03.Device).Lines -/
abbrev F.joistref03_Device_Lines : Nat := 49
def cmd_joistref03_Device_Lines : Cmd :=
  .seq (.seq (.reg [⟨(some 2), none, .inl (.mv (.c (.int .i64 0)))⟩])
   (.keep [0]))
   (.seq (.seq (.reg [⟨(some 3), none, .inl (.mv (.t 0))⟩,
       ⟨(some 4), none, .inl (.nilchk (.t 3))⟩,
       ⟨(some 5), none, .inl (.faddr 2 (.t 4))⟩,
       ⟨(some 6), none, .inl (.load false 1 (.t 5))⟩,
       ⟨(some 7), none, .inl (.len (.t 6))⟩,
       ⟨(some 2), none, .inl (.mv (.t 7))⟩])
    (.keep [2]))
    (.ret))
def fc_joistref03_Device_Lines : FC := ⟨8, cmd_joistref03_Device_Lines, [.t 2]⟩
theorem fc_joistref03_Device_Lines_ok : compF Try.prog 49 [[0], [2]] = some fc_joistref03_Device_Lines := by kernel_rfl
/-- slices.pdqsortOrdered[int] -/
abbrev F.slices_pdqsortOrdered : Nat := 50
def cmd_slices_pdqsortOrdered : Cmd :=
  .seq (.seq (.reg [⟨(some 8), none, .inl (.mv (.c (.bool true)))⟩])
   (.keep [0, 1, 2, 3, 8]))
   (.seq (.seq (.reg [⟨(some 9), none, .inl (.mv (.c (.bool true)))⟩])
    (.keep [0, 1, 2, 3, 8, 9]))
    (.block 0 (.loop [0, 1, 2, 3, 8, 9] (.block 1 (.seq (.seq (.reg [⟨(some 19), none, .inl (.mv (.t 2))⟩,
        ⟨(some 20), none, .inl (.mv (.t 1))⟩,
        ⟨(some 21), none, .inl (.bin .sub (.t 19) (.t 20))⟩,
        ⟨(some 10), none, .inl (.mv (.t 21))⟩])
     (.keep [0, 1, 2, 3, 8, 9, 10]))
     (.seq (.seq (.seq (.reg [⟨(some 22), none, .inl (.mv (.t 10))⟩,
         ⟨(some 23), none, .inl (.bin .leq (.t 22) (.c (.int .i64 12)))⟩])
      (.keep [0, 1, 2, 3, 8, 9, 10, 23]))
      (.cond (.t 23)
        (.seq (.seq (.reg [⟨(some 24), none, .inl (.mv (.t 0))⟩,
            ⟨(some 25), none, .inl (.mv (.t 1))⟩,
            ⟨(some 26), none, .inl (.mv (.t 2))⟩,
            ⟨(some 27), none, .inr (.call 52 [(.t 24), (.t 25), (.t 26)])⟩])
         (.keep []))
         (.ret))
        (.skip)))
      (.seq (.seq (.seq (.reg [⟨(some 28), none, .inl (.mv (.t 3))⟩,
          ⟨(some 29), none, .inl (.bin .eql (.t 28) (.c (.int .i64 0)))⟩])
       (.keep [0, 1, 2, 3, 8, 9, 10, 29]))
       (.cond (.t 29)
         (.seq (.seq (.reg [⟨(some 30), none, .inl (.mv (.t 0))⟩,
             ⟨(some 31), none, .inl (.mv (.t 1))⟩,
             ⟨(some 32), none, .inl (.mv (.t 2))⟩,
             ⟨(some 33), none, .inr (.call 53 [(.t 30), (.t 31), (.t 32)])⟩])
          (.keep []))
          (.ret))
         (.skip)))
       (.seq (.seq (.seq (.reg [⟨(some 34), none, .inl (.mv (.t 8))⟩,
           ⟨(some 35), none, .inl (.un .not (.t 34))⟩])
        (.keep [0, 1, 2, 3, 8, 9, 10, 35]))
        (.cond (.t 35)
          (.seq (.seq (.reg [⟨(some 36), none, .inl (.mv (.t 0))⟩,
              ⟨(some 37), none, .inl (.mv (.t 1))⟩,
              ⟨(some 38), none, .inl (.mv (.t 2))⟩,
              ⟨(some 39), none, .inr (.call 54 [(.t 36), (.t 37), (.t 38)])⟩])
           (.keep [0, 1, 2, 3, 8, 9, 10]))
           (.seq (.reg [⟨(some 40), none, .inl (.mv (.t 3))⟩,
               ⟨(some 41), none, .inl (.bin .sub (.t 40) (.c (.int .i64 1)))⟩,
               ⟨(some 3), none, .inl (.mv (.t 41))⟩])
            (.keep [0, 1, 2, 3, 8, 9, 10])))
          (.skip)))
        (.seq (.seq (.reg [⟨(some 43), none, .inl (.mv (.t 0))⟩,
            ⟨(some 44), none, .inl (.mv (.t 1))⟩,
            ⟨(some 45), none, .inl (.mv (.t 2))⟩,
            ⟨(some 46), none, .inr (.call 55 [(.t 43), (.t 44), (.t 45)])⟩,
            ⟨(some 42), none, .inl (.mv (.t 46))⟩,
            ⟨(some 47), none, .inl (.ext 0 (.t 42))⟩,
            ⟨(some 48), none, .inl (.ext 1 (.t 42))⟩,
            ⟨(some 11), none, .inl (.mv (.t 47))⟩,
            ⟨(some 12), none, .inl (.mv (.t 48))⟩])
         (.keep [0, 1, 2, 3, 8, 9, 10, 11, 12]))
         (.seq (.seq (.seq (.reg [⟨(some 49), none, .inl (.mv (.t 12))⟩,
             ⟨(some 50), none, .inl (.bin .eql (.t 49) (.c (.int .i64 2)))⟩])
          (.keep [0, 1, 2, 3, 8, 9, 10, 11, 12, 50]))
          (.cond (.t 50)
            (.seq (.seq (.reg [⟨(some 51), none, .inl (.mv (.t 0))⟩,
                ⟨(some 52), none, .inl (.mv (.t 1))⟩,
                ⟨(some 53), none, .inl (.mv (.t 2))⟩,
                ⟨(some 54), none, .inr (.call 56 [(.t 51), (.t 52), (.t 53)])⟩])
             (.keep [0, 1, 2, 3, 8, 9, 10, 11]))
             (.seq (.seq (.reg [⟨(some 55), none, .inl (.mv (.t 2))⟩,
                 ⟨(some 56), none, .inl (.bin .sub (.t 55) (.c (.int .i64 1)))⟩,
                 ⟨(some 57), none, .inl (.mv (.t 11))⟩,
                 ⟨(some 58), none, .inl (.mv (.t 1))⟩,
                 ⟨(some 59), none, .inl (.bin .sub (.t 57) (.t 58))⟩,
                 ⟨(some 60), none, .inl (.bin .sub (.t 56) (.t 59))⟩,
                 ⟨(some 11), none, .inl (.mv (.t 60))⟩])
              (.keep [0, 1, 2, 3, 8, 9, 10, 11]))
              (.seq (.reg [⟨(some 12), none, .inl (.mv (.c (.int .i64 1)))⟩])
               (.keep [0, 1, 2, 3, 8, 9, 10, 11, 12]))))
            (.skip)))
          (.seq (.seq (.seq (.reg [⟨(some 61), none, .inl (.mv (.t 8))⟩,
              ⟨(some 62), none, .inl (.mv (.t 61))⟩,
              ⟨(some 63), (some (62, true)), .inl (.mv (.t 9))⟩,
              ⟨(some 64), none, .inl (.pick (.t 62) (.t 63) (.c (.bool false)))⟩,
              ⟨(some 65), none, .inl (.mv (.t 64))⟩,
              ⟨(some 66), (some (65, true)), .inl (.mv (.t 12))⟩,
              ⟨(some 67), (some (65, true)), .inl (.bin .eql (.t 66) (.c (.int .i64 1)))⟩,
              ⟨(some 68), none, .inl (.pick (.t 65) (.t 67) (.c (.bool false)))⟩])
           (.keep [0, 1, 2, 3, 8, 9, 10, 11, 68]))
           (.cond (.t 68)
             (.seq (.seq (.reg [⟨(some 69), none, .inl (.mv (.t 0))⟩,
                 ⟨(some 70), none, .inl (.mv (.t 1))⟩,
                 ⟨(some 71), none, .inl (.mv (.t 2))⟩,
                 ⟨(some 72), none, .inr (.call 57 [(.t 69), (.t 70), (.t 71)])⟩])
              (.keep [0, 1, 2, 3, 8, 9, 10, 11, 72]))
              (.cond (.t 72)
                (.ret)
                (.skip)))
             (.skip)))
           (.seq (.seq (.seq (.ord [⟨0, ⟨(some 73), none, .inl (.mv (.t 1))⟩, [], false⟩,
               ⟨1, ⟨(some 74), none, .inl (.bin .gtr (.t 73) (.c (.int .i64 0)))⟩, [], false⟩,
               ⟨2, ⟨(some 75), none, .inl (.mv (.t 74))⟩, [], false⟩,
               ⟨3, ⟨(some 76), (some (75, true)), .inl (.mv (.t 0))⟩, [], false⟩,
               ⟨4, ⟨(some 77), (some (75, true)), .inl (.mv (.t 1))⟩, [], false⟩,
               ⟨5, ⟨(some 78), (some (75, true)), .inl (.bin .sub (.t 77) (.c (.int .i64 1)))⟩, [], false⟩,
               ⟨6, ⟨(some 79), (some (75, true)), .inl (.iaddr 1 (.t 76) (.t 78))⟩, [], false⟩,
               ⟨7, ⟨(some 80), (some (75, true)), .inl (.load false 1 (.t 79))⟩, [], false⟩,
               ⟨8, ⟨(some 81), (some (75, true)), .inl (.mv (.t 0))⟩, [], false⟩,
               ⟨9, ⟨(some 82), (some (75, true)), .inl (.mv (.t 11))⟩, [], false⟩,
               ⟨10, ⟨(some 83), (some (75, true)), .inl (.iaddr 1 (.t 81) (.t 82))⟩, [], false⟩,
               ⟨11, ⟨(some 84), (some (75, true)), .inl (.load false 1 (.t 83))⟩, [], false⟩,
               ⟨12, ⟨(some 85), (some (75, true)), .inr (.call 58 [(.t 80), (.t 84)])⟩, [], false⟩,
               ⟨13, ⟨(some 86), (some (75, true)), .inl (.un .not (.t 85))⟩, [], false⟩,
               ⟨14, ⟨(some 87), none, .inl (.pick (.t 75) (.t 86) (.c (.bool false)))⟩, [], false⟩])
            (.keep [0, 1, 2, 3, 8, 9, 10, 11, 87]))
            (.cond (.t 87)
              (.seq (.seq (.reg [⟨(some 88), none, .inl (.mv (.t 0))⟩,
                  ⟨(some 89), none, .inl (.mv (.t 1))⟩,
                  ⟨(some 90), none, .inl (.mv (.t 2))⟩,
                  ⟨(some 91), none, .inl (.mv (.t 11))⟩,
                  ⟨(some 92), none, .inr (.call 59 [(.t 88), (.t 89), (.t 90), (.t 91)])⟩,
                  ⟨(some 13), none, .inl (.mv (.t 92))⟩])
               (.keep [0, 2, 3, 8, 9, 13]))
               (.seq (.seq (.reg [⟨(some 93), none, .inl (.mv (.t 13))⟩,
                   ⟨(some 1), none, .inl (.mv (.t 93))⟩])
                (.keep [0, 1, 2, 3, 8, 9]))
                (.exit 1)))
              (.skip)))
            (.seq (.seq (.reg [⟨(some 95), none, .inl (.mv (.t 0))⟩,
                ⟨(some 96), none, .inl (.mv (.t 1))⟩,
                ⟨(some 97), none, .inl (.mv (.t 2))⟩,
                ⟨(some 98), none, .inl (.mv (.t 11))⟩,
                ⟨(some 99), none, .inr (.call 60 [(.t 95), (.t 96), (.t 97), (.t 98)])⟩,
                ⟨(some 94), none, .inl (.mv (.t 99))⟩,
                ⟨(some 100), none, .inl (.ext 0 (.t 94))⟩,
                ⟨(some 101), none, .inl (.ext 1 (.t 94))⟩,
                ⟨(some 14), none, .inl (.mv (.t 100))⟩,
                ⟨(some 15), none, .inl (.mv (.t 101))⟩])
             (.keep [0, 1, 2, 3, 10, 14, 15]))
             (.seq (.seq (.reg [⟨(some 102), none, .inl (.mv (.t 15))⟩,
                 ⟨(some 9), none, .inl (.mv (.t 102))⟩])
              (.keep [0, 1, 2, 3, 9, 10, 14]))
              (.seq (.seq (.reg [⟨(some 103), none, .inl (.mv (.t 14))⟩,
                  ⟨(some 104), none, .inl (.mv (.t 1))⟩,
                  ⟨(some 105), none, .inl (.bin .sub (.t 103) (.t 104))⟩,
                  ⟨(some 106), none, .inl (.mv (.t 2))⟩,
                  ⟨(some 107), none, .inl (.mv (.t 14))⟩,
                  ⟨(some 108), none, .inl (.bin .sub (.t 106) (.t 107))⟩,
                  ⟨(some 16), none, .inl (.mv (.t 105))⟩,
                  ⟨(some 17), none, .inl (.mv (.t 108))⟩])
               (.keep [0, 1, 2, 3, 9, 10, 14, 16, 17]))
               (.seq (.seq (.reg [⟨(some 109), none, .inl (.mv (.t 10))⟩,
                   ⟨(some 110), none, .inl (.bin .quo (.t 109) (.c (.int .i64 8)))⟩,
                   ⟨(some 18), none, .inl (.mv (.t 110))⟩])
                (.keep [0, 1, 2, 3, 9, 14, 16, 17, 18]))
                (.seq (.seq (.reg [⟨(some 111), none, .inl (.mv (.t 16))⟩,
                    ⟨(some 112), none, .inl (.mv (.t 17))⟩,
                    ⟨(some 113), none, .inl (.bin .lss (.t 111) (.t 112))⟩])
                 (.keep [0, 1, 2, 3, 9, 14, 16, 17, 18, 113]))
                 (.cond (.t 113)
                   (.seq (.seq (.reg [⟨(some 114), none, .inl (.mv (.t 16))⟩,
                       ⟨(some 115), none, .inl (.mv (.t 18))⟩,
                       ⟨(some 116), none, .inl (.bin .geq (.t 114) (.t 115))⟩,
                       ⟨(some 8), none, .inl (.mv (.t 116))⟩])
                    (.keep [0, 1, 2, 3, 8, 9, 14]))
                    (.seq (.seq (.reg [⟨(some 117), none, .inl (.mv (.t 0))⟩,
                        ⟨(some 118), none, .inl (.mv (.t 1))⟩,
                        ⟨(some 119), none, .inl (.mv (.t 14))⟩,
                        ⟨(some 120), none, .inl (.mv (.t 3))⟩,
                        ⟨(some 121), none, .inr (.call 50 [(.t 117), (.t 118), (.t 119), (.t 120)])⟩])
                     (.keep [0, 2, 3, 8, 9, 14]))
                     (.seq (.reg [⟨(some 122), none, .inl (.mv (.t 14))⟩,
                         ⟨(some 123), none, .inl (.bin .add (.t 122) (.c (.int .i64 1)))⟩,
                         ⟨(some 1), none, .inl (.mv (.t 123))⟩])
                      (.keep [0, 1, 2, 3, 8, 9]))))
                   (.seq (.seq (.reg [⟨(some 124), none, .inl (.mv (.t 17))⟩,
                       ⟨(some 125), none, .inl (.mv (.t 18))⟩,
                       ⟨(some 126), none, .inl (.bin .geq (.t 124) (.t 125))⟩,
                       ⟨(some 8), none, .inl (.mv (.t 126))⟩])
                    (.keep [0, 1, 2, 3, 8, 9, 14]))
                    (.seq (.seq (.reg [⟨(some 127), none, .inl (.mv (.t 0))⟩,
                        ⟨(some 128), none, .inl (.mv (.t 14))⟩,
                        ⟨(some 129), none, .inl (.bin .add (.t 128) (.c (.int .i64 1)))⟩,
                        ⟨(some 130), none, .inl (.mv (.t 2))⟩,
                        ⟨(some 131), none, .inl (.mv (.t 3))⟩,
                        ⟨(some 132), none, .inr (.call 50 [(.t 127), (.t 129), (.t 130), (.t 131)])⟩])
                     (.keep [0, 1, 3, 8, 9, 14]))
                     (.seq (.reg [⟨(some 133), none, .inl (.mv (.t 14))⟩,
                         ⟨(some 2), none, .inl (.mv (.t 133))⟩])
                      (.keep [0, 1, 2, 3, 8, 9]))))))))))))))))))))))
def fc_slices_pdqsortOrdered : FC := ⟨134, cmd_slices_pdqsortOrdered, []⟩
theorem fc_slices_pdqsortOrdered_ok : compF Try.prog 50 [[0, 1, 2, 3, 8], [0, 1, 2, 3, 8, 9], [0, 1, 2, 3, 8, 9], [0, 1, 2, 3, 8, 9, 10], [0, 1, 2, 3, 8, 9, 10, 23], [], [0, 1, 2, 3, 8, 9, 10, 29], [], [0, 1, 2, 3, 8, 9, 10, 35], [0, 1, 2, 3, 8, 9, 10], [0, 1, 2, 3, 8, 9, 10], [0, 1, 2, 3, 8, 9, 10, 11, 12], [0, 1, 2, 3, 8, 9, 10, 11, 12, 50], [0, 1, 2, 3, 8, 9, 10, 11], [0, 1, 2, 3, 8, 9, 10, 11], [0, 1, 2, 3, 8, 9, 10, 11, 12], [0, 1, 2, 3, 8, 9, 10, 11, 68], [0, 1, 2, 3, 8, 9, 10, 11, 72], [0, 1, 2, 3, 8, 9, 10, 11, 87], [0, 1, 2, 3, 4, 5, 6, 7, 8, 9, 10, 11, 12, 13, 14], [0, 2, 3, 8, 9, 13], [0, 1, 2, 3, 8, 9], [0, 1, 2, 3, 10, 14, 15], [0, 1, 2, 3, 9, 10, 14], [0, 1, 2, 3, 9, 10, 14, 16, 17], [0, 1, 2, 3, 9, 14, 16, 17, 18], [0, 1, 2, 3, 9, 14, 16, 17, 18, 113], [0, 1, 2, 3, 8, 9, 14], [0, 2, 3, 8, 9, 14], [0, 1, 2, 3, 8, 9], [0, 1, 2, 3, 8, 9, 14], [0, 1, 3, 8, 9, 14], [0, 1, 2, 3, 8, 9]] = some fc_slices_pdqsortOrdered := by kernel_rfl
/-- math/bits.Len -/
abbrev F.math_bits_Len : Nat := 51
def cmd_math_bits_Len : Cmd :=
  .seq (.seq (.reg [⟨(some 2), none, .inl (.mv (.c (.int .i64 0)))⟩])
   (.keep [0]))
   (.seq (.cond (.c (.bool false))
     (.seq (.seq (.reg [⟨(some 3), none, .inl (.mv (.t 0))⟩,
         ⟨(some 4), none, .inl (.conv .u32 (.t 3))⟩,
         ⟨(some 5), none, .inr (.call 61 [(.t 4)])⟩,
         ⟨(some 2), none, .inl (.mv (.t 5))⟩])
      (.keep [2]))
      (.ret))
     (.skip))
    (.seq (.seq (.reg [⟨(some 6), none, .inl (.mv (.t 0))⟩,
        ⟨(some 7), none, .inr (.call 62 [(.t 6)])⟩,
        ⟨(some 2), none, .inl (.mv (.t 7))⟩])
     (.keep [2]))
     (.ret)))
def fc_math_bits_Len : FC := ⟨8, cmd_math_bits_Len, [.t 2]⟩
theorem fc_math_bits_Len_ok : compF Try.prog 51 [[0], [2], [2]] = some fc_math_bits_Len := by kernel_rfl
/-- slices.insertionSortOrdered[int] -/
abbrev F.slices_insertionSortOrdered : Nat := 52
def cmd_slices_insertionSortOrdered : Cmd :=
  .seq (.seq (.reg [⟨(some 8), none, .inl (.mv (.t 1))⟩,
      ⟨(some 9), none, .inl (.bin .add (.t 8) (.c (.int .i64 1)))⟩,
      ⟨(some 6), none, .inl (.mv (.t 9))⟩])
   (.keep [0, 1, 2, 6]))
   (.block 0 (.loop [0, 1, 2, 6] (.seq (.seq (.seq (.reg [⟨(some 10), none, .inl (.mv (.t 6))⟩,
       ⟨(some 11), none, .inl (.mv (.t 2))⟩,
       ⟨(some 12), none, .inl (.bin .lss (.t 10) (.t 11))⟩])
    (.keep [0, 1, 2, 6, 12]))
    (.cond (.t 12)
      (.skip)
      (.exit 0)))
    (.seq (.block 1 (.seq (.seq (.reg [⟨(some 15), none, .inl (.mv (.t 6))⟩,
        ⟨(some 7), none, .inl (.mv (.t 15))⟩])
     (.keep [0, 1, 2, 6, 7]))
     (.block 2 (.loop [0, 1, 2, 6, 7] (.seq (.seq (.seq (.ord [⟨0, ⟨(some 16), none, .inl (.mv (.t 7))⟩, [], false⟩,
         ⟨1, ⟨(some 17), none, .inl (.mv (.t 1))⟩, [], false⟩,
         ⟨2, ⟨(some 18), none, .inl (.bin .gtr (.t 16) (.t 17))⟩, [], false⟩,
         ⟨3, ⟨(some 19), none, .inl (.mv (.t 18))⟩, [], false⟩,
         ⟨4, ⟨(some 20), (some (19, true)), .inl (.mv (.t 0))⟩, [], false⟩,
         ⟨5, ⟨(some 21), (some (19, true)), .inl (.mv (.t 7))⟩, [], false⟩,
         ⟨6, ⟨(some 22), (some (19, true)), .inl (.iaddr 1 (.t 20) (.t 21))⟩, [], false⟩,
         ⟨7, ⟨(some 23), (some (19, true)), .inl (.load false 1 (.t 22))⟩, [], false⟩,
         ⟨8, ⟨(some 24), (some (19, true)), .inl (.mv (.t 0))⟩, [], false⟩,
         ⟨9, ⟨(some 25), (some (19, true)), .inl (.mv (.t 7))⟩, [], false⟩,
         ⟨10, ⟨(some 26), (some (19, true)), .inl (.bin .sub (.t 25) (.c (.int .i64 1)))⟩, [], false⟩,
         ⟨11, ⟨(some 27), (some (19, true)), .inl (.iaddr 1 (.t 24) (.t 26))⟩, [], false⟩,
         ⟨12, ⟨(some 28), (some (19, true)), .inl (.load false 1 (.t 27))⟩, [], false⟩,
         ⟨13, ⟨(some 29), (some (19, true)), .inr (.call 58 [(.t 23), (.t 28)])⟩, [], false⟩,
         ⟨14, ⟨(some 30), none, .inl (.pick (.t 19) (.t 29) (.c (.bool false)))⟩, [], false⟩])
      (.keep [0, 1, 2, 6, 7, 30]))
      (.cond (.t 30)
        (.skip)
        (.exit 2)))
      (.seq (.block 3 (.seq (.ord [⟨0, ⟨(some 33), none, .inl (.mv (.t 0))⟩, [], false⟩,
          ⟨1, ⟨(some 34), none, .inl (.mv (.t 7))⟩, [], false⟩,
          ⟨2, ⟨(some 35), none, .inl (.mv (.t 0))⟩, [], true⟩,
          ⟨3, ⟨(some 36), none, .inl (.mv (.t 7))⟩, [], true⟩,
          ⟨4, ⟨(some 37), none, .inl (.bin .sub (.t 36) (.c (.int .i64 1)))⟩, [], true⟩,
          ⟨5, ⟨(some 38), none, .inl (.mv (.t 0))⟩, [], false⟩,
          ⟨6, ⟨(some 39), none, .inl (.mv (.t 7))⟩, [], false⟩,
          ⟨7, ⟨(some 40), none, .inl (.bin .sub (.t 39) (.c (.int .i64 1)))⟩, [], false⟩,
          ⟨8, ⟨(some 41), none, .inl (.iaddr 1 (.t 38) (.t 40))⟩, [], false⟩,
          ⟨9, ⟨(some 42), none, .inl (.load false 1 (.t 41))⟩, [], false⟩,
          ⟨10, ⟨(some 43), none, .inl (.mv (.t 0))⟩, [], false⟩,
          ⟨11, ⟨(some 44), none, .inl (.mv (.t 7))⟩, [], false⟩,
          ⟨12, ⟨(some 45), none, .inl (.iaddr 1 (.t 43) (.t 44))⟩, [], false⟩,
          ⟨13, ⟨(some 46), none, .inl (.load false 1 (.t 45))⟩, [], false⟩,
          ⟨14, ⟨(some 47), none, .inl (.iaddr 1 (.t 33) (.t 34))⟩, [], false⟩,
          ⟨15, ⟨none, none, .inr (.store 1 (.t 47) (.t 42))⟩, [2, 3, 4], false⟩,
          ⟨16, ⟨(some 48), none, .inl (.iaddr 1 (.t 35) (.t 37))⟩, [], false⟩,
          ⟨17, ⟨none, none, .inr (.store 1 (.t 48) (.t 46))⟩, [], false⟩])
       (.keep [0, 1, 2, 6, 7])))
       (.seq (.reg [⟨(some 31), none, .inl (.mv (.t 7))⟩,
           ⟨(some 32), none, .inl (.bin .sub (.t 31) (.c (.int .i64 1)))⟩,
           ⟨(some 7), none, .inl (.mv (.t 32))⟩])
        (.keep [0, 1, 2, 6, 7]))))))))
     (.seq (.reg [⟨(some 13), none, .inl (.mv (.t 6))⟩,
         ⟨(some 14), none, .inl (.bin .add (.t 13) (.c (.int .i64 1)))⟩,
         ⟨(some 6), none, .inl (.mv (.t 14))⟩])
      (.keep [0, 1, 2, 6]))))))
def fc_slices_insertionSortOrdered : FC := ⟨49, cmd_slices_insertionSortOrdered, []⟩
theorem fc_slices_insertionSortOrdered_ok : compF Try.prog 52 [[0, 1, 2, 6], [0, 1, 2, 6], [0, 1, 2, 6, 12], [0, 1, 2, 6, 7], [0, 1, 2, 6, 7], [0, 1, 2, 6, 7, 30], [0, 1, 2, 3, 4, 5, 6, 7, 8, 9, 10, 11, 12, 13, 14], [0, 1, 2, 6, 7], [0, 1, 2, 3, 4, 5, 6, 7, 8, 9, 10, 11, 12, 13, 14, 15, 16, 17], [0, 1, 2, 6, 7], [0, 1, 2, 6]] = some fc_slices_insertionSortOrdered := by kernel_rfl
/-- slices.heapSortOrdered[int] -/
abbrev F.slices_heapSortOrdered : Nat := 53
def cmd_slices_heapSortOrdered : Cmd :=
  .seq (.seq (.reg [⟨(some 11), none, .inl (.mv (.t 1))⟩,
      ⟨(some 6), none, .inl (.mv (.t 11))⟩])
   (.keep [0, 1, 2, 6]))
   (.seq (.seq (.reg [⟨(some 7), none, .inl (.mv (.c (.int .i64 0)))⟩])
    (.keep [0, 1, 2, 6, 7]))
    (.seq (.seq (.reg [⟨(some 12), none, .inl (.mv (.t 2))⟩,
        ⟨(some 13), none, .inl (.mv (.t 1))⟩,
        ⟨(some 14), none, .inl (.bin .sub (.t 12) (.t 13))⟩,
        ⟨(some 8), none, .inl (.mv (.t 14))⟩])
     (.keep [0, 6, 7, 8]))
     (.seq (.seq (.seq (.reg [⟨(some 15), none, .inl (.mv (.t 8))⟩,
         ⟨(some 16), none, .inl (.bin .sub (.t 15) (.c (.int .i64 1)))⟩,
         ⟨(some 17), none, .inl (.bin .quo (.t 16) (.c (.int .i64 2)))⟩,
         ⟨(some 9), none, .inl (.mv (.t 17))⟩])
      (.keep [0, 6, 7, 8, 9]))
      (.block 0 (.loop [0, 6, 7, 8, 9] (.seq (.seq (.seq (.reg [⟨(some 18), none, .inl (.mv (.t 9))⟩,
          ⟨(some 19), none, .inl (.bin .geq (.t 18) (.c (.int .i64 0)))⟩])
       (.keep [0, 6, 7, 8, 9, 19]))
       (.cond (.t 19)
         (.skip)
         (.exit 0)))
       (.seq (.block 1 (.seq (.reg [⟨(some 22), none, .inl (.mv (.t 0))⟩,
           ⟨(some 23), none, .inl (.mv (.t 9))⟩,
           ⟨(some 24), none, .inl (.mv (.t 8))⟩,
           ⟨(some 25), none, .inl (.mv (.t 6))⟩,
           ⟨(some 26), none, .inr (.call 63 [(.t 22), (.t 23), (.t 24), (.t 25)])⟩])
        (.keep [0, 6, 7, 8, 9])))
        (.seq (.reg [⟨(some 20), none, .inl (.mv (.t 9))⟩,
            ⟨(some 21), none, .inl (.bin .sub (.t 20) (.c (.int .i64 1)))⟩,
            ⟨(some 9), none, .inl (.mv (.t 21))⟩])
         (.keep [0, 6, 7, 8, 9])))))))
      (.seq (.seq (.reg [⟨(some 27), none, .inl (.mv (.t 8))⟩,
          ⟨(some 28), none, .inl (.bin .sub (.t 27) (.c (.int .i64 1)))⟩,
          ⟨(some 10), none, .inl (.mv (.t 28))⟩])
       (.keep [0, 6, 7, 10]))
       (.block 2 (.loop [0, 6, 7, 10] (.seq (.seq (.seq (.reg [⟨(some 29), none, .inl (.mv (.t 10))⟩,
           ⟨(some 30), none, .inl (.bin .geq (.t 29) (.c (.int .i64 0)))⟩])
        (.keep [0, 6, 7, 10, 30]))
        (.cond (.t 30)
          (.skip)
          (.exit 2)))
        (.seq (.block 3 (.seq (.seq (.ord [⟨0, ⟨(some 33), none, .inl (.mv (.t 0))⟩, [], false⟩,
            ⟨1, ⟨(some 34), none, .inl (.mv (.t 6))⟩, [], false⟩,
            ⟨2, ⟨(some 35), none, .inl (.mv (.t 0))⟩, [], true⟩,
            ⟨3, ⟨(some 36), none, .inl (.mv (.t 6))⟩, [], true⟩,
            ⟨4, ⟨(some 37), none, .inl (.mv (.t 10))⟩, [], true⟩,
            ⟨5, ⟨(some 38), none, .inl (.bin .add (.t 36) (.t 37))⟩, [], true⟩,
            ⟨6, ⟨(some 39), none, .inl (.mv (.t 0))⟩, [], false⟩,
            ⟨7, ⟨(some 40), none, .inl (.mv (.t 6))⟩, [], false⟩,
            ⟨8, ⟨(some 41), none, .inl (.mv (.t 10))⟩, [], false⟩,
            ⟨9, ⟨(some 42), none, .inl (.bin .add (.t 40) (.t 41))⟩, [], false⟩,
            ⟨10, ⟨(some 43), none, .inl (.iaddr 1 (.t 39) (.t 42))⟩, [], false⟩,
            ⟨11, ⟨(some 44), none, .inl (.load false 1 (.t 43))⟩, [], false⟩,
            ⟨12, ⟨(some 45), none, .inl (.mv (.t 0))⟩, [], false⟩,
            ⟨13, ⟨(some 46), none, .inl (.mv (.t 6))⟩, [], false⟩,
            ⟨14, ⟨(some 47), none, .inl (.iaddr 1 (.t 45) (.t 46))⟩, [], false⟩,
            ⟨15, ⟨(some 48), none, .inl (.load false 1 (.t 47))⟩, [], false⟩,
            ⟨16, ⟨(some 49), none, .inl (.iaddr 1 (.t 33) (.t 34))⟩, [], false⟩,
            ⟨17, ⟨none, none, .inr (.store 1 (.t 49) (.t 44))⟩, [2, 3, 4, 5], false⟩,
            ⟨18, ⟨(some 50), none, .inl (.iaddr 1 (.t 35) (.t 38))⟩, [], false⟩,
            ⟨19, ⟨none, none, .inr (.store 1 (.t 50) (.t 48))⟩, [], false⟩])
         (.keep [0, 6, 7, 10]))
         (.seq (.reg [⟨(some 51), none, .inl (.mv (.t 0))⟩,
             ⟨(some 52), none, .inl (.mv (.t 7))⟩,
             ⟨(some 53), none, .inl (.mv (.t 10))⟩,
             ⟨(some 54), none, .inl (.mv (.t 6))⟩,
             ⟨(some 55), none, .inr (.call 63 [(.t 51), (.t 52), (.t 53), (.t 54)])⟩])
          (.keep [0, 6, 7, 10]))))
         (.seq (.reg [⟨(some 31), none, .inl (.mv (.t 10))⟩,
             ⟨(some 32), none, .inl (.bin .sub (.t 31) (.c (.int .i64 1)))⟩,
             ⟨(some 10), none, .inl (.mv (.t 32))⟩])
          (.keep [0, 6, 7, 10]))))))))))
def fc_slices_heapSortOrdered : FC := ⟨56, cmd_slices_heapSortOrdered, []⟩
theorem fc_slices_heapSortOrdered_ok : compF Try.prog 53 [[0, 1, 2, 6], [0, 1, 2, 6, 7], [0, 6, 7, 8], [0, 6, 7, 8, 9], [0, 6, 7, 8, 9], [0, 6, 7, 8, 9, 19], [0, 6, 7, 8, 9], [0, 6, 7, 8, 9], [0, 6, 7, 10], [0, 6, 7, 10], [0, 6, 7, 10, 30], [0, 6, 7, 10], [0, 1, 2, 3, 4, 5, 6, 7, 8, 9, 10, 11, 12, 13, 14, 15, 16, 17, 18, 19], [0, 6, 7, 10], [0, 6, 7, 10]] = some fc_slices_heapSortOrdered := by kernel_rfl
/-- slices.breakPatternsOrdered[int] -/
abbrev F.slices_breakPatternsOrdered : Nat := 54
def cmd_slices_breakPatternsOrdered : Cmd :=
  .seq (.seq (.reg [⟨(some 11), none, .inl (.mv (.t 2))⟩,
      ⟨(some 12), none, .inl (.mv (.t 1))⟩,
      ⟨(some 13), none, .inl (.bin .sub (.t 11) (.t 12))⟩,
      ⟨(some 6), none, .inl (.mv (.t 13))⟩])
   (.keep [0, 1, 6]))
   (.seq (.seq (.reg [⟨(some 14), none, .inl (.mv (.t 6))⟩,
       ⟨(some 15), none, .inl (.bin .geq (.t 14) (.c (.int .i64 8)))⟩])
    (.keep [0, 1, 6, 15]))
    (.cond (.t 15)
      (.seq (.seq (.reg [⟨(some 16), none, .inl (.mv (.t 6))⟩,
          ⟨(some 17), none, .inl (.conv .u64 (.t 16))⟩,
          ⟨(some 7), none, .inr (.alloc [(.int .u64 0)])⟩,
          ⟨none, none, .inr (.store 1 (.t 7) (.t 17))⟩])
       (.keep [0, 1, 6, 7]))
       (.seq (.seq (.reg [⟨(some 18), none, .inl (.mv (.t 6))⟩,
           ⟨(some 19), none, .inr (.call 64 [(.t 18)])⟩,
           ⟨(some 8), none, .inl (.mv (.t 19))⟩])
        (.keep [0, 1, 6, 7, 8]))
        (.seq (.seq (.reg [⟨(some 20), none, .inl (.mv (.t 1))⟩,
            ⟨(some 21), none, .inl (.mv (.t 6))⟩,
            ⟨(some 22), none, .inl (.bin .quo (.t 21) (.c (.int .i64 4)))⟩,
            ⟨(some 23), none, .inl (.bin .mul (.t 22) (.c (.int .i64 2)))⟩,
            ⟨(some 24), none, .inl (.bin .add (.t 20) (.t 23))⟩,
            ⟨(some 25), none, .inl (.bin .sub (.t 24) (.c (.int .i64 1)))⟩,
            ⟨(some 9), none, .inl (.mv (.t 25))⟩])
         (.keep [0, 1, 6, 7, 8, 9]))
         (.block 0 (.loop [0, 1, 6, 7, 8, 9] (.seq (.seq (.seq (.reg [⟨(some 26), none, .inl (.mv (.t 9))⟩,
             ⟨(some 27), none, .inl (.mv (.t 1))⟩,
             ⟨(some 28), none, .inl (.mv (.t 6))⟩,
             ⟨(some 29), none, .inl (.bin .quo (.t 28) (.c (.int .i64 4)))⟩,
             ⟨(some 30), none, .inl (.bin .mul (.t 29) (.c (.int .i64 2)))⟩,
             ⟨(some 31), none, .inl (.bin .add (.t 27) (.t 30))⟩,
             ⟨(some 32), none, .inl (.bin .add (.t 31) (.c (.int .i64 1)))⟩,
             ⟨(some 33), none, .inl (.bin .leq (.t 26) (.t 32))⟩])
          (.keep [0, 1, 6, 7, 8, 9, 33]))
          (.cond (.t 33)
            (.skip)
            (.exit 0)))
          (.seq (.block 1 (.seq (.seq (.reg [⟨(some 36), none, .inr (.call 65 [(.t 7)])⟩,
              ⟨(some 37), none, .inl (.mv (.t 8))⟩,
              ⟨(some 38), none, .inl (.bin .sub (.t 37) (.c (.int .u64 1)))⟩,
              ⟨(some 39), none, .inl (.bin .and (.t 36) (.t 38))⟩,
              ⟨(some 40), none, .inl (.conv .i64 (.t 39))⟩,
              ⟨(some 10), none, .inl (.mv (.t 40))⟩])
           (.keep [0, 1, 6, 7, 8, 9, 10]))
           (.seq (.seq (.seq (.reg [⟨(some 41), none, .inl (.mv (.t 10))⟩,
               ⟨(some 42), none, .inl (.mv (.t 6))⟩,
               ⟨(some 43), none, .inl (.bin .geq (.t 41) (.t 42))⟩])
            (.keep [0, 1, 6, 7, 8, 9, 10, 43]))
            (.cond (.t 43)
              (.seq (.reg [⟨(some 44), none, .inl (.mv (.t 10))⟩,
                  ⟨(some 45), none, .inl (.mv (.t 6))⟩,
                  ⟨(some 46), none, .inl (.bin .sub (.t 44) (.t 45))⟩,
                  ⟨(some 10), none, .inl (.mv (.t 46))⟩])
               (.keep [0, 1, 6, 7, 8, 9, 10]))
              (.skip)))
            (.seq (.ord [⟨0, ⟨(some 47), none, .inl (.mv (.t 0))⟩, [], false⟩,
                ⟨1, ⟨(some 48), none, .inl (.mv (.t 9))⟩, [], false⟩,
                ⟨2, ⟨(some 49), none, .inl (.mv (.t 0))⟩, [], true⟩,
                ⟨3, ⟨(some 50), none, .inl (.mv (.t 1))⟩, [], true⟩,
                ⟨4, ⟨(some 51), none, .inl (.mv (.t 10))⟩, [], true⟩,
                ⟨5, ⟨(some 52), none, .inl (.bin .add (.t 50) (.t 51))⟩, [], true⟩,
                ⟨6, ⟨(some 53), none, .inl (.mv (.t 0))⟩, [], false⟩,
                ⟨7, ⟨(some 54), none, .inl (.mv (.t 1))⟩, [], false⟩,
                ⟨8, ⟨(some 55), none, .inl (.mv (.t 10))⟩, [], false⟩,
                ⟨9, ⟨(some 56), none, .inl (.bin .add (.t 54) (.t 55))⟩, [], false⟩,
                ⟨10, ⟨(some 57), none, .inl (.iaddr 1 (.t 53) (.t 56))⟩, [], false⟩,
                ⟨11, ⟨(some 58), none, .inl (.load false 1 (.t 57))⟩, [], false⟩,
                ⟨12, ⟨(some 59), none, .inl (.mv (.t 0))⟩, [], false⟩,
                ⟨13, ⟨(some 60), none, .inl (.mv (.t 9))⟩, [], false⟩,
                ⟨14, ⟨(some 61), none, .inl (.iaddr 1 (.t 59) (.t 60))⟩, [], false⟩,
                ⟨15, ⟨(some 62), none, .inl (.load false 1 (.t 61))⟩, [], false⟩,
                ⟨16, ⟨(some 63), none, .inl (.iaddr 1 (.t 47) (.t 48))⟩, [], false⟩,
                ⟨17, ⟨none, none, .inr (.store 1 (.t 63) (.t 58))⟩, [2, 3, 4, 5], false⟩,
                ⟨18, ⟨(some 64), none, .inl (.iaddr 1 (.t 49) (.t 52))⟩, [], false⟩,
                ⟨19, ⟨none, none, .inr (.store 1 (.t 64) (.t 62))⟩, [], false⟩])
             (.keep [0, 1, 6, 7, 8, 9])))))
           (.seq (.reg [⟨(some 34), none, .inl (.mv (.t 9))⟩,
               ⟨(some 35), none, .inl (.bin .add (.t 34) (.c (.int .i64 1)))⟩,
               ⟨(some 9), none, .inl (.mv (.t 35))⟩])
            (.keep [0, 1, 6, 7, 8, 9])))))))))
      (.skip)))
def fc_slices_breakPatternsOrdered : FC := ⟨65, cmd_slices_breakPatternsOrdered, []⟩
theorem fc_slices_breakPatternsOrdered_ok : compF Try.prog 54 [[0, 1, 6], [0, 1, 6, 15], [0, 1, 6, 7], [0, 1, 6, 7, 8], [0, 1, 6, 7, 8, 9], [0, 1, 6, 7, 8, 9], [0, 1, 6, 7, 8, 9, 33], [0, 1, 6, 7, 8, 9, 10], [0, 1, 6, 7, 8, 9, 10, 43], [0, 1, 6, 7, 8, 9, 10], [0, 1, 6, 7, 8, 9], [0, 1, 2, 3, 4, 5, 6, 7, 8, 9, 10, 11, 12, 13, 14, 15, 16, 17, 18, 19], [0, 1, 6, 7, 8, 9]] = some fc_slices_breakPatternsOrdered := by kernel_rfl
/-- slices.choosePivotOrdered[int] -/
abbrev F.slices_choosePivotOrdered : Nat := 55
def cmd_slices_choosePivotOrdered : Cmd :=
  .seq (.seq (.reg [⟨(some 6), none, .inl (.mv (.c (.int .i64 0)))⟩,
      ⟨(some 7), none, .inl (.mv (.c (.int .i64 0)))⟩])
   (.keep [0, 1, 2]))
   (.seq (.seq (.reg [⟨(some 13), none, .inl (.mv (.t 2))⟩,
       ⟨(some 14), none, .inl (.mv (.t 1))⟩,
       ⟨(some 15), none, .inl (.bin .sub (.t 13) (.t 14))⟩,
       ⟨(some 8), none, .inl (.mv (.t 15))⟩])
    (.keep [0, 1, 8]))
    (.seq (.seq (.reg [⟨(some 9), none, .inr (.alloc [(.int .i64 0)])⟩])
     (.keep [0, 1, 8, 9]))
     (.seq (.seq (.reg [⟨(some 16), none, .inl (.mv (.t 1))⟩,
         ⟨(some 17), none, .inl (.mv (.t 8))⟩,
         ⟨(some 18), none, .inl (.bin .quo (.t 17) (.c (.int .i64 4)))⟩,
         ⟨(some 19), none, .inl (.bin .mul (.t 18) (.c (.int .i64 1)))⟩,
         ⟨(some 20), none, .inl (.bin .add (.t 16) (.t 19))⟩,
         ⟨(some 10), none, .inl (.mv (.t 20))⟩])
      (.keep [0, 1, 8, 9, 10]))
      (.seq (.seq (.reg [⟨(some 21), none, .inl (.mv (.t 1))⟩,
          ⟨(some 22), none, .inl (.mv (.t 8))⟩,
          ⟨(some 23), none, .inl (.bin .quo (.t 22) (.c (.int .i64 4)))⟩,
          ⟨(some 24), none, .inl (.bin .mul (.t 23) (.c (.int .i64 2)))⟩,
          ⟨(some 25), none, .inl (.bin .add (.t 21) (.t 24))⟩,
          ⟨(some 11), none, .inl (.mv (.t 25))⟩])
       (.keep [0, 1, 8, 9, 10, 11]))
       (.seq (.seq (.reg [⟨(some 26), none, .inl (.mv (.t 1))⟩,
           ⟨(some 27), none, .inl (.mv (.t 8))⟩,
           ⟨(some 28), none, .inl (.bin .quo (.t 27) (.c (.int .i64 4)))⟩,
           ⟨(some 29), none, .inl (.bin .mul (.t 28) (.c (.int .i64 3)))⟩,
           ⟨(some 30), none, .inl (.bin .add (.t 26) (.t 29))⟩,
           ⟨(some 12), none, .inl (.mv (.t 30))⟩])
        (.keep [0, 8, 9, 10, 11, 12]))
        (.seq (.seq (.seq (.reg [⟨(some 31), none, .inl (.mv (.t 8))⟩,
            ⟨(some 32), none, .inl (.bin .geq (.t 31) (.c (.int .i64 8)))⟩])
         (.keep [0, 8, 9, 10, 11, 12, 32]))
         (.cond (.t 32)
           (.seq (.seq (.seq (.reg [⟨(some 33), none, .inl (.mv (.t 8))⟩,
               ⟨(some 34), none, .inl (.bin .geq (.t 33) (.c (.int .i64 50)))⟩])
            (.keep [0, 9, 10, 11, 12, 34]))
            (.cond (.t 34)
              (.seq (.seq (.reg [⟨(some 35), none, .inl (.mv (.t 0))⟩,
                  ⟨(some 36), none, .inl (.mv (.t 10))⟩,
                  ⟨(some 37), none, .inr (.call 66 [(.t 35), (.t 36), (.t 9)])⟩,
                  ⟨(some 10), none, .inl (.mv (.t 37))⟩])
               (.keep [0, 9, 10, 11, 12]))
               (.seq (.seq (.reg [⟨(some 38), none, .inl (.mv (.t 0))⟩,
                   ⟨(some 39), none, .inl (.mv (.t 11))⟩,
                   ⟨(some 40), none, .inr (.call 66 [(.t 38), (.t 39), (.t 9)])⟩,
                   ⟨(some 11), none, .inl (.mv (.t 40))⟩])
                (.keep [0, 9, 10, 11, 12]))
                (.seq (.reg [⟨(some 41), none, .inl (.mv (.t 0))⟩,
                    ⟨(some 42), none, .inl (.mv (.t 12))⟩,
                    ⟨(some 43), none, .inr (.call 66 [(.t 41), (.t 42), (.t 9)])⟩,
                    ⟨(some 12), none, .inl (.mv (.t 43))⟩])
                 (.keep [0, 9, 10, 11, 12]))))
              (.skip)))
            (.seq (.reg [⟨(some 44), none, .inl (.mv (.t 0))⟩,
                ⟨(some 45), none, .inl (.mv (.t 10))⟩,
                ⟨(some 46), none, .inl (.mv (.t 11))⟩,
                ⟨(some 47), none, .inl (.mv (.t 12))⟩,
                ⟨(some 48), none, .inr (.call 67 [(.t 44), (.t 45), (.t 46), (.t 47), (.t 9)])⟩,
                ⟨(some 11), none, .inl (.mv (.t 48))⟩])
             (.keep [9, 11])))
           (.skip)))
         (.seq (.seq (.reg [⟨(some 49), none, .inl (.load false 1 (.t 9))⟩])
          (.keep [11, 49]))
          (.block 0 (.seq (.seq (.reg [⟨(some 52), none, .inl (.bin .eql (.t 49) (.c (.int .i64 0)))⟩,
              ⟨(some 51), none, .inl (.mv (.t 52))⟩])
           (.keep [11, 49, 51]))
           (.cond (.t 51)
             (.seq (.seq (.reg [⟨(some 53), none, .inl (.mv (.t 11))⟩,
                 ⟨(some 6), none, .inl (.mv (.t 53))⟩,
                 ⟨(some 7), none, .inl (.mv (.c (.int .i64 1)))⟩])
              (.keep [6, 7]))
              (.ret))
             (.seq (.seq (.reg [⟨(some 55), none, .inl (.bin .eql (.t 49) (.c (.int .i64 12)))⟩,
                 ⟨(some 54), none, .inl (.mv (.t 55))⟩])
              (.keep [11, 54]))
              (.cond (.t 54)
                (.seq (.seq (.reg [⟨(some 56), none, .inl (.mv (.t 11))⟩,
                    ⟨(some 6), none, .inl (.mv (.t 56))⟩,
                    ⟨(some 7), none, .inl (.mv (.c (.int .i64 2)))⟩])
                 (.keep [6, 7]))
                 (.ret))
                (.seq (.seq (.reg [⟨(some 50), none, .inl (.mv (.t 11))⟩,
                    ⟨(some 6), none, .inl (.mv (.t 50))⟩,
                    ⟨(some 7), none, .inl (.mv (.c (.int .i64 0)))⟩])
                 (.keep [6, 7]))
                 (.ret))))))))))))))
def fc_slices_choosePivotOrdered : FC := ⟨57, cmd_slices_choosePivotOrdered, [.t 6, .t 7]⟩
theorem fc_slices_choosePivotOrdered_ok : compF Try.prog 55 [[0, 1, 2], [0, 1, 8], [0, 1, 8, 9], [0, 1, 8, 9, 10], [0, 1, 8, 9, 10, 11], [0, 8, 9, 10, 11, 12], [0, 8, 9, 10, 11, 12, 32], [0, 9, 10, 11, 12, 34], [0, 9, 10, 11, 12], [0, 9, 10, 11, 12], [0, 9, 10, 11, 12], [9, 11], [11, 49], [11, 49, 51], [6, 7], [11, 54], [6, 7], [6, 7]] = some fc_slices_choosePivotOrdered := by kernel_rfl
/-- slices.reverseRangeOrdered[int] -/
abbrev F.slices_reverseRangeOrdered : Nat := 56
def cmd_slices_reverseRangeOrdered : Cmd :=
  .seq (.seq (.reg [⟨(some 8), none, .inl (.mv (.t 1))⟩,
      ⟨(some 6), none, .inl (.mv (.t 8))⟩])
   (.keep [0, 2, 6]))
   (.seq (.seq (.reg [⟨(some 9), none, .inl (.mv (.t 2))⟩,
       ⟨(some 10), none, .inl (.bin .sub (.t 9) (.c (.int .i64 1)))⟩,
       ⟨(some 7), none, .inl (.mv (.t 10))⟩])
    (.keep [0, 6, 7]))
    (.block 0 (.loop [0, 6, 7] (.seq (.seq (.seq (.reg [⟨(some 11), none, .inl (.mv (.t 6))⟩,
        ⟨(some 12), none, .inl (.mv (.t 7))⟩,
        ⟨(some 13), none, .inl (.bin .lss (.t 11) (.t 12))⟩])
     (.keep [0, 6, 7, 13]))
     (.cond (.t 13)
       (.skip)
       (.exit 0)))
     (.block 1 (.seq (.seq (.ord [⟨0, ⟨(some 14), none, .inl (.mv (.t 0))⟩, [], false⟩,
         ⟨1, ⟨(some 15), none, .inl (.mv (.t 6))⟩, [], false⟩,
         ⟨2, ⟨(some 16), none, .inl (.mv (.t 0))⟩, [], true⟩,
         ⟨3, ⟨(some 17), none, .inl (.mv (.t 7))⟩, [], true⟩,
         ⟨4, ⟨(some 18), none, .inl (.mv (.t 0))⟩, [], false⟩,
         ⟨5, ⟨(some 19), none, .inl (.mv (.t 7))⟩, [], false⟩,
         ⟨6, ⟨(some 20), none, .inl (.iaddr 1 (.t 18) (.t 19))⟩, [], false⟩,
         ⟨7, ⟨(some 21), none, .inl (.load false 1 (.t 20))⟩, [], false⟩,
         ⟨8, ⟨(some 22), none, .inl (.mv (.t 0))⟩, [], false⟩,
         ⟨9, ⟨(some 23), none, .inl (.mv (.t 6))⟩, [], false⟩,
         ⟨10, ⟨(some 24), none, .inl (.iaddr 1 (.t 22) (.t 23))⟩, [], false⟩,
         ⟨11, ⟨(some 25), none, .inl (.load false 1 (.t 24))⟩, [], false⟩,
         ⟨12, ⟨(some 26), none, .inl (.iaddr 1 (.t 14) (.t 15))⟩, [], false⟩,
         ⟨13, ⟨none, none, .inr (.store 1 (.t 26) (.t 21))⟩, [2, 3], false⟩,
         ⟨14, ⟨(some 27), none, .inl (.iaddr 1 (.t 16) (.t 17))⟩, [], false⟩,
         ⟨15, ⟨none, none, .inr (.store 1 (.t 27) (.t 25))⟩, [], false⟩])
      (.keep [0, 6, 7]))
      (.seq (.seq (.reg [⟨(some 28), none, .inl (.mv (.t 6))⟩,
          ⟨(some 29), none, .inl (.bin .add (.t 28) (.c (.int .i64 1)))⟩,
          ⟨(some 6), none, .inl (.mv (.t 29))⟩])
       (.keep [0, 6, 7]))
       (.seq (.reg [⟨(some 30), none, .inl (.mv (.t 7))⟩,
           ⟨(some 31), none, .inl (.bin .sub (.t 30) (.c (.int .i64 1)))⟩,
           ⟨(some 7), none, .inl (.mv (.t 31))⟩])
        (.keep [0, 6, 7])))))))))
def fc_slices_reverseRangeOrdered : FC := ⟨32, cmd_slices_reverseRangeOrdered, []⟩
theorem fc_slices_reverseRangeOrdered_ok : compF Try.prog 56 [[0, 2, 6], [0, 6, 7], [0, 6, 7], [0, 6, 7, 13], [0, 6, 7], [0, 1, 2, 3, 4, 5, 6, 7, 8, 9, 10, 11, 12, 13, 14, 15], [0, 6, 7], [0, 6, 7]] = some fc_slices_reverseRangeOrdered := by kernel_rfl
/-- slices.partialInsertionSortOrdered[int] -/
abbrev F.slices_partialInsertionSortOrdered : Nat := 57
def cmd_slices_partialInsertionSortOrdered : Cmd :=
  .seq (.seq (.reg [⟨(some 6), none, .inl (.mv (.c (.bool false)))⟩])
   (.keep [0, 1, 2]))
   (.seq (.seq (.reg [⟨(some 11), none, .inl (.mv (.t 1))⟩,
       ⟨(some 12), none, .inl (.bin .add (.t 11) (.c (.int .i64 1)))⟩,
       ⟨(some 7), none, .inl (.mv (.t 12))⟩])
    (.keep [0, 1, 2, 7]))
    (.seq (.seq (.seq (.reg [⟨(some 8), none, .inl (.mv (.c (.int .i64 0)))⟩])
     (.keep [0, 1, 2, 7, 8]))
     (.block 0 (.loop [0, 1, 2, 7, 8] (.seq (.seq (.seq (.reg [⟨(some 13), none, .inl (.mv (.t 8))⟩,
         ⟨(some 14), none, .inl (.bin .lss (.t 13) (.c (.int .i64 5)))⟩])
      (.keep [0, 1, 2, 7, 8, 14]))
      (.cond (.t 14)
        (.skip)
        (.exit 0)))
      (.seq (.block 1 (.seq (.block 2 (.loop [0, 1, 2, 7, 8] (.seq (.seq (.seq (.ord [⟨0, ⟨(some 17), none, .inl (.mv (.t 7))⟩, [], false⟩,
          ⟨1, ⟨(some 18), none, .inl (.mv (.t 2))⟩, [], false⟩,
          ⟨2, ⟨(some 19), none, .inl (.bin .lss (.t 17) (.t 18))⟩, [], false⟩,
          ⟨3, ⟨(some 20), none, .inl (.mv (.t 19))⟩, [], false⟩,
          ⟨4, ⟨(some 21), (some (20, true)), .inl (.mv (.t 0))⟩, [], false⟩,
          ⟨5, ⟨(some 22), (some (20, true)), .inl (.mv (.t 7))⟩, [], false⟩,
          ⟨6, ⟨(some 23), (some (20, true)), .inl (.iaddr 1 (.t 21) (.t 22))⟩, [], false⟩,
          ⟨7, ⟨(some 24), (some (20, true)), .inl (.load false 1 (.t 23))⟩, [], false⟩,
          ⟨8, ⟨(some 25), (some (20, true)), .inl (.mv (.t 0))⟩, [], false⟩,
          ⟨9, ⟨(some 26), (some (20, true)), .inl (.mv (.t 7))⟩, [], false⟩,
          ⟨10, ⟨(some 27), (some (20, true)), .inl (.bin .sub (.t 26) (.c (.int .i64 1)))⟩, [], false⟩,
          ⟨11, ⟨(some 28), (some (20, true)), .inl (.iaddr 1 (.t 25) (.t 27))⟩, [], false⟩,
          ⟨12, ⟨(some 29), (some (20, true)), .inl (.load false 1 (.t 28))⟩, [], false⟩,
          ⟨13, ⟨(some 30), (some (20, true)), .inr (.call 58 [(.t 24), (.t 29)])⟩, [], false⟩,
          ⟨14, ⟨(some 31), (some (20, true)), .inl (.un .not (.t 30))⟩, [], false⟩,
          ⟨15, ⟨(some 32), none, .inl (.pick (.t 20) (.t 31) (.c (.bool false)))⟩, [], false⟩])
       (.keep [0, 1, 2, 7, 8, 32]))
       (.cond (.t 32)
         (.skip)
         (.exit 2)))
       (.block 3 (.seq (.reg [⟨(some 33), none, .inl (.mv (.t 7))⟩,
           ⟨(some 34), none, .inl (.bin .add (.t 33) (.c (.int .i64 1)))⟩,
           ⟨(some 7), none, .inl (.mv (.t 34))⟩])
        (.keep [0, 1, 2, 7, 8]))))))
       (.seq (.seq (.seq (.reg [⟨(some 35), none, .inl (.mv (.t 7))⟩,
           ⟨(some 36), none, .inl (.mv (.t 2))⟩,
           ⟨(some 37), none, .inl (.bin .eql (.t 35) (.t 36))⟩])
        (.keep [0, 1, 2, 7, 8, 37]))
        (.cond (.t 37)
          (.seq (.seq (.reg [⟨(some 6), none, .inl (.mv (.c (.bool true)))⟩])
           (.keep [6]))
           (.ret))
          (.skip)))
        (.seq (.seq (.seq (.reg [⟨(some 38), none, .inl (.mv (.t 2))⟩,
            ⟨(some 39), none, .inl (.mv (.t 1))⟩,
            ⟨(some 40), none, .inl (.bin .sub (.t 38) (.t 39))⟩,
            ⟨(some 41), none, .inl (.bin .lss (.t 40) (.c (.int .i64 50)))⟩])
         (.keep [0, 1, 2, 7, 8, 41]))
         (.cond (.t 41)
           (.seq (.seq (.reg [⟨(some 6), none, .inl (.mv (.c (.bool false)))⟩])
            (.keep [6]))
            (.ret))
           (.skip)))
         (.seq (.seq (.ord [⟨0, ⟨(some 42), none, .inl (.mv (.t 0))⟩, [], false⟩,
             ⟨1, ⟨(some 43), none, .inl (.mv (.t 7))⟩, [], false⟩,
             ⟨2, ⟨(some 44), none, .inl (.mv (.t 0))⟩, [], true⟩,
             ⟨3, ⟨(some 45), none, .inl (.mv (.t 7))⟩, [], true⟩,
             ⟨4, ⟨(some 46), none, .inl (.bin .sub (.t 45) (.c (.int .i64 1)))⟩, [], true⟩,
             ⟨5, ⟨(some 47), none, .inl (.mv (.t 0))⟩, [], false⟩,
             ⟨6, ⟨(some 48), none, .inl (.mv (.t 7))⟩, [], false⟩,
             ⟨7, ⟨(some 49), none, .inl (.bin .sub (.t 48) (.c (.int .i64 1)))⟩, [], false⟩,
             ⟨8, ⟨(some 50), none, .inl (.iaddr 1 (.t 47) (.t 49))⟩, [], false⟩,
             ⟨9, ⟨(some 51), none, .inl (.load false 1 (.t 50))⟩, [], false⟩,
             ⟨10, ⟨(some 52), none, .inl (.mv (.t 0))⟩, [], false⟩,
             ⟨11, ⟨(some 53), none, .inl (.mv (.t 7))⟩, [], false⟩,
             ⟨12, ⟨(some 54), none, .inl (.iaddr 1 (.t 52) (.t 53))⟩, [], false⟩,
             ⟨13, ⟨(some 55), none, .inl (.load false 1 (.t 54))⟩, [], false⟩,
             ⟨14, ⟨(some 56), none, .inl (.iaddr 1 (.t 42) (.t 43))⟩, [], false⟩,
             ⟨15, ⟨none, none, .inr (.store 1 (.t 56) (.t 51))⟩, [2, 3, 4], false⟩,
             ⟨16, ⟨(some 57), none, .inl (.iaddr 1 (.t 44) (.t 46))⟩, [], false⟩,
             ⟨17, ⟨none, none, .inr (.store 1 (.t 57) (.t 55))⟩, [], false⟩])
          (.keep [0, 1, 2, 7, 8]))
          (.seq (.seq (.seq (.reg [⟨(some 58), none, .inl (.mv (.t 7))⟩,
              ⟨(some 59), none, .inl (.mv (.t 1))⟩,
              ⟨(some 60), none, .inl (.bin .sub (.t 58) (.t 59))⟩,
              ⟨(some 61), none, .inl (.bin .geq (.t 60) (.c (.int .i64 2)))⟩])
           (.keep [0, 1, 2, 7, 8, 61]))
           (.cond (.t 61)
             (.seq (.seq (.reg [⟨(some 62), none, .inl (.mv (.t 7))⟩,
                 ⟨(some 63), none, .inl (.bin .sub (.t 62) (.c (.int .i64 1)))⟩,
                 ⟨(some 9), none, .inl (.mv (.t 63))⟩])
              (.keep [0, 1, 2, 7, 8, 9]))
              (.block 4 (.loop [0, 1, 2, 7, 8, 9] (.seq (.seq (.seq (.reg [⟨(some 64), none, .inl (.mv (.t 9))⟩,
                  ⟨(some 65), none, .inl (.bin .geq (.t 64) (.c (.int .i64 1)))⟩])
               (.keep [0, 1, 2, 7, 8, 9, 65]))
               (.cond (.t 65)
                 (.skip)
                 (.exit 4)))
               (.seq (.block 5 (.seq (.seq (.seq (.ord [⟨0, ⟨(some 68), none, .inl (.mv (.t 0))⟩, [], false⟩,
                   ⟨1, ⟨(some 69), none, .inl (.mv (.t 9))⟩, [], false⟩,
                   ⟨2, ⟨(some 70), none, .inl (.iaddr 1 (.t 68) (.t 69))⟩, [], false⟩,
                   ⟨3, ⟨(some 71), none, .inl (.load false 1 (.t 70))⟩, [], false⟩,
                   ⟨4, ⟨(some 72), none, .inl (.mv (.t 0))⟩, [], false⟩,
                   ⟨5, ⟨(some 73), none, .inl (.mv (.t 9))⟩, [], false⟩,
                   ⟨6, ⟨(some 74), none, .inl (.bin .sub (.t 73) (.c (.int .i64 1)))⟩, [], false⟩,
                   ⟨7, ⟨(some 75), none, .inl (.iaddr 1 (.t 72) (.t 74))⟩, [], false⟩,
                   ⟨8, ⟨(some 76), none, .inl (.load false 1 (.t 75))⟩, [], false⟩,
                   ⟨9, ⟨(some 77), none, .inr (.call 58 [(.t 71), (.t 76)])⟩, [], false⟩,
                   ⟨10, ⟨(some 78), none, .inl (.un .not (.t 77))⟩, [], false⟩])
                (.keep [0, 1, 2, 7, 8, 9, 78]))
                (.cond (.t 78)
                  (.exit 4)
                  (.skip)))
                (.seq (.ord [⟨0, ⟨(some 79), none, .inl (.mv (.t 0))⟩, [], false⟩,
                    ⟨1, ⟨(some 80), none, .inl (.mv (.t 9))⟩, [], false⟩,
                    ⟨2, ⟨(some 81), none, .inl (.mv (.t 0))⟩, [], true⟩,
                    ⟨3, ⟨(some 82), none, .inl (.mv (.t 9))⟩, [], true⟩,
                    ⟨4, ⟨(some 83), none, .inl (.bin .sub (.t 82) (.c (.int .i64 1)))⟩, [], true⟩,
                    ⟨5, ⟨(some 84), none, .inl (.mv (.t 0))⟩, [], false⟩,
                    ⟨6, ⟨(some 85), none, .inl (.mv (.t 9))⟩, [], false⟩,
                    ⟨7, ⟨(some 86), none, .inl (.bin .sub (.t 85) (.c (.int .i64 1)))⟩, [], false⟩,
                    ⟨8, ⟨(some 87), none, .inl (.iaddr 1 (.t 84) (.t 86))⟩, [], false⟩,
                    ⟨9, ⟨(some 88), none, .inl (.load false 1 (.t 87))⟩, [], false⟩,
                    ⟨10, ⟨(some 89), none, .inl (.mv (.t 0))⟩, [], false⟩,
                    ⟨11, ⟨(some 90), none, .inl (.mv (.t 9))⟩, [], false⟩,
                    ⟨12, ⟨(some 91), none, .inl (.iaddr 1 (.t 89) (.t 90))⟩, [], false⟩,
                    ⟨13, ⟨(some 92), none, .inl (.load false 1 (.t 91))⟩, [], false⟩,
                    ⟨14, ⟨(some 93), none, .inl (.iaddr 1 (.t 79) (.t 80))⟩, [], false⟩,
                    ⟨15, ⟨none, none, .inr (.store 1 (.t 93) (.t 88))⟩, [2, 3, 4], false⟩,
                    ⟨16, ⟨(some 94), none, .inl (.iaddr 1 (.t 81) (.t 83))⟩, [], false⟩,
                    ⟨17, ⟨none, none, .inr (.store 1 (.t 94) (.t 92))⟩, [], false⟩])
                 (.keep [0, 1, 2, 7, 8, 9]))))
                (.seq (.reg [⟨(some 66), none, .inl (.mv (.t 9))⟩,
                    ⟨(some 67), none, .inl (.bin .sub (.t 66) (.c (.int .i64 1)))⟩,
                    ⟨(some 9), none, .inl (.mv (.t 67))⟩])
                 (.keep [0, 1, 2, 7, 8, 9])))))))
             (.skip)))
           (.seq (.seq (.reg [⟨(some 95), none, .inl (.mv (.t 2))⟩,
               ⟨(some 96), none, .inl (.mv (.t 7))⟩,
               ⟨(some 97), none, .inl (.bin .sub (.t 95) (.t 96))⟩,
               ⟨(some 98), none, .inl (.bin .geq (.t 97) (.c (.int .i64 2)))⟩])
            (.keep [0, 1, 2, 7, 8, 98]))
            (.cond (.t 98)
              (.seq (.seq (.reg [⟨(some 99), none, .inl (.mv (.t 7))⟩,
                  ⟨(some 100), none, .inl (.bin .add (.t 99) (.c (.int .i64 1)))⟩,
                  ⟨(some 10), none, .inl (.mv (.t 100))⟩])
               (.keep [0, 1, 2, 7, 8, 10]))
               (.block 6 (.loop [0, 1, 2, 7, 8, 10] (.seq (.seq (.seq (.reg [⟨(some 101), none, .inl (.mv (.t 10))⟩,
                   ⟨(some 102), none, .inl (.mv (.t 2))⟩,
                   ⟨(some 103), none, .inl (.bin .lss (.t 101) (.t 102))⟩])
                (.keep [0, 1, 2, 7, 8, 10, 103]))
                (.cond (.t 103)
                  (.skip)
                  (.exit 6)))
                (.seq (.block 7 (.seq (.seq (.seq (.ord [⟨0, ⟨(some 106), none, .inl (.mv (.t 0))⟩, [], false⟩,
                    ⟨1, ⟨(some 107), none, .inl (.mv (.t 10))⟩, [], false⟩,
                    ⟨2, ⟨(some 108), none, .inl (.iaddr 1 (.t 106) (.t 107))⟩, [], false⟩,
                    ⟨3, ⟨(some 109), none, .inl (.load false 1 (.t 108))⟩, [], false⟩,
                    ⟨4, ⟨(some 110), none, .inl (.mv (.t 0))⟩, [], false⟩,
                    ⟨5, ⟨(some 111), none, .inl (.mv (.t 10))⟩, [], false⟩,
                    ⟨6, ⟨(some 112), none, .inl (.bin .sub (.t 111) (.c (.int .i64 1)))⟩, [], false⟩,
                    ⟨7, ⟨(some 113), none, .inl (.iaddr 1 (.t 110) (.t 112))⟩, [], false⟩,
                    ⟨8, ⟨(some 114), none, .inl (.load false 1 (.t 113))⟩, [], false⟩,
                    ⟨9, ⟨(some 115), none, .inr (.call 58 [(.t 109), (.t 114)])⟩, [], false⟩,
                    ⟨10, ⟨(some 116), none, .inl (.un .not (.t 115))⟩, [], false⟩])
                 (.keep [0, 1, 2, 7, 8, 10, 116]))
                 (.cond (.t 116)
                   (.exit 6)
                   (.skip)))
                 (.seq (.ord [⟨0, ⟨(some 117), none, .inl (.mv (.t 0))⟩, [], false⟩,
                     ⟨1, ⟨(some 118), none, .inl (.mv (.t 10))⟩, [], false⟩,
                     ⟨2, ⟨(some 119), none, .inl (.mv (.t 0))⟩, [], true⟩,
                     ⟨3, ⟨(some 120), none, .inl (.mv (.t 10))⟩, [], true⟩,
                     ⟨4, ⟨(some 121), none, .inl (.bin .sub (.t 120) (.c (.int .i64 1)))⟩, [], true⟩,
                     ⟨5, ⟨(some 122), none, .inl (.mv (.t 0))⟩, [], false⟩,
                     ⟨6, ⟨(some 123), none, .inl (.mv (.t 10))⟩, [], false⟩,
                     ⟨7, ⟨(some 124), none, .inl (.bin .sub (.t 123) (.c (.int .i64 1)))⟩, [], false⟩,
                     ⟨8, ⟨(some 125), none, .inl (.iaddr 1 (.t 122) (.t 124))⟩, [], false⟩,
                     ⟨9, ⟨(some 126), none, .inl (.load false 1 (.t 125))⟩, [], false⟩,
                     ⟨10, ⟨(some 127), none, .inl (.mv (.t 0))⟩, [], false⟩,
                     ⟨11, ⟨(some 128), none, .inl (.mv (.t 10))⟩, [], false⟩,
                     ⟨12, ⟨(some 129), none, .inl (.iaddr 1 (.t 127) (.t 128))⟩, [], false⟩,
                     ⟨13, ⟨(some 130), none, .inl (.load false 1 (.t 129))⟩, [], false⟩,
                     ⟨14, ⟨(some 131), none, .inl (.iaddr 1 (.t 117) (.t 118))⟩, [], false⟩,
                     ⟨15, ⟨none, none, .inr (.store 1 (.t 131) (.t 126))⟩, [2, 3, 4], false⟩,
                     ⟨16, ⟨(some 132), none, .inl (.iaddr 1 (.t 119) (.t 121))⟩, [], false⟩,
                     ⟨17, ⟨none, none, .inr (.store 1 (.t 132) (.t 130))⟩, [], false⟩])
                  (.keep [0, 1, 2, 7, 8, 10]))))
                 (.seq (.reg [⟨(some 104), none, .inl (.mv (.t 10))⟩,
                     ⟨(some 105), none, .inl (.bin .add (.t 104) (.c (.int .i64 1)))⟩,
                     ⟨(some 10), none, .inl (.mv (.t 105))⟩])
                  (.keep [0, 1, 2, 7, 8, 10])))))))
              (.skip)))))))))
       (.seq (.reg [⟨(some 15), none, .inl (.mv (.t 8))⟩,
           ⟨(some 16), none, .inl (.bin .add (.t 15) (.c (.int .i64 1)))⟩,
           ⟨(some 8), none, .inl (.mv (.t 16))⟩])
        (.keep [0, 1, 2, 7, 8])))))))
     (.seq (.seq (.reg [⟨(some 6), none, .inl (.mv (.c (.bool false)))⟩])
      (.keep [6]))
      (.ret))))
def fc_slices_partialInsertionSortOrdered : FC := ⟨133, cmd_slices_partialInsertionSortOrdered, [.t 6]⟩
theorem fc_slices_partialInsertionSortOrdered_ok : compF Try.prog 57 [[0, 1, 2], [0, 1, 2, 7], [0, 1, 2, 7, 8], [0, 1, 2, 7, 8], [0, 1, 2, 7, 8, 14], [0, 1, 2, 7, 8], [0, 1, 2, 7, 8, 32], [0, 1, 2, 3, 4, 5, 6, 7, 8, 9, 10, 11, 12, 13, 14, 15], [0, 1, 2, 7, 8], [0, 1, 2, 7, 8, 37], [6], [0, 1, 2, 7, 8, 41], [6], [0, 1, 2, 7, 8], [0, 1, 2, 3, 4, 5, 6, 7, 8, 9, 10, 11, 12, 13, 14, 15, 16, 17], [0, 1, 2, 7, 8, 61], [0, 1, 2, 7, 8, 9], [0, 1, 2, 7, 8, 9], [0, 1, 2, 7, 8, 9, 65], [0, 1, 2, 7, 8, 9, 78], [0, 1, 2, 3, 4, 5, 6, 7, 8, 9, 10], [0, 1, 2, 7, 8, 9], [0, 1, 2, 3, 4, 5, 6, 7, 8, 9, 10, 11, 12, 13, 14, 15, 16, 17], [0, 1, 2, 7, 8, 9], [0, 1, 2, 7, 8, 98], [0, 1, 2, 7, 8, 10], [0, 1, 2, 7, 8, 10], [0, 1, 2, 7, 8, 10, 103], [0, 1, 2, 7, 8, 10, 116], [0, 1, 2, 3, 4, 5, 6, 7, 8, 9, 10], [0, 1, 2, 7, 8, 10], [0, 1, 2, 3, 4, 5, 6, 7, 8, 9, 10, 11, 12, 13, 14, 15, 16, 17], [0, 1, 2, 7, 8, 10], [0, 1, 2, 7, 8], [6]] = some fc_slices_partialInsertionSortOrdered := by kernel_rfl
/-- cmp.Less[int] -/
abbrev F.cmp_Less : Nat := 58
def cmd_cmp_Less : Cmd :=
  .seq (.seq (.reg [⟨(some 4), none, .inl (.mv (.c (.bool false)))⟩])
   (.keep [0, 1]))
   (.seq (.seq (.reg [⟨(some 5), none, .inl (.mv (.t 0))⟩,
       ⟨(some 6), none, .inr (.call 68 [(.t 5)])⟩,
       ⟨(some 7), none, .inl (.mv (.t 6))⟩,
       ⟨(some 8), (some (7, true)), .inl (.mv (.t 1))⟩,
       ⟨(some 9), (some (7, true)), .inr (.call 68 [(.t 8)])⟩,
       ⟨(some 10), (some (7, true)), .inl (.un .not (.t 9))⟩,
       ⟨(some 11), none, .inl (.pick (.t 7) (.t 10) (.c (.bool false)))⟩,
       ⟨(some 12), none, .inl (.mv (.t 11))⟩,
       ⟨(some 13), (some (12, false)), .inl (.mv (.t 0))⟩,
       ⟨(some 14), (some (12, false)), .inl (.mv (.t 1))⟩,
       ⟨(some 15), (some (12, false)), .inl (.bin .lss (.t 13) (.t 14))⟩,
       ⟨(some 16), none, .inl (.pick (.t 12) (.c (.bool true)) (.t 15))⟩,
       ⟨(some 4), none, .inl (.mv (.t 16))⟩])
    (.keep [4]))
    (.ret))
def fc_cmp_Less : FC := ⟨17, cmd_cmp_Less, [.t 4]⟩
theorem fc_cmp_Less_ok : compF Try.prog 58 [[0, 1], [4]] = some fc_cmp_Less := by kernel_rfl
/-- slices.partitionEqualOrdered[int] -/
abbrev F.slices_partitionEqualOrdered : Nat := 59
def cmd_slices_partitionEqualOrdered : Cmd :=
  .seq (.seq (.reg [⟨(some 8), none, .inl (.mv (.c (.int .i64 0)))⟩])
   (.keep [0, 1, 2, 3]))
   (.seq (.seq (.ord [⟨0, ⟨(some 11), none, .inl (.mv (.t 0))⟩, [], false⟩,
       ⟨1, ⟨(some 12), none, .inl (.mv (.t 1))⟩, [], false⟩,
       ⟨2, ⟨(some 13), none, .inl (.mv (.t 0))⟩, [], true⟩,
       ⟨3, ⟨(some 14), none, .inl (.mv (.t 3))⟩, [], true⟩,
       ⟨4, ⟨(some 15), none, .inl (.mv (.t 0))⟩, [], false⟩,
       ⟨5, ⟨(some 16), none, .inl (.mv (.t 3))⟩, [], false⟩,
       ⟨6, ⟨(some 17), none, .inl (.iaddr 1 (.t 15) (.t 16))⟩, [], false⟩,
       ⟨7, ⟨(some 18), none, .inl (.load false 1 (.t 17))⟩, [], false⟩,
       ⟨8, ⟨(some 19), none, .inl (.mv (.t 0))⟩, [], false⟩,
       ⟨9, ⟨(some 20), none, .inl (.mv (.t 1))⟩, [], false⟩,
       ⟨10, ⟨(some 21), none, .inl (.iaddr 1 (.t 19) (.t 20))⟩, [], false⟩,
       ⟨11, ⟨(some 22), none, .inl (.load false 1 (.t 21))⟩, [], false⟩,
       ⟨12, ⟨(some 23), none, .inl (.iaddr 1 (.t 11) (.t 12))⟩, [], false⟩,
       ⟨13, ⟨none, none, .inr (.store 1 (.t 23) (.t 18))⟩, [2, 3], false⟩,
       ⟨14, ⟨(some 24), none, .inl (.iaddr 1 (.t 13) (.t 14))⟩, [], false⟩,
       ⟨15, ⟨none, none, .inr (.store 1 (.t 24) (.t 22))⟩, [], false⟩])
    (.keep [0, 1, 2]))
    (.seq (.seq (.reg [⟨(some 25), none, .inl (.mv (.t 1))⟩,
        ⟨(some 26), none, .inl (.bin .add (.t 25) (.c (.int .i64 1)))⟩,
        ⟨(some 27), none, .inl (.mv (.t 2))⟩,
        ⟨(some 28), none, .inl (.bin .sub (.t 27) (.c (.int .i64 1)))⟩,
        ⟨(some 9), none, .inl (.mv (.t 26))⟩,
        ⟨(some 10), none, .inl (.mv (.t 28))⟩])
     (.keep [0, 1, 9, 10]))
     (.seq (.block 0 (.loop [0, 1, 9, 10] (.block 1 (.seq (.block 2 (.loop [0, 1, 9, 10] (.seq (.seq (.seq (.ord [⟨0, ⟨(some 29), none, .inl (.mv (.t 9))⟩, [], false⟩,
         ⟨1, ⟨(some 30), none, .inl (.mv (.t 10))⟩, [], false⟩,
         ⟨2, ⟨(some 31), none, .inl (.bin .leq (.t 29) (.t 30))⟩, [], false⟩,
         ⟨3, ⟨(some 32), none, .inl (.mv (.t 31))⟩, [], false⟩,
         ⟨4, ⟨(some 33), (some (32, true)), .inl (.mv (.t 0))⟩, [], false⟩,
         ⟨5, ⟨(some 34), (some (32, true)), .inl (.mv (.t 1))⟩, [], false⟩,
         ⟨6, ⟨(some 35), (some (32, true)), .inl (.iaddr 1 (.t 33) (.t 34))⟩, [], false⟩,
         ⟨7, ⟨(some 36), (some (32, true)), .inl (.load false 1 (.t 35))⟩, [], false⟩,
         ⟨8, ⟨(some 37), (some (32, true)), .inl (.mv (.t 0))⟩, [], false⟩,
         ⟨9, ⟨(some 38), (some (32, true)), .inl (.mv (.t 9))⟩, [], false⟩,
         ⟨10, ⟨(some 39), (some (32, true)), .inl (.iaddr 1 (.t 37) (.t 38))⟩, [], false⟩,
         ⟨11, ⟨(some 40), (some (32, true)), .inl (.load false 1 (.t 39))⟩, [], false⟩,
         ⟨12, ⟨(some 41), (some (32, true)), .inr (.call 58 [(.t 36), (.t 40)])⟩, [], false⟩,
         ⟨13, ⟨(some 42), (some (32, true)), .inl (.un .not (.t 41))⟩, [], false⟩,
         ⟨14, ⟨(some 43), none, .inl (.pick (.t 32) (.t 42) (.c (.bool false)))⟩, [], false⟩])
      (.keep [0, 1, 9, 10, 43]))
      (.cond (.t 43)
        (.skip)
        (.exit 2)))
      (.block 3 (.seq (.reg [⟨(some 44), none, .inl (.mv (.t 9))⟩,
          ⟨(some 45), none, .inl (.bin .add (.t 44) (.c (.int .i64 1)))⟩,
          ⟨(some 9), none, .inl (.mv (.t 45))⟩])
       (.keep [0, 1, 9, 10]))))))
      (.seq (.block 4 (.loop [0, 1, 9, 10] (.seq (.seq (.seq (.ord [⟨0, ⟨(some 46), none, .inl (.mv (.t 9))⟩, [], false⟩,
          ⟨1, ⟨(some 47), none, .inl (.mv (.t 10))⟩, [], false⟩,
          ⟨2, ⟨(some 48), none, .inl (.bin .leq (.t 46) (.t 47))⟩, [], false⟩,
          ⟨3, ⟨(some 49), none, .inl (.mv (.t 48))⟩, [], false⟩,
          ⟨4, ⟨(some 50), (some (49, true)), .inl (.mv (.t 0))⟩, [], false⟩,
          ⟨5, ⟨(some 51), (some (49, true)), .inl (.mv (.t 1))⟩, [], false⟩,
          ⟨6, ⟨(some 52), (some (49, true)), .inl (.iaddr 1 (.t 50) (.t 51))⟩, [], false⟩,
          ⟨7, ⟨(some 53), (some (49, true)), .inl (.load false 1 (.t 52))⟩, [], false⟩,
          ⟨8, ⟨(some 54), (some (49, true)), .inl (.mv (.t 0))⟩, [], false⟩,
          ⟨9, ⟨(some 55), (some (49, true)), .inl (.mv (.t 10))⟩, [], false⟩,
          ⟨10, ⟨(some 56), (some (49, true)), .inl (.iaddr 1 (.t 54) (.t 55))⟩, [], false⟩,
          ⟨11, ⟨(some 57), (some (49, true)), .inl (.load false 1 (.t 56))⟩, [], false⟩,
          ⟨12, ⟨(some 58), (some (49, true)), .inr (.call 58 [(.t 53), (.t 57)])⟩, [], false⟩,
          ⟨13, ⟨(some 59), none, .inl (.pick (.t 49) (.t 58) (.c (.bool false)))⟩, [], false⟩])
       (.keep [0, 1, 9, 10, 59]))
       (.cond (.t 59)
         (.skip)
         (.exit 4)))
       (.block 5 (.seq (.reg [⟨(some 60), none, .inl (.mv (.t 10))⟩,
           ⟨(some 61), none, .inl (.bin .sub (.t 60) (.c (.int .i64 1)))⟩,
           ⟨(some 10), none, .inl (.mv (.t 61))⟩])
        (.keep [0, 1, 9, 10]))))))
       (.seq (.seq (.seq (.reg [⟨(some 62), none, .inl (.mv (.t 9))⟩,
           ⟨(some 63), none, .inl (.mv (.t 10))⟩,
           ⟨(some 64), none, .inl (.bin .gtr (.t 62) (.t 63))⟩])
        (.keep [0, 1, 9, 10, 64]))
        (.cond (.t 64)
          (.exit 0)
          (.skip)))
        (.seq (.seq (.ord [⟨0, ⟨(some 65), none, .inl (.mv (.t 0))⟩, [], false⟩,
            ⟨1, ⟨(some 66), none, .inl (.mv (.t 9))⟩, [], false⟩,
            ⟨2, ⟨(some 67), none, .inl (.mv (.t 0))⟩, [], true⟩,
            ⟨3, ⟨(some 68), none, .inl (.mv (.t 10))⟩, [], true⟩,
            ⟨4, ⟨(some 69), none, .inl (.mv (.t 0))⟩, [], false⟩,
            ⟨5, ⟨(some 70), none, .inl (.mv (.t 10))⟩, [], false⟩,
            ⟨6, ⟨(some 71), none, .inl (.iaddr 1 (.t 69) (.t 70))⟩, [], false⟩,
            ⟨7, ⟨(some 72), none, .inl (.load false 1 (.t 71))⟩, [], false⟩,
            ⟨8, ⟨(some 73), none, .inl (.mv (.t 0))⟩, [], false⟩,
            ⟨9, ⟨(some 74), none, .inl (.mv (.t 9))⟩, [], false⟩,
            ⟨10, ⟨(some 75), none, .inl (.iaddr 1 (.t 73) (.t 74))⟩, [], false⟩,
            ⟨11, ⟨(some 76), none, .inl (.load false 1 (.t 75))⟩, [], false⟩,
            ⟨12, ⟨(some 77), none, .inl (.iaddr 1 (.t 65) (.t 66))⟩, [], false⟩,
            ⟨13, ⟨none, none, .inr (.store 1 (.t 77) (.t 72))⟩, [2, 3], false⟩,
            ⟨14, ⟨(some 78), none, .inl (.iaddr 1 (.t 67) (.t 68))⟩, [], false⟩,
            ⟨15, ⟨none, none, .inr (.store 1 (.t 78) (.t 76))⟩, [], false⟩])
         (.keep [0, 1, 9, 10]))
         (.seq (.seq (.reg [⟨(some 79), none, .inl (.mv (.t 9))⟩,
             ⟨(some 80), none, .inl (.bin .add (.t 79) (.c (.int .i64 1)))⟩,
             ⟨(some 9), none, .inl (.mv (.t 80))⟩])
          (.keep [0, 1, 9, 10]))
          (.seq (.reg [⟨(some 81), none, .inl (.mv (.t 10))⟩,
              ⟨(some 82), none, .inl (.bin .sub (.t 81) (.c (.int .i64 1)))⟩,
              ⟨(some 10), none, .inl (.mv (.t 82))⟩])
           (.keep [0, 1, 9, 10]))))))))))
      (.seq (.seq (.reg [⟨(some 83), none, .inl (.mv (.t 9))⟩,
          ⟨(some 8), none, .inl (.mv (.t 83))⟩])
       (.keep [8]))
       (.ret)))))
def fc_slices_partitionEqualOrdered : FC := ⟨84, cmd_slices_partitionEqualOrdered, [.t 8]⟩
theorem fc_slices_partitionEqualOrdered_ok : compF Try.prog 59 [[0, 1, 2, 3], [0, 1, 2], [0, 1, 2, 3, 4, 5, 6, 7, 8, 9, 10, 11, 12, 13, 14, 15], [0, 1, 9, 10], [0, 1, 9, 10], [0, 1, 9, 10], [0, 1, 9, 10, 43], [0, 1, 2, 3, 4, 5, 6, 7, 8, 9, 10, 11, 12, 13, 14], [0, 1, 9, 10], [0, 1, 9, 10], [0, 1, 9, 10, 59], [0, 1, 2, 3, 4, 5, 6, 7, 8, 9, 10, 11, 12, 13], [0, 1, 9, 10], [0, 1, 9, 10, 64], [0, 1, 9, 10], [0, 1, 2, 3, 4, 5, 6, 7, 8, 9, 10, 11, 12, 13, 14, 15], [0, 1, 9, 10], [0, 1, 9, 10], [8]] = some fc_slices_partitionEqualOrdered := by kernel_rfl
/-- slices.partitionOrdered[int] -/
abbrev F.slices_partitionOrdered : Nat := 60
def cmd_slices_partitionOrdered : Cmd :=
  .seq (.seq (.reg [⟨(some 8), none, .inl (.mv (.c (.int .i64 0)))⟩,
      ⟨(some 9), none, .inl (.mv (.c (.bool false)))⟩])
   (.keep [0, 1, 2, 3]))
   (.seq (.seq (.ord [⟨0, ⟨(some 12), none, .inl (.mv (.t 0))⟩, [], false⟩,
       ⟨1, ⟨(some 13), none, .inl (.mv (.t 1))⟩, [], false⟩,
       ⟨2, ⟨(some 14), none, .inl (.mv (.t 0))⟩, [], true⟩,
       ⟨3, ⟨(some 15), none, .inl (.mv (.t 3))⟩, [], true⟩,
       ⟨4, ⟨(some 16), none, .inl (.mv (.t 0))⟩, [], false⟩,
       ⟨5, ⟨(some 17), none, .inl (.mv (.t 3))⟩, [], false⟩,
       ⟨6, ⟨(some 18), none, .inl (.iaddr 1 (.t 16) (.t 17))⟩, [], false⟩,
       ⟨7, ⟨(some 19), none, .inl (.load false 1 (.t 18))⟩, [], false⟩,
       ⟨8, ⟨(some 20), none, .inl (.mv (.t 0))⟩, [], false⟩,
       ⟨9, ⟨(some 21), none, .inl (.mv (.t 1))⟩, [], false⟩,
       ⟨10, ⟨(some 22), none, .inl (.iaddr 1 (.t 20) (.t 21))⟩, [], false⟩,
       ⟨11, ⟨(some 23), none, .inl (.load false 1 (.t 22))⟩, [], false⟩,
       ⟨12, ⟨(some 24), none, .inl (.iaddr 1 (.t 12) (.t 13))⟩, [], false⟩,
       ⟨13, ⟨none, none, .inr (.store 1 (.t 24) (.t 19))⟩, [2, 3], false⟩,
       ⟨14, ⟨(some 25), none, .inl (.iaddr 1 (.t 14) (.t 15))⟩, [], false⟩,
       ⟨15, ⟨none, none, .inr (.store 1 (.t 25) (.t 23))⟩, [], false⟩])
    (.keep [0, 1, 2]))
    (.seq (.seq (.reg [⟨(some 26), none, .inl (.mv (.t 1))⟩,
        ⟨(some 27), none, .inl (.bin .add (.t 26) (.c (.int .i64 1)))⟩,
        ⟨(some 28), none, .inl (.mv (.t 2))⟩,
        ⟨(some 29), none, .inl (.bin .sub (.t 28) (.c (.int .i64 1)))⟩,
        ⟨(some 10), none, .inl (.mv (.t 27))⟩,
        ⟨(some 11), none, .inl (.mv (.t 29))⟩])
     (.keep [0, 1, 10, 11]))
     (.seq (.block 0 (.loop [0, 1, 10, 11] (.seq (.seq (.seq (.ord [⟨0, ⟨(some 30), none, .inl (.mv (.t 10))⟩, [], false⟩,
         ⟨1, ⟨(some 31), none, .inl (.mv (.t 11))⟩, [], false⟩,
         ⟨2, ⟨(some 32), none, .inl (.bin .leq (.t 30) (.t 31))⟩, [], false⟩,
         ⟨3, ⟨(some 33), none, .inl (.mv (.t 32))⟩, [], false⟩,
         ⟨4, ⟨(some 34), (some (33, true)), .inl (.mv (.t 0))⟩, [], false⟩,
         ⟨5, ⟨(some 35), (some (33, true)), .inl (.mv (.t 10))⟩, [], false⟩,
         ⟨6, ⟨(some 36), (some (33, true)), .inl (.iaddr 1 (.t 34) (.t 35))⟩, [], false⟩,
         ⟨7, ⟨(some 37), (some (33, true)), .inl (.load false 1 (.t 36))⟩, [], false⟩,
         ⟨8, ⟨(some 38), (some (33, true)), .inl (.mv (.t 0))⟩, [], false⟩,
         ⟨9, ⟨(some 39), (some (33, true)), .inl (.mv (.t 1))⟩, [], false⟩,
         ⟨10, ⟨(some 40), (some (33, true)), .inl (.iaddr 1 (.t 38) (.t 39))⟩, [], false⟩,
         ⟨11, ⟨(some 41), (some (33, true)), .inl (.load false 1 (.t 40))⟩, [], false⟩,
         ⟨12, ⟨(some 42), (some (33, true)), .inr (.call 58 [(.t 37), (.t 41)])⟩, [], false⟩,
         ⟨13, ⟨(some 43), none, .inl (.pick (.t 33) (.t 42) (.c (.bool false)))⟩, [], false⟩])
      (.keep [0, 1, 10, 11, 43]))
      (.cond (.t 43)
        (.skip)
        (.exit 0)))
      (.block 1 (.seq (.reg [⟨(some 44), none, .inl (.mv (.t 10))⟩,
          ⟨(some 45), none, .inl (.bin .add (.t 44) (.c (.int .i64 1)))⟩,
          ⟨(some 10), none, .inl (.mv (.t 45))⟩])
       (.keep [0, 1, 10, 11]))))))
      (.seq (.block 2 (.loop [0, 1, 10, 11] (.seq (.seq (.seq (.ord [⟨0, ⟨(some 46), none, .inl (.mv (.t 10))⟩, [], false⟩,
          ⟨1, ⟨(some 47), none, .inl (.mv (.t 11))⟩, [], false⟩,
          ⟨2, ⟨(some 48), none, .inl (.bin .leq (.t 46) (.t 47))⟩, [], false⟩,
          ⟨3, ⟨(some 49), none, .inl (.mv (.t 48))⟩, [], false⟩,
          ⟨4, ⟨(some 50), (some (49, true)), .inl (.mv (.t 0))⟩, [], false⟩,
          ⟨5, ⟨(some 51), (some (49, true)), .inl (.mv (.t 11))⟩, [], false⟩,
          ⟨6, ⟨(some 52), (some (49, true)), .inl (.iaddr 1 (.t 50) (.t 51))⟩, [], false⟩,
          ⟨7, ⟨(some 53), (some (49, true)), .inl (.load false 1 (.t 52))⟩, [], false⟩,
          ⟨8, ⟨(some 54), (some (49, true)), .inl (.mv (.t 0))⟩, [], false⟩,
          ⟨9, ⟨(some 55), (some (49, true)), .inl (.mv (.t 1))⟩, [], false⟩,
          ⟨10, ⟨(some 56), (some (49, true)), .inl (.iaddr 1 (.t 54) (.t 55))⟩, [], false⟩,
          ⟨11, ⟨(some 57), (some (49, true)), .inl (.load false 1 (.t 56))⟩, [], false⟩,
          ⟨12, ⟨(some 58), (some (49, true)), .inr (.call 58 [(.t 53), (.t 57)])⟩, [], false⟩,
          ⟨13, ⟨(some 59), (some (49, true)), .inl (.un .not (.t 58))⟩, [], false⟩,
          ⟨14, ⟨(some 60), none, .inl (.pick (.t 49) (.t 59) (.c (.bool false)))⟩, [], false⟩])
       (.keep [0, 1, 10, 11, 60]))
       (.cond (.t 60)
         (.skip)
         (.exit 2)))
       (.block 3 (.seq (.reg [⟨(some 61), none, .inl (.mv (.t 11))⟩,
           ⟨(some 62), none, .inl (.bin .sub (.t 61) (.c (.int .i64 1)))⟩,
           ⟨(some 11), none, .inl (.mv (.t 62))⟩])
        (.keep [0, 1, 10, 11]))))))
       (.seq (.seq (.seq (.reg [⟨(some 63), none, .inl (.mv (.t 10))⟩,
           ⟨(some 64), none, .inl (.mv (.t 11))⟩,
           ⟨(some 65), none, .inl (.bin .gtr (.t 63) (.t 64))⟩])
        (.keep [0, 1, 10, 11, 65]))
        (.cond (.t 65)
          (.seq (.seq (.ord [⟨0, ⟨(some 66), none, .inl (.mv (.t 0))⟩, [], false⟩,
              ⟨1, ⟨(some 67), none, .inl (.mv (.t 11))⟩, [], false⟩,
              ⟨2, ⟨(some 68), none, .inl (.mv (.t 0))⟩, [], true⟩,
              ⟨3, ⟨(some 69), none, .inl (.mv (.t 1))⟩, [], true⟩,
              ⟨4, ⟨(some 70), none, .inl (.mv (.t 0))⟩, [], false⟩,
              ⟨5, ⟨(some 71), none, .inl (.mv (.t 1))⟩, [], false⟩,
              ⟨6, ⟨(some 72), none, .inl (.iaddr 1 (.t 70) (.t 71))⟩, [], false⟩,
              ⟨7, ⟨(some 73), none, .inl (.load false 1 (.t 72))⟩, [], false⟩,
              ⟨8, ⟨(some 74), none, .inl (.mv (.t 0))⟩, [], false⟩,
              ⟨9, ⟨(some 75), none, .inl (.mv (.t 11))⟩, [], false⟩,
              ⟨10, ⟨(some 76), none, .inl (.iaddr 1 (.t 74) (.t 75))⟩, [], false⟩,
              ⟨11, ⟨(some 77), none, .inl (.load false 1 (.t 76))⟩, [], false⟩,
              ⟨12, ⟨(some 78), none, .inl (.iaddr 1 (.t 66) (.t 67))⟩, [], false⟩,
              ⟨13, ⟨none, none, .inr (.store 1 (.t 78) (.t 73))⟩, [2, 3], false⟩,
              ⟨14, ⟨(some 79), none, .inl (.iaddr 1 (.t 68) (.t 69))⟩, [], false⟩,
              ⟨15, ⟨none, none, .inr (.store 1 (.t 79) (.t 77))⟩, [], false⟩])
           (.keep [11]))
           (.seq (.seq (.reg [⟨(some 80), none, .inl (.mv (.t 11))⟩,
               ⟨(some 8), none, .inl (.mv (.t 80))⟩,
               ⟨(some 9), none, .inl (.mv (.c (.bool true)))⟩])
            (.keep [8, 9]))
            (.ret)))
          (.skip)))
        (.seq (.seq (.ord [⟨0, ⟨(some 81), none, .inl (.mv (.t 0))⟩, [], false⟩,
            ⟨1, ⟨(some 82), none, .inl (.mv (.t 10))⟩, [], false⟩,
            ⟨2, ⟨(some 83), none, .inl (.mv (.t 0))⟩, [], true⟩,
            ⟨3, ⟨(some 84), none, .inl (.mv (.t 11))⟩, [], true⟩,
            ⟨4, ⟨(some 85), none, .inl (.mv (.t 0))⟩, [], false⟩,
            ⟨5, ⟨(some 86), none, .inl (.mv (.t 11))⟩, [], false⟩,
            ⟨6, ⟨(some 87), none, .inl (.iaddr 1 (.t 85) (.t 86))⟩, [], false⟩,
            ⟨7, ⟨(some 88), none, .inl (.load false 1 (.t 87))⟩, [], false⟩,
            ⟨8, ⟨(some 89), none, .inl (.mv (.t 0))⟩, [], false⟩,
            ⟨9, ⟨(some 90), none, .inl (.mv (.t 10))⟩, [], false⟩,
            ⟨10, ⟨(some 91), none, .inl (.iaddr 1 (.t 89) (.t 90))⟩, [], false⟩,
            ⟨11, ⟨(some 92), none, .inl (.load false 1 (.t 91))⟩, [], false⟩,
            ⟨12, ⟨(some 93), none, .inl (.iaddr 1 (.t 81) (.t 82))⟩, [], false⟩,
            ⟨13, ⟨none, none, .inr (.store 1 (.t 93) (.t 88))⟩, [2, 3], false⟩,
            ⟨14, ⟨(some 94), none, .inl (.iaddr 1 (.t 83) (.t 84))⟩, [], false⟩,
            ⟨15, ⟨none, none, .inr (.store 1 (.t 94) (.t 92))⟩, [], false⟩])
         (.keep [0, 1, 10, 11]))
         (.seq (.seq (.reg [⟨(some 95), none, .inl (.mv (.t 10))⟩,
             ⟨(some 96), none, .inl (.bin .add (.t 95) (.c (.int .i64 1)))⟩,
             ⟨(some 10), none, .inl (.mv (.t 96))⟩])
          (.keep [0, 1, 10, 11]))
          (.seq (.seq (.reg [⟨(some 97), none, .inl (.mv (.t 11))⟩,
              ⟨(some 98), none, .inl (.bin .sub (.t 97) (.c (.int .i64 1)))⟩,
              ⟨(some 11), none, .inl (.mv (.t 98))⟩])
           (.keep [0, 1, 10, 11]))
           (.seq (.block 4 (.loop [0, 1, 10, 11] (.block 5 (.seq (.block 6 (.loop [0, 1, 10, 11] (.seq (.seq (.seq (.ord [⟨0, ⟨(some 99), none, .inl (.mv (.t 10))⟩, [], false⟩,
               ⟨1, ⟨(some 100), none, .inl (.mv (.t 11))⟩, [], false⟩,
               ⟨2, ⟨(some 101), none, .inl (.bin .leq (.t 99) (.t 100))⟩, [], false⟩,
               ⟨3, ⟨(some 102), none, .inl (.mv (.t 101))⟩, [], false⟩,
               ⟨4, ⟨(some 103), (some (102, true)), .inl (.mv (.t 0))⟩, [], false⟩,
               ⟨5, ⟨(some 104), (some (102, true)), .inl (.mv (.t 10))⟩, [], false⟩,
               ⟨6, ⟨(some 105), (some (102, true)), .inl (.iaddr 1 (.t 103) (.t 104))⟩, [], false⟩,
               ⟨7, ⟨(some 106), (some (102, true)), .inl (.load false 1 (.t 105))⟩, [], false⟩,
               ⟨8, ⟨(some 107), (some (102, true)), .inl (.mv (.t 0))⟩, [], false⟩,
               ⟨9, ⟨(some 108), (some (102, true)), .inl (.mv (.t 1))⟩, [], false⟩,
               ⟨10, ⟨(some 109), (some (102, true)), .inl (.iaddr 1 (.t 107) (.t 108))⟩, [], false⟩,
               ⟨11, ⟨(some 110), (some (102, true)), .inl (.load false 1 (.t 109))⟩, [], false⟩,
               ⟨12, ⟨(some 111), (some (102, true)), .inr (.call 58 [(.t 106), (.t 110)])⟩, [], false⟩,
               ⟨13, ⟨(some 112), none, .inl (.pick (.t 102) (.t 111) (.c (.bool false)))⟩, [], false⟩])
            (.keep [0, 1, 10, 11, 112]))
            (.cond (.t 112)
              (.skip)
              (.exit 6)))
            (.block 7 (.seq (.reg [⟨(some 113), none, .inl (.mv (.t 10))⟩,
                ⟨(some 114), none, .inl (.bin .add (.t 113) (.c (.int .i64 1)))⟩,
                ⟨(some 10), none, .inl (.mv (.t 114))⟩])
             (.keep [0, 1, 10, 11]))))))
            (.seq (.block 8 (.loop [0, 1, 10, 11] (.seq (.seq (.seq (.ord [⟨0, ⟨(some 115), none, .inl (.mv (.t 10))⟩, [], false⟩,
                ⟨1, ⟨(some 116), none, .inl (.mv (.t 11))⟩, [], false⟩,
                ⟨2, ⟨(some 117), none, .inl (.bin .leq (.t 115) (.t 116))⟩, [], false⟩,
                ⟨3, ⟨(some 118), none, .inl (.mv (.t 117))⟩, [], false⟩,
                ⟨4, ⟨(some 119), (some (118, true)), .inl (.mv (.t 0))⟩, [], false⟩,
                ⟨5, ⟨(some 120), (some (118, true)), .inl (.mv (.t 11))⟩, [], false⟩,
                ⟨6, ⟨(some 121), (some (118, true)), .inl (.iaddr 1 (.t 119) (.t 120))⟩, [], false⟩,
                ⟨7, ⟨(some 122), (some (118, true)), .inl (.load false 1 (.t 121))⟩, [], false⟩,
                ⟨8, ⟨(some 123), (some (118, true)), .inl (.mv (.t 0))⟩, [], false⟩,
                ⟨9, ⟨(some 124), (some (118, true)), .inl (.mv (.t 1))⟩, [], false⟩,
                ⟨10, ⟨(some 125), (some (118, true)), .inl (.iaddr 1 (.t 123) (.t 124))⟩, [], false⟩,
                ⟨11, ⟨(some 126), (some (118, true)), .inl (.load false 1 (.t 125))⟩, [], false⟩,
                ⟨12, ⟨(some 127), (some (118, true)), .inr (.call 58 [(.t 122), (.t 126)])⟩, [], false⟩,
                ⟨13, ⟨(some 128), (some (118, true)), .inl (.un .not (.t 127))⟩, [], false⟩,
                ⟨14, ⟨(some 129), none, .inl (.pick (.t 118) (.t 128) (.c (.bool false)))⟩, [], false⟩])
             (.keep [0, 1, 10, 11, 129]))
             (.cond (.t 129)
               (.skip)
               (.exit 8)))
             (.block 9 (.seq (.reg [⟨(some 130), none, .inl (.mv (.t 11))⟩,
                 ⟨(some 131), none, .inl (.bin .sub (.t 130) (.c (.int .i64 1)))⟩,
                 ⟨(some 11), none, .inl (.mv (.t 131))⟩])
              (.keep [0, 1, 10, 11]))))))
             (.seq (.seq (.seq (.reg [⟨(some 132), none, .inl (.mv (.t 10))⟩,
                 ⟨(some 133), none, .inl (.mv (.t 11))⟩,
                 ⟨(some 134), none, .inl (.bin .gtr (.t 132) (.t 133))⟩])
              (.keep [0, 1, 10, 11, 134]))
              (.cond (.t 134)
                (.exit 4)
                (.skip)))
              (.seq (.seq (.ord [⟨0, ⟨(some 135), none, .inl (.mv (.t 0))⟩, [], false⟩,
                  ⟨1, ⟨(some 136), none, .inl (.mv (.t 10))⟩, [], false⟩,
                  ⟨2, ⟨(some 137), none, .inl (.mv (.t 0))⟩, [], true⟩,
                  ⟨3, ⟨(some 138), none, .inl (.mv (.t 11))⟩, [], true⟩,
                  ⟨4, ⟨(some 139), none, .inl (.mv (.t 0))⟩, [], false⟩,
                  ⟨5, ⟨(some 140), none, .inl (.mv (.t 11))⟩, [], false⟩,
                  ⟨6, ⟨(some 141), none, .inl (.iaddr 1 (.t 139) (.t 140))⟩, [], false⟩,
                  ⟨7, ⟨(some 142), none, .inl (.load false 1 (.t 141))⟩, [], false⟩,
                  ⟨8, ⟨(some 143), none, .inl (.mv (.t 0))⟩, [], false⟩,
                  ⟨9, ⟨(some 144), none, .inl (.mv (.t 10))⟩, [], false⟩,
                  ⟨10, ⟨(some 145), none, .inl (.iaddr 1 (.t 143) (.t 144))⟩, [], false⟩,
                  ⟨11, ⟨(some 146), none, .inl (.load false 1 (.t 145))⟩, [], false⟩,
                  ⟨12, ⟨(some 147), none, .inl (.iaddr 1 (.t 135) (.t 136))⟩, [], false⟩,
                  ⟨13, ⟨none, none, .inr (.store 1 (.t 147) (.t 142))⟩, [2, 3], false⟩,
                  ⟨14, ⟨(some 148), none, .inl (.iaddr 1 (.t 137) (.t 138))⟩, [], false⟩,
                  ⟨15, ⟨none, none, .inr (.store 1 (.t 148) (.t 146))⟩, [], false⟩])
               (.keep [0, 1, 10, 11]))
               (.seq (.seq (.reg [⟨(some 149), none, .inl (.mv (.t 10))⟩,
                   ⟨(some 150), none, .inl (.bin .add (.t 149) (.c (.int .i64 1)))⟩,
                   ⟨(some 10), none, .inl (.mv (.t 150))⟩])
                (.keep [0, 1, 10, 11]))
                (.seq (.reg [⟨(some 151), none, .inl (.mv (.t 11))⟩,
                    ⟨(some 152), none, .inl (.bin .sub (.t 151) (.c (.int .i64 1)))⟩,
                    ⟨(some 11), none, .inl (.mv (.t 152))⟩])
                 (.keep [0, 1, 10, 11]))))))))))
            (.seq (.seq (.ord [⟨0, ⟨(some 153), none, .inl (.mv (.t 0))⟩, [], false⟩,
                ⟨1, ⟨(some 154), none, .inl (.mv (.t 11))⟩, [], false⟩,
                ⟨2, ⟨(some 155), none, .inl (.mv (.t 0))⟩, [], true⟩,
                ⟨3, ⟨(some 156), none, .inl (.mv (.t 1))⟩, [], true⟩,
                ⟨4, ⟨(some 157), none, .inl (.mv (.t 0))⟩, [], false⟩,
                ⟨5, ⟨(some 158), none, .inl (.mv (.t 1))⟩, [], false⟩,
                ⟨6, ⟨(some 159), none, .inl (.iaddr 1 (.t 157) (.t 158))⟩, [], false⟩,
                ⟨7, ⟨(some 160), none, .inl (.load false 1 (.t 159))⟩, [], false⟩,
                ⟨8, ⟨(some 161), none, .inl (.mv (.t 0))⟩, [], false⟩,
                ⟨9, ⟨(some 162), none, .inl (.mv (.t 11))⟩, [], false⟩,
                ⟨10, ⟨(some 163), none, .inl (.iaddr 1 (.t 161) (.t 162))⟩, [], false⟩,
                ⟨11, ⟨(some 164), none, .inl (.load false 1 (.t 163))⟩, [], false⟩,
                ⟨12, ⟨(some 165), none, .inl (.iaddr 1 (.t 153) (.t 154))⟩, [], false⟩,
                ⟨13, ⟨none, none, .inr (.store 1 (.t 165) (.t 160))⟩, [2, 3], false⟩,
                ⟨14, ⟨(some 166), none, .inl (.iaddr 1 (.t 155) (.t 156))⟩, [], false⟩,
                ⟨15, ⟨none, none, .inr (.store 1 (.t 166) (.t 164))⟩, [], false⟩])
             (.keep [11]))
             (.seq (.seq (.reg [⟨(some 167), none, .inl (.mv (.t 11))⟩,
                 ⟨(some 8), none, .inl (.mv (.t 167))⟩,
                 ⟨(some 9), none, .inl (.mv (.c (.bool false)))⟩])
              (.keep [8, 9]))
              (.ret))))))))))))
def fc_slices_partitionOrdered : FC := ⟨168, cmd_slices_partitionOrdered, [.t 8, .t 9]⟩
theorem fc_slices_partitionOrdered_ok : compF Try.prog 60 [[0, 1, 2, 3], [0, 1, 2], [0, 1, 2, 3, 4, 5, 6, 7, 8, 9, 10, 11, 12, 13, 14, 15], [0, 1, 10, 11], [0, 1, 10, 11], [0, 1, 10, 11, 43], [0, 1, 2, 3, 4, 5, 6, 7, 8, 9, 10, 11, 12, 13], [0, 1, 10, 11], [0, 1, 10, 11], [0, 1, 10, 11, 60], [0, 1, 2, 3, 4, 5, 6, 7, 8, 9, 10, 11, 12, 13, 14], [0, 1, 10, 11], [0, 1, 10, 11, 65], [11], [0, 1, 2, 3, 4, 5, 6, 7, 8, 9, 10, 11, 12, 13, 14, 15], [8, 9], [0, 1, 10, 11], [0, 1, 2, 3, 4, 5, 6, 7, 8, 9, 10, 11, 12, 13, 14, 15], [0, 1, 10, 11], [0, 1, 10, 11], [0, 1, 10, 11], [0, 1, 10, 11], [0, 1, 10, 11, 112], [0, 1, 2, 3, 4, 5, 6, 7, 8, 9, 10, 11, 12, 13], [0, 1, 10, 11], [0, 1, 10, 11], [0, 1, 10, 11, 129], [0, 1, 2, 3, 4, 5, 6, 7, 8, 9, 10, 11, 12, 13, 14], [0, 1, 10, 11], [0, 1, 10, 11, 134], [0, 1, 10, 11], [0, 1, 2, 3, 4, 5, 6, 7, 8, 9, 10, 11, 12, 13, 14, 15], [0, 1, 10, 11], [0, 1, 10, 11], [11], [0, 1, 2, 3, 4, 5, 6, 7, 8, 9, 10, 11, 12, 13, 14, 15], [8, 9]] = some fc_slices_partitionOrdered := by kernel_rfl
/-- math/bits.Len32 -/
abbrev F.math_bits_Len32 : Nat := 61
def cmd_math_bits_Len32 : Cmd :=
  .seq (.seq (.reg [⟨(some 2), none, .inl (.mv (.c (.int .i64 0)))⟩])
   (.keep [0, 2]))
   (.seq (.seq (.seq (.reg [⟨(some 3), none, .inl (.mv (.t 0))⟩,
       ⟨(some 4), none, .inl (.bin .geq (.t 3) (.c (.int .u32 65536)))⟩])
    (.keep [0, 2, 4]))
    (.cond (.t 4)
      (.seq (.seq (.reg [⟨(some 5), none, .inl (.mv (.t 0))⟩,
          ⟨(some 6), none, .inl (.bin .shr (.t 5) (.c (.int .u64 16)))⟩,
          ⟨(some 0), none, .inl (.mv (.t 6))⟩])
       (.keep [0]))
       (.seq (.reg [⟨(some 2), none, .inl (.mv (.c (.int .i64 16)))⟩])
        (.keep [0, 2])))
      (.skip)))
    (.seq (.seq (.seq (.reg [⟨(some 7), none, .inl (.mv (.t 0))⟩,
        ⟨(some 8), none, .inl (.bin .geq (.t 7) (.c (.int .u32 256)))⟩])
     (.keep [0, 2, 8]))
     (.cond (.t 8)
       (.seq (.seq (.reg [⟨(some 9), none, .inl (.mv (.t 0))⟩,
           ⟨(some 10), none, .inl (.bin .shr (.t 9) (.c (.int .u64 8)))⟩,
           ⟨(some 0), none, .inl (.mv (.t 10))⟩])
        (.keep [0, 2]))
        (.seq (.reg [⟨(some 11), none, .inl (.mv (.t 2))⟩,
            ⟨(some 12), none, .inl (.bin .add (.t 11) (.c (.int .i64 8)))⟩,
            ⟨(some 2), none, .inl (.mv (.t 12))⟩])
         (.keep [0, 2])))
       (.skip)))
     (.seq (.seq (.reg [⟨(some 13), none, .inl (.mv (.t 2))⟩,
         ⟨(some 14), none, .inl (.mv (.t 0))⟩,
         ⟨(some 15), none, .inl (.conv .u8 (.t 14))⟩,
         ⟨(some 16), none, .inl (.idxS (.c (.str [0, 1, 2, 2, 3, 3, 3, 3, 4, 4, 4, 4, 4, 4, 4, 4, 5, 5, 5, 5, 5, 5, 5, 5, 5, 5, 5, 5, 5, 5, 5, 5, 6, 6, 6, 6, 6, 6, 6, 6, 6, 6, 6, 6, 6, 6, 6, 6, 6, 6, 6, 6, 6, 6, 6, 6, 6, 6, 6, 6, 6, 6, 6, 6, 7, 7, 7, 7, 7, 7, 7, 7, 7, 7, 7, 7, 7, 7, 7, 7, 7, 7, 7, 7, 7, 7, 7, 7, 7, 7, 7, 7, 7, 7, 7, 7, 7, 7, 7, 7, 7, 7, 7, 7, 7, 7, 7, 7, 7, 7, 7, 7, 7, 7, 7, 7, 7, 7, 7, 7, 7, 7, 7, 7, 7, 7, 7, 7, 8, 8, 8, 8, 8, 8, 8, 8, 8, 8, 8, 8, 8, 8, 8, 8, 8, 8, 8, 8, 8, 8, 8, 8, 8, 8, 8, 8, 8, 8, 8, 8, 8, 8, 8, 8, 8, 8, 8, 8, 8, 8, 8, 8, 8, 8, 8, 8, 8, 8, 8, 8, 8, 8, 8, 8, 8, 8, 8, 8, 8, 8, 8, 8, 8, 8, 8, 8, 8, 8, 8, 8, 8, 8, 8, 8, 8, 8, 8, 8, 8, 8, 8, 8, 8, 8, 8, 8, 8, 8, 8, 8, 8, 8, 8, 8, 8, 8, 8, 8, 8, 8, 8, 8, 8, 8, 8, 8, 8, 8, 8, 8, 8, 8, 8, 8, 8, 8, 8, 8, 8, 8, 8, 8, 8, 8, 8, 8])) (.t 15))⟩,
         ⟨(some 17), none, .inl (.conv .i64 (.t 16))⟩,
         ⟨(some 18), none, .inl (.bin .add (.t 13) (.t 17))⟩,
         ⟨(some 2), none, .inl (.mv (.t 18))⟩])
      (.keep [2]))
      (.ret))))
def fc_math_bits_Len32 : FC := ⟨19, cmd_math_bits_Len32, [.t 2]⟩
theorem fc_math_bits_Len32_ok : compF Try.prog 61 [[0, 2], [0, 2, 4], [0], [0, 2], [0, 2, 8], [0, 2], [0, 2], [2]] = some fc_math_bits_Len32 := by kernel_rfl
/-- math/bits.Len64 -/
abbrev F.math_bits_Len64 : Nat := 62
def cmd_math_bits_Len64 : Cmd :=
  .seq (.seq (.reg [⟨(some 2), none, .inl (.mv (.c (.int .i64 0)))⟩])
   (.keep [0, 2]))
   (.seq (.seq (.seq (.reg [⟨(some 3), none, .inl (.mv (.t 0))⟩,
       ⟨(some 4), none, .inl (.bin .geq (.t 3) (.c (.int .u64 4294967296)))⟩])
    (.keep [0, 2, 4]))
    (.cond (.t 4)
      (.seq (.seq (.reg [⟨(some 5), none, .inl (.mv (.t 0))⟩,
          ⟨(some 6), none, .inl (.bin .shr (.t 5) (.c (.int .u64 32)))⟩,
          ⟨(some 0), none, .inl (.mv (.t 6))⟩])
       (.keep [0]))
       (.seq (.reg [⟨(some 2), none, .inl (.mv (.c (.int .i64 32)))⟩])
        (.keep [0, 2])))
      (.skip)))
    (.seq (.seq (.seq (.reg [⟨(some 7), none, .inl (.mv (.t 0))⟩,
        ⟨(some 8), none, .inl (.bin .geq (.t 7) (.c (.int .u64 65536)))⟩])
     (.keep [0, 2, 8]))
     (.cond (.t 8)
       (.seq (.seq (.reg [⟨(some 9), none, .inl (.mv (.t 0))⟩,
           ⟨(some 10), none, .inl (.bin .shr (.t 9) (.c (.int .u64 16)))⟩,
           ⟨(some 0), none, .inl (.mv (.t 10))⟩])
        (.keep [0, 2]))
        (.seq (.reg [⟨(some 11), none, .inl (.mv (.t 2))⟩,
            ⟨(some 12), none, .inl (.bin .add (.t 11) (.c (.int .i64 16)))⟩,
            ⟨(some 2), none, .inl (.mv (.t 12))⟩])
         (.keep [0, 2])))
       (.skip)))
     (.seq (.seq (.seq (.reg [⟨(some 13), none, .inl (.mv (.t 0))⟩,
         ⟨(some 14), none, .inl (.bin .geq (.t 13) (.c (.int .u64 256)))⟩])
      (.keep [0, 2, 14]))
      (.cond (.t 14)
        (.seq (.seq (.reg [⟨(some 15), none, .inl (.mv (.t 0))⟩,
            ⟨(some 16), none, .inl (.bin .shr (.t 15) (.c (.int .u64 8)))⟩,
            ⟨(some 0), none, .inl (.mv (.t 16))⟩])
         (.keep [0, 2]))
         (.seq (.reg [⟨(some 17), none, .inl (.mv (.t 2))⟩,
             ⟨(some 18), none, .inl (.bin .add (.t 17) (.c (.int .i64 8)))⟩,
             ⟨(some 2), none, .inl (.mv (.t 18))⟩])
          (.keep [0, 2])))
        (.skip)))
      (.seq (.seq (.reg [⟨(some 19), none, .inl (.mv (.t 2))⟩,
          ⟨(some 20), none, .inl (.mv (.t 0))⟩,
          ⟨(some 21), none, .inl (.conv .u8 (.t 20))⟩,
          ⟨(some 22), none, .inl (.idxS (.c (.str [0, 1, 2, 2, 3, 3, 3, 3, 4, 4, 4, 4, 4, 4, 4, 4, 5, 5, 5, 5, 5, 5, 5, 5, 5, 5, 5, 5, 5, 5, 5, 5, 6, 6, 6, 6, 6, 6, 6, 6, 6, 6, 6, 6, 6, 6, 6, 6, 6, 6, 6, 6, 6, 6, 6, 6, 6, 6, 6, 6, 6, 6, 6, 6, 7, 7, 7, 7, 7, 7, 7, 7, 7, 7, 7, 7, 7, 7, 7, 7, 7, 7, 7, 7, 7, 7, 7, 7, 7, 7, 7, 7, 7, 7, 7, 7, 7, 7, 7, 7, 7, 7, 7, 7, 7, 7, 7, 7, 7, 7, 7, 7, 7, 7, 7, 7, 7, 7, 7, 7, 7, 7, 7, 7, 7, 7, 7, 7, 8, 8, 8, 8, 8, 8, 8, 8, 8, 8, 8, 8, 8, 8, 8, 8, 8, 8, 8, 8, 8, 8, 8, 8, 8, 8, 8, 8, 8, 8, 8, 8, 8, 8, 8, 8, 8, 8, 8, 8, 8, 8, 8, 8, 8, 8, 8, 8, 8, 8, 8, 8, 8, 8, 8, 8, 8, 8, 8, 8, 8, 8, 8, 8, 8, 8, 8, 8, 8, 8, 8, 8, 8, 8, 8, 8, 8, 8, 8, 8, 8, 8, 8, 8, 8, 8, 8, 8, 8, 8, 8, 8, 8, 8, 8, 8, 8, 8, 8, 8, 8, 8, 8, 8, 8, 8, 8, 8, 8, 8, 8, 8, 8, 8, 8, 8, 8, 8, 8, 8, 8, 8, 8, 8, 8, 8, 8, 8])) (.t 21))⟩,
          ⟨(some 23), none, .inl (.conv .i64 (.t 22))⟩,
          ⟨(some 24), none, .inl (.bin .add (.t 19) (.t 23))⟩,
          ⟨(some 2), none, .inl (.mv (.t 24))⟩])
       (.keep [2]))
       (.ret)))))
def fc_math_bits_Len64 : FC := ⟨25, cmd_math_bits_Len64, [.t 2]⟩
theorem fc_math_bits_Len64_ok : compF Try.prog 62 [[0, 2], [0, 2, 4], [0], [0, 2], [0, 2, 8], [0, 2], [0, 2], [0, 2, 14], [0, 2], [0, 2], [2]] = some fc_math_bits_Len64 := by kernel_rfl
/-- slices.siftDownOrdered[int] -/
abbrev F.slices_siftDownOrdered : Nat := 63
def cmd_slices_siftDownOrdered : Cmd :=
  .seq (.seq (.reg [⟨(some 10), none, .inl (.mv (.t 1))⟩,
      ⟨(some 8), none, .inl (.mv (.t 10))⟩])
   (.keep [0, 2, 3, 8]))
   (.block 0 (.loop [0, 2, 3, 8] (.block 1 (.seq (.seq (.reg [⟨(some 11), none, .inl (.mv (.t 8))⟩,
       ⟨(some 12), none, .inl (.bin .mul (.c (.int .i64 2)) (.t 11))⟩,
       ⟨(some 13), none, .inl (.bin .add (.t 12) (.c (.int .i64 1)))⟩,
       ⟨(some 9), none, .inl (.mv (.t 13))⟩])
    (.keep [0, 2, 3, 8, 9]))
    (.seq (.seq (.seq (.reg [⟨(some 14), none, .inl (.mv (.t 9))⟩,
        ⟨(some 15), none, .inl (.mv (.t 2))⟩,
        ⟨(some 16), none, .inl (.bin .geq (.t 14) (.t 15))⟩])
     (.keep [0, 2, 3, 8, 9, 16]))
     (.cond (.t 16)
       (.exit 0)
       (.skip)))
     (.seq (.seq (.seq (.ord [⟨0, ⟨(some 17), none, .inl (.mv (.t 9))⟩, [], false⟩,
         ⟨1, ⟨(some 18), none, .inl (.bin .add (.t 17) (.c (.int .i64 1)))⟩, [], false⟩,
         ⟨2, ⟨(some 19), none, .inl (.mv (.t 2))⟩, [], false⟩,
         ⟨3, ⟨(some 20), none, .inl (.bin .lss (.t 18) (.t 19))⟩, [], false⟩,
         ⟨4, ⟨(some 21), none, .inl (.mv (.t 20))⟩, [], false⟩,
         ⟨5, ⟨(some 22), (some (21, true)), .inl (.mv (.t 0))⟩, [], false⟩,
         ⟨6, ⟨(some 23), (some (21, true)), .inl (.mv (.t 3))⟩, [], false⟩,
         ⟨7, ⟨(some 24), (some (21, true)), .inl (.mv (.t 9))⟩, [], false⟩,
         ⟨8, ⟨(some 25), (some (21, true)), .inl (.bin .add (.t 23) (.t 24))⟩, [], false⟩,
         ⟨9, ⟨(some 26), (some (21, true)), .inl (.iaddr 1 (.t 22) (.t 25))⟩, [], false⟩,
         ⟨10, ⟨(some 27), (some (21, true)), .inl (.load false 1 (.t 26))⟩, [], false⟩,
         ⟨11, ⟨(some 28), (some (21, true)), .inl (.mv (.t 0))⟩, [], false⟩,
         ⟨12, ⟨(some 29), (some (21, true)), .inl (.mv (.t 3))⟩, [], false⟩,
         ⟨13, ⟨(some 30), (some (21, true)), .inl (.mv (.t 9))⟩, [], false⟩,
         ⟨14, ⟨(some 31), (some (21, true)), .inl (.bin .add (.t 29) (.t 30))⟩, [], false⟩,
         ⟨15, ⟨(some 32), (some (21, true)), .inl (.bin .add (.t 31) (.c (.int .i64 1)))⟩, [], false⟩,
         ⟨16, ⟨(some 33), (some (21, true)), .inl (.iaddr 1 (.t 28) (.t 32))⟩, [], false⟩,
         ⟨17, ⟨(some 34), (some (21, true)), .inl (.load false 1 (.t 33))⟩, [], false⟩,
         ⟨18, ⟨(some 35), (some (21, true)), .inr (.call 58 [(.t 27), (.t 34)])⟩, [], false⟩,
         ⟨19, ⟨(some 36), none, .inl (.pick (.t 21) (.t 35) (.c (.bool false)))⟩, [], false⟩])
      (.keep [0, 2, 3, 8, 9, 36]))
      (.cond (.t 36)
        (.seq (.reg [⟨(some 37), none, .inl (.mv (.t 9))⟩,
            ⟨(some 38), none, .inl (.bin .add (.t 37) (.c (.int .i64 1)))⟩,
            ⟨(some 9), none, .inl (.mv (.t 38))⟩])
         (.keep [0, 2, 3, 8, 9]))
        (.skip)))
      (.seq (.seq (.seq (.ord [⟨0, ⟨(some 39), none, .inl (.mv (.t 0))⟩, [], false⟩,
          ⟨1, ⟨(some 40), none, .inl (.mv (.t 3))⟩, [], false⟩,
          ⟨2, ⟨(some 41), none, .inl (.mv (.t 8))⟩, [], false⟩,
          ⟨3, ⟨(some 42), none, .inl (.bin .add (.t 40) (.t 41))⟩, [], false⟩,
          ⟨4, ⟨(some 43), none, .inl (.iaddr 1 (.t 39) (.t 42))⟩, [], false⟩,
          ⟨5, ⟨(some 44), none, .inl (.load false 1 (.t 43))⟩, [], false⟩,
          ⟨6, ⟨(some 45), none, .inl (.mv (.t 0))⟩, [], false⟩,
          ⟨7, ⟨(some 46), none, .inl (.mv (.t 3))⟩, [], false⟩,
          ⟨8, ⟨(some 47), none, .inl (.mv (.t 9))⟩, [], false⟩,
          ⟨9, ⟨(some 48), none, .inl (.bin .add (.t 46) (.t 47))⟩, [], false⟩,
          ⟨10, ⟨(some 49), none, .inl (.iaddr 1 (.t 45) (.t 48))⟩, [], false⟩,
          ⟨11, ⟨(some 50), none, .inl (.load false 1 (.t 49))⟩, [], false⟩,
          ⟨12, ⟨(some 51), none, .inr (.call 58 [(.t 44), (.t 50)])⟩, [], false⟩,
          ⟨13, ⟨(some 52), none, .inl (.un .not (.t 51))⟩, [], false⟩])
       (.keep [0, 2, 3, 8, 9, 52]))
       (.cond (.t 52)
         (.ret)
         (.skip)))
       (.seq (.seq (.ord [⟨0, ⟨(some 53), none, .inl (.mv (.t 0))⟩, [], false⟩,
           ⟨1, ⟨(some 54), none, .inl (.mv (.t 3))⟩, [], false⟩,
           ⟨2, ⟨(some 55), none, .inl (.mv (.t 8))⟩, [], false⟩,
           ⟨3, ⟨(some 56), none, .inl (.bin .add (.t 54) (.t 55))⟩, [], false⟩,
           ⟨4, ⟨(some 57), none, .inl (.mv (.t 0))⟩, [], true⟩,
           ⟨5, ⟨(some 58), none, .inl (.mv (.t 3))⟩, [], true⟩,
           ⟨6, ⟨(some 59), none, .inl (.mv (.t 9))⟩, [], true⟩,
           ⟨7, ⟨(some 60), none, .inl (.bin .add (.t 58) (.t 59))⟩, [], true⟩,
           ⟨8, ⟨(some 61), none, .inl (.mv (.t 0))⟩, [], false⟩,
           ⟨9, ⟨(some 62), none, .inl (.mv (.t 3))⟩, [], false⟩,
           ⟨10, ⟨(some 63), none, .inl (.mv (.t 9))⟩, [], false⟩,
           ⟨11, ⟨(some 64), none, .inl (.bin .add (.t 62) (.t 63))⟩, [], false⟩,
           ⟨12, ⟨(some 65), none, .inl (.iaddr 1 (.t 61) (.t 64))⟩, [], false⟩,
           ⟨13, ⟨(some 66), none, .inl (.load false 1 (.t 65))⟩, [], false⟩,
           ⟨14, ⟨(some 67), none, .inl (.mv (.t 0))⟩, [], false⟩,
           ⟨15, ⟨(some 68), none, .inl (.mv (.t 3))⟩, [], false⟩,
           ⟨16, ⟨(some 69), none, .inl (.mv (.t 8))⟩, [], false⟩,
           ⟨17, ⟨(some 70), none, .inl (.bin .add (.t 68) (.t 69))⟩, [], false⟩,
           ⟨18, ⟨(some 71), none, .inl (.iaddr 1 (.t 67) (.t 70))⟩, [], false⟩,
           ⟨19, ⟨(some 72), none, .inl (.load false 1 (.t 71))⟩, [], false⟩,
           ⟨20, ⟨(some 73), none, .inl (.iaddr 1 (.t 53) (.t 56))⟩, [], false⟩,
           ⟨21, ⟨none, none, .inr (.store 1 (.t 73) (.t 66))⟩, [4, 5, 6, 7], false⟩,
           ⟨22, ⟨(some 74), none, .inl (.iaddr 1 (.t 57) (.t 60))⟩, [], false⟩,
           ⟨23, ⟨none, none, .inr (.store 1 (.t 74) (.t 72))⟩, [], false⟩])
        (.keep [0, 2, 3, 9]))
        (.seq (.reg [⟨(some 75), none, .inl (.mv (.t 9))⟩,
            ⟨(some 8), none, .inl (.mv (.t 75))⟩])
         (.keep [0, 2, 3, 8]))))))))))
def fc_slices_siftDownOrdered : FC := ⟨76, cmd_slices_siftDownOrdered, []⟩
theorem fc_slices_siftDownOrdered_ok : compF Try.prog 63 [[0, 2, 3, 8], [0, 2, 3, 8], [0, 2, 3, 8, 9], [0, 2, 3, 8, 9, 16], [0, 2, 3, 8, 9, 36], [0, 1, 2, 3, 4, 5, 6, 7, 8, 9, 10, 11, 12, 13, 14, 15, 16, 17, 18, 19], [0, 2, 3, 8, 9], [0, 2, 3, 8, 9, 52], [0, 1, 2, 3, 4, 5, 6, 7, 8, 9, 10, 11, 12, 13], [0, 2, 3, 9], [0, 1, 2, 3, 4, 5, 6, 7, 8, 9, 10, 11, 12, 13, 14, 15, 16, 17, 18, 19, 20, 21, 22, 23], [0, 2, 3, 8]] = some fc_slices_siftDownOrdered := by kernel_rfl
/-- slices.nextPowerOfTwo -/
abbrev F.slices_nextPowerOfTwo : Nat := 64
def cmd_slices_nextPowerOfTwo : Cmd :=
  .seq (.seq (.reg [⟨(some 2), none, .inl (.mv (.c (.int .u64 0)))⟩])
   (.keep [0]))
   (.seq (.seq (.reg [⟨(some 3), none, .inl (.mv (.t 0))⟩,
       ⟨(some 4), none, .inl (.conv .u64 (.t 3))⟩,
       ⟨(some 5), none, .inr (.call 51 [(.t 4)])⟩,
       ⟨(some 6), none, .inl (.bin .shl (.c (.int .u64 1)) (.t 5))⟩,
       ⟨(some 2), none, .inl (.mv (.t 6))⟩])
    (.keep [2]))
    (.ret))
def fc_slices_nextPowerOfTwo : FC := ⟨7, cmd_slices_nextPowerOfTwo, [.t 2]⟩
theorem fc_slices_nextPowerOfTwo_ok : compF Try.prog 64 [[0], [2]] = some fc_slices_nextPowerOfTwo := by kernel_rfl
/-- (*slices.xorshift).Next -/
abbrev F.slices_xorshift_Next : Nat := 65
def cmd_slices_xorshift_Next : Cmd :=
  .seq (.seq (.reg [⟨(some 2), none, .inl (.mv (.c (.int .u64 0)))⟩])
   (.keep [0]))
   (.seq (.seq (.ord [⟨0, ⟨(some 3), none, .inl (.mv (.t 0))⟩, [], false⟩,
       ⟨1, ⟨(some 4), none, .inl (.nilchk (.t 3))⟩, [], false⟩,
       ⟨2, ⟨(some 5), none, .inl (.load false 1 (.t 4))⟩, [], false⟩,
       ⟨3, ⟨(some 6), none, .inl (.mv (.t 0))⟩, [], false⟩,
       ⟨4, ⟨(some 7), none, .inl (.nilchk (.t 6))⟩, [], false⟩,
       ⟨5, ⟨(some 8), none, .inl (.load false 1 (.t 7))⟩, [], false⟩,
       ⟨6, ⟨(some 9), none, .inl (.bin .shl (.t 8) (.c (.int .u64 13)))⟩, [], false⟩,
       ⟨7, ⟨(some 10), none, .inl (.bin .xor (.t 5) (.t 9))⟩, [], false⟩,
       ⟨8, ⟨(some 11), none, .inl (.nilchk (.t 3))⟩, [], false⟩,
       ⟨9, ⟨none, none, .inr (.store 1 (.t 11) (.t 10))⟩, [], false⟩])
    (.keep [0]))
    (.seq (.seq (.ord [⟨0, ⟨(some 12), none, .inl (.mv (.t 0))⟩, [], false⟩,
        ⟨1, ⟨(some 13), none, .inl (.nilchk (.t 12))⟩, [], false⟩,
        ⟨2, ⟨(some 14), none, .inl (.load false 1 (.t 13))⟩, [], false⟩,
        ⟨3, ⟨(some 15), none, .inl (.mv (.t 0))⟩, [], false⟩,
        ⟨4, ⟨(some 16), none, .inl (.nilchk (.t 15))⟩, [], false⟩,
        ⟨5, ⟨(some 17), none, .inl (.load false 1 (.t 16))⟩, [], false⟩,
        ⟨6, ⟨(some 18), none, .inl (.bin .shr (.t 17) (.c (.int .u64 7)))⟩, [], false⟩,
        ⟨7, ⟨(some 19), none, .inl (.bin .xor (.t 14) (.t 18))⟩, [], false⟩,
        ⟨8, ⟨(some 20), none, .inl (.nilchk (.t 12))⟩, [], false⟩,
        ⟨9, ⟨none, none, .inr (.store 1 (.t 20) (.t 19))⟩, [], false⟩])
     (.keep [0]))
     (.seq (.seq (.ord [⟨0, ⟨(some 21), none, .inl (.mv (.t 0))⟩, [], false⟩,
         ⟨1, ⟨(some 22), none, .inl (.nilchk (.t 21))⟩, [], false⟩,
         ⟨2, ⟨(some 23), none, .inl (.load false 1 (.t 22))⟩, [], false⟩,
         ⟨3, ⟨(some 24), none, .inl (.mv (.t 0))⟩, [], false⟩,
         ⟨4, ⟨(some 25), none, .inl (.nilchk (.t 24))⟩, [], false⟩,
         ⟨5, ⟨(some 26), none, .inl (.load false 1 (.t 25))⟩, [], false⟩,
         ⟨6, ⟨(some 27), none, .inl (.bin .shl (.t 26) (.c (.int .u64 17)))⟩, [], false⟩,
         ⟨7, ⟨(some 28), none, .inl (.bin .xor (.t 23) (.t 27))⟩, [], false⟩,
         ⟨8, ⟨(some 29), none, .inl (.nilchk (.t 21))⟩, [], false⟩,
         ⟨9, ⟨none, none, .inr (.store 1 (.t 29) (.t 28))⟩, [], false⟩])
      (.keep [0]))
      (.seq (.seq (.reg [⟨(some 30), none, .inl (.mv (.t 0))⟩,
          ⟨(some 31), none, .inl (.nilchk (.t 30))⟩,
          ⟨(some 32), none, .inl (.load false 1 (.t 31))⟩,
          ⟨(some 2), none, .inl (.mv (.t 32))⟩])
       (.keep [2]))
       (.ret)))))
def fc_slices_xorshift_Next : FC := ⟨33, cmd_slices_xorshift_Next, [.t 2]⟩
theorem fc_slices_xorshift_Next_ok : compF Try.prog 65 [[0], [0], [0, 1, 2, 3, 4, 5, 6, 7, 8, 9], [0], [0, 1, 2, 3, 4, 5, 6, 7, 8, 9], [0], [0, 1, 2, 3, 4, 5, 6, 7, 8, 9], [2]] = some fc_slices_xorshift_Next := by kernel_rfl
/-- slices.medianAdjacentOrdered[int] -/
abbrev F.slices_medianAdjacentOrdered : Nat := 66
def cmd_slices_medianAdjacentOrdered : Cmd :=
  .seq (.seq (.reg [⟨(some 6), none, .inl (.mv (.c (.int .i64 0)))⟩])
   (.keep [0, 1, 2]))
   (.seq (.seq (.reg [⟨(some 7), none, .inl (.mv (.t 0))⟩,
       ⟨(some 8), none, .inl (.mv (.t 1))⟩,
       ⟨(some 9), none, .inl (.bin .sub (.t 8) (.c (.int .i64 1)))⟩,
       ⟨(some 10), none, .inl (.mv (.t 1))⟩,
       ⟨(some 11), none, .inl (.mv (.t 1))⟩,
       ⟨(some 12), none, .inl (.bin .add (.t 11) (.c (.int .i64 1)))⟩,
       ⟨(some 13), none, .inl (.mv (.t 2))⟩,
       ⟨(some 14), none, .inr (.call 67 [(.t 7), (.t 9), (.t 10), (.t 12), (.t 13)])⟩,
       ⟨(some 6), none, .inl (.mv (.t 14))⟩])
    (.keep [6]))
    (.ret))
def fc_slices_medianAdjacentOrdered : FC := ⟨15, cmd_slices_medianAdjacentOrdered, [.t 6]⟩
theorem fc_slices_medianAdjacentOrdered_ok : compF Try.prog 66 [[0, 1, 2], [6]] = some fc_slices_medianAdjacentOrdered := by kernel_rfl
/-- slices.medianOrdered[int] -/
abbrev F.slices_medianOrdered : Nat := 67
def cmd_slices_medianOrdered : Cmd :=
  .seq (.seq (.reg [⟨(some 10), none, .inl (.mv (.c (.int .i64 0)))⟩])
   (.keep [0, 1, 2, 3, 4]))
   (.seq (.seq (.reg [⟨(some 12), none, .inl (.mv (.t 0))⟩,
       ⟨(some 13), none, .inl (.mv (.t 1))⟩,
       ⟨(some 14), none, .inl (.mv (.t 2))⟩,
       ⟨(some 15), none, .inl (.mv (.t 4))⟩,
       ⟨(some 16), none, .inr (.call 69 [(.t 12), (.t 13), (.t 14), (.t 15)])⟩,
       ⟨(some 11), none, .inl (.mv (.t 16))⟩,
       ⟨(some 17), none, .inl (.ext 0 (.t 11))⟩,
       ⟨(some 18), none, .inl (.ext 1 (.t 11))⟩,
       ⟨(some 1), none, .inl (.mv (.t 17))⟩,
       ⟨(some 2), none, .inl (.mv (.t 18))⟩])
    (.keep [0, 1, 2, 3, 4]))
    (.seq (.seq (.reg [⟨(some 20), none, .inl (.mv (.t 0))⟩,
        ⟨(some 21), none, .inl (.mv (.t 2))⟩,
        ⟨(some 22), none, .inl (.mv (.t 3))⟩,
        ⟨(some 23), none, .inl (.mv (.t 4))⟩,
        ⟨(some 24), none, .inr (.call 69 [(.t 20), (.t 21), (.t 22), (.t 23)])⟩,
        ⟨(some 19), none, .inl (.mv (.t 24))⟩,
        ⟨(some 25), none, .inl (.ext 0 (.t 19))⟩,
        ⟨(some 26), none, .inl (.ext 1 (.t 19))⟩,
        ⟨(some 2), none, .inl (.mv (.t 25))⟩,
        ⟨(some 3), none, .inl (.mv (.t 26))⟩])
     (.keep [0, 1, 2, 4]))
     (.seq (.seq (.reg [⟨(some 28), none, .inl (.mv (.t 0))⟩,
         ⟨(some 29), none, .inl (.mv (.t 1))⟩,
         ⟨(some 30), none, .inl (.mv (.t 2))⟩,
         ⟨(some 31), none, .inl (.mv (.t 4))⟩,
         ⟨(some 32), none, .inr (.call 69 [(.t 28), (.t 29), (.t 30), (.t 31)])⟩,
         ⟨(some 27), none, .inl (.mv (.t 32))⟩,
         ⟨(some 33), none, .inl (.ext 0 (.t 27))⟩,
         ⟨(some 34), none, .inl (.ext 1 (.t 27))⟩,
         ⟨(some 1), none, .inl (.mv (.t 33))⟩,
         ⟨(some 2), none, .inl (.mv (.t 34))⟩])
      (.keep [2]))
      (.seq (.seq (.reg [⟨(some 35), none, .inl (.mv (.t 2))⟩,
          ⟨(some 10), none, .inl (.mv (.t 35))⟩])
       (.keep [10]))
       (.ret)))))
def fc_slices_medianOrdered : FC := ⟨36, cmd_slices_medianOrdered, [.t 10]⟩
theorem fc_slices_medianOrdered_ok : compF Try.prog 67 [[0, 1, 2, 3, 4], [0, 1, 2, 3, 4], [0, 1, 2, 4], [2], [10]] = some fc_slices_medianOrdered := by kernel_rfl
/-- cmp.isNaN[int] -/
abbrev F.cmp_isNaN : Nat := 68
def cmd_cmp_isNaN : Cmd :=
  .seq (.seq (.reg [⟨(some 2), none, .inl (.mv (.c (.bool false)))⟩])
   (.keep [0]))
   (.seq (.seq (.reg [⟨(some 3), none, .inl (.mv (.t 0))⟩,
       ⟨(some 4), none, .inl (.mv (.t 0))⟩,
       ⟨(some 5), none, .inl (.bin .neq (.t 3) (.t 4))⟩,
       ⟨(some 2), none, .inl (.mv (.t 5))⟩])
    (.keep [2]))
    (.ret))
def fc_cmp_isNaN : FC := ⟨6, cmd_cmp_isNaN, [.t 2]⟩
theorem fc_cmp_isNaN_ok : compF Try.prog 68 [[0], [2]] = some fc_cmp_isNaN := by kernel_rfl
/-- slices.order2Ordered[int] -/
abbrev F.slices_order2Ordered : Nat := 69
def cmd_slices_order2Ordered : Cmd :=
  .seq (.seq (.reg [⟨(some 8), none, .inl (.mv (.c (.int .i64 0)))⟩,
      ⟨(some 9), none, .inl (.mv (.c (.int .i64 0)))⟩])
   (.keep [0, 1, 2, 3]))
   (.seq (.seq (.seq (.ord [⟨0, ⟨(some 10), none, .inl (.mv (.t 0))⟩, [], false⟩,
       ⟨1, ⟨(some 11), none, .inl (.mv (.t 2))⟩, [], false⟩,
       ⟨2, ⟨(some 12), none, .inl (.iaddr 1 (.t 10) (.t 11))⟩, [], false⟩,
       ⟨3, ⟨(some 13), none, .inl (.load false 1 (.t 12))⟩, [], false⟩,
       ⟨4, ⟨(some 14), none, .inl (.mv (.t 0))⟩, [], false⟩,
       ⟨5, ⟨(some 15), none, .inl (.mv (.t 1))⟩, [], false⟩,
       ⟨6, ⟨(some 16), none, .inl (.iaddr 1 (.t 14) (.t 15))⟩, [], false⟩,
       ⟨7, ⟨(some 17), none, .inl (.load false 1 (.t 16))⟩, [], false⟩,
       ⟨8, ⟨(some 18), none, .inr (.call 58 [(.t 13), (.t 17)])⟩, [], false⟩])
    (.keep [1, 2, 3, 18]))
    (.cond (.t 18)
      (.seq (.seq (.reg [⟨(some 19), none, .inl (.mv (.t 3))⟩,
          ⟨(some 20), none, .inl (.nilchk (.t 19))⟩,
          ⟨(some 21), none, .inl (.load false 1 (.t 20))⟩,
          ⟨(some 22), none, .inl (.bin .add (.t 21) (.c (.int .i64 1)))⟩,
          ⟨(some 23), none, .inl (.nilchk (.t 19))⟩,
          ⟨none, none, .inr (.store 1 (.t 23) (.t 22))⟩])
       (.keep [1, 2]))
       (.seq (.seq (.reg [⟨(some 24), none, .inl (.mv (.t 2))⟩,
           ⟨(some 25), none, .inl (.mv (.t 1))⟩,
           ⟨(some 8), none, .inl (.mv (.t 24))⟩,
           ⟨(some 9), none, .inl (.mv (.t 25))⟩])
        (.keep [8, 9]))
        (.ret)))
      (.skip)))
    (.seq (.seq (.reg [⟨(some 26), none, .inl (.mv (.t 1))⟩,
        ⟨(some 27), none, .inl (.mv (.t 2))⟩,
        ⟨(some 8), none, .inl (.mv (.t 26))⟩,
        ⟨(some 9), none, .inl (.mv (.t 27))⟩])
     (.keep [8, 9]))
     (.ret)))
def fc_slices_order2Ordered : FC := ⟨28, cmd_slices_order2Ordered, [.t 8, .t 9]⟩
theorem fc_slices_order2Ordered_ok : compF Try.prog 69 [[0, 1, 2, 3], [1, 2, 3, 18], [0, 1, 2, 3, 4, 5, 6, 7, 8], [1, 2], [8, 9], [8, 9]] = some fc_slices_order2Ordered := by kernel_rfl
end Go.Proofs.Ythakanioekmhbaa
