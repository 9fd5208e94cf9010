import Derived.Test.YtoghibpjlihpaaaProg
import Derived.Test.YtoghibpjlihpaaaVG
import Derived.KernelRfl
namespace Go.Proofs.Ytoghibpjlihpaaa
open Go Go.Proofs.Ytoghibpjlihpaaa.V
set_option linter.unusedVariables false

theorem mixed : Try.prog.follows .mixedOrders = true := by kernel_rfl
/-- joist/joistlaw16.ShapeGrows -/
abbrev F.joistlaw16_ShapeGrows : Nat := 3
def cmd_joistlaw16_ShapeGrows : Cmd :=
  .seq (.seq (.reg [⟨(some 1), none, .inr (.box 4 (.t 0))⟩,
      ⟨(some 2), none, .inl (.mv (.c (.bool false)))⟩])
   (.keep [1]))
   (.seq (.seq (.reg [⟨(some 12), none, .inr (.call 6 [])⟩,
       ⟨(some 3), none, .inl (.mv (.t 12))⟩])
    (.keep [1, 3]))
    (.seq (.seq (.reg [⟨(some 14), none, .inl (.load true 4 (.t 1))⟩,
        ⟨(some 15), none, .inr (.call 7 [(.t 14)])⟩,
        ⟨(some 13), none, .inl (.mv (.t 15))⟩,
        ⟨(some 16), none, .inl (.ext 0 (.t 13))⟩,
        ⟨(some 17), none, .inl (.ext 1 (.t 13))⟩,
        ⟨(some 4), none, .inr (.alloc [(.int .i64 0), (.int .i64 0), (.int .i64 0), (.int .i64 0), (.int .i64 0), (.int .i64 0), (.int .i64 0), (.int .i64 0), (.int .i64 0)])⟩,
        ⟨none, none, .inr (.store 9 (.t 4) (.t 16))⟩,
        ⟨(some 5), none, .inl (.mv (.t 17))⟩])
     (.keep [1, 3, 4, 5]))
     (.seq (.seq (.seq (.reg [⟨(some 18), none, .inl (.mv (.t 5))⟩,
         ⟨(some 19), none, .inl (.bin .neq (.t 18) (.c (.int .i64 0)))⟩])
      (.keep [1, 3, 4, 19]))
      (.cond (.t 19)
        (.seq (.seq (.reg [⟨(some 20), none, .inl (.mv (.t 3))⟩,
            ⟨(some 21), none, .inl (.mv (.t 20))⟩,
            ⟨(some 22), (some (21, true)), .inl (.load true 9 (.t 4))⟩,
            ⟨(some 23), (some (21, true)), .inl (.build [(.int .i64 0), (.int .i64 0), (.int .i64 0), (.int .i64 0), (.int .i64 0), (.int .i64 0), (.int .i64 0), (.int .i64 0), (.int .i64 0)] [])⟩,
            ⟨(some 24), (some (21, true)), .inl (.eqagg false [0, 0, 0, 0, 0, 0, 0, 0, 0] (.t 22) (.t 23))⟩,
            ⟨(some 25), none, .inl (.pick (.t 21) (.t 24) (.c (.bool false)))⟩,
            ⟨(some 2), none, .inl (.mv (.t 25))⟩])
         (.keep [2]))
         (.ret))
        (.skip)))
      (.seq (.seq (.reg [⟨(some 26), none, .inl (.load true 4 (.t 1))⟩,
          ⟨(some 6), none, .inr (.alloc [(.int .i64 0), (.int .i64 0), (.int .i64 0), (.int .i64 0)])⟩,
          ⟨none, none, .inr (.store 4 (.t 6) (.t 26))⟩])
       (.keep [1, 3, 4, 6]))
       (.seq (.seq (.reg [⟨(some 27), none, .inl (.faddr 0 (.t 6))⟩,
           ⟨(some 28), none, .inl (.load false 1 (.t 27))⟩,
           ⟨(some 29), none, .inl (.bin .add (.t 28) (.c (.int .i64 1)))⟩,
           ⟨(some 30), none, .inl (.faddr 0 (.t 6))⟩,
           ⟨none, none, .inr (.store 1 (.t 30) (.t 29))⟩])
        (.keep [1, 3, 4, 6]))
        (.seq (.seq (.reg [⟨(some 32), none, .inl (.load true 4 (.t 6))⟩,
            ⟨(some 33), none, .inr (.call 7 [(.t 32)])⟩,
            ⟨(some 31), none, .inl (.mv (.t 33))⟩,
            ⟨(some 34), none, .inl (.ext 0 (.t 31))⟩,
            ⟨(some 35), none, .inl (.ext 1 (.t 31))⟩,
            ⟨(some 7), none, .inr (.alloc [(.int .i64 0), (.int .i64 0), (.int .i64 0), (.int .i64 0), (.int .i64 0), (.int .i64 0), (.int .i64 0), (.int .i64 0), (.int .i64 0)])⟩,
            ⟨none, none, .inr (.store 9 (.t 7) (.t 34))⟩,
            ⟨(some 8), none, .inl (.mv (.t 35))⟩])
         (.keep [1, 3, 4, 7, 8]))
         (.seq (.seq (.reg [⟨(some 36), none, .inl (.load true 4 (.t 1))⟩,
             ⟨(some 9), none, .inr (.alloc [(.int .i64 0), (.int .i64 0), (.int .i64 0), (.int .i64 0)])⟩,
             ⟨none, none, .inr (.store 4 (.t 9) (.t 36))⟩])
          (.keep [1, 3, 4, 7, 8, 9]))
          (.seq (.seq (.reg [⟨(some 37), none, .inl (.faddr 3 (.t 9))⟩,
              ⟨(some 38), none, .inl (.load false 1 (.t 37))⟩,
              ⟨(some 39), none, .inl (.bin .add (.t 38) (.c (.int .i64 1)))⟩,
              ⟨(some 40), none, .inl (.faddr 3 (.t 9))⟩,
              ⟨none, none, .inr (.store 1 (.t 40) (.t 39))⟩])
           (.keep [1, 3, 4, 7, 8, 9]))
           (.seq (.seq (.reg [⟨(some 42), none, .inl (.load true 4 (.t 9))⟩,
               ⟨(some 43), none, .inr (.call 7 [(.t 42)])⟩,
               ⟨(some 41), none, .inl (.mv (.t 43))⟩,
               ⟨(some 44), none, .inl (.ext 0 (.t 41))⟩,
               ⟨(some 45), none, .inl (.ext 1 (.t 41))⟩,
               ⟨(some 10), none, .inr (.alloc [(.int .i64 0), (.int .i64 0), (.int .i64 0), (.int .i64 0), (.int .i64 0), (.int .i64 0), (.int .i64 0), (.int .i64 0), (.int .i64 0)])⟩,
               ⟨none, none, .inr (.store 9 (.t 10) (.t 44))⟩,
               ⟨(some 11), none, .inl (.mv (.t 45))⟩])
            (.keep [1, 3, 4, 7, 8, 10, 11]))
            (.seq (.seq (.seq (.reg [⟨(some 46), none, .inl (.mv (.t 8))⟩,
                ⟨(some 47), none, .inl (.bin .eql (.t 46) (.c (.int .i64 0)))⟩,
                ⟨(some 48), none, .inl (.mv (.t 47))⟩,
                ⟨(some 49), (some (48, true)), .inl (.faddr 8 (.t 7))⟩,
                ⟨(some 50), (some (48, true)), .inl (.load false 1 (.t 49))⟩,
                ⟨(some 51), (some (48, true)), .inl (.faddr 8 (.t 4))⟩,
                ⟨(some 52), (some (48, true)), .inl (.load false 1 (.t 51))⟩,
                ⟨(some 53), (some (48, true)), .inl (.bin .add (.t 52) (.c (.int .i64 4)))⟩,
                ⟨(some 54), (some (48, true)), .inl (.bin .neq (.t 50) (.t 53))⟩,
                ⟨(some 55), (some (48, true)), .inl (.mv (.t 54))⟩,
                ⟨(some 56), (some (55, false)), .inl (.faddr 7 (.t 7))⟩,
                ⟨(some 57), (some (55, false)), .inl (.load false 1 (.t 56))⟩,
                ⟨(some 58), (some (55, false)), .inl (.faddr 7 (.t 4))⟩,
                ⟨(some 59), (some (55, false)), .inl (.load false 1 (.t 58))⟩,
                ⟨(some 60), (some (55, false)), .inl (.bin .neq (.t 57) (.t 59))⟩,
                ⟨(some 61), (some (48, true)), .inl (.pick (.t 55) (.c (.bool true)) (.t 60))⟩,
                ⟨(some 62), none, .inl (.pick (.t 48) (.t 61) (.c (.bool false)))⟩,
                ⟨(some 63), none, .inl (.mv (.t 62))⟩,
                ⟨(some 64), (some (63, false)), .inl (.mv (.t 11))⟩,
                ⟨(some 65), (some (63, false)), .inl (.bin .eql (.t 64) (.c (.int .i64 0)))⟩,
                ⟨(some 66), (some (63, false)), .inl (.mv (.t 65))⟩,
                ⟨(some 67), (some (66, true)), .inl (.faddr 8 (.t 10))⟩,
                ⟨(some 68), (some (66, true)), .inl (.load false 1 (.t 67))⟩,
                ⟨(some 69), (some (66, true)), .inl (.faddr 8 (.t 4))⟩,
                ⟨(some 70), (some (66, true)), .inl (.load false 1 (.t 69))⟩,
                ⟨(some 71), (some (66, true)), .inl (.bin .add (.t 70) (.c (.int .i64 2)))⟩,
                ⟨(some 72), (some (66, true)), .inl (.bin .neq (.t 68) (.t 71))⟩,
                ⟨(some 73), (some (66, true)), .inl (.mv (.t 72))⟩,
                ⟨(some 74), (some (73, false)), .inl (.faddr 3 (.t 10))⟩,
                ⟨(some 75), (some (73, false)), .inl (.load false 1 (.t 74))⟩,
                ⟨(some 76), (some (73, false)), .inl (.faddr 3 (.t 4))⟩,
                ⟨(some 77), (some (73, false)), .inl (.load false 1 (.t 76))⟩,
                ⟨(some 78), (some (73, false)), .inl (.bin .add (.t 77) (.c (.int .i64 2)))⟩,
                ⟨(some 79), (some (73, false)), .inl (.bin .neq (.t 75) (.t 78))⟩,
                ⟨(some 80), (some (66, true)), .inl (.pick (.t 73) (.c (.bool true)) (.t 79))⟩,
                ⟨(some 81), (some (63, false)), .inl (.pick (.t 66) (.t 80) (.c (.bool false)))⟩,
                ⟨(some 82), none, .inl (.pick (.t 63) (.c (.bool true)) (.t 81))⟩])
             (.keep [1, 3, 4, 8, 11, 82]))
             (.cond (.t 82)
               (.seq (.seq (.reg [⟨(some 2), none, .inl (.mv (.c (.bool false)))⟩])
                (.keep [2]))
                (.ret))
               (.skip)))
             (.seq (.seq (.reg [⟨(some 83), none, .inl (.mv (.t 3))⟩,
                 ⟨(some 84), none, .inl (.mv (.t 83))⟩,
                 ⟨(some 85), (some (84, true)), .inl (.mv (.t 8))⟩,
                 ⟨(some 86), (some (84, true)), .inl (.bin .eql (.t 85) (.c (.int .i64 0)))⟩,
                 ⟨(some 87), (some (84, true)), .inl (.faddr 0 (.t 1))⟩,
                 ⟨(some 88), (some (84, true)), .inl (.load false 1 (.t 87))⟩,
                 ⟨(some 89), (some (84, true)), .inl (.bin .lss (.t 88) (.c (.int .i64 64)))⟩,
                 ⟨(some 90), (some (84, true)), .inl (.mv (.t 89))⟩,
                 ⟨(some 91), (some (90, true)), .inl (.faddr 8 (.t 4))⟩,
                 ⟨(some 92), (some (90, true)), .inl (.load false 1 (.t 91))⟩,
                 ⟨(some 93), (some (90, true)), .inl (.bin .add (.t 92) (.c (.int .i64 4)))⟩,
                 ⟨(some 94), (some (90, true)), .inl (.bin .leq (.t 93) (.c (.int .i64 4096)))⟩,
                 ⟨(some 95), (some (84, true)), .inl (.pick (.t 90) (.t 94) (.c (.bool false)))⟩,
                 ⟨(some 96), (some (84, true)), .inl (.binb .eql (.t 86) (.t 95))⟩,
                 ⟨(some 97), none, .inl (.pick (.t 84) (.t 96) (.c (.bool false)))⟩,
                 ⟨(some 98), none, .inl (.mv (.t 97))⟩,
                 ⟨(some 99), (some (98, true)), .inl (.mv (.t 11))⟩,
                 ⟨(some 100), (some (98, true)), .inl (.bin .eql (.t 99) (.c (.int .i64 0)))⟩,
                 ⟨(some 101), (some (98, true)), .inl (.faddr 8 (.t 4))⟩,
                 ⟨(some 102), (some (98, true)), .inl (.load false 1 (.t 101))⟩,
                 ⟨(some 103), (some (98, true)), .inl (.bin .add (.t 102) (.c (.int .i64 2)))⟩,
                 ⟨(some 104), (some (98, true)), .inl (.bin .leq (.t 103) (.c (.int .i64 4096)))⟩,
                 ⟨(some 105), (some (98, true)), .inl (.binb .eql (.t 100) (.t 104))⟩,
                 ⟨(some 106), none, .inl (.pick (.t 98) (.t 105) (.c (.bool false)))⟩,
                 ⟨(some 2), none, .inl (.mv (.t 106))⟩])
              (.keep [2]))
              (.ret))))))))))))
def fc_joistlaw16_ShapeGrows : FC := ⟨107, cmd_joistlaw16_ShapeGrows, [.t 2]⟩
theorem fc_joistlaw16_ShapeGrows_ok : compF Try.prog 3 [[1], [1, 3], [1, 3, 4, 5], [1, 3, 4, 19], [2], [1, 3, 4, 6], [1, 3, 4, 6], [1, 3, 4, 7, 8], [1, 3, 4, 7, 8, 9], [1, 3, 4, 7, 8, 9], [1, 3, 4, 7, 8, 10, 11], [1, 3, 4, 8, 11, 82], [2], [2]] = some fc_joistlaw16_ShapeGrows := by kernel_rfl
/-- joist/joistlaw16.ShapeTells -/
abbrev F.joistlaw16_ShapeTells : Nat := 4
def cmd_joistlaw16_ShapeTells : Cmd :=
  .seq (.seq (.reg [⟨(some 2), none, .inr (.box 4 (.t 0))⟩,
      ⟨(some 4), none, .inl (.mv (.c (.bool false)))⟩])
   (.keep [1, 2]))
   (.seq (.seq (.reg [⟨(some 10), none, .inr (.call 6 [])⟩,
       ⟨(some 5), none, .inl (.mv (.t 10))⟩])
    (.keep [1, 2, 5]))
    (.seq (.seq (.reg [⟨(some 12), none, .inl (.load true 4 (.t 2))⟩,
        ⟨(some 13), none, .inr (.call 7 [(.t 12)])⟩,
        ⟨(some 11), none, .inl (.mv (.t 13))⟩,
        ⟨(some 14), none, .inl (.ext 0 (.t 11))⟩,
        ⟨(some 15), none, .inl (.ext 1 (.t 11))⟩,
        ⟨(some 6), none, .inr (.alloc [(.int .i64 0), (.int .i64 0), (.int .i64 0), (.int .i64 0), (.int .i64 0), (.int .i64 0), (.int .i64 0), (.int .i64 0), (.int .i64 0)])⟩,
        ⟨none, none, .inr (.store 9 (.t 6) (.t 14))⟩,
        ⟨(some 7), none, .inl (.mv (.t 15))⟩])
     (.keep [1, 2, 5, 6, 7]))
     (.seq (.seq (.reg [⟨(some 17), none, .inl (.load true 4 (.t 2))⟩,
         ⟨(some 18), none, .inr (.call 8 [(.t 17)])⟩,
         ⟨(some 16), none, .inl (.mv (.t 18))⟩,
         ⟨(some 19), none, .inl (.ext 0 (.t 16))⟩,
         ⟨(some 20), none, .inl (.ext 1 (.t 16))⟩,
         ⟨(some 8), none, .inr (.alloc [(.int .i64 0), (.int .i64 0), (.int .i64 0), (.int .i64 0), (.int .i64 0), (.int .i64 0), (.int .i64 0), (.int .i64 0), (.int .i64 0)])⟩,
         ⟨none, none, .inr (.store 9 (.t 8) (.t 19))⟩,
         ⟨(some 9), none, .inl (.mv (.t 20))⟩])
      (.keep [1, 2, 5, 6, 7, 8, 9]))
      (.seq (.seq (.ord [⟨0, ⟨(some 21), none, .inl (.mv (.t 5))⟩, [], false⟩,
          ⟨1, ⟨(some 22), none, .inl (.mv (.t 21))⟩, [], false⟩,
          ⟨2, ⟨(some 23), (some (22, true)), .inl (.load true 9 (.t 6))⟩, [], false⟩,
          ⟨3, ⟨(some 24), (some (22, true)), .inl (.load true 9 (.t 8))⟩, [], false⟩,
          ⟨4, ⟨(some 25), (some (22, true)), .inl (.eqagg false [0, 0, 0, 0, 0, 0, 0, 0, 0] (.t 23) (.t 24))⟩, [], false⟩,
          ⟨5, ⟨(some 26), none, .inl (.pick (.t 22) (.t 25) (.c (.bool false)))⟩, [], false⟩,
          ⟨6, ⟨(some 27), none, .inl (.mv (.t 26))⟩, [], false⟩,
          ⟨7, ⟨(some 28), (some (27, true)), .inl (.mv (.t 7))⟩, [], false⟩,
          ⟨8, ⟨(some 29), (some (27, true)), .inl (.mv (.t 9))⟩, [], false⟩,
          ⟨9, ⟨(some 30), (some (27, true)), .inl (.bin .eql (.t 28) (.t 29))⟩, [], false⟩,
          ⟨10, ⟨(some 31), none, .inl (.pick (.t 27) (.t 30) (.c (.bool false)))⟩, [], false⟩,
          ⟨11, ⟨(some 32), none, .inl (.mv (.t 31))⟩, [], false⟩,
          ⟨12, ⟨(some 33), (some (32, true)), .inl (.load true 4 (.t 2))⟩, [], false⟩,
          ⟨14, ⟨(some 35), (some (32, true)), .inl (.load true 4 (.t 2))⟩, [], true⟩,
          ⟨13, ⟨(some 34), (some (32, true)), .inr (.call 9 [(.t 33)])⟩, [14], false⟩,
          ⟨15, ⟨(some 36), (some (32, true)), .inr (.call 10 [(.t 35)])⟩, [], false⟩,
          ⟨16, ⟨(some 37), (some (32, true)), .inl (.binb .eql (.t 34) (.t 36))⟩, [], false⟩,
          ⟨17, ⟨(some 38), none, .inl (.pick (.t 32) (.t 37) (.c (.bool false)))⟩, [], false⟩,
          ⟨18, ⟨(some 39), none, .inl (.mv (.t 38))⟩, [], false⟩,
          ⟨19, ⟨(some 40), (some (39, true)), .inl (.load true 4 (.t 2))⟩, [], false⟩,
          ⟨20, ⟨(some 41), (some (39, true)), .inl (.mv (.t 1))⟩, [], false⟩,
          ⟨22, ⟨(some 43), (some (39, true)), .inl (.load true 4 (.t 2))⟩, [], true⟩,
          ⟨23, ⟨(some 44), (some (39, true)), .inl (.mv (.t 1))⟩, [], true⟩,
          ⟨21, ⟨(some 42), (some (39, true)), .inr (.call 11 [(.t 40), (.t 41)])⟩, [22, 23], false⟩,
          ⟨24, ⟨(some 45), (some (39, true)), .inr (.call 12 [(.t 43), (.t 44)])⟩, [], false⟩,
          ⟨25, ⟨(some 46), (some (39, true)), .inl (.binb .eql (.t 42) (.t 45))⟩, [], false⟩,
          ⟨26, ⟨(some 47), none, .inl (.pick (.t 39) (.t 46) (.c (.bool false)))⟩, [], false⟩,
          ⟨27, ⟨(some 4), none, .inl (.mv (.t 47))⟩, [], false⟩])
       (.keep [4]))
       (.ret)))))
def fc_joistlaw16_ShapeTells : FC := ⟨48, cmd_joistlaw16_ShapeTells, [.t 4]⟩
theorem fc_joistlaw16_ShapeTells_ok : compF Try.prog 4 [[1, 2], [1, 2, 5], [1, 2, 5, 6, 7], [1, 2, 5, 6, 7, 8, 9], [4], [0, 1, 2, 3, 4, 5, 6, 7, 8, 9, 10, 11, 12, 14, 13, 15, 16, 17, 18, 19, 20, 22, 23, 21, 24, 25, 26, 27]] = some fc_joistlaw16_ShapeTells := by kernel_rfl
/-- joist/joistlaw16.ShapeParts -/
abbrev F.joistlaw16_ShapeParts : Nat := 5
def cmd_joistlaw16_ShapeParts : Cmd :=
  .seq (.seq (.reg [⟨(some 2), none, .inr (.box 4 (.t 0))⟩,
      ⟨(some 4), none, .inl (.mv (.c (.bool false)))⟩])
   (.keep [1, 2]))
   (.seq (.seq (.reg [⟨(some 9), none, .inr (.call 6 [])⟩,
       ⟨(some 5), none, .inl (.mv (.t 9))⟩])
    (.keep [1, 2, 5]))
    (.seq (.seq (.reg [⟨(some 11), none, .inl (.load true 4 (.t 2))⟩,
        ⟨(some 12), none, .inr (.call 7 [(.t 11)])⟩,
        ⟨(some 10), none, .inl (.mv (.t 12))⟩,
        ⟨(some 13), none, .inl (.ext 0 (.t 10))⟩,
        ⟨(some 14), none, .inl (.ext 1 (.t 10))⟩,
        ⟨(some 6), none, .inr (.alloc [(.int .i64 0), (.int .i64 0), (.int .i64 0), (.int .i64 0), (.int .i64 0), (.int .i64 0), (.int .i64 0), (.int .i64 0), (.int .i64 0)])⟩,
        ⟨none, none, .inr (.store 9 (.t 6) (.t 13))⟩,
        ⟨(some 7), none, .inl (.mv (.t 14))⟩])
     (.keep [1, 2, 5, 6, 7]))
     (.seq (.seq (.seq (.reg [⟨(some 15), none, .inl (.mv (.t 7))⟩,
         ⟨(some 16), none, .inl (.bin .neq (.t 15) (.c (.int .i64 0)))⟩])
      (.keep [1, 2, 5, 6, 16]))
      (.cond (.t 16)
        (.seq (.seq (.reg [⟨(some 17), none, .inl (.mv (.t 5))⟩,
            ⟨(some 18), none, .inl (.mv (.t 17))⟩,
            ⟨(some 19), (some (18, true)), .inl (.load true 4 (.t 2))⟩,
            ⟨(some 20), (some (18, true)), .inr (.call 9 [(.t 19)])⟩,
            ⟨(some 21), (some (18, true)), .inl (.un .not (.t 20))⟩,
            ⟨(some 22), none, .inl (.pick (.t 18) (.t 21) (.c (.bool false)))⟩,
            ⟨(some 23), none, .inl (.mv (.t 22))⟩,
            ⟨(some 24), (some (23, true)), .inl (.load true 4 (.t 2))⟩,
            ⟨(some 25), (some (23, true)), .inl (.mv (.t 1))⟩,
            ⟨(some 26), (some (23, true)), .inr (.call 11 [(.t 24), (.t 25)])⟩,
            ⟨(some 27), (some (23, true)), .inl (.un .not (.t 26))⟩,
            ⟨(some 28), none, .inl (.pick (.t 23) (.t 27) (.c (.bool false)))⟩,
            ⟨(some 4), none, .inl (.mv (.t 28))⟩])
         (.keep [4]))
         (.ret))
        (.skip)))
      (.seq (.seq (.seq (.reg [⟨(some 29), none, .inl (.load true 4 (.t 2))⟩,
          ⟨(some 30), none, .inr (.call 9 [(.t 29)])⟩,
          ⟨(some 31), none, .inl (.un .not (.t 30))⟩,
          ⟨(some 32), none, .inl (.mv (.t 31))⟩,
          ⟨(some 33), (some (32, false)), .inl (.faddr 0 (.t 6))⟩,
          ⟨(some 34), (some (32, false)), .inl (.load true 3 (.t 33))⟩,
          ⟨(some 35), (some (32, false)), .inl (.faddr 8 (.t 6))⟩,
          ⟨(some 36), (some (32, false)), .inl (.load false 1 (.t 35))⟩,
          ⟨(some 37), (some (32, false)), .inr (.call 13 [(.t 34), (.t 36)])⟩,
          ⟨(some 38), (some (32, false)), .inl (.un .not (.t 37))⟩,
          ⟨(some 39), none, .inl (.pick (.t 32) (.c (.bool true)) (.t 38))⟩,
          ⟨(some 40), none, .inl (.mv (.t 39))⟩,
          ⟨(some 41), (some (40, false)), .inl (.faddr 3 (.t 6))⟩,
          ⟨(some 42), (some (40, false)), .inl (.load false 1 (.t 41))⟩,
          ⟨(some 43), (some (40, false)), .inl (.faddr 0 (.t 6))⟩,
          ⟨(some 44), (some (40, false)), .inl (.faddr 1 (.t 43))⟩,
          ⟨(some 45), (some (40, false)), .inl (.load false 1 (.t 44))⟩,
          ⟨(some 46), (some (40, false)), .inl (.faddr 0 (.t 6))⟩,
          ⟨(some 47), (some (40, false)), .inl (.faddr 2 (.t 46))⟩,
          ⟨(some 48), (some (40, false)), .inl (.load false 1 (.t 47))⟩,
          ⟨(some 49), (some (40, false)), .inl (.bin .mul (.c (.int .i64 2)) (.t 48))⟩,
          ⟨(some 50), (some (40, false)), .inl (.bin .add (.t 45) (.t 49))⟩,
          ⟨(some 51), (some (40, false)), .inl (.bin .sub (.t 50) (.c (.int .i64 1)))⟩,
          ⟨(some 52), (some (40, false)), .inl (.bin .leq (.t 42) (.t 51))⟩,
          ⟨(some 53), none, .inl (.pick (.t 40) (.c (.bool true)) (.t 52))⟩,
          ⟨(some 54), none, .inl (.mv (.t 53))⟩,
          ⟨(some 55), (some (54, false)), .inl (.faddr 4 (.t 6))⟩,
          ⟨(some 56), (some (54, false)), .inl (.load false 1 (.t 55))⟩,
          ⟨(some 57), (some (54, false)), .inl (.faddr 3 (.t 6))⟩,
          ⟨(some 58), (some (54, false)), .inl (.load false 1 (.t 57))⟩,
          ⟨(some 59), (some (54, false)), .inl (.bin .leq (.t 56) (.t 58))⟩,
          ⟨(some 60), none, .inl (.pick (.t 54) (.c (.bool true)) (.t 59))⟩,
          ⟨(some 61), none, .inl (.mv (.t 60))⟩,
          ⟨(some 62), (some (61, false)), .inl (.faddr 5 (.t 6))⟩,
          ⟨(some 63), (some (61, false)), .inl (.load false 1 (.t 62))⟩,
          ⟨(some 64), (some (61, false)), .inl (.faddr 4 (.t 6))⟩,
          ⟨(some 65), (some (61, false)), .inl (.load false 1 (.t 64))⟩,
          ⟨(some 66), (some (61, false)), .inl (.bin .leq (.t 63) (.t 65))⟩,
          ⟨(some 67), none, .inl (.pick (.t 61) (.c (.bool true)) (.t 66))⟩,
          ⟨(some 68), none, .inl (.mv (.t 67))⟩,
          ⟨(some 69), (some (68, false)), .inl (.faddr 6 (.t 6))⟩,
          ⟨(some 70), (some (68, false)), .inl (.load false 1 (.t 69))⟩,
          ⟨(some 71), (some (68, false)), .inl (.faddr 5 (.t 6))⟩,
          ⟨(some 72), (some (68, false)), .inl (.load false 1 (.t 71))⟩,
          ⟨(some 73), (some (68, false)), .inl (.bin .leq (.t 70) (.t 72))⟩,
          ⟨(some 74), none, .inl (.pick (.t 68) (.c (.bool true)) (.t 73))⟩,
          ⟨(some 75), none, .inl (.mv (.t 74))⟩,
          ⟨(some 76), (some (75, false)), .inl (.faddr 7 (.t 6))⟩,
          ⟨(some 77), (some (75, false)), .inl (.load false 1 (.t 76))⟩,
          ⟨(some 78), (some (75, false)), .inl (.faddr 6 (.t 6))⟩,
          ⟨(some 79), (some (75, false)), .inl (.load false 1 (.t 78))⟩,
          ⟨(some 80), (some (75, false)), .inl (.bin .leq (.t 77) (.t 79))⟩,
          ⟨(some 81), none, .inl (.pick (.t 75) (.c (.bool true)) (.t 80))⟩,
          ⟨(some 82), none, .inl (.mv (.t 81))⟩,
          ⟨(some 83), (some (82, false)), .inl (.faddr 8 (.t 6))⟩,
          ⟨(some 84), (some (82, false)), .inl (.load false 1 (.t 83))⟩,
          ⟨(some 85), (some (82, false)), .inl (.faddr 7 (.t 6))⟩,
          ⟨(some 86), (some (82, false)), .inl (.load false 1 (.t 85))⟩,
          ⟨(some 87), (some (82, false)), .inl (.bin .leq (.t 84) (.t 86))⟩,
          ⟨(some 88), none, .inl (.pick (.t 82) (.c (.bool true)) (.t 87))⟩,
          ⟨(some 89), none, .inl (.mv (.t 88))⟩,
          ⟨(some 90), (some (89, false)), .inl (.faddr 8 (.t 6))⟩,
          ⟨(some 91), (some (89, false)), .inl (.load false 1 (.t 90))⟩,
          ⟨(some 92), (some (89, false)), .inl (.bin .gtr (.t 91) (.c (.int .i64 4096)))⟩,
          ⟨(some 93), none, .inl (.pick (.t 89) (.c (.bool true)) (.t 92))⟩])
       (.keep [1, 2, 5, 6, 93]))
       (.cond (.t 93)
         (.seq (.seq (.reg [⟨(some 4), none, .inl (.mv (.c (.bool false)))⟩])
          (.keep [4]))
          (.ret))
         (.skip)))
       (.seq (.seq (.reg [⟨(some 94), none, .inl (.faddr 0 (.t 6))⟩,
           ⟨(some 95), none, .inl (.load true 3 (.t 94))⟩,
           ⟨(some 96), none, .inl (.mv (.t 1))⟩,
           ⟨(some 97), none, .inr (.call 14 [(.t 95), (.t 96)])⟩,
           ⟨(some 98), none, .inl (.mv (.t 97))⟩,
           ⟨(some 99), (some (98, true)), .inl (.mv (.t 1))⟩,
           ⟨(some 100), (some (98, true)), .inl (.faddr 0 (.t 6))⟩,
           ⟨(some 101), (some (98, true)), .inl (.faddr 0 (.t 100))⟩,
           ⟨(some 102), (some (98, true)), .inl (.load false 1 (.t 101))⟩,
           ⟨(some 103), (some (98, true)), .inl (.bin .neq (.t 99) (.t 102))⟩,
           ⟨(some 104), none, .inl (.pick (.t 98) (.t 103) (.c (.bool false)))⟩,
           ⟨(some 8), none, .inl (.mv (.t 104))⟩])
        (.keep [1, 2, 5, 6, 8]))
        (.seq (.seq (.reg [⟨(some 105), none, .inl (.mv (.t 5))⟩,
            ⟨(some 106), none, .inl (.mv (.t 105))⟩,
            ⟨(some 107), (some (106, true)), .inl (.load true 4 (.t 2))⟩,
            ⟨(some 108), (some (106, true)), .inl (.mv (.t 1))⟩,
            ⟨(some 109), (some (106, true)), .inr (.call 11 [(.t 107), (.t 108)])⟩,
            ⟨(some 110), (some (106, true)), .inl (.mv (.t 1))⟩,
            ⟨(some 111), (some (106, true)), .inl (.bin .geq (.t 110) (.c (.int .i64 0)))⟩,
            ⟨(some 112), (some (106, true)), .inl (.mv (.t 111))⟩,
            ⟨(some 113), (some (112, true)), .inl (.mv (.t 1))⟩,
            ⟨(some 114), (some (112, true)), .inl (.faddr 8 (.t 6))⟩,
            ⟨(some 115), (some (112, true)), .inl (.load false 1 (.t 114))⟩,
            ⟨(some 116), (some (112, true)), .inl (.bin .lss (.t 113) (.t 115))⟩,
            ⟨(some 117), (some (106, true)), .inl (.pick (.t 112) (.t 116) (.c (.bool false)))⟩,
            ⟨(some 118), (some (106, true)), .inl (.mv (.t 117))⟩,
            ⟨(some 119), (some (118, true)), .inl (.mv (.t 8))⟩,
            ⟨(some 120), (some (118, true)), .inl (.un .not (.t 119))⟩,
            ⟨(some 121), (some (106, true)), .inl (.pick (.t 118) (.t 120) (.c (.bool false)))⟩,
            ⟨(some 122), (some (106, true)), .inl (.binb .eql (.t 109) (.t 121))⟩,
            ⟨(some 123), none, .inl (.pick (.t 106) (.t 122) (.c (.bool false)))⟩,
            ⟨(some 124), none, .inl (.mv (.t 123))⟩,
            ⟨(some 125), (some (124, true)), .inl (.faddr 5 (.t 6))⟩,
            ⟨(some 126), (some (124, true)), .inl (.load false 1 (.t 125))⟩,
            ⟨(some 127), (some (124, true)), .inl (.faddr 4 (.t 6))⟩,
            ⟨(some 128), (some (124, true)), .inl (.load false 1 (.t 127))⟩,
            ⟨(some 129), (some (124, true)), .inl (.bin .sub (.t 126) (.t 128))⟩,
            ⟨(some 130), (some (124, true)), .inl (.faddr 1 (.t 2))⟩,
            ⟨(some 131), (some (124, true)), .inl (.load false 1 (.t 130))⟩,
            ⟨(some 132), (some (124, true)), .inl (.bin .quo (.t 131) (.c (.int .i64 2)))⟩,
            ⟨(some 133), (some (124, true)), .inl (.bin .eql (.t 129) (.t 132))⟩,
            ⟨(some 134), none, .inl (.pick (.t 124) (.t 133) (.c (.bool false)))⟩,
            ⟨(some 135), none, .inl (.mv (.t 134))⟩,
            ⟨(some 136), (some (135, true)), .inl (.faddr 6 (.t 6))⟩,
            ⟨(some 137), (some (135, true)), .inl (.load false 1 (.t 136))⟩,
            ⟨(some 138), (some (135, true)), .inl (.faddr 5 (.t 6))⟩,
            ⟨(some 139), (some (135, true)), .inl (.load false 1 (.t 138))⟩,
            ⟨(some 140), (some (135, true)), .inl (.bin .sub (.t 137) (.t 139))⟩,
            ⟨(some 141), (some (135, true)), .inl (.faddr 2 (.t 2))⟩,
            ⟨(some 142), (some (135, true)), .inl (.load false 1 (.t 141))⟩,
            ⟨(some 143), (some (135, true)), .inl (.bin .quo (.t 142) (.c (.int .i64 2)))⟩,
            ⟨(some 144), (some (135, true)), .inl (.bin .eql (.t 140) (.t 143))⟩,
            ⟨(some 145), none, .inl (.pick (.t 135) (.t 144) (.c (.bool false)))⟩,
            ⟨(some 146), none, .inl (.mv (.t 145))⟩,
            ⟨(some 147), (some (146, true)), .inl (.faddr 8 (.t 6))⟩,
            ⟨(some 148), (some (146, true)), .inl (.load false 1 (.t 147))⟩,
            ⟨(some 149), (some (146, true)), .inl (.faddr 7 (.t 6))⟩,
            ⟨(some 150), (some (146, true)), .inl (.load false 1 (.t 149))⟩,
            ⟨(some 151), (some (146, true)), .inl (.bin .sub (.t 148) (.t 150))⟩,
            ⟨(some 152), (some (146, true)), .inl (.bin .mul (.c (.int .i64 8)) (.t 151))⟩,
            ⟨(some 153), (some (146, true)), .inl (.faddr 0 (.t 2))⟩,
            ⟨(some 154), (some (146, true)), .inl (.load false 1 (.t 153))⟩,
            ⟨(some 155), (some (146, true)), .inl (.bin .mul (.c (.int .i64 32)) (.t 154))⟩,
            ⟨(some 156), (some (146, true)), .inl (.bin .eql (.t 152) (.t 155))⟩,
            ⟨(some 157), none, .inl (.pick (.t 146) (.t 156) (.c (.bool false)))⟩,
            ⟨(some 4), none, .inl (.mv (.t 157))⟩])
         (.keep [4]))
         (.ret)))))))
def fc_joistlaw16_ShapeParts : FC := ⟨158, cmd_joistlaw16_ShapeParts, [.t 4]⟩
theorem fc_joistlaw16_ShapeParts_ok : compF Try.prog 5 [[1, 2], [1, 2, 5], [1, 2, 5, 6, 7], [1, 2, 5, 6, 16], [4], [1, 2, 5, 6, 93], [4], [1, 2, 5, 6, 8], [4]] = some fc_joistlaw16_ShapeParts := by kernel_rfl
/-- joist/joistlaw16.small -/
abbrev F.joistlaw16_small : Nat := 6
def cmd_joistlaw16_small : Cmd :=
  .seq (.seq (.reg [⟨(some 0), none, .inl (.mv (.c (.bool false)))⟩])
   (.keep []))
   (.seq (.seq (.reg [⟨(some 4), none, .inl (.build [(.int .i64 0), (.int .i64 0), (.int .i64 0), (.int .i64 0)] [(0, 1, (.c (.int .i64 4))), (1, 1, (.c (.int .i64 4))), (2, 1, (.c (.int .i64 2))), (3, 1, (.c (.int .i64 30)))])⟩,
       ⟨(some 5), none, .inr (.call 7 [(.t 4)])⟩,
       ⟨(some 3), none, .inl (.mv (.t 5))⟩,
       ⟨(some 6), none, .inl (.ext 0 (.t 3))⟩,
       ⟨(some 7), none, .inl (.ext 1 (.t 3))⟩,
       ⟨(some 1), none, .inr (.alloc [(.int .i64 0), (.int .i64 0), (.int .i64 0), (.int .i64 0), (.int .i64 0), (.int .i64 0), (.int .i64 0), (.int .i64 0), (.int .i64 0)])⟩,
       ⟨none, none, .inr (.store 9 (.t 1) (.t 6))⟩,
       ⟨(some 2), none, .inl (.mv (.t 7))⟩])
    (.keep [1, 2]))
    (.seq (.seq (.reg [⟨(some 8), none, .inl (.mv (.t 2))⟩,
        ⟨(some 9), none, .inl (.bin .eql (.t 8) (.c (.int .i64 0)))⟩,
        ⟨(some 10), none, .inl (.mv (.t 9))⟩,
        ⟨(some 11), (some (10, true)), .inl (.load true 9 (.t 1))⟩,
        ⟨(some 12), (some (10, true)), .inl (.build [(.int .i64 0), (.int .i64 0), (.int .i64 0)] [(0, 1, (.c (.int .i64 1))), (1, 1, (.c (.int .i64 2))), (2, 1, (.c (.int .i64 30)))])⟩,
        ⟨(some 13), (some (10, true)), .inl (.build [(.int .i64 0), (.int .i64 0), (.int .i64 0), (.int .i64 0), (.int .i64 0), (.int .i64 0), (.int .i64 0), (.int .i64 0), (.int .i64 0)] [(0, 3, (.t 12)), (3, 1, (.c (.int .i64 62))), (4, 1, (.c (.int .i64 63))), (5, 1, (.c (.int .i64 65))), (6, 1, (.c (.int .i64 66))), (7, 1, (.c (.int .i64 92))), (8, 1, (.c (.int .i64 108)))])⟩,
        ⟨(some 14), (some (10, true)), .inl (.eqagg false [0, 0, 0, 0, 0, 0, 0, 0, 0] (.t 11) (.t 13))⟩,
        ⟨(some 15), none, .inl (.pick (.t 10) (.t 14) (.c (.bool false)))⟩,
        ⟨(some 16), none, .inl (.mv (.t 15))⟩,
        ⟨(some 17), (some (16, true)), .inl (.build [(.int .i64 0), (.int .i64 0), (.int .i64 0), (.int .i64 0)] [])⟩,
        ⟨(some 18), (some (16, true)), .inr (.call 9 [(.t 17)])⟩,
        ⟨(some 19), (some (16, true)), .inl (.un .not (.t 18))⟩,
        ⟨(some 20), none, .inl (.pick (.t 16) (.t 19) (.c (.bool false)))⟩,
        ⟨(some 0), none, .inl (.mv (.t 20))⟩])
     (.keep [0]))
     (.ret)))
def fc_joistlaw16_small : FC := ⟨21, cmd_joistlaw16_small, [.t 0]⟩
theorem fc_joistlaw16_small_ok : compF Try.prog 6 [[], [1, 2], [0]] = some fc_joistlaw16_small := by kernel_rfl
/-- joist/shape.Areas -/
abbrev F.shape_Areas : Nat := 7
def cmd_shape_Areas : Cmd :=
  .seq (.seq (.reg [⟨(some 1), none, .inr (.box 4 (.t 0))⟩,
      ⟨(some 2), none, .inr (.alloc [(.int .i64 0), (.int .i64 0), (.int .i64 0), (.int .i64 0), (.int .i64 0), (.int .i64 0), (.int .i64 0), (.int .i64 0), (.int .i64 0)])⟩,
      ⟨(some 3), none, .inl (.mv (.c (.int .i64 0)))⟩])
   (.keep [1, 2]))
   (.seq (.seq (.seq (.reg [⟨(some 5), none, .inl (.load true 4 (.t 1))⟩,
       ⟨(some 6), none, .inr (.call 15 [(.t 5)])⟩,
       ⟨(some 7), none, .inl (.un .not (.t 6))⟩])
    (.keep [1, 2, 7]))
    (.cond (.t 7)
      (.seq (.seq (.reg [⟨(some 8), none, .inl (.build [(.int .i64 0), (.int .i64 0), (.int .i64 0), (.int .i64 0), (.int .i64 0), (.int .i64 0), (.int .i64 0), (.int .i64 0), (.int .i64 0)] [])⟩,
          ⟨none, none, .inr (.store 9 (.t 2) (.t 8))⟩,
          ⟨(some 3), none, .inl (.mv (.c (.int .i64 1)))⟩])
       (.keep [2, 3]))
       (.ret))
      (.skip)))
    (.seq (.seq (.reg [⟨(some 9), none, .inl (.load true 4 (.t 1))⟩,
        ⟨(some 10), none, .inr (.call 16 [(.t 9)])⟩,
        ⟨(some 4), none, .inr (.alloc [(.int .i64 0), (.int .i64 0), (.int .i64 0), (.int .i64 0), (.int .i64 0), (.int .i64 0), (.int .i64 0), (.int .i64 0), (.int .i64 0)])⟩,
        ⟨none, none, .inr (.store 9 (.t 4) (.t 10))⟩])
     (.keep [2, 4]))
     (.seq (.seq (.seq (.reg [⟨(some 11), none, .inl (.faddr 8 (.t 4))⟩,
         ⟨(some 12), none, .inl (.load false 1 (.t 11))⟩,
         ⟨(some 13), none, .inl (.bin .gtr (.t 12) (.c (.int .i64 4096)))⟩,
         ⟨(some 14), none, .inl (.mv (.t 13))⟩,
         ⟨(some 15), (some (14, false)), .inl (.faddr 0 (.t 4))⟩,
         ⟨(some 16), (some (14, false)), .inl (.load true 3 (.t 15))⟩,
         ⟨(some 17), (some (14, false)), .inl (.faddr 8 (.t 4))⟩,
         ⟨(some 18), (some (14, false)), .inl (.load false 1 (.t 17))⟩,
         ⟨(some 19), (some (14, false)), .inr (.call 13 [(.t 16), (.t 18)])⟩,
         ⟨(some 20), (some (14, false)), .inl (.un .not (.t 19))⟩,
         ⟨(some 21), none, .inl (.pick (.t 14) (.c (.bool true)) (.t 20))⟩])
      (.keep [2, 4, 21]))
      (.cond (.t 21)
        (.seq (.seq (.reg [⟨(some 22), none, .inl (.build [(.int .i64 0), (.int .i64 0), (.int .i64 0), (.int .i64 0), (.int .i64 0), (.int .i64 0), (.int .i64 0), (.int .i64 0), (.int .i64 0)] [])⟩,
            ⟨none, none, .inr (.store 9 (.t 2) (.t 22))⟩,
            ⟨(some 3), none, .inl (.mv (.c (.int .i64 1)))⟩])
         (.keep [2, 3]))
         (.ret))
        (.skip)))
      (.seq (.seq (.reg [⟨(some 23), none, .inl (.load true 9 (.t 4))⟩,
          ⟨none, none, .inr (.store 9 (.t 2) (.t 23))⟩,
          ⟨(some 3), none, .inl (.mv (.c (.int .i64 0)))⟩])
       (.keep [2, 3]))
       (.ret)))))
def fc_shape_Areas : FC := ⟨24, cmd_shape_Areas, [.cell 2 true 9, .t 3]⟩
theorem fc_shape_Areas_ok : compF Try.prog 7 [[1, 2], [1, 2, 7], [2, 3], [2, 4], [2, 4, 21], [2, 3], [2, 3]] = some fc_shape_Areas := by kernel_rfl
/-- joist/joistref16.Areas -/
abbrev F.joistref16_Areas : Nat := 8
def cmd_joistref16_Areas : Cmd :=
  .seq (.seq (.reg [⟨(some 1), none, .inr (.box 4 (.t 0))⟩,
      ⟨(some 2), none, .inr (.alloc [(.int .i64 0), (.int .i64 0), (.int .i64 0), (.int .i64 0), (.int .i64 0), (.int .i64 0), (.int .i64 0), (.int .i64 0), (.int .i64 0)])⟩,
      ⟨(some 3), none, .inl (.mv (.c (.int .i64 0)))⟩])
   (.keep [1, 2]))
   (.seq (.seq (.reg [⟨(some 5), none, .inl (.load true 4 (.t 1))⟩,
       ⟨(some 6), none, .inr (.call 10 [(.t 5)])⟩,
       ⟨(some 4), none, .inl (.mv (.t 6))⟩])
    (.keep [1, 2, 4]))
    (.seq (.seq (.seq (.reg [⟨(some 7), none, .inl (.mv (.t 4))⟩,
        ⟨(some 8), none, .inl (.un .not (.t 7))⟩])
     (.keep [1, 2, 8]))
     (.cond (.t 8)
       (.seq (.seq (.reg [⟨(some 9), none, .inl (.build [(.int .i64 0), (.int .i64 0), (.int .i64 0), (.int .i64 0), (.int .i64 0), (.int .i64 0), (.int .i64 0), (.int .i64 0), (.int .i64 0)] [])⟩,
           ⟨none, none, .inr (.store 9 (.t 2) (.t 9))⟩,
           ⟨(some 3), none, .inl (.mv (.c (.int .i64 1)))⟩])
        (.keep [2, 3]))
        (.ret))
       (.skip)))
     (.seq (.seq (.reg [⟨(some 10), none, .inl (.load true 4 (.t 1))⟩,
         ⟨(some 11), none, .inr (.call 17 [(.t 10)])⟩,
         ⟨none, none, .inr (.store 9 (.t 2) (.t 11))⟩,
         ⟨(some 3), none, .inl (.mv (.c (.int .i64 0)))⟩])
      (.keep [2, 3]))
      (.ret))))
def fc_joistref16_Areas : FC := ⟨12, cmd_joistref16_Areas, [.cell 2 true 9, .t 3]⟩
theorem fc_joistref16_Areas_ok : compF Try.prog 8 [[1, 2], [1, 2, 4], [1, 2, 8], [2, 3], [2, 3]] = some fc_joistref16_Areas := by kernel_rfl
/-- joist/shape.Right -/
abbrev F.shape_Right : Nat := 9
def cmd_shape_Right : Cmd :=
  .seq (.seq (.reg [⟨(some 1), none, .inr (.box 4 (.t 0))⟩,
      ⟨(some 2), none, .inl (.mv (.c (.bool false)))⟩])
   (.keep [1]))
   (.seq (.seq (.reg [⟨(some 6), none, .inl (.load true 4 (.t 1))⟩,
       ⟨(some 7), none, .inr (.call 7 [(.t 6)])⟩,
       ⟨(some 5), none, .inl (.mv (.t 7))⟩,
       ⟨(some 8), none, .inl (.ext 0 (.t 5))⟩,
       ⟨(some 9), none, .inl (.ext 1 (.t 5))⟩,
       ⟨(some 3), none, .inr (.alloc [(.int .i64 0), (.int .i64 0), (.int .i64 0), (.int .i64 0), (.int .i64 0), (.int .i64 0), (.int .i64 0), (.int .i64 0), (.int .i64 0)])⟩,
       ⟨none, none, .inr (.store 9 (.t 3) (.t 8))⟩,
       ⟨(some 4), none, .inl (.mv (.t 9))⟩])
    (.keep [3, 4]))
    (.seq (.seq (.reg [⟨(some 10), none, .inl (.mv (.t 4))⟩,
        ⟨(some 11), none, .inl (.bin .eql (.t 10) (.c (.int .i64 0)))⟩,
        ⟨(some 12), none, .inl (.mv (.t 11))⟩,
        ⟨(some 13), (some (12, true)), .inl (.load true 9 (.t 3))⟩,
        ⟨(some 14), (some (12, true)), .inl (.build [(.int .i64 0), (.int .i64 0), (.int .i64 0), (.int .i64 0), (.int .i64 0), (.int .i64 0), (.int .i64 0), (.int .i64 0), (.int .i64 0)] [])⟩,
        ⟨(some 15), (some (12, true)), .inl (.eqagg true [0, 0, 0, 0, 0, 0, 0, 0, 0] (.t 13) (.t 14))⟩,
        ⟨(some 16), none, .inl (.pick (.t 12) (.t 15) (.c (.bool false)))⟩,
        ⟨(some 2), none, .inl (.mv (.t 16))⟩])
     (.keep [2]))
     (.ret)))
def fc_shape_Right : FC := ⟨17, cmd_shape_Right, [.t 2]⟩
theorem fc_shape_Right_ok : compF Try.prog 9 [[1], [3, 4], [2]] = some fc_shape_Right := by kernel_rfl
/-- joist/joistref16.Right -/
abbrev F.joistref16_Right : Nat := 10
def cmd_joistref16_Right : Cmd :=
  .seq (.seq (.reg [⟨(some 1), none, .inr (.box 4 (.t 0))⟩,
      ⟨(some 2), none, .inl (.mv (.c (.bool false)))⟩])
   (.keep [1]))
   (.seq (.seq (.seq (.reg [⟨(some 3), none, .inl (.faddr 0 (.t 1))⟩,
       ⟨(some 4), none, .inl (.load false 1 (.t 3))⟩,
       ⟨(some 5), none, .inl (.bin .lss (.t 4) (.c (.int .i64 1)))⟩,
       ⟨(some 6), none, .inl (.mv (.t 5))⟩,
       ⟨(some 7), (some (6, false)), .inl (.faddr 0 (.t 1))⟩,
       ⟨(some 8), (some (6, false)), .inl (.load false 1 (.t 7))⟩,
       ⟨(some 9), (some (6, false)), .inl (.bin .gtr (.t 8) (.c (.int .i64 64)))⟩,
       ⟨(some 10), none, .inl (.pick (.t 6) (.c (.bool true)) (.t 9))⟩,
       ⟨(some 11), none, .inl (.mv (.t 10))⟩,
       ⟨(some 12), (some (11, false)), .inl (.faddr 1 (.t 1))⟩,
       ⟨(some 13), (some (11, false)), .inl (.load false 1 (.t 12))⟩,
       ⟨(some 14), (some (11, false)), .inl (.bin .lss (.t 13) (.c (.int .i64 2)))⟩,
       ⟨(some 15), none, .inl (.pick (.t 11) (.c (.bool true)) (.t 14))⟩,
       ⟨(some 16), none, .inl (.mv (.t 15))⟩,
       ⟨(some 17), (some (16, false)), .inl (.faddr 1 (.t 1))⟩,
       ⟨(some 18), (some (16, false)), .inl (.load false 1 (.t 17))⟩,
       ⟨(some 19), (some (16, false)), .inl (.bin .gtr (.t 18) (.c (.int .i64 32)))⟩,
       ⟨(some 20), none, .inl (.pick (.t 16) (.c (.bool true)) (.t 19))⟩,
       ⟨(some 21), none, .inl (.mv (.t 20))⟩,
       ⟨(some 22), (some (21, false)), .inl (.faddr 1 (.t 1))⟩,
       ⟨(some 23), (some (21, false)), .inl (.load false 1 (.t 22))⟩,
       ⟨(some 24), (some (21, false)), .inl (.bin .rem (.t 23) (.c (.int .i64 2)))⟩,
       ⟨(some 25), (some (21, false)), .inl (.bin .eql (.t 24) (.c (.int .i64 1)))⟩,
       ⟨(some 26), none, .inl (.pick (.t 21) (.c (.bool true)) (.t 25))⟩,
       ⟨(some 27), none, .inl (.mv (.t 26))⟩,
       ⟨(some 28), (some (27, false)), .inl (.faddr 2 (.t 1))⟩,
       ⟨(some 29), (some (27, false)), .inl (.load false 1 (.t 28))⟩,
       ⟨(some 30), (some (27, false)), .inl (.bin .lss (.t 29) (.c (.int .i64 2)))⟩,
       ⟨(some 31), none, .inl (.pick (.t 27) (.c (.bool true)) (.t 30))⟩,
       ⟨(some 32), none, .inl (.mv (.t 31))⟩,
       ⟨(some 33), (some (32, false)), .inl (.faddr 2 (.t 1))⟩,
       ⟨(some 34), (some (32, false)), .inl (.load false 1 (.t 33))⟩,
       ⟨(some 35), (some (32, false)), .inl (.bin .gtr (.t 34) (.c (.int .i64 8)))⟩,
       ⟨(some 36), none, .inl (.pick (.t 32) (.c (.bool true)) (.t 35))⟩,
       ⟨(some 37), none, .inl (.mv (.t 36))⟩,
       ⟨(some 38), (some (37, false)), .inl (.faddr 2 (.t 1))⟩,
       ⟨(some 39), (some (37, false)), .inl (.load false 1 (.t 38))⟩,
       ⟨(some 40), (some (37, false)), .inl (.bin .rem (.t 39) (.c (.int .i64 2)))⟩,
       ⟨(some 41), (some (37, false)), .inl (.bin .eql (.t 40) (.c (.int .i64 1)))⟩,
       ⟨(some 42), none, .inl (.pick (.t 37) (.c (.bool true)) (.t 41))⟩,
       ⟨(some 43), none, .inl (.mv (.t 42))⟩,
       ⟨(some 44), (some (43, false)), .inl (.faddr 3 (.t 1))⟩,
       ⟨(some 45), (some (43, false)), .inl (.load false 1 (.t 44))⟩,
       ⟨(some 46), (some (43, false)), .inl (.bin .lss (.t 45) (.c (.int .i64 1)))⟩,
       ⟨(some 47), none, .inl (.pick (.t 43) (.c (.bool true)) (.t 46))⟩,
       ⟨(some 48), none, .inl (.mv (.t 47))⟩,
       ⟨(some 49), (some (48, false)), .inl (.faddr 3 (.t 1))⟩,
       ⟨(some 50), (some (48, false)), .inl (.load false 1 (.t 49))⟩,
       ⟨(some 51), (some (48, false)), .inl (.bin .gtr (.t 50) (.c (.int .i64 4096)))⟩,
       ⟨(some 52), none, .inl (.pick (.t 48) (.c (.bool true)) (.t 51))⟩])
    (.keep [1, 52]))
    (.cond (.t 52)
      (.seq (.seq (.reg [⟨(some 2), none, .inl (.mv (.c (.bool false)))⟩])
       (.keep [2]))
       (.ret))
      (.skip)))
    (.seq (.seq (.reg [⟨(some 53), none, .inl (.load true 4 (.t 1))⟩,
        ⟨(some 54), none, .inr (.call 17 [(.t 53)])⟩,
        ⟨(some 55), none, .inl (.fld false 8 1 (.t 54))⟩,
        ⟨(some 56), none, .inl (.bin .leq (.t 55) (.c (.int .i64 4096)))⟩,
        ⟨(some 2), none, .inl (.mv (.t 56))⟩])
     (.keep [2]))
     (.ret)))
def fc_joistref16_Right : FC := ⟨57, cmd_joistref16_Right, [.t 2]⟩
theorem fc_joistref16_Right_ok : compF Try.prog 10 [[1], [1, 52], [2], [2]] = some fc_joistref16_Right := by kernel_rfl
/-- joist/shape.Outside -/
abbrev F.shape_Outside : Nat := 11
def cmd_shape_Outside : Cmd :=
  .seq (.seq (.reg [⟨(some 2), none, .inr (.box 4 (.t 0))⟩,
      ⟨(some 4), none, .inl (.mv (.c (.bool false)))⟩])
   (.keep [1, 2]))
   (.seq (.seq (.reg [⟨(some 8), none, .inl (.load true 4 (.t 2))⟩,
       ⟨(some 9), none, .inr (.call 7 [(.t 8)])⟩,
       ⟨(some 7), none, .inl (.mv (.t 9))⟩,
       ⟨(some 10), none, .inl (.ext 0 (.t 7))⟩,
       ⟨(some 11), none, .inl (.ext 1 (.t 7))⟩,
       ⟨(some 5), none, .inr (.alloc [(.int .i64 0), (.int .i64 0), (.int .i64 0), (.int .i64 0), (.int .i64 0), (.int .i64 0), (.int .i64 0), (.int .i64 0), (.int .i64 0)])⟩,
       ⟨none, none, .inr (.store 9 (.t 5) (.t 10))⟩,
       ⟨(some 6), none, .inl (.mv (.t 11))⟩])
    (.keep [1, 5, 6]))
    (.seq (.seq (.reg [⟨(some 12), none, .inl (.mv (.t 6))⟩,
        ⟨(some 13), none, .inl (.bin .eql (.t 12) (.c (.int .i64 0)))⟩,
        ⟨(some 14), none, .inl (.mv (.t 13))⟩,
        ⟨(some 15), (some (14, true)), .inl (.mv (.t 1))⟩,
        ⟨(some 16), (some (14, true)), .inl (.bin .geq (.t 15) (.c (.int .i64 0)))⟩,
        ⟨(some 17), none, .inl (.pick (.t 14) (.t 16) (.c (.bool false)))⟩,
        ⟨(some 18), none, .inl (.mv (.t 17))⟩,
        ⟨(some 19), (some (18, true)), .inl (.mv (.t 1))⟩,
        ⟨(some 20), (some (18, true)), .inl (.faddr 8 (.t 5))⟩,
        ⟨(some 21), (some (18, true)), .inl (.load false 1 (.t 20))⟩,
        ⟨(some 22), (some (18, true)), .inl (.bin .lss (.t 19) (.t 21))⟩,
        ⟨(some 23), none, .inl (.pick (.t 18) (.t 22) (.c (.bool false)))⟩,
        ⟨(some 24), none, .inl (.mv (.t 23))⟩,
        ⟨(some 25), (some (24, true)), .inl (.mv (.t 1))⟩,
        ⟨(some 26), (some (24, true)), .inl (.faddr 0 (.t 5))⟩,
        ⟨(some 27), (some (24, true)), .inl (.faddr 1 (.t 26))⟩,
        ⟨(some 28), (some (24, true)), .inl (.load false 1 (.t 27))⟩,
        ⟨(some 29), (some (24, true)), .inl (.bin .lss (.t 25) (.t 28))⟩,
        ⟨(some 30), (some (24, true)), .inl (.mv (.t 29))⟩,
        ⟨(some 31), (some (30, false)), .inl (.mv (.t 1))⟩,
        ⟨(some 32), (some (30, false)), .inl (.faddr 3 (.t 5))⟩,
        ⟨(some 33), (some (30, false)), .inl (.load false 1 (.t 32))⟩,
        ⟨(some 34), (some (30, false)), .inl (.bin .geq (.t 31) (.t 33))⟩,
        ⟨(some 35), (some (24, true)), .inl (.pick (.t 30) (.c (.bool true)) (.t 34))⟩,
        ⟨(some 36), none, .inl (.pick (.t 24) (.t 35) (.c (.bool false)))⟩,
        ⟨(some 4), none, .inl (.mv (.t 36))⟩])
     (.keep [4]))
     (.ret)))
def fc_shape_Outside : FC := ⟨37, cmd_shape_Outside, [.t 4]⟩
theorem fc_shape_Outside_ok : compF Try.prog 11 [[1, 2], [1, 5, 6], [4]] = some fc_shape_Outside := by kernel_rfl
/-- joist/joistref16.Outside -/
abbrev F.joistref16_Outside : Nat := 12
def cmd_joistref16_Outside : Cmd :=
  .seq (.seq (.reg [⟨(some 2), none, .inr (.box 4 (.t 0))⟩,
      ⟨(some 4), none, .inl (.mv (.c (.bool false)))⟩])
   (.keep [1, 2]))
   (.seq (.seq (.reg [⟨(some 8), none, .inl (.load true 4 (.t 2))⟩,
       ⟨(some 9), none, .inr (.call 8 [(.t 8)])⟩,
       ⟨(some 7), none, .inl (.mv (.t 9))⟩,
       ⟨(some 10), none, .inl (.ext 0 (.t 7))⟩,
       ⟨(some 11), none, .inl (.ext 1 (.t 7))⟩,
       ⟨(some 5), none, .inr (.alloc [(.int .i64 0), (.int .i64 0), (.int .i64 0), (.int .i64 0), (.int .i64 0), (.int .i64 0), (.int .i64 0), (.int .i64 0), (.int .i64 0)])⟩,
       ⟨none, none, .inr (.store 9 (.t 5) (.t 10))⟩,
       ⟨(some 6), none, .inl (.mv (.t 11))⟩])
    (.keep [1, 5, 6]))
    (.seq (.seq (.reg [⟨(some 12), none, .inl (.mv (.t 6))⟩,
        ⟨(some 13), none, .inl (.bin .eql (.t 12) (.c (.int .i64 0)))⟩,
        ⟨(some 14), none, .inl (.mv (.t 13))⟩,
        ⟨(some 15), (some (14, true)), .inl (.mv (.t 1))⟩,
        ⟨(some 16), (some (14, true)), .inl (.bin .geq (.t 15) (.c (.int .i64 0)))⟩,
        ⟨(some 17), none, .inl (.pick (.t 14) (.t 16) (.c (.bool false)))⟩,
        ⟨(some 18), none, .inl (.mv (.t 17))⟩,
        ⟨(some 19), (some (18, true)), .inl (.mv (.t 1))⟩,
        ⟨(some 20), (some (18, true)), .inl (.faddr 8 (.t 5))⟩,
        ⟨(some 21), (some (18, true)), .inl (.load false 1 (.t 20))⟩,
        ⟨(some 22), (some (18, true)), .inl (.bin .lss (.t 19) (.t 21))⟩,
        ⟨(some 23), none, .inl (.pick (.t 18) (.t 22) (.c (.bool false)))⟩,
        ⟨(some 24), none, .inl (.mv (.t 23))⟩,
        ⟨(some 25), (some (24, true)), .inl (.mv (.t 1))⟩,
        ⟨(some 26), (some (24, true)), .inl (.bin .lss (.t 25) (.c (.int .i64 2)))⟩,
        ⟨(some 27), (some (24, true)), .inl (.mv (.t 26))⟩,
        ⟨(some 28), (some (27, false)), .inl (.mv (.t 1))⟩,
        ⟨(some 29), (some (27, false)), .inl (.faddr 3 (.t 5))⟩,
        ⟨(some 30), (some (27, false)), .inl (.load false 1 (.t 29))⟩,
        ⟨(some 31), (some (27, false)), .inl (.bin .geq (.t 28) (.t 30))⟩,
        ⟨(some 32), (some (24, true)), .inl (.pick (.t 27) (.c (.bool true)) (.t 31))⟩,
        ⟨(some 33), none, .inl (.pick (.t 24) (.t 32) (.c (.bool false)))⟩,
        ⟨(some 4), none, .inl (.mv (.t 33))⟩])
     (.keep [4]))
     (.ret)))
def fc_joistref16_Outside : FC := ⟨34, cmd_joistref16_Outside, [.t 4]⟩
theorem fc_joistref16_Outside_ok : compF Try.prog 12 [[1, 2], [1, 5, 6], [4]] = some fc_joistref16_Outside := by kernel_rfl
/-- joist/wal.Right -/
abbrev F.wal_Right : Nat := 13
def cmd_wal_Right : Cmd :=
  .seq (.seq (.reg [⟨(some 2), none, .inr (.box 3 (.t 0))⟩,
      ⟨(some 4), none, .inl (.mv (.c (.bool false)))⟩])
   (.keep [1, 2]))
   (.seq (.block 0 (.seq (.seq (.seq (.reg [⟨(some 6), none, .inl (.faddr 2 (.t 2))⟩,
       ⟨(some 7), none, .inl (.load false 1 (.t 6))⟩,
       ⟨(some 8), none, .inl (.bin .lss (.t 7) (.c (.int .i64 1)))⟩,
       ⟨(some 5), none, .inl (.mv (.t 8))⟩])
    (.keep [1, 2, 5]))
    (.cond (.t 5)
      (.skip)
      (.seq (.seq (.reg [⟨(some 9), none, .inl (.faddr 2 (.t 2))⟩,
          ⟨(some 10), none, .inl (.load false 1 (.t 9))⟩,
          ⟨(some 11), none, .inl (.bin .gtr (.t 10) (.c (.int .i64 4096)))⟩,
          ⟨(some 5), none, .inl (.mv (.t 11))⟩])
       (.keep [1, 2, 5]))
       (.cond (.t 5)
         (.skip)
         (.seq (.seq (.reg [⟨(some 12), none, .inl (.faddr 1 (.t 2))⟩,
             ⟨(some 13), none, .inl (.load false 1 (.t 12))⟩,
             ⟨(some 14), none, .inl (.bin .lss (.t 13) (.c (.int .i64 0)))⟩,
             ⟨(some 5), none, .inl (.mv (.t 14))⟩])
          (.keep [1, 2, 5]))
          (.cond (.t 5)
            (.skip)
            (.seq (.reg [⟨(some 15), none, .inl (.faddr 1 (.t 2))⟩,
                ⟨(some 16), none, .inl (.load false 1 (.t 15))⟩,
                ⟨(some 17), none, .inl (.mv (.t 1))⟩,
                ⟨(some 18), none, .inl (.bin .gtr (.t 16) (.t 17))⟩,
                ⟨(some 5), none, .inl (.mv (.t 18))⟩])
             (.keep [1, 2, 5]))))))))
    (.cond (.t 5)
      (.seq (.seq (.reg [⟨(some 4), none, .inl (.mv (.c (.bool false)))⟩])
       (.keep [4]))
       (.ret))
      (.seq (.seq (.seq (.reg [⟨(some 20), none, .inl (.faddr 2 (.t 2))⟩,
          ⟨(some 21), none, .inl (.load false 1 (.t 20))⟩,
          ⟨(some 22), none, .inl (.bin .mul (.c (.int .i64 2)) (.t 21))⟩,
          ⟨(some 23), none, .inl (.mv (.t 1))⟩,
          ⟨(some 24), none, .inl (.faddr 1 (.t 2))⟩,
          ⟨(some 25), none, .inl (.load false 1 (.t 24))⟩,
          ⟨(some 26), none, .inl (.bin .sub (.t 23) (.t 25))⟩,
          ⟨(some 27), none, .inl (.bin .gtr (.t 22) (.t 26))⟩,
          ⟨(some 19), none, .inl (.mv (.t 27))⟩])
       (.keep [1, 2, 19]))
       (.cond (.t 19)
         (.skip)
         (.seq (.seq (.reg [⟨(some 28), none, .inl (.faddr 0 (.t 2))⟩,
             ⟨(some 29), none, .inl (.load false 1 (.t 28))⟩,
             ⟨(some 30), none, .inl (.bin .lss (.t 29) (.c (.int .i64 0)))⟩,
             ⟨(some 19), none, .inl (.mv (.t 30))⟩])
          (.keep [1, 2, 19]))
          (.cond (.t 19)
            (.skip)
            (.seq (.reg [⟨(some 31), none, .inl (.faddr 0 (.t 2))⟩,
                ⟨(some 32), none, .inl (.load false 1 (.t 31))⟩,
                ⟨(some 33), none, .inl (.mv (.t 1))⟩,
                ⟨(some 34), none, .inl (.bin .geq (.t 32) (.t 33))⟩,
                ⟨(some 19), none, .inl (.mv (.t 34))⟩])
             (.keep [2, 19]))))))
       (.cond (.t 19)
         (.seq (.seq (.reg [⟨(some 4), none, .inl (.mv (.c (.bool false)))⟩])
          (.keep [4]))
          (.ret))
         (.skip))))))
    (.seq (.seq (.reg [⟨(some 35), none, .inl (.faddr 0 (.t 2))⟩,
        ⟨(some 36), none, .inl (.load false 1 (.t 35))⟩,
        ⟨(some 37), none, .inl (.faddr 1 (.t 2))⟩,
        ⟨(some 38), none, .inl (.load false 1 (.t 37))⟩,
        ⟨(some 39), none, .inl (.bin .lss (.t 36) (.t 38))⟩,
        ⟨(some 40), none, .inl (.mv (.t 39))⟩,
        ⟨(some 41), (some (40, false)), .inl (.faddr 0 (.t 2))⟩,
        ⟨(some 42), (some (40, false)), .inl (.load false 1 (.t 41))⟩,
        ⟨(some 43), (some (40, false)), .inl (.faddr 1 (.t 2))⟩,
        ⟨(some 44), (some (40, false)), .inl (.load false 1 (.t 43))⟩,
        ⟨(some 45), (some (40, false)), .inl (.bin .sub (.t 42) (.t 44))⟩,
        ⟨(some 46), (some (40, false)), .inl (.faddr 2 (.t 2))⟩,
        ⟨(some 47), (some (40, false)), .inl (.load false 1 (.t 46))⟩,
        ⟨(some 48), (some (40, false)), .inl (.bin .mul (.c (.int .i64 2)) (.t 47))⟩,
        ⟨(some 49), (some (40, false)), .inl (.bin .geq (.t 45) (.t 48))⟩,
        ⟨(some 50), none, .inl (.pick (.t 40) (.c (.bool true)) (.t 49))⟩,
        ⟨(some 4), none, .inl (.mv (.t 50))⟩])
     (.keep [4]))
     (.ret)))
def fc_wal_Right : FC := ⟨51, cmd_wal_Right, [.t 4]⟩
theorem fc_wal_Right_ok : compF Try.prog 13 [[1, 2], [1, 2, 5], [1, 2, 5], [1, 2, 5], [1, 2, 5], [4], [1, 2, 19], [1, 2, 19], [2, 19], [4], [4]] = some fc_wal_Right := by kernel_rfl
/-- joist/wal.Mine -/
abbrev F.wal_Mine : Nat := 14
def cmd_wal_Mine : Cmd :=
  .seq (.seq (.reg [⟨(some 2), none, .inr (.box 3 (.t 0))⟩,
      ⟨(some 4), none, .inl (.mv (.c (.bool false)))⟩])
   (.keep [1, 2]))
   (.seq (.seq (.reg [⟨(some 5), none, .inl (.load true 3 (.t 2))⟩,
       ⟨(some 6), none, .inr (.call 13 [(.t 5), (.c (.int .i64 4096))])⟩,
       ⟨(some 7), none, .inl (.mv (.t 6))⟩,
       ⟨(some 8), (some (7, true)), .inl (.mv (.t 1))⟩,
       ⟨(some 9), (some (7, true)), .inl (.faddr 0 (.t 2))⟩,
       ⟨(some 10), (some (7, true)), .inl (.load false 1 (.t 9))⟩,
       ⟨(some 11), (some (7, true)), .inl (.bin .eql (.t 8) (.t 10))⟩,
       ⟨(some 12), (some (7, true)), .inl (.mv (.t 11))⟩,
       ⟨(some 13), (some (12, false)), .inl (.mv (.t 1))⟩,
       ⟨(some 14), (some (12, false)), .inl (.faddr 1 (.t 2))⟩,
       ⟨(some 15), (some (12, false)), .inl (.load false 1 (.t 14))⟩,
       ⟨(some 16), (some (12, false)), .inl (.bin .geq (.t 13) (.t 15))⟩,
       ⟨(some 17), (some (12, false)), .inl (.mv (.t 16))⟩,
       ⟨(some 18), (some (17, true)), .inl (.mv (.t 1))⟩,
       ⟨(some 19), (some (17, true)), .inl (.faddr 1 (.t 2))⟩,
       ⟨(some 20), (some (17, true)), .inl (.load false 1 (.t 19))⟩,
       ⟨(some 21), (some (17, true)), .inl (.bin .sub (.t 18) (.t 20))⟩,
       ⟨(some 22), (some (17, true)), .inl (.faddr 2 (.t 2))⟩,
       ⟨(some 23), (some (17, true)), .inl (.load false 1 (.t 22))⟩,
       ⟨(some 24), (some (17, true)), .inl (.bin .mul (.c (.int .i64 2)) (.t 23))⟩,
       ⟨(some 25), (some (17, true)), .inl (.bin .lss (.t 21) (.t 24))⟩,
       ⟨(some 26), (some (12, false)), .inl (.pick (.t 17) (.t 25) (.c (.bool false)))⟩,
       ⟨(some 27), (some (7, true)), .inl (.pick (.t 12) (.c (.bool true)) (.t 26))⟩,
       ⟨(some 28), none, .inl (.pick (.t 7) (.t 27) (.c (.bool false)))⟩,
       ⟨(some 4), none, .inl (.mv (.t 28))⟩])
    (.keep [4]))
    (.ret))
def fc_wal_Mine : FC := ⟨29, cmd_wal_Mine, [.t 4]⟩
theorem fc_wal_Mine_ok : compF Try.prog 14 [[1, 2], [4]] = some fc_wal_Mine := by kernel_rfl
/-- joist/shape.sized -/
abbrev F.shape_sized : Nat := 15
def cmd_shape_sized : Cmd :=
  .seq (.seq (.reg [⟨(some 1), none, .inr (.box 4 (.t 0))⟩,
      ⟨(some 2), none, .inl (.mv (.c (.bool false)))⟩])
   (.keep [1]))
   (.seq (.block 0 (.seq (.seq (.seq (.reg [⟨(some 4), none, .inl (.faddr 0 (.t 1))⟩,
       ⟨(some 5), none, .inl (.load false 1 (.t 4))⟩,
       ⟨(some 6), none, .inl (.bin .lss (.t 5) (.c (.int .i64 1)))⟩,
       ⟨(some 3), none, .inl (.mv (.t 6))⟩])
    (.keep [1, 3]))
    (.cond (.t 3)
      (.skip)
      (.seq (.seq (.reg [⟨(some 7), none, .inl (.faddr 0 (.t 1))⟩,
          ⟨(some 8), none, .inl (.load false 1 (.t 7))⟩,
          ⟨(some 9), none, .inl (.bin .gtr (.t 8) (.c (.int .i64 64)))⟩,
          ⟨(some 3), none, .inl (.mv (.t 9))⟩])
       (.keep [1, 3]))
       (.cond (.t 3)
         (.skip)
         (.seq (.seq (.reg [⟨(some 10), none, .inl (.faddr 3 (.t 1))⟩,
             ⟨(some 11), none, .inl (.load false 1 (.t 10))⟩,
             ⟨(some 12), none, .inl (.bin .lss (.t 11) (.c (.int .i64 1)))⟩,
             ⟨(some 3), none, .inl (.mv (.t 12))⟩])
          (.keep [1, 3]))
          (.cond (.t 3)
            (.skip)
            (.seq (.reg [⟨(some 13), none, .inl (.faddr 3 (.t 1))⟩,
                ⟨(some 14), none, .inl (.load false 1 (.t 13))⟩,
                ⟨(some 15), none, .inl (.bin .gtr (.t 14) (.c (.int .i64 4096)))⟩,
                ⟨(some 3), none, .inl (.mv (.t 15))⟩])
             (.keep [1, 3]))))))))
    (.cond (.t 3)
      (.seq (.seq (.reg [⟨(some 2), none, .inl (.mv (.c (.bool false)))⟩])
       (.keep [2]))
       (.ret))
      (.seq (.seq (.seq (.reg [⟨(some 17), none, .inl (.faddr 1 (.t 1))⟩,
          ⟨(some 18), none, .inl (.load false 1 (.t 17))⟩,
          ⟨(some 19), none, .inl (.bin .lss (.t 18) (.c (.int .i64 2)))⟩,
          ⟨(some 16), none, .inl (.mv (.t 19))⟩])
       (.keep [1, 16]))
       (.cond (.t 16)
         (.skip)
         (.seq (.seq (.reg [⟨(some 20), none, .inl (.faddr 1 (.t 1))⟩,
             ⟨(some 21), none, .inl (.load false 1 (.t 20))⟩,
             ⟨(some 22), none, .inl (.bin .gtr (.t 21) (.c (.int .i64 32)))⟩,
             ⟨(some 16), none, .inl (.mv (.t 22))⟩])
          (.keep [1, 16]))
          (.cond (.t 16)
            (.skip)
            (.seq (.reg [⟨(some 23), none, .inl (.faddr 1 (.t 1))⟩,
                ⟨(some 24), none, .inl (.load false 1 (.t 23))⟩,
                ⟨(some 25), none, .inl (.bin .rem (.t 24) (.c (.int .i64 2)))⟩,
                ⟨(some 26), none, .inl (.bin .neq (.t 25) (.c (.int .i64 0)))⟩,
                ⟨(some 16), none, .inl (.mv (.t 26))⟩])
             (.keep [1, 16]))))))
       (.cond (.t 16)
         (.seq (.seq (.reg [⟨(some 2), none, .inl (.mv (.c (.bool false)))⟩])
          (.keep [2]))
          (.ret))
         (.skip))))))
    (.seq (.seq (.reg [⟨(some 27), none, .inl (.faddr 2 (.t 1))⟩,
        ⟨(some 28), none, .inl (.load false 1 (.t 27))⟩,
        ⟨(some 29), none, .inl (.bin .geq (.t 28) (.c (.int .i64 2)))⟩,
        ⟨(some 30), none, .inl (.mv (.t 29))⟩,
        ⟨(some 31), (some (30, true)), .inl (.faddr 2 (.t 1))⟩,
        ⟨(some 32), (some (30, true)), .inl (.load false 1 (.t 31))⟩,
        ⟨(some 33), (some (30, true)), .inl (.bin .leq (.t 32) (.c (.int .i64 8)))⟩,
        ⟨(some 34), none, .inl (.pick (.t 30) (.t 33) (.c (.bool false)))⟩,
        ⟨(some 35), none, .inl (.mv (.t 34))⟩,
        ⟨(some 36), (some (35, true)), .inl (.faddr 2 (.t 1))⟩,
        ⟨(some 37), (some (35, true)), .inl (.load false 1 (.t 36))⟩,
        ⟨(some 38), (some (35, true)), .inl (.bin .rem (.t 37) (.c (.int .i64 2)))⟩,
        ⟨(some 39), (some (35, true)), .inl (.bin .eql (.t 38) (.c (.int .i64 0)))⟩,
        ⟨(some 40), none, .inl (.pick (.t 35) (.t 39) (.c (.bool false)))⟩,
        ⟨(some 2), none, .inl (.mv (.t 40))⟩])
     (.keep [2]))
     (.ret)))
def fc_shape_sized : FC := ⟨41, cmd_shape_sized, [.t 2]⟩
theorem fc_shape_sized_ok : compF Try.prog 15 [[1], [1, 3], [1, 3], [1, 3], [1, 3], [2], [1, 16], [1, 16], [1, 16], [2], [2]] = some fc_shape_sized := by kernel_rfl
/-- joist/shape.lay -/
abbrev F.shape_lay : Nat := 16
def cmd_shape_lay : Cmd :=
  .seq (.seq (.reg [⟨(some 1), none, .inr (.box 4 (.t 0))⟩,
      ⟨(some 2), none, .inr (.alloc [(.int .i64 0), (.int .i64 0), (.int .i64 0), (.int .i64 0), (.int .i64 0), (.int .i64 0), (.int .i64 0), (.int .i64 0), (.int .i64 0)])⟩])
   (.keep [1, 2]))
   (.seq (.seq (.reg [⟨(some 6), none, .inl (.faddr 3 (.t 1))⟩,
       ⟨(some 7), none, .inl (.load false 1 (.t 6))⟩,
       ⟨(some 8), none, .inl (.build [(.int .i64 0), (.int .i64 0), (.int .i64 0)] [(0, 1, (.c (.int .i64 1))), (1, 1, (.c (.int .i64 2))), (2, 1, (.t 7))])⟩,
       ⟨(some 9), none, .inl (.build [(.int .i64 0), (.int .i64 0), (.int .i64 0), (.int .i64 0), (.int .i64 0), (.int .i64 0), (.int .i64 0), (.int .i64 0), (.int .i64 0)] [(0, 3, (.t 8))])⟩,
       ⟨(some 3), none, .inr (.alloc [(.int .i64 0), (.int .i64 0), (.int .i64 0), (.int .i64 0), (.int .i64 0), (.int .i64 0), (.int .i64 0), (.int .i64 0), (.int .i64 0)])⟩,
       ⟨none, none, .inr (.store 9 (.t 3) (.t 9))⟩])
    (.keep [1, 2, 3]))
    (.seq (.seq (.reg [⟨(some 4), none, .inr (.alloc [(.int .i64 0)])⟩,
        ⟨none, none, .inr (.store 1 (.t 4) (.c (.int .i64 2)))⟩])
     (.keep [1, 2, 3, 4]))
     (.seq (.seq (.reg [⟨(some 10), none, .inl (.mkfn 18 [(.t 4)])⟩,
         ⟨(some 5), none, .inl (.mv (.t 10))⟩])
      (.keep [1, 2, 3, 4, 5]))
      (.seq (.seq (.reg [⟨(some 11), none, .inl (.mv (.t 5))⟩,
          ⟨(some 12), none, .inl (.faddr 3 (.t 1))⟩,
          ⟨(some 13), none, .inl (.load false 1 (.t 12))⟩,
          ⟨(some 14), none, .inl (.bin .mul (.t 13) (.c (.int .i64 2)))⟩,
          ⟨(some 15), none, .inr (.callv (.t 11) [(.t 14)])⟩])
       (.keep [1, 2, 3, 4, 5]))
       (.seq (.seq (.reg [⟨(some 16), none, .inl (.mv (.t 5))⟩,
           ⟨(some 17), none, .inr (.callv (.t 16) [(.c (.int .i64 1))])⟩,
           ⟨(some 18), none, .inl (.faddr 3 (.t 3))⟩,
           ⟨none, none, .inr (.store 1 (.t 18) (.t 17))⟩])
        (.keep [1, 2, 3, 4, 5]))
        (.seq (.seq (.reg [⟨(some 19), none, .inl (.mv (.t 5))⟩,
            ⟨(some 20), none, .inl (.faddr 1 (.t 1))⟩,
            ⟨(some 21), none, .inl (.load false 1 (.t 20))⟩,
            ⟨(some 22), none, .inl (.bin .quo (.t 21) (.c (.int .i64 2)))⟩,
            ⟨(some 23), none, .inr (.callv (.t 19) [(.t 22)])⟩,
            ⟨(some 24), none, .inl (.faddr 4 (.t 3))⟩,
            ⟨none, none, .inr (.store 1 (.t 24) (.t 23))⟩])
         (.keep [1, 2, 3, 4, 5]))
         (.seq (.seq (.reg [⟨(some 25), none, .inl (.mv (.t 5))⟩,
             ⟨(some 26), none, .inl (.faddr 2 (.t 1))⟩,
             ⟨(some 27), none, .inl (.load false 1 (.t 26))⟩,
             ⟨(some 28), none, .inl (.bin .quo (.t 27) (.c (.int .i64 2)))⟩,
             ⟨(some 29), none, .inr (.callv (.t 25) [(.t 28)])⟩,
             ⟨(some 30), none, .inl (.faddr 5 (.t 3))⟩,
             ⟨none, none, .inr (.store 1 (.t 30) (.t 29))⟩])
          (.keep [1, 2, 3, 4, 5]))
          (.seq (.seq (.reg [⟨(some 31), none, .inl (.mv (.t 5))⟩,
              ⟨(some 32), none, .inr (.call 19 [(.c (.int .i64 64))])⟩,
              ⟨(some 33), none, .inl (.bin .mul (.t 32) (.c (.int .i64 2)))⟩,
              ⟨(some 34), none, .inr (.callv (.t 31) [(.t 33)])⟩,
              ⟨(some 35), none, .inl (.faddr 6 (.t 3))⟩,
              ⟨none, none, .inr (.store 1 (.t 35) (.t 34))⟩])
           (.keep [1, 2, 3, 4, 5]))
           (.seq (.seq (.reg [⟨(some 36), none, .inl (.mv (.t 5))⟩,
               ⟨(some 37), none, .inl (.faddr 0 (.t 1))⟩,
               ⟨(some 38), none, .inl (.load false 1 (.t 37))⟩,
               ⟨(some 39), none, .inl (.bin .mul (.t 38) (.c (.int .i64 4)))⟩,
               ⟨(some 40), none, .inr (.callv (.t 36) [(.t 39)])⟩,
               ⟨(some 41), none, .inl (.faddr 7 (.t 3))⟩,
               ⟨none, none, .inr (.store 1 (.t 41) (.t 40))⟩])
            (.keep [2, 3, 4]))
            (.seq (.seq (.reg [⟨(some 42), none, .inl (.load false 1 (.t 4))⟩,
                ⟨(some 43), none, .inl (.faddr 8 (.t 3))⟩,
                ⟨none, none, .inr (.store 1 (.t 43) (.t 42))⟩])
             (.keep [2, 3]))
             (.seq (.seq (.reg [⟨(some 44), none, .inl (.load true 9 (.t 3))⟩,
                 ⟨none, none, .inr (.store 9 (.t 2) (.t 44))⟩])
              (.keep [2]))
              (.ret))))))))))))
def fc_shape_lay : FC := ⟨45, cmd_shape_lay, [.cell 2 true 9]⟩
theorem fc_shape_lay_ok : compF Try.prog 16 [[1, 2], [1, 2, 3], [1, 2, 3, 4], [1, 2, 3, 4, 5], [1, 2, 3, 4, 5], [1, 2, 3, 4, 5], [1, 2, 3, 4, 5], [1, 2, 3, 4, 5], [1, 2, 3, 4, 5], [2, 3, 4], [2, 3], [2]] = some fc_shape_lay := by kernel_rfl
/-- joist/joistref16.areas -/
abbrev F.joistref16_areas : Nat := 17
def cmd_joistref16_areas : Cmd :=
  .seq (.seq (.reg [⟨(some 1), none, .inr (.box 4 (.t 0))⟩,
      ⟨(some 2), none, .inr (.alloc [(.int .i64 0), (.int .i64 0), (.int .i64 0), (.int .i64 0), (.int .i64 0), (.int .i64 0), (.int .i64 0), (.int .i64 0), (.int .i64 0)])⟩])
   (.keep [1, 2]))
   (.seq (.seq (.reg [⟨(some 4), none, .inl (.faddr 3 (.t 1))⟩,
       ⟨(some 5), none, .inl (.load false 1 (.t 4))⟩,
       ⟨(some 6), none, .inl (.build [(.int .i64 0), (.int .i64 0), (.int .i64 0)] [(0, 1, (.c (.int .i64 1))), (1, 1, (.c (.int .i64 2))), (2, 1, (.t 5))])⟩,
       ⟨(some 7), none, .inl (.build [(.int .i64 0), (.int .i64 0), (.int .i64 0), (.int .i64 0), (.int .i64 0), (.int .i64 0), (.int .i64 0), (.int .i64 0), (.int .i64 0)] [(0, 3, (.t 6))])⟩,
       ⟨(some 3), none, .inr (.alloc [(.int .i64 0), (.int .i64 0), (.int .i64 0), (.int .i64 0), (.int .i64 0), (.int .i64 0), (.int .i64 0), (.int .i64 0), (.int .i64 0)])⟩,
       ⟨none, none, .inr (.store 9 (.t 3) (.t 7))⟩])
    (.keep [1, 2, 3]))
    (.seq (.seq (.reg [⟨(some 8), none, .inl (.faddr 3 (.t 1))⟩,
        ⟨(some 9), none, .inl (.load false 1 (.t 8))⟩,
        ⟨(some 10), none, .inl (.bin .mul (.c (.int .i64 2)) (.t 9))⟩,
        ⟨(some 11), none, .inl (.bin .add (.c (.int .i64 2)) (.t 10))⟩,
        ⟨(some 12), none, .inl (.faddr 3 (.t 3))⟩,
        ⟨none, none, .inr (.store 1 (.t 12) (.t 11))⟩])
     (.keep [1, 2, 3]))
     (.seq (.seq (.reg [⟨(some 13), none, .inl (.faddr 3 (.t 3))⟩,
         ⟨(some 14), none, .inl (.load false 1 (.t 13))⟩,
         ⟨(some 15), none, .inl (.bin .add (.t 14) (.c (.int .i64 1)))⟩,
         ⟨(some 16), none, .inl (.faddr 4 (.t 3))⟩,
         ⟨none, none, .inr (.store 1 (.t 16) (.t 15))⟩])
      (.keep [1, 2, 3]))
      (.seq (.seq (.reg [⟨(some 17), none, .inl (.faddr 4 (.t 3))⟩,
          ⟨(some 18), none, .inl (.load false 1 (.t 17))⟩,
          ⟨(some 19), none, .inl (.faddr 1 (.t 1))⟩,
          ⟨(some 20), none, .inl (.load false 1 (.t 19))⟩,
          ⟨(some 21), none, .inl (.bin .quo (.t 20) (.c (.int .i64 2)))⟩,
          ⟨(some 22), none, .inl (.bin .add (.t 18) (.t 21))⟩,
          ⟨(some 23), none, .inl (.faddr 5 (.t 3))⟩,
          ⟨none, none, .inr (.store 1 (.t 23) (.t 22))⟩])
       (.keep [1, 2, 3]))
       (.seq (.seq (.reg [⟨(some 24), none, .inl (.faddr 5 (.t 3))⟩,
           ⟨(some 25), none, .inl (.load false 1 (.t 24))⟩,
           ⟨(some 26), none, .inl (.faddr 2 (.t 1))⟩,
           ⟨(some 27), none, .inl (.load false 1 (.t 26))⟩,
           ⟨(some 28), none, .inl (.bin .quo (.t 27) (.c (.int .i64 2)))⟩,
           ⟨(some 29), none, .inl (.bin .add (.t 25) (.t 28))⟩,
           ⟨(some 30), none, .inl (.faddr 6 (.t 3))⟩,
           ⟨none, none, .inr (.store 1 (.t 30) (.t 29))⟩])
        (.keep [1, 2, 3]))
        (.seq (.seq (.ord [⟨0, ⟨(some 31), none, .inl (.faddr 6 (.t 3))⟩, [], true⟩,
            ⟨1, ⟨(some 32), none, .inl (.load false 1 (.t 31))⟩, [], true⟩,
            ⟨2, ⟨(some 33), none, .inr (.call 20 [(.c (.int .i64 64))])⟩, [0, 1], false⟩,
            ⟨3, ⟨(some 34), none, .inl (.bin .mul (.c (.int .i64 2)) (.t 33))⟩, [], false⟩,
            ⟨4, ⟨(some 35), none, .inl (.bin .add (.t 32) (.t 34))⟩, [], false⟩,
            ⟨5, ⟨(some 36), none, .inl (.faddr 7 (.t 3))⟩, [], false⟩,
            ⟨6, ⟨none, none, .inr (.store 1 (.t 36) (.t 35))⟩, [], false⟩])
         (.keep [1, 2, 3]))
         (.seq (.seq (.reg [⟨(some 37), none, .inl (.faddr 7 (.t 3))⟩,
             ⟨(some 38), none, .inl (.load false 1 (.t 37))⟩,
             ⟨(some 39), none, .inl (.faddr 0 (.t 1))⟩,
             ⟨(some 40), none, .inl (.load false 1 (.t 39))⟩,
             ⟨(some 41), none, .inl (.bin .mul (.c (.int .i64 4)) (.t 40))⟩,
             ⟨(some 42), none, .inl (.bin .add (.t 38) (.t 41))⟩,
             ⟨(some 43), none, .inl (.faddr 8 (.t 3))⟩,
             ⟨none, none, .inr (.store 1 (.t 43) (.t 42))⟩])
          (.keep [2, 3]))
          (.seq (.seq (.reg [⟨(some 44), none, .inl (.load true 9 (.t 3))⟩,
              ⟨none, none, .inr (.store 9 (.t 2) (.t 44))⟩])
           (.keep [2]))
           (.ret)))))))))
def fc_joistref16_areas : FC := ⟨45, cmd_joistref16_areas, [.cell 2 true 9]⟩
theorem fc_joistref16_areas_ok : compF Try.prog 17 [[1, 2], [1, 2, 3], [1, 2, 3], [1, 2, 3], [1, 2, 3], [1, 2, 3], [1, 2, 3], [0, 1, 2, 3, 4, 5, 6], [2, 3], [2]] = some fc_joistref16_areas := by kernel_rfl
/-- joist/shape.lay$1 -/
abbrev F.shape_lay_1 : Nat := 18
def cmd_shape_lay_1 : Cmd :=
  .seq (.seq (.reg [⟨(some 3), none, .inl (.mv (.c (.int .i64 0)))⟩])
   (.keep [0, 1]))
   (.seq (.seq (.reg [⟨(some 5), none, .inl (.load false 1 (.t 1))⟩,
       ⟨(some 4), none, .inl (.mv (.t 5))⟩])
    (.keep [0, 1, 4]))
    (.seq (.seq (.reg [⟨(some 6), none, .inl (.load false 1 (.t 1))⟩,
        ⟨(some 7), none, .inl (.mv (.t 0))⟩,
        ⟨(some 8), none, .inl (.bin .add (.t 6) (.t 7))⟩,
        ⟨none, none, .inr (.store 1 (.t 1) (.t 8))⟩])
     (.keep [4]))
     (.seq (.seq (.reg [⟨(some 9), none, .inl (.mv (.t 4))⟩,
         ⟨(some 3), none, .inl (.mv (.t 9))⟩])
      (.keep [3]))
      (.ret))))
def fc_shape_lay_1 : FC := ⟨10, cmd_shape_lay_1, [.t 3]⟩
theorem fc_shape_lay_1_ok : compF Try.prog 18 [[0, 1], [0, 1, 4], [4], [3]] = some fc_shape_lay_1 := by kernel_rfl
/-- joist/tree.Nodes -/
abbrev F.tree_Nodes : Nat := 19
def cmd_tree_Nodes : Cmd :=
  .seq (.seq (.reg [⟨(some 2), none, .inl (.mv (.c (.int .i64 0)))⟩])
   (.keep [0]))
   (.seq (.seq (.seq (.reg [⟨(some 4), none, .inl (.mv (.t 0))⟩,
       ⟨(some 5), none, .inl (.bin .lss (.t 4) (.c (.int .i64 0)))⟩])
    (.keep [0, 5]))
    (.cond (.t 5)
      (.seq (.seq (.reg [⟨(some 2), none, .inl (.mv (.c (.int .i64 0)))⟩])
       (.keep [2]))
       (.ret))
      (.skip)))
    (.seq (.seq (.reg [⟨(some 6), none, .inl (.mv (.t 0))⟩,
        ⟨(some 7), none, .inr (.call 21 [(.t 6)])⟩,
        ⟨(some 0), none, .inl (.mv (.t 7))⟩])
     (.keep [0]))
     (.seq (.seq (.reg [⟨(some 8), none, .inl (.mv (.t 0))⟩,
         ⟨(some 3), none, .inl (.mv (.t 8))⟩])
      (.keep [0, 3]))
      (.seq (.block 0 (.loop [0, 3] (.seq (.seq (.seq (.reg [⟨(some 9), none, .inl (.mv (.t 0))⟩,
          ⟨(some 10), none, .inl (.bin .gtr (.t 9) (.c (.int .i64 1)))⟩])
       (.keep [0, 3, 10]))
       (.cond (.t 10)
         (.skip)
         (.exit 0)))
       (.block 1 (.seq (.seq (.reg [⟨(some 11), none, .inl (.mv (.t 0))⟩,
           ⟨(some 12), none, .inr (.call 21 [(.t 11)])⟩,
           ⟨(some 0), none, .inl (.mv (.t 12))⟩])
        (.keep [0, 3]))
        (.seq (.reg [⟨(some 13), none, .inl (.mv (.t 3))⟩,
            ⟨(some 14), none, .inl (.mv (.t 0))⟩,
            ⟨(some 15), none, .inl (.bin .add (.t 13) (.t 14))⟩,
            ⟨(some 3), none, .inl (.mv (.t 15))⟩])
         (.keep [0, 3])))))))
       (.seq (.seq (.reg [⟨(some 16), none, .inl (.mv (.t 3))⟩,
           ⟨(some 2), none, .inl (.mv (.t 16))⟩])
        (.keep [2]))
        (.ret))))))
def fc_tree_Nodes : FC := ⟨17, cmd_tree_Nodes, [.t 2]⟩
theorem fc_tree_Nodes_ok : compF Try.prog 19 [[0], [0, 5], [2], [0], [0, 3], [0, 3], [0, 3, 10], [0, 3], [0, 3], [2]] = some fc_tree_Nodes := by kernel_rfl
/-- joist/joistref14.Nodes -/
abbrev F.joistref14_Nodes : Nat := 20
def cmd_joistref14_Nodes : Cmd :=
  .seq (.seq (.reg [⟨(some 2), none, .inl (.mv (.c (.int .i64 0)))⟩])
   (.keep [0]))
   (.seq (.seq (.seq (.reg [⟨(some 4), none, .inl (.mv (.t 0))⟩,
       ⟨(some 5), none, .inl (.bin .lss (.t 4) (.c (.int .i64 0)))⟩])
    (.keep [0, 5]))
    (.cond (.t 5)
      (.seq (.seq (.reg [⟨(some 2), none, .inl (.mv (.c (.int .i64 0)))⟩])
       (.keep [2]))
       (.ret))
      (.skip)))
    (.seq (.seq (.reg [⟨(some 6), none, .inl (.mv (.t 0))⟩,
        ⟨(some 7), none, .inl (.bin .quo (.t 6) (.c (.int .i64 7)))⟩,
        ⟨(some 8), none, .inl (.mv (.t 0))⟩,
        ⟨(some 9), none, .inl (.bin .rem (.t 8) (.c (.int .i64 7)))⟩,
        ⟨(some 10), none, .inl (.mn (.t 9) (.c (.int .i64 1)))⟩,
        ⟨(some 11), none, .inl (.bin .add (.t 7) (.t 10))⟩,
        ⟨(some 0), none, .inl (.mv (.t 11))⟩])
     (.keep [0]))
     (.seq (.seq (.reg [⟨(some 12), none, .inl (.mv (.t 0))⟩,
         ⟨(some 13), none, .inl (.mx (.t 12) (.c (.int .i64 1)))⟩,
         ⟨(some 0), none, .inl (.mv (.t 13))⟩])
      (.keep [0]))
      (.seq (.seq (.reg [⟨(some 14), none, .inl (.mv (.t 0))⟩,
          ⟨(some 3), none, .inl (.mv (.t 14))⟩])
       (.keep [0, 3]))
       (.seq (.block 0 (.loop [0, 3] (.seq (.seq (.seq (.reg [⟨(some 15), none, .inl (.mv (.t 0))⟩,
           ⟨(some 16), none, .inl (.bin .gtr (.t 15) (.c (.int .i64 1)))⟩])
        (.keep [0, 3, 16]))
        (.cond (.t 16)
          (.skip)
          (.exit 0)))
        (.block 1 (.seq (.seq (.reg [⟨(some 17), none, .inl (.mv (.t 0))⟩,
            ⟨(some 18), none, .inl (.bin .quo (.t 17) (.c (.int .i64 7)))⟩,
            ⟨(some 19), none, .inl (.mv (.t 0))⟩,
            ⟨(some 20), none, .inl (.bin .rem (.t 19) (.c (.int .i64 7)))⟩,
            ⟨(some 21), none, .inl (.mn (.t 20) (.c (.int .i64 1)))⟩,
            ⟨(some 22), none, .inl (.bin .add (.t 18) (.t 21))⟩,
            ⟨(some 0), none, .inl (.mv (.t 22))⟩])
         (.keep [0, 3]))
         (.seq (.reg [⟨(some 23), none, .inl (.mv (.t 3))⟩,
             ⟨(some 24), none, .inl (.mv (.t 0))⟩,
             ⟨(some 25), none, .inl (.bin .add (.t 23) (.t 24))⟩,
             ⟨(some 3), none, .inl (.mv (.t 25))⟩])
          (.keep [0, 3])))))))
        (.seq (.seq (.reg [⟨(some 26), none, .inl (.mv (.t 3))⟩,
            ⟨(some 2), none, .inl (.mv (.t 26))⟩])
         (.keep [2]))
         (.ret)))))))
def fc_joistref14_Nodes : FC := ⟨27, cmd_joistref14_Nodes, [.t 2]⟩
theorem fc_joistref14_Nodes_ok : compF Try.prog 20 [[0], [0, 5], [2], [0], [0], [0, 3], [0, 3], [0, 3, 16], [0, 3], [0, 3], [2]] = some fc_joistref14_Nodes := by kernel_rfl
/-- joist/tree.holders -/
abbrev F.tree_holders : Nat := 21
def cmd_tree_holders : Cmd :=
  .seq (.seq (.reg [⟨(some 2), none, .inl (.mv (.c (.int .i64 0)))⟩])
   (.keep [0]))
   (.seq (.seq (.seq (.reg [⟨(some 3), none, .inl (.mv (.t 0))⟩,
       ⟨(some 4), none, .inl (.bin .eql (.t 3) (.c (.int .i64 0)))⟩])
    (.keep [0, 4]))
    (.cond (.t 4)
      (.seq (.seq (.reg [⟨(some 2), none, .inl (.mv (.c (.int .i64 1)))⟩])
       (.keep [2]))
       (.ret))
      (.skip)))
    (.seq (.seq (.reg [⟨(some 5), none, .inl (.mv (.t 0))⟩,
        ⟨(some 6), none, .inl (.bin .sub (.t 5) (.c (.int .i64 1)))⟩,
        ⟨(some 7), none, .inl (.bin .quo (.t 6) (.c (.int .i64 7)))⟩,
        ⟨(some 8), none, .inl (.bin .add (.t 7) (.c (.int .i64 1)))⟩,
        ⟨(some 2), none, .inl (.mv (.t 8))⟩])
     (.keep [2]))
     (.ret)))
def fc_tree_holders : FC := ⟨9, cmd_tree_holders, [.t 2]⟩
theorem fc_tree_holders_ok : compF Try.prog 21 [[0], [0, 4], [2], [2]] = some fc_tree_holders := by kernel_rfl
end Go.Proofs.Ytoghibpjlihpaaa
