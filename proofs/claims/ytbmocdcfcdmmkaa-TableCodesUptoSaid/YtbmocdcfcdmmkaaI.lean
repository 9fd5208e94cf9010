import Derived.Test.YtbmocdcfcdmmkaaProg
import Derived.Test.YtbmocdcfcdmmkaaVG
import Derived.KernelRfl
namespace Go.Proofs.Ytbmocdcfcdmmkaa
open Go Go.Proofs.Ytbmocdcfcdmmkaa.V
set_option linter.unusedVariables false

theorem mixed : Try.prog.follows .mixedOrders = true := by kernel_rfl
/-- joist/joistlaw08.TableTurns -/
abbrev F.joistlaw08_TableTurns : Nat := 3
def cmd_joistlaw08_TableTurns : Cmd :=
  .seq (.seq (.reg [⟨(some 4), none, .inr (.box 5 (.t 1))⟩,
      ⟨(some 6), none, .inl (.mv (.c (.bool false)))⟩])
   (.keep [0, 2, 4]))
   (.seq (.seq (.reg [⟨(some 21), none, .inr (.call 10 [])⟩,
       ⟨(some 7), none, .inl (.mv (.t 21))⟩])
    (.keep [0, 2, 4, 7]))
    (.seq (.seq (.reg [⟨(some 22), none, .inr (.bslice 5 [(.int .i64 0), (.bool false), (.bool false), (.int .i64 0), (.int .i64 0)] 0 [])⟩,
        ⟨(some 23), none, .inl (.mv (.t 0))⟩,
        ⟨(some 24), none, .inr (.append 5 32 (.t 22) (.t 23))⟩,
        ⟨(some 8), none, .inl (.mv (.t 24))⟩])
     (.keep [0, 2, 4, 7, 8]))
     (.seq (.seq (.reg [⟨(some 26), none, .inl (.mv (.t 8))⟩,
         ⟨(some 27), none, .inl (.load true 5 (.t 4))⟩,
         ⟨(some 28), none, .inr (.call 11 [(.t 26), (.t 27)])⟩,
         ⟨(some 25), none, .inl (.mv (.t 28))⟩,
         ⟨(some 29), none, .inl (.ext 0 (.t 25))⟩,
         ⟨(some 30), none, .inl (.ext 1 (.t 25))⟩,
         ⟨(some 31), none, .inl (.ext 2 (.t 25))⟩,
         ⟨(some 10), none, .inr (.alloc [(.int .i64 0), (.int .i64 0)])⟩,
         ⟨(some 9), none, .inl (.mv (.t 29))⟩,
         ⟨none, none, .inr (.store 2 (.t 10) (.t 30))⟩,
         ⟨(some 11), none, .inl (.mv (.t 31))⟩])
      (.keep [0, 2, 4, 7, 8, 9, 10, 11]))
      (.seq (.seq (.reg [⟨(some 33), none, .inl (.mv (.t 8))⟩,
          ⟨(some 34), none, .inl (.mv (.t 2))⟩,
          ⟨(some 35), none, .inr (.call 12 [(.t 33), (.t 34)])⟩,
          ⟨(some 32), none, .inl (.mv (.t 35))⟩,
          ⟨(some 36), none, .inl (.ext 0 (.t 32))⟩,
          ⟨(some 37), none, .inl (.ext 1 (.t 32))⟩,
          ⟨(some 12), none, .inl (.mv (.t 36))⟩,
          ⟨(some 13), none, .inl (.mv (.t 37))⟩])
       (.keep [0, 2, 4, 7, 8, 9, 10, 11, 12, 13]))
       (.seq (.seq (.reg [⟨(some 39), none, .inl (.mv (.t 0))⟩,
           ⟨(some 40), none, .inl (.load true 5 (.t 4))⟩,
           ⟨(some 41), none, .inr (.call 13 [(.t 39), (.t 40)])⟩,
           ⟨(some 38), none, .inl (.mv (.t 41))⟩,
           ⟨(some 42), none, .inl (.ext 0 (.t 38))⟩,
           ⟨(some 43), none, .inl (.ext 1 (.t 38))⟩,
           ⟨(some 44), none, .inl (.ext 2 (.t 38))⟩,
           ⟨(some 15), none, .inr (.alloc [(.int .i64 0), (.int .i64 0)])⟩,
           ⟨(some 14), none, .inl (.mv (.t 42))⟩,
           ⟨none, none, .inr (.store 2 (.t 15) (.t 43))⟩,
           ⟨(some 16), none, .inl (.mv (.t 44))⟩])
        (.keep [0, 2, 7, 8, 9, 10, 11, 12, 13, 14, 15, 16]))
        (.seq (.seq (.reg [⟨(some 46), none, .inl (.mv (.t 0))⟩,
            ⟨(some 47), none, .inl (.mv (.t 2))⟩,
            ⟨(some 48), none, .inr (.call 14 [(.t 46), (.t 47)])⟩,
            ⟨(some 45), none, .inl (.mv (.t 48))⟩,
            ⟨(some 49), none, .inl (.ext 0 (.t 45))⟩,
            ⟨(some 50), none, .inl (.ext 1 (.t 45))⟩,
            ⟨(some 17), none, .inl (.mv (.t 49))⟩,
            ⟨(some 18), none, .inl (.mv (.t 50))⟩])
         (.keep [0, 7, 8, 9, 10, 11, 12, 13, 14, 15, 16, 17, 18]))
         (.seq (.seq (.reg [⟨(some 51), none, .inl (.mv (.t 8))⟩,
             ⟨(some 52), none, .inl (.mv (.t 0))⟩,
             ⟨(some 53), none, .inr (.call 15 [(.t 51), (.t 52)])⟩,
             ⟨(some 19), none, .inl (.mv (.t 53))⟩])
          (.keep [0, 7, 8, 9, 10, 11, 12, 13, 14, 15, 16, 17, 18, 19]))
          (.seq (.seq (.reg [⟨(some 54), none, .inl (.mv (.t 9))⟩,
              ⟨(some 55), none, .inl (.mv (.t 14))⟩,
              ⟨(some 56), none, .inr (.call 15 [(.t 54), (.t 55)])⟩,
              ⟨(some 57), none, .inl (.mv (.t 56))⟩,
              ⟨(some 58), (some (57, true)), .inl (.mv (.t 12))⟩,
              ⟨(some 59), (some (57, true)), .inl (.mv (.t 17))⟩,
              ⟨(some 60), (some (57, true)), .inr (.call 15 [(.t 58), (.t 59)])⟩,
              ⟨(some 61), none, .inl (.pick (.t 57) (.t 60) (.c (.bool false)))⟩,
              ⟨(some 20), none, .inl (.mv (.t 61))⟩])
           (.keep [0, 7, 8, 9, 10, 11, 12, 13, 15, 16, 18, 19, 20]))
           (.seq (.seq (.reg [⟨(some 62), none, .inl (.mv (.t 9))⟩,
               ⟨(some 63), none, .inr (.call 16 [(.t 62)])⟩])
            (.keep [0, 7, 8, 10, 11, 12, 13, 15, 16, 18, 19, 20]))
            (.seq (.seq (.reg [⟨(some 64), none, .inl (.mv (.t 12))⟩,
                ⟨(some 65), none, .inr (.call 16 [(.t 64)])⟩])
             (.keep [0, 7, 8, 10, 11, 13, 15, 16, 18, 19, 20]))
             (.seq (.seq (.reg [⟨(some 66), none, .inl (.mv (.t 7))⟩,
                 ⟨(some 67), none, .inl (.mv (.t 66))⟩,
                 ⟨(some 68), (some (67, true)), .inl (.mv (.t 19))⟩,
                 ⟨(some 69), none, .inl (.pick (.t 67) (.t 68) (.c (.bool false)))⟩,
                 ⟨(some 70), none, .inl (.mv (.t 69))⟩,
                 ⟨(some 71), (some (70, true)), .inl (.mv (.t 20))⟩,
                 ⟨(some 72), none, .inl (.pick (.t 70) (.t 71) (.c (.bool false)))⟩,
                 ⟨(some 73), none, .inl (.mv (.t 72))⟩,
                 ⟨(some 74), (some (73, true)), .inl (.mv (.t 8))⟩,
                 ⟨(some 75), (some (73, true)), .inl (.mv (.t 0))⟩,
                 ⟨(some 76), (some (73, true)), .inr (.call 15 [(.t 74), (.t 75)])⟩,
                 ⟨(some 77), none, .inl (.pick (.t 73) (.t 76) (.c (.bool false)))⟩,
                 ⟨(some 78), none, .inl (.mv (.t 77))⟩,
                 ⟨(some 79), (some (78, true)), .inl (.load true 2 (.t 10))⟩,
                 ⟨(some 80), (some (78, true)), .inl (.load true 2 (.t 15))⟩,
                 ⟨(some 81), (some (78, true)), .inl (.eqagg false [0, 0] (.t 79) (.t 80))⟩,
                 ⟨(some 82), none, .inl (.pick (.t 78) (.t 81) (.c (.bool false)))⟩,
                 ⟨(some 83), none, .inl (.mv (.t 82))⟩,
                 ⟨(some 84), (some (83, true)), .inl (.mv (.t 11))⟩,
                 ⟨(some 85), (some (83, true)), .inl (.mv (.t 16))⟩,
                 ⟨(some 86), (some (83, true)), .inl (.bin .eql (.t 84) (.t 85))⟩,
                 ⟨(some 87), none, .inl (.pick (.t 83) (.t 86) (.c (.bool false)))⟩,
                 ⟨(some 88), none, .inl (.mv (.t 87))⟩,
                 ⟨(some 89), (some (88, true)), .inl (.mv (.t 13))⟩,
                 ⟨(some 90), (some (88, true)), .inl (.mv (.t 18))⟩,
                 ⟨(some 91), (some (88, true)), .inl (.bin .eql (.t 89) (.t 90))⟩,
                 ⟨(some 92), none, .inl (.pick (.t 88) (.t 91) (.c (.bool false)))⟩,
                 ⟨(some 6), none, .inl (.mv (.t 92))⟩])
              (.keep [6]))
              (.ret))))))))))))
def fc_joistlaw08_TableTurns : FC := ⟨93, cmd_joistlaw08_TableTurns, [.t 6]⟩
theorem fc_joistlaw08_TableTurns_ok : compF Try.prog 3 [[0, 2, 4], [0, 2, 4, 7], [0, 2, 4, 7, 8], [0, 2, 4, 7, 8, 9, 10, 11], [0, 2, 4, 7, 8, 9, 10, 11, 12, 13], [0, 2, 7, 8, 9, 10, 11, 12, 13, 14, 15, 16], [0, 7, 8, 9, 10, 11, 12, 13, 14, 15, 16, 17, 18], [0, 7, 8, 9, 10, 11, 12, 13, 14, 15, 16, 17, 18, 19], [0, 7, 8, 9, 10, 11, 12, 13, 15, 16, 18, 19, 20], [0, 7, 8, 10, 11, 12, 13, 15, 16, 18, 19, 20], [0, 7, 8, 10, 11, 13, 15, 16, 18, 19, 20], [6]] = some fc_joistlaw08_TableTurns := by kernel_rfl
/-- joist/joistlaw08.TableStale -/
abbrev F.joistlaw08_TableStale : Nat := 4
def cmd_joistlaw08_TableStale : Cmd :=
  .seq (.seq (.reg [⟨(some 4), none, .inr (.box 2 (.t 1))⟩,
      ⟨(some 6), none, .inl (.mv (.c (.bool false)))⟩])
   (.keep [0, 2, 4]))
   (.seq (.seq (.reg [⟨(some 21), none, .inr (.call 10 [])⟩,
       ⟨(some 7), none, .inl (.mv (.t 21))⟩])
    (.keep [0, 2, 4, 7]))
    (.seq (.seq (.reg [⟨(some 23), none, .inl (.mv (.t 0))⟩,
        ⟨(some 24), none, .inl (.load true 2 (.t 4))⟩,
        ⟨(some 25), none, .inr (.call 17 [(.t 23), (.t 24)])⟩,
        ⟨(some 22), none, .inl (.mv (.t 25))⟩,
        ⟨(some 26), none, .inl (.ext 0 (.t 22))⟩,
        ⟨(some 27), none, .inl (.ext 1 (.t 22))⟩,
        ⟨(some 8), none, .inl (.mv (.t 26))⟩,
        ⟨(some 9), none, .inl (.mv (.t 27))⟩])
     (.keep [0, 2, 4, 7, 8, 9]))
     (.seq (.seq (.reg [⟨(some 29), none, .inl (.mv (.t 0))⟩,
         ⟨(some 30), none, .inl (.mv (.t 8))⟩,
         ⟨(some 31), none, .inr (.call 12 [(.t 29), (.t 30)])⟩,
         ⟨(some 28), none, .inl (.mv (.t 31))⟩,
         ⟨(some 32), none, .inl (.ext 0 (.t 28))⟩,
         ⟨(some 33), none, .inl (.ext 1 (.t 28))⟩,
         ⟨(some 10), none, .inl (.mv (.t 32))⟩,
         ⟨(some 11), none, .inl (.mv (.t 33))⟩])
      (.keep [2, 4, 7, 9, 10, 11]))
      (.seq (.seq (.seq (.reg [⟨(some 34), none, .inl (.mv (.t 9))⟩,
          ⟨(some 35), none, .inl (.un .not (.t 34))⟩,
          ⟨(some 36), none, .inl (.mv (.t 35))⟩,
          ⟨(some 37), (some (36, false)), .inl (.mv (.t 11))⟩,
          ⟨(some 38), (some (36, false)), .inl (.bin .neq (.t 37) (.c (.int .i64 0)))⟩,
          ⟨(some 39), none, .inl (.pick (.t 36) (.c (.bool true)) (.t 38))⟩,
          ⟨(some 40), none, .inl (.mv (.t 39))⟩,
          ⟨(some 41), (some (40, false)), .inl (.faddr 1 (.t 4))⟩,
          ⟨(some 42), (some (40, false)), .inl (.load false 1 (.t 41))⟩,
          ⟨(some 43), (some (40, false)), .inl (.bin .eql (.t 42) (.c (.int .i64 65535)))⟩,
          ⟨(some 44), none, .inl (.pick (.t 40) (.c (.bool true)) (.t 43))⟩])
       (.keep [2, 4, 7, 10, 44]))
       (.cond (.t 44)
         (.seq (.seq (.reg [⟨(some 45), none, .inl (.mv (.t 7))⟩,
             ⟨(some 6), none, .inl (.mv (.t 45))⟩])
          (.keep [6]))
          (.ret))
         (.skip)))
       (.seq (.seq (.seq (.reg [⟨(some 12), none, .inl (.mv (.c (.int .i64 0)))⟩])
        (.keep [2, 4, 7, 10, 12]))
        (.block 0 (.loop [2, 4, 7, 10, 12] (.seq (.seq (.seq (.reg [⟨(some 46), none, .inl (.mv (.t 12))⟩,
            ⟨(some 47), none, .inl (.mv (.t 2))⟩,
            ⟨(some 48), none, .inl (.len (.t 47))⟩,
            ⟨(some 49), none, .inl (.bin .lss (.t 46) (.t 48))⟩,
            ⟨(some 50), none, .inl (.mv (.t 49))⟩,
            ⟨(some 51), (some (50, true)), .inl (.mv (.t 12))⟩,
            ⟨(some 52), (some (50, true)), .inl (.bin .lss (.t 51) (.c (.int .i64 200)))⟩,
            ⟨(some 53), none, .inl (.pick (.t 50) (.t 52) (.c (.bool false)))⟩])
         (.keep [2, 4, 7, 10, 12, 53]))
         (.cond (.t 53)
           (.skip)
           (.exit 0)))
         (.seq (.block 1 (.seq (.seq (.reg [⟨(some 56), none, .inl (.mv (.t 2))⟩,
             ⟨(some 57), none, .inl (.mv (.t 12))⟩,
             ⟨(some 58), none, .inl (.iaddr 7 (.t 56) (.t 57))⟩,
             ⟨(some 59), none, .inl (.load true 7 (.t 58))⟩,
             ⟨(some 13), none, .inr (.alloc [(.int .i64 0), (.int .i64 0), (.bool false), (.bool false), (.int .i64 0), (.int .i64 0), (.int .i64 0)])⟩,
             ⟨none, none, .inr (.store 7 (.t 13) (.t 59))⟩])
          (.keep [2, 4, 7, 10, 12, 13]))
          (.seq (.seq (.seq (.reg [⟨(some 60), none, .inl (.faddr 0 (.t 13))⟩,
              ⟨(some 61), none, .inl (.load false 1 (.t 60))⟩,
              ⟨(some 62), none, .inl (.bin .eql (.t 61) (.c (.int .i64 0)))⟩])
           (.keep [2, 4, 7, 10, 12, 13, 62]))
           (.cond (.t 62)
             (.seq (.seq (.reg [⟨(some 64), none, .inl (.mv (.t 10))⟩,
                 ⟨(some 65), none, .inl (.faddr 1 (.t 13))⟩,
                 ⟨(some 66), none, .inl (.load true 5 (.t 65))⟩,
                 ⟨(some 67), none, .inr (.call 11 [(.t 64), (.t 66)])⟩,
                 ⟨(some 63), none, .inl (.mv (.t 67))⟩,
                 ⟨(some 68), none, .inl (.ext 0 (.t 63))⟩,
                 ⟨(some 69), none, .inl (.ext 1 (.t 63))⟩,
                 ⟨(some 70), none, .inl (.ext 2 (.t 63))⟩,
                 ⟨(some 15), none, .inr (.alloc [(.int .i64 0), (.int .i64 0)])⟩,
                 ⟨(some 14), none, .inl (.mv (.t 68))⟩,
                 ⟨none, none, .inr (.store 2 (.t 15) (.t 69))⟩,
                 ⟨(some 16), none, .inl (.mv (.t 70))⟩])
              (.keep [2, 4, 7, 10, 12, 14, 15, 16]))
              (.seq (.seq (.reg [⟨(some 71), none, .inl (.mv (.t 16))⟩,
                  ⟨(some 72), none, .inl (.bin .eql (.t 71) (.c (.int .i64 0)))⟩])
               (.keep [2, 4, 7, 10, 12, 14, 15, 72]))
               (.cond (.t 72)
                 (.seq (.seq (.seq (.reg [⟨(some 73), none, .inl (.load true 2 (.t 15))⟩,
                     ⟨(some 74), none, .inl (.load true 2 (.t 4))⟩,
                     ⟨(some 75), none, .inl (.eqagg false [0, 0] (.t 73) (.t 74))⟩])
                  (.keep [2, 4, 7, 12, 14, 75]))
                  (.cond (.t 75)
                    (.seq (.seq (.reg [⟨(some 6), none, .inl (.mv (.c (.bool false)))⟩])
                     (.keep [6]))
                     (.ret))
                    (.skip)))
                  (.seq (.reg [⟨(some 76), none, .inl (.mv (.t 14))⟩,
                      ⟨(some 10), none, .inl (.mv (.t 76))⟩])
                   (.keep [2, 4, 7, 10, 12])))
                 (.skip))))
             (.seq (.seq (.reg [⟨(some 78), none, .inl (.mv (.t 10))⟩,
                 ⟨(some 79), none, .inl (.faddr 6 (.t 13))⟩,
                 ⟨(some 80), none, .inl (.load false 1 (.t 79))⟩,
                 ⟨(some 81), none, .inr (.call 12 [(.t 78), (.t 80)])⟩,
                 ⟨(some 77), none, .inl (.mv (.t 81))⟩,
                 ⟨(some 82), none, .inl (.ext 0 (.t 77))⟩,
                 ⟨(some 83), none, .inl (.ext 1 (.t 77))⟩,
                 ⟨(some 17), none, .inl (.mv (.t 82))⟩,
                 ⟨(some 18), none, .inl (.mv (.t 83))⟩])
              (.keep [2, 4, 7, 10, 12, 17, 18]))
              (.seq (.seq (.reg [⟨(some 84), none, .inl (.mv (.t 18))⟩,
                  ⟨(some 85), none, .inl (.bin .eql (.t 84) (.c (.int .i64 0)))⟩])
               (.keep [2, 4, 7, 10, 12, 17, 85]))
               (.cond (.t 85)
                 (.seq (.reg [⟨(some 86), none, .inl (.mv (.t 17))⟩,
                     ⟨(some 10), none, .inl (.mv (.t 86))⟩])
                  (.keep [2, 4, 7, 10, 12]))
                 (.skip))))))
           (.seq (.seq (.reg [⟨(some 88), none, .inl (.mv (.t 10))⟩,
               ⟨(some 89), none, .inl (.load true 2 (.t 4))⟩,
               ⟨(some 90), none, .inr (.call 17 [(.t 88), (.t 89)])⟩,
               ⟨(some 87), none, .inl (.mv (.t 90))⟩,
               ⟨(some 91), none, .inl (.ext 0 (.t 87))⟩,
               ⟨(some 92), none, .inl (.ext 1 (.t 87))⟩,
               ⟨(some 19), none, .inl (.mv (.t 91))⟩,
               ⟨(some 20), none, .inl (.mv (.t 92))⟩])
            (.keep [2, 4, 7, 10, 12, 20]))
            (.seq (.seq (.reg [⟨(some 93), none, .inl (.mv (.t 20))⟩,
                ⟨(some 94), none, .inl (.mv (.t 93))⟩,
                ⟨(some 95), (some (94, false)), .inl (.mv (.t 10))⟩,
                ⟨(some 96), (some (94, false)), .inr (.call 18 [(.t 95)])⟩,
                ⟨(some 97), (some (94, false)), .inl (.un .not (.t 96))⟩,
                ⟨(some 98), none, .inl (.pick (.t 94) (.c (.bool true)) (.t 97))⟩])
             (.keep [2, 4, 7, 10, 12, 98]))
             (.cond (.t 98)
               (.seq (.seq (.reg [⟨(some 6), none, .inl (.mv (.c (.bool false)))⟩])
                (.keep [6]))
                (.ret))
               (.skip)))))))
          (.seq (.reg [⟨(some 54), none, .inl (.mv (.t 12))⟩,
              ⟨(some 55), none, .inl (.bin .add (.t 54) (.c (.int .i64 1)))⟩,
              ⟨(some 12), none, .inl (.mv (.t 55))⟩])
           (.keep [2, 4, 7, 10, 12])))))))
        (.seq (.seq (.reg [⟨(some 99), none, .inl (.mv (.t 7))⟩,
            ⟨(some 6), none, .inl (.mv (.t 99))⟩])
         (.keep [6]))
         (.ret)))))))
def fc_joistlaw08_TableStale : FC := ⟨100, cmd_joistlaw08_TableStale, [.t 6]⟩
theorem fc_joistlaw08_TableStale_ok : compF Try.prog 4 [[0, 2, 4], [0, 2, 4, 7], [0, 2, 4, 7, 8, 9], [2, 4, 7, 9, 10, 11], [2, 4, 7, 10, 44], [6], [2, 4, 7, 10, 12], [2, 4, 7, 10, 12], [2, 4, 7, 10, 12, 53], [2, 4, 7, 10, 12, 13], [2, 4, 7, 10, 12, 13, 62], [2, 4, 7, 10, 12, 14, 15, 16], [2, 4, 7, 10, 12, 14, 15, 72], [2, 4, 7, 12, 14, 75], [6], [2, 4, 7, 10, 12], [2, 4, 7, 10, 12, 17, 18], [2, 4, 7, 10, 12, 17, 85], [2, 4, 7, 10, 12], [2, 4, 7, 10, 12, 20], [2, 4, 7, 10, 12, 98], [6], [2, 4, 7, 10, 12], [6]] = some fc_joistlaw08_TableStale := by kernel_rfl
/-- joist/joistlaw08.TableTells -/
abbrev F.joistlaw08_TableTells : Nat := 5
def cmd_joistlaw08_TableTells : Cmd :=
  .seq (.seq (.reg [⟨(some 5), none, .inr (.box 2 (.t 2))⟩,
      ⟨(some 6), none, .inl (.mv (.c (.bool false)))⟩])
   (.keep [0, 1, 5]))
   (.seq (.seq (.reg [⟨(some 20), none, .inr (.call 10 [])⟩,
       ⟨(some 7), none, .inl (.mv (.t 20))⟩])
    (.keep [0, 1, 5, 7]))
    (.seq (.seq (.reg [⟨(some 22), none, .inl (.mv (.t 1))⟩,
        ⟨(some 23), none, .inr (.call 19 [(.t 22)])⟩,
        ⟨(some 21), none, .inl (.mv (.t 23))⟩,
        ⟨(some 24), none, .inl (.ext 0 (.t 21))⟩,
        ⟨(some 25), none, .inl (.ext 1 (.t 21))⟩,
        ⟨(some 8), none, .inl (.mv (.t 24))⟩,
        ⟨(some 9), none, .inl (.mv (.t 25))⟩])
     (.keep [0, 1, 5, 7, 8, 9]))
     (.seq (.seq (.reg [⟨(some 27), none, .inl (.mv (.t 1))⟩,
         ⟨(some 28), none, .inr (.call 20 [(.t 27)])⟩,
         ⟨(some 26), none, .inl (.mv (.t 28))⟩,
         ⟨(some 29), none, .inl (.ext 0 (.t 26))⟩,
         ⟨(some 30), none, .inl (.ext 1 (.t 26))⟩,
         ⟨(some 10), none, .inl (.mv (.t 29))⟩,
         ⟨(some 11), none, .inl (.mv (.t 30))⟩])
      (.keep [0, 5, 7, 8, 9, 10, 11]))
      (.seq (.seq (.reg [⟨(some 32), none, .inl (.mv (.t 0))⟩,
          ⟨(some 33), none, .inl (.load true 2 (.t 5))⟩,
          ⟨(some 34), none, .inr (.call 17 [(.t 32), (.t 33)])⟩,
          ⟨(some 31), none, .inl (.mv (.t 34))⟩,
          ⟨(some 35), none, .inl (.ext 0 (.t 31))⟩,
          ⟨(some 36), none, .inl (.ext 1 (.t 31))⟩,
          ⟨(some 12), none, .inl (.mv (.t 35))⟩,
          ⟨(some 13), none, .inl (.mv (.t 36))⟩])
       (.keep [0, 5, 7, 8, 9, 10, 11, 12, 13]))
       (.seq (.seq (.reg [⟨(some 38), none, .inl (.mv (.t 0))⟩,
           ⟨(some 39), none, .inl (.load true 2 (.t 5))⟩,
           ⟨(some 40), none, .inr (.call 21 [(.t 38), (.t 39)])⟩,
           ⟨(some 37), none, .inl (.mv (.t 40))⟩,
           ⟨(some 41), none, .inl (.ext 0 (.t 37))⟩,
           ⟨(some 42), none, .inl (.ext 1 (.t 37))⟩,
           ⟨(some 14), none, .inl (.mv (.t 41))⟩,
           ⟨(some 15), none, .inl (.mv (.t 42))⟩])
        (.keep [0, 7, 8, 9, 10, 11, 12, 13, 14, 15]))
        (.seq (.seq (.reg [⟨(some 44), none, .inl (.mv (.t 0))⟩,
            ⟨(some 45), none, .inr (.call 22 [(.t 44)])⟩,
            ⟨(some 43), none, .inl (.mv (.t 45))⟩,
            ⟨(some 46), none, .inl (.ext 0 (.t 43))⟩,
            ⟨(some 47), none, .inl (.ext 1 (.t 43))⟩,
            ⟨(some 16), none, .inl (.mv (.t 46))⟩,
            ⟨(some 17), none, .inl (.mv (.t 47))⟩])
         (.keep [0, 7, 8, 9, 10, 11, 12, 13, 14, 15, 16, 17]))
         (.seq (.seq (.reg [⟨(some 49), none, .inl (.mv (.t 0))⟩,
             ⟨(some 50), none, .inr (.call 23 [(.t 49)])⟩,
             ⟨(some 48), none, .inl (.mv (.t 50))⟩,
             ⟨(some 51), none, .inl (.ext 0 (.t 48))⟩,
             ⟨(some 52), none, .inl (.ext 1 (.t 48))⟩,
             ⟨(some 18), none, .inl (.mv (.t 51))⟩,
             ⟨(some 19), none, .inl (.mv (.t 52))⟩])
          (.keep [0, 7, 8, 9, 10, 11, 12, 13, 14, 15, 16, 17, 18, 19]))
          (.seq (.seq (.reg [⟨(some 53), none, .inl (.mv (.t 7))⟩,
              ⟨(some 54), none, .inl (.mv (.t 53))⟩,
              ⟨(some 55), (some (54, true)), .inl (.mv (.t 8))⟩,
              ⟨(some 56), (some (54, true)), .inl (.mv (.t 10))⟩,
              ⟨(some 57), (some (54, true)), .inr (.call 15 [(.t 55), (.t 56)])⟩,
              ⟨(some 58), none, .inl (.pick (.t 54) (.t 57) (.c (.bool false)))⟩,
              ⟨(some 59), none, .inl (.mv (.t 58))⟩,
              ⟨(some 60), (some (59, true)), .inl (.mv (.t 9))⟩,
              ⟨(some 61), (some (59, true)), .inl (.mv (.t 11))⟩,
              ⟨(some 62), (some (59, true)), .inl (.bin .eql (.t 60) (.t 61))⟩,
              ⟨(some 63), none, .inl (.pick (.t 59) (.t 62) (.c (.bool false)))⟩,
              ⟨(some 64), none, .inl (.mv (.t 63))⟩,
              ⟨(some 65), (some (64, true)), .inl (.mv (.t 12))⟩,
              ⟨(some 66), (some (64, true)), .inl (.mv (.t 14))⟩,
              ⟨(some 67), (some (64, true)), .inl (.bin .eql (.t 65) (.t 66))⟩,
              ⟨(some 68), none, .inl (.pick (.t 64) (.t 67) (.c (.bool false)))⟩,
              ⟨(some 69), none, .inl (.mv (.t 68))⟩,
              ⟨(some 70), (some (69, true)), .inl (.mv (.t 13))⟩,
              ⟨(some 71), (some (69, true)), .inl (.mv (.t 15))⟩,
              ⟨(some 72), (some (69, true)), .inl (.binb .eql (.t 70) (.t 71))⟩,
              ⟨(some 73), none, .inl (.pick (.t 69) (.t 72) (.c (.bool false)))⟩,
              ⟨(some 74), none, .inl (.mv (.t 73))⟩,
              ⟨(some 75), (some (74, true)), .inl (.mv (.t 16))⟩,
              ⟨(some 76), (some (74, true)), .inl (.mv (.t 18))⟩,
              ⟨(some 77), (some (74, true)), .inl (.bin .eql (.t 75) (.t 76))⟩,
              ⟨(some 78), none, .inl (.pick (.t 74) (.t 77) (.c (.bool false)))⟩,
              ⟨(some 79), none, .inl (.mv (.t 78))⟩,
              ⟨(some 80), (some (79, true)), .inl (.mv (.t 17))⟩,
              ⟨(some 81), (some (79, true)), .inl (.mv (.t 19))⟩,
              ⟨(some 82), (some (79, true)), .inl (.binb .eql (.t 80) (.t 81))⟩,
              ⟨(some 83), none, .inl (.pick (.t 79) (.t 82) (.c (.bool false)))⟩,
              ⟨(some 84), none, .inl (.mv (.t 83))⟩,
              ⟨(some 85), (some (84, true)), .inl (.mv (.t 0))⟩,
              ⟨(some 86), (some (84, true)), .inr (.call 18 [(.t 85)])⟩,
              ⟨(some 87), (some (84, true)), .inl (.mv (.t 0))⟩,
              ⟨(some 88), (some (84, true)), .inr (.call 24 [(.t 87)])⟩,
              ⟨(some 89), (some (84, true)), .inl (.binb .eql (.t 86) (.t 88))⟩,
              ⟨(some 90), none, .inl (.pick (.t 84) (.t 89) (.c (.bool false)))⟩,
              ⟨(some 91), none, .inl (.mv (.t 90))⟩,
              ⟨(some 92), (some (91, true)), .inl (.mv (.t 0))⟩,
              ⟨(some 93), (some (91, true)), .inr (.call 26 [(.t 92)])⟩,
              ⟨(some 94), (some (91, true)), .inl (.mv (.t 0))⟩,
              ⟨(some 95), (some (91, true)), .inr (.call 27 [(.t 94)])⟩,
              ⟨(some 96), (some (91, true)), .inr (.call 25 [(.t 93), (.t 95)])⟩,
              ⟨(some 97), none, .inl (.pick (.t 91) (.t 96) (.c (.bool false)))⟩,
              ⟨(some 6), none, .inl (.mv (.t 97))⟩])
           (.keep [6]))
           (.ret)))))))))
def fc_joistlaw08_TableTells : FC := ⟨98, cmd_joistlaw08_TableTells, [.t 6]⟩
theorem fc_joistlaw08_TableTells_ok : compF Try.prog 5 [[0, 1, 5], [0, 1, 5, 7], [0, 1, 5, 7, 8, 9], [0, 5, 7, 8, 9, 10, 11], [0, 5, 7, 8, 9, 10, 11, 12, 13], [0, 7, 8, 9, 10, 11, 12, 13, 14, 15], [0, 7, 8, 9, 10, 11, 12, 13, 14, 15, 16, 17], [0, 7, 8, 9, 10, 11, 12, 13, 14, 15, 16, 17, 18, 19], [6]] = some fc_joistlaw08_TableTells := by kernel_rfl
/-- joist/joistlaw08.TableFills -/
abbrev F.joistlaw08_TableFills : Nat := 6
def cmd_joistlaw08_TableFills : Cmd :=
  .seq (.seq (.reg [⟨(some 2), none, .inl (.mv (.c (.bool false)))⟩])
   (.keep [0]))
   (.seq (.seq (.reg [⟨(some 16), none, .inr (.call 10 [])⟩,
       ⟨(some 3), none, .inl (.mv (.t 16))⟩])
    (.keep [0, 3]))
    (.seq (.seq (.seq (.reg [⟨(some 17), none, .inl (.mv (.t 0))⟩,
        ⟨(some 18), none, .inr (.call 18 [(.t 17)])⟩,
        ⟨(some 19), none, .inl (.un .not (.t 18))⟩])
     (.keep [0, 3, 19]))
     (.cond (.t 19)
       (.seq (.seq (.reg [⟨(some 20), none, .inl (.mv (.t 3))⟩,
           ⟨(some 2), none, .inl (.mv (.t 20))⟩])
        (.keep [2]))
        (.ret))
       (.skip)))
     (.seq (.seq (.reg [⟨(some 21), none, .inl (.mv (.t 0))⟩,
         ⟨(some 22), none, .inr (.call 26 [(.t 21)])⟩,
         ⟨(some 4), none, .inl (.mv (.t 22))⟩])
      (.keep [0, 3, 4]))
      (.seq (.seq (.seq (.reg [⟨(some 5), none, .inl (.mv (.c (.int .i64 0)))⟩])
       (.keep [0, 3, 4, 5]))
       (.block 0 (.loop [0, 3, 4, 5] (.seq (.seq (.seq (.reg [⟨(some 23), none, .inl (.mv (.t 5))⟩,
           ⟨(some 24), none, .inl (.mv (.t 4))⟩,
           ⟨(some 25), none, .inl (.len (.t 24))⟩,
           ⟨(some 26), none, .inl (.bin .lss (.t 23) (.t 25))⟩])
        (.keep [0, 3, 4, 5, 26]))
        (.cond (.t 26)
          (.skip)
          (.exit 0)))
        (.seq (.block 1 (.seq (.seq (.reg [⟨(some 30), none, .inl (.mv (.t 0))⟩,
            ⟨(some 31), none, .inr (.call 22 [(.t 30)])⟩,
            ⟨(some 29), none, .inl (.mv (.t 31))⟩,
            ⟨(some 32), none, .inl (.ext 0 (.t 29))⟩,
            ⟨(some 33), none, .inl (.ext 1 (.t 29))⟩,
            ⟨(some 6), none, .inl (.mv (.t 32))⟩,
            ⟨(some 7), none, .inl (.mv (.t 33))⟩])
         (.keep [0, 3, 4, 5, 6, 7]))
         (.seq (.seq (.reg [⟨(some 35), none, .inl (.mv (.t 0))⟩,
             ⟨(some 36), none, .inl (.build [(.int .i64 0), (.bool false), (.bool false), (.int .i64 0), (.int .i64 0)] [(3, 1, (.c (.int .i64 4))), (4, 1, (.c (.int .i64 1)))])⟩,
             ⟨(some 37), none, .inr (.call 11 [(.t 35), (.t 36)])⟩,
             ⟨(some 34), none, .inl (.mv (.t 37))⟩,
             ⟨(some 38), none, .inl (.ext 0 (.t 34))⟩,
             ⟨(some 39), none, .inl (.ext 1 (.t 34))⟩,
             ⟨(some 40), none, .inl (.ext 2 (.t 34))⟩,
             ⟨(some 9), none, .inr (.alloc [(.int .i64 0), (.int .i64 0)])⟩,
             ⟨(some 8), none, .inl (.mv (.t 38))⟩,
             ⟨none, none, .inr (.store 2 (.t 9) (.t 39))⟩,
             ⟨(some 10), none, .inl (.mv (.t 40))⟩])
          (.keep [0, 3, 4, 5, 6, 7, 8, 9, 10]))
          (.seq (.seq (.seq (.ord [⟨0, ⟨(some 41), none, .inl (.mv (.t 7))⟩, [], false⟩,
              ⟨1, ⟨(some 42), none, .inl (.un .not (.t 41))⟩, [], false⟩,
              ⟨2, ⟨(some 43), none, .inl (.mv (.t 42))⟩, [], false⟩,
              ⟨3, ⟨(some 44), (some (43, false)), .inl (.mv (.t 6))⟩, [], false⟩,
              ⟨4, ⟨(some 45), (some (43, false)), .inl (.mv (.t 4))⟩, [], false⟩,
              ⟨5, ⟨(some 46), (some (43, false)), .inl (.mv (.t 5))⟩, [], false⟩,
              ⟨6, ⟨(some 47), (some (43, false)), .inl (.iaddr 1 (.t 45) (.t 46))⟩, [], false⟩,
              ⟨7, ⟨(some 48), (some (43, false)), .inl (.load false 1 (.t 47))⟩, [], false⟩,
              ⟨8, ⟨(some 49), (some (43, false)), .inl (.bin .neq (.t 44) (.t 48))⟩, [], false⟩,
              ⟨9, ⟨(some 50), none, .inl (.pick (.t 43) (.c (.bool true)) (.t 49))⟩, [], false⟩,
              ⟨10, ⟨(some 51), none, .inl (.mv (.t 50))⟩, [], false⟩,
              ⟨11, ⟨(some 52), (some (51, false)), .inl (.mv (.t 10))⟩, [], false⟩,
              ⟨12, ⟨(some 53), (some (51, false)), .inl (.bin .neq (.t 52) (.c (.int .i64 0)))⟩, [], false⟩,
              ⟨13, ⟨(some 54), none, .inl (.pick (.t 51) (.c (.bool true)) (.t 53))⟩, [], false⟩,
              ⟨14, ⟨(some 55), none, .inl (.mv (.t 54))⟩, [], false⟩,
              ⟨15, ⟨(some 56), (some (55, false)), .inl (.faddr 0 (.t 9))⟩, [], false⟩,
              ⟨16, ⟨(some 57), (some (55, false)), .inl (.load false 1 (.t 56))⟩, [], false⟩,
              ⟨17, ⟨(some 58), (some (55, false)), .inl (.mv (.t 6))⟩, [], false⟩,
              ⟨18, ⟨(some 59), (some (55, false)), .inl (.bin .neq (.t 57) (.t 58))⟩, [], false⟩,
              ⟨19, ⟨(some 60), none, .inl (.pick (.t 55) (.c (.bool true)) (.t 59))⟩, [], false⟩,
              ⟨20, ⟨(some 61), none, .inl (.mv (.t 60))⟩, [], false⟩,
              ⟨21, ⟨(some 62), (some (61, false)), .inl (.mv (.t 8))⟩, [], false⟩,
              ⟨22, ⟨(some 63), (some (61, false)), .inl (.len (.t 62))⟩, [], false⟩,
              ⟨23, ⟨(some 64), (some (61, false)), .inl (.mv (.t 0))⟩, [], false⟩,
              ⟨24, ⟨(some 65), (some (61, false)), .inl (.len (.t 64))⟩, [], false⟩,
              ⟨25, ⟨(some 66), (some (61, false)), .inl (.bin .neq (.t 63) (.t 65))⟩, [], false⟩,
              ⟨26, ⟨(some 67), none, .inl (.pick (.t 61) (.c (.bool true)) (.t 66))⟩, [], false⟩,
              ⟨27, ⟨(some 68), none, .inl (.mv (.t 67))⟩, [], false⟩,
              ⟨28, ⟨(some 69), (some (68, false)), .inl (.mv (.t 8))⟩, [], false⟩,
              ⟨29, ⟨(some 70), (some (68, false)), .inl (.mv (.t 6))⟩, [], false⟩,
              ⟨30, ⟨(some 71), (some (68, false)), .inl (.iaddr 5 (.t 69) (.t 70))⟩, [], false⟩,
              ⟨31, ⟨(some 72), (some (68, false)), .inl (.faddr 1 (.t 71))⟩, [], false⟩,
              ⟨32, ⟨(some 73), (some (68, false)), .inl (.load false 1 (.t 72))⟩, [], false⟩,
              ⟨33, ⟨(some 74), (some (68, false)), .inl (.un .not (.t 73))⟩, [], false⟩,
              ⟨34, ⟨(some 75), none, .inl (.pick (.t 68) (.c (.bool true)) (.t 74))⟩, [], false⟩,
              ⟨35, ⟨(some 76), none, .inl (.mv (.t 75))⟩, [], false⟩,
              ⟨36, ⟨(some 77), (some (76, false)), .inl (.faddr 1 (.t 9))⟩, [], false⟩,
              ⟨37, ⟨(some 78), (some (76, false)), .inl (.load false 1 (.t 77))⟩, [], false⟩,
              ⟨38, ⟨(some 79), (some (76, false)), .inl (.mv (.t 0))⟩, [], false⟩,
              ⟨39, ⟨(some 80), (some (76, false)), .inl (.mv (.t 6))⟩, [], false⟩,
              ⟨40, ⟨(some 81), (some (76, false)), .inl (.iaddr 5 (.t 79) (.t 80))⟩, [], false⟩,
              ⟨41, ⟨(some 82), (some (76, false)), .inl (.faddr 0 (.t 81))⟩, [], false⟩,
              ⟨42, ⟨(some 83), (some (76, false)), .inl (.load false 1 (.t 82))⟩, [], false⟩,
              ⟨43, ⟨(some 84), (some (76, false)), .inl (.bin .neq (.t 78) (.t 83))⟩, [], false⟩,
              ⟨44, ⟨(some 85), none, .inl (.pick (.t 76) (.c (.bool true)) (.t 84))⟩, [], false⟩])
           (.keep [3, 4, 5, 8, 85]))
           (.cond (.t 85)
             (.seq (.seq (.reg [⟨(some 2), none, .inl (.mv (.c (.bool false)))⟩])
              (.keep [2]))
              (.ret))
             (.skip)))
           (.seq (.reg [⟨(some 86), none, .inl (.mv (.t 8))⟩,
               ⟨(some 0), none, .inl (.mv (.t 86))⟩])
            (.keep [0, 3, 4, 5]))))))
         (.seq (.reg [⟨(some 27), none, .inl (.mv (.t 5))⟩,
             ⟨(some 28), none, .inl (.bin .add (.t 27) (.c (.int .i64 1)))⟩,
             ⟨(some 5), none, .inl (.mv (.t 28))⟩])
          (.keep [0, 3, 4, 5])))))))
       (.seq (.seq (.reg [⟨(some 88), none, .inl (.mv (.t 0))⟩,
           ⟨(some 89), none, .inr (.call 22 [(.t 88)])⟩,
           ⟨(some 87), none, .inl (.mv (.t 89))⟩,
           ⟨(some 90), none, .inl (.ext 0 (.t 87))⟩,
           ⟨(some 91), none, .inl (.ext 1 (.t 87))⟩,
           ⟨(some 11), none, .inl (.mv (.t 90))⟩,
           ⟨(some 12), none, .inl (.mv (.t 91))⟩])
        (.keep [0, 3, 12]))
        (.seq (.seq (.reg [⟨(some 93), none, .inl (.mv (.t 0))⟩,
            ⟨(some 94), none, .inl (.build [(.int .i64 0), (.bool false), (.bool false), (.int .i64 0), (.int .i64 0)] [(3, 1, (.c (.int .i64 4))), (4, 1, (.c (.int .i64 1)))])⟩,
            ⟨(some 95), none, .inr (.call 11 [(.t 93), (.t 94)])⟩,
            ⟨(some 92), none, .inl (.mv (.t 95))⟩,
            ⟨(some 96), none, .inl (.ext 0 (.t 92))⟩,
            ⟨(some 97), none, .inl (.ext 1 (.t 92))⟩,
            ⟨(some 98), none, .inl (.ext 2 (.t 92))⟩,
            ⟨(some 14), none, .inr (.alloc [(.int .i64 0), (.int .i64 0)])⟩,
            ⟨(some 13), none, .inl (.mv (.t 96))⟩,
            ⟨none, none, .inr (.store 2 (.t 14) (.t 97))⟩,
            ⟨(some 15), none, .inl (.mv (.t 98))⟩])
         (.keep [0, 3, 12, 15]))
         (.seq (.seq (.reg [⟨(some 99), none, .inl (.mv (.t 3))⟩,
             ⟨(some 100), none, .inl (.mv (.t 99))⟩,
             ⟨(some 101), (some (100, true)), .inl (.mv (.t 12))⟩,
             ⟨(some 102), (some (100, true)), .inl (.un .not (.t 101))⟩,
             ⟨(some 103), none, .inl (.pick (.t 100) (.t 102) (.c (.bool false)))⟩,
             ⟨(some 104), none, .inl (.mv (.t 103))⟩,
             ⟨(some 105), (some (104, true)), .inl (.mv (.t 15))⟩,
             ⟨(some 106), (some (104, true)), .inl (.bin .eql (.t 105) (.c (.int .i64 9)))⟩,
             ⟨(some 107), none, .inl (.pick (.t 104) (.t 106) (.c (.bool false)))⟩,
             ⟨(some 108), none, .inl (.mv (.t 107))⟩,
             ⟨(some 109), (some (108, true)), .inl (.mv (.t 0))⟩,
             ⟨(some 110), (some (108, true)), .inr (.call 26 [(.t 109)])⟩,
             ⟨(some 111), (some (108, true)), .inl (.len (.t 110))⟩,
             ⟨(some 112), (some (108, true)), .inl (.bin .eql (.t 111) (.c (.int .i64 0)))⟩,
             ⟨(some 113), none, .inl (.pick (.t 108) (.t 112) (.c (.bool false)))⟩,
             ⟨(some 2), none, .inl (.mv (.t 113))⟩])
          (.keep [2]))
          (.ret))))))))
def fc_joistlaw08_TableFills : FC := ⟨114, cmd_joistlaw08_TableFills, [.t 2]⟩
theorem fc_joistlaw08_TableFills_ok : compF Try.prog 6 [[0], [0, 3], [0, 3, 19], [2], [0, 3, 4], [0, 3, 4, 5], [0, 3, 4, 5], [0, 3, 4, 5, 26], [0, 3, 4, 5, 6, 7], [0, 3, 4, 5, 6, 7, 8, 9, 10], [3, 4, 5, 8, 85], [0, 1, 2, 3, 4, 5, 6, 7, 8, 9, 10, 11, 12, 13, 14, 15, 16, 17, 18, 19, 20, 21, 22, 23, 24, 25, 26, 27, 28, 29, 30, 31, 32, 33, 34, 35, 36, 37, 38, 39, 40, 41, 42, 43, 44], [2], [0, 3, 4, 5], [0, 3, 4, 5], [0, 3, 12], [0, 3, 12, 15], [2]] = some fc_joistlaw08_TableFills := by kernel_rfl
/-- joist/joistlaw08.TableSpent -/
abbrev F.joistlaw08_TableSpent : Nat := 7
def cmd_joistlaw08_TableSpent : Cmd :=
  .seq (.seq (.reg [⟨(some 4), none, .inl (.mv (.c (.bool false)))⟩])
   (.keep [0, 1]))
   (.seq (.seq (.reg [⟨(some 12), none, .inr (.call 10 [])⟩,
       ⟨(some 5), none, .inl (.mv (.t 12))⟩])
    (.keep [0, 1, 5]))
    (.seq (.seq (.reg [⟨(some 14), none, .inl (.mv (.t 0))⟩,
        ⟨(some 15), none, .inl (.mv (.t 1))⟩,
        ⟨(some 16), none, .inr (.call 12 [(.t 14), (.t 15)])⟩,
        ⟨(some 13), none, .inl (.mv (.t 16))⟩,
        ⟨(some 17), none, .inl (.ext 0 (.t 13))⟩,
        ⟨(some 18), none, .inl (.ext 1 (.t 13))⟩,
        ⟨(some 6), none, .inl (.mv (.t 17))⟩,
        ⟨(some 7), none, .inl (.mv (.t 18))⟩])
     (.keep [0, 1, 5, 6, 7]))
     (.seq (.seq (.seq (.reg [⟨(some 19), none, .inl (.mv (.t 7))⟩,
         ⟨(some 20), none, .inl (.bin .neq (.t 19) (.c (.int .i64 0)))⟩])
      (.keep [0, 1, 5, 6, 20]))
      (.cond (.t 20)
        (.seq (.seq (.reg [⟨(some 21), none, .inl (.mv (.t 5))⟩,
            ⟨(some 22), none, .inl (.mv (.t 21))⟩,
            ⟨(some 23), (some (22, true)), .inl (.mv (.t 6))⟩,
            ⟨(some 24), (some (22, true)), .inl (.len (.t 23))⟩,
            ⟨(some 25), (some (22, true)), .inl (.bin .eql (.t 24) (.c (.int .i64 0)))⟩,
            ⟨(some 26), none, .inl (.pick (.t 22) (.t 25) (.c (.bool false)))⟩,
            ⟨(some 4), none, .inl (.mv (.t 26))⟩])
         (.keep [4]))
         (.ret))
        (.skip)))
      (.seq (.seq (.seq (.reg [⟨(some 27), none, .inl (.mv (.t 1))⟩,
          ⟨(some 28), none, .inl (.bin .lss (.t 27) (.c (.int .i64 0)))⟩,
          ⟨(some 29), none, .inl (.mv (.t 28))⟩,
          ⟨(some 30), (some (29, false)), .inl (.mv (.t 1))⟩,
          ⟨(some 31), (some (29, false)), .inl (.mv (.t 0))⟩,
          ⟨(some 32), (some (29, false)), .inl (.len (.t 31))⟩,
          ⟨(some 33), (some (29, false)), .inl (.bin .geq (.t 30) (.t 32))⟩,
          ⟨(some 34), none, .inl (.pick (.t 29) (.c (.bool true)) (.t 33))⟩,
          ⟨(some 35), none, .inl (.mv (.t 34))⟩,
          ⟨(some 36), (some (35, false)), .inl (.mv (.t 1))⟩,
          ⟨(some 37), (some (35, false)), .inl (.mv (.t 6))⟩,
          ⟨(some 38), (some (35, false)), .inl (.len (.t 37))⟩,
          ⟨(some 39), (some (35, false)), .inl (.bin .geq (.t 36) (.t 38))⟩,
          ⟨(some 40), none, .inl (.pick (.t 35) (.c (.bool true)) (.t 39))⟩])
       (.keep [0, 1, 5, 6, 40]))
       (.cond (.t 40)
         (.seq (.seq (.reg [⟨(some 4), none, .inl (.mv (.c (.bool false)))⟩])
          (.keep [4]))
          (.ret))
         (.skip)))
       (.seq (.seq (.reg [⟨(some 41), none, .inl (.mv (.t 0))⟩,
           ⟨(some 42), none, .inl (.mv (.t 1))⟩,
           ⟨(some 43), none, .inl (.iaddr 5 (.t 41) (.t 42))⟩,
           ⟨(some 44), none, .inl (.faddr 0 (.t 43))⟩,
           ⟨(some 45), none, .inl (.load false 1 (.t 44))⟩,
           ⟨(some 46), none, .inl (.bin .geq (.t 45) (.c (.int .i64 65534)))⟩,
           ⟨(some 8), none, .inl (.mv (.t 46))⟩])
        (.keep [0, 1, 5, 6, 8]))
        (.seq (.seq (.reg [⟨(some 47), none, .inl (.mv (.t 6))⟩,
            ⟨(some 48), none, .inr (.call 26 [(.t 47)])⟩,
            ⟨(some 9), none, .inl (.mv (.t 48))⟩])
         (.keep [0, 1, 5, 6, 8, 9]))
         (.seq (.seq (.reg [⟨(some 10), none, .inl (.mv (.c (.bool false)))⟩])
          (.keep [0, 1, 5, 6, 8, 9, 10]))
          (.seq (.seq (.seq (.reg [⟨(some 11), none, .inl (.mv (.c (.int .i64 0)))⟩])
           (.keep [0, 1, 5, 6, 8, 9, 10, 11]))
           (.block 0 (.loop [0, 1, 5, 6, 8, 9, 10, 11] (.seq (.seq (.seq (.reg [⟨(some 49), none, .inl (.mv (.t 11))⟩,
               ⟨(some 50), none, .inl (.mv (.t 9))⟩,
               ⟨(some 51), none, .inl (.len (.t 50))⟩,
               ⟨(some 52), none, .inl (.bin .lss (.t 49) (.t 51))⟩])
            (.keep [0, 1, 5, 6, 8, 9, 10, 11, 52]))
            (.cond (.t 52)
              (.skip)
              (.exit 0)))
            (.seq (.block 1 (.seq (.reg [⟨(some 55), none, .inl (.mv (.t 10))⟩,
                ⟨(some 56), none, .inl (.mv (.t 55))⟩,
                ⟨(some 57), (some (56, false)), .inl (.mv (.t 9))⟩,
                ⟨(some 58), (some (56, false)), .inl (.mv (.t 11))⟩,
                ⟨(some 59), (some (56, false)), .inl (.iaddr 1 (.t 57) (.t 58))⟩,
                ⟨(some 60), (some (56, false)), .inl (.load false 1 (.t 59))⟩,
                ⟨(some 61), (some (56, false)), .inl (.mv (.t 1))⟩,
                ⟨(some 62), (some (56, false)), .inl (.bin .eql (.t 60) (.t 61))⟩,
                ⟨(some 63), none, .inl (.pick (.t 56) (.c (.bool true)) (.t 62))⟩,
                ⟨(some 10), none, .inl (.mv (.t 63))⟩])
             (.keep [0, 1, 5, 6, 8, 9, 10, 11])))
             (.seq (.reg [⟨(some 53), none, .inl (.mv (.t 11))⟩,
                 ⟨(some 54), none, .inl (.bin .add (.t 53) (.c (.int .i64 1)))⟩,
                 ⟨(some 11), none, .inl (.mv (.t 54))⟩])
              (.keep [0, 1, 5, 6, 8, 9, 10, 11])))))))
           (.seq (.seq (.ord [⟨0, ⟨(some 64), none, .inl (.mv (.t 5))⟩, [], false⟩,
               ⟨1, ⟨(some 65), none, .inl (.mv (.t 64))⟩, [], false⟩,
               ⟨2, ⟨(some 66), (some (65, true)), .inl (.mv (.t 10))⟩, [], false⟩,
               ⟨3, ⟨(some 67), (some (65, true)), .inl (.mv (.t 8))⟩, [], false⟩,
               ⟨4, ⟨(some 68), (some (65, true)), .inl (.un .not (.t 67))⟩, [], false⟩,
               ⟨5, ⟨(some 69), (some (65, true)), .inl (.binb .eql (.t 66) (.t 68))⟩, [], false⟩,
               ⟨6, ⟨(some 70), none, .inl (.pick (.t 65) (.t 69) (.c (.bool false)))⟩, [], false⟩,
               ⟨7, ⟨(some 71), none, .inl (.mv (.t 70))⟩, [], false⟩,
               ⟨8, ⟨(some 72), (some (71, true)), .inl (.mv (.t 6))⟩, [], false⟩,
               ⟨9, ⟨(some 73), (some (71, true)), .inl (.mv (.t 1))⟩, [], false⟩,
               ⟨10, ⟨(some 74), (some (71, true)), .inl (.iaddr 5 (.t 72) (.t 73))⟩, [], false⟩,
               ⟨11, ⟨(some 75), (some (71, true)), .inl (.load true 5 (.t 74))⟩, [], false⟩,
               ⟨12, ⟨(some 76), (some (71, true)), .inl (.mv (.t 0))⟩, [], false⟩,
               ⟨13, ⟨(some 77), (some (71, true)), .inl (.mv (.t 1))⟩, [], false⟩,
               ⟨14, ⟨(some 78), (some (71, true)), .inl (.iaddr 5 (.t 76) (.t 77))⟩, [], false⟩,
               ⟨15, ⟨(some 79), (some (71, true)), .inl (.faddr 0 (.t 78))⟩, [], false⟩,
               ⟨16, ⟨(some 80), (some (71, true)), .inl (.load false 1 (.t 79))⟩, [], false⟩,
               ⟨17, ⟨(some 81), (some (71, true)), .inl (.bin .add (.t 80) (.c (.int .i64 1)))⟩, [], false⟩,
               ⟨18, ⟨(some 82), (some (71, true)), .inl (.mn (.t 81) (.c (.int .i64 65535)))⟩, [], false⟩,
               ⟨19, ⟨(some 83), (some (71, true)), .inl (.build [(.int .i64 0), (.bool false), (.bool false), (.int .i64 0), (.int .i64 0)] [(0, 1, (.t 82))])⟩, [], false⟩,
               ⟨20, ⟨(some 84), (some (71, true)), .inl (.eqagg false [0, 1, 1, 0, 0] (.t 75) (.t 83))⟩, [], false⟩,
               ⟨21, ⟨(some 85), none, .inl (.pick (.t 71) (.t 84) (.c (.bool false)))⟩, [], false⟩,
               ⟨22, ⟨(some 86), none, .inl (.mv (.t 85))⟩, [], false⟩,
               ⟨23, ⟨(some 87), (some (86, true)), .inl (.mv (.t 6))⟩, [], false⟩,
               ⟨24, ⟨(some 88), (some (86, true)), .inl (.len (.t 87))⟩, [], false⟩,
               ⟨25, ⟨(some 89), (some (86, true)), .inl (.mv (.t 0))⟩, [], false⟩,
               ⟨26, ⟨(some 90), (some (86, true)), .inl (.len (.t 89))⟩, [], false⟩,
               ⟨27, ⟨(some 91), (some (86, true)), .inl (.bin .eql (.t 88) (.t 90))⟩, [], false⟩,
               ⟨28, ⟨(some 92), none, .inl (.pick (.t 86) (.t 91) (.c (.bool false)))⟩, [], false⟩,
               ⟨29, ⟨(some 4), none, .inl (.mv (.t 92))⟩, [], false⟩])
            (.keep [4]))
            (.ret))))))))))
def fc_joistlaw08_TableSpent : FC := ⟨93, cmd_joistlaw08_TableSpent, [.t 4]⟩
theorem fc_joistlaw08_TableSpent_ok : compF Try.prog 7 [[0, 1], [0, 1, 5], [0, 1, 5, 6, 7], [0, 1, 5, 6, 20], [4], [0, 1, 5, 6, 40], [4], [0, 1, 5, 6, 8], [0, 1, 5, 6, 8, 9], [0, 1, 5, 6, 8, 9, 10], [0, 1, 5, 6, 8, 9, 10, 11], [0, 1, 5, 6, 8, 9, 10, 11], [0, 1, 5, 6, 8, 9, 10, 11, 52], [0, 1, 5, 6, 8, 9, 10, 11], [0, 1, 5, 6, 8, 9, 10, 11], [4], [0, 1, 2, 3, 4, 5, 6, 7, 8, 9, 10, 11, 12, 13, 14, 15, 16, 17, 18, 19, 20, 21, 22, 23, 24, 25, 26, 27, 28, 29]] = some fc_joistlaw08_TableSpent := by kernel_rfl
/-- joist/joistlaw08.TableCodes -/
abbrev F.joistlaw08_TableCodes : Nat := 8
def cmd_joistlaw08_TableCodes : Cmd :=
  .seq (.seq (.reg [⟨(some 4), none, .inl (.mv (.c (.bool false)))⟩])
   (.keep [0, 1]))
   (.seq (.seq (.reg [⟨(some 18), none, .inr (.call 10 [])⟩,
       ⟨(some 5), none, .inl (.mv (.t 18))⟩])
    (.keep [0, 1, 5]))
    (.seq (.seq (.reg [⟨(some 19), none, .inl (.mv (.t 1))⟩,
        ⟨(some 20), none, .inr (.call 28 [(.t 19)])⟩,
        ⟨(some 6), none, .inl (.mv (.t 20))⟩])
     (.keep [0, 1, 5, 6]))
     (.seq (.seq (.reg [⟨(some 22), none, .inl (.mv (.t 0))⟩,
         ⟨(some 23), none, .inr (.call 29 [(.t 22)])⟩,
         ⟨(some 21), none, .inl (.mv (.t 23))⟩,
         ⟨(some 24), none, .inl (.ext 0 (.t 21))⟩,
         ⟨(some 25), none, .inl (.ext 1 (.t 21))⟩,
         ⟨(some 7), none, .inl (.mv (.t 24))⟩,
         ⟨(some 8), none, .inl (.mv (.t 25))⟩])
      (.keep [0, 1, 5, 6, 7, 8]))
      (.seq (.seq (.reg [⟨(some 27), none, .inl (.mv (.t 6))⟩,
          ⟨(some 28), none, .inr (.call 30 [(.t 27)])⟩,
          ⟨(some 26), none, .inl (.mv (.t 28))⟩,
          ⟨(some 29), none, .inl (.ext 0 (.t 26))⟩,
          ⟨(some 30), none, .inl (.ext 1 (.t 26))⟩,
          ⟨(some 9), none, .inl (.mv (.t 29))⟩,
          ⟨(some 10), none, .inl (.mv (.t 30))⟩])
       (.keep [0, 1, 5, 6, 7, 8, 9, 10]))
       (.seq (.seq (.reg [⟨(some 31), none, .inl (.mv (.t 6))⟩,
           ⟨(some 32), none, .inl (.mv (.t 1))⟩,
           ⟨(some 33), none, .inr (.call 31 [(.t 31), (.t 32)])⟩,
           ⟨(some 11), none, .inl (.mv (.t 33))⟩])
        (.keep [0, 1, 5, 6, 7, 8, 9, 10, 11]))
        (.seq (.seq (.reg [⟨(some 35), none, .inl (.mv (.t 0))⟩,
            ⟨(some 36), none, .inr (.call 32 [(.t 35)])⟩,
            ⟨(some 34), none, .inl (.mv (.t 36))⟩,
            ⟨(some 37), none, .inl (.ext 0 (.t 34))⟩,
            ⟨(some 38), none, .inl (.ext 1 (.t 34))⟩,
            ⟨(some 12), none, .inl (.mv (.t 37))⟩,
            ⟨(some 13), none, .inl (.mv (.t 38))⟩])
         (.keep [1, 5, 6, 7, 8, 9, 10, 11, 12, 13]))
         (.seq (.seq (.reg [⟨(some 40), none, .inl (.mv (.t 1))⟩,
             ⟨(some 41), none, .inr (.call 33 [(.t 40)])⟩,
             ⟨(some 39), none, .inl (.mv (.t 41))⟩,
             ⟨(some 42), none, .inl (.ext 0 (.t 39))⟩,
             ⟨(some 43), none, .inl (.ext 1 (.t 39))⟩,
             ⟨(some 14), none, .inl (.mv (.t 42))⟩,
             ⟨(some 15), none, .inl (.mv (.t 43))⟩])
          (.keep [5, 6, 7, 8, 9, 10, 11, 12, 13, 14, 15]))
          (.seq (.seq (.reg [⟨(some 44), none, .inl (.mv (.t 7))⟩,
              ⟨(some 45), none, .inl (.b2s (.t 44))⟩,
              ⟨(some 46), none, .inl (.mv (.t 12))⟩,
              ⟨(some 47), none, .inl (.b2s (.t 46))⟩,
              ⟨(some 48), none, .inl (.bins .eql (.t 45) (.t 47))⟩,
              ⟨(some 49), none, .inl (.mv (.t 48))⟩,
              ⟨(some 50), (some (49, true)), .inl (.mv (.t 9))⟩,
              ⟨(some 51), (some (49, true)), .inl (.mv (.t 14))⟩,
              ⟨(some 52), (some (49, true)), .inr (.call 15 [(.t 50), (.t 51)])⟩,
              ⟨(some 53), none, .inl (.pick (.t 49) (.t 52) (.c (.bool false)))⟩,
              ⟨(some 16), none, .inl (.mv (.t 53))⟩])
           (.keep [5, 6, 7, 8, 10, 11, 13, 15, 16]))
           (.seq (.seq (.reg [⟨(some 54), none, .inl (.mv (.t 7))⟩,
               ⟨(some 55), none, .inl (.mv (.t 6))⟩,
               ⟨(some 56), none, .inr (.bslice 1 [.nils] 2 [(0, (.t 54)), (1, (.t 55))])⟩,
               ⟨(some 57), none, .inr (.call 34 [(.t 56)])⟩,
               ⟨(some 17), none, .inl (.mv (.t 57))⟩])
            (.keep [5, 8, 10, 11, 13, 15, 16, 17]))
            (.seq (.seq (.reg [⟨(some 58), none, .inl (.mv (.t 5))⟩,
                ⟨(some 59), none, .inl (.mv (.t 58))⟩,
                ⟨(some 60), (some (59, true)), .inl (.mv (.t 11))⟩,
                ⟨(some 61), none, .inl (.pick (.t 59) (.t 60) (.c (.bool false)))⟩,
                ⟨(some 62), none, .inl (.mv (.t 61))⟩,
                ⟨(some 63), (some (62, true)), .inl (.mv (.t 16))⟩,
                ⟨(some 64), none, .inl (.pick (.t 62) (.t 63) (.c (.bool false)))⟩,
                ⟨(some 65), none, .inl (.mv (.t 64))⟩,
                ⟨(some 66), (some (65, true)), .inl (.mv (.t 17))⟩,
                ⟨(some 67), none, .inl (.pick (.t 65) (.t 66) (.c (.bool false)))⟩,
                ⟨(some 68), none, .inl (.mv (.t 67))⟩,
                ⟨(some 69), (some (68, true)), .inl (.mv (.t 8))⟩,
                ⟨(some 70), (some (68, true)), .inl (.mv (.t 13))⟩,
                ⟨(some 71), (some (68, true)), .inl (.bin .eql (.t 69) (.t 70))⟩,
                ⟨(some 72), none, .inl (.pick (.t 68) (.t 71) (.c (.bool false)))⟩,
                ⟨(some 73), none, .inl (.mv (.t 72))⟩,
                ⟨(some 74), (some (73, true)), .inl (.mv (.t 10))⟩,
                ⟨(some 75), (some (73, true)), .inl (.mv (.t 15))⟩,
                ⟨(some 76), (some (73, true)), .inl (.binb .eql (.t 74) (.t 75))⟩,
                ⟨(some 77), none, .inl (.pick (.t 73) (.t 76) (.c (.bool false)))⟩,
                ⟨(some 4), none, .inl (.mv (.t 77))⟩])
             (.keep [4]))
             (.ret)))))))))))
def fc_joistlaw08_TableCodes : FC := ⟨78, cmd_joistlaw08_TableCodes, [.t 4]⟩
theorem fc_joistlaw08_TableCodes_ok : compF Try.prog 8 [[0, 1], [0, 1, 5], [0, 1, 5, 6], [0, 1, 5, 6, 7, 8], [0, 1, 5, 6, 7, 8, 9, 10], [0, 1, 5, 6, 7, 8, 9, 10, 11], [1, 5, 6, 7, 8, 9, 10, 11, 12, 13], [5, 6, 7, 8, 9, 10, 11, 12, 13, 14, 15], [5, 6, 7, 8, 10, 11, 13, 15, 16], [5, 8, 10, 11, 13, 15, 16, 17], [4]] = some fc_joistlaw08_TableCodes := by kernel_rfl
/-- joist/joistlaw08.TableBack -/
abbrev F.joistlaw08_TableBack : Nat := 9
def cmd_joistlaw08_TableBack : Cmd :=
  .seq (.seq (.reg [⟨(some 4), none, .inl (.mv (.c (.bool false)))⟩])
   (.keep [0, 1]))
   (.seq (.seq (.reg [⟨(some 14), none, .inr (.call 10 [])⟩,
       ⟨(some 5), none, .inl (.mv (.t 14))⟩])
    (.keep [0, 1, 5]))
    (.seq (.seq (.reg [⟨(some 16), none, .inl (.mv (.t 0))⟩,
        ⟨(some 17), none, .inr (.call 29 [(.t 16)])⟩,
        ⟨(some 15), none, .inl (.mv (.t 17))⟩,
        ⟨(some 18), none, .inl (.ext 0 (.t 15))⟩,
        ⟨(some 19), none, .inl (.ext 1 (.t 15))⟩,
        ⟨(some 6), none, .inl (.mv (.t 18))⟩,
        ⟨(some 7), none, .inl (.mv (.t 19))⟩])
     (.keep [0, 1, 5, 6, 7]))
     (.seq (.seq (.seq (.reg [⟨(some 20), none, .inl (.mv (.t 7))⟩,
         ⟨(some 21), none, .inl (.bin .eql (.t 20) (.c (.int .i64 0)))⟩,
         ⟨(some 22), none, .inl (.mv (.t 0))⟩,
         ⟨(some 23), none, .inr (.call 18 [(.t 22)])⟩,
         ⟨(some 24), none, .inl (.binb .neq (.t 21) (.t 23))⟩])
      (.keep [0, 1, 5, 6, 7, 24]))
      (.cond (.t 24)
        (.seq (.seq (.reg [⟨(some 4), none, .inl (.mv (.c (.bool false)))⟩])
         (.keep [4]))
         (.ret))
        (.skip)))
      (.seq (.seq (.seq (.reg [⟨(some 25), none, .inl (.mv (.t 7))⟩,
          ⟨(some 26), none, .inl (.bin .eql (.t 25) (.c (.int .i64 0)))⟩])
       (.keep [0, 1, 5, 6, 26]))
       (.cond (.t 26)
         (.seq (.seq (.reg [⟨(some 28), none, .inl (.mv (.t 6))⟩,
             ⟨(some 29), none, .inr (.call 30 [(.t 28)])⟩,
             ⟨(some 27), none, .inl (.mv (.t 29))⟩,
             ⟨(some 30), none, .inl (.ext 0 (.t 27))⟩,
             ⟨(some 31), none, .inl (.ext 1 (.t 27))⟩,
             ⟨(some 8), none, .inl (.mv (.t 30))⟩,
             ⟨(some 9), none, .inl (.mv (.t 31))⟩])
          (.keep [0, 1, 5, 8, 9]))
          (.seq (.seq (.reg [⟨(some 32), none, .inl (.mv (.t 9))⟩,
              ⟨(some 33), none, .inl (.un .not (.t 32))⟩,
              ⟨(some 34), none, .inl (.mv (.t 33))⟩,
              ⟨(some 35), (some (34, false)), .inl (.mv (.t 0))⟩,
              ⟨(some 36), (some (34, false)), .inl (.mv (.t 8))⟩,
              ⟨(some 37), (some (34, false)), .inr (.call 15 [(.t 35), (.t 36)])⟩,
              ⟨(some 38), (some (34, false)), .inl (.un .not (.t 37))⟩,
              ⟨(some 39), none, .inl (.pick (.t 34) (.c (.bool true)) (.t 38))⟩])
           (.keep [1, 5, 39]))
           (.cond (.t 39)
             (.seq (.seq (.reg [⟨(some 4), none, .inl (.mv (.c (.bool false)))⟩])
              (.keep [4]))
              (.ret))
             (.skip))))
         (.skip)))
       (.seq (.seq (.reg [⟨(some 41), none, .inl (.mv (.t 1))⟩,
           ⟨(some 42), none, .inr (.call 30 [(.t 41)])⟩,
           ⟨(some 40), none, .inl (.mv (.t 42))⟩,
           ⟨(some 43), none, .inl (.ext 0 (.t 40))⟩,
           ⟨(some 44), none, .inl (.ext 1 (.t 40))⟩,
           ⟨(some 10), none, .inl (.mv (.t 43))⟩,
           ⟨(some 11), none, .inl (.mv (.t 44))⟩])
        (.keep [1, 5, 10, 11]))
        (.seq (.seq (.seq (.reg [⟨(some 45), none, .inl (.mv (.t 11))⟩,
            ⟨(some 46), none, .inl (.un .not (.t 45))⟩])
         (.keep [1, 5, 10, 46]))
         (.cond (.t 46)
           (.seq (.seq (.reg [⟨(some 47), none, .inl (.mv (.t 5))⟩,
               ⟨(some 48), none, .inl (.mv (.t 47))⟩,
               ⟨(some 49), (some (48, true)), .inl (.mv (.t 10))⟩,
               ⟨(some 50), (some (48, true)), .inl (.len (.t 49))⟩,
               ⟨(some 51), (some (48, true)), .inl (.bin .eql (.t 50) (.c (.int .i64 0)))⟩,
               ⟨(some 52), none, .inl (.pick (.t 48) (.t 51) (.c (.bool false)))⟩,
               ⟨(some 4), none, .inl (.mv (.t 52))⟩])
            (.keep [4]))
            (.ret))
           (.skip)))
         (.seq (.seq (.reg [⟨(some 54), none, .inl (.mv (.t 10))⟩,
             ⟨(some 55), none, .inr (.call 29 [(.t 54)])⟩,
             ⟨(some 53), none, .inl (.mv (.t 55))⟩,
             ⟨(some 56), none, .inl (.ext 0 (.t 53))⟩,
             ⟨(some 57), none, .inl (.ext 1 (.t 53))⟩,
             ⟨(some 12), none, .inl (.mv (.t 56))⟩,
             ⟨(some 13), none, .inl (.mv (.t 57))⟩])
          (.keep [1, 5, 10, 12, 13]))
          (.seq (.seq (.reg [⟨(some 58), none, .inl (.mv (.t 5))⟩,
              ⟨(some 59), none, .inl (.mv (.t 58))⟩,
              ⟨(some 60), (some (59, true)), .inl (.mv (.t 13))⟩,
              ⟨(some 61), (some (59, true)), .inl (.bin .eql (.t 60) (.c (.int .i64 0)))⟩,
              ⟨(some 62), none, .inl (.pick (.t 59) (.t 61) (.c (.bool false)))⟩,
              ⟨(some 63), none, .inl (.mv (.t 62))⟩,
              ⟨(some 64), (some (63, true)), .inl (.mv (.t 12))⟩,
              ⟨(some 65), (some (63, true)), .inl (.b2s (.t 64))⟩,
              ⟨(some 66), (some (63, true)), .inl (.mv (.t 1))⟩,
              ⟨(some 67), (some (63, true)), .inl (.b2s (.t 66))⟩,
              ⟨(some 68), (some (63, true)), .inl (.bins .eql (.t 65) (.t 67))⟩,
              ⟨(some 69), none, .inl (.pick (.t 63) (.t 68) (.c (.bool false)))⟩,
              ⟨(some 70), none, .inl (.mv (.t 69))⟩,
              ⟨(some 71), (some (70, true)), .inl (.mv (.t 10))⟩,
              ⟨(some 72), (some (70, true)), .inr (.call 18 [(.t 71)])⟩,
              ⟨(some 73), none, .inl (.pick (.t 70) (.t 72) (.c (.bool false)))⟩,
              ⟨(some 4), none, .inl (.mv (.t 73))⟩])
           (.keep [4]))
           (.ret)))))))))
def fc_joistlaw08_TableBack : FC := ⟨74, cmd_joistlaw08_TableBack, [.t 4]⟩
theorem fc_joistlaw08_TableBack_ok : compF Try.prog 9 [[0, 1], [0, 1, 5], [0, 1, 5, 6, 7], [0, 1, 5, 6, 7, 24], [4], [0, 1, 5, 6, 26], [0, 1, 5, 8, 9], [1, 5, 39], [4], [1, 5, 10, 11], [1, 5, 10, 46], [4], [1, 5, 10, 12, 13], [4]] = some fc_joistlaw08_TableBack := by kernel_rfl
/-- joist/joistlaw08.small -/
abbrev F.joistlaw08_small : Nat := 10
def cmd_joistlaw08_small : Cmd :=
  .seq (.seq (.reg [⟨(some 0), none, .inl (.mv (.c (.bool false)))⟩])
   (.keep []))
   (.seq (.seq (.reg [⟨(some 16), none, .inr (.call 19 [(.c (.int .i64 2))])⟩,
       ⟨(some 15), none, .inl (.mv (.t 16))⟩,
       ⟨(some 17), none, .inl (.ext 0 (.t 15))⟩,
       ⟨(some 18), none, .inl (.ext 1 (.t 15))⟩,
       ⟨(some 1), none, .inl (.mv (.t 17))⟩,
       ⟨(some 2), none, .inl (.mv (.t 18))⟩])
    (.keep [1, 2]))
    (.seq (.seq (.reg [⟨(some 20), none, .inl (.mv (.t 1))⟩,
        ⟨(some 21), none, .inl (.build [(.int .i64 0), (.bool false), (.bool false), (.int .i64 0), (.int .i64 0)] [(3, 1, (.c (.int .i64 4))), (4, 1, (.c (.int .i64 5)))])⟩,
        ⟨(some 22), none, .inr (.call 11 [(.t 20), (.t 21)])⟩,
        ⟨(some 19), none, .inl (.mv (.t 22))⟩,
        ⟨(some 23), none, .inl (.ext 0 (.t 19))⟩,
        ⟨(some 24), none, .inl (.ext 1 (.t 19))⟩,
        ⟨(some 25), none, .inl (.ext 2 (.t 19))⟩,
        ⟨(some 4), none, .inr (.alloc [(.int .i64 0), (.int .i64 0)])⟩,
        ⟨(some 3), none, .inl (.mv (.t 23))⟩,
        ⟨none, none, .inr (.store 2 (.t 4) (.t 24))⟩,
        ⟨(some 5), none, .inl (.mv (.t 25))⟩])
     (.keep [2, 3, 4, 5]))
     (.seq (.seq (.seq (.reg [⟨(some 26), none, .inl (.mv (.t 2))⟩,
         ⟨(some 27), none, .inl (.bin .neq (.t 26) (.c (.int .i64 0)))⟩,
         ⟨(some 28), none, .inl (.mv (.t 27))⟩,
         ⟨(some 29), (some (28, false)), .inl (.mv (.t 5))⟩,
         ⟨(some 30), (some (28, false)), .inl (.bin .neq (.t 29) (.c (.int .i64 0)))⟩,
         ⟨(some 31), none, .inl (.pick (.t 28) (.c (.bool true)) (.t 30))⟩,
         ⟨(some 32), none, .inl (.mv (.t 31))⟩,
         ⟨(some 33), (some (32, false)), .inl (.mv (.t 3))⟩,
         ⟨(some 34), (some (32, false)), .inl (.len (.t 33))⟩,
         ⟨(some 35), (some (32, false)), .inl (.bin .neq (.t 34) (.c (.int .i64 2)))⟩,
         ⟨(some 36), none, .inl (.pick (.t 32) (.c (.bool true)) (.t 35))⟩])
      (.keep [3, 4, 36]))
      (.cond (.t 36)
        (.seq (.seq (.reg [⟨(some 0), none, .inl (.mv (.c (.bool false)))⟩])
         (.keep [0]))
         (.ret))
        (.skip)))
      (.seq (.seq (.reg [⟨(some 38), none, .inl (.mv (.t 3))⟩,
          ⟨(some 39), none, .inl (.load true 2 (.t 4))⟩,
          ⟨(some 40), none, .inr (.call 17 [(.t 38), (.t 39)])⟩,
          ⟨(some 37), none, .inl (.mv (.t 40))⟩,
          ⟨(some 41), none, .inl (.ext 0 (.t 37))⟩,
          ⟨(some 42), none, .inl (.ext 1 (.t 37))⟩,
          ⟨(some 6), none, .inl (.mv (.t 41))⟩,
          ⟨(some 7), none, .inl (.mv (.t 42))⟩])
       (.keep [3, 4, 6, 7]))
       (.seq (.seq (.reg [⟨(some 44), none, .inl (.mv (.t 3))⟩,
           ⟨(some 45), none, .inr (.call 12 [(.t 44), (.c (.int .i64 0))])⟩,
           ⟨(some 43), none, .inl (.mv (.t 45))⟩,
           ⟨(some 46), none, .inl (.ext 0 (.t 43))⟩,
           ⟨(some 47), none, .inl (.ext 1 (.t 43))⟩,
           ⟨(some 8), none, .inl (.mv (.t 46))⟩,
           ⟨(some 9), none, .inl (.mv (.t 47))⟩])
        (.keep [3, 4, 6, 7, 8, 9]))
        (.seq (.seq (.reg [⟨(some 49), none, .inl (.mv (.t 8))⟩,
            ⟨(some 50), none, .inl (.load true 2 (.t 4))⟩,
            ⟨(some 51), none, .inr (.call 17 [(.t 49), (.t 50)])⟩,
            ⟨(some 48), none, .inl (.mv (.t 51))⟩,
            ⟨(some 52), none, .inl (.ext 0 (.t 48))⟩,
            ⟨(some 53), none, .inl (.ext 1 (.t 48))⟩,
            ⟨(some 10), none, .inl (.mv (.t 52))⟩,
            ⟨(some 11), none, .inl (.mv (.t 53))⟩])
         (.keep [3, 4, 6, 7, 8, 9, 11]))
         (.seq (.seq (.reg [⟨(some 55), none, .inl (.mv (.t 8))⟩,
             ⟨(some 56), none, .inl (.build [(.int .i64 0), (.bool false), (.bool false), (.int .i64 0), (.int .i64 0)] [(3, 1, (.c (.int .i64 4))), (4, 1, (.c (.int .i64 5)))])⟩,
             ⟨(some 57), none, .inr (.call 11 [(.t 55), (.t 56)])⟩,
             ⟨(some 54), none, .inl (.mv (.t 57))⟩,
             ⟨(some 58), none, .inl (.ext 0 (.t 54))⟩,
             ⟨(some 59), none, .inl (.ext 1 (.t 54))⟩,
             ⟨(some 60), none, .inl (.ext 2 (.t 54))⟩,
             ⟨(some 13), none, .inr (.alloc [(.int .i64 0), (.int .i64 0)])⟩,
             ⟨(some 12), none, .inl (.mv (.t 58))⟩,
             ⟨none, none, .inr (.store 2 (.t 13) (.t 59))⟩,
             ⟨(some 14), none, .inl (.mv (.t 60))⟩])
          (.keep [3, 4, 6, 7, 9, 11, 13, 14]))
          (.seq (.seq (.reg [⟨(some 61), none, .inl (.load true 2 (.t 4))⟩,
              ⟨(some 62), none, .inl (.build [(.int .i64 0), (.int .i64 0)] [])⟩,
              ⟨(some 63), none, .inl (.eqagg false [0, 0] (.t 61) (.t 62))⟩,
              ⟨(some 64), none, .inl (.mv (.t 63))⟩,
              ⟨(some 65), (some (64, true)), .inl (.mv (.t 3))⟩,
              ⟨(some 66), (some (64, true)), .inl (.iaddr 5 (.t 65) (.c (.int .i64 0)))⟩,
              ⟨(some 67), (some (64, true)), .inl (.faddr 3 (.t 66))⟩,
              ⟨(some 68), (some (64, true)), .inl (.load false 1 (.t 67))⟩,
              ⟨(some 69), (some (64, true)), .inl (.bin .eql (.t 68) (.c (.int .i64 4)))⟩,
              ⟨(some 70), none, .inl (.pick (.t 64) (.t 69) (.c (.bool false)))⟩,
              ⟨(some 71), none, .inl (.mv (.t 70))⟩,
              ⟨(some 72), (some (71, true)), .inl (.mv (.t 7))⟩,
              ⟨(some 73), none, .inl (.pick (.t 71) (.t 72) (.c (.bool false)))⟩,
              ⟨(some 74), none, .inl (.mv (.t 73))⟩,
              ⟨(some 75), (some (74, true)), .inl (.mv (.t 6))⟩,
              ⟨(some 76), (some (74, true)), .inl (.bin .eql (.t 75) (.c (.int .i64 0)))⟩,
              ⟨(some 77), none, .inl (.pick (.t 74) (.t 76) (.c (.bool false)))⟩,
              ⟨(some 78), none, .inl (.mv (.t 77))⟩,
              ⟨(some 79), (some (78, true)), .inl (.mv (.t 9))⟩,
              ⟨(some 80), (some (78, true)), .inl (.bin .eql (.t 79) (.c (.int .i64 0)))⟩,
              ⟨(some 81), none, .inl (.pick (.t 78) (.t 80) (.c (.bool false)))⟩,
              ⟨(some 82), none, .inl (.mv (.t 81))⟩,
              ⟨(some 83), (some (82, true)), .inl (.mv (.t 11))⟩,
              ⟨(some 84), (some (82, true)), .inl (.un .not (.t 83))⟩,
              ⟨(some 85), none, .inl (.pick (.t 82) (.t 84) (.c (.bool false)))⟩,
              ⟨(some 86), none, .inl (.mv (.t 85))⟩,
              ⟨(some 87), (some (86, true)), .inl (.mv (.t 14))⟩,
              ⟨(some 88), (some (86, true)), .inl (.bin .eql (.t 87) (.c (.int .i64 0)))⟩,
              ⟨(some 89), none, .inl (.pick (.t 86) (.t 88) (.c (.bool false)))⟩,
              ⟨(some 90), none, .inl (.mv (.t 89))⟩,
              ⟨(some 91), (some (90, true)), .inl (.load true 2 (.t 13))⟩,
              ⟨(some 92), (some (90, true)), .inl (.build [(.int .i64 0), (.int .i64 0)] [(1, 1, (.c (.int .i64 1)))])⟩,
              ⟨(some 93), (some (90, true)), .inl (.eqagg false [0, 0] (.t 91) (.t 92))⟩,
              ⟨(some 94), none, .inl (.pick (.t 90) (.t 93) (.c (.bool false)))⟩,
              ⟨(some 0), none, .inl (.mv (.t 94))⟩])
           (.keep [0]))
           (.ret)))))))))
def fc_joistlaw08_small : FC := ⟨95, cmd_joistlaw08_small, [.t 0]⟩
theorem fc_joistlaw08_small_ok : compF Try.prog 10 [[], [1, 2], [2, 3, 4, 5], [3, 4, 36], [0], [3, 4, 6, 7], [3, 4, 6, 7, 8, 9], [3, 4, 6, 7, 8, 9, 11], [3, 4, 6, 7, 9, 11, 13, 14], [0]] = some fc_joistlaw08_small := by kernel_rfl
/-- joist/table.Take -/
abbrev F.table_Take : Nat := 11
def cmd_table_Take : Cmd :=
  .seq (.seq (.reg [⟨(some 3), none, .inr (.box 5 (.t 1))⟩,
      ⟨(some 4), none, .inl (.mv (.c .nils))⟩,
      ⟨(some 5), none, .inr (.alloc [(.int .i64 0), (.int .i64 0)])⟩,
      ⟨(some 6), none, .inl (.mv (.c (.int .i64 0)))⟩])
   (.keep [0, 3, 5]))
   (.seq (.seq (.seq (.reg [⟨(some 9), none, .inl (.mv (.t 0))⟩,
       ⟨(some 10), none, .inr (.call 18 [(.t 9)])⟩,
       ⟨(some 11), none, .inl (.un .not (.t 10))⟩])
    (.keep [0, 3, 5, 11]))
    (.cond (.t 11)
      (.seq (.seq (.reg [⟨(some 12), none, .inl (.build [(.int .i64 0), (.int .i64 0)] [])⟩,
          ⟨(some 4), none, .inl (.mv (.c .nils))⟩,
          ⟨none, none, .inr (.store 2 (.t 5) (.t 12))⟩,
          ⟨(some 6), none, .inl (.mv (.c (.int .i64 1)))⟩])
       (.keep [4, 5, 6]))
       (.ret))
      (.skip)))
    (.seq (.seq (.reg [⟨(some 14), none, .inl (.mv (.t 0))⟩,
        ⟨(some 15), none, .inr (.call 22 [(.t 14)])⟩,
        ⟨(some 13), none, .inl (.mv (.t 15))⟩,
        ⟨(some 16), none, .inl (.ext 0 (.t 13))⟩,
        ⟨(some 17), none, .inl (.ext 1 (.t 13))⟩,
        ⟨(some 7), none, .inl (.mv (.t 16))⟩,
        ⟨(some 8), none, .inl (.mv (.t 17))⟩])
     (.keep [0, 3, 5, 7, 8]))
     (.seq (.seq (.seq (.reg [⟨(some 18), none, .inl (.mv (.t 8))⟩,
         ⟨(some 19), none, .inl (.un .not (.t 18))⟩])
      (.keep [0, 3, 5, 7, 19]))
      (.cond (.t 19)
        (.seq (.seq (.reg [⟨(some 20), none, .inl (.build [(.int .i64 0), (.int .i64 0)] [])⟩,
            ⟨(some 4), none, .inl (.mv (.c .nils))⟩,
            ⟨none, none, .inr (.store 2 (.t 5) (.t 20))⟩,
            ⟨(some 6), none, .inl (.mv (.c (.int .i64 9)))⟩])
         (.keep [4, 5, 6]))
         (.ret))
        (.skip)))
      (.seq (.seq (.ord [⟨0, ⟨(some 21), none, .inl (.mv (.t 0))⟩, [], true⟩,
          ⟨1, ⟨(some 22), none, .inl (.mv (.t 7))⟩, [], true⟩,
          ⟨2, ⟨(some 23), none, .inl (.iaddr 5 (.t 21) (.t 22))⟩, [], true⟩,
          ⟨3, ⟨(some 24), none, .inl (.faddr 0 (.t 23))⟩, [], true⟩,
          ⟨4, ⟨(some 25), none, .inl (.load false 1 (.t 24))⟩, [], true⟩,
          ⟨5, ⟨(some 26), none, .inl (.faddr 1 (.t 3))⟩, [], false⟩,
          ⟨6, ⟨none, none, .inr (.store 1 (.t 26) (.c (.bool true)))⟩, [0, 1, 2, 3, 4], false⟩,
          ⟨7, ⟨(some 27), none, .inl (.faddr 0 (.t 3))⟩, [], false⟩,
          ⟨8, ⟨none, none, .inr (.store 1 (.t 27) (.t 25))⟩, [], false⟩])
       (.keep [0, 3, 5, 7]))
       (.seq (.seq (.seq (.reg [⟨(some 28), none, .inl (.load true 5 (.t 3))⟩,
           ⟨(some 29), none, .inr (.call 35 [(.t 28)])⟩,
           ⟨(some 30), none, .inl (.un .not (.t 29))⟩])
        (.keep [0, 3, 5, 7, 30]))
        (.cond (.t 30)
          (.seq (.seq (.reg [⟨(some 31), none, .inl (.build [(.int .i64 0), (.int .i64 0)] [])⟩,
              ⟨(some 4), none, .inl (.mv (.c .nils))⟩,
              ⟨none, none, .inr (.store 2 (.t 5) (.t 31))⟩,
              ⟨(some 6), none, .inl (.mv (.c (.int .i64 1)))⟩])
           (.keep [4, 5, 6]))
           (.ret))
          (.skip)))
        (.seq (.seq (.ord [⟨0, ⟨(some 32), none, .inl (.mv (.t 0))⟩, [], false⟩,
            ⟨1, ⟨(some 33), none, .inl (.mv (.t 7))⟩, [], false⟩,
            ⟨2, ⟨(some 34), none, .inl (.load true 5 (.t 3))⟩, [], false⟩,
            ⟨4, ⟨(some 36), none, .inl (.mv (.t 7))⟩, [], true⟩,
            ⟨5, ⟨(some 37), none, .inl (.faddr 0 (.t 3))⟩, [], true⟩,
            ⟨6, ⟨(some 38), none, .inl (.load false 1 (.t 37))⟩, [], true⟩,
            ⟨7, ⟨(some 39), none, .inl (.build [(.int .i64 0), (.int .i64 0)] [(0, 1, (.t 36)), (1, 1, (.t 38))])⟩, [], true⟩,
            ⟨3, ⟨(some 35), none, .inr (.call 36 [(.t 32), (.t 33), (.t 34)])⟩, [4, 5, 6, 7], false⟩,
            ⟨8, ⟨(some 4), none, .inl (.mv (.t 35))⟩, [], false⟩,
            ⟨9, ⟨none, none, .inr (.store 2 (.t 5) (.t 39))⟩, [], false⟩,
            ⟨10, ⟨(some 6), none, .inl (.mv (.c (.int .i64 0)))⟩, [], false⟩])
         (.keep [4, 5, 6]))
         (.ret)))))))
def fc_table_Take : FC := ⟨40, cmd_table_Take, [.t 4, .cell 5 true 2, .t 6]⟩
theorem fc_table_Take_ok : compF Try.prog 11 [[0, 3, 5], [0, 3, 5, 11], [4, 5, 6], [0, 3, 5, 7, 8], [0, 3, 5, 7, 19], [4, 5, 6], [0, 3, 5, 7], [0, 1, 2, 3, 4, 5, 6, 7, 8], [0, 3, 5, 7, 30], [4, 5, 6], [4, 5, 6], [0, 1, 2, 4, 5, 6, 7, 3, 8, 9, 10]] = some fc_table_Take := by kernel_rfl
/-- joist/table.Free -/
abbrev F.table_Free : Nat := 12
def cmd_table_Free : Cmd :=
  .seq (.seq (.reg [⟨(some 4), none, .inl (.mv (.c .nils))⟩,
      ⟨(some 5), none, .inl (.mv (.c (.int .i64 0)))⟩])
   (.keep [0, 1]))
   (.seq (.seq (.seq (.reg [⟨(some 7), none, .inl (.mv (.t 0))⟩,
       ⟨(some 8), none, .inr (.call 18 [(.t 7)])⟩,
       ⟨(some 9), none, .inl (.un .not (.t 8))⟩,
       ⟨(some 10), none, .inl (.mv (.t 9))⟩,
       ⟨(some 11), (some (10, false)), .inl (.mv (.t 1))⟩,
       ⟨(some 12), (some (10, false)), .inl (.bin .lss (.t 11) (.c (.int .i64 0)))⟩,
       ⟨(some 13), none, .inl (.pick (.t 10) (.c (.bool true)) (.t 12))⟩,
       ⟨(some 14), none, .inl (.mv (.t 13))⟩,
       ⟨(some 15), (some (14, false)), .inl (.mv (.t 1))⟩,
       ⟨(some 16), (some (14, false)), .inl (.mv (.t 0))⟩,
       ⟨(some 17), (some (14, false)), .inl (.len (.t 16))⟩,
       ⟨(some 18), (some (14, false)), .inl (.bin .geq (.t 15) (.t 17))⟩,
       ⟨(some 19), none, .inl (.pick (.t 14) (.c (.bool true)) (.t 18))⟩,
       ⟨(some 20), none, .inl (.mv (.t 19))⟩,
       ⟨(some 21), (some (20, false)), .inl (.mv (.t 0))⟩,
       ⟨(some 22), (some (20, false)), .inl (.mv (.t 1))⟩,
       ⟨(some 23), (some (20, false)), .inl (.iaddr 5 (.t 21) (.t 22))⟩,
       ⟨(some 24), (some (20, false)), .inl (.faddr 1 (.t 23))⟩,
       ⟨(some 25), (some (20, false)), .inl (.load false 1 (.t 24))⟩,
       ⟨(some 26), (some (20, false)), .inl (.un .not (.t 25))⟩,
       ⟨(some 27), none, .inl (.pick (.t 20) (.c (.bool true)) (.t 26))⟩])
    (.keep [0, 1, 27]))
    (.cond (.t 27)
      (.seq (.seq (.reg [⟨(some 4), none, .inl (.mv (.c .nils))⟩,
          ⟨(some 5), none, .inl (.mv (.c (.int .i64 1)))⟩])
       (.keep [4, 5]))
       (.ret))
      (.skip)))
    (.seq (.seq (.reg [⟨(some 28), none, .inl (.mv (.t 0))⟩,
        ⟨(some 29), none, .inl (.mv (.t 1))⟩,
        ⟨(some 30), none, .inl (.iaddr 5 (.t 28) (.t 29))⟩,
        ⟨(some 31), none, .inl (.faddr 0 (.t 30))⟩,
        ⟨(some 32), none, .inl (.load false 1 (.t 31))⟩,
        ⟨(some 33), none, .inl (.bin .add (.t 32) (.c (.int .i64 1)))⟩,
        ⟨(some 34), none, .inl (.mn (.t 33) (.c (.int .i64 65535)))⟩,
        ⟨(some 6), none, .inl (.mv (.t 34))⟩])
     (.keep [0, 1, 6]))
     (.seq (.seq (.reg [⟨(some 35), none, .inl (.mv (.t 0))⟩,
         ⟨(some 36), none, .inl (.mv (.t 1))⟩,
         ⟨(some 37), none, .inl (.mv (.t 6))⟩,
         ⟨(some 38), none, .inl (.build [(.int .i64 0), (.bool false), (.bool false), (.int .i64 0), (.int .i64 0)] [(0, 1, (.t 37))])⟩,
         ⟨(some 39), none, .inr (.call 36 [(.t 35), (.t 36), (.t 38)])⟩,
         ⟨(some 4), none, .inl (.mv (.t 39))⟩,
         ⟨(some 5), none, .inl (.mv (.c (.int .i64 0)))⟩])
      (.keep [4, 5]))
      (.ret))))
def fc_table_Free : FC := ⟨40, cmd_table_Free, [.t 4, .t 5]⟩
theorem fc_table_Free_ok : compF Try.prog 12 [[0, 1], [0, 1, 27], [4, 5], [0, 1, 6], [4, 5]] = some fc_table_Free := by kernel_rfl
/-- joist/joistref08.Take -/
abbrev F.joistref08_Take : Nat := 13
def cmd_joistref08_Take : Cmd :=
  .seq (.seq (.reg [⟨(some 3), none, .inr (.box 5 (.t 1))⟩,
      ⟨(some 4), none, .inl (.mv (.c .nils))⟩,
      ⟨(some 5), none, .inr (.alloc [(.int .i64 0), (.int .i64 0)])⟩,
      ⟨(some 6), none, .inl (.mv (.c (.int .i64 0)))⟩])
   (.keep [0, 3, 5]))
   (.seq (.seq (.reg [⟨(some 13), none, .inl (.mv (.t 0))⟩,
       ⟨(some 14), none, .inr (.call 24 [(.t 13)])⟩,
       ⟨(some 7), none, .inl (.mv (.t 14))⟩])
    (.keep [0, 3, 5, 7]))
    (.seq (.seq (.seq (.reg [⟨(some 15), none, .inl (.mv (.t 7))⟩,
        ⟨(some 16), none, .inl (.un .not (.t 15))⟩])
     (.keep [0, 3, 5, 16]))
     (.cond (.t 16)
       (.seq (.seq (.reg [⟨(some 17), none, .inl (.build [(.int .i64 0), (.int .i64 0)] [])⟩,
           ⟨(some 4), none, .inl (.mv (.c .nils))⟩,
           ⟨none, none, .inr (.store 2 (.t 5) (.t 17))⟩,
           ⟨(some 6), none, .inl (.mv (.c (.int .i64 1)))⟩])
        (.keep [4, 5, 6]))
        (.ret))
       (.skip)))
     (.seq (.seq (.reg [⟨(some 19), none, .inl (.mv (.t 0))⟩,
         ⟨(some 20), none, .inr (.call 23 [(.t 19)])⟩,
         ⟨(some 18), none, .inl (.mv (.t 20))⟩,
         ⟨(some 21), none, .inl (.ext 0 (.t 18))⟩,
         ⟨(some 22), none, .inl (.ext 1 (.t 18))⟩,
         ⟨(some 8), none, .inl (.mv (.t 21))⟩,
         ⟨(some 9), none, .inl (.mv (.t 22))⟩])
      (.keep [0, 3, 5, 8, 9]))
      (.seq (.seq (.seq (.reg [⟨(some 23), none, .inl (.mv (.t 9))⟩,
          ⟨(some 24), none, .inl (.un .not (.t 23))⟩])
       (.keep [0, 3, 5, 8, 24]))
       (.cond (.t 24)
         (.seq (.seq (.reg [⟨(some 25), none, .inl (.build [(.int .i64 0), (.int .i64 0)] [])⟩,
             ⟨(some 4), none, .inl (.mv (.c .nils))⟩,
             ⟨none, none, .inr (.store 2 (.t 5) (.t 25))⟩,
             ⟨(some 6), none, .inl (.mv (.c (.int .i64 9)))⟩])
          (.keep [4, 5, 6]))
          (.ret))
         (.skip)))
       (.seq (.seq (.ord [⟨0, ⟨(some 26), none, .inl (.mv (.t 0))⟩, [], true⟩,
           ⟨1, ⟨(some 27), none, .inl (.mv (.t 8))⟩, [], true⟩,
           ⟨2, ⟨(some 28), none, .inl (.iaddr 5 (.t 26) (.t 27))⟩, [], true⟩,
           ⟨3, ⟨(some 29), none, .inl (.faddr 0 (.t 28))⟩, [], true⟩,
           ⟨4, ⟨(some 30), none, .inl (.load false 1 (.t 29))⟩, [], true⟩,
           ⟨5, ⟨(some 31), none, .inl (.faddr 2 (.t 3))⟩, [], true⟩,
           ⟨6, ⟨(some 32), none, .inl (.load false 1 (.t 31))⟩, [], true⟩,
           ⟨7, ⟨(some 33), none, .inl (.faddr 3 (.t 3))⟩, [], true⟩,
           ⟨8, ⟨(some 34), none, .inl (.load false 1 (.t 33))⟩, [], true⟩,
           ⟨9, ⟨(some 35), none, .inl (.faddr 4 (.t 3))⟩, [], true⟩,
           ⟨10, ⟨(some 36), none, .inl (.load false 1 (.t 35))⟩, [], true⟩,
           ⟨11, ⟨(some 37), none, .inl (.build [(.int .i64 0), (.bool false), (.bool false), (.int .i64 0), (.int .i64 0)] [(0, 1, (.t 30)), (1, 1, (.c (.bool true))), (2, 1, (.t 32)), (3, 1, (.t 34)), (4, 1, (.t 36))])⟩, [], true⟩,
           ⟨12, ⟨(some 10), none, .inr (.alloc [(.int .i64 0), (.bool false), (.bool false), (.int .i64 0), (.int .i64 0)])⟩, [0, 1, 2, 3, 4, 5, 6, 7, 8, 9, 10, 11], false⟩,
           ⟨13, ⟨none, none, .inr (.store 5 (.t 10) (.t 37))⟩, [], false⟩])
        (.keep [0, 5, 8, 10]))
        (.seq (.seq (.reg [⟨(some 38), none, .inl (.load true 5 (.t 10))⟩,
            ⟨(some 39), none, .inr (.call 37 [(.t 38)])⟩,
            ⟨(some 11), none, .inl (.mv (.t 39))⟩])
         (.keep [0, 5, 8, 10, 11]))
         (.seq (.seq (.seq (.reg [⟨(some 40), none, .inl (.mv (.t 11))⟩,
             ⟨(some 41), none, .inl (.un .not (.t 40))⟩])
          (.keep [0, 5, 8, 10, 41]))
          (.cond (.t 41)
            (.seq (.seq (.reg [⟨(some 42), none, .inl (.build [(.int .i64 0), (.int .i64 0)] [])⟩,
                ⟨(some 4), none, .inl (.mv (.c .nils))⟩,
                ⟨none, none, .inr (.store 2 (.t 5) (.t 42))⟩,
                ⟨(some 6), none, .inl (.mv (.c (.int .i64 1)))⟩])
             (.keep [4, 5, 6]))
             (.ret))
            (.skip)))
          (.seq (.seq (.reg [⟨(some 43), none, .inr (.bslice 5 [(.int .i64 0), (.bool false), (.bool false), (.int .i64 0), (.int .i64 0)] 0 [])⟩,
              ⟨(some 44), none, .inl (.mv (.t 0))⟩,
              ⟨(some 45), none, .inr (.append 5 32 (.t 43) (.t 44))⟩,
              ⟨(some 12), none, .inl (.mv (.t 45))⟩])
           (.keep [5, 8, 10, 12]))
           (.seq (.seq (.reg [⟨(some 46), none, .inl (.mv (.t 12))⟩,
               ⟨(some 47), none, .inl (.mv (.t 8))⟩,
               ⟨(some 48), none, .inl (.load true 5 (.t 10))⟩,
               ⟨(some 49), none, .inl (.iaddr 5 (.t 46) (.t 47))⟩,
               ⟨none, none, .inr (.store 5 (.t 49) (.t 48))⟩])
            (.keep [5, 8, 10, 12]))
            (.seq (.seq (.ord [⟨0, ⟨(some 50), none, .inl (.mv (.t 12))⟩, [], false⟩,
                ⟨1, ⟨(some 51), none, .inl (.mv (.t 8))⟩, [], false⟩,
                ⟨2, ⟨(some 52), none, .inl (.faddr 0 (.t 10))⟩, [], false⟩,
                ⟨3, ⟨(some 53), none, .inl (.load false 1 (.t 52))⟩, [], false⟩,
                ⟨4, ⟨(some 54), none, .inl (.build [(.int .i64 0), (.int .i64 0)] [(0, 1, (.t 51)), (1, 1, (.t 53))])⟩, [], false⟩,
                ⟨5, ⟨(some 4), none, .inl (.mv (.t 50))⟩, [], false⟩,
                ⟨6, ⟨none, none, .inr (.store 2 (.t 5) (.t 54))⟩, [], false⟩,
                ⟨7, ⟨(some 6), none, .inl (.mv (.c (.int .i64 0)))⟩, [], false⟩])
             (.keep [4, 5, 6]))
             (.ret)))))))))))
def fc_joistref08_Take : FC := ⟨55, cmd_joistref08_Take, [.t 4, .cell 5 true 2, .t 6]⟩
theorem fc_joistref08_Take_ok : compF Try.prog 13 [[0, 3, 5], [0, 3, 5, 7], [0, 3, 5, 16], [4, 5, 6], [0, 3, 5, 8, 9], [0, 3, 5, 8, 24], [4, 5, 6], [0, 5, 8, 10], [0, 1, 2, 3, 4, 5, 6, 7, 8, 9, 10, 11, 12, 13], [0, 5, 8, 10, 11], [0, 5, 8, 10, 41], [4, 5, 6], [5, 8, 10, 12], [5, 8, 10, 12], [4, 5, 6], [0, 1, 2, 3, 4, 5, 6, 7]] = some fc_joistref08_Take := by kernel_rfl
/-- joist/joistref08.Free -/
abbrev F.joistref08_Free : Nat := 14
def cmd_joistref08_Free : Cmd :=
  .seq (.seq (.reg [⟨(some 4), none, .inl (.mv (.c .nils))⟩,
      ⟨(some 5), none, .inl (.mv (.c (.int .i64 0)))⟩])
   (.keep [0, 1]))
   (.seq (.seq (.reg [⟨(some 8), none, .inl (.mv (.t 0))⟩,
       ⟨(some 9), none, .inr (.call 24 [(.t 8)])⟩,
       ⟨(some 6), none, .inl (.mv (.t 9))⟩])
    (.keep [0, 1, 6]))
    (.seq (.seq (.seq (.reg [⟨(some 10), none, .inl (.mv (.t 6))⟩,
        ⟨(some 11), none, .inl (.un .not (.t 10))⟩,
        ⟨(some 12), none, .inl (.mv (.t 11))⟩,
        ⟨(some 13), (some (12, false)), .inl (.mv (.t 1))⟩,
        ⟨(some 14), (some (12, false)), .inl (.bin .lss (.t 13) (.c (.int .i64 0)))⟩,
        ⟨(some 15), none, .inl (.pick (.t 12) (.c (.bool true)) (.t 14))⟩,
        ⟨(some 16), none, .inl (.mv (.t 15))⟩,
        ⟨(some 17), (some (16, false)), .inl (.mv (.t 1))⟩,
        ⟨(some 18), (some (16, false)), .inl (.mv (.t 0))⟩,
        ⟨(some 19), (some (16, false)), .inl (.len (.t 18))⟩,
        ⟨(some 20), (some (16, false)), .inl (.bin .geq (.t 17) (.t 19))⟩,
        ⟨(some 21), none, .inl (.pick (.t 16) (.c (.bool true)) (.t 20))⟩,
        ⟨(some 22), none, .inl (.mv (.t 21))⟩,
        ⟨(some 23), (some (22, false)), .inl (.mv (.t 0))⟩,
        ⟨(some 24), (some (22, false)), .inl (.mv (.t 1))⟩,
        ⟨(some 25), (some (22, false)), .inl (.iaddr 5 (.t 23) (.t 24))⟩,
        ⟨(some 26), (some (22, false)), .inl (.faddr 1 (.t 25))⟩,
        ⟨(some 27), (some (22, false)), .inl (.load false 1 (.t 26))⟩,
        ⟨(some 28), (some (22, false)), .inl (.un .not (.t 27))⟩,
        ⟨(some 29), none, .inl (.pick (.t 22) (.c (.bool true)) (.t 28))⟩])
     (.keep [0, 1, 29]))
     (.cond (.t 29)
       (.seq (.seq (.reg [⟨(some 4), none, .inl (.mv (.c .nils))⟩,
           ⟨(some 5), none, .inl (.mv (.c (.int .i64 1)))⟩])
        (.keep [4, 5]))
        (.ret))
       (.skip)))
     (.seq (.seq (.reg [⟨(some 30), none, .inr (.bslice 5 [(.int .i64 0), (.bool false), (.bool false), (.int .i64 0), (.int .i64 0)] 0 [])⟩,
         ⟨(some 31), none, .inl (.mv (.t 0))⟩,
         ⟨(some 32), none, .inr (.append 5 32 (.t 30) (.t 31))⟩,
         ⟨(some 7), none, .inl (.mv (.t 32))⟩])
      (.keep [0, 1, 7]))
      (.seq (.seq (.reg [⟨(some 33), none, .inl (.mv (.t 7))⟩,
          ⟨(some 34), none, .inl (.mv (.t 1))⟩,
          ⟨(some 35), none, .inl (.mv (.t 0))⟩,
          ⟨(some 36), none, .inl (.mv (.t 1))⟩,
          ⟨(some 37), none, .inl (.iaddr 5 (.t 35) (.t 36))⟩,
          ⟨(some 38), none, .inl (.faddr 0 (.t 37))⟩,
          ⟨(some 39), none, .inl (.load false 1 (.t 38))⟩,
          ⟨(some 40), none, .inl (.bin .add (.t 39) (.c (.int .i64 1)))⟩,
          ⟨(some 41), none, .inl (.mn (.t 40) (.c (.int .i64 65535)))⟩,
          ⟨(some 42), none, .inl (.build [(.int .i64 0), (.bool false), (.bool false), (.int .i64 0), (.int .i64 0)] [(0, 1, (.t 41))])⟩,
          ⟨(some 43), none, .inl (.iaddr 5 (.t 33) (.t 34))⟩,
          ⟨none, none, .inr (.store 5 (.t 43) (.t 42))⟩])
       (.keep [7]))
       (.seq (.seq (.reg [⟨(some 44), none, .inl (.mv (.t 7))⟩,
           ⟨(some 4), none, .inl (.mv (.t 44))⟩,
           ⟨(some 5), none, .inl (.mv (.c (.int .i64 0)))⟩])
        (.keep [4, 5]))
        (.ret))))))
def fc_joistref08_Free : FC := ⟨45, cmd_joistref08_Free, [.t 4, .t 5]⟩
theorem fc_joistref08_Free_ok : compF Try.prog 14 [[0, 1], [0, 1, 6], [0, 1, 29], [4, 5], [0, 1, 7], [7], [4, 5]] = some fc_joistref08_Free := by kernel_rfl
/-- joist/joistref08.Same -/
abbrev F.joistref08_Same : Nat := 15
def cmd_joistref08_Same : Cmd :=
  .seq (.seq (.reg [⟨(some 4), none, .inl (.mv (.c (.bool false)))⟩])
   (.keep [0, 1]))
   (.seq (.seq (.seq (.reg [⟨(some 6), none, .inl (.mv (.t 0))⟩,
       ⟨(some 7), none, .inl (.len (.t 6))⟩,
       ⟨(some 8), none, .inl (.mv (.t 1))⟩,
       ⟨(some 9), none, .inl (.len (.t 8))⟩,
       ⟨(some 10), none, .inl (.bin .neq (.t 7) (.t 9))⟩])
    (.keep [0, 1, 10]))
    (.cond (.t 10)
      (.seq (.seq (.reg [⟨(some 4), none, .inl (.mv (.c (.bool false)))⟩])
       (.keep [4]))
       (.ret))
      (.skip)))
    (.seq (.seq (.seq (.reg [⟨(some 5), none, .inl (.mv (.c (.int .i64 0)))⟩])
     (.keep [0, 1, 5]))
     (.block 0 (.loop [0, 1, 5] (.seq (.seq (.seq (.reg [⟨(some 11), none, .inl (.mv (.t 5))⟩,
         ⟨(some 12), none, .inl (.mv (.t 0))⟩,
         ⟨(some 13), none, .inl (.len (.t 12))⟩,
         ⟨(some 14), none, .inl (.bin .lss (.t 11) (.t 13))⟩])
      (.keep [0, 1, 5, 14]))
      (.cond (.t 14)
        (.skip)
        (.exit 0)))
      (.seq (.block 1 (.seq (.seq (.ord [⟨0, ⟨(some 17), none, .inl (.mv (.t 0))⟩, [], false⟩,
          ⟨1, ⟨(some 18), none, .inl (.mv (.t 5))⟩, [], false⟩,
          ⟨2, ⟨(some 19), none, .inl (.iaddr 5 (.t 17) (.t 18))⟩, [], false⟩,
          ⟨3, ⟨(some 20), none, .inl (.load true 5 (.t 19))⟩, [], false⟩,
          ⟨4, ⟨(some 21), none, .inl (.mv (.t 1))⟩, [], false⟩,
          ⟨5, ⟨(some 22), none, .inl (.mv (.t 5))⟩, [], false⟩,
          ⟨6, ⟨(some 23), none, .inl (.iaddr 5 (.t 21) (.t 22))⟩, [], false⟩,
          ⟨7, ⟨(some 24), none, .inl (.load true 5 (.t 23))⟩, [], false⟩,
          ⟨8, ⟨(some 25), none, .inl (.eqagg true [0, 1, 1, 0, 0] (.t 20) (.t 24))⟩, [], false⟩])
       (.keep [0, 1, 5, 25]))
       (.cond (.t 25)
         (.seq (.seq (.reg [⟨(some 4), none, .inl (.mv (.c (.bool false)))⟩])
          (.keep [4]))
          (.ret))
         (.skip))))
       (.seq (.reg [⟨(some 15), none, .inl (.mv (.t 5))⟩,
           ⟨(some 16), none, .inl (.bin .add (.t 15) (.c (.int .i64 1)))⟩,
           ⟨(some 5), none, .inl (.mv (.t 16))⟩])
        (.keep [0, 1, 5])))))))
     (.seq (.seq (.reg [⟨(some 4), none, .inl (.mv (.c (.bool true)))⟩])
      (.keep [4]))
      (.ret))))
def fc_joistref08_Same : FC := ⟨26, cmd_joistref08_Same, [.t 4]⟩
theorem fc_joistref08_Same_ok : compF Try.prog 15 [[0, 1], [0, 1, 10], [4], [0, 1, 5], [0, 1, 5], [0, 1, 5, 14], [0, 1, 5, 25], [0, 1, 2, 3, 4, 5, 6, 7, 8], [4], [0, 1, 5], [4]] = some fc_joistref08_Same := by kernel_rfl
/-- joist/joistlaw08.spoil -/
abbrev F.joistlaw08_spoil : Nat := 16
def cmd_joistlaw08_spoil : Cmd :=
  .seq (.seq (.reg [⟨(some 2), none, .inl (.mv (.c (.int .i64 0)))⟩])
   (.keep [0, 2]))
   (.block 0 (.loop [0, 2] (.seq (.seq (.seq (.reg [⟨(some 3), none, .inl (.mv (.t 2))⟩,
       ⟨(some 4), none, .inl (.mv (.t 0))⟩,
       ⟨(some 5), none, .inl (.len (.t 4))⟩,
       ⟨(some 6), none, .inl (.bin .lss (.t 3) (.t 5))⟩])
    (.keep [0, 2, 6]))
    (.cond (.t 6)
      (.skip)
      (.exit 0)))
    (.seq (.block 1 (.seq (.reg [⟨(some 9), none, .inl (.mv (.t 0))⟩,
        ⟨(some 10), none, .inl (.mv (.t 2))⟩,
        ⟨(some 11), none, .inl (.build [(.int .i64 0), (.bool false), (.bool false), (.int .i64 0), (.int .i64 0)] [(0, 1, (.c (.int .i64 (-7))))])⟩,
        ⟨(some 12), none, .inl (.iaddr 5 (.t 9) (.t 10))⟩,
        ⟨none, none, .inr (.store 5 (.t 12) (.t 11))⟩])
     (.keep [0, 2])))
     (.seq (.reg [⟨(some 7), none, .inl (.mv (.t 2))⟩,
         ⟨(some 8), none, .inl (.bin .add (.t 7) (.c (.int .i64 1)))⟩,
         ⟨(some 2), none, .inl (.mv (.t 8))⟩])
      (.keep [0, 2]))))))
def fc_joistlaw08_spoil : FC := ⟨13, cmd_joistlaw08_spoil, []⟩
theorem fc_joistlaw08_spoil_ok : compF Try.prog 16 [[0, 2], [0, 2], [0, 2, 6], [0, 2], [0, 2]] = some fc_joistlaw08_spoil := by kernel_rfl
/-- joist/table.Find -/
abbrev F.table_Find : Nat := 17
def cmd_table_Find : Cmd :=
  .seq (.seq (.reg [⟨(some 3), none, .inr (.box 2 (.t 1))⟩,
      ⟨(some 4), none, .inl (.mv (.c (.int .i64 0)))⟩,
      ⟨(some 5), none, .inl (.mv (.c (.bool false)))⟩])
   (.keep [0, 3]))
   (.seq (.seq (.seq (.reg [⟨(some 7), none, .inl (.faddr 0 (.t 3))⟩,
       ⟨(some 8), none, .inl (.load false 1 (.t 7))⟩,
       ⟨(some 9), none, .inl (.bin .lss (.t 8) (.c (.int .i64 0)))⟩,
       ⟨(some 10), none, .inl (.mv (.t 9))⟩,
       ⟨(some 11), (some (10, false)), .inl (.faddr 0 (.t 3))⟩,
       ⟨(some 12), (some (10, false)), .inl (.load false 1 (.t 11))⟩,
       ⟨(some 13), (some (10, false)), .inl (.mv (.t 0))⟩,
       ⟨(some 14), (some (10, false)), .inl (.len (.t 13))⟩,
       ⟨(some 15), (some (10, false)), .inl (.bin .geq (.t 12) (.t 14))⟩,
       ⟨(some 16), none, .inl (.pick (.t 10) (.c (.bool true)) (.t 15))⟩])
    (.keep [0, 3, 16]))
    (.cond (.t 16)
      (.seq (.seq (.reg [⟨(some 4), none, .inl (.mv (.c (.int .i64 0)))⟩,
          ⟨(some 5), none, .inl (.mv (.c (.bool false)))⟩])
       (.keep [4, 5]))
       (.ret))
      (.skip)))
    (.seq (.seq (.seq (.reg [⟨(some 17), none, .inl (.mv (.t 0))⟩,
        ⟨(some 18), none, .inl (.faddr 0 (.t 3))⟩,
        ⟨(some 19), none, .inl (.load false 1 (.t 18))⟩,
        ⟨(some 20), none, .inl (.iaddr 5 (.t 17) (.t 19))⟩,
        ⟨(some 21), none, .inl (.load true 5 (.t 20))⟩,
        ⟨(some 6), none, .inr (.alloc [(.int .i64 0), (.bool false), (.bool false), (.int .i64 0), (.int .i64 0)])⟩,
        ⟨none, none, .inr (.store 5 (.t 6) (.t 21))⟩])
     (.keep [3, 6]))
     (.seq (.seq (.reg [⟨(some 22), none, .inl (.faddr 1 (.t 6))⟩,
         ⟨(some 23), none, .inl (.load false 1 (.t 22))⟩,
         ⟨(some 24), none, .inl (.un .not (.t 23))⟩,
         ⟨(some 25), none, .inl (.mv (.t 24))⟩,
         ⟨(some 26), (some (25, false)), .inl (.faddr 0 (.t 6))⟩,
         ⟨(some 27), (some (25, false)), .inl (.load false 1 (.t 26))⟩,
         ⟨(some 28), (some (25, false)), .inl (.faddr 1 (.t 3))⟩,
         ⟨(some 29), (some (25, false)), .inl (.load false 1 (.t 28))⟩,
         ⟨(some 30), (some (25, false)), .inl (.bin .neq (.t 27) (.t 29))⟩,
         ⟨(some 31), none, .inl (.pick (.t 25) (.c (.bool true)) (.t 30))⟩])
      (.keep [3, 31]))
      (.cond (.t 31)
        (.seq (.seq (.reg [⟨(some 4), none, .inl (.mv (.c (.int .i64 0)))⟩,
            ⟨(some 5), none, .inl (.mv (.c (.bool false)))⟩])
         (.keep [4, 5]))
         (.ret))
        (.skip))))
     (.seq (.seq (.reg [⟨(some 32), none, .inl (.faddr 0 (.t 3))⟩,
         ⟨(some 33), none, .inl (.load false 1 (.t 32))⟩,
         ⟨(some 4), none, .inl (.mv (.t 33))⟩,
         ⟨(some 5), none, .inl (.mv (.c (.bool true)))⟩])
      (.keep [4, 5]))
      (.ret))))
def fc_table_Find : FC := ⟨34, cmd_table_Find, [.t 4, .t 5]⟩
theorem fc_table_Find_ok : compF Try.prog 17 [[0, 3], [0, 3, 16], [4, 5], [3, 6], [3, 31], [4, 5], [4, 5]] = some fc_table_Find := by kernel_rfl
/-- joist/table.Right -/
abbrev F.table_Right : Nat := 18
def cmd_table_Right : Cmd :=
  .seq (.seq (.reg [⟨(some 2), none, .inl (.mv (.c (.bool false)))⟩])
   (.keep [0]))
   (.seq (.seq (.seq (.reg [⟨(some 7), none, .inl (.mv (.t 0))⟩,
       ⟨(some 8), none, .inl (.len (.t 7))⟩,
       ⟨(some 9), none, .inl (.mv (.c (.int .i64 0)))⟩])
    (.keep [0, 7, 8, 9]))
    (.block 0 (.loop [0, 7, 8, 9] (.seq (.seq (.reg [⟨(some 10), none, .inl (.bin .lss (.t 9) (.t 8))⟩])
     (.keep [0, 7, 8, 9, 10]))
     (.seq (.cond (.t 10)
       (.skip)
       (.exit 0))
      (.seq (.block 1 (.seq (.seq (.reg [⟨(some 11), none, .inl (.iaddr 5 (.t 7) (.t 9))⟩,
          ⟨(some 12), none, .inl (.load true 5 (.t 11))⟩,
          ⟨(some 4), none, .inr (.alloc [(.int .i64 0), (.bool false), (.bool false), (.int .i64 0), (.int .i64 0)])⟩,
          ⟨none, none, .inr (.store 5 (.t 4) (.t 12))⟩])
       (.keep [0, 4, 7, 8, 9]))
       (.seq (.seq (.reg [⟨(some 13), none, .inl (.load true 5 (.t 4))⟩,
           ⟨(some 14), none, .inr (.call 35 [(.t 13)])⟩,
           ⟨(some 15), none, .inl (.un .not (.t 14))⟩])
        (.keep [0, 7, 8, 9, 15]))
        (.cond (.t 15)
          (.seq (.seq (.reg [⟨(some 2), none, .inl (.mv (.c (.bool false)))⟩])
           (.keep [2]))
           (.ret))
          (.skip)))))
       (.seq (.reg [⟨(some 16), none, .inl (.bin .add (.t 9) (.c (.int .i64 1)))⟩,
           ⟨(some 9), none, .inl (.mv (.t 16))⟩])
        (.keep [0, 7, 8, 9]))))))))
    (.seq (.seq (.reg [⟨(some 18), none, .inl (.mv (.t 0))⟩,
        ⟨(some 19), none, .inl (.len (.t 18))⟩,
        ⟨(some 20), none, .inr (.call 19 [(.t 19)])⟩,
        ⟨(some 17), none, .inl (.mv (.t 20))⟩,
        ⟨(some 21), none, .inl (.ext 0 (.t 17))⟩,
        ⟨(some 22), none, .inl (.ext 1 (.t 17))⟩,
        ⟨(some 5), none, .inl (.mv (.t 21))⟩,
        ⟨(some 6), none, .inl (.mv (.t 22))⟩])
     (.keep [6]))
     (.seq (.seq (.reg [⟨(some 23), none, .inl (.mv (.t 6))⟩,
         ⟨(some 24), none, .inl (.bin .eql (.t 23) (.c (.int .i64 0)))⟩,
         ⟨(some 2), none, .inl (.mv (.t 24))⟩])
      (.keep [2]))
      (.ret))))
def fc_table_Right : FC := ⟨25, cmd_table_Right, [.t 2]⟩
theorem fc_table_Right_ok : compF Try.prog 18 [[0], [0, 7, 8, 9], [0, 7, 8, 9], [0, 7, 8, 9, 10], [0, 4, 7, 8, 9], [0, 7, 8, 9, 15], [2], [0, 7, 8, 9], [6], [2]] = some fc_table_Right := by kernel_rfl
/-- joist/table.New -/
abbrev F.table_New : Nat := 19
def cmd_table_New : Cmd :=
  .seq (.seq (.reg [⟨(some 2), none, .inl (.mv (.c .nils))⟩,
      ⟨(some 3), none, .inl (.mv (.c (.int .i64 0)))⟩])
   (.keep [0]))
   (.seq (.seq (.seq (.reg [⟨(some 4), none, .inl (.mv (.t 0))⟩,
       ⟨(some 5), none, .inl (.bin .lss (.t 4) (.c (.int .i64 2)))⟩,
       ⟨(some 6), none, .inl (.mv (.t 5))⟩,
       ⟨(some 7), (some (6, false)), .inl (.mv (.t 0))⟩,
       ⟨(some 8), (some (6, false)), .inl (.bin .gtr (.t 7) (.c (.int .i64 32)))⟩,
       ⟨(some 9), none, .inl (.pick (.t 6) (.c (.bool true)) (.t 8))⟩,
       ⟨(some 10), none, .inl (.mv (.t 9))⟩,
       ⟨(some 11), (some (10, false)), .inl (.mv (.t 0))⟩,
       ⟨(some 12), (some (10, false)), .inl (.bin .rem (.t 11) (.c (.int .i64 2)))⟩,
       ⟨(some 13), (some (10, false)), .inl (.bin .neq (.t 12) (.c (.int .i64 0)))⟩,
       ⟨(some 14), none, .inl (.pick (.t 10) (.c (.bool true)) (.t 13))⟩])
    (.keep [0, 14]))
    (.cond (.t 14)
      (.seq (.seq (.reg [⟨(some 2), none, .inl (.mv (.c .nils))⟩,
          ⟨(some 3), none, .inl (.mv (.c (.int .i64 1)))⟩])
       (.keep [2, 3]))
       (.ret))
      (.skip)))
    (.seq (.seq (.reg [⟨(some 15), none, .inl (.mv (.t 0))⟩,
        ⟨(some 16), none, .inr (.mksl 5 32 [(.int .i64 0), (.bool false), (.bool false), (.int .i64 0), (.int .i64 0)] (.t 15) (.t 15))⟩,
        ⟨(some 2), none, .inl (.mv (.t 16))⟩,
        ⟨(some 3), none, .inl (.mv (.c (.int .i64 0)))⟩])
     (.keep [2, 3]))
     (.ret)))
def fc_table_New : FC := ⟨17, cmd_table_New, [.t 2, .t 3]⟩
theorem fc_table_New_ok : compF Try.prog 19 [[0], [0, 14], [2, 3], [2, 3]] = some fc_table_New := by kernel_rfl
/-- joist/joistref08.New -/
abbrev F.joistref08_New : Nat := 20
def cmd_joistref08_New : Cmd :=
  .seq (.seq (.reg [⟨(some 2), none, .inl (.mv (.c .nils))⟩,
      ⟨(some 3), none, .inl (.mv (.c (.int .i64 0)))⟩])
   (.keep [0]))
   (.seq (.seq (.seq (.reg [⟨(some 4), none, .inl (.mv (.t 0))⟩,
       ⟨(some 5), none, .inl (.bin .lss (.t 4) (.c (.int .i64 2)))⟩,
       ⟨(some 6), none, .inl (.mv (.t 5))⟩,
       ⟨(some 7), (some (6, false)), .inl (.mv (.t 0))⟩,
       ⟨(some 8), (some (6, false)), .inl (.bin .gtr (.t 7) (.c (.int .i64 32)))⟩,
       ⟨(some 9), none, .inl (.pick (.t 6) (.c (.bool true)) (.t 8))⟩,
       ⟨(some 10), none, .inl (.mv (.t 9))⟩,
       ⟨(some 11), (some (10, false)), .inl (.mv (.t 0))⟩,
       ⟨(some 12), (some (10, false)), .inl (.bin .rem (.t 11) (.c (.int .i64 2)))⟩,
       ⟨(some 13), (some (10, false)), .inl (.bin .eql (.t 12) (.c (.int .i64 1)))⟩,
       ⟨(some 14), none, .inl (.pick (.t 10) (.c (.bool true)) (.t 13))⟩])
    (.keep [0, 14]))
    (.cond (.t 14)
      (.seq (.seq (.reg [⟨(some 2), none, .inl (.mv (.c .nils))⟩,
          ⟨(some 3), none, .inl (.mv (.c (.int .i64 1)))⟩])
       (.keep [2, 3]))
       (.ret))
      (.skip)))
    (.seq (.seq (.reg [⟨(some 15), none, .inl (.mv (.t 0))⟩,
        ⟨(some 16), none, .inr (.mksl 5 32 [(.int .i64 0), (.bool false), (.bool false), (.int .i64 0), (.int .i64 0)] (.t 15) (.t 15))⟩,
        ⟨(some 2), none, .inl (.mv (.t 16))⟩,
        ⟨(some 3), none, .inl (.mv (.c (.int .i64 0)))⟩])
     (.keep [2, 3]))
     (.ret)))
def fc_joistref08_New : FC := ⟨17, cmd_joistref08_New, [.t 2, .t 3]⟩
theorem fc_joistref08_New_ok : compF Try.prog 20 [[0], [0, 14], [2, 3], [2, 3]] = some fc_joistref08_New := by kernel_rfl
/-- joist/joistref08.Find -/
abbrev F.joistref08_Find : Nat := 21
def cmd_joistref08_Find : Cmd :=
  .seq (.seq (.reg [⟨(some 3), none, .inr (.box 2 (.t 1))⟩,
      ⟨(some 4), none, .inl (.mv (.c (.int .i64 0)))⟩,
      ⟨(some 5), none, .inl (.mv (.c (.bool false)))⟩])
   (.keep [0, 3]))
   (.seq (.seq (.seq (.ord [⟨0, ⟨(some 6), none, .inl (.faddr 0 (.t 3))⟩, [], false⟩,
       ⟨1, ⟨(some 7), none, .inl (.load false 1 (.t 6))⟩, [], false⟩,
       ⟨2, ⟨(some 8), none, .inl (.bin .lss (.t 7) (.c (.int .i64 0)))⟩, [], false⟩,
       ⟨3, ⟨(some 9), none, .inl (.mv (.t 8))⟩, [], false⟩,
       ⟨4, ⟨(some 10), (some (9, false)), .inl (.faddr 0 (.t 3))⟩, [], false⟩,
       ⟨5, ⟨(some 11), (some (9, false)), .inl (.load false 1 (.t 10))⟩, [], false⟩,
       ⟨6, ⟨(some 12), (some (9, false)), .inl (.mv (.t 0))⟩, [], false⟩,
       ⟨7, ⟨(some 13), (some (9, false)), .inl (.len (.t 12))⟩, [], false⟩,
       ⟨8, ⟨(some 14), (some (9, false)), .inl (.bin .geq (.t 11) (.t 13))⟩, [], false⟩,
       ⟨9, ⟨(some 15), none, .inl (.pick (.t 9) (.c (.bool true)) (.t 14))⟩, [], false⟩,
       ⟨10, ⟨(some 16), none, .inl (.mv (.t 15))⟩, [], false⟩,
       ⟨11, ⟨(some 17), (some (16, false)), .inl (.mv (.t 0))⟩, [], false⟩,
       ⟨12, ⟨(some 18), (some (16, false)), .inl (.faddr 0 (.t 3))⟩, [], false⟩,
       ⟨13, ⟨(some 19), (some (16, false)), .inl (.load false 1 (.t 18))⟩, [], false⟩,
       ⟨14, ⟨(some 20), (some (16, false)), .inl (.iaddr 5 (.t 17) (.t 19))⟩, [], false⟩,
       ⟨15, ⟨(some 21), (some (16, false)), .inl (.faddr 1 (.t 20))⟩, [], false⟩,
       ⟨16, ⟨(some 22), (some (16, false)), .inl (.load false 1 (.t 21))⟩, [], false⟩,
       ⟨17, ⟨(some 23), (some (16, false)), .inl (.un .not (.t 22))⟩, [], false⟩,
       ⟨18, ⟨(some 24), none, .inl (.pick (.t 16) (.c (.bool true)) (.t 23))⟩, [], false⟩,
       ⟨19, ⟨(some 25), none, .inl (.mv (.t 24))⟩, [], false⟩,
       ⟨20, ⟨(some 26), (some (25, false)), .inl (.mv (.t 0))⟩, [], false⟩,
       ⟨21, ⟨(some 27), (some (25, false)), .inl (.faddr 0 (.t 3))⟩, [], false⟩,
       ⟨22, ⟨(some 28), (some (25, false)), .inl (.load false 1 (.t 27))⟩, [], false⟩,
       ⟨23, ⟨(some 29), (some (25, false)), .inl (.iaddr 5 (.t 26) (.t 28))⟩, [], false⟩,
       ⟨24, ⟨(some 30), (some (25, false)), .inl (.faddr 0 (.t 29))⟩, [], false⟩,
       ⟨25, ⟨(some 31), (some (25, false)), .inl (.load false 1 (.t 30))⟩, [], false⟩,
       ⟨26, ⟨(some 32), (some (25, false)), .inl (.faddr 1 (.t 3))⟩, [], false⟩,
       ⟨27, ⟨(some 33), (some (25, false)), .inl (.load false 1 (.t 32))⟩, [], false⟩,
       ⟨28, ⟨(some 34), (some (25, false)), .inl (.bin .neq (.t 31) (.t 33))⟩, [], false⟩,
       ⟨29, ⟨(some 35), none, .inl (.pick (.t 25) (.c (.bool true)) (.t 34))⟩, [], false⟩])
    (.keep [3, 35]))
    (.cond (.t 35)
      (.seq (.seq (.reg [⟨(some 4), none, .inl (.mv (.c (.int .i64 0)))⟩,
          ⟨(some 5), none, .inl (.mv (.c (.bool false)))⟩])
       (.keep [4, 5]))
       (.ret))
      (.skip)))
    (.seq (.seq (.reg [⟨(some 36), none, .inl (.faddr 0 (.t 3))⟩,
        ⟨(some 37), none, .inl (.load false 1 (.t 36))⟩,
        ⟨(some 4), none, .inl (.mv (.t 37))⟩,
        ⟨(some 5), none, .inl (.mv (.c (.bool true)))⟩])
     (.keep [4, 5]))
     (.ret)))
def fc_joistref08_Find : FC := ⟨38, cmd_joistref08_Find, [.t 4, .t 5]⟩
theorem fc_joistref08_Find_ok : compF Try.prog 21 [[0, 3], [3, 35], [0, 1, 2, 3, 4, 5, 6, 7, 8, 9, 10, 11, 12, 13, 14, 15, 16, 17, 18, 19, 20, 21, 22, 23, 24, 25, 26, 27, 28, 29], [4, 5], [4, 5]] = some fc_joistref08_Find := by kernel_rfl
/-- joist/table.Next -/
abbrev F.table_Next : Nat := 22
def cmd_table_Next : Cmd :=
  .seq (.seq (.reg [⟨(some 2), none, .inl (.mv (.c (.int .i64 0)))⟩,
      ⟨(some 3), none, .inl (.mv (.c (.bool false)))⟩])
   (.keep [0]))
   (.seq (.seq (.seq (.reg [⟨(some 6), none, .inl (.mv (.t 0))⟩,
       ⟨(some 7), none, .inl (.len (.t 6))⟩,
       ⟨(some 8), none, .inl (.mv (.c (.int .i64 0)))⟩])
    (.keep [6, 7, 8]))
    (.block 0 (.loop [6, 7, 8] (.seq (.seq (.reg [⟨(some 9), none, .inl (.bin .lss (.t 8) (.t 7))⟩])
     (.keep [6, 7, 8, 9]))
     (.seq (.cond (.t 9)
       (.skip)
       (.exit 0))
      (.seq (.block 1 (.seq (.seq (.reg [⟨(some 10), none, .inl (.mv (.t 8))⟩,
          ⟨(some 11), none, .inl (.iaddr 5 (.t 6) (.t 8))⟩,
          ⟨(some 12), none, .inl (.load true 5 (.t 11))⟩,
          ⟨(some 5), none, .inr (.alloc [(.int .i64 0), (.bool false), (.bool false), (.int .i64 0), (.int .i64 0)])⟩,
          ⟨(some 4), none, .inl (.mv (.t 10))⟩,
          ⟨none, none, .inr (.store 5 (.t 5) (.t 12))⟩])
       (.keep [4, 5, 6, 7, 8]))
       (.seq (.seq (.reg [⟨(some 13), none, .inl (.load true 5 (.t 5))⟩,
           ⟨(some 14), none, .inr (.call 38 [(.t 13)])⟩])
        (.keep [4, 6, 7, 8, 14]))
        (.cond (.t 14)
          (.seq (.seq (.reg [⟨(some 15), none, .inl (.mv (.t 4))⟩,
              ⟨(some 2), none, .inl (.mv (.t 15))⟩,
              ⟨(some 3), none, .inl (.mv (.c (.bool true)))⟩])
           (.keep [2, 3]))
           (.ret))
          (.skip)))))
       (.seq (.reg [⟨(some 16), none, .inl (.bin .add (.t 8) (.c (.int .i64 1)))⟩,
           ⟨(some 8), none, .inl (.mv (.t 16))⟩])
        (.keep [6, 7, 8]))))))))
    (.seq (.seq (.reg [⟨(some 2), none, .inl (.mv (.c (.int .i64 0)))⟩,
        ⟨(some 3), none, .inl (.mv (.c (.bool false)))⟩])
     (.keep [2, 3]))
     (.ret)))
def fc_table_Next : FC := ⟨17, cmd_table_Next, [.t 2, .t 3]⟩
theorem fc_table_Next_ok : compF Try.prog 22 [[0], [6, 7, 8], [6, 7, 8], [6, 7, 8, 9], [4, 5, 6, 7, 8], [4, 6, 7, 8, 14], [2, 3], [6, 7, 8], [2, 3]] = some fc_table_Next := by kernel_rfl
/-- joist/joistref08.Next -/
abbrev F.joistref08_Next : Nat := 23
def cmd_joistref08_Next : Cmd :=
  .seq (.seq (.reg [⟨(some 2), none, .inl (.mv (.c (.int .i64 0)))⟩,
      ⟨(some 3), none, .inl (.mv (.c (.bool false)))⟩])
   (.keep [0]))
   (.seq (.seq (.reg [⟨(some 5), none, .inl (.mv (.t 0))⟩,
       ⟨(some 6), none, .inr (.call 27 [(.t 5)])⟩,
       ⟨(some 4), none, .inl (.mv (.t 6))⟩])
    (.keep [4]))
    (.seq (.seq (.seq (.reg [⟨(some 7), none, .inl (.mv (.t 4))⟩,
        ⟨(some 8), none, .inl (.len (.t 7))⟩,
        ⟨(some 9), none, .inl (.bin .eql (.t 8) (.c (.int .i64 0)))⟩])
     (.keep [4, 9]))
     (.cond (.t 9)
       (.seq (.seq (.reg [⟨(some 2), none, .inl (.mv (.c (.int .i64 0)))⟩,
           ⟨(some 3), none, .inl (.mv (.c (.bool false)))⟩])
        (.keep [2, 3]))
        (.ret))
       (.skip)))
     (.seq (.seq (.reg [⟨(some 10), none, .inl (.mv (.t 4))⟩,
         ⟨(some 11), none, .inl (.iaddr 1 (.t 10) (.c (.int .i64 0)))⟩,
         ⟨(some 12), none, .inl (.load false 1 (.t 11))⟩,
         ⟨(some 2), none, .inl (.mv (.t 12))⟩,
         ⟨(some 3), none, .inl (.mv (.c (.bool true)))⟩])
      (.keep [2, 3]))
      (.ret))))
def fc_joistref08_Next : FC := ⟨13, cmd_joistref08_Next, [.t 2, .t 3]⟩
theorem fc_joistref08_Next_ok : compF Try.prog 23 [[0], [4], [4, 9], [2, 3], [2, 3]] = some fc_joistref08_Next := by kernel_rfl
/-- joist/joistref08.Right -/
abbrev F.joistref08_Right : Nat := 24
def cmd_joistref08_Right : Cmd :=
  .seq (.seq (.reg [⟨(some 2), none, .inl (.mv (.c (.bool false)))⟩])
   (.keep [0]))
   (.seq (.seq (.seq (.reg [⟨(some 3), none, .inl (.mv (.c (.int .i64 0)))⟩])
    (.keep [0, 3]))
    (.block 0 (.loop [0, 3] (.seq (.seq (.seq (.reg [⟨(some 5), none, .inl (.mv (.t 3))⟩,
        ⟨(some 6), none, .inl (.mv (.t 0))⟩,
        ⟨(some 7), none, .inl (.len (.t 6))⟩,
        ⟨(some 8), none, .inl (.bin .lss (.t 5) (.t 7))⟩])
     (.keep [0, 3, 8]))
     (.cond (.t 8)
       (.skip)
       (.exit 0)))
     (.seq (.block 1 (.seq (.seq (.reg [⟨(some 11), none, .inl (.mv (.t 0))⟩,
         ⟨(some 12), none, .inl (.mv (.t 3))⟩,
         ⟨(some 13), none, .inl (.iaddr 5 (.t 11) (.t 12))⟩,
         ⟨(some 14), none, .inl (.load true 5 (.t 13))⟩,
         ⟨(some 15), none, .inr (.call 37 [(.t 14)])⟩,
         ⟨(some 4), none, .inl (.mv (.t 15))⟩])
      (.keep [0, 3, 4]))
      (.seq (.seq (.reg [⟨(some 16), none, .inl (.mv (.t 4))⟩,
          ⟨(some 17), none, .inl (.un .not (.t 16))⟩])
       (.keep [0, 3, 17]))
       (.cond (.t 17)
         (.seq (.seq (.reg [⟨(some 2), none, .inl (.mv (.c (.bool false)))⟩])
          (.keep [2]))
          (.ret))
         (.skip)))))
      (.seq (.reg [⟨(some 9), none, .inl (.mv (.t 3))⟩,
          ⟨(some 10), none, .inl (.bin .add (.t 9) (.c (.int .i64 1)))⟩,
          ⟨(some 3), none, .inl (.mv (.t 10))⟩])
       (.keep [0, 3])))))))
    (.seq (.seq (.reg [⟨(some 18), none, .inl (.mv (.t 0))⟩,
        ⟨(some 19), none, .inl (.len (.t 18))⟩,
        ⟨(some 20), none, .inl (.bin .geq (.t 19) (.c (.int .i64 2)))⟩,
        ⟨(some 21), none, .inl (.mv (.t 20))⟩,
        ⟨(some 22), (some (21, true)), .inl (.mv (.t 0))⟩,
        ⟨(some 23), (some (21, true)), .inl (.len (.t 22))⟩,
        ⟨(some 24), (some (21, true)), .inl (.bin .leq (.t 23) (.c (.int .i64 32)))⟩,
        ⟨(some 25), none, .inl (.pick (.t 21) (.t 24) (.c (.bool false)))⟩,
        ⟨(some 26), none, .inl (.mv (.t 25))⟩,
        ⟨(some 27), (some (26, true)), .inl (.mv (.t 0))⟩,
        ⟨(some 28), (some (26, true)), .inl (.len (.t 27))⟩,
        ⟨(some 29), (some (26, true)), .inl (.bin .rem (.t 28) (.c (.int .i64 2)))⟩,
        ⟨(some 30), (some (26, true)), .inl (.bin .eql (.t 29) (.c (.int .i64 0)))⟩,
        ⟨(some 31), none, .inl (.pick (.t 26) (.t 30) (.c (.bool false)))⟩,
        ⟨(some 2), none, .inl (.mv (.t 31))⟩])
     (.keep [2]))
     (.ret)))
def fc_joistref08_Right : FC := ⟨32, cmd_joistref08_Right, [.t 2]⟩
theorem fc_joistref08_Right_ok : compF Try.prog 24 [[0], [0, 3], [0, 3], [0, 3, 8], [0, 3, 4], [0, 3, 17], [2], [0, 3], [2]] = some fc_joistref08_Right := by kernel_rfl
/-- joist/joistref01.Same -/
abbrev F.joistref01_Same : Nat := 25
def cmd_joistref01_Same : Cmd :=
  .seq (.seq (.reg [⟨(some 4), none, .inl (.mv (.c (.bool false)))⟩])
   (.keep [0, 1]))
   (.seq (.seq (.seq (.reg [⟨(some 6), none, .inl (.mv (.t 0))⟩,
       ⟨(some 7), none, .inl (.len (.t 6))⟩,
       ⟨(some 8), none, .inl (.mv (.t 1))⟩,
       ⟨(some 9), none, .inl (.len (.t 8))⟩,
       ⟨(some 10), none, .inl (.bin .neq (.t 7) (.t 9))⟩])
    (.keep [0, 1, 10]))
    (.cond (.t 10)
      (.seq (.seq (.reg [⟨(some 4), none, .inl (.mv (.c (.bool false)))⟩])
       (.keep [4]))
       (.ret))
      (.skip)))
    (.seq (.seq (.seq (.reg [⟨(some 5), none, .inl (.mv (.c (.int .i64 0)))⟩])
     (.keep [0, 1, 5]))
     (.block 0 (.loop [0, 1, 5] (.seq (.seq (.seq (.reg [⟨(some 11), none, .inl (.mv (.t 5))⟩,
         ⟨(some 12), none, .inl (.mv (.t 0))⟩,
         ⟨(some 13), none, .inl (.len (.t 12))⟩,
         ⟨(some 14), none, .inl (.bin .lss (.t 11) (.t 13))⟩])
      (.keep [0, 1, 5, 14]))
      (.cond (.t 14)
        (.skip)
        (.exit 0)))
      (.seq (.block 1 (.seq (.seq (.ord [⟨0, ⟨(some 17), none, .inl (.mv (.t 0))⟩, [], false⟩,
          ⟨1, ⟨(some 18), none, .inl (.mv (.t 5))⟩, [], false⟩,
          ⟨2, ⟨(some 19), none, .inl (.iaddr 1 (.t 17) (.t 18))⟩, [], false⟩,
          ⟨3, ⟨(some 20), none, .inl (.load false 1 (.t 19))⟩, [], false⟩,
          ⟨4, ⟨(some 21), none, .inl (.mv (.t 1))⟩, [], false⟩,
          ⟨5, ⟨(some 22), none, .inl (.mv (.t 5))⟩, [], false⟩,
          ⟨6, ⟨(some 23), none, .inl (.iaddr 1 (.t 21) (.t 22))⟩, [], false⟩,
          ⟨7, ⟨(some 24), none, .inl (.load false 1 (.t 23))⟩, [], false⟩,
          ⟨8, ⟨(some 25), none, .inl (.bin .neq (.t 20) (.t 24))⟩, [], false⟩])
       (.keep [0, 1, 5, 25]))
       (.cond (.t 25)
         (.seq (.seq (.reg [⟨(some 4), none, .inl (.mv (.c (.bool false)))⟩])
          (.keep [4]))
          (.ret))
         (.skip))))
       (.seq (.reg [⟨(some 15), none, .inl (.mv (.t 5))⟩,
           ⟨(some 16), none, .inl (.bin .add (.t 15) (.c (.int .i64 1)))⟩,
           ⟨(some 5), none, .inl (.mv (.t 16))⟩])
        (.keep [0, 1, 5])))))))
     (.seq (.seq (.reg [⟨(some 4), none, .inl (.mv (.c (.bool true)))⟩])
      (.keep [4]))
      (.ret))))
def fc_joistref01_Same : FC := ⟨26, cmd_joistref01_Same, [.t 4]⟩
theorem fc_joistref01_Same_ok : compF Try.prog 25 [[0, 1], [0, 1, 10], [4], [0, 1, 5], [0, 1, 5], [0, 1, 5, 14], [0, 1, 5, 25], [0, 1, 2, 3, 4, 5, 6, 7, 8], [4], [0, 1, 5], [4]] = some fc_joistref01_Same := by kernel_rfl
/-- joist/table.Chain -/
abbrev F.table_Chain : Nat := 26
def cmd_table_Chain : Cmd :=
  .seq (.seq (.reg [⟨(some 2), none, .inl (.mv (.c .nils))⟩])
   (.keep [0]))
   (.seq (.seq (.reg [⟨(some 3), none, .inl (.mv (.c .nils))⟩])
    (.keep [0, 3]))
    (.seq (.seq (.seq (.reg [⟨(some 6), none, .inl (.mv (.t 0))⟩,
        ⟨(some 7), none, .inl (.len (.t 6))⟩,
        ⟨(some 8), none, .inl (.mv (.c (.int .i64 0)))⟩])
     (.keep [3, 6, 7, 8]))
     (.block 0 (.loop [3, 6, 7, 8] (.seq (.seq (.reg [⟨(some 9), none, .inl (.bin .lss (.t 8) (.t 7))⟩])
      (.keep [3, 6, 7, 8, 9]))
      (.seq (.cond (.t 9)
        (.skip)
        (.exit 0))
       (.seq (.block 1 (.seq (.seq (.reg [⟨(some 10), none, .inl (.mv (.t 8))⟩,
           ⟨(some 11), none, .inl (.iaddr 5 (.t 6) (.t 8))⟩,
           ⟨(some 12), none, .inl (.load true 5 (.t 11))⟩,
           ⟨(some 5), none, .inr (.alloc [(.int .i64 0), (.bool false), (.bool false), (.int .i64 0), (.int .i64 0)])⟩,
           ⟨(some 4), none, .inl (.mv (.t 10))⟩,
           ⟨none, none, .inr (.store 5 (.t 5) (.t 12))⟩])
        (.keep [3, 4, 5, 6, 7, 8]))
        (.seq (.seq (.reg [⟨(some 13), none, .inl (.load true 5 (.t 5))⟩,
            ⟨(some 14), none, .inr (.call 38 [(.t 13)])⟩])
         (.keep [3, 4, 6, 7, 8, 14]))
         (.cond (.t 14)
           (.seq (.reg [⟨(some 15), none, .inl (.mv (.t 3))⟩,
               ⟨(some 16), none, .inl (.mv (.t 4))⟩,
               ⟨(some 17), none, .inr (.bslice 1 [(.int .i64 0)] 1 [(0, (.t 16))])⟩,
               ⟨(some 18), none, .inr (.append 1 8 (.t 15) (.t 17))⟩,
               ⟨(some 3), none, .inl (.mv (.t 18))⟩])
            (.keep [3, 6, 7, 8]))
           (.skip)))))
        (.seq (.reg [⟨(some 19), none, .inl (.bin .add (.t 8) (.c (.int .i64 1)))⟩,
            ⟨(some 8), none, .inl (.mv (.t 19))⟩])
         (.keep [3, 6, 7, 8]))))))))
     (.seq (.seq (.reg [⟨(some 20), none, .inl (.mv (.t 3))⟩,
         ⟨(some 2), none, .inl (.mv (.t 20))⟩])
      (.keep [2]))
      (.ret))))
def fc_table_Chain : FC := ⟨21, cmd_table_Chain, [.t 2]⟩
theorem fc_table_Chain_ok : compF Try.prog 26 [[0], [0, 3], [3, 6, 7, 8], [3, 6, 7, 8], [3, 6, 7, 8, 9], [3, 4, 5, 6, 7, 8], [3, 4, 6, 7, 8, 14], [3, 6, 7, 8], [3, 6, 7, 8], [2]] = some fc_table_Chain := by kernel_rfl
/-- joist/joistref08.Chain -/
abbrev F.joistref08_Chain : Nat := 27
def cmd_joistref08_Chain : Cmd :=
  .seq (.seq (.reg [⟨(some 2), none, .inl (.mv (.c .nils))⟩])
   (.keep [0]))
   (.seq (.seq (.reg [⟨(some 3), none, .inl (.mv (.c .nils))⟩])
    (.keep [0, 3]))
    (.seq (.seq (.seq (.reg [⟨(some 4), none, .inl (.mv (.c (.int .i64 0)))⟩])
     (.keep [0, 3, 4]))
     (.block 0 (.loop [0, 3, 4] (.seq (.seq (.seq (.reg [⟨(some 5), none, .inl (.mv (.t 4))⟩,
         ⟨(some 6), none, .inl (.mv (.t 0))⟩,
         ⟨(some 7), none, .inl (.len (.t 6))⟩,
         ⟨(some 8), none, .inl (.bin .lss (.t 5) (.t 7))⟩])
      (.keep [0, 3, 4, 8]))
      (.cond (.t 8)
        (.skip)
        (.exit 0)))
      (.seq (.block 1 (.seq (.seq (.reg [⟨(some 11), none, .inl (.mv (.t 0))⟩,
          ⟨(some 12), none, .inl (.mv (.t 4))⟩,
          ⟨(some 13), none, .inl (.iaddr 5 (.t 11) (.t 12))⟩,
          ⟨(some 14), none, .inl (.faddr 1 (.t 13))⟩,
          ⟨(some 15), none, .inl (.load false 1 (.t 14))⟩,
          ⟨(some 16), none, .inl (.un .not (.t 15))⟩,
          ⟨(some 17), none, .inl (.mv (.t 16))⟩,
          ⟨(some 18), (some (17, true)), .inl (.mv (.t 0))⟩,
          ⟨(some 19), (some (17, true)), .inl (.mv (.t 4))⟩,
          ⟨(some 20), (some (17, true)), .inl (.iaddr 5 (.t 18) (.t 19))⟩,
          ⟨(some 21), (some (17, true)), .inl (.faddr 0 (.t 20))⟩,
          ⟨(some 22), (some (17, true)), .inl (.load false 1 (.t 21))⟩,
          ⟨(some 23), (some (17, true)), .inl (.bin .neq (.t 22) (.c (.int .i64 65535)))⟩,
          ⟨(some 24), none, .inl (.pick (.t 17) (.t 23) (.c (.bool false)))⟩])
       (.keep [0, 3, 4, 24]))
       (.cond (.t 24)
         (.seq (.reg [⟨(some 25), none, .inl (.mv (.t 3))⟩,
             ⟨(some 26), none, .inl (.mv (.t 4))⟩,
             ⟨(some 27), none, .inr (.bslice 1 [(.int .i64 0)] 1 [(0, (.t 26))])⟩,
             ⟨(some 28), none, .inr (.append 1 8 (.t 25) (.t 27))⟩,
             ⟨(some 3), none, .inl (.mv (.t 28))⟩])
          (.keep [0, 3, 4]))
         (.skip))))
       (.seq (.reg [⟨(some 9), none, .inl (.mv (.t 4))⟩,
           ⟨(some 10), none, .inl (.bin .add (.t 9) (.c (.int .i64 1)))⟩,
           ⟨(some 4), none, .inl (.mv (.t 10))⟩])
        (.keep [0, 3, 4])))))))
     (.seq (.seq (.reg [⟨(some 29), none, .inl (.mv (.t 3))⟩,
         ⟨(some 2), none, .inl (.mv (.t 29))⟩])
      (.keep [2]))
      (.ret))))
def fc_joistref08_Chain : FC := ⟨30, cmd_joistref08_Chain, [.t 2]⟩
theorem fc_joistref08_Chain_ok : compF Try.prog 27 [[0], [0, 3], [0, 3, 4], [0, 3, 4], [0, 3, 4, 8], [0, 3, 4, 24], [0, 3, 4], [0, 3, 4], [2]] = some fc_joistref08_Chain := by kernel_rfl
/-- joist/joistlaw01.Lent -/
abbrev F.joistlaw01_Lent : Nat := 28
def cmd_joistlaw01_Lent : Cmd :=
  .seq (.seq (.reg [⟨(some 2), none, .inl (.mv (.c .nils))⟩])
   (.keep [0]))
   (.seq (.seq (.reg [⟨(some 4), none, .inl (.mv (.t 0))⟩,
       ⟨(some 5), none, .inl (.len (.t 4))⟩,
       ⟨(some 6), none, .inl (.mv (.t 0))⟩,
       ⟨(some 7), none, .inl (.len (.t 6))⟩,
       ⟨(some 8), none, .inl (.bin .add (.t 7) (.c (.int .i64 1)))⟩,
       ⟨(some 9), none, .inr (.mksl 1 1 [(.int .u8 0)] (.t 5) (.t 8))⟩,
       ⟨(some 3), none, .inl (.mv (.t 9))⟩])
    (.keep [0, 3]))
    (.seq (.seq (.reg [⟨(some 10), none, .inl (.mv (.t 3))⟩,
        ⟨(some 11), none, .inl (.mv (.t 0))⟩,
        ⟨(some 12), none, .inr (.copy 1 (.t 10) (.t 11))⟩])
     (.keep [0, 3]))
     (.seq (.seq (.reg [⟨(some 13), none, .inl (.mv (.t 3))⟩,
         ⟨(some 14), none, .inl (.mv (.t 0))⟩,
         ⟨(some 15), none, .inl (.len (.t 14))⟩,
         ⟨(some 16), none, .inl (.bin .add (.t 15) (.c (.int .i64 1)))⟩,
         ⟨(some 17), none, .inl (.slice 1 (.t 13) none (some (.t 16)) none)⟩,
         ⟨(some 18), none, .inl (.mv (.t 0))⟩,
         ⟨(some 19), none, .inl (.len (.t 18))⟩,
         ⟨(some 20), none, .inl (.iaddr 1 (.t 17) (.t 19))⟩,
         ⟨none, none, .inr (.store 1 (.t 20) (.c (.int .u8 77)))⟩])
      (.keep [3]))
      (.seq (.seq (.reg [⟨(some 21), none, .inl (.mv (.t 3))⟩,
          ⟨(some 2), none, .inl (.mv (.t 21))⟩])
       (.keep [2]))
       (.ret)))))
def fc_joistlaw01_Lent : FC := ⟨22, cmd_joistlaw01_Lent, [.t 2]⟩
theorem fc_joistlaw01_Lent_ok : compF Try.prog 28 [[0], [0, 3], [0, 3], [3], [2]] = some fc_joistlaw01_Lent := by kernel_rfl
/-- joist/table.Bytes -/
abbrev F.table_Bytes : Nat := 29
def cmd_table_Bytes : Cmd :=
  .seq (.seq (.reg [⟨(some 1), none, .inr (.box 1 (.t 0))⟩,
      ⟨(some 2), none, .inl (.mv (.c .nils))⟩,
      ⟨(some 3), none, .inl (.mv (.c (.int .i64 0)))⟩])
   (.keep [1]))
   (.seq (.seq (.seq (.reg [⟨(some 8), none, .inl (.load false 1 (.t 1))⟩,
       ⟨(some 9), none, .inr (.call 18 [(.t 8)])⟩,
       ⟨(some 10), none, .inl (.un .not (.t 9))⟩])
    (.keep [1, 10]))
    (.cond (.t 10)
      (.seq (.seq (.reg [⟨(some 2), none, .inl (.mv (.c .nils))⟩,
          ⟨(some 3), none, .inl (.mv (.c (.int .i64 1)))⟩])
       (.keep [2, 3]))
       (.ret))
      (.skip)))
    (.seq (.seq (.reg [⟨(some 11), none, .inl (.load false 1 (.t 1))⟩,
        ⟨(some 12), none, .inl (.len (.t 11))⟩,
        ⟨(some 13), none, .inl (.bin .mul (.t 12) (.c (.int .i64 4)))⟩,
        ⟨(some 14), none, .inr (.mksl 1 8 [(.int .i64 0)] (.t 13) (.t 13))⟩,
        ⟨(some 4), none, .inr (.alloc [.nils])⟩,
        ⟨none, none, .inr (.store 1 (.t 4) (.t 14))⟩])
     (.keep [1, 4]))
     (.seq (.seq (.reg [⟨(some 5), none, .inr (.alloc [(.int .i64 0)])⟩,
         ⟨none, none, .inr (.store 1 (.t 5) (.c (.int .i64 0)))⟩])
      (.keep [1, 4, 5]))
      (.seq (.seq (.reg [⟨(some 15), none, .inl (.mkfn 39 [(.t 1), (.t 4), (.t 5)])⟩,
          ⟨(some 6), none, .inl (.mv (.t 15))⟩])
       (.keep [1, 4, 6]))
       (.seq (.seq (.seq (.reg [⟨(some 16), none, .inl (.load false 1 (.t 1))⟩,
           ⟨(some 17), none, .inl (.len (.t 16))⟩,
           ⟨(some 18), none, .inl (.bin .sub (.t 17) (.c (.int .i64 1)))⟩,
           ⟨(some 7), none, .inl (.mv (.t 18))⟩])
        (.keep [4, 6, 7]))
        (.block 0 (.loop [4, 6, 7] (.seq (.seq (.seq (.reg [⟨(some 19), none, .inl (.mv (.t 7))⟩,
            ⟨(some 20), none, .inl (.bin .geq (.t 19) (.c (.int .i64 0)))⟩])
         (.keep [4, 6, 7, 20]))
         (.cond (.t 20)
           (.skip)
           (.exit 0)))
         (.seq (.block 1 (.seq (.reg [⟨(some 23), none, .inl (.mv (.t 6))⟩,
             ⟨(some 24), none, .inl (.mv (.t 7))⟩,
             ⟨(some 25), none, .inr (.callv (.t 23) [(.t 24)])⟩])
          (.keep [4, 6, 7])))
          (.seq (.reg [⟨(some 21), none, .inl (.mv (.t 7))⟩,
              ⟨(some 22), none, .inl (.bin .sub (.t 21) (.c (.int .i64 1)))⟩,
              ⟨(some 7), none, .inl (.mv (.t 22))⟩])
           (.keep [4, 6, 7])))))))
        (.seq (.seq (.reg [⟨(some 26), none, .inl (.load false 1 (.t 4))⟩,
            ⟨(some 27), none, .inr (.call 41 [(.t 26)])⟩,
            ⟨(some 28), none, .inl (.ext 0 (.t 27))⟩,
            ⟨(some 29), none, .inl (.ext 1 (.t 27))⟩,
            ⟨(some 2), none, .inl (.mv (.t 28))⟩,
            ⟨(some 3), none, .inl (.mv (.t 29))⟩])
         (.keep [2, 3]))
         (.ret)))))))
def fc_table_Bytes : FC := ⟨30, cmd_table_Bytes, [.t 2, .t 3]⟩
theorem fc_table_Bytes_ok : compF Try.prog 29 [[1], [1, 10], [2, 3], [1, 4], [1, 4, 5], [1, 4, 6], [4, 6, 7], [4, 6, 7], [4, 6, 7, 20], [4, 6, 7], [4, 6, 7], [2, 3]] = some fc_table_Bytes := by kernel_rfl
/-- joist/table.Read -/
abbrev F.table_Read : Nat := 30
def cmd_table_Read : Cmd :=
  .seq (.seq (.reg [⟨(some 2), none, .inl (.mv (.c .nils))⟩,
      ⟨(some 3), none, .inl (.mv (.c (.bool false)))⟩])
   (.keep [0]))
   (.seq (.seq (.seq (.reg [⟨(some 10), none, .inl (.mv (.t 0))⟩,
       ⟨(some 11), none, .inl (.len (.t 10))⟩,
       ⟨(some 12), none, .inl (.bin .gtr (.t 11) (.c (.int .i64 1024)))⟩])
    (.keep [0, 12]))
    (.cond (.t 12)
      (.seq (.seq (.reg [⟨(some 2), none, .inl (.mv (.c .nils))⟩,
          ⟨(some 3), none, .inl (.mv (.c (.bool false)))⟩])
       (.keep [2, 3]))
       (.ret))
      (.skip)))
    (.seq (.seq (.reg [⟨(some 14), none, .inl (.mv (.t 0))⟩,
        ⟨(some 15), none, .inr (.call 42 [(.t 14)])⟩,
        ⟨(some 13), none, .inl (.mv (.t 15))⟩,
        ⟨(some 16), none, .inl (.ext 0 (.t 13))⟩,
        ⟨(some 17), none, .inl (.ext 1 (.t 13))⟩,
        ⟨(some 4), none, .inl (.mv (.t 16))⟩,
        ⟨(some 5), none, .inl (.mv (.t 17))⟩])
     (.keep [0, 4]))
     (.seq (.seq (.reg [⟨(some 6), none, .inl (.mv (.c .nils))⟩])
      (.keep [0, 4, 6]))
      (.seq (.block 0 (.loop [0, 4, 6] (.seq (.seq (.seq (.reg [⟨(some 18), none, .inl (.mv (.t 4))⟩,
          ⟨(some 19), none, .inl (.len (.t 18))⟩,
          ⟨(some 20), none, .inl (.bin .geq (.t 19) (.c (.int .i64 4)))⟩])
       (.keep [0, 4, 6, 20]))
       (.cond (.t 20)
         (.skip)
         (.exit 0)))
       (.seq (.block 1 (.seq (.seq (.reg [⟨(some 23), none, .inl (.mv (.t 4))⟩,
           ⟨(some 24), none, .inl (.iaddr 1 (.t 23) (.c (.int .i64 0)))⟩,
           ⟨(some 25), none, .inl (.load false 1 (.t 24))⟩,
           ⟨(some 7), none, .inl (.mv (.t 25))⟩])
        (.keep [0, 4, 6, 7]))
        (.seq (.ord [⟨0, ⟨(some 26), none, .inl (.mv (.t 6))⟩, [], true⟩,
            ⟨1, ⟨(some 27), none, .inl (.mv (.t 7))⟩, [], false⟩,
            ⟨2, ⟨(some 28), none, .inl (.bin .quo (.t 27) (.c (.int .i64 4)))⟩, [], false⟩,
            ⟨3, ⟨(some 29), none, .inl (.mv (.t 7))⟩, [], false⟩,
            ⟨4, ⟨(some 30), none, .inl (.bin .and (.t 29) (.c (.int .i64 2)))⟩, [], false⟩,
            ⟨5, ⟨(some 31), none, .inl (.bin .neq (.t 30) (.c (.int .i64 0)))⟩, [], false⟩,
            ⟨6, ⟨(some 32), none, .inl (.mv (.t 7))⟩, [], false⟩,
            ⟨7, ⟨(some 33), none, .inl (.bin .and (.t 32) (.c (.int .i64 1)))⟩, [], false⟩,
            ⟨8, ⟨(some 34), none, .inl (.bin .neq (.t 33) (.c (.int .i64 0)))⟩, [], false⟩,
            ⟨9, ⟨(some 35), none, .inl (.mv (.t 4))⟩, [], false⟩,
            ⟨10, ⟨(some 36), none, .inl (.iaddr 1 (.t 35) (.c (.int .i64 1)))⟩, [], false⟩,
            ⟨11, ⟨(some 37), none, .inl (.load false 1 (.t 36))⟩, [], false⟩,
            ⟨12, ⟨(some 38), none, .inl (.mv (.t 4))⟩, [], false⟩,
            ⟨13, ⟨(some 39), none, .inl (.iaddr 1 (.t 38) (.c (.int .i64 2)))⟩, [], false⟩,
            ⟨14, ⟨(some 40), none, .inl (.load false 1 (.t 39))⟩, [], false⟩,
            ⟨15, ⟨(some 41), none, .inl (.build [(.int .i64 0), (.bool false), (.bool false), (.int .i64 0), (.int .i64 0)] [(0, 1, (.t 28)), (1, 1, (.t 31)), (2, 1, (.t 34)), (3, 1, (.t 37)), (4, 1, (.t 40))])⟩, [], false⟩,
            ⟨16, ⟨(some 42), none, .inr (.bslice 5 [(.int .i64 0), (.bool false), (.bool false), (.int .i64 0), (.int .i64 0)] 1 [(0, (.t 41))])⟩, [0], false⟩,
            ⟨17, ⟨(some 43), none, .inr (.append 5 32 (.t 26) (.t 42))⟩, [], false⟩,
            ⟨18, ⟨(some 6), none, .inl (.mv (.t 43))⟩, [], false⟩])
         (.keep [0, 4, 6]))))
        (.seq (.reg [⟨(some 21), none, .inl (.mv (.t 4))⟩,
            ⟨(some 22), none, .inl (.slice 1 (.t 21) (some (.c (.int .i64 4))) none none)⟩,
            ⟨(some 4), none, .inl (.mv (.t 22))⟩])
         (.keep [0, 4, 6]))))))
       (.seq (.seq (.seq (.reg [⟨(some 45), none, .inl (.mv (.t 6))⟩,
           ⟨(some 46), none, .inr (.call 29 [(.t 45)])⟩,
           ⟨(some 44), none, .inl (.mv (.t 46))⟩,
           ⟨(some 47), none, .inl (.ext 0 (.t 44))⟩,
           ⟨(some 48), none, .inl (.ext 1 (.t 44))⟩,
           ⟨(some 8), none, .inl (.mv (.t 47))⟩,
           ⟨(some 9), none, .inl (.mv (.t 48))⟩])
        (.keep [0, 6, 8, 9]))
        (.seq (.seq (.reg [⟨(some 49), none, .inl (.mv (.t 9))⟩,
            ⟨(some 50), none, .inl (.bin .neq (.t 49) (.c (.int .i64 0)))⟩,
            ⟨(some 51), none, .inl (.mv (.t 50))⟩,
            ⟨(some 52), (some (51, false)), .inl (.mv (.t 8))⟩,
            ⟨(some 53), (some (51, false)), .inl (.mv (.t 0))⟩,
            ⟨(some 54), (some (51, false)), .inr (.call 43 [(.t 52), (.t 53)])⟩,
            ⟨(some 55), (some (51, false)), .inl (.un .not (.t 54))⟩,
            ⟨(some 56), none, .inl (.pick (.t 51) (.c (.bool true)) (.t 55))⟩])
         (.keep [6, 56]))
         (.cond (.t 56)
           (.seq (.seq (.reg [⟨(some 2), none, .inl (.mv (.c .nils))⟩,
               ⟨(some 3), none, .inl (.mv (.c (.bool false)))⟩])
            (.keep [2, 3]))
            (.ret))
           (.skip))))
        (.seq (.seq (.reg [⟨(some 57), none, .inl (.mv (.t 6))⟩,
            ⟨(some 2), none, .inl (.mv (.t 57))⟩,
            ⟨(some 3), none, .inl (.mv (.c (.bool true)))⟩])
         (.keep [2, 3]))
         (.ret)))))))
def fc_table_Read : FC := ⟨58, cmd_table_Read, [.t 2, .t 3]⟩
theorem fc_table_Read_ok : compF Try.prog 30 [[0], [0, 12], [2, 3], [0, 4], [0, 4, 6], [0, 4, 6], [0, 4, 6, 20], [0, 4, 6, 7], [0, 4, 6], [0, 1, 2, 3, 4, 5, 6, 7, 8, 9, 10, 11, 12, 13, 14, 15, 16, 17, 18], [0, 4, 6], [0, 6, 8, 9], [6, 56], [2, 3], [2, 3]] = some fc_table_Read := by kernel_rfl
/-- joist/joistlaw01.Kept -/
abbrev F.joistlaw01_Kept : Nat := 31
def cmd_joistlaw01_Kept : Cmd :=
  .seq (.seq (.reg [⟨(some 4), none, .inl (.mv (.c (.bool false)))⟩])
   (.keep [0, 1]))
   (.seq (.seq (.reg [⟨(some 5), none, .inl (.mv (.t 0))⟩,
       ⟨(some 6), none, .inl (.b2s (.t 5))⟩,
       ⟨(some 7), none, .inl (.mv (.t 1))⟩,
       ⟨(some 8), none, .inl (.b2s (.t 7))⟩,
       ⟨(some 9), none, .inl (.bins .eql (.t 6) (.t 8))⟩,
       ⟨(some 10), none, .inl (.mv (.t 9))⟩,
       ⟨(some 11), (some (10, true)), .inl (.mv (.t 0))⟩,
       ⟨(some 12), (some (10, true)), .inl (.mv (.t 1))⟩,
       ⟨(some 13), (some (10, true)), .inl (.len (.t 12))⟩,
       ⟨(some 14), (some (10, true)), .inl (.bin .add (.t 13) (.c (.int .i64 1)))⟩,
       ⟨(some 15), (some (10, true)), .inl (.slice 1 (.t 11) none (some (.t 14)) none)⟩,
       ⟨(some 16), (some (10, true)), .inl (.mv (.t 1))⟩,
       ⟨(some 17), (some (10, true)), .inl (.len (.t 16))⟩,
       ⟨(some 18), (some (10, true)), .inl (.iaddr 1 (.t 15) (.t 17))⟩,
       ⟨(some 19), (some (10, true)), .inl (.load false 1 (.t 18))⟩,
       ⟨(some 20), (some (10, true)), .inl (.bin .eql (.t 19) (.c (.int .u8 77)))⟩,
       ⟨(some 21), none, .inl (.pick (.t 10) (.t 20) (.c (.bool false)))⟩,
       ⟨(some 4), none, .inl (.mv (.t 21))⟩])
    (.keep [4]))
    (.ret))
def fc_joistlaw01_Kept : FC := ⟨22, cmd_joistlaw01_Kept, [.t 4]⟩
theorem fc_joistlaw01_Kept_ok : compF Try.prog 31 [[0, 1], [4]] = some fc_joistlaw01_Kept := by kernel_rfl
/-- joist/joistref08.Bytes -/
abbrev F.joistref08_Bytes : Nat := 32
def cmd_joistref08_Bytes : Cmd :=
  .seq (.seq (.reg [⟨(some 2), none, .inl (.mv (.c .nils))⟩,
      ⟨(some 3), none, .inl (.mv (.c (.int .i64 0)))⟩])
   (.keep [0]))
   (.seq (.seq (.reg [⟨(some 14), none, .inl (.mv (.t 0))⟩,
       ⟨(some 15), none, .inr (.call 24 [(.t 14)])⟩,
       ⟨(some 4), none, .inl (.mv (.t 15))⟩])
    (.keep [0, 4]))
    (.seq (.seq (.seq (.reg [⟨(some 16), none, .inl (.mv (.t 4))⟩,
        ⟨(some 17), none, .inl (.un .not (.t 16))⟩])
     (.keep [0, 17]))
     (.cond (.t 17)
       (.seq (.seq (.reg [⟨(some 2), none, .inl (.mv (.c .nils))⟩,
           ⟨(some 3), none, .inl (.mv (.c (.int .i64 1)))⟩])
        (.keep [2, 3]))
        (.ret))
       (.skip)))
     (.seq (.seq (.reg [⟨(some 5), none, .inl (.mv (.c .nils))⟩])
      (.keep [0, 5]))
      (.seq (.seq (.reg [⟨(some 18), none, .inl (.mv (.t 0))⟩,
          ⟨(some 19), none, .inr (.call 27 [(.t 18)])⟩,
          ⟨(some 6), none, .inl (.mv (.t 19))⟩])
       (.keep [0, 5, 6]))
       (.seq (.seq (.seq (.reg [⟨(some 7), none, .inl (.mv (.c (.int .i64 0)))⟩])
        (.keep [0, 5, 6, 7]))
        (.block 0 (.loop [0, 5, 6, 7] (.seq (.seq (.seq (.reg [⟨(some 20), none, .inl (.mv (.t 7))⟩,
            ⟨(some 21), none, .inl (.mv (.t 0))⟩,
            ⟨(some 22), none, .inl (.len (.t 21))⟩,
            ⟨(some 23), none, .inl (.bin .lss (.t 20) (.t 22))⟩])
         (.keep [0, 5, 6, 7, 23]))
         (.cond (.t 23)
           (.skip)
           (.exit 0)))
         (.seq (.block 1 (.seq (.seq (.reg [⟨(some 26), none, .inl (.mv (.t 0))⟩,
             ⟨(some 27), none, .inl (.mv (.t 7))⟩,
             ⟨(some 28), none, .inl (.iaddr 5 (.t 26) (.t 27))⟩,
             ⟨(some 29), none, .inl (.load true 5 (.t 28))⟩,
             ⟨(some 8), none, .inr (.alloc [(.int .i64 0), (.bool false), (.bool false), (.int .i64 0), (.int .i64 0)])⟩,
             ⟨none, none, .inr (.store 5 (.t 8) (.t 29))⟩])
          (.keep [0, 5, 6, 7, 8]))
          (.seq (.seq (.reg [⟨(some 30), none, .inl (.faddr 0 (.t 8))⟩,
              ⟨(some 31), none, .inl (.load false 1 (.t 30))⟩,
              ⟨(some 32), none, .inl (.bin .mul (.c (.int .i64 4)) (.t 31))⟩,
              ⟨(some 9), none, .inl (.mv (.t 32))⟩])
           (.keep [0, 5, 6, 7, 8, 9]))
           (.seq (.seq (.seq (.reg [⟨(some 33), none, .inl (.faddr 1 (.t 8))⟩,
               ⟨(some 34), none, .inl (.load false 1 (.t 33))⟩])
            (.keep [0, 5, 6, 7, 8, 9, 34]))
            (.cond (.t 34)
              (.seq (.reg [⟨(some 35), none, .inl (.mv (.t 9))⟩,
                  ⟨(some 36), none, .inl (.bin .add (.t 35) (.c (.int .i64 2)))⟩,
                  ⟨(some 9), none, .inl (.mv (.t 36))⟩])
               (.keep [0, 5, 6, 7, 8, 9]))
              (.skip)))
            (.seq (.seq (.seq (.reg [⟨(some 37), none, .inl (.faddr 2 (.t 8))⟩,
                ⟨(some 38), none, .inl (.load false 1 (.t 37))⟩])
             (.keep [0, 5, 6, 7, 8, 9, 38]))
             (.cond (.t 38)
               (.seq (.reg [⟨(some 39), none, .inl (.mv (.t 9))⟩,
                   ⟨(some 40), none, .inl (.bin .add (.t 39) (.c (.int .i64 1)))⟩,
                   ⟨(some 9), none, .inl (.mv (.t 40))⟩])
                (.keep [0, 5, 6, 7, 8, 9]))
               (.skip)))
             (.seq (.seq (.reg [⟨(some 10), none, .inl (.mv (.c (.int .i64 0)))⟩])
              (.keep [0, 5, 6, 7, 8, 9, 10]))
              (.seq (.seq (.seq (.reg [⟨(some 11), none, .inl (.mv (.c (.int .i64 0)))⟩])
               (.keep [0, 5, 6, 7, 8, 9, 10, 11]))
               (.block 2 (.loop [0, 5, 6, 7, 8, 9, 10, 11] (.seq (.seq (.seq (.reg [⟨(some 41), none, .inl (.mv (.t 11))⟩,
                   ⟨(some 42), none, .inl (.bin .add (.t 41) (.c (.int .i64 1)))⟩,
                   ⟨(some 43), none, .inl (.mv (.t 6))⟩,
                   ⟨(some 44), none, .inl (.len (.t 43))⟩,
                   ⟨(some 45), none, .inl (.bin .lss (.t 42) (.t 44))⟩])
                (.keep [0, 5, 6, 7, 8, 9, 10, 11, 45]))
                (.cond (.t 45)
                  (.skip)
                  (.exit 2)))
                (.seq (.block 3 (.seq (.seq (.reg [⟨(some 48), none, .inl (.mv (.t 6))⟩,
                    ⟨(some 49), none, .inl (.mv (.t 11))⟩,
                    ⟨(some 50), none, .inl (.iaddr 1 (.t 48) (.t 49))⟩,
                    ⟨(some 51), none, .inl (.load false 1 (.t 50))⟩,
                    ⟨(some 52), none, .inl (.mv (.t 7))⟩,
                    ⟨(some 53), none, .inl (.bin .eql (.t 51) (.t 52))⟩])
                 (.keep [0, 5, 6, 7, 8, 9, 10, 11, 53]))
                 (.cond (.t 53)
                   (.seq (.reg [⟨(some 54), none, .inl (.mv (.t 6))⟩,
                       ⟨(some 55), none, .inl (.mv (.t 11))⟩,
                       ⟨(some 56), none, .inl (.bin .add (.t 55) (.c (.int .i64 1)))⟩,
                       ⟨(some 57), none, .inl (.iaddr 1 (.t 54) (.t 56))⟩,
                       ⟨(some 58), none, .inl (.load false 1 (.t 57))⟩,
                       ⟨(some 59), none, .inl (.bin .add (.t 58) (.c (.int .i64 1)))⟩,
                       ⟨(some 10), none, .inl (.mv (.t 59))⟩])
                    (.keep [0, 5, 6, 7, 8, 9, 10, 11]))
                   (.skip))))
                 (.seq (.reg [⟨(some 46), none, .inl (.mv (.t 11))⟩,
                     ⟨(some 47), none, .inl (.bin .add (.t 46) (.c (.int .i64 1)))⟩,
                     ⟨(some 11), none, .inl (.mv (.t 47))⟩])
                  (.keep [0, 5, 6, 7, 8, 9, 10, 11])))))))
               (.seq (.reg [⟨(some 60), none, .inl (.mv (.t 5))⟩,
                   ⟨(some 61), none, .inl (.mv (.t 9))⟩,
                   ⟨(some 62), none, .inl (.faddr 3 (.t 8))⟩,
                   ⟨(some 63), none, .inl (.load false 1 (.t 62))⟩,
                   ⟨(some 64), none, .inl (.faddr 4 (.t 8))⟩,
                   ⟨(some 65), none, .inl (.load false 1 (.t 64))⟩,
                   ⟨(some 66), none, .inl (.mv (.t 10))⟩,
                   ⟨(some 67), none, .inr (.bslice 1 [(.int .i64 0)] 4 [(0, (.t 61)), (1, (.t 63)), (2, (.t 65)), (3, (.t 66))])⟩,
                   ⟨(some 68), none, .inr (.append 1 8 (.t 60) (.t 67))⟩,
                   ⟨(some 5), none, .inl (.mv (.t 68))⟩])
                (.keep [0, 5, 6, 7])))))))))
          (.seq (.reg [⟨(some 24), none, .inl (.mv (.t 7))⟩,
              ⟨(some 25), none, .inl (.bin .add (.t 24) (.c (.int .i64 1)))⟩,
              ⟨(some 7), none, .inl (.mv (.t 25))⟩])
           (.keep [0, 5, 6, 7])))))))
        (.seq (.seq (.reg [⟨(some 70), none, .inl (.mv (.t 5))⟩,
            ⟨(some 71), none, .inr (.call 44 [(.t 70)])⟩,
            ⟨(some 69), none, .inl (.mv (.t 71))⟩,
            ⟨(some 72), none, .inl (.ext 0 (.t 69))⟩,
            ⟨(some 73), none, .inl (.ext 1 (.t 69))⟩,
            ⟨(some 12), none, .inl (.mv (.t 72))⟩,
            ⟨(some 13), none, .inl (.mv (.t 73))⟩])
         (.keep [12]))
         (.seq (.seq (.reg [⟨(some 74), none, .inl (.mv (.t 12))⟩,
             ⟨(some 2), none, .inl (.mv (.t 74))⟩,
             ⟨(some 3), none, .inl (.mv (.c (.int .i64 0)))⟩])
          (.keep [2, 3]))
          (.ret))))))))
def fc_joistref08_Bytes : FC := ⟨75, cmd_joistref08_Bytes, [.t 2, .t 3]⟩
theorem fc_joistref08_Bytes_ok : compF Try.prog 32 [[0], [0, 4], [0, 17], [2, 3], [0, 5], [0, 5, 6], [0, 5, 6, 7], [0, 5, 6, 7], [0, 5, 6, 7, 23], [0, 5, 6, 7, 8], [0, 5, 6, 7, 8, 9], [0, 5, 6, 7, 8, 9, 34], [0, 5, 6, 7, 8, 9], [0, 5, 6, 7, 8, 9, 38], [0, 5, 6, 7, 8, 9], [0, 5, 6, 7, 8, 9, 10], [0, 5, 6, 7, 8, 9, 10, 11], [0, 5, 6, 7, 8, 9, 10, 11], [0, 5, 6, 7, 8, 9, 10, 11, 45], [0, 5, 6, 7, 8, 9, 10, 11, 53], [0, 5, 6, 7, 8, 9, 10, 11], [0, 5, 6, 7, 8, 9, 10, 11], [0, 5, 6, 7], [0, 5, 6, 7], [12], [2, 3]] = some fc_joistref08_Bytes := by kernel_rfl
/-- joist/joistref08.Read -/
abbrev F.joistref08_Read : Nat := 33
def cmd_joistref08_Read : Cmd :=
  .seq (.seq (.reg [⟨(some 2), none, .inl (.mv (.c .nils))⟩,
      ⟨(some 3), none, .inl (.mv (.c (.bool false)))⟩])
   (.keep [0]))
   (.seq (.seq (.seq (.reg [⟨(some 10), none, .inl (.mv (.t 0))⟩,
       ⟨(some 11), none, .inl (.len (.t 10))⟩,
       ⟨(some 12), none, .inl (.bin .rem (.t 11) (.c (.int .i64 32)))⟩,
       ⟨(some 13), none, .inl (.bin .neq (.t 12) (.c (.int .i64 0)))⟩,
       ⟨(some 14), none, .inl (.mv (.t 13))⟩,
       ⟨(some 15), (some (14, false)), .inl (.mv (.t 0))⟩,
       ⟨(some 16), (some (14, false)), .inl (.len (.t 15))⟩,
       ⟨(some 17), (some (14, false)), .inl (.bin .gtr (.t 16) (.c (.int .i64 1024)))⟩,
       ⟨(some 18), none, .inl (.pick (.t 14) (.c (.bool true)) (.t 17))⟩])
    (.keep [0, 18]))
    (.cond (.t 18)
      (.seq (.seq (.reg [⟨(some 2), none, .inl (.mv (.c .nils))⟩,
          ⟨(some 3), none, .inl (.mv (.c (.bool false)))⟩])
       (.keep [2, 3]))
       (.ret))
      (.skip)))
    (.seq (.seq (.reg [⟨(some 20), none, .inl (.mv (.t 0))⟩,
        ⟨(some 21), none, .inr (.call 45 [(.t 20)])⟩,
        ⟨(some 19), none, .inl (.mv (.t 21))⟩,
        ⟨(some 22), none, .inl (.ext 0 (.t 19))⟩,
        ⟨(some 23), none, .inl (.ext 1 (.t 19))⟩,
        ⟨(some 4), none, .inl (.mv (.t 22))⟩,
        ⟨(some 5), none, .inl (.mv (.t 23))⟩])
     (.keep [0, 4]))
     (.seq (.seq (.reg [⟨(some 6), none, .inl (.mv (.c .nils))⟩])
      (.keep [0, 4, 6]))
      (.seq (.seq (.seq (.reg [⟨(some 7), none, .inl (.mv (.c (.int .i64 0)))⟩])
       (.keep [0, 4, 6, 7]))
       (.block 0 (.loop [0, 4, 6, 7] (.seq (.seq (.seq (.reg [⟨(some 24), none, .inl (.mv (.t 7))⟩,
           ⟨(some 25), none, .inl (.bin .add (.t 24) (.c (.int .i64 3)))⟩,
           ⟨(some 26), none, .inl (.mv (.t 4))⟩,
           ⟨(some 27), none, .inl (.len (.t 26))⟩,
           ⟨(some 28), none, .inl (.bin .lss (.t 25) (.t 27))⟩])
        (.keep [0, 4, 6, 7, 28]))
        (.cond (.t 28)
          (.skip)
          (.exit 0)))
        (.seq (.block 1 (.seq (.ord [⟨0, ⟨(some 31), none, .inl (.mv (.t 6))⟩, [], true⟩,
            ⟨1, ⟨(some 32), none, .inl (.mv (.t 4))⟩, [], false⟩,
            ⟨2, ⟨(some 33), none, .inl (.mv (.t 7))⟩, [], false⟩,
            ⟨3, ⟨(some 34), none, .inl (.iaddr 1 (.t 32) (.t 33))⟩, [], false⟩,
            ⟨4, ⟨(some 35), none, .inl (.load false 1 (.t 34))⟩, [], false⟩,
            ⟨5, ⟨(some 36), none, .inl (.bin .quo (.t 35) (.c (.int .i64 4)))⟩, [], false⟩,
            ⟨6, ⟨(some 37), none, .inl (.mv (.t 4))⟩, [], false⟩,
            ⟨7, ⟨(some 38), none, .inl (.mv (.t 7))⟩, [], false⟩,
            ⟨8, ⟨(some 39), none, .inl (.iaddr 1 (.t 37) (.t 38))⟩, [], false⟩,
            ⟨9, ⟨(some 40), none, .inl (.load false 1 (.t 39))⟩, [], false⟩,
            ⟨10, ⟨(some 41), none, .inl (.bin .rem (.t 40) (.c (.int .i64 4)))⟩, [], false⟩,
            ⟨11, ⟨(some 42), none, .inl (.bin .geq (.t 41) (.c (.int .i64 2)))⟩, [], false⟩,
            ⟨12, ⟨(some 43), none, .inl (.mv (.t 4))⟩, [], false⟩,
            ⟨13, ⟨(some 44), none, .inl (.mv (.t 7))⟩, [], false⟩,
            ⟨14, ⟨(some 45), none, .inl (.iaddr 1 (.t 43) (.t 44))⟩, [], false⟩,
            ⟨15, ⟨(some 46), none, .inl (.load false 1 (.t 45))⟩, [], false⟩,
            ⟨16, ⟨(some 47), none, .inl (.bin .rem (.t 46) (.c (.int .i64 2)))⟩, [], false⟩,
            ⟨17, ⟨(some 48), none, .inl (.bin .eql (.t 47) (.c (.int .i64 1)))⟩, [], false⟩,
            ⟨18, ⟨(some 49), none, .inl (.mv (.t 4))⟩, [], false⟩,
            ⟨19, ⟨(some 50), none, .inl (.mv (.t 7))⟩, [], false⟩,
            ⟨20, ⟨(some 51), none, .inl (.bin .add (.t 50) (.c (.int .i64 1)))⟩, [], false⟩,
            ⟨21, ⟨(some 52), none, .inl (.iaddr 1 (.t 49) (.t 51))⟩, [], false⟩,
            ⟨22, ⟨(some 53), none, .inl (.load false 1 (.t 52))⟩, [], false⟩,
            ⟨23, ⟨(some 54), none, .inl (.mv (.t 4))⟩, [], false⟩,
            ⟨24, ⟨(some 55), none, .inl (.mv (.t 7))⟩, [], false⟩,
            ⟨25, ⟨(some 56), none, .inl (.bin .add (.t 55) (.c (.int .i64 2)))⟩, [], false⟩,
            ⟨26, ⟨(some 57), none, .inl (.iaddr 1 (.t 54) (.t 56))⟩, [], false⟩,
            ⟨27, ⟨(some 58), none, .inl (.load false 1 (.t 57))⟩, [], false⟩,
            ⟨28, ⟨(some 59), none, .inl (.build [(.int .i64 0), (.bool false), (.bool false), (.int .i64 0), (.int .i64 0)] [(0, 1, (.t 36)), (1, 1, (.t 42)), (2, 1, (.t 48)), (3, 1, (.t 53)), (4, 1, (.t 58))])⟩, [], false⟩,
            ⟨29, ⟨(some 60), none, .inr (.bslice 5 [(.int .i64 0), (.bool false), (.bool false), (.int .i64 0), (.int .i64 0)] 1 [(0, (.t 59))])⟩, [0], false⟩,
            ⟨30, ⟨(some 61), none, .inr (.append 5 32 (.t 31) (.t 60))⟩, [], false⟩,
            ⟨31, ⟨(some 6), none, .inl (.mv (.t 61))⟩, [], false⟩])
         (.keep [0, 4, 6, 7])))
         (.seq (.reg [⟨(some 29), none, .inl (.mv (.t 7))⟩,
             ⟨(some 30), none, .inl (.bin .add (.t 29) (.c (.int .i64 4)))⟩,
             ⟨(some 7), none, .inl (.mv (.t 30))⟩])
          (.keep [0, 4, 6, 7])))))))
       (.seq (.seq (.reg [⟨(some 63), none, .inl (.mv (.t 6))⟩,
           ⟨(some 64), none, .inr (.call 32 [(.t 63)])⟩,
           ⟨(some 62), none, .inl (.mv (.t 64))⟩,
           ⟨(some 65), none, .inl (.ext 0 (.t 62))⟩,
           ⟨(some 66), none, .inl (.ext 1 (.t 62))⟩,
           ⟨(some 8), none, .inl (.mv (.t 65))⟩,
           ⟨(some 9), none, .inl (.mv (.t 66))⟩])
        (.keep [0, 6, 8, 9]))
        (.seq (.seq (.seq (.reg [⟨(some 67), none, .inl (.mv (.t 9))⟩,
            ⟨(some 68), none, .inl (.bin .neq (.t 67) (.c (.int .i64 0)))⟩,
            ⟨(some 69), none, .inl (.mv (.t 68))⟩,
            ⟨(some 70), (some (69, false)), .inl (.mv (.t 8))⟩,
            ⟨(some 71), (some (69, false)), .inl (.b2s (.t 70))⟩,
            ⟨(some 72), (some (69, false)), .inl (.mv (.t 0))⟩,
            ⟨(some 73), (some (69, false)), .inl (.b2s (.t 72))⟩,
            ⟨(some 74), (some (69, false)), .inl (.bins .neq (.t 71) (.t 73))⟩,
            ⟨(some 75), none, .inl (.pick (.t 69) (.c (.bool true)) (.t 74))⟩])
         (.keep [6, 75]))
         (.cond (.t 75)
           (.seq (.seq (.reg [⟨(some 2), none, .inl (.mv (.c .nils))⟩,
               ⟨(some 3), none, .inl (.mv (.c (.bool false)))⟩])
            (.keep [2, 3]))
            (.ret))
           (.skip)))
         (.seq (.seq (.reg [⟨(some 76), none, .inl (.mv (.t 6))⟩,
             ⟨(some 2), none, .inl (.mv (.t 76))⟩,
             ⟨(some 3), none, .inl (.mv (.c (.bool true)))⟩])
          (.keep [2, 3]))
          (.ret))))))))
def fc_joistref08_Read : FC := ⟨77, cmd_joistref08_Read, [.t 2, .t 3]⟩
theorem fc_joistref08_Read_ok : compF Try.prog 33 [[0], [0, 18], [2, 3], [0, 4], [0, 4, 6], [0, 4, 6, 7], [0, 4, 6, 7], [0, 4, 6, 7, 28], [0, 4, 6, 7], [0, 1, 2, 3, 4, 5, 6, 7, 8, 9, 10, 11, 12, 13, 14, 15, 16, 17, 18, 19, 20, 21, 22, 23, 24, 25, 26, 27, 28, 29, 30, 31], [0, 4, 6, 7], [0, 6, 8, 9], [6, 75], [2, 3], [2, 3]] = some fc_joistref08_Read := by kernel_rfl
/-- joist/joistlaw01.Owned -/
abbrev F.joistlaw01_Owned : Nat := 34
def cmd_joistlaw01_Owned : Cmd :=
  .seq (.seq (.reg [⟨(some 2), none, .inl (.mv (.c (.bool false)))⟩])
   (.keep [0]))
   (.seq (.seq (.seq (.reg [⟨(some 3), none, .inl (.mv (.c (.int .i64 0)))⟩])
    (.keep [0, 3]))
    (.block 0 (.loop [0, 3] (.seq (.seq (.seq (.reg [⟨(some 9), none, .inl (.mv (.t 3))⟩,
        ⟨(some 10), none, .inl (.mv (.t 0))⟩,
        ⟨(some 11), none, .inl (.len (.t 10))⟩,
        ⟨(some 12), none, .inl (.bin .lss (.t 9) (.t 11))⟩])
     (.keep [0, 3, 12]))
     (.cond (.t 12)
       (.skip)
       (.exit 0)))
     (.seq (.block 1 (.seq (.seq (.ord [⟨0, ⟨(some 15), none, .inl (.mv (.t 0))⟩, [], false⟩,
         ⟨1, ⟨(some 16), none, .inl (.mv (.t 3))⟩, [], false⟩,
         ⟨2, ⟨(some 17), none, .inl (.iaddr 1 (.t 15) (.t 16))⟩, [], false⟩,
         ⟨3, ⟨(some 18), none, .inl (.load false 1 (.t 17))⟩, [], false⟩,
         ⟨4, ⟨(some 19), none, .inl (.mv (.t 0))⟩, [], false⟩,
         ⟨5, ⟨(some 20), none, .inl (.mv (.t 3))⟩, [], false⟩,
         ⟨6, ⟨(some 21), none, .inl (.iaddr 1 (.t 19) (.t 20))⟩, [], false⟩,
         ⟨7, ⟨(some 22), none, .inl (.load false 1 (.t 21))⟩, [], false⟩,
         ⟨8, ⟨(some 23), none, .inl (.cap (.t 22))⟩, [], false⟩,
         ⟨9, ⟨(some 24), none, .inl (.slice 1 (.t 18) none (some (.t 23)) none)⟩, [], false⟩,
         ⟨10, ⟨(some 4), none, .inl (.mv (.t 24))⟩, [], false⟩])
      (.keep [0, 3, 4]))
      (.seq (.seq (.reg [⟨(some 5), none, .inl (.mv (.c (.int .i64 0)))⟩])
       (.keep [0, 3, 4, 5]))
       (.block 2 (.loop [0, 3, 4, 5] (.seq (.seq (.seq (.reg [⟨(some 25), none, .inl (.mv (.t 5))⟩,
           ⟨(some 26), none, .inl (.mv (.t 4))⟩,
           ⟨(some 27), none, .inl (.len (.t 26))⟩,
           ⟨(some 28), none, .inl (.bin .lss (.t 25) (.t 27))⟩])
        (.keep [0, 3, 4, 5, 28]))
        (.cond (.t 28)
          (.skip)
          (.exit 2)))
        (.seq (.block 3 (.seq (.reg [⟨(some 31), none, .inl (.mv (.t 4))⟩,
            ⟨(some 32), none, .inl (.mv (.t 5))⟩,
            ⟨(some 33), none, .inl (.mv (.t 3))⟩,
            ⟨(some 34), none, .inl (.bin .add (.t 33) (.c (.int .i64 1)))⟩,
            ⟨(some 35), none, .inl (.conv .u8 (.t 34))⟩,
            ⟨(some 36), none, .inl (.iaddr 1 (.t 31) (.t 32))⟩,
            ⟨none, none, .inr (.store 1 (.t 36) (.t 35))⟩])
         (.keep [0, 3, 4, 5])))
         (.seq (.reg [⟨(some 29), none, .inl (.mv (.t 5))⟩,
             ⟨(some 30), none, .inl (.bin .add (.t 29) (.c (.int .i64 1)))⟩,
             ⟨(some 5), none, .inl (.mv (.t 30))⟩])
          (.keep [0, 3, 4, 5])))))))))
      (.seq (.reg [⟨(some 13), none, .inl (.mv (.t 3))⟩,
          ⟨(some 14), none, .inl (.bin .add (.t 13) (.c (.int .i64 1)))⟩,
          ⟨(some 3), none, .inl (.mv (.t 14))⟩])
       (.keep [0, 3])))))))
    (.seq (.seq (.seq (.reg [⟨(some 6), none, .inl (.mv (.c (.int .i64 0)))⟩])
     (.keep [0, 6]))
     (.block 4 (.loop [0, 6] (.seq (.seq (.seq (.reg [⟨(some 37), none, .inl (.mv (.t 6))⟩,
         ⟨(some 38), none, .inl (.mv (.t 0))⟩,
         ⟨(some 39), none, .inl (.len (.t 38))⟩,
         ⟨(some 40), none, .inl (.bin .lss (.t 37) (.t 39))⟩])
      (.keep [0, 6, 40]))
      (.cond (.t 40)
        (.skip)
        (.exit 4)))
      (.seq (.block 5 (.seq (.seq (.ord [⟨0, ⟨(some 43), none, .inl (.mv (.t 0))⟩, [], false⟩,
          ⟨1, ⟨(some 44), none, .inl (.mv (.t 6))⟩, [], false⟩,
          ⟨2, ⟨(some 45), none, .inl (.iaddr 1 (.t 43) (.t 44))⟩, [], false⟩,
          ⟨3, ⟨(some 46), none, .inl (.load false 1 (.t 45))⟩, [], false⟩,
          ⟨4, ⟨(some 47), none, .inl (.mv (.t 0))⟩, [], false⟩,
          ⟨5, ⟨(some 48), none, .inl (.mv (.t 6))⟩, [], false⟩,
          ⟨6, ⟨(some 49), none, .inl (.iaddr 1 (.t 47) (.t 48))⟩, [], false⟩,
          ⟨7, ⟨(some 50), none, .inl (.load false 1 (.t 49))⟩, [], false⟩,
          ⟨8, ⟨(some 51), none, .inl (.cap (.t 50))⟩, [], false⟩,
          ⟨9, ⟨(some 52), none, .inl (.slice 1 (.t 46) none (some (.t 51)) none)⟩, [], false⟩,
          ⟨10, ⟨(some 7), none, .inl (.mv (.t 52))⟩, [], false⟩])
       (.keep [0, 6, 7]))
       (.seq (.seq (.reg [⟨(some 8), none, .inl (.mv (.c (.int .i64 0)))⟩])
        (.keep [0, 6, 7, 8]))
        (.block 6 (.loop [0, 6, 7, 8] (.seq (.seq (.seq (.reg [⟨(some 53), none, .inl (.mv (.t 8))⟩,
            ⟨(some 54), none, .inl (.mv (.t 7))⟩,
            ⟨(some 55), none, .inl (.len (.t 54))⟩,
            ⟨(some 56), none, .inl (.bin .lss (.t 53) (.t 55))⟩])
         (.keep [0, 6, 7, 8, 56]))
         (.cond (.t 56)
           (.skip)
           (.exit 6)))
         (.seq (.block 7 (.seq (.seq (.reg [⟨(some 59), none, .inl (.mv (.t 7))⟩,
             ⟨(some 60), none, .inl (.mv (.t 8))⟩,
             ⟨(some 61), none, .inl (.iaddr 1 (.t 59) (.t 60))⟩,
             ⟨(some 62), none, .inl (.load false 1 (.t 61))⟩,
             ⟨(some 63), none, .inl (.mv (.t 6))⟩,
             ⟨(some 64), none, .inl (.bin .add (.t 63) (.c (.int .i64 1)))⟩,
             ⟨(some 65), none, .inl (.conv .u8 (.t 64))⟩,
             ⟨(some 66), none, .inl (.bin .neq (.t 62) (.t 65))⟩])
          (.keep [0, 6, 7, 8, 66]))
          (.cond (.t 66)
            (.seq (.seq (.reg [⟨(some 2), none, .inl (.mv (.c (.bool false)))⟩])
             (.keep [2]))
             (.ret))
            (.skip))))
          (.seq (.reg [⟨(some 57), none, .inl (.mv (.t 8))⟩,
              ⟨(some 58), none, .inl (.bin .add (.t 57) (.c (.int .i64 1)))⟩,
              ⟨(some 8), none, .inl (.mv (.t 58))⟩])
           (.keep [0, 6, 7, 8])))))))))
       (.seq (.reg [⟨(some 41), none, .inl (.mv (.t 6))⟩,
           ⟨(some 42), none, .inl (.bin .add (.t 41) (.c (.int .i64 1)))⟩,
           ⟨(some 6), none, .inl (.mv (.t 42))⟩])
        (.keep [0, 6])))))))
     (.seq (.seq (.reg [⟨(some 2), none, .inl (.mv (.c (.bool true)))⟩])
      (.keep [2]))
      (.ret))))
def fc_joistlaw01_Owned : FC := ⟨67, cmd_joistlaw01_Owned, [.t 2]⟩
theorem fc_joistlaw01_Owned_ok : compF Try.prog 34 [[0], [0, 3], [0, 3], [0, 3, 12], [0, 3, 4], [0, 1, 2, 3, 4, 5, 6, 7, 8, 9, 10], [0, 3, 4, 5], [0, 3, 4, 5], [0, 3, 4, 5, 28], [0, 3, 4, 5], [0, 3, 4, 5], [0, 3], [0, 6], [0, 6], [0, 6, 40], [0, 6, 7], [0, 1, 2, 3, 4, 5, 6, 7, 8, 9, 10], [0, 6, 7, 8], [0, 6, 7, 8], [0, 6, 7, 8, 56], [0, 6, 7, 8, 66], [2], [0, 6, 7, 8], [0, 6], [2]] = some fc_joistlaw01_Owned := by kernel_rfl
/-- joist/table.right -/
abbrev F.table_right : Nat := 35
def cmd_table_right : Cmd :=
  .seq (.seq (.reg [⟨(some 1), none, .inr (.box 5 (.t 0))⟩,
      ⟨(some 2), none, .inl (.mv (.c (.bool false)))⟩])
   (.keep [1]))
   (.seq (.block 0 (.seq (.seq (.reg [⟨(some 4), none, .inl (.faddr 0 (.t 1))⟩,
       ⟨(some 5), none, .inl (.load false 1 (.t 4))⟩,
       ⟨(some 6), none, .inl (.bin .lss (.t 5) (.c (.int .i64 0)))⟩,
       ⟨(some 7), none, .inl (.mv (.t 6))⟩,
       ⟨(some 8), (some (7, false)), .inl (.faddr 0 (.t 1))⟩,
       ⟨(some 9), (some (7, false)), .inl (.load false 1 (.t 8))⟩,
       ⟨(some 10), (some (7, false)), .inl (.bin .gtr (.t 9) (.c (.int .i64 65535)))⟩,
       ⟨(some 11), none, .inl (.pick (.t 7) (.c (.bool true)) (.t 10))⟩,
       ⟨(some 3), none, .inl (.mv (.t 11))⟩])
    (.keep [1, 3]))
    (.cond (.t 3)
      (.seq (.seq (.reg [⟨(some 2), none, .inl (.mv (.c (.bool false)))⟩])
       (.keep [2]))
       (.ret))
      (.seq (.seq (.reg [⟨(some 13), none, .inl (.faddr 1 (.t 1))⟩,
          ⟨(some 14), none, .inl (.load false 1 (.t 13))⟩,
          ⟨(some 15), none, .inl (.un .not (.t 14))⟩,
          ⟨(some 12), none, .inl (.mv (.t 15))⟩])
       (.keep [1, 12]))
       (.cond (.t 12)
         (.seq (.seq (.reg [⟨(some 16), none, .inl (.load true 5 (.t 1))⟩,
             ⟨(some 17), none, .inl (.faddr 0 (.t 1))⟩,
             ⟨(some 18), none, .inl (.load false 1 (.t 17))⟩,
             ⟨(some 19), none, .inl (.build [(.int .i64 0), (.bool false), (.bool false), (.int .i64 0), (.int .i64 0)] [(0, 1, (.t 18))])⟩,
             ⟨(some 20), none, .inl (.eqagg false [0, 1, 1, 0, 0] (.t 16) (.t 19))⟩,
             ⟨(some 2), none, .inl (.mv (.t 20))⟩])
          (.keep [2]))
          (.ret))
         (.skip))))))
    (.seq (.seq (.reg [⟨(some 21), none, .inl (.faddr 3 (.t 1))⟩,
        ⟨(some 22), none, .inl (.load false 1 (.t 21))⟩,
        ⟨(some 23), none, .inl (.bin .geq (.t 22) (.c (.int .i64 0)))⟩,
        ⟨(some 24), none, .inl (.mv (.t 23))⟩,
        ⟨(some 25), (some (24, true)), .inl (.faddr 3 (.t 1))⟩,
        ⟨(some 26), (some (24, true)), .inl (.load false 1 (.t 25))⟩,
        ⟨(some 27), (some (24, true)), .inl (.bin .leq (.t 26) (.c (.int .i64 2048)))⟩,
        ⟨(some 28), none, .inl (.pick (.t 24) (.t 27) (.c (.bool false)))⟩,
        ⟨(some 29), none, .inl (.mv (.t 28))⟩,
        ⟨(some 30), (some (29, true)), .inl (.faddr 4 (.t 1))⟩,
        ⟨(some 31), (some (29, true)), .inl (.load false 1 (.t 30))⟩,
        ⟨(some 32), (some (29, true)), .inl (.bin .geq (.t 31) (.c (.int .i64 1)))⟩,
        ⟨(some 33), none, .inl (.pick (.t 29) (.t 32) (.c (.bool false)))⟩,
        ⟨(some 34), none, .inl (.mv (.t 33))⟩,
        ⟨(some 35), (some (34, true)), .inl (.faddr 4 (.t 1))⟩,
        ⟨(some 36), (some (34, true)), .inl (.load false 1 (.t 35))⟩,
        ⟨(some 37), (some (34, true)), .inl (.bin .leq (.t 36) (.c (.int .i64 2048)))⟩,
        ⟨(some 38), none, .inl (.pick (.t 34) (.t 37) (.c (.bool false)))⟩,
        ⟨(some 2), none, .inl (.mv (.t 38))⟩])
     (.keep [2]))
     (.ret)))
def fc_table_right : FC := ⟨39, cmd_table_right, [.t 2]⟩
theorem fc_table_right_ok : compF Try.prog 35 [[1], [1, 3], [2], [1, 12], [2], [2]] = some fc_table_right := by kernel_rfl
/-- joist/table.with -/
abbrev F.table_with : Nat := 36
def cmd_table_with : Cmd :=
  .seq (.seq (.reg [⟨(some 5), none, .inr (.box 5 (.t 2))⟩,
      ⟨(some 6), none, .inl (.mv (.c .nils))⟩])
   (.keep [0, 1, 5]))
   (.seq (.seq (.ord [⟨0, ⟨(some 7), none, .inl (.mv (.t 0))⟩, [], true⟩,
       ⟨1, ⟨(some 8), none, .inl (.mv (.t 1))⟩, [], true⟩,
       ⟨2, ⟨(some 9), none, .inl (.mv (.t 1))⟩, [], true⟩,
       ⟨3, ⟨(some 10), none, .inl (.slice 5 (.t 7) none (some (.t 8)) (some (.t 9)))⟩, [], true⟩,
       ⟨4, ⟨(some 11), none, .inl (.load true 5 (.t 5))⟩, [], false⟩,
       ⟨7, ⟨(some 14), none, .inl (.mv (.t 0))⟩, [], true⟩,
       ⟨8, ⟨(some 15), none, .inl (.mv (.t 1))⟩, [], true⟩,
       ⟨9, ⟨(some 16), none, .inl (.bin .add (.t 15) (.c (.int .i64 1)))⟩, [], true⟩,
       ⟨10, ⟨(some 17), none, .inl (.slice 5 (.t 14) (some (.t 16)) none none)⟩, [], true⟩,
       ⟨5, ⟨(some 12), none, .inr (.bslice 5 [(.int .i64 0), (.bool false), (.bool false), (.int .i64 0), (.int .i64 0)] 1 [(0, (.t 11))])⟩, [0, 1, 2, 3, 7, 8, 9, 10], false⟩,
       ⟨6, ⟨(some 13), none, .inr (.append 5 32 (.t 10) (.t 12))⟩, [7, 8, 9, 10], false⟩,
       ⟨11, ⟨(some 18), none, .inr (.append 5 32 (.t 13) (.t 17))⟩, [], false⟩,
       ⟨12, ⟨(some 6), none, .inl (.mv (.t 18))⟩, [], false⟩])
    (.keep [6]))
    (.ret))
def fc_table_with : FC := ⟨19, cmd_table_with, [.t 6]⟩
theorem fc_table_with_ok : compF Try.prog 36 [[0, 1, 5], [6], [0, 1, 2, 3, 4, 7, 8, 9, 10, 5, 6, 11, 12]] = some fc_table_with := by kernel_rfl
/-- joist/joistref08.right -/
abbrev F.joistref08_right : Nat := 37
def cmd_joistref08_right : Cmd :=
  .seq (.seq (.reg [⟨(some 1), none, .inr (.box 5 (.t 0))⟩,
      ⟨(some 2), none, .inl (.mv (.c (.bool false)))⟩])
   (.keep [1]))
   (.seq (.seq (.seq (.reg [⟨(some 3), none, .inl (.faddr 0 (.t 1))⟩,
       ⟨(some 4), none, .inl (.load false 1 (.t 3))⟩,
       ⟨(some 5), none, .inl (.bin .lss (.t 4) (.c (.int .i64 0)))⟩,
       ⟨(some 6), none, .inl (.mv (.t 5))⟩,
       ⟨(some 7), (some (6, false)), .inl (.faddr 0 (.t 1))⟩,
       ⟨(some 8), (some (6, false)), .inl (.load false 1 (.t 7))⟩,
       ⟨(some 9), (some (6, false)), .inl (.bin .gtr (.t 8) (.c (.int .i64 65535)))⟩,
       ⟨(some 10), none, .inl (.pick (.t 6) (.c (.bool true)) (.t 9))⟩])
    (.keep [1, 10]))
    (.cond (.t 10)
      (.seq (.seq (.reg [⟨(some 2), none, .inl (.mv (.c (.bool false)))⟩])
       (.keep [2]))
       (.ret))
      (.skip)))
    (.seq (.seq (.seq (.reg [⟨(some 11), none, .inl (.faddr 1 (.t 1))⟩,
        ⟨(some 12), none, .inl (.load false 1 (.t 11))⟩,
        ⟨(some 13), none, .inl (.un .not (.t 12))⟩])
     (.keep [1, 13]))
     (.cond (.t 13)
       (.seq (.seq (.reg [⟨(some 14), none, .inl (.faddr 2 (.t 1))⟩,
           ⟨(some 15), none, .inl (.load false 1 (.t 14))⟩,
           ⟨(some 16), none, .inl (.un .not (.t 15))⟩,
           ⟨(some 17), none, .inl (.mv (.t 16))⟩,
           ⟨(some 18), (some (17, true)), .inl (.faddr 3 (.t 1))⟩,
           ⟨(some 19), (some (17, true)), .inl (.load false 1 (.t 18))⟩,
           ⟨(some 20), (some (17, true)), .inl (.bin .eql (.t 19) (.c (.int .i64 0)))⟩,
           ⟨(some 21), none, .inl (.pick (.t 17) (.t 20) (.c (.bool false)))⟩,
           ⟨(some 22), none, .inl (.mv (.t 21))⟩,
           ⟨(some 23), (some (22, true)), .inl (.faddr 4 (.t 1))⟩,
           ⟨(some 24), (some (22, true)), .inl (.load false 1 (.t 23))⟩,
           ⟨(some 25), (some (22, true)), .inl (.bin .eql (.t 24) (.c (.int .i64 0)))⟩,
           ⟨(some 26), none, .inl (.pick (.t 22) (.t 25) (.c (.bool false)))⟩,
           ⟨(some 2), none, .inl (.mv (.t 26))⟩])
        (.keep [2]))
        (.ret))
       (.skip)))
     (.seq (.seq (.reg [⟨(some 27), none, .inl (.faddr 3 (.t 1))⟩,
         ⟨(some 28), none, .inl (.load false 1 (.t 27))⟩,
         ⟨(some 29), none, .inl (.bin .geq (.t 28) (.c (.int .i64 0)))⟩,
         ⟨(some 30), none, .inl (.mv (.t 29))⟩,
         ⟨(some 31), (some (30, true)), .inl (.faddr 3 (.t 1))⟩,
         ⟨(some 32), (some (30, true)), .inl (.load false 1 (.t 31))⟩,
         ⟨(some 33), (some (30, true)), .inl (.bin .leq (.t 32) (.c (.int .i64 2048)))⟩,
         ⟨(some 34), none, .inl (.pick (.t 30) (.t 33) (.c (.bool false)))⟩,
         ⟨(some 35), none, .inl (.mv (.t 34))⟩,
         ⟨(some 36), (some (35, true)), .inl (.faddr 4 (.t 1))⟩,
         ⟨(some 37), (some (35, true)), .inl (.load false 1 (.t 36))⟩,
         ⟨(some 38), (some (35, true)), .inl (.bin .geq (.t 37) (.c (.int .i64 1)))⟩,
         ⟨(some 39), none, .inl (.pick (.t 35) (.t 38) (.c (.bool false)))⟩,
         ⟨(some 40), none, .inl (.mv (.t 39))⟩,
         ⟨(some 41), (some (40, true)), .inl (.faddr 4 (.t 1))⟩,
         ⟨(some 42), (some (40, true)), .inl (.load false 1 (.t 41))⟩,
         ⟨(some 43), (some (40, true)), .inl (.bin .leq (.t 42) (.c (.int .i64 2048)))⟩,
         ⟨(some 44), none, .inl (.pick (.t 40) (.t 43) (.c (.bool false)))⟩,
         ⟨(some 2), none, .inl (.mv (.t 44))⟩])
      (.keep [2]))
      (.ret))))
def fc_joistref08_right : FC := ⟨45, cmd_joistref08_right, [.t 2]⟩
theorem fc_joistref08_right_ok : compF Try.prog 37 [[1], [1, 10], [2], [1, 13], [2], [2]] = some fc_joistref08_right := by kernel_rfl
/-- joist/table.open -/
abbrev F.table_open : Nat := 38
def cmd_table_open : Cmd :=
  .seq (.seq (.reg [⟨(some 1), none, .inr (.box 5 (.t 0))⟩,
      ⟨(some 2), none, .inl (.mv (.c (.bool false)))⟩])
   (.keep [1]))
   (.seq (.seq (.reg [⟨(some 3), none, .inl (.faddr 1 (.t 1))⟩,
       ⟨(some 4), none, .inl (.load false 1 (.t 3))⟩,
       ⟨(some 5), none, .inl (.un .not (.t 4))⟩,
       ⟨(some 6), none, .inl (.mv (.t 5))⟩,
       ⟨(some 7), (some (6, true)), .inl (.faddr 0 (.t 1))⟩,
       ⟨(some 8), (some (6, true)), .inl (.load false 1 (.t 7))⟩,
       ⟨(some 9), (some (6, true)), .inl (.bin .neq (.t 8) (.c (.int .i64 65535)))⟩,
       ⟨(some 10), none, .inl (.pick (.t 6) (.t 9) (.c (.bool false)))⟩,
       ⟨(some 2), none, .inl (.mv (.t 10))⟩])
    (.keep [2]))
    (.ret))
def fc_table_open : FC := ⟨11, cmd_table_open, [.t 2]⟩
theorem fc_table_open_ok : compF Try.prog 38 [[1], [2]] = some fc_table_open := by kernel_rfl
/-- joist/table.Bytes$1 -/
abbrev F.table_Bytes_1 : Nat := 39
def cmd_table_Bytes_1 : Cmd :=
  .seq (.seq (.reg [⟨(some 6), none, .inl (.load false 1 (.t 1))⟩,
      ⟨(some 7), none, .inl (.mv (.t 0))⟩,
      ⟨(some 8), none, .inl (.iaddr 5 (.t 6) (.t 7))⟩,
      ⟨(some 9), none, .inl (.load true 5 (.t 8))⟩,
      ⟨(some 5), none, .inr (.alloc [(.int .i64 0), (.bool false), (.bool false), (.int .i64 0), (.int .i64 0)])⟩,
      ⟨none, none, .inr (.store 5 (.t 5) (.t 9))⟩])
   (.keep [0, 2, 3, 5]))
   (.seq (.seq (.ord [⟨0, ⟨(some 10), none, .inl (.load false 1 (.t 2))⟩, [], true⟩,
       ⟨1, ⟨(some 11), none, .inl (.mv (.t 0))⟩, [], true⟩,
       ⟨2, ⟨(some 12), none, .inl (.bin .mul (.t 11) (.c (.int .i64 4)))⟩, [], true⟩,
       ⟨3, ⟨(some 13), none, .inl (.slice 1 (.t 10) (some (.t 12)) none none)⟩, [], true⟩,
       ⟨4, ⟨(some 14), none, .inl (.load true 5 (.t 5))⟩, [], false⟩,
       ⟨6, ⟨(some 16), none, .inl (.faddr 3 (.t 5))⟩, [], true⟩,
       ⟨7, ⟨(some 17), none, .inl (.load false 1 (.t 16))⟩, [], true⟩,
       ⟨8, ⟨(some 18), none, .inl (.faddr 4 (.t 5))⟩, [], true⟩,
       ⟨9, ⟨(some 19), none, .inl (.load false 1 (.t 18))⟩, [], true⟩,
       ⟨5, ⟨(some 15), none, .inr (.call 40 [(.t 14)])⟩, [0, 1, 2, 3, 6, 7, 8, 9], false⟩,
       ⟨10, ⟨(some 20), none, .inr (.bslice 1 [(.int .i64 0)] 3 [(0, (.t 15)), (1, (.t 17)), (2, (.t 19))])⟩, [0, 1, 2, 3], false⟩,
       ⟨11, ⟨(some 21), none, .inr (.copy 1 (.t 13) (.t 20))⟩, [], false⟩])
    (.keep [0, 2, 3, 5]))
    (.seq (.seq (.reg [⟨(some 22), none, .inl (.load true 5 (.t 5))⟩,
        ⟨(some 23), none, .inr (.call 38 [(.t 22)])⟩])
     (.keep [0, 2, 3, 23]))
     (.cond (.t 23)
       (.seq (.reg [⟨(some 24), none, .inl (.load false 1 (.t 2))⟩,
           ⟨(some 25), none, .inl (.mv (.t 0))⟩,
           ⟨(some 26), none, .inl (.bin .mul (.t 25) (.c (.int .i64 4)))⟩,
           ⟨(some 27), none, .inl (.bin .add (.t 26) (.c (.int .i64 3)))⟩,
           ⟨(some 28), none, .inl (.load false 1 (.t 3))⟩,
           ⟨(some 29), none, .inl (.mv (.t 0))⟩,
           ⟨(some 30), none, .inl (.bin .add (.t 29) (.c (.int .i64 1)))⟩,
           ⟨(some 31), none, .inl (.iaddr 1 (.t 24) (.t 27))⟩,
           ⟨none, none, .inr (.store 1 (.t 31) (.t 28))⟩,
           ⟨none, none, .inr (.store 1 (.t 3) (.t 30))⟩])
        (.keep []))
       (.skip))))
def fc_table_Bytes_1 : FC := ⟨32, cmd_table_Bytes_1, []⟩
theorem fc_table_Bytes_1_ok : compF Try.prog 39 [[0, 2, 3, 5], [0, 2, 3, 5], [0, 1, 2, 3, 4, 6, 7, 8, 9, 5, 10, 11], [0, 2, 3, 23], []] = some fc_table_Bytes_1 := by kernel_rfl
/-- joist/table.flags -/
abbrev F.table_flags : Nat := 40
def cmd_table_flags : Cmd :=
  .seq (.seq (.reg [⟨(some 1), none, .inr (.box 5 (.t 0))⟩,
      ⟨(some 2), none, .inl (.mv (.c (.int .i64 0)))⟩])
   (.keep [1]))
   (.seq (.seq (.reg [⟨(some 4), none, .inl (.faddr 0 (.t 1))⟩,
       ⟨(some 5), none, .inl (.load false 1 (.t 4))⟩,
       ⟨(some 6), none, .inl (.bin .mul (.c (.int .i64 4)) (.t 5))⟩,
       ⟨(some 3), none, .inl (.mv (.t 6))⟩])
    (.keep [1, 3]))
    (.seq (.seq (.seq (.reg [⟨(some 7), none, .inl (.faddr 1 (.t 1))⟩,
        ⟨(some 8), none, .inl (.load false 1 (.t 7))⟩])
     (.keep [1, 3, 8]))
     (.cond (.t 8)
       (.seq (.reg [⟨(some 9), none, .inl (.mv (.t 3))⟩,
           ⟨(some 10), none, .inl (.bin .or (.t 9) (.c (.int .i64 2)))⟩,
           ⟨(some 3), none, .inl (.mv (.t 10))⟩])
        (.keep [1, 3]))
       (.skip)))
     (.seq (.seq (.seq (.reg [⟨(some 11), none, .inl (.faddr 2 (.t 1))⟩,
         ⟨(some 12), none, .inl (.load false 1 (.t 11))⟩])
      (.keep [3, 12]))
      (.cond (.t 12)
        (.seq (.reg [⟨(some 13), none, .inl (.mv (.t 3))⟩,
            ⟨(some 14), none, .inl (.bin .or (.t 13) (.c (.int .i64 1)))⟩,
            ⟨(some 3), none, .inl (.mv (.t 14))⟩])
         (.keep [3]))
        (.skip)))
      (.seq (.seq (.reg [⟨(some 15), none, .inl (.mv (.t 3))⟩,
          ⟨(some 2), none, .inl (.mv (.t 15))⟩])
       (.keep [2]))
       (.ret)))))
def fc_table_flags : FC := ⟨16, cmd_table_flags, [.t 2]⟩
theorem fc_table_flags_ok : compF Try.prog 40 [[1], [1, 3], [1, 3, 8], [1, 3], [3, 12], [3], [2]] = some fc_table_flags := by kernel_rfl
/-- joist/words.Of -/
abbrev F.words_Of : Nat := 41
def cmd_words_Of : Cmd :=
  .seq (.seq (.reg [⟨(some 2), none, .inl (.mv (.c .nils))⟩,
      ⟨(some 3), none, .inl (.mv (.c (.int .i64 0)))⟩])
   (.keep [0]))
   (.seq (.seq (.reg [⟨(some 7), none, .inl (.mv (.t 0))⟩,
       ⟨(some 8), none, .inl (.len (.t 7))⟩,
       ⟨(some 9), none, .inl (.bin .mul (.t 8) (.c (.int .i64 8)))⟩,
       ⟨(some 10), none, .inr (.mksl 1 1 [(.int .u8 0)] (.t 9) (.t 9))⟩,
       ⟨(some 4), none, .inl (.mv (.t 10))⟩])
    (.keep [0, 4]))
    (.seq (.seq (.seq (.reg [⟨(some 11), none, .inl (.mv (.t 0))⟩,
        ⟨(some 12), none, .inl (.len (.t 11))⟩,
        ⟨(some 13), none, .inl (.mv (.c (.int .i64 0)))⟩])
     (.keep [4, 11, 12, 13]))
     (.block 0 (.loop [4, 11, 12, 13] (.seq (.seq (.reg [⟨(some 14), none, .inl (.bin .lss (.t 13) (.t 12))⟩])
      (.keep [4, 11, 12, 13, 14]))
      (.seq (.cond (.t 14)
        (.skip)
        (.exit 0))
       (.seq (.block 1 (.seq (.seq (.reg [⟨(some 15), none, .inl (.mv (.t 13))⟩,
           ⟨(some 16), none, .inl (.iaddr 1 (.t 11) (.t 13))⟩,
           ⟨(some 17), none, .inl (.load false 1 (.t 16))⟩,
           ⟨(some 5), none, .inl (.mv (.t 15))⟩,
           ⟨(some 6), none, .inl (.mv (.t 17))⟩])
        (.keep [4, 5, 6, 11, 12, 13]))
        (.seq (.seq (.seq (.reg [⟨(some 18), none, .inl (.mv (.t 6))⟩,
            ⟨(some 19), none, .inr (.call 46 [(.t 18)])⟩,
            ⟨(some 20), none, .inl (.un .not (.t 19))⟩])
         (.keep [4, 5, 6, 11, 12, 13, 20]))
         (.cond (.t 20)
           (.seq (.seq (.reg [⟨(some 2), none, .inl (.mv (.c .nils))⟩,
               ⟨(some 3), none, .inl (.mv (.c (.int .i64 4)))⟩])
            (.keep [2, 3]))
            (.ret))
           (.skip)))
         (.seq (.reg [⟨(some 21), none, .inl (.mv (.t 4))⟩,
             ⟨(some 22), none, .inl (.mv (.t 5))⟩,
             ⟨(some 23), none, .inr (.call 48 [(.t 21), (.t 22)])⟩,
             ⟨(some 24), none, .inl (.mv (.t 6))⟩,
             ⟨(some 25), none, .inr (.call 47 [(.t 23), (.t 24)])⟩])
          (.keep [4, 11, 12, 13])))))
        (.seq (.reg [⟨(some 26), none, .inl (.bin .add (.t 13) (.c (.int .i64 1)))⟩,
            ⟨(some 13), none, .inl (.mv (.t 26))⟩])
         (.keep [4, 11, 12, 13]))))))))
     (.seq (.seq (.reg [⟨(some 27), none, .inl (.mv (.t 4))⟩,
         ⟨(some 2), none, .inl (.mv (.t 27))⟩,
         ⟨(some 3), none, .inl (.mv (.c (.int .i64 0)))⟩])
      (.keep [2, 3]))
      (.ret))))
def fc_words_Of : FC := ⟨28, cmd_words_Of, [.t 2, .t 3]⟩
theorem fc_words_Of_ok : compF Try.prog 41 [[0], [0, 4], [4, 11, 12, 13], [4, 11, 12, 13], [4, 11, 12, 13, 14], [4, 5, 6, 11, 12, 13], [4, 5, 6, 11, 12, 13, 20], [2, 3], [4, 11, 12, 13], [4, 11, 12, 13], [2, 3]] = some fc_words_Of := by kernel_rfl
/-- joist/words.All -/
abbrev F.words_All : Nat := 42
def cmd_words_All : Cmd :=
  .seq (.seq (.reg [⟨(some 2), none, .inl (.mv (.c .nils))⟩,
      ⟨(some 3), none, .inl (.mv (.c (.bool false)))⟩])
   (.keep [0]))
   (.seq (.seq (.seq (.reg [⟨(some 7), none, .inl (.mv (.t 0))⟩,
       ⟨(some 8), none, .inl (.len (.t 7))⟩,
       ⟨(some 9), none, .inl (.bin .rem (.t 8) (.c (.int .i64 8)))⟩,
       ⟨(some 10), none, .inl (.bin .neq (.t 9) (.c (.int .i64 0)))⟩])
    (.keep [0, 10]))
    (.cond (.t 10)
      (.seq (.seq (.reg [⟨(some 2), none, .inl (.mv (.c .nils))⟩,
          ⟨(some 3), none, .inl (.mv (.c (.bool false)))⟩])
       (.keep [2, 3]))
       (.ret))
      (.skip)))
    (.seq (.seq (.reg [⟨(some 4), none, .inl (.mv (.c .nils))⟩])
     (.keep [0, 4]))
     (.seq (.block 0 (.loop [0, 4] (.seq (.seq (.seq (.reg [⟨(some 11), none, .inl (.mv (.t 0))⟩,
         ⟨(some 12), none, .inl (.len (.t 11))⟩,
         ⟨(some 13), none, .inl (.bin .gtr (.t 12) (.c (.int .i64 0)))⟩])
      (.keep [0, 4, 13]))
      (.cond (.t 13)
        (.skip)
        (.exit 0)))
      (.block 1 (.seq (.seq (.reg [⟨(some 15), none, .inl (.mv (.t 0))⟩,
          ⟨(some 16), none, .inl (.slice 1 (.t 15) none (some (.c (.int .i64 8))) none)⟩,
          ⟨(some 17), none, .inr (.call 49 [(.t 16)])⟩,
          ⟨(some 14), none, .inl (.mv (.t 17))⟩,
          ⟨(some 18), none, .inl (.ext 0 (.t 14))⟩,
          ⟨(some 19), none, .inl (.ext 1 (.t 14))⟩,
          ⟨(some 5), none, .inl (.mv (.t 18))⟩,
          ⟨(some 6), none, .inl (.mv (.t 19))⟩])
       (.keep [0, 4, 5, 6]))
       (.seq (.seq (.seq (.reg [⟨(some 20), none, .inl (.mv (.t 6))⟩,
           ⟨(some 21), none, .inl (.un .not (.t 20))⟩])
        (.keep [0, 4, 5, 21]))
        (.cond (.t 21)
          (.seq (.seq (.reg [⟨(some 2), none, .inl (.mv (.c .nils))⟩,
              ⟨(some 3), none, .inl (.mv (.c (.bool false)))⟩])
           (.keep [2, 3]))
           (.ret))
          (.skip)))
        (.seq (.ord [⟨0, ⟨(some 22), none, .inl (.mv (.t 4))⟩, [], true⟩,
            ⟨1, ⟨(some 23), none, .inl (.mv (.t 5))⟩, [], false⟩,
            ⟨4, ⟨(some 26), none, .inl (.mv (.t 0))⟩, [], true⟩,
            ⟨5, ⟨(some 27), none, .inl (.slice 1 (.t 26) (some (.c (.int .i64 8))) none none)⟩, [], true⟩,
            ⟨2, ⟨(some 24), none, .inr (.bslice 1 [(.int .i64 0)] 1 [(0, (.t 23))])⟩, [0, 4, 5], false⟩,
            ⟨3, ⟨(some 25), none, .inr (.append 1 8 (.t 22) (.t 24))⟩, [4, 5], false⟩,
            ⟨6, ⟨(some 4), none, .inl (.mv (.t 25))⟩, [], false⟩,
            ⟨7, ⟨(some 0), none, .inl (.mv (.t 27))⟩, [], false⟩])
         (.keep [0, 4]))))))))
      (.seq (.seq (.reg [⟨(some 28), none, .inl (.mv (.t 4))⟩,
          ⟨(some 2), none, .inl (.mv (.t 28))⟩,
          ⟨(some 3), none, .inl (.mv (.c (.bool true)))⟩])
       (.keep [2, 3]))
       (.ret)))))
def fc_words_All : FC := ⟨29, cmd_words_All, [.t 2, .t 3]⟩
theorem fc_words_All_ok : compF Try.prog 42 [[0], [0, 10], [2, 3], [0, 4], [0, 4], [0, 4, 13], [0, 4, 5, 6], [0, 4, 5, 21], [2, 3], [0, 4], [0, 1, 4, 5, 2, 3, 6, 7], [2, 3]] = some fc_words_All := by kernel_rfl
/-- bytes.Equal -/
abbrev F.bytes_Equal : Nat := 43
def cmd_bytes_Equal : Cmd :=
  .seq (.seq (.reg [⟨(some 4), none, .inl (.mv (.c (.bool false)))⟩])
   (.keep [0, 1]))
   (.seq (.seq (.reg [⟨(some 5), none, .inl (.mv (.t 0))⟩,
       ⟨(some 6), none, .inl (.b2s (.t 5))⟩,
       ⟨(some 7), none, .inl (.mv (.t 1))⟩,
       ⟨(some 8), none, .inl (.b2s (.t 7))⟩,
       ⟨(some 9), none, .inl (.bins .eql (.t 6) (.t 8))⟩,
       ⟨(some 4), none, .inl (.mv (.t 9))⟩])
    (.keep [4]))
    (.ret))
def fc_bytes_Equal : FC := ⟨10, cmd_bytes_Equal, [.t 4]⟩
theorem fc_bytes_Equal_ok : compF Try.prog 43 [[0, 1], [4]] = some fc_bytes_Equal := by kernel_rfl
/-- joist/joistref01.Of -/
abbrev F.joistref01_Of : Nat := 44
def cmd_joistref01_Of : Cmd :=
  .seq (.seq (.reg [⟨(some 2), none, .inl (.mv (.c .nils))⟩,
      ⟨(some 3), none, .inl (.mv (.c (.int .i64 0)))⟩])
   (.keep [0]))
   (.seq (.seq (.reg [⟨(some 4), none, .inl (.mv (.c .nils))⟩])
    (.keep [0, 4]))
    (.seq (.seq (.seq (.reg [⟨(some 5), none, .inl (.mv (.c (.int .i64 0)))⟩])
     (.keep [0, 4, 5]))
     (.block 0 (.loop [0, 4, 5] (.seq (.seq (.seq (.reg [⟨(some 6), none, .inl (.mv (.t 5))⟩,
         ⟨(some 7), none, .inl (.mv (.t 0))⟩,
         ⟨(some 8), none, .inl (.len (.t 7))⟩,
         ⟨(some 9), none, .inl (.bin .lss (.t 6) (.t 8))⟩])
      (.keep [0, 4, 5, 9]))
      (.cond (.t 9)
        (.skip)
        (.exit 0)))
      (.seq (.block 1 (.seq (.seq (.seq (.reg [⟨(some 12), none, .inl (.mv (.t 0))⟩,
          ⟨(some 13), none, .inl (.mv (.t 5))⟩,
          ⟨(some 14), none, .inl (.iaddr 1 (.t 12) (.t 13))⟩,
          ⟨(some 15), none, .inl (.load false 1 (.t 14))⟩,
          ⟨(some 16), none, .inl (.bin .lss (.t 15) (.c (.int .i64 0)))⟩,
          ⟨(some 17), none, .inl (.mv (.t 16))⟩,
          ⟨(some 18), (some (17, false)), .inl (.mv (.t 0))⟩,
          ⟨(some 19), (some (17, false)), .inl (.mv (.t 5))⟩,
          ⟨(some 20), (some (17, false)), .inl (.iaddr 1 (.t 18) (.t 19))⟩,
          ⟨(some 21), (some (17, false)), .inl (.load false 1 (.t 20))⟩,
          ⟨(some 22), (some (17, false)), .inl (.bin .gtr (.t 21) (.c (.int .i64 4611686018427387903)))⟩,
          ⟨(some 23), none, .inl (.pick (.t 17) (.c (.bool true)) (.t 22))⟩])
       (.keep [0, 4, 5, 23]))
       (.cond (.t 23)
         (.seq (.seq (.reg [⟨(some 2), none, .inl (.mv (.c .nils))⟩,
             ⟨(some 3), none, .inl (.mv (.c (.int .i64 4)))⟩])
          (.keep [2, 3]))
          (.ret))
         (.skip)))
       (.seq (.reg [⟨(some 24), none, .inl (.mv (.t 4))⟩,
           ⟨(some 25), none, .inl (.mv (.t 0))⟩,
           ⟨(some 26), none, .inl (.mv (.t 5))⟩,
           ⟨(some 27), none, .inl (.iaddr 1 (.t 25) (.t 26))⟩,
           ⟨(some 28), none, .inl (.load false 1 (.t 27))⟩,
           ⟨(some 29), none, .inr (.call 50 [(.t 28)])⟩,
           ⟨(some 30), none, .inr (.append 1 1 (.t 24) (.t 29))⟩,
           ⟨(some 4), none, .inl (.mv (.t 30))⟩])
        (.keep [0, 4, 5]))))
       (.seq (.reg [⟨(some 10), none, .inl (.mv (.t 5))⟩,
           ⟨(some 11), none, .inl (.bin .add (.t 10) (.c (.int .i64 1)))⟩,
           ⟨(some 5), none, .inl (.mv (.t 11))⟩])
        (.keep [0, 4, 5])))))))
     (.seq (.seq (.reg [⟨(some 31), none, .inl (.mv (.t 4))⟩,
         ⟨(some 2), none, .inl (.mv (.t 31))⟩,
         ⟨(some 3), none, .inl (.mv (.c (.int .i64 0)))⟩])
      (.keep [2, 3]))
      (.ret))))
def fc_joistref01_Of : FC := ⟨32, cmd_joistref01_Of, [.t 2, .t 3]⟩
theorem fc_joistref01_Of_ok : compF Try.prog 44 [[0], [0, 4], [0, 4, 5], [0, 4, 5], [0, 4, 5, 9], [0, 4, 5, 23], [2, 3], [0, 4, 5], [0, 4, 5], [2, 3]] = some fc_joistref01_Of := by kernel_rfl
/-- joist/joistref01.All -/
abbrev F.joistref01_All : Nat := 45
def cmd_joistref01_All : Cmd :=
  .seq (.seq (.reg [⟨(some 2), none, .inl (.mv (.c .nils))⟩,
      ⟨(some 3), none, .inl (.mv (.c (.bool false)))⟩])
   (.keep [0]))
   (.seq (.seq (.seq (.reg [⟨(some 8), none, .inl (.mv (.t 0))⟩,
       ⟨(some 9), none, .inl (.len (.t 8))⟩,
       ⟨(some 10), none, .inl (.bin .rem (.t 9) (.c (.int .i64 8)))⟩,
       ⟨(some 11), none, .inl (.bin .neq (.t 10) (.c (.int .i64 0)))⟩])
    (.keep [0, 11]))
    (.cond (.t 11)
      (.seq (.seq (.reg [⟨(some 2), none, .inl (.mv (.c .nils))⟩,
          ⟨(some 3), none, .inl (.mv (.c (.bool false)))⟩])
       (.keep [2, 3]))
       (.ret))
      (.skip)))
    (.seq (.seq (.reg [⟨(some 4), none, .inl (.mv (.c .nils))⟩])
     (.keep [0, 4]))
     (.seq (.seq (.seq (.reg [⟨(some 5), none, .inl (.mv (.c (.int .i64 0)))⟩])
      (.keep [0, 4, 5]))
      (.block 0 (.loop [0, 4, 5] (.seq (.seq (.seq (.reg [⟨(some 12), none, .inl (.mv (.t 5))⟩,
          ⟨(some 13), none, .inl (.mv (.t 0))⟩,
          ⟨(some 14), none, .inl (.len (.t 13))⟩,
          ⟨(some 15), none, .inl (.bin .quo (.t 14) (.c (.int .i64 8)))⟩,
          ⟨(some 16), none, .inl (.bin .lss (.t 12) (.t 15))⟩])
       (.keep [0, 4, 5, 16]))
       (.cond (.t 16)
         (.skip)
         (.exit 0)))
       (.seq (.block 1 (.seq (.seq (.reg [⟨(some 20), none, .inl (.mv (.t 0))⟩,
           ⟨(some 21), none, .inl (.mv (.t 5))⟩,
           ⟨(some 22), none, .inr (.call 51 [(.t 20), (.t 21)])⟩,
           ⟨(some 19), none, .inl (.mv (.t 22))⟩,
           ⟨(some 23), none, .inl (.ext 0 (.t 19))⟩,
           ⟨(some 24), none, .inl (.ext 1 (.t 19))⟩,
           ⟨(some 6), none, .inl (.mv (.t 23))⟩,
           ⟨(some 7), none, .inl (.mv (.t 24))⟩])
        (.keep [0, 4, 5, 6, 7]))
        (.seq (.seq (.seq (.reg [⟨(some 25), none, .inl (.mv (.t 7))⟩,
            ⟨(some 26), none, .inl (.un .not (.t 25))⟩])
         (.keep [0, 4, 5, 6, 26]))
         (.cond (.t 26)
           (.seq (.seq (.reg [⟨(some 2), none, .inl (.mv (.c .nils))⟩,
               ⟨(some 3), none, .inl (.mv (.c (.bool false)))⟩])
            (.keep [2, 3]))
            (.ret))
           (.skip)))
         (.seq (.reg [⟨(some 27), none, .inl (.mv (.t 4))⟩,
             ⟨(some 28), none, .inl (.mv (.t 6))⟩,
             ⟨(some 29), none, .inr (.bslice 1 [(.int .i64 0)] 1 [(0, (.t 28))])⟩,
             ⟨(some 30), none, .inr (.append 1 8 (.t 27) (.t 29))⟩,
             ⟨(some 4), none, .inl (.mv (.t 30))⟩])
          (.keep [0, 4, 5])))))
        (.seq (.reg [⟨(some 17), none, .inl (.mv (.t 5))⟩,
            ⟨(some 18), none, .inl (.bin .add (.t 17) (.c (.int .i64 1)))⟩,
            ⟨(some 5), none, .inl (.mv (.t 18))⟩])
         (.keep [0, 4, 5])))))))
      (.seq (.seq (.reg [⟨(some 31), none, .inl (.mv (.t 4))⟩,
          ⟨(some 2), none, .inl (.mv (.t 31))⟩,
          ⟨(some 3), none, .inl (.mv (.c (.bool true)))⟩])
       (.keep [2, 3]))
       (.ret)))))
def fc_joistref01_All : FC := ⟨32, cmd_joistref01_All, [.t 2, .t 3]⟩
theorem fc_joistref01_All_ok : compF Try.prog 45 [[0], [0, 11], [2, 3], [0, 4], [0, 4, 5], [0, 4, 5], [0, 4, 5, 16], [0, 4, 5, 6, 7], [0, 4, 5, 6, 26], [2, 3], [0, 4, 5], [0, 4, 5], [2, 3]] = some fc_joistref01_All := by kernel_rfl
/-- joist/words.may -/
abbrev F.words_may : Nat := 46
def cmd_words_may : Cmd :=
  .seq (.seq (.reg [⟨(some 2), none, .inl (.mv (.c (.bool false)))⟩])
   (.keep [0]))
   (.seq (.seq (.reg [⟨(some 3), none, .inl (.mv (.t 0))⟩,
       ⟨(some 4), none, .inl (.bin .geq (.t 3) (.c (.int .i64 0)))⟩,
       ⟨(some 5), none, .inl (.mv (.t 4))⟩,
       ⟨(some 6), (some (5, true)), .inl (.mv (.t 0))⟩,
       ⟨(some 7), (some (5, true)), .inl (.bin .leq (.t 6) (.c (.int .i64 4611686018427387903)))⟩,
       ⟨(some 8), none, .inl (.pick (.t 5) (.t 7) (.c (.bool false)))⟩,
       ⟨(some 2), none, .inl (.mv (.t 8))⟩])
    (.keep [2]))
    (.ret))
def fc_words_may : FC := ⟨9, cmd_words_may, [.t 2]⟩
theorem fc_words_may_ok : compF Try.prog 46 [[0], [2]] = some fc_words_may := by kernel_rfl
/-- joist/words.write -/
abbrev F.words_write : Nat := 47
def cmd_words_write : Cmd :=
  .seq (.seq (.reg [⟨(some 5), none, .inl (.mv (.c (.int .i64 0)))⟩])
   (.keep [0, 1, 5]))
   (.block 0 (.loop [0, 1, 5] (.seq (.seq (.reg [⟨(some 6), none, .inl (.bin .lss (.t 5) (.c (.int .i64 8)))⟩])
    (.keep [0, 1, 5, 6]))
    (.seq (.cond (.t 6)
      (.skip)
      (.exit 0))
     (.seq (.block 1 (.seq (.seq (.reg [⟨(some 7), none, .inl (.mv (.t 5))⟩,
         ⟨(some 4), none, .inl (.mv (.t 7))⟩])
      (.keep [0, 1, 4, 5]))
      (.seq (.reg [⟨(some 8), none, .inl (.mv (.t 0))⟩,
          ⟨(some 9), none, .inl (.mv (.t 4))⟩,
          ⟨(some 10), none, .inl (.mv (.t 1))⟩,
          ⟨(some 11), none, .inl (.mv (.t 4))⟩,
          ⟨(some 12), none, .inl (.bin .mul (.c (.int .i64 8)) (.t 11))⟩,
          ⟨(some 13), none, .inl (.bin .shr (.t 10) (.t 12))⟩,
          ⟨(some 14), none, .inl (.conv .u8 (.t 13))⟩,
          ⟨(some 15), none, .inl (.iaddr 1 (.t 8) (.t 9))⟩,
          ⟨none, none, .inr (.store 1 (.t 15) (.t 14))⟩])
       (.keep [0, 1, 5]))))
      (.seq (.reg [⟨(some 16), none, .inl (.bin .add (.t 5) (.c (.int .i64 1)))⟩,
          ⟨(some 5), none, .inl (.mv (.t 16))⟩])
       (.keep [0, 1, 5])))))))
def fc_words_write : FC := ⟨17, cmd_words_write, []⟩
theorem fc_words_write_ok : compF Try.prog 47 [[0, 1, 5], [0, 1, 5], [0, 1, 5, 6], [0, 1, 4, 5], [0, 1, 5], [0, 1, 5]] = some fc_words_write := by kernel_rfl
/-- joist/words.place -/
abbrev F.words_place : Nat := 48
def cmd_words_place : Cmd :=
  .seq (.seq (.reg [⟨(some 4), none, .inl (.mv (.c .nils))⟩])
   (.keep [0, 1]))
   (.seq (.seq (.seq (.reg [⟨(some 6), none, .inl (.mv (.t 1))⟩,
       ⟨(some 7), none, .inl (.bin .lss (.t 6) (.c (.int .i64 0)))⟩,
       ⟨(some 8), none, .inl (.mv (.t 7))⟩,
       ⟨(some 9), (some (8, false)), .inl (.mv (.t 1))⟩,
       ⟨(some 10), (some (8, false)), .inl (.mv (.t 0))⟩,
       ⟨(some 11), (some (8, false)), .inl (.len (.t 10))⟩,
       ⟨(some 12), (some (8, false)), .inl (.bin .quo (.t 11) (.c (.int .i64 8)))⟩,
       ⟨(some 13), (some (8, false)), .inl (.bin .geq (.t 9) (.t 12))⟩,
       ⟨(some 14), none, .inl (.pick (.t 8) (.c (.bool true)) (.t 13))⟩])
    (.keep [0, 1, 14]))
    (.cond (.t 14)
      (.seq (.seq (.reg [⟨(some 4), none, .inl (.mv (.c .nils))⟩])
       (.keep [4]))
       (.ret))
      (.skip)))
    (.seq (.seq (.reg [⟨(some 15), none, .inl (.mv (.t 1))⟩,
        ⟨(some 16), none, .inl (.bin .mul (.t 15) (.c (.int .i64 8)))⟩,
        ⟨(some 5), none, .inl (.mv (.t 16))⟩])
     (.keep [0, 5]))
     (.seq (.seq (.reg [⟨(some 17), none, .inl (.mv (.t 0))⟩,
         ⟨(some 18), none, .inl (.mv (.t 5))⟩,
         ⟨(some 19), none, .inl (.mv (.t 5))⟩,
         ⟨(some 20), none, .inl (.bin .add (.t 19) (.c (.int .i64 8)))⟩,
         ⟨(some 21), none, .inl (.slice 1 (.t 17) (some (.t 18)) (some (.t 20)) none)⟩,
         ⟨(some 4), none, .inl (.mv (.t 21))⟩])
      (.keep [4]))
      (.ret))))
def fc_words_place : FC := ⟨22, cmd_words_place, [.t 4]⟩
theorem fc_words_place_ok : compF Try.prog 48 [[0, 1], [0, 1, 14], [4], [0, 5], [4]] = some fc_words_place := by kernel_rfl
/-- joist/words.read -/
abbrev F.words_read : Nat := 49
def cmd_words_read : Cmd :=
  .seq (.seq (.reg [⟨(some 2), none, .inl (.mv (.c (.int .i64 0)))⟩,
      ⟨(some 3), none, .inl (.mv (.c (.bool false)))⟩])
   (.keep [0, 2]))
   (.seq (.seq (.seq (.reg [⟨(some 5), none, .inl (.mv (.t 0))⟩,
       ⟨(some 6), none, .inl (.iaddr 1 (.t 5) (.c (.int .i64 7)))⟩,
       ⟨(some 7), none, .inl (.load false 1 (.t 6))⟩,
       ⟨(some 8), none, .inl (.bin .geq (.t 7) (.c (.int .u8 64)))⟩])
    (.keep [0, 2, 8]))
    (.cond (.t 8)
      (.seq (.seq (.reg [⟨(some 2), none, .inl (.mv (.c (.int .i64 0)))⟩,
          ⟨(some 3), none, .inl (.mv (.c (.bool false)))⟩])
       (.keep [2, 3]))
       (.ret))
      (.skip)))
    (.seq (.seq (.seq (.reg [⟨(some 9), none, .inl (.mv (.c (.int .i64 0)))⟩])
     (.keep [0, 2, 9]))
     (.block 0 (.loop [0, 2, 9] (.seq (.seq (.reg [⟨(some 10), none, .inl (.bin .lss (.t 9) (.c (.int .i64 8)))⟩])
      (.keep [0, 2, 9, 10]))
      (.seq (.cond (.t 10)
        (.skip)
        (.exit 0))
       (.seq (.block 1 (.seq (.seq (.reg [⟨(some 11), none, .inl (.mv (.t 9))⟩,
           ⟨(some 4), none, .inl (.mv (.t 11))⟩])
        (.keep [0, 2, 4, 9]))
        (.seq (.reg [⟨(some 12), none, .inl (.mv (.t 2))⟩,
            ⟨(some 13), none, .inl (.bin .shl (.t 12) (.c (.int .u64 8)))⟩,
            ⟨(some 14), none, .inl (.mv (.t 0))⟩,
            ⟨(some 15), none, .inl (.mv (.t 4))⟩,
            ⟨(some 16), none, .inl (.bin .sub (.c (.int .i64 7)) (.t 15))⟩,
            ⟨(some 17), none, .inl (.iaddr 1 (.t 14) (.t 16))⟩,
            ⟨(some 18), none, .inl (.load false 1 (.t 17))⟩,
            ⟨(some 19), none, .inl (.conv .i64 (.t 18))⟩,
            ⟨(some 20), none, .inl (.bin .or (.t 13) (.t 19))⟩,
            ⟨(some 2), none, .inl (.mv (.t 20))⟩])
         (.keep [0, 2, 9]))))
        (.seq (.reg [⟨(some 21), none, .inl (.bin .add (.t 9) (.c (.int .i64 1)))⟩,
            ⟨(some 9), none, .inl (.mv (.t 21))⟩])
         (.keep [0, 2, 9]))))))))
     (.seq (.seq (.reg [⟨(some 22), none, .inl (.mv (.t 2))⟩,
         ⟨(some 2), none, .inl (.mv (.t 22))⟩,
         ⟨(some 3), none, .inl (.mv (.c (.bool true)))⟩])
      (.keep [2, 3]))
      (.ret))))
def fc_words_read : FC := ⟨23, cmd_words_read, [.t 2, .t 3]⟩
theorem fc_words_read_ok : compF Try.prog 49 [[0, 2], [0, 2, 8], [2, 3], [0, 2, 9], [0, 2, 9], [0, 2, 9, 10], [0, 2, 4, 9], [0, 2, 9], [0, 2, 9], [2, 3]] = some fc_words_read := by kernel_rfl
/-- joist/joistref01.Bytes -/
abbrev F.joistref01_Bytes : Nat := 50
def cmd_joistref01_Bytes : Cmd :=
  .seq (.seq (.reg [⟨(some 2), none, .inl (.mv (.c .nils))⟩])
   (.keep [0]))
   (.seq (.seq (.reg [⟨(some 3), none, .inl (.mv (.c .nils))⟩])
    (.keep [0, 3]))
    (.seq (.seq (.seq (.reg [⟨(some 4), none, .inl (.mv (.c (.int .i64 0)))⟩])
     (.keep [0, 3, 4]))
     (.block 0 (.loop [0, 3, 4] (.seq (.seq (.seq (.reg [⟨(some 5), none, .inl (.mv (.t 4))⟩,
         ⟨(some 6), none, .inl (.bin .lss (.t 5) (.c (.int .i64 8)))⟩])
      (.keep [0, 3, 4, 6]))
      (.cond (.t 6)
        (.skip)
        (.exit 0)))
      (.seq (.block 1 (.seq (.seq (.reg [⟨(some 9), none, .inl (.mv (.t 3))⟩,
          ⟨(some 10), none, .inl (.mv (.t 0))⟩,
          ⟨(some 11), none, .inl (.conv .u8 (.t 10))⟩,
          ⟨(some 12), none, .inr (.bslice 1 [(.int .u8 0)] 1 [(0, (.t 11))])⟩,
          ⟨(some 13), none, .inr (.append 1 1 (.t 9) (.t 12))⟩,
          ⟨(some 3), none, .inl (.mv (.t 13))⟩])
       (.keep [0, 3, 4]))
       (.seq (.reg [⟨(some 14), none, .inl (.mv (.t 0))⟩,
           ⟨(some 15), none, .inl (.bin .quo (.t 14) (.c (.int .i64 256)))⟩,
           ⟨(some 0), none, .inl (.mv (.t 15))⟩])
        (.keep [0, 3, 4]))))
       (.seq (.reg [⟨(some 7), none, .inl (.mv (.t 4))⟩,
           ⟨(some 8), none, .inl (.bin .add (.t 7) (.c (.int .i64 1)))⟩,
           ⟨(some 4), none, .inl (.mv (.t 8))⟩])
        (.keep [0, 3, 4])))))))
     (.seq (.seq (.reg [⟨(some 16), none, .inl (.mv (.t 3))⟩,
         ⟨(some 2), none, .inl (.mv (.t 16))⟩])
      (.keep [2]))
      (.ret))))
def fc_joistref01_Bytes : FC := ⟨17, cmd_joistref01_Bytes, [.t 2]⟩
theorem fc_joistref01_Bytes_ok : compF Try.prog 50 [[0], [0, 3], [0, 3, 4], [0, 3, 4], [0, 3, 4, 6], [0, 3, 4], [0, 3, 4], [0, 3, 4], [2]] = some fc_joistref01_Bytes := by kernel_rfl
/-- joist/joistref01.Get -/
abbrev F.joistref01_Get : Nat := 51
def cmd_joistref01_Get : Cmd :=
  .seq (.seq (.reg [⟨(some 4), none, .inl (.mv (.c (.int .i64 0)))⟩,
      ⟨(some 5), none, .inl (.mv (.c (.bool false)))⟩])
   (.keep [0, 1]))
   (.seq (.seq (.seq (.reg [⟨(some 9), none, .inl (.mv (.t 1))⟩,
       ⟨(some 10), none, .inl (.bin .lss (.t 9) (.c (.int .i64 0)))⟩,
       ⟨(some 11), none, .inl (.mv (.t 10))⟩,
       ⟨(some 12), (some (11, false)), .inl (.mv (.t 1))⟩,
       ⟨(some 13), (some (11, false)), .inl (.mv (.t 0))⟩,
       ⟨(some 14), (some (11, false)), .inl (.len (.t 13))⟩,
       ⟨(some 15), (some (11, false)), .inl (.bin .quo (.t 14) (.c (.int .i64 8)))⟩,
       ⟨(some 16), (some (11, false)), .inl (.bin .geq (.t 12) (.t 15))⟩,
       ⟨(some 17), none, .inl (.pick (.t 11) (.c (.bool true)) (.t 16))⟩])
    (.keep [0, 1, 17]))
    (.cond (.t 17)
      (.seq (.seq (.reg [⟨(some 4), none, .inl (.mv (.c (.int .i64 0)))⟩,
          ⟨(some 5), none, .inl (.mv (.c (.bool false)))⟩])
       (.keep [4, 5]))
       (.ret))
      (.skip)))
    (.seq (.seq (.reg [⟨(some 18), none, .inl (.mv (.t 0))⟩,
        ⟨(some 19), none, .inl (.mv (.t 1))⟩,
        ⟨(some 20), none, .inl (.bin .mul (.c (.int .i64 8)) (.t 19))⟩,
        ⟨(some 21), none, .inl (.mv (.t 1))⟩,
        ⟨(some 22), none, .inl (.bin .mul (.c (.int .i64 8)) (.t 21))⟩,
        ⟨(some 23), none, .inl (.bin .add (.t 22) (.c (.int .i64 8)))⟩,
        ⟨(some 24), none, .inl (.slice 1 (.t 18) (some (.t 20)) (some (.t 23)) none)⟩,
        ⟨(some 6), none, .inl (.mv (.t 24))⟩])
     (.keep [6]))
     (.seq (.seq (.seq (.reg [⟨(some 25), none, .inl (.mv (.t 6))⟩,
         ⟨(some 26), none, .inl (.iaddr 1 (.t 25) (.c (.int .i64 7)))⟩,
         ⟨(some 27), none, .inl (.load false 1 (.t 26))⟩,
         ⟨(some 28), none, .inl (.bin .geq (.t 27) (.c (.int .u8 64)))⟩])
      (.keep [6, 28]))
      (.cond (.t 28)
        (.seq (.seq (.reg [⟨(some 4), none, .inl (.mv (.c (.int .i64 0)))⟩,
            ⟨(some 5), none, .inl (.mv (.c (.bool false)))⟩])
         (.keep [4, 5]))
         (.ret))
        (.skip)))
      (.seq (.seq (.reg [⟨(some 7), none, .inl (.mv (.c (.int .i64 0)))⟩])
       (.keep [6, 7]))
       (.seq (.seq (.seq (.reg [⟨(some 8), none, .inl (.mv (.c (.int .i64 7)))⟩])
        (.keep [6, 7, 8]))
        (.block 0 (.loop [6, 7, 8] (.seq (.seq (.seq (.reg [⟨(some 29), none, .inl (.mv (.t 8))⟩,
            ⟨(some 30), none, .inl (.bin .geq (.t 29) (.c (.int .i64 0)))⟩])
         (.keep [6, 7, 8, 30]))
         (.cond (.t 30)
           (.skip)
           (.exit 0)))
         (.seq (.block 1 (.seq (.reg [⟨(some 33), none, .inl (.mv (.t 7))⟩,
             ⟨(some 34), none, .inl (.bin .mul (.t 33) (.c (.int .i64 256)))⟩,
             ⟨(some 35), none, .inl (.mv (.t 6))⟩,
             ⟨(some 36), none, .inl (.mv (.t 8))⟩,
             ⟨(some 37), none, .inl (.iaddr 1 (.t 35) (.t 36))⟩,
             ⟨(some 38), none, .inl (.load false 1 (.t 37))⟩,
             ⟨(some 39), none, .inl (.conv .i64 (.t 38))⟩,
             ⟨(some 40), none, .inl (.bin .add (.t 34) (.t 39))⟩,
             ⟨(some 7), none, .inl (.mv (.t 40))⟩])
          (.keep [6, 7, 8])))
          (.seq (.reg [⟨(some 31), none, .inl (.mv (.t 8))⟩,
              ⟨(some 32), none, .inl (.bin .sub (.t 31) (.c (.int .i64 1)))⟩,
              ⟨(some 8), none, .inl (.mv (.t 32))⟩])
           (.keep [6, 7, 8])))))))
        (.seq (.seq (.reg [⟨(some 41), none, .inl (.mv (.t 7))⟩,
            ⟨(some 4), none, .inl (.mv (.t 41))⟩,
            ⟨(some 5), none, .inl (.mv (.c (.bool true)))⟩])
         (.keep [4, 5]))
         (.ret)))))))
def fc_joistref01_Get : FC := ⟨42, cmd_joistref01_Get, [.t 4, .t 5]⟩
theorem fc_joistref01_Get_ok : compF Try.prog 51 [[0, 1], [0, 1, 17], [4, 5], [6], [6, 28], [4, 5], [6, 7], [6, 7, 8], [6, 7, 8], [6, 7, 8, 30], [6, 7, 8], [6, 7, 8], [4, 5]] = some fc_joistref01_Get := by kernel_rfl
end Go.Proofs.Ytbmocdcfcdmmkaa
