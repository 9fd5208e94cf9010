import Derived.Test.YtbknmoeneebaoaaProg
import Derived.Test.YtbknmoeneebaoaaVG
import Derived.KernelRfl
namespace Go.Proofs.Ytbknmoeneebaoaa
open Go Go.Proofs.Ytbknmoeneebaoaa.V
set_option linter.unusedVariables false

theorem mixed : Try.prog.follows .mixedOrders = true := by kernel_rfl
/-- joist/joistlaw01.WordsPuts -/
abbrev F.joistlaw01_WordsPuts : Nat := 3
def cmd_joistlaw01_WordsPuts : Cmd :=
  .seq (.seq (.reg [⟨(some 8), none, .inl (.mv (.c (.bool false)))⟩])
   (.keep [0, 1, 2, 3]))
   (.seq (.seq (.reg [⟨(some 22), none, .inr (.call 9 [])⟩,
       ⟨(some 9), none, .inl (.mv (.t 22))⟩])
    (.keep [0, 1, 2, 3, 9]))
    (.seq (.seq (.reg [⟨(some 23), none, .inl (.mv (.t 0))⟩,
        ⟨(some 24), none, .inr (.call 10 [(.t 23)])⟩,
        ⟨(some 10), none, .inl (.mv (.t 24))⟩])
     (.keep [0, 1, 2, 3, 9, 10]))
     (.seq (.seq (.reg [⟨(some 26), none, .inl (.mv (.t 10))⟩,
         ⟨(some 27), none, .inl (.mv (.t 1))⟩,
         ⟨(some 28), none, .inl (.mv (.t 2))⟩,
         ⟨(some 29), none, .inr (.call 11 [(.t 26), (.t 27), (.t 28)])⟩,
         ⟨(some 25), none, .inl (.mv (.t 29))⟩,
         ⟨(some 30), none, .inl (.ext 0 (.t 25))⟩,
         ⟨(some 31), none, .inl (.ext 1 (.t 25))⟩,
         ⟨(some 11), none, .inl (.mv (.t 30))⟩,
         ⟨(some 12), none, .inl (.mv (.t 31))⟩])
      (.keep [0, 1, 2, 3, 9, 10, 11, 12]))
      (.seq (.seq (.reg [⟨(some 33), none, .inl (.mv (.t 3))⟩,
          ⟨(some 34), none, .inr (.call 12 [(.t 33)])⟩,
          ⟨(some 32), none, .inl (.mv (.t 34))⟩,
          ⟨(some 35), none, .inl (.ext 0 (.t 32))⟩,
          ⟨(some 36), none, .inl (.ext 1 (.t 32))⟩,
          ⟨(some 13), none, .inl (.mv (.t 35))⟩,
          ⟨(some 14), none, .inl (.mv (.t 36))⟩])
       (.keep [0, 1, 2, 3, 9, 10, 11, 12, 13, 14]))
       (.seq (.seq (.reg [⟨(some 37), none, .inl (.mv (.t 10))⟩,
           ⟨(some 38), none, .inl (.mv (.t 0))⟩,
           ⟨(some 39), none, .inr (.call 13 [(.t 37), (.t 38)])⟩,
           ⟨(some 15), none, .inl (.mv (.t 39))⟩])
        (.keep [0, 1, 2, 3, 9, 10, 11, 12, 13, 14, 15]))
        (.seq (.seq (.reg [⟨(some 41), none, .inl (.mv (.t 0))⟩,
            ⟨(some 42), none, .inl (.mv (.t 1))⟩,
            ⟨(some 43), none, .inl (.mv (.t 2))⟩,
            ⟨(some 44), none, .inr (.call 14 [(.t 41), (.t 42), (.t 43)])⟩,
            ⟨(some 40), none, .inl (.mv (.t 44))⟩,
            ⟨(some 45), none, .inl (.ext 0 (.t 40))⟩,
            ⟨(some 46), none, .inl (.ext 1 (.t 40))⟩,
            ⟨(some 16), none, .inl (.mv (.t 45))⟩,
            ⟨(some 17), none, .inl (.mv (.t 46))⟩])
         (.keep [3, 9, 10, 11, 12, 13, 14, 15, 16, 17]))
         (.seq (.seq (.reg [⟨(some 48), none, .inl (.mv (.t 3))⟩,
             ⟨(some 49), none, .inr (.call 15 [(.t 48)])⟩,
             ⟨(some 47), none, .inl (.mv (.t 49))⟩,
             ⟨(some 50), none, .inl (.ext 0 (.t 47))⟩,
             ⟨(some 51), none, .inl (.ext 1 (.t 47))⟩,
             ⟨(some 18), none, .inl (.mv (.t 50))⟩,
             ⟨(some 19), none, .inl (.mv (.t 51))⟩])
          (.keep [9, 10, 11, 12, 13, 14, 15, 16, 17, 18, 19]))
          (.seq (.seq (.reg [⟨(some 52), none, .inl (.mv (.t 11))⟩,
              ⟨(some 53), none, .inl (.b2s (.t 52))⟩,
              ⟨(some 54), none, .inl (.mv (.t 16))⟩,
              ⟨(some 55), none, .inl (.b2s (.t 54))⟩,
              ⟨(some 56), none, .inl (.bins .eql (.t 53) (.t 55))⟩,
              ⟨(some 57), none, .inl (.mv (.t 56))⟩,
              ⟨(some 58), (some (57, true)), .inl (.mv (.t 13))⟩,
              ⟨(some 59), (some (57, true)), .inl (.b2s (.t 58))⟩,
              ⟨(some 60), (some (57, true)), .inl (.mv (.t 18))⟩,
              ⟨(some 61), (some (57, true)), .inl (.b2s (.t 60))⟩,
              ⟨(some 62), (some (57, true)), .inl (.bins .eql (.t 59) (.t 61))⟩,
              ⟨(some 63), none, .inl (.pick (.t 57) (.t 62) (.c (.bool false)))⟩,
              ⟨(some 20), none, .inl (.mv (.t 63))⟩])
           (.keep [9, 10, 11, 12, 13, 14, 15, 17, 19, 20]))
           (.seq (.seq (.reg [⟨(some 64), none, .inl (.mv (.t 11))⟩,
               ⟨(some 65), none, .inl (.mv (.t 13))⟩,
               ⟨(some 66), none, .inl (.mv (.t 10))⟩,
               ⟨(some 67), none, .inr (.bslice 1 [.nils] 3 [(0, (.t 64)), (1, (.t 65)), (2, (.t 66))])⟩,
               ⟨(some 68), none, .inr (.call 16 [(.t 67)])⟩,
               ⟨(some 21), none, .inl (.mv (.t 68))⟩])
            (.keep [9, 12, 14, 15, 17, 19, 20, 21]))
            (.seq (.seq (.reg [⟨(some 69), none, .inl (.mv (.t 9))⟩,
                ⟨(some 70), none, .inl (.mv (.t 69))⟩,
                ⟨(some 71), (some (70, true)), .inl (.mv (.t 15))⟩,
                ⟨(some 72), none, .inl (.pick (.t 70) (.t 71) (.c (.bool false)))⟩,
                ⟨(some 73), none, .inl (.mv (.t 72))⟩,
                ⟨(some 74), (some (73, true)), .inl (.mv (.t 20))⟩,
                ⟨(some 75), none, .inl (.pick (.t 73) (.t 74) (.c (.bool false)))⟩,
                ⟨(some 76), none, .inl (.mv (.t 75))⟩,
                ⟨(some 77), (some (76, true)), .inl (.mv (.t 21))⟩,
                ⟨(some 78), none, .inl (.pick (.t 76) (.t 77) (.c (.bool false)))⟩,
                ⟨(some 79), none, .inl (.mv (.t 78))⟩,
                ⟨(some 80), (some (79, true)), .inl (.mv (.t 12))⟩,
                ⟨(some 81), (some (79, true)), .inl (.mv (.t 17))⟩,
                ⟨(some 82), (some (79, true)), .inl (.bin .eql (.t 80) (.t 81))⟩,
                ⟨(some 83), none, .inl (.pick (.t 79) (.t 82) (.c (.bool false)))⟩,
                ⟨(some 84), none, .inl (.mv (.t 83))⟩,
                ⟨(some 85), (some (84, true)), .inl (.mv (.t 14))⟩,
                ⟨(some 86), (some (84, true)), .inl (.mv (.t 19))⟩,
                ⟨(some 87), (some (84, true)), .inl (.bin .eql (.t 85) (.t 86))⟩,
                ⟨(some 88), none, .inl (.pick (.t 84) (.t 87) (.c (.bool false)))⟩,
                ⟨(some 8), none, .inl (.mv (.t 88))⟩])
             (.keep [8]))
             (.ret)))))))))))
def fc_joistlaw01_WordsPuts : FC := ⟨89, cmd_joistlaw01_WordsPuts, [.t 8]⟩
theorem fc_joistlaw01_WordsPuts_ok : compF Try.prog 3 [[0, 1, 2, 3], [0, 1, 2, 3, 9], [0, 1, 2, 3, 9, 10], [0, 1, 2, 3, 9, 10, 11, 12], [0, 1, 2, 3, 9, 10, 11, 12, 13, 14], [0, 1, 2, 3, 9, 10, 11, 12, 13, 14, 15], [3, 9, 10, 11, 12, 13, 14, 15, 16, 17], [9, 10, 11, 12, 13, 14, 15, 16, 17, 18, 19], [9, 10, 11, 12, 13, 14, 15, 17, 19, 20], [9, 12, 14, 15, 17, 19, 20, 21], [8]] = some fc_joistlaw01_WordsPuts := by kernel_rfl
/-- joist/joistlaw01.WordsBack -/
abbrev F.joistlaw01_WordsBack : Nat := 4
def cmd_joistlaw01_WordsBack : Cmd :=
  .seq (.seq (.reg [⟨(some 8), none, .inl (.mv (.c (.bool false)))⟩])
   (.keep [0, 1, 2, 3]))
   (.seq (.seq (.reg [⟨(some 18), none, .inr (.call 9 [])⟩,
       ⟨(some 9), none, .inl (.mv (.t 18))⟩])
    (.keep [0, 1, 2, 3, 9]))
    (.seq (.seq (.reg [⟨(some 20), none, .inl (.mv (.t 0))⟩,
        ⟨(some 21), none, .inl (.mv (.t 1))⟩,
        ⟨(some 22), none, .inl (.mv (.t 2))⟩,
        ⟨(some 23), none, .inr (.call 11 [(.t 20), (.t 21), (.t 22)])⟩,
        ⟨(some 19), none, .inl (.mv (.t 23))⟩,
        ⟨(some 24), none, .inl (.ext 0 (.t 19))⟩,
        ⟨(some 25), none, .inl (.ext 1 (.t 19))⟩,
        ⟨(some 10), none, .inl (.mv (.t 24))⟩,
        ⟨(some 11), none, .inl (.mv (.t 25))⟩])
     (.keep [0, 1, 2, 3, 9, 10, 11]))
     (.seq (.seq (.seq (.reg [⟨(some 26), none, .inl (.mv (.t 11))⟩,
         ⟨(some 27), none, .inl (.bin .neq (.t 26) (.c (.int .i64 0)))⟩])
      (.keep [0, 1, 2, 3, 9, 10, 27]))
      (.cond (.t 27)
        (.seq (.seq (.reg [⟨(some 28), none, .inl (.mv (.t 9))⟩,
            ⟨(some 29), none, .inl (.mv (.t 28))⟩,
            ⟨(some 30), (some (29, true)), .inl (.mv (.t 10))⟩,
            ⟨(some 31), (some (29, true)), .inl (.len (.t 30))⟩,
            ⟨(some 32), (some (29, true)), .inl (.bin .eql (.t 31) (.c (.int .i64 0)))⟩,
            ⟨(some 33), none, .inl (.pick (.t 29) (.t 32) (.c (.bool false)))⟩,
            ⟨(some 8), none, .inl (.mv (.t 33))⟩])
         (.keep [8]))
         (.ret))
        (.skip)))
      (.seq (.seq (.reg [⟨(some 35), none, .inl (.mv (.t 10))⟩,
          ⟨(some 36), none, .inl (.mv (.t 1))⟩,
          ⟨(some 37), none, .inr (.call 17 [(.t 35), (.t 36)])⟩,
          ⟨(some 34), none, .inl (.mv (.t 37))⟩,
          ⟨(some 38), none, .inl (.ext 0 (.t 34))⟩,
          ⟨(some 39), none, .inl (.ext 1 (.t 34))⟩,
          ⟨(some 12), none, .inl (.mv (.t 38))⟩,
          ⟨(some 13), none, .inl (.mv (.t 39))⟩])
       (.keep [0, 1, 2, 3, 9, 10, 12, 13]))
       (.seq (.seq (.seq (.reg [⟨(some 40), none, .inl (.mv (.t 13))⟩,
           ⟨(some 41), none, .inl (.un .not (.t 40))⟩,
           ⟨(some 42), none, .inl (.mv (.t 41))⟩,
           ⟨(some 43), (some (42, false)), .inl (.mv (.t 12))⟩,
           ⟨(some 44), (some (42, false)), .inl (.mv (.t 2))⟩,
           ⟨(some 45), (some (42, false)), .inl (.bin .neq (.t 43) (.t 44))⟩,
           ⟨(some 46), none, .inl (.pick (.t 42) (.c (.bool true)) (.t 45))⟩,
           ⟨(some 47), none, .inl (.mv (.t 46))⟩,
           ⟨(some 48), (some (47, false)), .inl (.mv (.t 10))⟩,
           ⟨(some 49), (some (47, false)), .inl (.len (.t 48))⟩,
           ⟨(some 50), (some (47, false)), .inl (.mv (.t 0))⟩,
           ⟨(some 51), (some (47, false)), .inl (.len (.t 50))⟩,
           ⟨(some 52), (some (47, false)), .inl (.bin .neq (.t 49) (.t 51))⟩,
           ⟨(some 53), none, .inl (.pick (.t 47) (.c (.bool true)) (.t 52))⟩])
        (.keep [0, 1, 3, 9, 10, 53]))
        (.cond (.t 53)
          (.seq (.seq (.reg [⟨(some 8), none, .inl (.mv (.c (.bool false)))⟩])
           (.keep [8]))
           (.ret))
          (.skip)))
        (.seq (.seq (.reg [⟨(some 55), none, .inl (.mv (.t 0))⟩,
            ⟨(some 56), none, .inl (.mv (.t 3))⟩,
            ⟨(some 57), none, .inr (.call 17 [(.t 55), (.t 56)])⟩,
            ⟨(some 54), none, .inl (.mv (.t 57))⟩,
            ⟨(some 58), none, .inl (.ext 0 (.t 54))⟩,
            ⟨(some 59), none, .inl (.ext 1 (.t 54))⟩,
            ⟨(some 14), none, .inl (.mv (.t 58))⟩,
            ⟨(some 15), none, .inl (.mv (.t 59))⟩])
         (.keep [1, 3, 9, 10, 14, 15]))
         (.seq (.seq (.reg [⟨(some 61), none, .inl (.mv (.t 10))⟩,
             ⟨(some 62), none, .inl (.mv (.t 3))⟩,
             ⟨(some 63), none, .inr (.call 17 [(.t 61), (.t 62)])⟩,
             ⟨(some 60), none, .inl (.mv (.t 63))⟩,
             ⟨(some 64), none, .inl (.ext 0 (.t 60))⟩,
             ⟨(some 65), none, .inl (.ext 1 (.t 60))⟩,
             ⟨(some 16), none, .inl (.mv (.t 64))⟩,
             ⟨(some 17), none, .inl (.mv (.t 65))⟩])
          (.keep [1, 3, 9, 14, 15, 16, 17]))
          (.seq (.seq (.reg [⟨(some 66), none, .inl (.mv (.t 9))⟩,
              ⟨(some 67), none, .inl (.mv (.t 66))⟩,
              ⟨(some 68), (some (67, true)), .inl (.mv (.t 3))⟩,
              ⟨(some 69), (some (67, true)), .inl (.mv (.t 1))⟩,
              ⟨(some 70), (some (67, true)), .inl (.bin .eql (.t 68) (.t 69))⟩,
              ⟨(some 71), (some (67, true)), .inl (.mv (.t 70))⟩,
              ⟨(some 72), (some (71, false)), .inl (.mv (.t 14))⟩,
              ⟨(some 73), (some (71, false)), .inl (.mv (.t 16))⟩,
              ⟨(some 74), (some (71, false)), .inl (.bin .eql (.t 72) (.t 73))⟩,
              ⟨(some 75), (some (71, false)), .inl (.mv (.t 74))⟩,
              ⟨(some 76), (some (75, true)), .inl (.mv (.t 15))⟩,
              ⟨(some 77), (some (75, true)), .inl (.mv (.t 17))⟩,
              ⟨(some 78), (some (75, true)), .inl (.binb .eql (.t 76) (.t 77))⟩,
              ⟨(some 79), (some (71, false)), .inl (.pick (.t 75) (.t 78) (.c (.bool false)))⟩,
              ⟨(some 80), (some (67, true)), .inl (.pick (.t 71) (.c (.bool true)) (.t 79))⟩,
              ⟨(some 81), none, .inl (.pick (.t 67) (.t 80) (.c (.bool false)))⟩,
              ⟨(some 8), none, .inl (.mv (.t 81))⟩])
           (.keep [8]))
           (.ret)))))))))
def fc_joistlaw01_WordsBack : FC := ⟨82, cmd_joistlaw01_WordsBack, [.t 8]⟩
theorem fc_joistlaw01_WordsBack_ok : compF Try.prog 4 [[0, 1, 2, 3], [0, 1, 2, 3, 9], [0, 1, 2, 3, 9, 10, 11], [0, 1, 2, 3, 9, 10, 27], [8], [0, 1, 2, 3, 9, 10, 12, 13], [0, 1, 3, 9, 10, 53], [8], [1, 3, 9, 10, 14, 15], [1, 3, 9, 14, 15, 16, 17], [8]] = some fc_joistlaw01_WordsBack := by kernel_rfl
/-- joist/joistlaw01.WordsOrders -/
abbrev F.joistlaw01_WordsOrders : Nat := 5
def cmd_joistlaw01_WordsOrders : Cmd :=
  .seq (.seq (.reg [⟨(some 10), none, .inl (.mv (.c (.bool false)))⟩])
   (.keep [0, 1, 2, 3, 4]))
   (.seq (.seq (.reg [⟨(some 24), none, .inr (.call 9 [])⟩,
       ⟨(some 11), none, .inl (.mv (.t 24))⟩])
    (.keep [0, 1, 2, 3, 4, 11]))
    (.seq (.seq (.reg [⟨(some 26), none, .inl (.mv (.t 0))⟩,
        ⟨(some 27), none, .inr (.call 12 [(.t 26)])⟩,
        ⟨(some 25), none, .inl (.mv (.t 27))⟩,
        ⟨(some 28), none, .inl (.ext 0 (.t 25))⟩,
        ⟨(some 29), none, .inl (.ext 1 (.t 25))⟩,
        ⟨(some 12), none, .inl (.mv (.t 28))⟩,
        ⟨(some 13), none, .inl (.mv (.t 29))⟩])
     (.keep [0, 1, 2, 3, 4, 11, 12, 13]))
     (.seq (.seq (.seq (.reg [⟨(some 30), none, .inl (.mv (.t 13))⟩,
         ⟨(some 31), none, .inl (.bin .neq (.t 30) (.c (.int .i64 0)))⟩,
         ⟨(some 32), none, .inl (.mv (.t 31))⟩,
         ⟨(some 33), (some (32, false)), .inl (.mv (.t 1))⟩,
         ⟨(some 34), (some (32, false)), .inl (.mv (.t 2))⟩,
         ⟨(some 35), (some (32, false)), .inl (.bin .eql (.t 33) (.t 34))⟩,
         ⟨(some 36), none, .inl (.pick (.t 32) (.c (.bool true)) (.t 35))⟩])
      (.keep [0, 1, 2, 3, 4, 11, 12, 13, 36]))
      (.cond (.t 36)
        (.seq (.seq (.reg [⟨(some 37), none, .inl (.mv (.t 11))⟩,
            ⟨(some 38), none, .inl (.mv (.t 37))⟩,
            ⟨(some 39), (some (38, true)), .inl (.mv (.t 13))⟩,
            ⟨(some 40), (some (38, true)), .inl (.bin .eql (.t 39) (.c (.int .i64 0)))⟩,
            ⟨(some 41), (some (38, true)), .inl (.mv (.t 40))⟩,
            ⟨(some 42), (some (41, false)), .inl (.mv (.t 12))⟩,
            ⟨(some 43), (some (41, false)), .inl (.len (.t 42))⟩,
            ⟨(some 44), (some (41, false)), .inl (.bin .eql (.t 43) (.c (.int .i64 0)))⟩,
            ⟨(some 45), (some (38, true)), .inl (.pick (.t 41) (.c (.bool true)) (.t 44))⟩,
            ⟨(some 46), none, .inl (.pick (.t 38) (.t 45) (.c (.bool false)))⟩,
            ⟨(some 10), none, .inl (.mv (.t 46))⟩])
         (.keep [10]))
         (.ret))
        (.skip)))
      (.seq (.seq (.reg [⟨(some 48), none, .inl (.mv (.t 12))⟩,
          ⟨(some 49), none, .inl (.mv (.t 1))⟩,
          ⟨(some 50), none, .inl (.mv (.t 3))⟩,
          ⟨(some 51), none, .inr (.call 11 [(.t 48), (.t 49), (.t 50)])⟩,
          ⟨(some 47), none, .inl (.mv (.t 51))⟩,
          ⟨(some 52), none, .inl (.ext 0 (.t 47))⟩,
          ⟨(some 53), none, .inl (.ext 1 (.t 47))⟩,
          ⟨(some 14), none, .inl (.mv (.t 52))⟩,
          ⟨(some 15), none, .inl (.mv (.t 53))⟩])
       (.keep [0, 1, 2, 3, 4, 11, 12, 14, 15]))
       (.seq (.seq (.reg [⟨(some 55), none, .inl (.mv (.t 14))⟩,
           ⟨(some 56), none, .inl (.mv (.t 2))⟩,
           ⟨(some 57), none, .inl (.mv (.t 4))⟩,
           ⟨(some 58), none, .inr (.call 11 [(.t 55), (.t 56), (.t 57)])⟩,
           ⟨(some 54), none, .inl (.mv (.t 58))⟩,
           ⟨(some 59), none, .inl (.ext 0 (.t 54))⟩,
           ⟨(some 60), none, .inl (.ext 1 (.t 54))⟩,
           ⟨(some 14), none, .inl (.mv (.t 59))⟩,
           ⟨(some 16), none, .inl (.mv (.t 60))⟩])
        (.keep [0, 1, 2, 3, 4, 11, 12, 14, 15, 16]))
        (.seq (.seq (.reg [⟨(some 62), none, .inl (.mv (.t 12))⟩,
            ⟨(some 63), none, .inl (.mv (.t 2))⟩,
            ⟨(some 64), none, .inl (.mv (.t 4))⟩,
            ⟨(some 65), none, .inr (.call 11 [(.t 62), (.t 63), (.t 64)])⟩,
            ⟨(some 61), none, .inl (.mv (.t 65))⟩,
            ⟨(some 66), none, .inl (.ext 0 (.t 61))⟩,
            ⟨(some 67), none, .inl (.ext 1 (.t 61))⟩,
            ⟨(some 17), none, .inl (.mv (.t 66))⟩,
            ⟨(some 18), none, .inl (.mv (.t 67))⟩])
         (.keep [0, 1, 2, 3, 4, 11, 14, 15, 16, 17, 18]))
         (.seq (.seq (.reg [⟨(some 69), none, .inl (.mv (.t 17))⟩,
             ⟨(some 70), none, .inl (.mv (.t 1))⟩,
             ⟨(some 71), none, .inl (.mv (.t 3))⟩,
             ⟨(some 72), none, .inr (.call 11 [(.t 69), (.t 70), (.t 71)])⟩,
             ⟨(some 68), none, .inl (.mv (.t 72))⟩,
             ⟨(some 73), none, .inl (.ext 0 (.t 68))⟩,
             ⟨(some 74), none, .inl (.ext 1 (.t 68))⟩,
             ⟨(some 17), none, .inl (.mv (.t 73))⟩,
             ⟨(some 19), none, .inl (.mv (.t 74))⟩])
          (.keep [0, 1, 2, 3, 4, 11, 14, 15, 16, 17, 18, 19]))
          (.seq (.seq (.seq (.reg [⟨(some 75), none, .inl (.mv (.t 15))⟩,
              ⟨(some 76), none, .inl (.bin .neq (.t 75) (.c (.int .i64 0)))⟩,
              ⟨(some 77), none, .inl (.mv (.t 76))⟩,
              ⟨(some 78), (some (77, false)), .inl (.mv (.t 16))⟩,
              ⟨(some 79), (some (77, false)), .inl (.bin .neq (.t 78) (.c (.int .i64 0)))⟩,
              ⟨(some 80), none, .inl (.pick (.t 77) (.c (.bool true)) (.t 79))⟩])
           (.keep [0, 1, 2, 3, 4, 11, 14, 17, 18, 19, 80]))
           (.cond (.t 80)
             (.seq (.seq (.reg [⟨(some 81), none, .inl (.mv (.t 11))⟩,
                 ⟨(some 82), none, .inl (.mv (.t 81))⟩,
                 ⟨(some 83), (some (82, true)), .inl (.mv (.t 18))⟩,
                 ⟨(some 84), (some (82, true)), .inl (.bin .neq (.t 83) (.c (.int .i64 0)))⟩,
                 ⟨(some 85), (some (82, true)), .inl (.mv (.t 84))⟩,
                 ⟨(some 86), (some (85, false)), .inl (.mv (.t 19))⟩,
                 ⟨(some 87), (some (85, false)), .inl (.bin .neq (.t 86) (.c (.int .i64 0)))⟩,
                 ⟨(some 88), (some (82, true)), .inl (.pick (.t 85) (.c (.bool true)) (.t 87))⟩,
                 ⟨(some 89), none, .inl (.pick (.t 82) (.t 88) (.c (.bool false)))⟩,
                 ⟨(some 10), none, .inl (.mv (.t 89))⟩])
              (.keep [10]))
              (.ret))
             (.skip)))
           (.seq (.seq (.seq (.reg [⟨(some 20), none, .inl (.mv (.c (.int .i64 0)))⟩])
            (.keep [0, 1, 2, 3, 4, 11, 14, 17, 20]))
            (.block 0 (.loop [0, 1, 2, 3, 4, 11, 14, 17, 20] (.seq (.seq (.seq (.reg [⟨(some 90), none, .inl (.mv (.t 20))⟩,
                ⟨(some 91), none, .inl (.mv (.t 0))⟩,
                ⟨(some 92), none, .inl (.len (.t 91))⟩,
                ⟨(some 93), none, .inl (.bin .lss (.t 90) (.t 92))⟩])
             (.keep [0, 1, 2, 3, 4, 11, 14, 17, 20, 93]))
             (.cond (.t 93)
               (.skip)
               (.exit 0)))
             (.seq (.block 1 (.seq (.seq (.reg [⟨(some 97), none, .inl (.mv (.t 14))⟩,
                 ⟨(some 98), none, .inl (.mv (.t 20))⟩,
                 ⟨(some 99), none, .inr (.call 17 [(.t 97), (.t 98)])⟩,
                 ⟨(some 96), none, .inl (.mv (.t 99))⟩,
                 ⟨(some 100), none, .inl (.ext 0 (.t 96))⟩,
                 ⟨(some 101), none, .inl (.ext 1 (.t 96))⟩,
                 ⟨(some 21), none, .inl (.mv (.t 100))⟩,
                 ⟨(some 22), none, .inl (.mv (.t 101))⟩])
              (.keep [0, 1, 2, 3, 4, 11, 14, 17, 20, 21, 22]))
              (.seq (.seq (.reg [⟨(some 102), none, .inl (.mv (.t 0))⟩,
                  ⟨(some 103), none, .inl (.mv (.t 20))⟩,
                  ⟨(some 104), none, .inl (.iaddr 1 (.t 102) (.t 103))⟩,
                  ⟨(some 105), none, .inl (.load false 1 (.t 104))⟩,
                  ⟨(some 23), none, .inl (.mv (.t 105))⟩])
               (.keep [0, 1, 2, 3, 4, 11, 14, 17, 20, 21, 22, 23]))
               (.seq (.seq (.seq (.reg [⟨(some 106), none, .inl (.mv (.t 20))⟩,
                   ⟨(some 107), none, .inl (.mv (.t 1))⟩,
                   ⟨(some 108), none, .inl (.bin .eql (.t 106) (.t 107))⟩])
                (.keep [0, 1, 2, 3, 4, 11, 14, 17, 20, 21, 22, 23, 108]))
                (.cond (.t 108)
                  (.seq (.reg [⟨(some 109), none, .inl (.mv (.t 3))⟩,
                      ⟨(some 23), none, .inl (.mv (.t 109))⟩])
                   (.keep [0, 1, 2, 3, 4, 11, 14, 17, 20, 21, 22, 23]))
                  (.skip)))
                (.seq (.seq (.seq (.reg [⟨(some 110), none, .inl (.mv (.t 20))⟩,
                    ⟨(some 111), none, .inl (.mv (.t 2))⟩,
                    ⟨(some 112), none, .inl (.bin .eql (.t 110) (.t 111))⟩])
                 (.keep [0, 1, 2, 3, 4, 11, 14, 17, 20, 21, 22, 23, 112]))
                 (.cond (.t 112)
                   (.seq (.reg [⟨(some 113), none, .inl (.mv (.t 4))⟩,
                       ⟨(some 23), none, .inl (.mv (.t 113))⟩])
                    (.keep [0, 1, 2, 3, 4, 11, 14, 17, 20, 21, 22, 23]))
                   (.skip)))
                 (.seq (.seq (.reg [⟨(some 114), none, .inl (.mv (.t 22))⟩,
                     ⟨(some 115), none, .inl (.un .not (.t 114))⟩,
                     ⟨(some 116), none, .inl (.mv (.t 115))⟩,
                     ⟨(some 117), (some (116, false)), .inl (.mv (.t 21))⟩,
                     ⟨(some 118), (some (116, false)), .inl (.mv (.t 23))⟩,
                     ⟨(some 119), (some (116, false)), .inl (.bin .neq (.t 117) (.t 118))⟩,
                     ⟨(some 120), none, .inl (.pick (.t 116) (.c (.bool true)) (.t 119))⟩])
                  (.keep [0, 1, 2, 3, 4, 11, 14, 17, 20, 120]))
                  (.cond (.t 120)
                    (.seq (.seq (.reg [⟨(some 10), none, .inl (.mv (.c (.bool false)))⟩])
                     (.keep [10]))
                     (.ret))
                    (.skip))))))))
              (.seq (.reg [⟨(some 94), none, .inl (.mv (.t 20))⟩,
                  ⟨(some 95), none, .inl (.bin .add (.t 94) (.c (.int .i64 1)))⟩,
                  ⟨(some 20), none, .inl (.mv (.t 95))⟩])
               (.keep [0, 1, 2, 3, 4, 11, 14, 17, 20])))))))
            (.seq (.seq (.reg [⟨(some 121), none, .inl (.mv (.t 11))⟩,
                ⟨(some 122), none, .inl (.mv (.t 121))⟩,
                ⟨(some 123), (some (122, true)), .inl (.mv (.t 14))⟩,
                ⟨(some 124), (some (122, true)), .inl (.b2s (.t 123))⟩,
                ⟨(some 125), (some (122, true)), .inl (.mv (.t 17))⟩,
                ⟨(some 126), (some (122, true)), .inl (.b2s (.t 125))⟩,
                ⟨(some 127), (some (122, true)), .inl (.bins .eql (.t 124) (.t 126))⟩,
                ⟨(some 128), none, .inl (.pick (.t 122) (.t 127) (.c (.bool false)))⟩,
                ⟨(some 10), none, .inl (.mv (.t 128))⟩])
             (.keep [10]))
             (.ret)))))))))))
def fc_joistlaw01_WordsOrders : FC := ⟨129, cmd_joistlaw01_WordsOrders, [.t 10]⟩
theorem fc_joistlaw01_WordsOrders_ok : compF Try.prog 5 [[0, 1, 2, 3, 4], [0, 1, 2, 3, 4, 11], [0, 1, 2, 3, 4, 11, 12, 13], [0, 1, 2, 3, 4, 11, 12, 13, 36], [10], [0, 1, 2, 3, 4, 11, 12, 14, 15], [0, 1, 2, 3, 4, 11, 12, 14, 15, 16], [0, 1, 2, 3, 4, 11, 14, 15, 16, 17, 18], [0, 1, 2, 3, 4, 11, 14, 15, 16, 17, 18, 19], [0, 1, 2, 3, 4, 11, 14, 17, 18, 19, 80], [10], [0, 1, 2, 3, 4, 11, 14, 17, 20], [0, 1, 2, 3, 4, 11, 14, 17, 20], [0, 1, 2, 3, 4, 11, 14, 17, 20, 93], [0, 1, 2, 3, 4, 11, 14, 17, 20, 21, 22], [0, 1, 2, 3, 4, 11, 14, 17, 20, 21, 22, 23], [0, 1, 2, 3, 4, 11, 14, 17, 20, 21, 22, 23, 108], [0, 1, 2, 3, 4, 11, 14, 17, 20, 21, 22, 23], [0, 1, 2, 3, 4, 11, 14, 17, 20, 21, 22, 23, 112], [0, 1, 2, 3, 4, 11, 14, 17, 20, 21, 22, 23], [0, 1, 2, 3, 4, 11, 14, 17, 20, 120], [10], [0, 1, 2, 3, 4, 11, 14, 17, 20], [10]] = some fc_joistlaw01_WordsOrders := by kernel_rfl
/-- joist/joistlaw01.WordsZeros -/
abbrev F.joistlaw01_WordsZeros : Nat := 6
def cmd_joistlaw01_WordsZeros : Cmd :=
  .seq (.seq (.reg [⟨(some 4), none, .inl (.mv (.c (.bool false)))⟩])
   (.keep [0, 1]))
   (.seq (.seq (.reg [⟨(some 12), none, .inr (.call 9 [])⟩,
       ⟨(some 5), none, .inl (.mv (.t 12))⟩])
    (.keep [0, 1, 5]))
    (.seq (.seq (.reg [⟨(some 6), none, .inl (.mv (.c (.bool true)))⟩])
     (.keep [0, 1, 5, 6]))
     (.seq (.seq (.seq (.reg [⟨(some 7), none, .inl (.mv (.c (.int .i64 0)))⟩])
      (.keep [0, 1, 5, 6, 7]))
      (.block 0 (.loop [0, 1, 5, 6, 7] (.seq (.seq (.seq (.reg [⟨(some 13), none, .inl (.mv (.t 7))⟩,
          ⟨(some 14), none, .inl (.mv (.t 0))⟩,
          ⟨(some 15), none, .inl (.len (.t 14))⟩,
          ⟨(some 16), none, .inl (.bin .lss (.t 13) (.t 15))⟩])
       (.keep [0, 1, 5, 6, 7, 16]))
       (.cond (.t 16)
         (.skip)
         (.exit 0)))
       (.seq (.block 1 (.seq (.reg [⟨(some 19), none, .inl (.mv (.t 6))⟩,
           ⟨(some 20), none, .inl (.mv (.t 19))⟩,
           ⟨(some 21), (some (20, true)), .inl (.mv (.t 0))⟩,
           ⟨(some 22), (some (20, true)), .inl (.mv (.t 7))⟩,
           ⟨(some 23), (some (20, true)), .inl (.iaddr 1 (.t 21) (.t 22))⟩,
           ⟨(some 24), (some (20, true)), .inl (.load false 1 (.t 23))⟩,
           ⟨(some 25), (some (20, true)), .inl (.bin .eql (.t 24) (.c (.int .u8 0)))⟩,
           ⟨(some 26), none, .inl (.pick (.t 20) (.t 25) (.c (.bool false)))⟩,
           ⟨(some 6), none, .inl (.mv (.t 26))⟩])
        (.keep [0, 1, 5, 6, 7])))
        (.seq (.reg [⟨(some 17), none, .inl (.mv (.t 7))⟩,
            ⟨(some 18), none, .inl (.bin .add (.t 17) (.c (.int .i64 1)))⟩,
            ⟨(some 7), none, .inl (.mv (.t 18))⟩])
         (.keep [0, 1, 5, 6, 7])))))))
      (.seq (.seq (.reg [⟨(some 28), none, .inl (.mv (.t 1))⟩,
          ⟨(some 29), none, .inr (.call 12 [(.t 28)])⟩,
          ⟨(some 27), none, .inl (.mv (.t 29))⟩,
          ⟨(some 30), none, .inl (.ext 0 (.t 27))⟩,
          ⟨(some 31), none, .inl (.ext 1 (.t 27))⟩,
          ⟨(some 8), none, .inl (.mv (.t 30))⟩,
          ⟨(some 9), none, .inl (.mv (.t 31))⟩])
       (.keep [0, 1, 5, 6, 8, 9]))
       (.seq (.seq (.seq (.reg [⟨(some 32), none, .inl (.mv (.t 9))⟩,
           ⟨(some 33), none, .inl (.bin .neq (.t 32) (.c (.int .i64 0)))⟩])
        (.keep [0, 1, 5, 6, 8, 33]))
        (.cond (.t 33)
          (.seq (.seq (.reg [⟨(some 34), none, .inl (.mv (.t 5))⟩,
              ⟨(some 35), none, .inl (.mv (.t 34))⟩,
              ⟨(some 36), (some (35, true)), .inl (.mv (.t 0))⟩,
              ⟨(some 37), (some (35, true)), .inr (.call 18 [(.t 36)])⟩,
              ⟨(some 38), (some (35, true)), .inl (.mv (.t 6))⟩,
              ⟨(some 39), (some (35, true)), .inl (.binb .eql (.t 37) (.t 38))⟩,
              ⟨(some 40), none, .inl (.pick (.t 35) (.t 39) (.c (.bool false)))⟩,
              ⟨(some 4), none, .inl (.mv (.t 40))⟩])
           (.keep [4]))
           (.ret))
          (.skip)))
        (.seq (.seq (.reg [⟨(some 10), none, .inl (.mv (.c (.bool true)))⟩])
         (.keep [0, 1, 5, 6, 8, 10]))
         (.seq (.seq (.seq (.reg [⟨(some 11), none, .inl (.mv (.c (.int .i64 0)))⟩])
          (.keep [0, 1, 5, 6, 8, 10, 11]))
          (.block 2 (.loop [0, 1, 5, 6, 8, 10, 11] (.seq (.seq (.seq (.reg [⟨(some 41), none, .inl (.mv (.t 11))⟩,
              ⟨(some 42), none, .inl (.mv (.t 1))⟩,
              ⟨(some 43), none, .inl (.len (.t 42))⟩,
              ⟨(some 44), none, .inl (.bin .lss (.t 41) (.t 43))⟩])
           (.keep [0, 1, 5, 6, 8, 10, 11, 44]))
           (.cond (.t 44)
             (.skip)
             (.exit 2)))
           (.seq (.block 3 (.seq (.reg [⟨(some 47), none, .inl (.mv (.t 10))⟩,
               ⟨(some 48), none, .inl (.mv (.t 47))⟩,
               ⟨(some 49), (some (48, true)), .inl (.mv (.t 1))⟩,
               ⟨(some 50), (some (48, true)), .inl (.mv (.t 11))⟩,
               ⟨(some 51), (some (48, true)), .inl (.iaddr 1 (.t 49) (.t 50))⟩,
               ⟨(some 52), (some (48, true)), .inl (.load false 1 (.t 51))⟩,
               ⟨(some 53), (some (48, true)), .inl (.bin .eql (.t 52) (.c (.int .i64 0)))⟩,
               ⟨(some 54), none, .inl (.pick (.t 48) (.t 53) (.c (.bool false)))⟩,
               ⟨(some 10), none, .inl (.mv (.t 54))⟩])
            (.keep [0, 1, 5, 6, 8, 10, 11])))
            (.seq (.reg [⟨(some 45), none, .inl (.mv (.t 11))⟩,
                ⟨(some 46), none, .inl (.bin .add (.t 45) (.c (.int .i64 1)))⟩,
                ⟨(some 11), none, .inl (.mv (.t 46))⟩])
             (.keep [0, 1, 5, 6, 8, 10, 11])))))))
          (.seq (.seq (.reg [⟨(some 55), none, .inl (.mv (.t 5))⟩,
              ⟨(some 56), none, .inl (.mv (.t 55))⟩,
              ⟨(some 57), (some (56, true)), .inl (.mv (.t 0))⟩,
              ⟨(some 58), (some (56, true)), .inr (.call 18 [(.t 57)])⟩,
              ⟨(some 59), (some (56, true)), .inl (.mv (.t 6))⟩,
              ⟨(some 60), (some (56, true)), .inl (.binb .eql (.t 58) (.t 59))⟩,
              ⟨(some 61), none, .inl (.pick (.t 56) (.t 60) (.c (.bool false)))⟩,
              ⟨(some 62), none, .inl (.mv (.t 61))⟩,
              ⟨(some 63), (some (62, true)), .inl (.mv (.t 8))⟩,
              ⟨(some 64), (some (62, true)), .inr (.call 18 [(.t 63)])⟩,
              ⟨(some 65), (some (62, true)), .inl (.mv (.t 10))⟩,
              ⟨(some 66), (some (62, true)), .inl (.binb .eql (.t 64) (.t 65))⟩,
              ⟨(some 67), none, .inl (.pick (.t 62) (.t 66) (.c (.bool false)))⟩,
              ⟨(some 4), none, .inl (.mv (.t 67))⟩])
           (.keep [4]))
           (.ret)))))))))
def fc_joistlaw01_WordsZeros : FC := ⟨68, cmd_joistlaw01_WordsZeros, [.t 4]⟩
theorem fc_joistlaw01_WordsZeros_ok : compF Try.prog 6 [[0, 1], [0, 1, 5], [0, 1, 5, 6], [0, 1, 5, 6, 7], [0, 1, 5, 6, 7], [0, 1, 5, 6, 7, 16], [0, 1, 5, 6, 7], [0, 1, 5, 6, 7], [0, 1, 5, 6, 8, 9], [0, 1, 5, 6, 8, 33], [4], [0, 1, 5, 6, 8, 10], [0, 1, 5, 6, 8, 10, 11], [0, 1, 5, 6, 8, 10, 11], [0, 1, 5, 6, 8, 10, 11, 44], [0, 1, 5, 6, 8, 10, 11], [0, 1, 5, 6, 8, 10, 11], [4]] = some fc_joistlaw01_WordsZeros := by kernel_rfl
/-- joist/joistlaw01.WordsRows -/
abbrev F.joistlaw01_WordsRows : Nat := 7
def cmd_joistlaw01_WordsRows : Cmd :=
  .seq (.seq (.reg [⟨(some 4), none, .inl (.mv (.c (.bool false)))⟩])
   (.keep [0, 1]))
   (.seq (.seq (.reg [⟨(some 14), none, .inr (.call 9 [])⟩,
       ⟨(some 5), none, .inl (.mv (.t 14))⟩])
    (.keep [0, 1, 5]))
    (.seq (.seq (.reg [⟨(some 16), none, .inl (.mv (.t 0))⟩,
        ⟨(some 17), none, .inr (.call 12 [(.t 16)])⟩,
        ⟨(some 15), none, .inl (.mv (.t 17))⟩,
        ⟨(some 18), none, .inl (.ext 0 (.t 15))⟩,
        ⟨(some 19), none, .inl (.ext 1 (.t 15))⟩,
        ⟨(some 6), none, .inl (.mv (.t 18))⟩,
        ⟨(some 7), none, .inl (.mv (.t 19))⟩])
     (.keep [0, 1, 5, 6, 7]))
     (.seq (.seq (.seq (.reg [⟨(some 20), none, .inl (.mv (.t 7))⟩,
         ⟨(some 21), none, .inl (.bin .eql (.t 20) (.c (.int .i64 0)))⟩])
      (.keep [0, 1, 5, 6, 21]))
      (.cond (.t 21)
        (.seq (.seq (.reg [⟨(some 23), none, .inl (.mv (.t 6))⟩,
            ⟨(some 24), none, .inr (.call 19 [(.t 23)])⟩,
            ⟨(some 22), none, .inl (.mv (.t 24))⟩,
            ⟨(some 25), none, .inl (.ext 0 (.t 22))⟩,
            ⟨(some 26), none, .inl (.ext 1 (.t 22))⟩,
            ⟨(some 8), none, .inl (.mv (.t 25))⟩,
            ⟨(some 9), none, .inl (.mv (.t 26))⟩])
         (.keep [0, 1, 5, 6, 8, 9]))
         (.seq (.seq (.reg [⟨(some 27), none, .inl (.mv (.t 9))⟩,
             ⟨(some 28), none, .inl (.un .not (.t 27))⟩,
             ⟨(some 29), none, .inl (.mv (.t 28))⟩,
             ⟨(some 30), (some (29, false)), .inl (.mv (.t 0))⟩,
             ⟨(some 31), (some (29, false)), .inl (.mv (.t 8))⟩,
             ⟨(some 32), (some (29, false)), .inr (.call 20 [(.t 30), (.t 31)])⟩,
             ⟨(some 33), (some (29, false)), .inl (.un .not (.t 32))⟩,
             ⟨(some 34), none, .inl (.pick (.t 29) (.c (.bool true)) (.t 33))⟩,
             ⟨(some 35), none, .inl (.mv (.t 34))⟩,
             ⟨(some 36), (some (35, false)), .inl (.mv (.t 6))⟩,
             ⟨(some 37), (some (35, false)), .inl (.len (.t 36))⟩,
             ⟨(some 38), (some (35, false)), .inl (.mv (.t 0))⟩,
             ⟨(some 39), (some (35, false)), .inl (.len (.t 38))⟩,
             ⟨(some 40), (some (35, false)), .inl (.bin .mul (.c (.int .i64 8)) (.t 39))⟩,
             ⟨(some 41), (some (35, false)), .inl (.bin .neq (.t 37) (.t 40))⟩,
             ⟨(some 42), none, .inl (.pick (.t 35) (.c (.bool true)) (.t 41))⟩])
          (.keep [1, 5, 42]))
          (.cond (.t 42)
            (.seq (.seq (.reg [⟨(some 4), none, .inl (.mv (.c (.bool false)))⟩])
             (.keep [4]))
             (.ret))
            (.skip))))
        (.skip)))
      (.seq (.seq (.reg [⟨(some 44), none, .inl (.mv (.t 1))⟩,
          ⟨(some 45), none, .inr (.call 19 [(.t 44)])⟩,
          ⟨(some 43), none, .inl (.mv (.t 45))⟩,
          ⟨(some 46), none, .inl (.ext 0 (.t 43))⟩,
          ⟨(some 47), none, .inl (.ext 1 (.t 43))⟩,
          ⟨(some 10), none, .inl (.mv (.t 46))⟩,
          ⟨(some 11), none, .inl (.mv (.t 47))⟩])
       (.keep [1, 5, 10, 11]))
       (.seq (.seq (.seq (.reg [⟨(some 48), none, .inl (.mv (.t 11))⟩,
           ⟨(some 49), none, .inl (.un .not (.t 48))⟩])
        (.keep [1, 5, 10, 49]))
        (.cond (.t 49)
          (.seq (.seq (.reg [⟨(some 50), none, .inl (.mv (.t 5))⟩,
              ⟨(some 51), none, .inl (.mv (.t 50))⟩,
              ⟨(some 52), (some (51, true)), .inl (.mv (.t 10))⟩,
              ⟨(some 53), (some (51, true)), .inl (.len (.t 52))⟩,
              ⟨(some 54), (some (51, true)), .inl (.bin .eql (.t 53) (.c (.int .i64 0)))⟩,
              ⟨(some 55), none, .inl (.pick (.t 51) (.t 54) (.c (.bool false)))⟩,
              ⟨(some 4), none, .inl (.mv (.t 55))⟩])
           (.keep [4]))
           (.ret))
          (.skip)))
        (.seq (.seq (.reg [⟨(some 57), none, .inl (.mv (.t 10))⟩,
            ⟨(some 58), none, .inr (.call 12 [(.t 57)])⟩,
            ⟨(some 56), none, .inl (.mv (.t 58))⟩,
            ⟨(some 59), none, .inl (.ext 0 (.t 56))⟩,
            ⟨(some 60), none, .inl (.ext 1 (.t 56))⟩,
            ⟨(some 12), none, .inl (.mv (.t 59))⟩,
            ⟨(some 13), none, .inl (.mv (.t 60))⟩])
         (.keep [1, 5, 12, 13]))
         (.seq (.seq (.reg [⟨(some 61), none, .inl (.mv (.t 5))⟩,
             ⟨(some 62), none, .inl (.mv (.t 61))⟩,
             ⟨(some 63), (some (62, true)), .inl (.mv (.t 13))⟩,
             ⟨(some 64), (some (62, true)), .inl (.bin .eql (.t 63) (.c (.int .i64 0)))⟩,
             ⟨(some 65), none, .inl (.pick (.t 62) (.t 64) (.c (.bool false)))⟩,
             ⟨(some 66), none, .inl (.mv (.t 65))⟩,
             ⟨(some 67), (some (66, true)), .inl (.mv (.t 12))⟩,
             ⟨(some 68), (some (66, true)), .inl (.b2s (.t 67))⟩,
             ⟨(some 69), (some (66, true)), .inl (.mv (.t 1))⟩,
             ⟨(some 70), (some (66, true)), .inl (.b2s (.t 69))⟩,
             ⟨(some 71), (some (66, true)), .inl (.bins .eql (.t 68) (.t 70))⟩,
             ⟨(some 72), none, .inl (.pick (.t 66) (.t 71) (.c (.bool false)))⟩,
             ⟨(some 4), none, .inl (.mv (.t 72))⟩])
          (.keep [4]))
          (.ret))))))))
def fc_joistlaw01_WordsRows : FC := ⟨73, cmd_joistlaw01_WordsRows, [.t 4]⟩
theorem fc_joistlaw01_WordsRows_ok : compF Try.prog 7 [[0, 1], [0, 1, 5], [0, 1, 5, 6, 7], [0, 1, 5, 6, 21], [0, 1, 5, 6, 8, 9], [1, 5, 42], [4], [1, 5, 10, 11], [1, 5, 10, 49], [4], [1, 5, 12, 13], [4]] = some fc_joistlaw01_WordsRows := by kernel_rfl
/-- joist/joistlaw01.WordsGets -/
abbrev F.joistlaw01_WordsGets : Nat := 8
def cmd_joistlaw01_WordsGets : Cmd :=
  .seq (.seq (.reg [⟨(some 4), none, .inl (.mv (.c (.bool false)))⟩])
   (.keep [0, 1]))
   (.seq (.seq (.reg [⟨(some 17), none, .inr (.call 9 [])⟩,
       ⟨(some 5), none, .inl (.mv (.t 17))⟩])
    (.keep [0, 1, 5]))
    (.seq (.seq (.reg [⟨(some 18), none, .inl (.mv (.t 0))⟩,
        ⟨(some 19), none, .inr (.call 10 [(.t 18)])⟩,
        ⟨(some 6), none, .inl (.mv (.t 19))⟩])
     (.keep [0, 1, 5, 6]))
     (.seq (.seq (.reg [⟨(some 21), none, .inl (.mv (.t 6))⟩,
         ⟨(some 22), none, .inl (.mv (.t 1))⟩,
         ⟨(some 23), none, .inr (.call 17 [(.t 21), (.t 22)])⟩,
         ⟨(some 20), none, .inl (.mv (.t 23))⟩,
         ⟨(some 24), none, .inl (.ext 0 (.t 20))⟩,
         ⟨(some 25), none, .inl (.ext 1 (.t 20))⟩,
         ⟨(some 7), none, .inl (.mv (.t 24))⟩,
         ⟨(some 8), none, .inl (.mv (.t 25))⟩])
      (.keep [0, 1, 5, 6, 7, 8]))
      (.seq (.seq (.reg [⟨(some 27), none, .inl (.mv (.t 6))⟩,
          ⟨(some 28), none, .inr (.call 19 [(.t 27)])⟩,
          ⟨(some 26), none, .inl (.mv (.t 28))⟩,
          ⟨(some 29), none, .inl (.ext 0 (.t 26))⟩,
          ⟨(some 30), none, .inl (.ext 1 (.t 26))⟩,
          ⟨(some 9), none, .inl (.mv (.t 29))⟩,
          ⟨(some 10), none, .inl (.mv (.t 30))⟩])
       (.keep [0, 1, 5, 6, 7, 8, 9, 10]))
       (.seq (.seq (.reg [⟨(some 31), none, .inl (.mv (.t 6))⟩,
           ⟨(some 32), none, .inr (.call 18 [(.t 31)])⟩,
           ⟨(some 11), none, .inl (.mv (.t 32))⟩])
        (.keep [0, 1, 5, 6, 7, 8, 9, 10, 11]))
        (.seq (.seq (.reg [⟨(some 33), none, .inl (.mv (.t 6))⟩,
            ⟨(some 34), none, .inl (.mv (.t 0))⟩,
            ⟨(some 35), none, .inr (.call 13 [(.t 33), (.t 34)])⟩,
            ⟨(some 12), none, .inl (.mv (.t 35))⟩])
         (.keep [0, 1, 5, 7, 8, 9, 10, 11, 12]))
         (.seq (.seq (.reg [⟨(some 37), none, .inl (.mv (.t 0))⟩,
             ⟨(some 38), none, .inl (.mv (.t 1))⟩,
             ⟨(some 39), none, .inr (.call 21 [(.t 37), (.t 38)])⟩,
             ⟨(some 36), none, .inl (.mv (.t 39))⟩,
             ⟨(some 40), none, .inl (.ext 0 (.t 36))⟩,
             ⟨(some 41), none, .inl (.ext 1 (.t 36))⟩,
             ⟨(some 13), none, .inl (.mv (.t 40))⟩,
             ⟨(some 14), none, .inl (.mv (.t 41))⟩])
          (.keep [0, 5, 7, 8, 9, 10, 11, 12, 13, 14]))
          (.seq (.seq (.reg [⟨(some 43), none, .inl (.mv (.t 0))⟩,
              ⟨(some 44), none, .inr (.call 22 [(.t 43)])⟩,
              ⟨(some 42), none, .inl (.mv (.t 44))⟩,
              ⟨(some 45), none, .inl (.ext 0 (.t 42))⟩,
              ⟨(some 46), none, .inl (.ext 1 (.t 42))⟩,
              ⟨(some 15), none, .inl (.mv (.t 45))⟩,
              ⟨(some 16), none, .inl (.mv (.t 46))⟩])
           (.keep [0, 5, 7, 8, 9, 10, 11, 12, 13, 14, 15, 16]))
           (.seq (.seq (.reg [⟨(some 47), none, .inl (.mv (.t 5))⟩,
               ⟨(some 48), none, .inl (.mv (.t 47))⟩,
               ⟨(some 49), (some (48, true)), .inl (.mv (.t 12))⟩,
               ⟨(some 50), none, .inl (.pick (.t 48) (.t 49) (.c (.bool false)))⟩,
               ⟨(some 51), none, .inl (.mv (.t 50))⟩,
               ⟨(some 52), (some (51, true)), .inl (.mv (.t 7))⟩,
               ⟨(some 53), (some (51, true)), .inl (.mv (.t 13))⟩,
               ⟨(some 54), (some (51, true)), .inl (.bin .eql (.t 52) (.t 53))⟩,
               ⟨(some 55), none, .inl (.pick (.t 51) (.t 54) (.c (.bool false)))⟩,
               ⟨(some 56), none, .inl (.mv (.t 55))⟩,
               ⟨(some 57), (some (56, true)), .inl (.mv (.t 8))⟩,
               ⟨(some 58), (some (56, true)), .inl (.mv (.t 14))⟩,
               ⟨(some 59), (some (56, true)), .inl (.binb .eql (.t 57) (.t 58))⟩,
               ⟨(some 60), none, .inl (.pick (.t 56) (.t 59) (.c (.bool false)))⟩,
               ⟨(some 61), none, .inl (.mv (.t 60))⟩,
               ⟨(some 62), (some (61, true)), .inl (.mv (.t 9))⟩,
               ⟨(some 63), (some (61, true)), .inl (.mv (.t 15))⟩,
               ⟨(some 64), (some (61, true)), .inr (.call 20 [(.t 62), (.t 63)])⟩,
               ⟨(some 65), none, .inl (.pick (.t 61) (.t 64) (.c (.bool false)))⟩,
               ⟨(some 66), none, .inl (.mv (.t 65))⟩,
               ⟨(some 67), (some (66, true)), .inl (.mv (.t 10))⟩,
               ⟨(some 68), (some (66, true)), .inl (.mv (.t 16))⟩,
               ⟨(some 69), (some (66, true)), .inl (.binb .eql (.t 67) (.t 68))⟩,
               ⟨(some 70), none, .inl (.pick (.t 66) (.t 69) (.c (.bool false)))⟩,
               ⟨(some 71), none, .inl (.mv (.t 70))⟩,
               ⟨(some 72), (some (71, true)), .inl (.mv (.t 11))⟩,
               ⟨(some 73), (some (71, true)), .inl (.mv (.t 0))⟩,
               ⟨(some 74), (some (71, true)), .inr (.call 23 [(.t 73)])⟩,
               ⟨(some 75), (some (71, true)), .inl (.binb .eql (.t 72) (.t 74))⟩,
               ⟨(some 76), none, .inl (.pick (.t 71) (.t 75) (.c (.bool false)))⟩,
               ⟨(some 4), none, .inl (.mv (.t 76))⟩])
            (.keep [4]))
            (.ret))))))))))
def fc_joistlaw01_WordsGets : FC := ⟨77, cmd_joistlaw01_WordsGets, [.t 4]⟩
theorem fc_joistlaw01_WordsGets_ok : compF Try.prog 8 [[0, 1], [0, 1, 5], [0, 1, 5, 6], [0, 1, 5, 6, 7, 8], [0, 1, 5, 6, 7, 8, 9, 10], [0, 1, 5, 6, 7, 8, 9, 10, 11], [0, 1, 5, 7, 8, 9, 10, 11, 12], [0, 5, 7, 8, 9, 10, 11, 12, 13, 14], [0, 5, 7, 8, 9, 10, 11, 12, 13, 14, 15, 16], [4]] = some fc_joistlaw01_WordsGets := by kernel_rfl
/-- joist/joistlaw01.small -/
abbrev F.joistlaw01_small : Nat := 9
def cmd_joistlaw01_small : Cmd :=
  .seq (.seq (.reg [⟨(some 0), none, .inl (.mv (.c (.bool false)))⟩])
   (.keep []))
   (.seq (.seq (.reg [⟨(some 12), none, .inr (.bslice 1 [(.int .i64 0)] 2 [(0, (.c (.int .i64 1))), (1, (.c (.int .i64 258)))])⟩,
       ⟨(some 13), none, .inr (.call 12 [(.t 12)])⟩,
       ⟨(some 11), none, .inl (.mv (.t 13))⟩,
       ⟨(some 14), none, .inl (.ext 0 (.t 11))⟩,
       ⟨(some 15), none, .inl (.ext 1 (.t 11))⟩,
       ⟨(some 1), none, .inl (.mv (.t 14))⟩,
       ⟨(some 2), none, .inl (.mv (.t 15))⟩])
    (.keep [1, 2]))
    (.seq (.seq (.reg [⟨(some 17), none, .inl (.mv (.t 1))⟩,
        ⟨(some 18), none, .inr (.call 17 [(.t 17), (.c (.int .i64 1))])⟩,
        ⟨(some 16), none, .inl (.mv (.t 18))⟩,
        ⟨(some 19), none, .inl (.ext 0 (.t 16))⟩,
        ⟨(some 20), none, .inl (.ext 1 (.t 16))⟩,
        ⟨(some 3), none, .inl (.mv (.t 19))⟩,
        ⟨(some 4), none, .inl (.mv (.t 20))⟩])
     (.keep [1, 2, 3, 4]))
     (.seq (.seq (.reg [⟨(some 22), none, .inl (.mv (.t 1))⟩,
         ⟨(some 23), none, .inr (.call 17 [(.t 22), (.c (.int .i64 2))])⟩,
         ⟨(some 21), none, .inl (.mv (.t 23))⟩,
         ⟨(some 24), none, .inl (.ext 0 (.t 21))⟩,
         ⟨(some 25), none, .inl (.ext 1 (.t 21))⟩,
         ⟨(some 5), none, .inl (.mv (.t 24))⟩,
         ⟨(some 6), none, .inl (.mv (.t 25))⟩])
      (.keep [1, 2, 3, 4, 6]))
      (.seq (.seq (.reg [⟨(some 27), none, .inl (.mv (.t 1))⟩,
          ⟨(some 28), none, .inr (.call 11 [(.t 27), (.c (.int .i64 0)), (.c (.int .i64 (-1)))])⟩,
          ⟨(some 26), none, .inl (.mv (.t 28))⟩,
          ⟨(some 29), none, .inl (.ext 0 (.t 26))⟩,
          ⟨(some 30), none, .inl (.ext 1 (.t 26))⟩,
          ⟨(some 7), none, .inl (.mv (.t 29))⟩,
          ⟨(some 8), none, .inl (.mv (.t 30))⟩])
       (.keep [1, 2, 3, 4, 6, 8]))
       (.seq (.seq (.reg [⟨(some 32), none, .inl (.mv (.t 1))⟩,
           ⟨(some 33), none, .inr (.call 11 [(.t 32), (.c (.int .i64 2)), (.c (.int .i64 1))])⟩,
           ⟨(some 31), none, .inl (.mv (.t 33))⟩,
           ⟨(some 34), none, .inl (.ext 0 (.t 31))⟩,
           ⟨(some 35), none, .inl (.ext 1 (.t 31))⟩,
           ⟨(some 9), none, .inl (.mv (.t 34))⟩,
           ⟨(some 10), none, .inl (.mv (.t 35))⟩])
        (.keep [1, 2, 3, 4, 6, 8, 10]))
        (.seq (.seq (.reg [⟨(some 36), none, .inl (.mv (.t 2))⟩,
            ⟨(some 37), none, .inl (.bin .eql (.t 36) (.c (.int .i64 0)))⟩,
            ⟨(some 38), none, .inl (.mv (.t 37))⟩,
            ⟨(some 39), (some (38, true)), .inl (.mv (.t 1))⟩,
            ⟨(some 40), (some (38, true)), .inl (.b2s (.t 39))⟩,
            ⟨(some 41), (some (38, true)), .inl (.bins .eql (.t 40) (.c (.str [1, 0, 0, 0, 0, 0, 0, 0, 2, 1, 0, 0, 0, 0, 0, 0])))⟩,
            ⟨(some 42), none, .inl (.pick (.t 38) (.t 41) (.c (.bool false)))⟩,
            ⟨(some 43), none, .inl (.mv (.t 42))⟩,
            ⟨(some 44), (some (43, true)), .inl (.mv (.t 3))⟩,
            ⟨(some 45), (some (43, true)), .inl (.bin .eql (.t 44) (.c (.int .i64 258)))⟩,
            ⟨(some 46), none, .inl (.pick (.t 43) (.t 45) (.c (.bool false)))⟩,
            ⟨(some 47), none, .inl (.mv (.t 46))⟩,
            ⟨(some 48), (some (47, true)), .inl (.mv (.t 4))⟩,
            ⟨(some 49), none, .inl (.pick (.t 47) (.t 48) (.c (.bool false)))⟩,
            ⟨(some 50), none, .inl (.mv (.t 49))⟩,
            ⟨(some 51), (some (50, true)), .inl (.mv (.t 6))⟩,
            ⟨(some 52), (some (50, true)), .inl (.un .not (.t 51))⟩,
            ⟨(some 53), none, .inl (.pick (.t 50) (.t 52) (.c (.bool false)))⟩,
            ⟨(some 54), none, .inl (.mv (.t 53))⟩,
            ⟨(some 55), (some (54, true)), .inl (.mv (.t 8))⟩,
            ⟨(some 56), (some (54, true)), .inl (.bin .eql (.t 55) (.c (.int .i64 4)))⟩,
            ⟨(some 57), none, .inl (.pick (.t 54) (.t 56) (.c (.bool false)))⟩,
            ⟨(some 58), none, .inl (.mv (.t 57))⟩,
            ⟨(some 59), (some (58, true)), .inl (.mv (.t 10))⟩,
            ⟨(some 60), (some (58, true)), .inl (.bin .eql (.t 59) (.c (.int .i64 1)))⟩,
            ⟨(some 61), none, .inl (.pick (.t 58) (.t 60) (.c (.bool false)))⟩,
            ⟨(some 0), none, .inl (.mv (.t 61))⟩])
         (.keep [0]))
         (.ret)))))))
def fc_joistlaw01_small : FC := ⟨62, cmd_joistlaw01_small, [.t 0]⟩
theorem fc_joistlaw01_small_ok : compF Try.prog 9 [[], [1, 2], [1, 2, 3, 4], [1, 2, 3, 4, 6], [1, 2, 3, 4, 6, 8], [1, 2, 3, 4, 6, 8, 10], [0]] = some fc_joistlaw01_small := by kernel_rfl
/-- joist/joistlaw01.Lent -/
abbrev F.joistlaw01_Lent : Nat := 10
def cmd_joistlaw01_Lent : Cmd :=
  .seq (.seq (.reg [⟨(some 2), none, .inl (.mv (.c .nils))⟩])
   (.keep [0]))
   (.seq (.seq (.reg [⟨(some 4), none, .inl (.mv (.t 0))⟩,
       ⟨(some 5), none, .inl (.len (.t 4))⟩,
       ⟨(some 6), none, .inl (.mv (.t 0))⟩,
       ⟨(some 7), none, .inl (.len (.t 6))⟩,
       ⟨(some 8), none, .inl (.bin .add (.t 7) (.c (.int .i64 1)))⟩,
       ⟨(some 9), none, .inr (.mksl 1 1 [(.int .u8 0)] (.t 5) (.t 8))⟩,
       ⟨(some 3), none, .inl (.mv (.t 9))⟩])
    (.keep [0, 3]))
    (.seq (.seq (.reg [⟨(some 10), none, .inl (.mv (.t 3))⟩,
        ⟨(some 11), none, .inl (.mv (.t 0))⟩,
        ⟨(some 12), none, .inr (.copy 1 (.t 10) (.t 11))⟩])
     (.keep [0, 3]))
     (.seq (.seq (.reg [⟨(some 13), none, .inl (.mv (.t 3))⟩,
         ⟨(some 14), none, .inl (.mv (.t 0))⟩,
         ⟨(some 15), none, .inl (.len (.t 14))⟩,
         ⟨(some 16), none, .inl (.bin .add (.t 15) (.c (.int .i64 1)))⟩,
         ⟨(some 17), none, .inl (.slice 1 (.t 13) none (some (.t 16)) none)⟩,
         ⟨(some 18), none, .inl (.mv (.t 0))⟩,
         ⟨(some 19), none, .inl (.len (.t 18))⟩,
         ⟨(some 20), none, .inl (.iaddr 1 (.t 17) (.t 19))⟩,
         ⟨none, none, .inr (.store 1 (.t 20) (.c (.int .u8 77)))⟩])
      (.keep [3]))
      (.seq (.seq (.reg [⟨(some 21), none, .inl (.mv (.t 3))⟩,
          ⟨(some 2), none, .inl (.mv (.t 21))⟩])
       (.keep [2]))
       (.ret)))))
def fc_joistlaw01_Lent : FC := ⟨22, cmd_joistlaw01_Lent, [.t 2]⟩
theorem fc_joistlaw01_Lent_ok : compF Try.prog 10 [[0], [0, 3], [0, 3], [3], [2]] = some fc_joistlaw01_Lent := by kernel_rfl
/-- joist/words.Put -/
abbrev F.words_Put : Nat := 11
def cmd_words_Put : Cmd :=
  .seq (.seq (.reg [⟨(some 6), none, .inl (.mv (.c .nils))⟩,
      ⟨(some 7), none, .inl (.mv (.c (.int .i64 0)))⟩])
   (.keep [0, 1, 2]))
   (.seq (.block 0 (.seq (.seq (.reg [⟨(some 10), none, .inl (.mv (.t 0))⟩,
       ⟨(some 11), none, .inl (.mv (.t 1))⟩,
       ⟨(some 12), none, .inr (.call 24 [(.t 10), (.t 11)])⟩,
       ⟨(some 13), none, .inl (.eqnil false (.t 12))⟩,
       ⟨(some 9), none, .inl (.mv (.t 13))⟩])
    (.keep [0, 1, 2, 9]))
    (.cond (.t 9)
      (.seq (.seq (.reg [⟨(some 6), none, .inl (.mv (.c .nils))⟩,
          ⟨(some 7), none, .inl (.mv (.c (.int .i64 1)))⟩])
       (.keep [6, 7]))
       (.ret))
      (.seq (.seq (.reg [⟨(some 15), none, .inl (.mv (.t 2))⟩,
          ⟨(some 16), none, .inr (.call 25 [(.t 15)])⟩,
          ⟨(some 17), none, .inl (.un .not (.t 16))⟩,
          ⟨(some 14), none, .inl (.mv (.t 17))⟩])
       (.keep [0, 1, 2, 14]))
       (.cond (.t 14)
         (.seq (.seq (.reg [⟨(some 6), none, .inl (.mv (.c .nils))⟩,
             ⟨(some 7), none, .inl (.mv (.c (.int .i64 4)))⟩])
          (.keep [6, 7]))
          (.ret))
         (.skip))))))
    (.seq (.seq (.reg [⟨(some 18), none, .inl (.mv (.t 0))⟩,
        ⟨(some 19), none, .inr (.call 26 [(.t 18)])⟩,
        ⟨(some 8), none, .inl (.mv (.t 19))⟩])
     (.keep [1, 2, 8]))
     (.seq (.seq (.reg [⟨(some 20), none, .inl (.mv (.t 8))⟩,
         ⟨(some 21), none, .inl (.mv (.t 1))⟩,
         ⟨(some 22), none, .inr (.call 24 [(.t 20), (.t 21)])⟩,
         ⟨(some 23), none, .inl (.mv (.t 2))⟩,
         ⟨(some 24), none, .inr (.call 27 [(.t 22), (.t 23)])⟩])
      (.keep [8]))
      (.seq (.seq (.reg [⟨(some 25), none, .inl (.mv (.t 8))⟩,
          ⟨(some 6), none, .inl (.mv (.t 25))⟩,
          ⟨(some 7), none, .inl (.mv (.c (.int .i64 0)))⟩])
       (.keep [6, 7]))
       (.ret)))))
def fc_words_Put : FC := ⟨26, cmd_words_Put, [.t 6, .t 7]⟩
theorem fc_words_Put_ok : compF Try.prog 11 [[0, 1, 2], [0, 1, 2, 9], [6, 7], [0, 1, 2, 14], [6, 7], [1, 2, 8], [8], [6, 7]] = some fc_words_Put := by kernel_rfl
/-- joist/words.Of -/
abbrev F.words_Of : Nat := 12
def cmd_words_Of : Cmd :=
  .seq (.seq (.reg [⟨(some 2), none, .inl (.mv (.c .nils))⟩,
      ⟨(some 3), none, .inl (.mv (.c (.int .i64 0)))⟩])
   (.keep [0]))
   (.seq (.seq (.reg [⟨(some 7), none, .inl (.mv (.t 0))⟩,
       ⟨(some 8), none, .inl (.len (.t 7))⟩,
       ⟨(some 9), none, .inl (.bin .mul (.t 8) (.c (.int .i64 8)))⟩,
       ⟨(some 10), none, .inr (.mksl 1 1 [(.int .u8 0)] (.t 9) (.t 9))⟩,
       ⟨(some 4), none, .inl (.mv (.t 10))⟩])
    (.keep [0, 4]))
    (.seq (.seq (.seq (.reg [⟨(some 11), none, .inl (.mv (.t 0))⟩,
        ⟨(some 12), none, .inl (.len (.t 11))⟩,
        ⟨(some 13), none, .inl (.mv (.c (.int .i64 0)))⟩])
     (.keep [4, 11, 12, 13]))
     (.block 0 (.loop [4, 11, 12, 13] (.seq (.seq (.reg [⟨(some 14), none, .inl (.bin .lss (.t 13) (.t 12))⟩])
      (.keep [4, 11, 12, 13, 14]))
      (.seq (.cond (.t 14)
        (.skip)
        (.exit 0))
       (.seq (.block 1 (.seq (.seq (.reg [⟨(some 15), none, .inl (.mv (.t 13))⟩,
           ⟨(some 16), none, .inl (.iaddr 1 (.t 11) (.t 13))⟩,
           ⟨(some 17), none, .inl (.load false 1 (.t 16))⟩,
           ⟨(some 5), none, .inl (.mv (.t 15))⟩,
           ⟨(some 6), none, .inl (.mv (.t 17))⟩])
        (.keep [4, 5, 6, 11, 12, 13]))
        (.seq (.seq (.seq (.reg [⟨(some 18), none, .inl (.mv (.t 6))⟩,
            ⟨(some 19), none, .inr (.call 25 [(.t 18)])⟩,
            ⟨(some 20), none, .inl (.un .not (.t 19))⟩])
         (.keep [4, 5, 6, 11, 12, 13, 20]))
         (.cond (.t 20)
           (.seq (.seq (.reg [⟨(some 2), none, .inl (.mv (.c .nils))⟩,
               ⟨(some 3), none, .inl (.mv (.c (.int .i64 4)))⟩])
            (.keep [2, 3]))
            (.ret))
           (.skip)))
         (.seq (.reg [⟨(some 21), none, .inl (.mv (.t 4))⟩,
             ⟨(some 22), none, .inl (.mv (.t 5))⟩,
             ⟨(some 23), none, .inr (.call 24 [(.t 21), (.t 22)])⟩,
             ⟨(some 24), none, .inl (.mv (.t 6))⟩,
             ⟨(some 25), none, .inr (.call 27 [(.t 23), (.t 24)])⟩])
          (.keep [4, 11, 12, 13])))))
        (.seq (.reg [⟨(some 26), none, .inl (.bin .add (.t 13) (.c (.int .i64 1)))⟩,
            ⟨(some 13), none, .inl (.mv (.t 26))⟩])
         (.keep [4, 11, 12, 13]))))))))
     (.seq (.seq (.reg [⟨(some 27), none, .inl (.mv (.t 4))⟩,
         ⟨(some 2), none, .inl (.mv (.t 27))⟩,
         ⟨(some 3), none, .inl (.mv (.c (.int .i64 0)))⟩])
      (.keep [2, 3]))
      (.ret))))
def fc_words_Of : FC := ⟨28, cmd_words_Of, [.t 2, .t 3]⟩
theorem fc_words_Of_ok : compF Try.prog 12 [[0], [0, 4], [4, 11, 12, 13], [4, 11, 12, 13], [4, 11, 12, 13, 14], [4, 5, 6, 11, 12, 13], [4, 5, 6, 11, 12, 13, 20], [2, 3], [4, 11, 12, 13], [4, 11, 12, 13], [2, 3]] = some fc_words_Of := by kernel_rfl
/-- joist/joistlaw01.Kept -/
abbrev F.joistlaw01_Kept : Nat := 13
def cmd_joistlaw01_Kept : Cmd :=
  .seq (.seq (.reg [⟨(some 4), none, .inl (.mv (.c (.bool false)))⟩])
   (.keep [0, 1]))
   (.seq (.seq (.reg [⟨(some 5), none, .inl (.mv (.t 0))⟩,
       ⟨(some 6), none, .inl (.b2s (.t 5))⟩,
       ⟨(some 7), none, .inl (.mv (.t 1))⟩,
       ⟨(some 8), none, .inl (.b2s (.t 7))⟩,
       ⟨(some 9), none, .inl (.bins .eql (.t 6) (.t 8))⟩,
       ⟨(some 10), none, .inl (.mv (.t 9))⟩,
       ⟨(some 11), (some (10, true)), .inl (.mv (.t 0))⟩,
       ⟨(some 12), (some (10, true)), .inl (.mv (.t 1))⟩,
       ⟨(some 13), (some (10, true)), .inl (.len (.t 12))⟩,
       ⟨(some 14), (some (10, true)), .inl (.bin .add (.t 13) (.c (.int .i64 1)))⟩,
       ⟨(some 15), (some (10, true)), .inl (.slice 1 (.t 11) none (some (.t 14)) none)⟩,
       ⟨(some 16), (some (10, true)), .inl (.mv (.t 1))⟩,
       ⟨(some 17), (some (10, true)), .inl (.len (.t 16))⟩,
       ⟨(some 18), (some (10, true)), .inl (.iaddr 1 (.t 15) (.t 17))⟩,
       ⟨(some 19), (some (10, true)), .inl (.load false 1 (.t 18))⟩,
       ⟨(some 20), (some (10, true)), .inl (.bin .eql (.t 19) (.c (.int .u8 77)))⟩,
       ⟨(some 21), none, .inl (.pick (.t 10) (.t 20) (.c (.bool false)))⟩,
       ⟨(some 4), none, .inl (.mv (.t 21))⟩])
    (.keep [4]))
    (.ret))
def fc_joistlaw01_Kept : FC := ⟨22, cmd_joistlaw01_Kept, [.t 4]⟩
theorem fc_joistlaw01_Kept_ok : compF Try.prog 13 [[0, 1], [4]] = some fc_joistlaw01_Kept := by kernel_rfl
/-- joist/joistref01.Put -/
abbrev F.joistref01_Put : Nat := 14
def cmd_joistref01_Put : Cmd :=
  .seq (.seq (.reg [⟨(some 6), none, .inl (.mv (.c .nils))⟩,
      ⟨(some 7), none, .inl (.mv (.c (.int .i64 0)))⟩])
   (.keep [0, 1, 2]))
   (.seq (.seq (.seq (.reg [⟨(some 9), none, .inl (.mv (.t 1))⟩,
       ⟨(some 10), none, .inl (.bin .lss (.t 9) (.c (.int .i64 0)))⟩,
       ⟨(some 11), none, .inl (.mv (.t 10))⟩,
       ⟨(some 12), (some (11, false)), .inl (.mv (.t 1))⟩,
       ⟨(some 13), (some (11, false)), .inl (.mv (.t 0))⟩,
       ⟨(some 14), (some (11, false)), .inl (.len (.t 13))⟩,
       ⟨(some 15), (some (11, false)), .inl (.bin .quo (.t 14) (.c (.int .i64 8)))⟩,
       ⟨(some 16), (some (11, false)), .inl (.bin .geq (.t 12) (.t 15))⟩,
       ⟨(some 17), none, .inl (.pick (.t 11) (.c (.bool true)) (.t 16))⟩])
    (.keep [0, 1, 2, 17]))
    (.cond (.t 17)
      (.seq (.seq (.reg [⟨(some 6), none, .inl (.mv (.c .nils))⟩,
          ⟨(some 7), none, .inl (.mv (.c (.int .i64 1)))⟩])
       (.keep [6, 7]))
       (.ret))
      (.skip)))
    (.seq (.seq (.seq (.reg [⟨(some 18), none, .inl (.mv (.t 2))⟩,
        ⟨(some 19), none, .inl (.bin .lss (.t 18) (.c (.int .i64 0)))⟩,
        ⟨(some 20), none, .inl (.mv (.t 19))⟩,
        ⟨(some 21), (some (20, false)), .inl (.mv (.t 2))⟩,
        ⟨(some 22), (some (20, false)), .inl (.bin .gtr (.t 21) (.c (.int .i64 4611686018427387903)))⟩,
        ⟨(some 23), none, .inl (.pick (.t 20) (.c (.bool true)) (.t 22))⟩])
     (.keep [0, 1, 2, 23]))
     (.cond (.t 23)
       (.seq (.seq (.reg [⟨(some 6), none, .inl (.mv (.c .nils))⟩,
           ⟨(some 7), none, .inl (.mv (.c (.int .i64 4)))⟩])
        (.keep [6, 7]))
        (.ret))
       (.skip)))
     (.seq (.seq (.reg [⟨(some 24), none, .inr (.bslice 1 [(.int .u8 0)] 0 [])⟩,
         ⟨(some 25), none, .inl (.mv (.t 0))⟩,
         ⟨(some 26), none, .inl (.mv (.t 1))⟩,
         ⟨(some 27), none, .inl (.bin .mul (.c (.int .i64 8)) (.t 26))⟩,
         ⟨(some 28), none, .inl (.slice 1 (.t 25) none (some (.t 27)) none)⟩,
         ⟨(some 29), none, .inr (.append 1 1 (.t 24) (.t 28))⟩,
         ⟨(some 8), none, .inl (.mv (.t 29))⟩])
      (.keep [0, 1, 2, 8]))
      (.seq (.seq (.reg [⟨(some 30), none, .inl (.mv (.t 8))⟩,
          ⟨(some 31), none, .inl (.mv (.t 2))⟩,
          ⟨(some 32), none, .inr (.call 28 [(.t 31)])⟩,
          ⟨(some 33), none, .inr (.append 1 1 (.t 30) (.t 32))⟩,
          ⟨(some 8), none, .inl (.mv (.t 33))⟩])
       (.keep [0, 1, 8]))
       (.seq (.seq (.reg [⟨(some 34), none, .inl (.mv (.t 8))⟩,
           ⟨(some 35), none, .inl (.mv (.t 0))⟩,
           ⟨(some 36), none, .inl (.mv (.t 1))⟩,
           ⟨(some 37), none, .inl (.bin .mul (.c (.int .i64 8)) (.t 36))⟩,
           ⟨(some 38), none, .inl (.bin .add (.t 37) (.c (.int .i64 8)))⟩,
           ⟨(some 39), none, .inl (.slice 1 (.t 35) (some (.t 38)) none none)⟩,
           ⟨(some 40), none, .inr (.append 1 1 (.t 34) (.t 39))⟩,
           ⟨(some 6), none, .inl (.mv (.t 40))⟩,
           ⟨(some 7), none, .inl (.mv (.c (.int .i64 0)))⟩])
        (.keep [6, 7]))
        (.ret))))))
def fc_joistref01_Put : FC := ⟨41, cmd_joistref01_Put, [.t 6, .t 7]⟩
theorem fc_joistref01_Put_ok : compF Try.prog 14 [[0, 1, 2], [0, 1, 2, 17], [6, 7], [0, 1, 2, 23], [6, 7], [0, 1, 2, 8], [0, 1, 8], [6, 7]] = some fc_joistref01_Put := by kernel_rfl
/-- joist/joistref01.Of -/
abbrev F.joistref01_Of : Nat := 15
def cmd_joistref01_Of : Cmd :=
  .seq (.seq (.reg [⟨(some 2), none, .inl (.mv (.c .nils))⟩,
      ⟨(some 3), none, .inl (.mv (.c (.int .i64 0)))⟩])
   (.keep [0]))
   (.seq (.seq (.reg [⟨(some 4), none, .inl (.mv (.c .nils))⟩])
    (.keep [0, 4]))
    (.seq (.seq (.seq (.reg [⟨(some 5), none, .inl (.mv (.c (.int .i64 0)))⟩])
     (.keep [0, 4, 5]))
     (.block 0 (.loop [0, 4, 5] (.seq (.seq (.seq (.reg [⟨(some 6), none, .inl (.mv (.t 5))⟩,
         ⟨(some 7), none, .inl (.mv (.t 0))⟩,
         ⟨(some 8), none, .inl (.len (.t 7))⟩,
         ⟨(some 9), none, .inl (.bin .lss (.t 6) (.t 8))⟩])
      (.keep [0, 4, 5, 9]))
      (.cond (.t 9)
        (.skip)
        (.exit 0)))
      (.seq (.block 1 (.seq (.seq (.seq (.reg [⟨(some 12), none, .inl (.mv (.t 0))⟩,
          ⟨(some 13), none, .inl (.mv (.t 5))⟩,
          ⟨(some 14), none, .inl (.iaddr 1 (.t 12) (.t 13))⟩,
          ⟨(some 15), none, .inl (.load false 1 (.t 14))⟩,
          ⟨(some 16), none, .inl (.bin .lss (.t 15) (.c (.int .i64 0)))⟩,
          ⟨(some 17), none, .inl (.mv (.t 16))⟩,
          ⟨(some 18), (some (17, false)), .inl (.mv (.t 0))⟩,
          ⟨(some 19), (some (17, false)), .inl (.mv (.t 5))⟩,
          ⟨(some 20), (some (17, false)), .inl (.iaddr 1 (.t 18) (.t 19))⟩,
          ⟨(some 21), (some (17, false)), .inl (.load false 1 (.t 20))⟩,
          ⟨(some 22), (some (17, false)), .inl (.bin .gtr (.t 21) (.c (.int .i64 4611686018427387903)))⟩,
          ⟨(some 23), none, .inl (.pick (.t 17) (.c (.bool true)) (.t 22))⟩])
       (.keep [0, 4, 5, 23]))
       (.cond (.t 23)
         (.seq (.seq (.reg [⟨(some 2), none, .inl (.mv (.c .nils))⟩,
             ⟨(some 3), none, .inl (.mv (.c (.int .i64 4)))⟩])
          (.keep [2, 3]))
          (.ret))
         (.skip)))
       (.seq (.reg [⟨(some 24), none, .inl (.mv (.t 4))⟩,
           ⟨(some 25), none, .inl (.mv (.t 0))⟩,
           ⟨(some 26), none, .inl (.mv (.t 5))⟩,
           ⟨(some 27), none, .inl (.iaddr 1 (.t 25) (.t 26))⟩,
           ⟨(some 28), none, .inl (.load false 1 (.t 27))⟩,
           ⟨(some 29), none, .inr (.call 28 [(.t 28)])⟩,
           ⟨(some 30), none, .inr (.append 1 1 (.t 24) (.t 29))⟩,
           ⟨(some 4), none, .inl (.mv (.t 30))⟩])
        (.keep [0, 4, 5]))))
       (.seq (.reg [⟨(some 10), none, .inl (.mv (.t 5))⟩,
           ⟨(some 11), none, .inl (.bin .add (.t 10) (.c (.int .i64 1)))⟩,
           ⟨(some 5), none, .inl (.mv (.t 11))⟩])
        (.keep [0, 4, 5])))))))
     (.seq (.seq (.reg [⟨(some 31), none, .inl (.mv (.t 4))⟩,
         ⟨(some 2), none, .inl (.mv (.t 31))⟩,
         ⟨(some 3), none, .inl (.mv (.c (.int .i64 0)))⟩])
      (.keep [2, 3]))
      (.ret))))
def fc_joistref01_Of : FC := ⟨32, cmd_joistref01_Of, [.t 2, .t 3]⟩
theorem fc_joistref01_Of_ok : compF Try.prog 15 [[0], [0, 4], [0, 4, 5], [0, 4, 5], [0, 4, 5, 9], [0, 4, 5, 23], [2, 3], [0, 4, 5], [0, 4, 5], [2, 3]] = some fc_joistref01_Of := by kernel_rfl
/-- joist/joistlaw01.Owned -/
abbrev F.joistlaw01_Owned : Nat := 16
def cmd_joistlaw01_Owned : Cmd :=
  .seq (.seq (.reg [⟨(some 2), none, .inl (.mv (.c (.bool false)))⟩])
   (.keep [0]))
   (.seq (.seq (.seq (.reg [⟨(some 3), none, .inl (.mv (.c (.int .i64 0)))⟩])
    (.keep [0, 3]))
    (.block 0 (.loop [0, 3] (.seq (.seq (.seq (.reg [⟨(some 9), none, .inl (.mv (.t 3))⟩,
        ⟨(some 10), none, .inl (.mv (.t 0))⟩,
        ⟨(some 11), none, .inl (.len (.t 10))⟩,
        ⟨(some 12), none, .inl (.bin .lss (.t 9) (.t 11))⟩])
     (.keep [0, 3, 12]))
     (.cond (.t 12)
       (.skip)
       (.exit 0)))
     (.seq (.block 1 (.seq (.seq (.ord [⟨0, ⟨(some 15), none, .inl (.mv (.t 0))⟩, [], false⟩,
         ⟨1, ⟨(some 16), none, .inl (.mv (.t 3))⟩, [], false⟩,
         ⟨2, ⟨(some 17), none, .inl (.iaddr 1 (.t 15) (.t 16))⟩, [], false⟩,
         ⟨3, ⟨(some 18), none, .inl (.load false 1 (.t 17))⟩, [], false⟩,
         ⟨4, ⟨(some 19), none, .inl (.mv (.t 0))⟩, [], false⟩,
         ⟨5, ⟨(some 20), none, .inl (.mv (.t 3))⟩, [], false⟩,
         ⟨6, ⟨(some 21), none, .inl (.iaddr 1 (.t 19) (.t 20))⟩, [], false⟩,
         ⟨7, ⟨(some 22), none, .inl (.load false 1 (.t 21))⟩, [], false⟩,
         ⟨8, ⟨(some 23), none, .inl (.cap (.t 22))⟩, [], false⟩,
         ⟨9, ⟨(some 24), none, .inl (.slice 1 (.t 18) none (some (.t 23)) none)⟩, [], false⟩,
         ⟨10, ⟨(some 4), none, .inl (.mv (.t 24))⟩, [], false⟩])
      (.keep [0, 3, 4]))
      (.seq (.seq (.reg [⟨(some 5), none, .inl (.mv (.c (.int .i64 0)))⟩])
       (.keep [0, 3, 4, 5]))
       (.block 2 (.loop [0, 3, 4, 5] (.seq (.seq (.seq (.reg [⟨(some 25), none, .inl (.mv (.t 5))⟩,
           ⟨(some 26), none, .inl (.mv (.t 4))⟩,
           ⟨(some 27), none, .inl (.len (.t 26))⟩,
           ⟨(some 28), none, .inl (.bin .lss (.t 25) (.t 27))⟩])
        (.keep [0, 3, 4, 5, 28]))
        (.cond (.t 28)
          (.skip)
          (.exit 2)))
        (.seq (.block 3 (.seq (.reg [⟨(some 31), none, .inl (.mv (.t 4))⟩,
            ⟨(some 32), none, .inl (.mv (.t 5))⟩,
            ⟨(some 33), none, .inl (.mv (.t 3))⟩,
            ⟨(some 34), none, .inl (.bin .add (.t 33) (.c (.int .i64 1)))⟩,
            ⟨(some 35), none, .inl (.conv .u8 (.t 34))⟩,
            ⟨(some 36), none, .inl (.iaddr 1 (.t 31) (.t 32))⟩,
            ⟨none, none, .inr (.store 1 (.t 36) (.t 35))⟩])
         (.keep [0, 3, 4, 5])))
         (.seq (.reg [⟨(some 29), none, .inl (.mv (.t 5))⟩,
             ⟨(some 30), none, .inl (.bin .add (.t 29) (.c (.int .i64 1)))⟩,
             ⟨(some 5), none, .inl (.mv (.t 30))⟩])
          (.keep [0, 3, 4, 5])))))))))
      (.seq (.reg [⟨(some 13), none, .inl (.mv (.t 3))⟩,
          ⟨(some 14), none, .inl (.bin .add (.t 13) (.c (.int .i64 1)))⟩,
          ⟨(some 3), none, .inl (.mv (.t 14))⟩])
       (.keep [0, 3])))))))
    (.seq (.seq (.seq (.reg [⟨(some 6), none, .inl (.mv (.c (.int .i64 0)))⟩])
     (.keep [0, 6]))
     (.block 4 (.loop [0, 6] (.seq (.seq (.seq (.reg [⟨(some 37), none, .inl (.mv (.t 6))⟩,
         ⟨(some 38), none, .inl (.mv (.t 0))⟩,
         ⟨(some 39), none, .inl (.len (.t 38))⟩,
         ⟨(some 40), none, .inl (.bin .lss (.t 37) (.t 39))⟩])
      (.keep [0, 6, 40]))
      (.cond (.t 40)
        (.skip)
        (.exit 4)))
      (.seq (.block 5 (.seq (.seq (.ord [⟨0, ⟨(some 43), none, .inl (.mv (.t 0))⟩, [], false⟩,
          ⟨1, ⟨(some 44), none, .inl (.mv (.t 6))⟩, [], false⟩,
          ⟨2, ⟨(some 45), none, .inl (.iaddr 1 (.t 43) (.t 44))⟩, [], false⟩,
          ⟨3, ⟨(some 46), none, .inl (.load false 1 (.t 45))⟩, [], false⟩,
          ⟨4, ⟨(some 47), none, .inl (.mv (.t 0))⟩, [], false⟩,
          ⟨5, ⟨(some 48), none, .inl (.mv (.t 6))⟩, [], false⟩,
          ⟨6, ⟨(some 49), none, .inl (.iaddr 1 (.t 47) (.t 48))⟩, [], false⟩,
          ⟨7, ⟨(some 50), none, .inl (.load false 1 (.t 49))⟩, [], false⟩,
          ⟨8, ⟨(some 51), none, .inl (.cap (.t 50))⟩, [], false⟩,
          ⟨9, ⟨(some 52), none, .inl (.slice 1 (.t 46) none (some (.t 51)) none)⟩, [], false⟩,
          ⟨10, ⟨(some 7), none, .inl (.mv (.t 52))⟩, [], false⟩])
       (.keep [0, 6, 7]))
       (.seq (.seq (.reg [⟨(some 8), none, .inl (.mv (.c (.int .i64 0)))⟩])
        (.keep [0, 6, 7, 8]))
        (.block 6 (.loop [0, 6, 7, 8] (.seq (.seq (.seq (.reg [⟨(some 53), none, .inl (.mv (.t 8))⟩,
            ⟨(some 54), none, .inl (.mv (.t 7))⟩,
            ⟨(some 55), none, .inl (.len (.t 54))⟩,
            ⟨(some 56), none, .inl (.bin .lss (.t 53) (.t 55))⟩])
         (.keep [0, 6, 7, 8, 56]))
         (.cond (.t 56)
           (.skip)
           (.exit 6)))
         (.seq (.block 7 (.seq (.seq (.reg [⟨(some 59), none, .inl (.mv (.t 7))⟩,
             ⟨(some 60), none, .inl (.mv (.t 8))⟩,
             ⟨(some 61), none, .inl (.iaddr 1 (.t 59) (.t 60))⟩,
             ⟨(some 62), none, .inl (.load false 1 (.t 61))⟩,
             ⟨(some 63), none, .inl (.mv (.t 6))⟩,
             ⟨(some 64), none, .inl (.bin .add (.t 63) (.c (.int .i64 1)))⟩,
             ⟨(some 65), none, .inl (.conv .u8 (.t 64))⟩,
             ⟨(some 66), none, .inl (.bin .neq (.t 62) (.t 65))⟩])
          (.keep [0, 6, 7, 8, 66]))
          (.cond (.t 66)
            (.seq (.seq (.reg [⟨(some 2), none, .inl (.mv (.c (.bool false)))⟩])
             (.keep [2]))
             (.ret))
            (.skip))))
          (.seq (.reg [⟨(some 57), none, .inl (.mv (.t 8))⟩,
              ⟨(some 58), none, .inl (.bin .add (.t 57) (.c (.int .i64 1)))⟩,
              ⟨(some 8), none, .inl (.mv (.t 58))⟩])
           (.keep [0, 6, 7, 8])))))))))
       (.seq (.reg [⟨(some 41), none, .inl (.mv (.t 6))⟩,
           ⟨(some 42), none, .inl (.bin .add (.t 41) (.c (.int .i64 1)))⟩,
           ⟨(some 6), none, .inl (.mv (.t 42))⟩])
        (.keep [0, 6])))))))
     (.seq (.seq (.reg [⟨(some 2), none, .inl (.mv (.c (.bool true)))⟩])
      (.keep [2]))
      (.ret))))
def fc_joistlaw01_Owned : FC := ⟨67, cmd_joistlaw01_Owned, [.t 2]⟩
theorem fc_joistlaw01_Owned_ok : compF Try.prog 16 [[0], [0, 3], [0, 3], [0, 3, 12], [0, 3, 4], [0, 1, 2, 3, 4, 5, 6, 7, 8, 9, 10], [0, 3, 4, 5], [0, 3, 4, 5], [0, 3, 4, 5, 28], [0, 3, 4, 5], [0, 3, 4, 5], [0, 3], [0, 6], [0, 6], [0, 6, 40], [0, 6, 7], [0, 1, 2, 3, 4, 5, 6, 7, 8, 9, 10], [0, 6, 7, 8], [0, 6, 7, 8], [0, 6, 7, 8, 56], [0, 6, 7, 8, 66], [2], [0, 6, 7, 8], [0, 6], [2]] = some fc_joistlaw01_Owned := by kernel_rfl
/-- joist/words.Get -/
abbrev F.words_Get : Nat := 17
def cmd_words_Get : Cmd :=
  .seq (.seq (.reg [⟨(some 4), none, .inl (.mv (.c (.int .i64 0)))⟩,
      ⟨(some 5), none, .inl (.mv (.c (.bool false)))⟩])
   (.keep [0, 1]))
   (.seq (.seq (.reg [⟨(some 7), none, .inl (.mv (.t 0))⟩,
       ⟨(some 8), none, .inl (.mv (.t 1))⟩,
       ⟨(some 9), none, .inr (.call 24 [(.t 7), (.t 8)])⟩,
       ⟨(some 6), none, .inl (.mv (.t 9))⟩])
    (.keep [6]))
    (.seq (.seq (.seq (.reg [⟨(some 10), none, .inl (.mv (.t 6))⟩,
        ⟨(some 11), none, .inl (.eqnil false (.t 10))⟩])
     (.keep [6, 11]))
     (.cond (.t 11)
       (.seq (.seq (.reg [⟨(some 4), none, .inl (.mv (.c (.int .i64 0)))⟩,
           ⟨(some 5), none, .inl (.mv (.c (.bool false)))⟩])
        (.keep [4, 5]))
        (.ret))
       (.skip)))
     (.seq (.seq (.reg [⟨(some 12), none, .inl (.mv (.t 6))⟩,
         ⟨(some 13), none, .inr (.call 29 [(.t 12)])⟩,
         ⟨(some 14), none, .inl (.ext 0 (.t 13))⟩,
         ⟨(some 15), none, .inl (.ext 1 (.t 13))⟩,
         ⟨(some 4), none, .inl (.mv (.t 14))⟩,
         ⟨(some 5), none, .inl (.mv (.t 15))⟩])
      (.keep [4, 5]))
      (.ret))))
def fc_words_Get : FC := ⟨16, cmd_words_Get, [.t 4, .t 5]⟩
theorem fc_words_Get_ok : compF Try.prog 17 [[0, 1], [6], [6, 11], [4, 5], [4, 5]] = some fc_words_Get := by kernel_rfl
/-- joist/words.Zero -/
abbrev F.words_Zero : Nat := 18
def cmd_words_Zero : Cmd :=
  .seq (.seq (.reg [⟨(some 2), none, .inl (.mv (.c (.bool false)))⟩])
   (.keep [0]))
   (.seq (.seq (.seq (.reg [⟨(some 5), none, .inl (.mv (.t 0))⟩,
       ⟨(some 6), none, .inl (.len (.t 5))⟩,
       ⟨(some 7), none, .inl (.mv (.c (.int .i64 0)))⟩])
    (.keep [5, 6, 7]))
    (.block 0 (.loop [5, 6, 7] (.seq (.seq (.reg [⟨(some 8), none, .inl (.bin .lss (.t 7) (.t 6))⟩])
     (.keep [5, 6, 7, 8]))
     (.seq (.cond (.t 8)
       (.skip)
       (.exit 0))
      (.seq (.block 1 (.seq (.seq (.reg [⟨(some 9), none, .inl (.iaddr 1 (.t 5) (.t 7))⟩,
          ⟨(some 10), none, .inl (.load false 1 (.t 9))⟩,
          ⟨(some 4), none, .inl (.mv (.t 10))⟩])
       (.keep [4, 5, 6, 7]))
       (.seq (.seq (.reg [⟨(some 11), none, .inl (.mv (.t 4))⟩,
           ⟨(some 12), none, .inl (.bin .neq (.t 11) (.c (.int .u8 0)))⟩])
        (.keep [5, 6, 7, 12]))
        (.cond (.t 12)
          (.seq (.seq (.reg [⟨(some 2), none, .inl (.mv (.c (.bool false)))⟩])
           (.keep [2]))
           (.ret))
          (.skip)))))
       (.seq (.reg [⟨(some 13), none, .inl (.bin .add (.t 7) (.c (.int .i64 1)))⟩,
           ⟨(some 7), none, .inl (.mv (.t 13))⟩])
        (.keep [5, 6, 7]))))))))
    (.seq (.seq (.reg [⟨(some 2), none, .inl (.mv (.c (.bool true)))⟩])
     (.keep [2]))
     (.ret)))
def fc_words_Zero : FC := ⟨14, cmd_words_Zero, [.t 2]⟩
theorem fc_words_Zero_ok : compF Try.prog 18 [[0], [5, 6, 7], [5, 6, 7], [5, 6, 7, 8], [4, 5, 6, 7], [5, 6, 7, 12], [2], [5, 6, 7], [2]] = some fc_words_Zero := by kernel_rfl
/-- joist/words.All -/
abbrev F.words_All : Nat := 19
def cmd_words_All : Cmd :=
  .seq (.seq (.reg [⟨(some 2), none, .inl (.mv (.c .nils))⟩,
      ⟨(some 3), none, .inl (.mv (.c (.bool false)))⟩])
   (.keep [0]))
   (.seq (.seq (.seq (.reg [⟨(some 7), none, .inl (.mv (.t 0))⟩,
       ⟨(some 8), none, .inl (.len (.t 7))⟩,
       ⟨(some 9), none, .inl (.bin .rem (.t 8) (.c (.int .i64 8)))⟩,
       ⟨(some 10), none, .inl (.bin .neq (.t 9) (.c (.int .i64 0)))⟩])
    (.keep [0, 10]))
    (.cond (.t 10)
      (.seq (.seq (.reg [⟨(some 2), none, .inl (.mv (.c .nils))⟩,
          ⟨(some 3), none, .inl (.mv (.c (.bool false)))⟩])
       (.keep [2, 3]))
       (.ret))
      (.skip)))
    (.seq (.seq (.reg [⟨(some 4), none, .inl (.mv (.c .nils))⟩])
     (.keep [0, 4]))
     (.seq (.block 0 (.loop [0, 4] (.seq (.seq (.seq (.reg [⟨(some 11), none, .inl (.mv (.t 0))⟩,
         ⟨(some 12), none, .inl (.len (.t 11))⟩,
         ⟨(some 13), none, .inl (.bin .gtr (.t 12) (.c (.int .i64 0)))⟩])
      (.keep [0, 4, 13]))
      (.cond (.t 13)
        (.skip)
        (.exit 0)))
      (.block 1 (.seq (.seq (.reg [⟨(some 15), none, .inl (.mv (.t 0))⟩,
          ⟨(some 16), none, .inl (.slice 1 (.t 15) none (some (.c (.int .i64 8))) none)⟩,
          ⟨(some 17), none, .inr (.call 29 [(.t 16)])⟩,
          ⟨(some 14), none, .inl (.mv (.t 17))⟩,
          ⟨(some 18), none, .inl (.ext 0 (.t 14))⟩,
          ⟨(some 19), none, .inl (.ext 1 (.t 14))⟩,
          ⟨(some 5), none, .inl (.mv (.t 18))⟩,
          ⟨(some 6), none, .inl (.mv (.t 19))⟩])
       (.keep [0, 4, 5, 6]))
       (.seq (.seq (.seq (.reg [⟨(some 20), none, .inl (.mv (.t 6))⟩,
           ⟨(some 21), none, .inl (.un .not (.t 20))⟩])
        (.keep [0, 4, 5, 21]))
        (.cond (.t 21)
          (.seq (.seq (.reg [⟨(some 2), none, .inl (.mv (.c .nils))⟩,
              ⟨(some 3), none, .inl (.mv (.c (.bool false)))⟩])
           (.keep [2, 3]))
           (.ret))
          (.skip)))
        (.seq (.ord [⟨0, ⟨(some 22), none, .inl (.mv (.t 4))⟩, [], true⟩,
            ⟨1, ⟨(some 23), none, .inl (.mv (.t 5))⟩, [], false⟩,
            ⟨4, ⟨(some 26), none, .inl (.mv (.t 0))⟩, [], true⟩,
            ⟨5, ⟨(some 27), none, .inl (.slice 1 (.t 26) (some (.c (.int .i64 8))) none none)⟩, [], true⟩,
            ⟨2, ⟨(some 24), none, .inr (.bslice 1 [(.int .i64 0)] 1 [(0, (.t 23))])⟩, [0, 4, 5], false⟩,
            ⟨3, ⟨(some 25), none, .inr (.append 1 8 (.t 22) (.t 24))⟩, [4, 5], false⟩,
            ⟨6, ⟨(some 4), none, .inl (.mv (.t 25))⟩, [], false⟩,
            ⟨7, ⟨(some 0), none, .inl (.mv (.t 27))⟩, [], false⟩])
         (.keep [0, 4]))))))))
      (.seq (.seq (.reg [⟨(some 28), none, .inl (.mv (.t 4))⟩,
          ⟨(some 2), none, .inl (.mv (.t 28))⟩,
          ⟨(some 3), none, .inl (.mv (.c (.bool true)))⟩])
       (.keep [2, 3]))
       (.ret)))))
def fc_words_All : FC := ⟨29, cmd_words_All, [.t 2, .t 3]⟩
theorem fc_words_All_ok : compF Try.prog 19 [[0], [0, 10], [2, 3], [0, 4], [0, 4], [0, 4, 13], [0, 4, 5, 6], [0, 4, 5, 21], [2, 3], [0, 4], [0, 1, 4, 5, 2, 3, 6, 7], [2, 3]] = some fc_words_All := by kernel_rfl
/-- joist/joistref01.Same -/
abbrev F.joistref01_Same : Nat := 20
def cmd_joistref01_Same : Cmd :=
  .seq (.seq (.reg [⟨(some 4), none, .inl (.mv (.c (.bool false)))⟩])
   (.keep [0, 1]))
   (.seq (.seq (.seq (.reg [⟨(some 6), none, .inl (.mv (.t 0))⟩,
       ⟨(some 7), none, .inl (.len (.t 6))⟩,
       ⟨(some 8), none, .inl (.mv (.t 1))⟩,
       ⟨(some 9), none, .inl (.len (.t 8))⟩,
       ⟨(some 10), none, .inl (.bin .neq (.t 7) (.t 9))⟩])
    (.keep [0, 1, 10]))
    (.cond (.t 10)
      (.seq (.seq (.reg [⟨(some 4), none, .inl (.mv (.c (.bool false)))⟩])
       (.keep [4]))
       (.ret))
      (.skip)))
    (.seq (.seq (.seq (.reg [⟨(some 5), none, .inl (.mv (.c (.int .i64 0)))⟩])
     (.keep [0, 1, 5]))
     (.block 0 (.loop [0, 1, 5] (.seq (.seq (.seq (.reg [⟨(some 11), none, .inl (.mv (.t 5))⟩,
         ⟨(some 12), none, .inl (.mv (.t 0))⟩,
         ⟨(some 13), none, .inl (.len (.t 12))⟩,
         ⟨(some 14), none, .inl (.bin .lss (.t 11) (.t 13))⟩])
      (.keep [0, 1, 5, 14]))
      (.cond (.t 14)
        (.skip)
        (.exit 0)))
      (.seq (.block 1 (.seq (.seq (.ord [⟨0, ⟨(some 17), none, .inl (.mv (.t 0))⟩, [], false⟩,
          ⟨1, ⟨(some 18), none, .inl (.mv (.t 5))⟩, [], false⟩,
          ⟨2, ⟨(some 19), none, .inl (.iaddr 1 (.t 17) (.t 18))⟩, [], false⟩,
          ⟨3, ⟨(some 20), none, .inl (.load false 1 (.t 19))⟩, [], false⟩,
          ⟨4, ⟨(some 21), none, .inl (.mv (.t 1))⟩, [], false⟩,
          ⟨5, ⟨(some 22), none, .inl (.mv (.t 5))⟩, [], false⟩,
          ⟨6, ⟨(some 23), none, .inl (.iaddr 1 (.t 21) (.t 22))⟩, [], false⟩,
          ⟨7, ⟨(some 24), none, .inl (.load false 1 (.t 23))⟩, [], false⟩,
          ⟨8, ⟨(some 25), none, .inl (.bin .neq (.t 20) (.t 24))⟩, [], false⟩])
       (.keep [0, 1, 5, 25]))
       (.cond (.t 25)
         (.seq (.seq (.reg [⟨(some 4), none, .inl (.mv (.c (.bool false)))⟩])
          (.keep [4]))
          (.ret))
         (.skip))))
       (.seq (.reg [⟨(some 15), none, .inl (.mv (.t 5))⟩,
           ⟨(some 16), none, .inl (.bin .add (.t 15) (.c (.int .i64 1)))⟩,
           ⟨(some 5), none, .inl (.mv (.t 16))⟩])
        (.keep [0, 1, 5])))))))
     (.seq (.seq (.reg [⟨(some 4), none, .inl (.mv (.c (.bool true)))⟩])
      (.keep [4]))
      (.ret))))
def fc_joistref01_Same : FC := ⟨26, cmd_joistref01_Same, [.t 4]⟩
theorem fc_joistref01_Same_ok : compF Try.prog 20 [[0, 1], [0, 1, 10], [4], [0, 1, 5], [0, 1, 5], [0, 1, 5, 14], [0, 1, 5, 25], [0, 1, 2, 3, 4, 5, 6, 7, 8], [4], [0, 1, 5], [4]] = some fc_joistref01_Same := by kernel_rfl
/-- joist/joistref01.Get -/
abbrev F.joistref01_Get : Nat := 21
def cmd_joistref01_Get : Cmd :=
  .seq (.seq (.reg [⟨(some 4), none, .inl (.mv (.c (.int .i64 0)))⟩,
      ⟨(some 5), none, .inl (.mv (.c (.bool false)))⟩])
   (.keep [0, 1]))
   (.seq (.seq (.seq (.reg [⟨(some 9), none, .inl (.mv (.t 1))⟩,
       ⟨(some 10), none, .inl (.bin .lss (.t 9) (.c (.int .i64 0)))⟩,
       ⟨(some 11), none, .inl (.mv (.t 10))⟩,
       ⟨(some 12), (some (11, false)), .inl (.mv (.t 1))⟩,
       ⟨(some 13), (some (11, false)), .inl (.mv (.t 0))⟩,
       ⟨(some 14), (some (11, false)), .inl (.len (.t 13))⟩,
       ⟨(some 15), (some (11, false)), .inl (.bin .quo (.t 14) (.c (.int .i64 8)))⟩,
       ⟨(some 16), (some (11, false)), .inl (.bin .geq (.t 12) (.t 15))⟩,
       ⟨(some 17), none, .inl (.pick (.t 11) (.c (.bool true)) (.t 16))⟩])
    (.keep [0, 1, 17]))
    (.cond (.t 17)
      (.seq (.seq (.reg [⟨(some 4), none, .inl (.mv (.c (.int .i64 0)))⟩,
          ⟨(some 5), none, .inl (.mv (.c (.bool false)))⟩])
       (.keep [4, 5]))
       (.ret))
      (.skip)))
    (.seq (.seq (.reg [⟨(some 18), none, .inl (.mv (.t 0))⟩,
        ⟨(some 19), none, .inl (.mv (.t 1))⟩,
        ⟨(some 20), none, .inl (.bin .mul (.c (.int .i64 8)) (.t 19))⟩,
        ⟨(some 21), none, .inl (.mv (.t 1))⟩,
        ⟨(some 22), none, .inl (.bin .mul (.c (.int .i64 8)) (.t 21))⟩,
        ⟨(some 23), none, .inl (.bin .add (.t 22) (.c (.int .i64 8)))⟩,
        ⟨(some 24), none, .inl (.slice 1 (.t 18) (some (.t 20)) (some (.t 23)) none)⟩,
        ⟨(some 6), none, .inl (.mv (.t 24))⟩])
     (.keep [6]))
     (.seq (.seq (.seq (.reg [⟨(some 25), none, .inl (.mv (.t 6))⟩,
         ⟨(some 26), none, .inl (.iaddr 1 (.t 25) (.c (.int .i64 7)))⟩,
         ⟨(some 27), none, .inl (.load false 1 (.t 26))⟩,
         ⟨(some 28), none, .inl (.bin .geq (.t 27) (.c (.int .u8 64)))⟩])
      (.keep [6, 28]))
      (.cond (.t 28)
        (.seq (.seq (.reg [⟨(some 4), none, .inl (.mv (.c (.int .i64 0)))⟩,
            ⟨(some 5), none, .inl (.mv (.c (.bool false)))⟩])
         (.keep [4, 5]))
         (.ret))
        (.skip)))
      (.seq (.seq (.reg [⟨(some 7), none, .inl (.mv (.c (.int .i64 0)))⟩])
       (.keep [6, 7]))
       (.seq (.seq (.seq (.reg [⟨(some 8), none, .inl (.mv (.c (.int .i64 7)))⟩])
        (.keep [6, 7, 8]))
        (.block 0 (.loop [6, 7, 8] (.seq (.seq (.seq (.reg [⟨(some 29), none, .inl (.mv (.t 8))⟩,
            ⟨(some 30), none, .inl (.bin .geq (.t 29) (.c (.int .i64 0)))⟩])
         (.keep [6, 7, 8, 30]))
         (.cond (.t 30)
           (.skip)
           (.exit 0)))
         (.seq (.block 1 (.seq (.reg [⟨(some 33), none, .inl (.mv (.t 7))⟩,
             ⟨(some 34), none, .inl (.bin .mul (.t 33) (.c (.int .i64 256)))⟩,
             ⟨(some 35), none, .inl (.mv (.t 6))⟩,
             ⟨(some 36), none, .inl (.mv (.t 8))⟩,
             ⟨(some 37), none, .inl (.iaddr 1 (.t 35) (.t 36))⟩,
             ⟨(some 38), none, .inl (.load false 1 (.t 37))⟩,
             ⟨(some 39), none, .inl (.conv .i64 (.t 38))⟩,
             ⟨(some 40), none, .inl (.bin .add (.t 34) (.t 39))⟩,
             ⟨(some 7), none, .inl (.mv (.t 40))⟩])
          (.keep [6, 7, 8])))
          (.seq (.reg [⟨(some 31), none, .inl (.mv (.t 8))⟩,
              ⟨(some 32), none, .inl (.bin .sub (.t 31) (.c (.int .i64 1)))⟩,
              ⟨(some 8), none, .inl (.mv (.t 32))⟩])
           (.keep [6, 7, 8])))))))
        (.seq (.seq (.reg [⟨(some 41), none, .inl (.mv (.t 7))⟩,
            ⟨(some 4), none, .inl (.mv (.t 41))⟩,
            ⟨(some 5), none, .inl (.mv (.c (.bool true)))⟩])
         (.keep [4, 5]))
         (.ret)))))))
def fc_joistref01_Get : FC := ⟨42, cmd_joistref01_Get, [.t 4, .t 5]⟩
theorem fc_joistref01_Get_ok : compF Try.prog 21 [[0, 1], [0, 1, 17], [4, 5], [6], [6, 28], [4, 5], [6, 7], [6, 7, 8], [6, 7, 8], [6, 7, 8, 30], [6, 7, 8], [6, 7, 8], [4, 5]] = some fc_joistref01_Get := by kernel_rfl
/-- joist/joistref01.All -/
abbrev F.joistref01_All : Nat := 22
def cmd_joistref01_All : Cmd :=
  .seq (.seq (.reg [⟨(some 2), none, .inl (.mv (.c .nils))⟩,
      ⟨(some 3), none, .inl (.mv (.c (.bool false)))⟩])
   (.keep [0]))
   (.seq (.seq (.seq (.reg [⟨(some 8), none, .inl (.mv (.t 0))⟩,
       ⟨(some 9), none, .inl (.len (.t 8))⟩,
       ⟨(some 10), none, .inl (.bin .rem (.t 9) (.c (.int .i64 8)))⟩,
       ⟨(some 11), none, .inl (.bin .neq (.t 10) (.c (.int .i64 0)))⟩])
    (.keep [0, 11]))
    (.cond (.t 11)
      (.seq (.seq (.reg [⟨(some 2), none, .inl (.mv (.c .nils))⟩,
          ⟨(some 3), none, .inl (.mv (.c (.bool false)))⟩])
       (.keep [2, 3]))
       (.ret))
      (.skip)))
    (.seq (.seq (.reg [⟨(some 4), none, .inl (.mv (.c .nils))⟩])
     (.keep [0, 4]))
     (.seq (.seq (.seq (.reg [⟨(some 5), none, .inl (.mv (.c (.int .i64 0)))⟩])
      (.keep [0, 4, 5]))
      (.block 0 (.loop [0, 4, 5] (.seq (.seq (.seq (.reg [⟨(some 12), none, .inl (.mv (.t 5))⟩,
          ⟨(some 13), none, .inl (.mv (.t 0))⟩,
          ⟨(some 14), none, .inl (.len (.t 13))⟩,
          ⟨(some 15), none, .inl (.bin .quo (.t 14) (.c (.int .i64 8)))⟩,
          ⟨(some 16), none, .inl (.bin .lss (.t 12) (.t 15))⟩])
       (.keep [0, 4, 5, 16]))
       (.cond (.t 16)
         (.skip)
         (.exit 0)))
       (.seq (.block 1 (.seq (.seq (.reg [⟨(some 20), none, .inl (.mv (.t 0))⟩,
           ⟨(some 21), none, .inl (.mv (.t 5))⟩,
           ⟨(some 22), none, .inr (.call 21 [(.t 20), (.t 21)])⟩,
           ⟨(some 19), none, .inl (.mv (.t 22))⟩,
           ⟨(some 23), none, .inl (.ext 0 (.t 19))⟩,
           ⟨(some 24), none, .inl (.ext 1 (.t 19))⟩,
           ⟨(some 6), none, .inl (.mv (.t 23))⟩,
           ⟨(some 7), none, .inl (.mv (.t 24))⟩])
        (.keep [0, 4, 5, 6, 7]))
        (.seq (.seq (.seq (.reg [⟨(some 25), none, .inl (.mv (.t 7))⟩,
            ⟨(some 26), none, .inl (.un .not (.t 25))⟩])
         (.keep [0, 4, 5, 6, 26]))
         (.cond (.t 26)
           (.seq (.seq (.reg [⟨(some 2), none, .inl (.mv (.c .nils))⟩,
               ⟨(some 3), none, .inl (.mv (.c (.bool false)))⟩])
            (.keep [2, 3]))
            (.ret))
           (.skip)))
         (.seq (.reg [⟨(some 27), none, .inl (.mv (.t 4))⟩,
             ⟨(some 28), none, .inl (.mv (.t 6))⟩,
             ⟨(some 29), none, .inr (.bslice 1 [(.int .i64 0)] 1 [(0, (.t 28))])⟩,
             ⟨(some 30), none, .inr (.append 1 8 (.t 27) (.t 29))⟩,
             ⟨(some 4), none, .inl (.mv (.t 30))⟩])
          (.keep [0, 4, 5])))))
        (.seq (.reg [⟨(some 17), none, .inl (.mv (.t 5))⟩,
            ⟨(some 18), none, .inl (.bin .add (.t 17) (.c (.int .i64 1)))⟩,
            ⟨(some 5), none, .inl (.mv (.t 18))⟩])
         (.keep [0, 4, 5])))))))
      (.seq (.seq (.reg [⟨(some 31), none, .inl (.mv (.t 4))⟩,
          ⟨(some 2), none, .inl (.mv (.t 31))⟩,
          ⟨(some 3), none, .inl (.mv (.c (.bool true)))⟩])
       (.keep [2, 3]))
       (.ret)))))
def fc_joistref01_All : FC := ⟨32, cmd_joistref01_All, [.t 2, .t 3]⟩
theorem fc_joistref01_All_ok : compF Try.prog 22 [[0], [0, 11], [2, 3], [0, 4], [0, 4, 5], [0, 4, 5], [0, 4, 5, 16], [0, 4, 5, 6, 7], [0, 4, 5, 6, 26], [2, 3], [0, 4, 5], [0, 4, 5], [2, 3]] = some fc_joistref01_All := by kernel_rfl
/-- joist/joistref01.Zero -/
abbrev F.joistref01_Zero : Nat := 23
def cmd_joistref01_Zero : Cmd :=
  .seq (.seq (.reg [⟨(some 2), none, .inl (.mv (.c (.bool false)))⟩])
   (.keep [0]))
   (.seq (.seq (.seq (.reg [⟨(some 3), none, .inl (.mv (.c (.int .i64 0)))⟩])
    (.keep [0, 3]))
    (.block 0 (.loop [0, 3] (.seq (.seq (.seq (.reg [⟨(some 4), none, .inl (.mv (.t 3))⟩,
        ⟨(some 5), none, .inl (.mv (.t 0))⟩,
        ⟨(some 6), none, .inl (.len (.t 5))⟩,
        ⟨(some 7), none, .inl (.bin .lss (.t 4) (.t 6))⟩])
     (.keep [0, 3, 7]))
     (.cond (.t 7)
       (.skip)
       (.exit 0)))
     (.seq (.block 1 (.seq (.seq (.reg [⟨(some 10), none, .inl (.mv (.t 0))⟩,
         ⟨(some 11), none, .inl (.mv (.t 3))⟩,
         ⟨(some 12), none, .inl (.iaddr 1 (.t 10) (.t 11))⟩,
         ⟨(some 13), none, .inl (.load false 1 (.t 12))⟩,
         ⟨(some 14), none, .inl (.bin .neq (.t 13) (.c (.int .u8 0)))⟩])
      (.keep [0, 3, 14]))
      (.cond (.t 14)
        (.seq (.seq (.reg [⟨(some 2), none, .inl (.mv (.c (.bool false)))⟩])
         (.keep [2]))
         (.ret))
        (.skip))))
      (.seq (.reg [⟨(some 8), none, .inl (.mv (.t 3))⟩,
          ⟨(some 9), none, .inl (.bin .add (.t 8) (.c (.int .i64 1)))⟩,
          ⟨(some 3), none, .inl (.mv (.t 9))⟩])
       (.keep [0, 3])))))))
    (.seq (.seq (.reg [⟨(some 2), none, .inl (.mv (.c (.bool true)))⟩])
     (.keep [2]))
     (.ret)))
def fc_joistref01_Zero : FC := ⟨15, cmd_joistref01_Zero, [.t 2]⟩
theorem fc_joistref01_Zero_ok : compF Try.prog 23 [[0], [0, 3], [0, 3], [0, 3, 7], [0, 3, 14], [2], [0, 3], [2]] = some fc_joistref01_Zero := by kernel_rfl
/-- joist/words.place -/
abbrev F.words_place : Nat := 24
def cmd_words_place : Cmd :=
  .seq (.seq (.reg [⟨(some 4), none, .inl (.mv (.c .nils))⟩])
   (.keep [0, 1]))
   (.seq (.seq (.seq (.reg [⟨(some 6), none, .inl (.mv (.t 1))⟩,
       ⟨(some 7), none, .inl (.bin .lss (.t 6) (.c (.int .i64 0)))⟩,
       ⟨(some 8), none, .inl (.mv (.t 7))⟩,
       ⟨(some 9), (some (8, false)), .inl (.mv (.t 1))⟩,
       ⟨(some 10), (some (8, false)), .inl (.mv (.t 0))⟩,
       ⟨(some 11), (some (8, false)), .inl (.len (.t 10))⟩,
       ⟨(some 12), (some (8, false)), .inl (.bin .quo (.t 11) (.c (.int .i64 8)))⟩,
       ⟨(some 13), (some (8, false)), .inl (.bin .geq (.t 9) (.t 12))⟩,
       ⟨(some 14), none, .inl (.pick (.t 8) (.c (.bool true)) (.t 13))⟩])
    (.keep [0, 1, 14]))
    (.cond (.t 14)
      (.seq (.seq (.reg [⟨(some 4), none, .inl (.mv (.c .nils))⟩])
       (.keep [4]))
       (.ret))
      (.skip)))
    (.seq (.seq (.reg [⟨(some 15), none, .inl (.mv (.t 1))⟩,
        ⟨(some 16), none, .inl (.bin .mul (.t 15) (.c (.int .i64 8)))⟩,
        ⟨(some 5), none, .inl (.mv (.t 16))⟩])
     (.keep [0, 5]))
     (.seq (.seq (.reg [⟨(some 17), none, .inl (.mv (.t 0))⟩,
         ⟨(some 18), none, .inl (.mv (.t 5))⟩,
         ⟨(some 19), none, .inl (.mv (.t 5))⟩,
         ⟨(some 20), none, .inl (.bin .add (.t 19) (.c (.int .i64 8)))⟩,
         ⟨(some 21), none, .inl (.slice 1 (.t 17) (some (.t 18)) (some (.t 20)) none)⟩,
         ⟨(some 4), none, .inl (.mv (.t 21))⟩])
      (.keep [4]))
      (.ret))))
def fc_words_place : FC := ⟨22, cmd_words_place, [.t 4]⟩
theorem fc_words_place_ok : compF Try.prog 24 [[0, 1], [0, 1, 14], [4], [0, 5], [4]] = some fc_words_place := by kernel_rfl
/-- joist/words.may -/
abbrev F.words_may : Nat := 25
def cmd_words_may : Cmd :=
  .seq (.seq (.reg [⟨(some 2), none, .inl (.mv (.c (.bool false)))⟩])
   (.keep [0]))
   (.seq (.seq (.reg [⟨(some 3), none, .inl (.mv (.t 0))⟩,
       ⟨(some 4), none, .inl (.bin .geq (.t 3) (.c (.int .i64 0)))⟩,
       ⟨(some 5), none, .inl (.mv (.t 4))⟩,
       ⟨(some 6), (some (5, true)), .inl (.mv (.t 0))⟩,
       ⟨(some 7), (some (5, true)), .inl (.bin .leq (.t 6) (.c (.int .i64 4611686018427387903)))⟩,
       ⟨(some 8), none, .inl (.pick (.t 5) (.t 7) (.c (.bool false)))⟩,
       ⟨(some 2), none, .inl (.mv (.t 8))⟩])
    (.keep [2]))
    (.ret))
def fc_words_may : FC := ⟨9, cmd_words_may, [.t 2]⟩
theorem fc_words_may_ok : compF Try.prog 25 [[0], [2]] = some fc_words_may := by kernel_rfl
/-- bytes.Clone -/
abbrev F.bytes_Clone : Nat := 26
def cmd_bytes_Clone : Cmd :=
  .seq (.seq (.reg [⟨(some 2), none, .inl (.mv (.c .nils))⟩])
   (.keep [0]))
   (.seq (.seq (.seq (.reg [⟨(some 3), none, .inl (.mv (.t 0))⟩,
       ⟨(some 4), none, .inl (.eqnil false (.t 3))⟩])
    (.keep [0, 4]))
    (.cond (.t 4)
      (.seq (.seq (.reg [⟨(some 2), none, .inl (.mv (.c .nils))⟩])
       (.keep [2]))
       (.ret))
      (.skip)))
    (.seq (.seq (.reg [⟨(some 5), none, .inr (.bslice 1 [(.int .u8 0)] 0 [])⟩,
        ⟨(some 6), none, .inl (.mv (.t 0))⟩,
        ⟨(some 7), none, .inr (.append 1 1 (.t 5) (.t 6))⟩,
        ⟨(some 2), none, .inl (.mv (.t 7))⟩])
     (.keep [2]))
     (.ret)))
def fc_bytes_Clone : FC := ⟨8, cmd_bytes_Clone, [.t 2]⟩
theorem fc_bytes_Clone_ok : compF Try.prog 26 [[0], [0, 4], [2], [2]] = some fc_bytes_Clone := by kernel_rfl
/-- joist/words.write -/
abbrev F.words_write : Nat := 27
def cmd_words_write : Cmd :=
  .seq (.seq (.reg [⟨(some 5), none, .inl (.mv (.c (.int .i64 0)))⟩])
   (.keep [0, 1, 5]))
   (.block 0 (.loop [0, 1, 5] (.seq (.seq (.reg [⟨(some 6), none, .inl (.bin .lss (.t 5) (.c (.int .i64 8)))⟩])
    (.keep [0, 1, 5, 6]))
    (.seq (.cond (.t 6)
      (.skip)
      (.exit 0))
     (.seq (.block 1 (.seq (.seq (.reg [⟨(some 7), none, .inl (.mv (.t 5))⟩,
         ⟨(some 4), none, .inl (.mv (.t 7))⟩])
      (.keep [0, 1, 4, 5]))
      (.seq (.reg [⟨(some 8), none, .inl (.mv (.t 0))⟩,
          ⟨(some 9), none, .inl (.mv (.t 4))⟩,
          ⟨(some 10), none, .inl (.mv (.t 1))⟩,
          ⟨(some 11), none, .inl (.mv (.t 4))⟩,
          ⟨(some 12), none, .inl (.bin .mul (.c (.int .i64 8)) (.t 11))⟩,
          ⟨(some 13), none, .inl (.bin .shr (.t 10) (.t 12))⟩,
          ⟨(some 14), none, .inl (.conv .u8 (.t 13))⟩,
          ⟨(some 15), none, .inl (.iaddr 1 (.t 8) (.t 9))⟩,
          ⟨none, none, .inr (.store 1 (.t 15) (.t 14))⟩])
       (.keep [0, 1, 5]))))
      (.seq (.reg [⟨(some 16), none, .inl (.bin .add (.t 5) (.c (.int .i64 1)))⟩,
          ⟨(some 5), none, .inl (.mv (.t 16))⟩])
       (.keep [0, 1, 5])))))))
def fc_words_write : FC := ⟨17, cmd_words_write, []⟩
theorem fc_words_write_ok : compF Try.prog 27 [[0, 1, 5], [0, 1, 5], [0, 1, 5, 6], [0, 1, 4, 5], [0, 1, 5], [0, 1, 5]] = some fc_words_write := by kernel_rfl
/-- joist/joistref01.Bytes -/
abbrev F.joistref01_Bytes : Nat := 28
def cmd_joistref01_Bytes : Cmd :=
  .seq (.seq (.reg [⟨(some 2), none, .inl (.mv (.c .nils))⟩])
   (.keep [0]))
   (.seq (.seq (.reg [⟨(some 3), none, .inl (.mv (.c .nils))⟩])
    (.keep [0, 3]))
    (.seq (.seq (.seq (.reg [⟨(some 4), none, .inl (.mv (.c (.int .i64 0)))⟩])
     (.keep [0, 3, 4]))
     (.block 0 (.loop [0, 3, 4] (.seq (.seq (.seq (.reg [⟨(some 5), none, .inl (.mv (.t 4))⟩,
         ⟨(some 6), none, .inl (.bin .lss (.t 5) (.c (.int .i64 8)))⟩])
      (.keep [0, 3, 4, 6]))
      (.cond (.t 6)
        (.skip)
        (.exit 0)))
      (.seq (.block 1 (.seq (.seq (.reg [⟨(some 9), none, .inl (.mv (.t 3))⟩,
          ⟨(some 10), none, .inl (.mv (.t 0))⟩,
          ⟨(some 11), none, .inl (.conv .u8 (.t 10))⟩,
          ⟨(some 12), none, .inr (.bslice 1 [(.int .u8 0)] 1 [(0, (.t 11))])⟩,
          ⟨(some 13), none, .inr (.append 1 1 (.t 9) (.t 12))⟩,
          ⟨(some 3), none, .inl (.mv (.t 13))⟩])
       (.keep [0, 3, 4]))
       (.seq (.reg [⟨(some 14), none, .inl (.mv (.t 0))⟩,
           ⟨(some 15), none, .inl (.bin .quo (.t 14) (.c (.int .i64 256)))⟩,
           ⟨(some 0), none, .inl (.mv (.t 15))⟩])
        (.keep [0, 3, 4]))))
       (.seq (.reg [⟨(some 7), none, .inl (.mv (.t 4))⟩,
           ⟨(some 8), none, .inl (.bin .add (.t 7) (.c (.int .i64 1)))⟩,
           ⟨(some 4), none, .inl (.mv (.t 8))⟩])
        (.keep [0, 3, 4])))))))
     (.seq (.seq (.reg [⟨(some 16), none, .inl (.mv (.t 3))⟩,
         ⟨(some 2), none, .inl (.mv (.t 16))⟩])
      (.keep [2]))
      (.ret))))
def fc_joistref01_Bytes : FC := ⟨17, cmd_joistref01_Bytes, [.t 2]⟩
theorem fc_joistref01_Bytes_ok : compF Try.prog 28 [[0], [0, 3], [0, 3, 4], [0, 3, 4], [0, 3, 4, 6], [0, 3, 4], [0, 3, 4], [0, 3, 4], [2]] = some fc_joistref01_Bytes := by kernel_rfl
/-- joist/words.read -/
abbrev F.words_read : Nat := 29
def cmd_words_read : Cmd :=
  .seq (.seq (.reg [⟨(some 2), none, .inl (.mv (.c (.int .i64 0)))⟩,
      ⟨(some 3), none, .inl (.mv (.c (.bool false)))⟩])
   (.keep [0, 2]))
   (.seq (.seq (.seq (.reg [⟨(some 5), none, .inl (.mv (.t 0))⟩,
       ⟨(some 6), none, .inl (.iaddr 1 (.t 5) (.c (.int .i64 7)))⟩,
       ⟨(some 7), none, .inl (.load false 1 (.t 6))⟩,
       ⟨(some 8), none, .inl (.bin .geq (.t 7) (.c (.int .u8 64)))⟩])
    (.keep [0, 2, 8]))
    (.cond (.t 8)
      (.seq (.seq (.reg [⟨(some 2), none, .inl (.mv (.c (.int .i64 0)))⟩,
          ⟨(some 3), none, .inl (.mv (.c (.bool false)))⟩])
       (.keep [2, 3]))
       (.ret))
      (.skip)))
    (.seq (.seq (.seq (.reg [⟨(some 9), none, .inl (.mv (.c (.int .i64 0)))⟩])
     (.keep [0, 2, 9]))
     (.block 0 (.loop [0, 2, 9] (.seq (.seq (.reg [⟨(some 10), none, .inl (.bin .lss (.t 9) (.c (.int .i64 8)))⟩])
      (.keep [0, 2, 9, 10]))
      (.seq (.cond (.t 10)
        (.skip)
        (.exit 0))
       (.seq (.block 1 (.seq (.seq (.reg [⟨(some 11), none, .inl (.mv (.t 9))⟩,
           ⟨(some 4), none, .inl (.mv (.t 11))⟩])
        (.keep [0, 2, 4, 9]))
        (.seq (.reg [⟨(some 12), none, .inl (.mv (.t 2))⟩,
            ⟨(some 13), none, .inl (.bin .shl (.t 12) (.c (.int .u64 8)))⟩,
            ⟨(some 14), none, .inl (.mv (.t 0))⟩,
            ⟨(some 15), none, .inl (.mv (.t 4))⟩,
            ⟨(some 16), none, .inl (.bin .sub (.c (.int .i64 7)) (.t 15))⟩,
            ⟨(some 17), none, .inl (.iaddr 1 (.t 14) (.t 16))⟩,
            ⟨(some 18), none, .inl (.load false 1 (.t 17))⟩,
            ⟨(some 19), none, .inl (.conv .i64 (.t 18))⟩,
            ⟨(some 20), none, .inl (.bin .or (.t 13) (.t 19))⟩,
            ⟨(some 2), none, .inl (.mv (.t 20))⟩])
         (.keep [0, 2, 9]))))
        (.seq (.reg [⟨(some 21), none, .inl (.bin .add (.t 9) (.c (.int .i64 1)))⟩,
            ⟨(some 9), none, .inl (.mv (.t 21))⟩])
         (.keep [0, 2, 9]))))))))
     (.seq (.seq (.reg [⟨(some 22), none, .inl (.mv (.t 2))⟩,
         ⟨(some 2), none, .inl (.mv (.t 22))⟩,
         ⟨(some 3), none, .inl (.mv (.c (.bool true)))⟩])
      (.keep [2, 3]))
      (.ret))))
def fc_words_read : FC := ⟨23, cmd_words_read, [.t 2, .t 3]⟩
theorem fc_words_read_ok : compF Try.prog 29 [[0, 2], [0, 2, 8], [2, 3], [0, 2, 9], [0, 2, 9], [0, 2, 9, 10], [0, 2, 4, 9], [0, 2, 9], [0, 2, 9], [2, 3]] = some fc_words_read := by kernel_rfl
end Go.Proofs.Ytbknmoeneebaoaa
