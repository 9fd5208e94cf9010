import Derived.Test.YtllkiijnkklcmaaProg
import Derived.Test.YtllkiijnkklcmaaVG
import Derived.KernelRfl
namespace Go.Proofs.Ytllkiijnkklcmaa
open Go Go.Proofs.Ytllkiijnkklcmaa.V
set_option linter.unusedVariables false

theorem mixed : Try.prog.follows .mixedOrders = true := by kernel_rfl
/-- joist/joistlaw02.CrcSeals -/
abbrev F.joistlaw02_CrcSeals : Nat := 3
def cmd_joistlaw02_CrcSeals : Cmd :=
  .seq (.seq (.reg [⟨(some 2), none, .inl (.mv (.c (.bool false)))⟩])
   (.keep [0]))
   (.seq (.seq (.reg [⟨(some 13), none, .inr (.call 8 [])⟩,
       ⟨(some 3), none, .inl (.mv (.t 13))⟩])
    (.keep [0, 3]))
    (.seq (.seq (.reg [⟨(some 14), none, .inl (.mv (.t 0))⟩,
        ⟨(some 15), none, .inr (.call 9 [(.t 14)])⟩,
        ⟨(some 4), none, .inl (.mv (.t 15))⟩])
     (.keep [0, 3, 4]))
     (.seq (.seq (.reg [⟨(some 16), none, .inl (.mv (.t 4))⟩,
         ⟨(some 17), none, .inr (.call 10 [(.t 16)])⟩,
         ⟨(some 5), none, .inl (.mv (.t 17))⟩])
      (.keep [0, 3, 4, 5]))
      (.seq (.seq (.reg [⟨(some 19), none, .inl (.mv (.t 4))⟩,
          ⟨(some 20), none, .inr (.call 11 [(.t 19)])⟩,
          ⟨(some 18), none, .inl (.mv (.t 20))⟩,
          ⟨(some 21), none, .inl (.ext 0 (.t 18))⟩,
          ⟨(some 22), none, .inl (.ext 1 (.t 18))⟩,
          ⟨(some 6), none, .inl (.mv (.t 21))⟩,
          ⟨(some 7), none, .inl (.mv (.t 22))⟩])
       (.keep [0, 3, 4, 5, 6, 7]))
       (.seq (.seq (.reg [⟨(some 23), none, .inl (.mv (.t 4))⟩,
           ⟨(some 24), none, .inl (.mv (.t 0))⟩,
           ⟨(some 25), none, .inr (.call 12 [(.t 23), (.t 24)])⟩,
           ⟨(some 8), none, .inl (.mv (.t 25))⟩])
        (.keep [0, 3, 4, 5, 6, 7, 8]))
        (.seq (.seq (.reg [⟨(some 27), none, .inl (.mv (.t 0))⟩,
            ⟨(some 28), none, .inr (.call 13 [(.t 27)])⟩,
            ⟨(some 26), none, .inl (.mv (.t 28))⟩,
            ⟨(some 29), none, .inl (.ext 0 (.t 26))⟩,
            ⟨(some 30), none, .inl (.ext 1 (.t 26))⟩,
            ⟨(some 9), none, .inl (.mv (.t 29))⟩,
            ⟨(some 10), none, .inl (.mv (.t 30))⟩])
         (.keep [0, 3, 4, 5, 6, 7, 8, 9, 10]))
         (.seq (.seq (.ord [⟨0, ⟨(some 31), none, .inl (.mv (.t 5))⟩, [], true⟩,
             ⟨1, ⟨(some 32), none, .inl (.b2s (.t 31))⟩, [], true⟩,
             ⟨2, ⟨(some 33), none, .inl (.mv (.t 0))⟩, [], false⟩,
             ⟨3, ⟨(some 34), none, .inr (.call 14 [(.t 33)])⟩, [0, 1], false⟩,
             ⟨4, ⟨(some 35), none, .inl (.b2s (.t 34))⟩, [], false⟩,
             ⟨5, ⟨(some 36), none, .inl (.bins .eql (.t 32) (.t 35))⟩, [], false⟩,
             ⟨6, ⟨(some 37), none, .inl (.mv (.t 36))⟩, [], false⟩,
             ⟨7, ⟨(some 38), (some (37, true)), .inl (.mv (.t 6))⟩, [], false⟩,
             ⟨8, ⟨(some 39), (some (37, true)), .inl (.b2s (.t 38))⟩, [], false⟩,
             ⟨9, ⟨(some 40), (some (37, true)), .inl (.mv (.t 9))⟩, [], false⟩,
             ⟨10, ⟨(some 41), (some (37, true)), .inl (.b2s (.t 40))⟩, [], false⟩,
             ⟨11, ⟨(some 42), (some (37, true)), .inl (.bins .eql (.t 39) (.t 41))⟩, [], false⟩,
             ⟨12, ⟨(some 43), none, .inl (.pick (.t 37) (.t 42) (.c (.bool false)))⟩, [], false⟩,
             ⟨13, ⟨(some 11), none, .inl (.mv (.t 43))⟩, [], false⟩])
          (.keep [3, 4, 5, 6, 7, 8, 10, 11]))
          (.seq (.seq (.reg [⟨(some 44), none, .inl (.mv (.t 5))⟩,
              ⟨(some 45), none, .inl (.mv (.t 6))⟩,
              ⟨(some 46), none, .inl (.mv (.t 4))⟩,
              ⟨(some 47), none, .inr (.bslice 1 [.nils] 3 [(0, (.t 44)), (1, (.t 45)), (2, (.t 46))])⟩,
              ⟨(some 48), none, .inr (.call 15 [(.t 47)])⟩,
              ⟨(some 12), none, .inl (.mv (.t 48))⟩])
           (.keep [3, 7, 8, 10, 11, 12]))
           (.seq (.seq (.reg [⟨(some 49), none, .inl (.mv (.t 3))⟩,
               ⟨(some 50), none, .inl (.mv (.t 49))⟩,
               ⟨(some 51), (some (50, true)), .inl (.mv (.t 8))⟩,
               ⟨(some 52), none, .inl (.pick (.t 50) (.t 51) (.c (.bool false)))⟩,
               ⟨(some 53), none, .inl (.mv (.t 52))⟩,
               ⟨(some 54), (some (53, true)), .inl (.mv (.t 11))⟩,
               ⟨(some 55), none, .inl (.pick (.t 53) (.t 54) (.c (.bool false)))⟩,
               ⟨(some 56), none, .inl (.mv (.t 55))⟩,
               ⟨(some 57), (some (56, true)), .inl (.mv (.t 12))⟩,
               ⟨(some 58), none, .inl (.pick (.t 56) (.t 57) (.c (.bool false)))⟩,
               ⟨(some 59), none, .inl (.mv (.t 58))⟩,
               ⟨(some 60), (some (59, true)), .inl (.mv (.t 7))⟩,
               ⟨(some 61), (some (59, true)), .inl (.mv (.t 10))⟩,
               ⟨(some 62), (some (59, true)), .inl (.binb .eql (.t 60) (.t 61))⟩,
               ⟨(some 63), none, .inl (.pick (.t 59) (.t 62) (.c (.bool false)))⟩,
               ⟨(some 2), none, .inl (.mv (.t 63))⟩])
            (.keep [2]))
            (.ret))))))))))
def fc_joistlaw02_CrcSeals : FC := ⟨64, cmd_joistlaw02_CrcSeals, [.t 2]⟩
theorem fc_joistlaw02_CrcSeals_ok : compF Try.prog 3 [[0], [0, 3], [0, 3, 4], [0, 3, 4, 5], [0, 3, 4, 5, 6, 7], [0, 3, 4, 5, 6, 7, 8], [0, 3, 4, 5, 6, 7, 8, 9, 10], [3, 4, 5, 6, 7, 8, 10, 11], [0, 1, 2, 3, 4, 5, 6, 7, 8, 9, 10, 11, 12, 13], [3, 7, 8, 10, 11, 12], [2]] = some fc_joistlaw02_CrcSeals := by kernel_rfl
/-- joist/joistlaw02.CrcTurned -/
abbrev F.joistlaw02_CrcTurned : Nat := 4
def cmd_joistlaw02_CrcTurned : Cmd :=
  .seq (.seq (.reg [⟨(some 6), none, .inl (.mv (.c (.bool false)))⟩])
   (.keep [0, 1, 2]))
   (.seq (.seq (.reg [⟨(some 11), none, .inr (.call 8 [])⟩,
       ⟨(some 7), none, .inl (.mv (.t 11))⟩])
    (.keep [0, 1, 2, 7]))
    (.seq (.seq (.reg [⟨(some 12), none, .inl (.mv (.t 0))⟩,
        ⟨(some 13), none, .inr (.call 10 [(.t 12)])⟩,
        ⟨(some 8), none, .inl (.mv (.t 13))⟩])
     (.keep [0, 1, 2, 7, 8]))
     (.seq (.seq (.reg [⟨(some 15), none, .inl (.mv (.t 8))⟩,
         ⟨(some 16), none, .inr (.call 11 [(.t 15)])⟩,
         ⟨(some 14), none, .inl (.mv (.t 16))⟩,
         ⟨(some 17), none, .inl (.ext 0 (.t 14))⟩,
         ⟨(some 18), none, .inl (.ext 1 (.t 14))⟩,
         ⟨(some 9), none, .inl (.mv (.t 17))⟩,
         ⟨(some 10), none, .inl (.mv (.t 18))⟩])
      (.keep [0, 1, 2, 7, 8, 9, 10]))
      (.seq (.seq (.seq (.reg [⟨(some 19), none, .inl (.mv (.t 10))⟩,
          ⟨(some 20), none, .inl (.un .not (.t 19))⟩,
          ⟨(some 21), none, .inl (.mv (.t 20))⟩,
          ⟨(some 22), (some (21, false)), .inl (.mv (.t 9))⟩,
          ⟨(some 23), (some (21, false)), .inl (.b2s (.t 22))⟩,
          ⟨(some 24), (some (21, false)), .inl (.mv (.t 0))⟩,
          ⟨(some 25), (some (21, false)), .inl (.b2s (.t 24))⟩,
          ⟨(some 26), (some (21, false)), .inl (.bins .neq (.t 23) (.t 25))⟩,
          ⟨(some 27), none, .inl (.pick (.t 21) (.c (.bool true)) (.t 26))⟩,
          ⟨(some 28), none, .inl (.mv (.t 27))⟩,
          ⟨(some 29), (some (28, false)), .inl (.mv (.t 8))⟩,
          ⟨(some 30), (some (28, false)), .inl (.len (.t 29))⟩,
          ⟨(some 31), (some (28, false)), .inl (.mv (.t 0))⟩,
          ⟨(some 32), (some (28, false)), .inl (.len (.t 31))⟩,
          ⟨(some 33), (some (28, false)), .inl (.bin .add (.t 32) (.c (.int .i64 8)))⟩,
          ⟨(some 34), (some (28, false)), .inl (.bin .neq (.t 30) (.t 33))⟩,
          ⟨(some 35), none, .inl (.pick (.t 28) (.c (.bool true)) (.t 34))⟩])
       (.keep [0, 1, 2, 7, 8, 35]))
       (.cond (.t 35)
         (.seq (.seq (.reg [⟨(some 6), none, .inl (.mv (.c (.bool false)))⟩])
          (.keep [6]))
          (.ret))
         (.skip)))
       (.seq (.seq (.seq (.reg [⟨(some 36), none, .inl (.mv (.t 1))⟩,
           ⟨(some 37), none, .inl (.bin .lss (.t 36) (.c (.int .i64 0)))⟩,
           ⟨(some 38), none, .inl (.mv (.t 37))⟩,
           ⟨(some 39), (some (38, false)), .inl (.mv (.t 1))⟩,
           ⟨(some 40), (some (38, false)), .inl (.mv (.t 0))⟩,
           ⟨(some 41), (some (38, false)), .inl (.len (.t 40))⟩,
           ⟨(some 42), (some (38, false)), .inl (.bin .geq (.t 39) (.t 41))⟩,
           ⟨(some 43), none, .inl (.pick (.t 38) (.c (.bool true)) (.t 42))⟩,
           ⟨(some 44), none, .inl (.mv (.t 43))⟩,
           ⟨(some 45), (some (44, false)), .inl (.mv (.t 2))⟩,
           ⟨(some 46), (some (44, false)), .inl (.bin .eql (.t 45) (.c (.int .u8 0)))⟩,
           ⟨(some 47), none, .inl (.pick (.t 44) (.c (.bool true)) (.t 46))⟩])
        (.keep [1, 2, 7, 8, 47]))
        (.cond (.t 47)
          (.seq (.seq (.reg [⟨(some 48), none, .inl (.mv (.t 7))⟩,
              ⟨(some 6), none, .inl (.mv (.t 48))⟩])
           (.keep [6]))
           (.ret))
          (.skip)))
        (.seq (.seq (.reg [⟨(some 49), none, .inl (.mv (.t 8))⟩,
            ⟨(some 50), none, .inl (.mv (.t 1))⟩,
            ⟨(some 51), none, .inl (.mv (.t 8))⟩,
            ⟨(some 52), none, .inl (.mv (.t 1))⟩,
            ⟨(some 53), none, .inl (.iaddr 1 (.t 51) (.t 52))⟩,
            ⟨(some 54), none, .inl (.load false 1 (.t 53))⟩,
            ⟨(some 55), none, .inl (.mv (.t 2))⟩,
            ⟨(some 56), none, .inl (.bin .xor (.t 54) (.t 55))⟩,
            ⟨(some 57), none, .inl (.iaddr 1 (.t 49) (.t 50))⟩,
            ⟨none, none, .inr (.store 1 (.t 57) (.t 56))⟩])
         (.keep [7, 8]))
         (.seq (.seq (.reg [⟨(some 59), none, .inl (.mv (.t 8))⟩,
             ⟨(some 60), none, .inr (.call 11 [(.t 59)])⟩,
             ⟨(some 58), none, .inl (.mv (.t 60))⟩,
             ⟨(some 61), none, .inl (.ext 0 (.t 58))⟩,
             ⟨(some 62), none, .inl (.ext 1 (.t 58))⟩,
             ⟨(some 10), none, .inl (.mv (.t 62))⟩])
          (.keep [7, 10]))
          (.seq (.seq (.reg [⟨(some 63), none, .inl (.mv (.t 7))⟩,
              ⟨(some 64), none, .inl (.mv (.t 63))⟩,
              ⟨(some 65), (some (64, true)), .inl (.mv (.t 10))⟩,
              ⟨(some 66), (some (64, true)), .inl (.un .not (.t 65))⟩,
              ⟨(some 67), none, .inl (.pick (.t 64) (.t 66) (.c (.bool false)))⟩,
              ⟨(some 6), none, .inl (.mv (.t 67))⟩])
           (.keep [6]))
           (.ret)))))))))
def fc_joistlaw02_CrcTurned : FC := ⟨68, cmd_joistlaw02_CrcTurned, [.t 6]⟩
theorem fc_joistlaw02_CrcTurned_ok : compF Try.prog 4 [[0, 1, 2], [0, 1, 2, 7], [0, 1, 2, 7, 8], [0, 1, 2, 7, 8, 9, 10], [0, 1, 2, 7, 8, 35], [6], [1, 2, 7, 8, 47], [6], [7, 8], [7, 10], [6]] = some fc_joistlaw02_CrcTurned := by kernel_rfl
/-- joist/joistlaw02.CrcSums -/
abbrev F.joistlaw02_CrcSums : Nat := 5
def cmd_joistlaw02_CrcSums : Cmd :=
  .seq (.seq (.reg [⟨(some 4), none, .inl (.mv (.c (.bool false)))⟩])
   (.keep [0, 1]))
   (.seq (.seq (.reg [⟨(some 13), none, .inr (.call 8 [])⟩,
       ⟨(some 5), none, .inl (.mv (.t 13))⟩])
    (.keep [0, 1, 5]))
    (.seq (.seq (.reg [⟨(some 14), none, .inl (.mv (.t 0))⟩,
        ⟨(some 15), none, .inr (.call 9 [(.t 14)])⟩,
        ⟨(some 6), none, .inl (.mv (.t 15))⟩])
     (.keep [0, 1, 5, 6]))
     (.seq (.seq (.reg [⟨(some 16), none, .inl (.mv (.t 6))⟩,
         ⟨(some 17), none, .inr (.call 16 [(.t 16)])⟩,
         ⟨(some 7), none, .inl (.mv (.t 17))⟩])
      (.keep [0, 1, 5, 6, 7]))
      (.seq (.seq (.reg [⟨(some 19), none, .inl (.mv (.t 1))⟩,
          ⟨(some 20), none, .inl (.mv (.t 6))⟩,
          ⟨(some 21), none, .inr (.call 17 [(.t 19), (.t 20)])⟩,
          ⟨(some 18), none, .inl (.mv (.t 21))⟩,
          ⟨(some 22), none, .inl (.ext 0 (.t 18))⟩,
          ⟨(some 23), none, .inl (.ext 1 (.t 18))⟩,
          ⟨(some 8), none, .inl (.mv (.t 22))⟩,
          ⟨(some 9), none, .inl (.mv (.t 23))⟩])
       (.keep [0, 1, 5, 6, 7, 8, 9]))
       (.seq (.seq (.reg [⟨(some 24), none, .inl (.mv (.t 6))⟩,
           ⟨(some 25), none, .inl (.mv (.t 0))⟩,
           ⟨(some 26), none, .inr (.call 12 [(.t 24), (.t 25)])⟩,
           ⟨(some 10), none, .inl (.mv (.t 26))⟩])
        (.keep [0, 1, 5, 7, 8, 9, 10]))
        (.seq (.seq (.reg [⟨(some 28), none, .inl (.mv (.t 1))⟩,
            ⟨(some 29), none, .inl (.mv (.t 0))⟩,
            ⟨(some 30), none, .inr (.call 18 [(.t 28), (.t 29)])⟩,
            ⟨(some 27), none, .inl (.mv (.t 30))⟩,
            ⟨(some 31), none, .inl (.ext 0 (.t 27))⟩,
            ⟨(some 32), none, .inl (.ext 1 (.t 27))⟩,
            ⟨(some 11), none, .inl (.mv (.t 31))⟩,
            ⟨(some 12), none, .inl (.mv (.t 32))⟩])
         (.keep [0, 5, 7, 8, 9, 10, 11, 12]))
         (.seq (.seq (.reg [⟨(some 33), none, .inl (.mv (.t 5))⟩,
             ⟨(some 34), none, .inl (.mv (.t 33))⟩,
             ⟨(some 35), (some (34, true)), .inl (.mv (.t 10))⟩,
             ⟨(some 36), none, .inl (.pick (.t 34) (.t 35) (.c (.bool false)))⟩,
             ⟨(some 37), none, .inl (.mv (.t 36))⟩,
             ⟨(some 38), (some (37, true)), .inl (.mv (.t 7))⟩,
             ⟨(some 39), (some (37, true)), .inl (.mv (.t 0))⟩,
             ⟨(some 40), (some (37, true)), .inr (.call 19 [(.t 39)])⟩,
             ⟨(some 41), (some (37, true)), .inl (.bin .eql (.t 38) (.t 40))⟩,
             ⟨(some 42), none, .inl (.pick (.t 37) (.t 41) (.c (.bool false)))⟩,
             ⟨(some 43), none, .inl (.mv (.t 42))⟩,
             ⟨(some 44), (some (43, true)), .inl (.mv (.t 8))⟩,
             ⟨(some 45), (some (43, true)), .inl (.mv (.t 11))⟩,
             ⟨(some 46), (some (43, true)), .inl (.bin .eql (.t 44) (.t 45))⟩,
             ⟨(some 47), none, .inl (.pick (.t 43) (.t 46) (.c (.bool false)))⟩,
             ⟨(some 48), none, .inl (.mv (.t 47))⟩,
             ⟨(some 49), (some (48, true)), .inl (.mv (.t 9))⟩,
             ⟨(some 50), (some (48, true)), .inl (.mv (.t 12))⟩,
             ⟨(some 51), (some (48, true)), .inl (.bin .eql (.t 49) (.t 50))⟩,
             ⟨(some 52), none, .inl (.pick (.t 48) (.t 51) (.c (.bool false)))⟩,
             ⟨(some 4), none, .inl (.mv (.t 52))⟩])
          (.keep [4]))
          (.ret))))))))
def fc_joistlaw02_CrcSums : FC := ⟨53, cmd_joistlaw02_CrcSums, [.t 4]⟩
theorem fc_joistlaw02_CrcSums_ok : compF Try.prog 5 [[0, 1], [0, 1, 5], [0, 1, 5, 6], [0, 1, 5, 6, 7], [0, 1, 5, 6, 7, 8, 9], [0, 1, 5, 7, 8, 9, 10], [0, 5, 7, 8, 9, 10, 11, 12], [4]] = some fc_joistlaw02_CrcSums := by kernel_rfl
/-- joist/joistlaw02.CrcAdds -/
abbrev F.joistlaw02_CrcAdds : Nat := 6
def cmd_joistlaw02_CrcAdds : Cmd :=
  .seq (.seq (.reg [⟨(some 4), none, .inl (.mv (.c (.bool false)))⟩])
   (.keep [0, 1]))
   (.seq (.seq (.reg [⟨(some 11), none, .inr (.call 8 [])⟩,
       ⟨(some 5), none, .inl (.mv (.t 11))⟩])
    (.keep [0, 1, 5]))
    (.seq (.seq (.reg [⟨(some 12), none, .inr (.bslice 1 [(.int .u8 0)] 0 [])⟩,
        ⟨(some 13), none, .inl (.mv (.t 0))⟩,
        ⟨(some 14), none, .inr (.append 1 1 (.t 12) (.t 13))⟩,
        ⟨(some 15), none, .inl (.mv (.t 1))⟩,
        ⟨(some 16), none, .inr (.append 1 1 (.t 14) (.t 15))⟩,
        ⟨(some 6), none, .inl (.mv (.t 16))⟩])
     (.keep [0, 1, 5, 6]))
     (.seq (.seq (.reg [⟨(some 18), none, .inl (.mv (.t 0))⟩,
         ⟨(some 19), none, .inr (.call 16 [(.t 18)])⟩,
         ⟨(some 20), none, .inl (.mv (.t 1))⟩,
         ⟨(some 21), none, .inr (.call 17 [(.t 19), (.t 20)])⟩,
         ⟨(some 17), none, .inl (.mv (.t 21))⟩,
         ⟨(some 22), none, .inl (.ext 0 (.t 17))⟩,
         ⟨(some 23), none, .inl (.ext 1 (.t 17))⟩,
         ⟨(some 7), none, .inl (.mv (.t 22))⟩,
         ⟨(some 8), none, .inl (.mv (.t 23))⟩])
      (.keep [1, 5, 6, 7, 8]))
      (.seq (.seq (.reg [⟨(some 25), none, .inl (.mv (.t 1))⟩,
          ⟨(some 26), none, .inr (.call 17 [(.c (.int .i64 0)), (.t 25)])⟩,
          ⟨(some 24), none, .inl (.mv (.t 26))⟩,
          ⟨(some 27), none, .inl (.ext 0 (.t 24))⟩,
          ⟨(some 28), none, .inl (.ext 1 (.t 24))⟩,
          ⟨(some 9), none, .inl (.mv (.t 27))⟩,
          ⟨(some 10), none, .inl (.mv (.t 28))⟩])
       (.keep [1, 5, 6, 7, 8, 9, 10]))
       (.seq (.seq (.reg [⟨(some 29), none, .inl (.mv (.t 5))⟩,
           ⟨(some 30), none, .inl (.mv (.t 29))⟩,
           ⟨(some 31), (some (30, true)), .inl (.mv (.t 8))⟩,
           ⟨(some 32), (some (30, true)), .inl (.bin .eql (.t 31) (.c (.int .i64 0)))⟩,
           ⟨(some 33), none, .inl (.pick (.t 30) (.t 32) (.c (.bool false)))⟩,
           ⟨(some 34), none, .inl (.mv (.t 33))⟩,
           ⟨(some 35), (some (34, true)), .inl (.mv (.t 7))⟩,
           ⟨(some 36), (some (34, true)), .inl (.mv (.t 6))⟩,
           ⟨(some 37), (some (34, true)), .inr (.call 16 [(.t 36)])⟩,
           ⟨(some 38), (some (34, true)), .inl (.bin .eql (.t 35) (.t 37))⟩,
           ⟨(some 39), none, .inl (.pick (.t 34) (.t 38) (.c (.bool false)))⟩,
           ⟨(some 40), none, .inl (.mv (.t 39))⟩,
           ⟨(some 41), (some (40, true)), .inl (.mv (.t 10))⟩,
           ⟨(some 42), (some (40, true)), .inl (.bin .eql (.t 41) (.c (.int .i64 0)))⟩,
           ⟨(some 43), none, .inl (.pick (.t 40) (.t 42) (.c (.bool false)))⟩,
           ⟨(some 44), none, .inl (.mv (.t 43))⟩,
           ⟨(some 45), (some (44, true)), .inl (.mv (.t 9))⟩,
           ⟨(some 46), (some (44, true)), .inl (.mv (.t 1))⟩,
           ⟨(some 47), (some (44, true)), .inr (.call 16 [(.t 46)])⟩,
           ⟨(some 48), (some (44, true)), .inl (.bin .eql (.t 45) (.t 47))⟩,
           ⟨(some 49), none, .inl (.pick (.t 44) (.t 48) (.c (.bool false)))⟩,
           ⟨(some 50), none, .inl (.mv (.t 49))⟩,
           ⟨(some 51), (some (50, true)), .inl (.mv (.t 7))⟩,
           ⟨(some 52), (some (50, true)), .inl (.bin .geq (.t 51) (.c (.int .i64 0)))⟩,
           ⟨(some 53), none, .inl (.pick (.t 50) (.t 52) (.c (.bool false)))⟩,
           ⟨(some 54), none, .inl (.mv (.t 53))⟩,
           ⟨(some 55), (some (54, true)), .inl (.mv (.t 7))⟩,
           ⟨(some 56), (some (54, true)), .inl (.bin .leq (.t 55) (.c (.int .i64 4294967295)))⟩,
           ⟨(some 57), none, .inl (.pick (.t 54) (.t 56) (.c (.bool false)))⟩,
           ⟨(some 4), none, .inl (.mv (.t 57))⟩])
        (.keep [4]))
        (.ret))))))
def fc_joistlaw02_CrcAdds : FC := ⟨58, cmd_joistlaw02_CrcAdds, [.t 4]⟩
theorem fc_joistlaw02_CrcAdds_ok : compF Try.prog 6 [[0, 1], [0, 1, 5], [0, 1, 5, 6], [1, 5, 6, 7, 8], [1, 5, 6, 7, 8, 9, 10], [4]] = some fc_joistlaw02_CrcAdds := by kernel_rfl
/-- joist/joistlaw02.CrcChains -/
abbrev F.joistlaw02_CrcChains : Nat := 7
def cmd_joistlaw02_CrcChains : Cmd :=
  .seq (.seq (.reg [⟨(some 4), none, .inl (.mv (.c (.bool false)))⟩])
   (.keep [0, 1]))
   (.seq (.seq (.reg [⟨(some 13), none, .inr (.call 8 [])⟩,
       ⟨(some 5), none, .inl (.mv (.t 13))⟩])
    (.keep [0, 1, 5]))
    (.seq (.seq (.seq (.reg [⟨(some 14), none, .inl (.mv (.t 0))⟩,
        ⟨(some 15), none, .inl (.len (.t 14))⟩,
        ⟨(some 16), none, .inl (.bin .gtr (.t 15) (.c (.int .i64 1024)))⟩])
     (.keep [0, 1, 5, 16]))
     (.cond (.t 16)
       (.seq (.seq (.reg [⟨(some 17), none, .inl (.mv (.t 5))⟩,
           ⟨(some 4), none, .inl (.mv (.t 17))⟩])
        (.keep [4]))
        (.ret))
       (.skip)))
     (.seq (.seq (.reg [⟨(some 6), none, .inl (.mv (.c (.int .i64 0)))⟩])
      (.keep [0, 1, 5, 6]))
      (.seq (.seq (.seq (.reg [⟨(some 7), none, .inl (.mv (.c (.int .i64 0)))⟩])
       (.keep [0, 1, 5, 6, 7]))
       (.block 0 (.loop [0, 1, 5, 6, 7] (.seq (.seq (.seq (.reg [⟨(some 18), none, .inl (.mv (.t 7))⟩,
           ⟨(some 19), none, .inl (.mv (.t 0))⟩,
           ⟨(some 20), none, .inl (.len (.t 19))⟩,
           ⟨(some 21), none, .inl (.bin .lss (.t 18) (.t 20))⟩])
        (.keep [0, 1, 5, 6, 7, 21]))
        (.cond (.t 21)
          (.skip)
          (.exit 0)))
        (.seq (.block 1 (.seq (.seq (.reg [⟨(some 25), none, .inl (.mv (.t 6))⟩,
            ⟨(some 26), none, .inl (.mv (.t 0))⟩,
            ⟨(some 27), none, .inl (.mv (.t 7))⟩,
            ⟨(some 28), none, .inl (.mv (.t 7))⟩,
            ⟨(some 29), none, .inl (.bin .add (.t 28) (.c (.int .i64 1)))⟩,
            ⟨(some 30), none, .inl (.slice 1 (.t 26) (some (.t 27)) (some (.t 29)) none)⟩,
            ⟨(some 31), none, .inr (.call 17 [(.t 25), (.t 30)])⟩,
            ⟨(some 24), none, .inl (.mv (.t 31))⟩,
            ⟨(some 32), none, .inl (.ext 0 (.t 24))⟩,
            ⟨(some 33), none, .inl (.ext 1 (.t 24))⟩,
            ⟨(some 8), none, .inl (.mv (.t 32))⟩,
            ⟨(some 9), none, .inl (.mv (.t 33))⟩])
         (.keep [0, 1, 5, 7, 8, 9]))
         (.seq (.seq (.seq (.reg [⟨(some 34), none, .inl (.mv (.t 9))⟩,
             ⟨(some 35), none, .inl (.bin .neq (.t 34) (.c (.int .i64 0)))⟩,
             ⟨(some 36), none, .inl (.mv (.t 35))⟩,
             ⟨(some 37), (some (36, false)), .inl (.mv (.t 8))⟩,
             ⟨(some 38), (some (36, false)), .inl (.bin .lss (.t 37) (.c (.int .i64 0)))⟩,
             ⟨(some 39), none, .inl (.pick (.t 36) (.c (.bool true)) (.t 38))⟩,
             ⟨(some 40), none, .inl (.mv (.t 39))⟩,
             ⟨(some 41), (some (40, false)), .inl (.mv (.t 8))⟩,
             ⟨(some 42), (some (40, false)), .inl (.bin .gtr (.t 41) (.c (.int .i64 4294967295)))⟩,
             ⟨(some 43), none, .inl (.pick (.t 40) (.c (.bool true)) (.t 42))⟩])
          (.keep [0, 1, 5, 7, 8, 43]))
          (.cond (.t 43)
            (.seq (.seq (.reg [⟨(some 4), none, .inl (.mv (.c (.bool false)))⟩])
             (.keep [4]))
             (.ret))
            (.skip)))
          (.seq (.reg [⟨(some 44), none, .inl (.mv (.t 8))⟩,
              ⟨(some 6), none, .inl (.mv (.t 44))⟩])
           (.keep [0, 1, 5, 6, 7])))))
         (.seq (.reg [⟨(some 22), none, .inl (.mv (.t 7))⟩,
             ⟨(some 23), none, .inl (.bin .add (.t 22) (.c (.int .i64 1)))⟩,
             ⟨(some 7), none, .inl (.mv (.t 23))⟩])
          (.keep [0, 1, 5, 6, 7])))))))
       (.seq (.seq (.reg [⟨(some 45), none, .inl (.mv (.t 1))⟩,
           ⟨(some 46), none, .inl (.mx (.t 45) (.c (.int .i64 0)))⟩,
           ⟨(some 47), none, .inl (.mv (.t 0))⟩,
           ⟨(some 48), none, .inl (.len (.t 47))⟩,
           ⟨(some 49), none, .inl (.mn (.t 46) (.t 48))⟩,
           ⟨(some 10), none, .inl (.mv (.t 49))⟩])
        (.keep [0, 5, 6, 10]))
        (.seq (.seq (.ord [⟨0, ⟨(some 51), none, .inl (.mv (.t 0))⟩, [], false⟩,
            ⟨1, ⟨(some 52), none, .inl (.mv (.t 10))⟩, [], false⟩,
            ⟨2, ⟨(some 53), none, .inl (.slice 1 (.t 51) none (some (.t 52)) none)⟩, [], false⟩,
            ⟨4, ⟨(some 55), none, .inl (.mv (.t 0))⟩, [], true⟩,
            ⟨5, ⟨(some 56), none, .inl (.mv (.t 10))⟩, [], true⟩,
            ⟨6, ⟨(some 57), none, .inl (.slice 1 (.t 55) (some (.t 56)) none none)⟩, [], true⟩,
            ⟨3, ⟨(some 54), none, .inr (.call 16 [(.t 53)])⟩, [4, 5, 6], false⟩,
            ⟨7, ⟨(some 58), none, .inr (.call 17 [(.t 54), (.t 57)])⟩, [], false⟩,
            ⟨8, ⟨(some 50), none, .inl (.mv (.t 58))⟩, [], false⟩,
            ⟨9, ⟨(some 59), none, .inl (.ext 0 (.t 50))⟩, [], false⟩,
            ⟨10, ⟨(some 60), none, .inl (.ext 1 (.t 50))⟩, [], false⟩,
            ⟨11, ⟨(some 11), none, .inl (.mv (.t 59))⟩, [], false⟩,
            ⟨12, ⟨(some 12), none, .inl (.mv (.t 60))⟩, [], false⟩])
         (.keep [0, 5, 6, 11, 12]))
         (.seq (.seq (.reg [⟨(some 61), none, .inl (.mv (.t 5))⟩,
             ⟨(some 62), none, .inl (.mv (.t 61))⟩,
             ⟨(some 63), (some (62, true)), .inl (.mv (.t 6))⟩,
             ⟨(some 64), (some (62, true)), .inl (.mv (.t 0))⟩,
             ⟨(some 65), (some (62, true)), .inr (.call 16 [(.t 64)])⟩,
             ⟨(some 66), (some (62, true)), .inl (.bin .eql (.t 63) (.t 65))⟩,
             ⟨(some 67), none, .inl (.pick (.t 62) (.t 66) (.c (.bool false)))⟩,
             ⟨(some 68), none, .inl (.mv (.t 67))⟩,
             ⟨(some 69), (some (68, true)), .inl (.mv (.t 12))⟩,
             ⟨(some 70), (some (68, true)), .inl (.bin .eql (.t 69) (.c (.int .i64 0)))⟩,
             ⟨(some 71), none, .inl (.pick (.t 68) (.t 70) (.c (.bool false)))⟩,
             ⟨(some 72), none, .inl (.mv (.t 71))⟩,
             ⟨(some 73), (some (72, true)), .inl (.mv (.t 11))⟩,
             ⟨(some 74), (some (72, true)), .inl (.mv (.t 6))⟩,
             ⟨(some 75), (some (72, true)), .inl (.bin .eql (.t 73) (.t 74))⟩,
             ⟨(some 76), none, .inl (.pick (.t 72) (.t 75) (.c (.bool false)))⟩,
             ⟨(some 4), none, .inl (.mv (.t 76))⟩])
          (.keep [4]))
          (.ret))))))))
def fc_joistlaw02_CrcChains : FC := ⟨77, cmd_joistlaw02_CrcChains, [.t 4]⟩
theorem fc_joistlaw02_CrcChains_ok : compF Try.prog 7 [[0, 1], [0, 1, 5], [0, 1, 5, 16], [4], [0, 1, 5, 6], [0, 1, 5, 6, 7], [0, 1, 5, 6, 7], [0, 1, 5, 6, 7, 21], [0, 1, 5, 7, 8, 9], [0, 1, 5, 7, 8, 43], [4], [0, 1, 5, 6, 7], [0, 1, 5, 6, 7], [0, 5, 6, 10], [0, 5, 6, 11, 12], [0, 1, 2, 4, 5, 6, 3, 7, 8, 9, 10, 11, 12], [4]] = some fc_joistlaw02_CrcChains := by kernel_rfl
/-- joist/joistlaw02.small -/
abbrev F.joistlaw02_small : Nat := 8
def cmd_joistlaw02_small : Cmd :=
  .seq (.seq (.reg [⟨(some 0), none, .inl (.mv (.c (.bool false)))⟩])
   (.keep []))
   (.seq (.seq (.reg [⟨(some 4), none, .inr (.bslice 1 [(.int .u8 0)] 1 [(0, (.c (.int .u8 97)))])⟩,
       ⟨(some 5), none, .inr (.mark (.t 4))⟩,
       ⟨(some 6), none, .inr (.call 10 [(.t 5)])⟩,
       ⟨(some 7), none, .inr (.call 11 [(.t 6)])⟩,
       ⟨(some 3), none, .inl (.mv (.t 7))⟩,
       ⟨(some 8), none, .inl (.ext 0 (.t 3))⟩,
       ⟨(some 9), none, .inl (.ext 1 (.t 3))⟩,
       ⟨(some 1), none, .inl (.mv (.t 8))⟩,
       ⟨(some 2), none, .inl (.mv (.t 9))⟩])
    (.keep [1, 2]))
    (.seq (.seq (.reg [⟨(some 10), none, .inr (.bslice 1 [(.int .u8 0)] 9 [(0, (.c (.int .u8 49))), (1, (.c (.int .u8 50))), (2, (.c (.int .u8 51))), (3, (.c (.int .u8 52))), (4, (.c (.int .u8 53))), (5, (.c (.int .u8 54))), (6, (.c (.int .u8 55))), (7, (.c (.int .u8 56))), (8, (.c (.int .u8 57)))])⟩,
        ⟨(some 11), none, .inr (.mark (.t 10))⟩,
        ⟨(some 12), none, .inr (.call 16 [(.t 11)])⟩,
        ⟨(some 13), none, .inl (.bin .eql (.t 12) (.c (.int .i64 3421780262)))⟩,
        ⟨(some 14), none, .inl (.mv (.t 13))⟩,
        ⟨(some 15), (some (14, true)), .inl (.mv (.t 2))⟩,
        ⟨(some 16), none, .inl (.pick (.t 14) (.t 15) (.c (.bool false)))⟩,
        ⟨(some 17), none, .inl (.mv (.t 16))⟩,
        ⟨(some 18), (some (17, true)), .inl (.mv (.t 1))⟩,
        ⟨(some 19), (some (17, true)), .inl (.b2s (.t 18))⟩,
        ⟨(some 20), (some (17, true)), .inl (.bins .eql (.t 19) (.c (.str [97])))⟩,
        ⟨(some 21), none, .inl (.pick (.t 17) (.t 20) (.c (.bool false)))⟩,
        ⟨(some 0), none, .inl (.mv (.t 21))⟩])
     (.keep [0]))
     (.ret)))
def fc_joistlaw02_small : FC := ⟨22, cmd_joistlaw02_small, [.t 0]⟩
theorem fc_joistlaw02_small_ok : compF Try.prog 8 [[], [1, 2], [0]] = some fc_joistlaw02_small := by kernel_rfl
/-- joist/joistlaw01.Lent -/
abbrev F.joistlaw01_Lent : Nat := 9
def cmd_joistlaw01_Lent : Cmd :=
  .seq (.seq (.reg [⟨(some 2), none, .inl (.mv (.c .nils))⟩])
   (.keep [0]))
   (.seq (.seq (.reg [⟨(some 4), none, .inl (.mv (.t 0))⟩,
       ⟨(some 5), none, .inl (.len (.t 4))⟩,
       ⟨(some 6), none, .inl (.mv (.t 0))⟩,
       ⟨(some 7), none, .inl (.len (.t 6))⟩,
       ⟨(some 8), none, .inl (.bin .add (.t 7) (.c (.int .i64 1)))⟩,
       ⟨(some 9), none, .inr (.mksl 1 1 [(.int .u8 0)] (.t 5) (.t 8))⟩,
       ⟨(some 3), none, .inl (.mv (.t 9))⟩])
    (.keep [0, 3]))
    (.seq (.seq (.reg [⟨(some 10), none, .inl (.mv (.t 3))⟩,
        ⟨(some 11), none, .inl (.mv (.t 0))⟩,
        ⟨(some 12), none, .inr (.copy 1 (.t 10) (.t 11))⟩])
     (.keep [0, 3]))
     (.seq (.seq (.reg [⟨(some 13), none, .inl (.mv (.t 3))⟩,
         ⟨(some 14), none, .inl (.mv (.t 0))⟩,
         ⟨(some 15), none, .inl (.len (.t 14))⟩,
         ⟨(some 16), none, .inl (.bin .add (.t 15) (.c (.int .i64 1)))⟩,
         ⟨(some 17), none, .inl (.slice 1 (.t 13) none (some (.t 16)) none)⟩,
         ⟨(some 18), none, .inl (.mv (.t 0))⟩,
         ⟨(some 19), none, .inl (.len (.t 18))⟩,
         ⟨(some 20), none, .inl (.iaddr 1 (.t 17) (.t 19))⟩,
         ⟨none, none, .inr (.store 1 (.t 20) (.c (.int .u8 77)))⟩])
      (.keep [3]))
      (.seq (.seq (.reg [⟨(some 21), none, .inl (.mv (.t 3))⟩,
          ⟨(some 2), none, .inl (.mv (.t 21))⟩])
       (.keep [2]))
       (.ret)))))
def fc_joistlaw01_Lent : FC := ⟨22, cmd_joistlaw01_Lent, [.t 2]⟩
theorem fc_joistlaw01_Lent_ok : compF Try.prog 9 [[0], [0, 3], [0, 3], [3], [2]] = some fc_joistlaw01_Lent := by kernel_rfl
/-- joist/crc.Seal -/
abbrev F.crc_Seal : Nat := 10
def cmd_crc_Seal : Cmd :=
  .seq (.seq (.reg [⟨(some 2), none, .inl (.mv (.c .nils))⟩])
   (.keep [0]))
   (.seq (.seq (.reg [⟨(some 6), none, .inl (.mv (.t 0))⟩,
       ⟨(some 7), none, .inr (.call 16 [(.t 6)])⟩,
       ⟨(some 8), none, .inr (.bslice 1 [(.int .i64 0)] 1 [(0, (.t 7))])⟩,
       ⟨(some 9), none, .inr (.call 20 [(.t 8)])⟩,
       ⟨(some 5), none, .inl (.mv (.t 9))⟩,
       ⟨(some 10), none, .inl (.ext 0 (.t 5))⟩,
       ⟨(some 11), none, .inl (.ext 1 (.t 5))⟩,
       ⟨(some 3), none, .inl (.mv (.t 10))⟩,
       ⟨(some 4), none, .inl (.mv (.t 11))⟩])
    (.keep [0, 3]))
    (.seq (.seq (.reg [⟨(some 12), none, .inl (.mv (.t 0))⟩,
        ⟨(some 13), none, .inr (.call 21 [(.t 12)])⟩,
        ⟨(some 14), none, .inl (.mv (.t 3))⟩,
        ⟨(some 15), none, .inr (.append 1 1 (.t 13) (.t 14))⟩,
        ⟨(some 2), none, .inl (.mv (.t 15))⟩])
     (.keep [2]))
     (.ret)))
def fc_crc_Seal : FC := ⟨16, cmd_crc_Seal, [.t 2]⟩
theorem fc_crc_Seal_ok : compF Try.prog 10 [[0], [0, 3], [2]] = some fc_crc_Seal := by kernel_rfl
/-- joist/crc.Open -/
abbrev F.crc_Open : Nat := 11
def cmd_crc_Open : Cmd :=
  .seq (.seq (.reg [⟨(some 2), none, .inl (.mv (.c .nils))⟩,
      ⟨(some 3), none, .inl (.mv (.c (.bool false)))⟩])
   (.keep [0]))
   (.seq (.seq (.reg [⟨(some 5), none, .inl (.mv (.t 0))⟩,
       ⟨(some 6), none, .inl (.len (.t 5))⟩,
       ⟨(some 7), none, .inl (.bin .sub (.t 6) (.c (.int .i64 8)))⟩,
       ⟨(some 4), none, .inl (.mv (.t 7))⟩])
    (.keep [0, 4]))
    (.seq (.seq (.seq (.reg [⟨(some 8), none, .inl (.mv (.t 4))⟩,
        ⟨(some 9), none, .inl (.bin .lss (.t 8) (.c (.int .i64 0)))⟩,
        ⟨(some 10), none, .inl (.mv (.t 9))⟩,
        ⟨(some 11), (some (10, false)), .inl (.mv (.t 0))⟩,
        ⟨(some 12), (some (10, false)), .inl (.mv (.t 4))⟩,
        ⟨(some 13), (some (10, false)), .inl (.slice 1 (.t 11) none (some (.t 12)) none)⟩,
        ⟨(some 14), (some (10, false)), .inr (.call 10 [(.t 13)])⟩,
        ⟨(some 15), (some (10, false)), .inl (.mv (.t 0))⟩,
        ⟨(some 16), (some (10, false)), .inr (.call 22 [(.t 14), (.t 15)])⟩,
        ⟨(some 17), (some (10, false)), .inl (.un .not (.t 16))⟩,
        ⟨(some 18), none, .inl (.pick (.t 10) (.c (.bool true)) (.t 17))⟩])
     (.keep [0, 4, 18]))
     (.cond (.t 18)
       (.seq (.seq (.reg [⟨(some 2), none, .inl (.mv (.c .nils))⟩,
           ⟨(some 3), none, .inl (.mv (.c (.bool false)))⟩])
        (.keep [2, 3]))
        (.ret))
       (.skip)))
     (.seq (.seq (.reg [⟨(some 19), none, .inl (.mv (.t 0))⟩,
         ⟨(some 20), none, .inl (.mv (.t 4))⟩,
         ⟨(some 21), none, .inl (.slice 1 (.t 19) none (some (.t 20)) none)⟩,
         ⟨(some 22), none, .inr (.call 21 [(.t 21)])⟩,
         ⟨(some 2), none, .inl (.mv (.t 22))⟩,
         ⟨(some 3), none, .inl (.mv (.c (.bool true)))⟩])
      (.keep [2, 3]))
      (.ret))))
def fc_crc_Open : FC := ⟨23, cmd_crc_Open, [.t 2, .t 3]⟩
theorem fc_crc_Open_ok : compF Try.prog 11 [[0], [0, 4], [0, 4, 18], [2, 3], [2, 3]] = some fc_crc_Open := by kernel_rfl
/-- joist/joistlaw01.Kept -/
abbrev F.joistlaw01_Kept : Nat := 12
def cmd_joistlaw01_Kept : Cmd :=
  .seq (.seq (.reg [⟨(some 4), none, .inl (.mv (.c (.bool false)))⟩])
   (.keep [0, 1]))
   (.seq (.seq (.reg [⟨(some 5), none, .inl (.mv (.t 0))⟩,
       ⟨(some 6), none, .inl (.b2s (.t 5))⟩,
       ⟨(some 7), none, .inl (.mv (.t 1))⟩,
       ⟨(some 8), none, .inl (.b2s (.t 7))⟩,
       ⟨(some 9), none, .inl (.bins .eql (.t 6) (.t 8))⟩,
       ⟨(some 10), none, .inl (.mv (.t 9))⟩,
       ⟨(some 11), (some (10, true)), .inl (.mv (.t 0))⟩,
       ⟨(some 12), (some (10, true)), .inl (.mv (.t 1))⟩,
       ⟨(some 13), (some (10, true)), .inl (.len (.t 12))⟩,
       ⟨(some 14), (some (10, true)), .inl (.bin .add (.t 13) (.c (.int .i64 1)))⟩,
       ⟨(some 15), (some (10, true)), .inl (.slice 1 (.t 11) none (some (.t 14)) none)⟩,
       ⟨(some 16), (some (10, true)), .inl (.mv (.t 1))⟩,
       ⟨(some 17), (some (10, true)), .inl (.len (.t 16))⟩,
       ⟨(some 18), (some (10, true)), .inl (.iaddr 1 (.t 15) (.t 17))⟩,
       ⟨(some 19), (some (10, true)), .inl (.load false 1 (.t 18))⟩,
       ⟨(some 20), (some (10, true)), .inl (.bin .eql (.t 19) (.c (.int .u8 77)))⟩,
       ⟨(some 21), none, .inl (.pick (.t 10) (.t 20) (.c (.bool false)))⟩,
       ⟨(some 4), none, .inl (.mv (.t 21))⟩])
    (.keep [4]))
    (.ret))
def fc_joistlaw01_Kept : FC := ⟨22, cmd_joistlaw01_Kept, [.t 4]⟩
theorem fc_joistlaw01_Kept_ok : compF Try.prog 12 [[0, 1], [4]] = some fc_joistlaw01_Kept := by kernel_rfl
/-- joist/joistref02.Open -/
abbrev F.joistref02_Open : Nat := 13
def cmd_joistref02_Open : Cmd :=
  .seq (.seq (.reg [⟨(some 2), none, .inl (.mv (.c .nils))⟩,
      ⟨(some 3), none, .inl (.mv (.c (.bool false)))⟩])
   (.keep [0]))
   (.seq (.seq (.reg [⟨(some 5), none, .inl (.mv (.t 0))⟩,
       ⟨(some 6), none, .inl (.len (.t 5))⟩,
       ⟨(some 7), none, .inl (.bin .sub (.t 6) (.c (.int .i64 8)))⟩,
       ⟨(some 4), none, .inl (.mv (.t 7))⟩])
    (.keep [0, 4]))
    (.seq (.seq (.seq (.ord [⟨0, ⟨(some 8), none, .inl (.mv (.t 4))⟩, [], false⟩,
        ⟨1, ⟨(some 9), none, .inl (.bin .lss (.t 8) (.c (.int .i64 0)))⟩, [], false⟩,
        ⟨2, ⟨(some 10), none, .inl (.mv (.t 9))⟩, [], false⟩,
        ⟨3, ⟨(some 11), (some (10, false)), .inl (.mv (.t 0))⟩, [], true⟩,
        ⟨4, ⟨(some 12), (some (10, false)), .inl (.mv (.t 4))⟩, [], true⟩,
        ⟨5, ⟨(some 13), (some (10, false)), .inl (.slice 1 (.t 11) (some (.t 12)) none none)⟩, [], true⟩,
        ⟨6, ⟨(some 14), (some (10, false)), .inl (.b2s (.t 13))⟩, [], true⟩,
        ⟨7, ⟨(some 15), (some (10, false)), .inl (.mv (.t 0))⟩, [], false⟩,
        ⟨8, ⟨(some 16), (some (10, false)), .inl (.mv (.t 4))⟩, [], false⟩,
        ⟨9, ⟨(some 17), (some (10, false)), .inl (.slice 1 (.t 15) none (some (.t 16)) none)⟩, [], false⟩,
        ⟨10, ⟨(some 18), (some (10, false)), .inr (.call 19 [(.t 17)])⟩, [3, 4, 5, 6], false⟩,
        ⟨11, ⟨(some 19), (some (10, false)), .inr (.call 23 [(.t 18)])⟩, [3, 4, 5, 6], false⟩,
        ⟨12, ⟨(some 20), (some (10, false)), .inl (.b2s (.t 19))⟩, [], false⟩,
        ⟨13, ⟨(some 21), (some (10, false)), .inl (.bins .neq (.t 14) (.t 20))⟩, [], false⟩,
        ⟨14, ⟨(some 22), none, .inl (.pick (.t 10) (.c (.bool true)) (.t 21))⟩, [], false⟩])
     (.keep [0, 4, 22]))
     (.cond (.t 22)
       (.seq (.seq (.reg [⟨(some 2), none, .inl (.mv (.c .nils))⟩,
           ⟨(some 3), none, .inl (.mv (.c (.bool false)))⟩])
        (.keep [2, 3]))
        (.ret))
       (.skip)))
     (.seq (.seq (.reg [⟨(some 23), none, .inr (.bslice 1 [(.int .u8 0)] 0 [])⟩,
         ⟨(some 24), none, .inl (.mv (.t 0))⟩,
         ⟨(some 25), none, .inl (.mv (.t 4))⟩,
         ⟨(some 26), none, .inl (.slice 1 (.t 24) none (some (.t 25)) none)⟩,
         ⟨(some 27), none, .inr (.append 1 1 (.t 23) (.t 26))⟩,
         ⟨(some 2), none, .inl (.mv (.t 27))⟩,
         ⟨(some 3), none, .inl (.mv (.c (.bool true)))⟩])
      (.keep [2, 3]))
      (.ret))))
def fc_joistref02_Open : FC := ⟨28, cmd_joistref02_Open, [.t 2, .t 3]⟩
theorem fc_joistref02_Open_ok : compF Try.prog 13 [[0], [0, 4], [0, 4, 22], [0, 1, 2, 3, 4, 5, 6, 7, 8, 9, 10, 11, 12, 13, 14], [2, 3], [2, 3]] = some fc_joistref02_Open := by kernel_rfl
/-- joist/joistref02.Seal -/
abbrev F.joistref02_Seal : Nat := 14
def cmd_joistref02_Seal : Cmd :=
  .seq (.seq (.reg [⟨(some 2), none, .inl (.mv (.c .nils))⟩])
   (.keep [0]))
   (.seq (.seq (.reg [⟨(some 3), none, .inr (.bslice 1 [(.int .u8 0)] 0 [])⟩,
       ⟨(some 4), none, .inl (.mv (.t 0))⟩,
       ⟨(some 5), none, .inr (.append 1 1 (.t 3) (.t 4))⟩,
       ⟨(some 6), none, .inl (.mv (.t 0))⟩,
       ⟨(some 7), none, .inr (.call 19 [(.t 6)])⟩,
       ⟨(some 8), none, .inr (.call 23 [(.t 7)])⟩,
       ⟨(some 9), none, .inr (.append 1 1 (.t 5) (.t 8))⟩,
       ⟨(some 2), none, .inl (.mv (.t 9))⟩])
    (.keep [2]))
    (.ret))
def fc_joistref02_Seal : FC := ⟨10, cmd_joistref02_Seal, [.t 2]⟩
theorem fc_joistref02_Seal_ok : compF Try.prog 14 [[0], [2]] = some fc_joistref02_Seal := by kernel_rfl
/-- joist/joistlaw01.Owned -/
abbrev F.joistlaw01_Owned : Nat := 15
def cmd_joistlaw01_Owned : Cmd :=
  .seq (.seq (.reg [⟨(some 2), none, .inl (.mv (.c (.bool false)))⟩])
   (.keep [0]))
   (.seq (.seq (.seq (.reg [⟨(some 3), none, .inl (.mv (.c (.int .i64 0)))⟩])
    (.keep [0, 3]))
    (.block 0 (.loop [0, 3] (.seq (.seq (.seq (.reg [⟨(some 9), none, .inl (.mv (.t 3))⟩,
        ⟨(some 10), none, .inl (.mv (.t 0))⟩,
        ⟨(some 11), none, .inl (.len (.t 10))⟩,
        ⟨(some 12), none, .inl (.bin .lss (.t 9) (.t 11))⟩])
     (.keep [0, 3, 12]))
     (.cond (.t 12)
       (.skip)
       (.exit 0)))
     (.seq (.block 1 (.seq (.seq (.ord [⟨0, ⟨(some 15), none, .inl (.mv (.t 0))⟩, [], false⟩,
         ⟨1, ⟨(some 16), none, .inl (.mv (.t 3))⟩, [], false⟩,
         ⟨2, ⟨(some 17), none, .inl (.iaddr 1 (.t 15) (.t 16))⟩, [], false⟩,
         ⟨3, ⟨(some 18), none, .inl (.load false 1 (.t 17))⟩, [], false⟩,
         ⟨4, ⟨(some 19), none, .inl (.mv (.t 0))⟩, [], false⟩,
         ⟨5, ⟨(some 20), none, .inl (.mv (.t 3))⟩, [], false⟩,
         ⟨6, ⟨(some 21), none, .inl (.iaddr 1 (.t 19) (.t 20))⟩, [], false⟩,
         ⟨7, ⟨(some 22), none, .inl (.load false 1 (.t 21))⟩, [], false⟩,
         ⟨8, ⟨(some 23), none, .inl (.cap (.t 22))⟩, [], false⟩,
         ⟨9, ⟨(some 24), none, .inl (.slice 1 (.t 18) none (some (.t 23)) none)⟩, [], false⟩,
         ⟨10, ⟨(some 4), none, .inl (.mv (.t 24))⟩, [], false⟩])
      (.keep [0, 3, 4]))
      (.seq (.seq (.reg [⟨(some 5), none, .inl (.mv (.c (.int .i64 0)))⟩])
       (.keep [0, 3, 4, 5]))
       (.block 2 (.loop [0, 3, 4, 5] (.seq (.seq (.seq (.reg [⟨(some 25), none, .inl (.mv (.t 5))⟩,
           ⟨(some 26), none, .inl (.mv (.t 4))⟩,
           ⟨(some 27), none, .inl (.len (.t 26))⟩,
           ⟨(some 28), none, .inl (.bin .lss (.t 25) (.t 27))⟩])
        (.keep [0, 3, 4, 5, 28]))
        (.cond (.t 28)
          (.skip)
          (.exit 2)))
        (.seq (.block 3 (.seq (.reg [⟨(some 31), none, .inl (.mv (.t 4))⟩,
            ⟨(some 32), none, .inl (.mv (.t 5))⟩,
            ⟨(some 33), none, .inl (.mv (.t 3))⟩,
            ⟨(some 34), none, .inl (.bin .add (.t 33) (.c (.int .i64 1)))⟩,
            ⟨(some 35), none, .inl (.conv .u8 (.t 34))⟩,
            ⟨(some 36), none, .inl (.iaddr 1 (.t 31) (.t 32))⟩,
            ⟨none, none, .inr (.store 1 (.t 36) (.t 35))⟩])
         (.keep [0, 3, 4, 5])))
         (.seq (.reg [⟨(some 29), none, .inl (.mv (.t 5))⟩,
             ⟨(some 30), none, .inl (.bin .add (.t 29) (.c (.int .i64 1)))⟩,
             ⟨(some 5), none, .inl (.mv (.t 30))⟩])
          (.keep [0, 3, 4, 5])))))))))
      (.seq (.reg [⟨(some 13), none, .inl (.mv (.t 3))⟩,
          ⟨(some 14), none, .inl (.bin .add (.t 13) (.c (.int .i64 1)))⟩,
          ⟨(some 3), none, .inl (.mv (.t 14))⟩])
       (.keep [0, 3])))))))
    (.seq (.seq (.seq (.reg [⟨(some 6), none, .inl (.mv (.c (.int .i64 0)))⟩])
     (.keep [0, 6]))
     (.block 4 (.loop [0, 6] (.seq (.seq (.seq (.reg [⟨(some 37), none, .inl (.mv (.t 6))⟩,
         ⟨(some 38), none, .inl (.mv (.t 0))⟩,
         ⟨(some 39), none, .inl (.len (.t 38))⟩,
         ⟨(some 40), none, .inl (.bin .lss (.t 37) (.t 39))⟩])
      (.keep [0, 6, 40]))
      (.cond (.t 40)
        (.skip)
        (.exit 4)))
      (.seq (.block 5 (.seq (.seq (.ord [⟨0, ⟨(some 43), none, .inl (.mv (.t 0))⟩, [], false⟩,
          ⟨1, ⟨(some 44), none, .inl (.mv (.t 6))⟩, [], false⟩,
          ⟨2, ⟨(some 45), none, .inl (.iaddr 1 (.t 43) (.t 44))⟩, [], false⟩,
          ⟨3, ⟨(some 46), none, .inl (.load false 1 (.t 45))⟩, [], false⟩,
          ⟨4, ⟨(some 47), none, .inl (.mv (.t 0))⟩, [], false⟩,
          ⟨5, ⟨(some 48), none, .inl (.mv (.t 6))⟩, [], false⟩,
          ⟨6, ⟨(some 49), none, .inl (.iaddr 1 (.t 47) (.t 48))⟩, [], false⟩,
          ⟨7, ⟨(some 50), none, .inl (.load false 1 (.t 49))⟩, [], false⟩,
          ⟨8, ⟨(some 51), none, .inl (.cap (.t 50))⟩, [], false⟩,
          ⟨9, ⟨(some 52), none, .inl (.slice 1 (.t 46) none (some (.t 51)) none)⟩, [], false⟩,
          ⟨10, ⟨(some 7), none, .inl (.mv (.t 52))⟩, [], false⟩])
       (.keep [0, 6, 7]))
       (.seq (.seq (.reg [⟨(some 8), none, .inl (.mv (.c (.int .i64 0)))⟩])
        (.keep [0, 6, 7, 8]))
        (.block 6 (.loop [0, 6, 7, 8] (.seq (.seq (.seq (.reg [⟨(some 53), none, .inl (.mv (.t 8))⟩,
            ⟨(some 54), none, .inl (.mv (.t 7))⟩,
            ⟨(some 55), none, .inl (.len (.t 54))⟩,
            ⟨(some 56), none, .inl (.bin .lss (.t 53) (.t 55))⟩])
         (.keep [0, 6, 7, 8, 56]))
         (.cond (.t 56)
           (.skip)
           (.exit 6)))
         (.seq (.block 7 (.seq (.seq (.reg [⟨(some 59), none, .inl (.mv (.t 7))⟩,
             ⟨(some 60), none, .inl (.mv (.t 8))⟩,
             ⟨(some 61), none, .inl (.iaddr 1 (.t 59) (.t 60))⟩,
             ⟨(some 62), none, .inl (.load false 1 (.t 61))⟩,
             ⟨(some 63), none, .inl (.mv (.t 6))⟩,
             ⟨(some 64), none, .inl (.bin .add (.t 63) (.c (.int .i64 1)))⟩,
             ⟨(some 65), none, .inl (.conv .u8 (.t 64))⟩,
             ⟨(some 66), none, .inl (.bin .neq (.t 62) (.t 65))⟩])
          (.keep [0, 6, 7, 8, 66]))
          (.cond (.t 66)
            (.seq (.seq (.reg [⟨(some 2), none, .inl (.mv (.c (.bool false)))⟩])
             (.keep [2]))
             (.ret))
            (.skip))))
          (.seq (.reg [⟨(some 57), none, .inl (.mv (.t 8))⟩,
              ⟨(some 58), none, .inl (.bin .add (.t 57) (.c (.int .i64 1)))⟩,
              ⟨(some 8), none, .inl (.mv (.t 58))⟩])
           (.keep [0, 6, 7, 8])))))))))
       (.seq (.reg [⟨(some 41), none, .inl (.mv (.t 6))⟩,
           ⟨(some 42), none, .inl (.bin .add (.t 41) (.c (.int .i64 1)))⟩,
           ⟨(some 6), none, .inl (.mv (.t 42))⟩])
        (.keep [0, 6])))))))
     (.seq (.seq (.reg [⟨(some 2), none, .inl (.mv (.c (.bool true)))⟩])
      (.keep [2]))
      (.ret))))
def fc_joistlaw01_Owned : FC := ⟨67, cmd_joistlaw01_Owned, [.t 2]⟩
theorem fc_joistlaw01_Owned_ok : compF Try.prog 15 [[0], [0, 3], [0, 3], [0, 3, 12], [0, 3, 4], [0, 1, 2, 3, 4, 5, 6, 7, 8, 9, 10], [0, 3, 4, 5], [0, 3, 4, 5], [0, 3, 4, 5, 28], [0, 3, 4, 5], [0, 3, 4, 5], [0, 3], [0, 6], [0, 6], [0, 6, 40], [0, 6, 7], [0, 1, 2, 3, 4, 5, 6, 7, 8, 9, 10], [0, 6, 7, 8], [0, 6, 7, 8], [0, 6, 7, 8, 56], [0, 6, 7, 8, 66], [2], [0, 6, 7, 8], [0, 6], [2]] = some fc_joistlaw01_Owned := by kernel_rfl
/-- joist/crc.Sum -/
abbrev F.crc_Sum : Nat := 16
def cmd_crc_Sum : Cmd :=
  .seq (.seq (.reg [⟨(some 2), none, .inl (.mv (.c (.int .i64 0)))⟩])
   (.keep [0]))
   (.seq (.seq (.reg [⟨(some 3), none, .inl (.mv (.t 0))⟩,
       ⟨(some 4), none, .inr (.call 24 [(.c (.int .u32 4294967295)), (.t 3)])⟩,
       ⟨(some 5), none, .inl (.un .xor (.t 4))⟩,
       ⟨(some 6), none, .inl (.conv .i64 (.t 5))⟩,
       ⟨(some 2), none, .inl (.mv (.t 6))⟩])
    (.keep [2]))
    (.ret))
def fc_crc_Sum : FC := ⟨7, cmd_crc_Sum, [.t 2]⟩
theorem fc_crc_Sum_ok : compF Try.prog 16 [[0], [2]] = some fc_crc_Sum := by kernel_rfl
/-- joist/crc.Add -/
abbrev F.crc_Add : Nat := 17
def cmd_crc_Add : Cmd :=
  .seq (.seq (.reg [⟨(some 4), none, .inl (.mv (.c (.int .i64 0)))⟩,
      ⟨(some 5), none, .inl (.mv (.c (.int .i64 0)))⟩])
   (.keep [0, 1]))
   (.seq (.seq (.seq (.reg [⟨(some 6), none, .inl (.mv (.t 0))⟩,
       ⟨(some 7), none, .inl (.bin .lss (.t 6) (.c (.int .i64 0)))⟩,
       ⟨(some 8), none, .inl (.mv (.t 7))⟩,
       ⟨(some 9), (some (8, false)), .inl (.mv (.t 0))⟩,
       ⟨(some 10), (some (8, false)), .inl (.bin .gtr (.t 9) (.c (.int .i64 4294967295)))⟩,
       ⟨(some 11), none, .inl (.pick (.t 8) (.c (.bool true)) (.t 10))⟩])
    (.keep [0, 1, 11]))
    (.cond (.t 11)
      (.seq (.seq (.reg [⟨(some 4), none, .inl (.mv (.c (.int .i64 0)))⟩,
          ⟨(some 5), none, .inl (.mv (.c (.int .i64 4)))⟩])
       (.keep [4, 5]))
       (.ret))
      (.skip)))
    (.seq (.seq (.reg [⟨(some 12), none, .inl (.mv (.t 0))⟩,
        ⟨(some 13), none, .inl (.conv .u32 (.t 12))⟩,
        ⟨(some 14), none, .inl (.un .xor (.t 13))⟩,
        ⟨(some 15), none, .inl (.mv (.t 1))⟩,
        ⟨(some 16), none, .inr (.call 24 [(.t 14), (.t 15)])⟩,
        ⟨(some 17), none, .inl (.un .xor (.t 16))⟩,
        ⟨(some 18), none, .inl (.conv .i64 (.t 17))⟩,
        ⟨(some 4), none, .inl (.mv (.t 18))⟩,
        ⟨(some 5), none, .inl (.mv (.c (.int .i64 0)))⟩])
     (.keep [4, 5]))
     (.ret)))
def fc_crc_Add : FC := ⟨19, cmd_crc_Add, [.t 4, .t 5]⟩
theorem fc_crc_Add_ok : compF Try.prog 17 [[0, 1], [0, 1, 11], [4, 5], [4, 5]] = some fc_crc_Add := by kernel_rfl
/-- joist/joistref02.Add -/
abbrev F.joistref02_Add : Nat := 18
def cmd_joistref02_Add : Cmd :=
  .seq (.seq (.reg [⟨(some 4), none, .inl (.mv (.c (.int .i64 0)))⟩,
      ⟨(some 5), none, .inl (.mv (.c (.int .i64 0)))⟩])
   (.keep [0, 1]))
   (.seq (.seq (.seq (.reg [⟨(some 6), none, .inl (.mv (.t 0))⟩,
       ⟨(some 7), none, .inl (.bin .lss (.t 6) (.c (.int .i64 0)))⟩,
       ⟨(some 8), none, .inl (.mv (.t 7))⟩,
       ⟨(some 9), (some (8, false)), .inl (.mv (.t 0))⟩,
       ⟨(some 10), (some (8, false)), .inl (.bin .gtr (.t 9) (.c (.int .i64 4294967295)))⟩,
       ⟨(some 11), none, .inl (.pick (.t 8) (.c (.bool true)) (.t 10))⟩])
    (.keep [0, 1, 11]))
    (.cond (.t 11)
      (.seq (.seq (.reg [⟨(some 4), none, .inl (.mv (.c (.int .i64 0)))⟩,
          ⟨(some 5), none, .inl (.mv (.c (.int .i64 4)))⟩])
       (.keep [4, 5]))
       (.ret))
      (.skip)))
    (.seq (.seq (.reg [⟨(some 12), none, .inl (.mv (.t 0))⟩,
        ⟨(some 13), none, .inl (.bin .xor (.c (.int .i64 4294967295)) (.t 12))⟩,
        ⟨(some 14), none, .inl (.mv (.t 1))⟩,
        ⟨(some 15), none, .inr (.call 25 [(.t 13), (.t 14)])⟩,
        ⟨(some 16), none, .inl (.bin .xor (.c (.int .i64 4294967295)) (.t 15))⟩,
        ⟨(some 4), none, .inl (.mv (.t 16))⟩,
        ⟨(some 5), none, .inl (.mv (.c (.int .i64 0)))⟩])
     (.keep [4, 5]))
     (.ret)))
def fc_joistref02_Add : FC := ⟨17, cmd_joistref02_Add, [.t 4, .t 5]⟩
theorem fc_joistref02_Add_ok : compF Try.prog 18 [[0, 1], [0, 1, 11], [4, 5], [4, 5]] = some fc_joistref02_Add := by kernel_rfl
/-- joist/joistref02.Sum -/
abbrev F.joistref02_Sum : Nat := 19
def cmd_joistref02_Sum : Cmd :=
  .seq (.seq (.reg [⟨(some 2), none, .inl (.mv (.c (.int .i64 0)))⟩])
   (.keep [0]))
   (.seq (.seq (.reg [⟨(some 3), none, .inl (.mv (.t 0))⟩,
       ⟨(some 4), none, .inr (.call 25 [(.c (.int .i64 4294967295)), (.t 3)])⟩,
       ⟨(some 5), none, .inl (.bin .xor (.c (.int .i64 4294967295)) (.t 4))⟩,
       ⟨(some 2), none, .inl (.mv (.t 5))⟩])
    (.keep [2]))
    (.ret))
def fc_joistref02_Sum : FC := ⟨6, cmd_joistref02_Sum, [.t 2]⟩
theorem fc_joistref02_Sum_ok : compF Try.prog 19 [[0], [2]] = some fc_joistref02_Sum := by kernel_rfl
/-- joist/words.Of -/
abbrev F.words_Of : Nat := 20
def cmd_words_Of : Cmd :=
  .seq (.seq (.reg [⟨(some 2), none, .inl (.mv (.c .nils))⟩,
      ⟨(some 3), none, .inl (.mv (.c (.int .i64 0)))⟩])
   (.keep [0]))
   (.seq (.seq (.reg [⟨(some 7), none, .inl (.mv (.t 0))⟩,
       ⟨(some 8), none, .inl (.len (.t 7))⟩,
       ⟨(some 9), none, .inl (.bin .mul (.t 8) (.c (.int .i64 8)))⟩,
       ⟨(some 10), none, .inr (.mksl 1 1 [(.int .u8 0)] (.t 9) (.t 9))⟩,
       ⟨(some 4), none, .inl (.mv (.t 10))⟩])
    (.keep [0, 4]))
    (.seq (.seq (.seq (.reg [⟨(some 11), none, .inl (.mv (.t 0))⟩,
        ⟨(some 12), none, .inl (.len (.t 11))⟩,
        ⟨(some 13), none, .inl (.mv (.c (.int .i64 0)))⟩])
     (.keep [4, 11, 12, 13]))
     (.block 0 (.loop [4, 11, 12, 13] (.seq (.seq (.reg [⟨(some 14), none, .inl (.bin .lss (.t 13) (.t 12))⟩])
      (.keep [4, 11, 12, 13, 14]))
      (.seq (.cond (.t 14)
        (.skip)
        (.exit 0))
       (.seq (.block 1 (.seq (.seq (.reg [⟨(some 15), none, .inl (.mv (.t 13))⟩,
           ⟨(some 16), none, .inl (.iaddr 1 (.t 11) (.t 13))⟩,
           ⟨(some 17), none, .inl (.load false 1 (.t 16))⟩,
           ⟨(some 5), none, .inl (.mv (.t 15))⟩,
           ⟨(some 6), none, .inl (.mv (.t 17))⟩])
        (.keep [4, 5, 6, 11, 12, 13]))
        (.seq (.seq (.seq (.reg [⟨(some 18), none, .inl (.mv (.t 6))⟩,
            ⟨(some 19), none, .inr (.call 26 [(.t 18)])⟩,
            ⟨(some 20), none, .inl (.un .not (.t 19))⟩])
         (.keep [4, 5, 6, 11, 12, 13, 20]))
         (.cond (.t 20)
           (.seq (.seq (.reg [⟨(some 2), none, .inl (.mv (.c .nils))⟩,
               ⟨(some 3), none, .inl (.mv (.c (.int .i64 4)))⟩])
            (.keep [2, 3]))
            (.ret))
           (.skip)))
         (.seq (.reg [⟨(some 21), none, .inl (.mv (.t 4))⟩,
             ⟨(some 22), none, .inl (.mv (.t 5))⟩,
             ⟨(some 23), none, .inr (.call 28 [(.t 21), (.t 22)])⟩,
             ⟨(some 24), none, .inl (.mv (.t 6))⟩,
             ⟨(some 25), none, .inr (.call 27 [(.t 23), (.t 24)])⟩])
          (.keep [4, 11, 12, 13])))))
        (.seq (.reg [⟨(some 26), none, .inl (.bin .add (.t 13) (.c (.int .i64 1)))⟩,
            ⟨(some 13), none, .inl (.mv (.t 26))⟩])
         (.keep [4, 11, 12, 13]))))))))
     (.seq (.seq (.reg [⟨(some 27), none, .inl (.mv (.t 4))⟩,
         ⟨(some 2), none, .inl (.mv (.t 27))⟩,
         ⟨(some 3), none, .inl (.mv (.c (.int .i64 0)))⟩])
      (.keep [2, 3]))
      (.ret))))
def fc_words_Of : FC := ⟨28, cmd_words_Of, [.t 2, .t 3]⟩
theorem fc_words_Of_ok : compF Try.prog 20 [[0], [0, 4], [4, 11, 12, 13], [4, 11, 12, 13], [4, 11, 12, 13, 14], [4, 5, 6, 11, 12, 13], [4, 5, 6, 11, 12, 13, 20], [2, 3], [4, 11, 12, 13], [4, 11, 12, 13], [2, 3]] = some fc_words_Of := by kernel_rfl
/-- bytes.Clone -/
abbrev F.bytes_Clone : Nat := 21
def cmd_bytes_Clone : Cmd :=
  .seq (.seq (.reg [⟨(some 2), none, .inl (.mv (.c .nils))⟩])
   (.keep [0]))
   (.seq (.seq (.seq (.reg [⟨(some 3), none, .inl (.mv (.t 0))⟩,
       ⟨(some 4), none, .inl (.eqnil false (.t 3))⟩])
    (.keep [0, 4]))
    (.cond (.t 4)
      (.seq (.seq (.reg [⟨(some 2), none, .inl (.mv (.c .nils))⟩])
       (.keep [2]))
       (.ret))
      (.skip)))
    (.seq (.seq (.reg [⟨(some 5), none, .inr (.bslice 1 [(.int .u8 0)] 0 [])⟩,
        ⟨(some 6), none, .inl (.mv (.t 0))⟩,
        ⟨(some 7), none, .inr (.append 1 1 (.t 5) (.t 6))⟩,
        ⟨(some 2), none, .inl (.mv (.t 7))⟩])
     (.keep [2]))
     (.ret)))
def fc_bytes_Clone : FC := ⟨8, cmd_bytes_Clone, [.t 2]⟩
theorem fc_bytes_Clone_ok : compF Try.prog 21 [[0], [0, 4], [2], [2]] = some fc_bytes_Clone := by kernel_rfl
/-- bytes.Equal -/
abbrev F.bytes_Equal : Nat := 22
def cmd_bytes_Equal : Cmd :=
  .seq (.seq (.reg [⟨(some 4), none, .inl (.mv (.c (.bool false)))⟩])
   (.keep [0, 1]))
   (.seq (.seq (.reg [⟨(some 5), none, .inl (.mv (.t 0))⟩,
       ⟨(some 6), none, .inl (.b2s (.t 5))⟩,
       ⟨(some 7), none, .inl (.mv (.t 1))⟩,
       ⟨(some 8), none, .inl (.b2s (.t 7))⟩,
       ⟨(some 9), none, .inl (.bins .eql (.t 6) (.t 8))⟩,
       ⟨(some 4), none, .inl (.mv (.t 9))⟩])
    (.keep [4]))
    (.ret))
def fc_bytes_Equal : FC := ⟨10, cmd_bytes_Equal, [.t 4]⟩
theorem fc_bytes_Equal_ok : compF Try.prog 22 [[0, 1], [4]] = some fc_bytes_Equal := by kernel_rfl
/-- joist/joistref01.Bytes -/
abbrev F.joistref01_Bytes : Nat := 23
def cmd_joistref01_Bytes : Cmd :=
  .seq (.seq (.reg [⟨(some 2), none, .inl (.mv (.c .nils))⟩])
   (.keep [0]))
   (.seq (.seq (.reg [⟨(some 3), none, .inl (.mv (.c .nils))⟩])
    (.keep [0, 3]))
    (.seq (.seq (.seq (.reg [⟨(some 4), none, .inl (.mv (.c (.int .i64 0)))⟩])
     (.keep [0, 3, 4]))
     (.block 0 (.loop [0, 3, 4] (.seq (.seq (.seq (.reg [⟨(some 5), none, .inl (.mv (.t 4))⟩,
         ⟨(some 6), none, .inl (.bin .lss (.t 5) (.c (.int .i64 8)))⟩])
      (.keep [0, 3, 4, 6]))
      (.cond (.t 6)
        (.skip)
        (.exit 0)))
      (.seq (.block 1 (.seq (.seq (.reg [⟨(some 9), none, .inl (.mv (.t 3))⟩,
          ⟨(some 10), none, .inl (.mv (.t 0))⟩,
          ⟨(some 11), none, .inl (.conv .u8 (.t 10))⟩,
          ⟨(some 12), none, .inr (.bslice 1 [(.int .u8 0)] 1 [(0, (.t 11))])⟩,
          ⟨(some 13), none, .inr (.append 1 1 (.t 9) (.t 12))⟩,
          ⟨(some 3), none, .inl (.mv (.t 13))⟩])
       (.keep [0, 3, 4]))
       (.seq (.reg [⟨(some 14), none, .inl (.mv (.t 0))⟩,
           ⟨(some 15), none, .inl (.bin .quo (.t 14) (.c (.int .i64 256)))⟩,
           ⟨(some 0), none, .inl (.mv (.t 15))⟩])
        (.keep [0, 3, 4]))))
       (.seq (.reg [⟨(some 7), none, .inl (.mv (.t 4))⟩,
           ⟨(some 8), none, .inl (.bin .add (.t 7) (.c (.int .i64 1)))⟩,
           ⟨(some 4), none, .inl (.mv (.t 8))⟩])
        (.keep [0, 3, 4])))))))
     (.seq (.seq (.reg [⟨(some 16), none, .inl (.mv (.t 3))⟩,
         ⟨(some 2), none, .inl (.mv (.t 16))⟩])
      (.keep [2]))
      (.ret))))
def fc_joistref01_Bytes : FC := ⟨17, cmd_joistref01_Bytes, [.t 2]⟩
theorem fc_joistref01_Bytes_ok : compF Try.prog 23 [[0], [0, 3], [0, 3, 4], [0, 3, 4], [0, 3, 4, 6], [0, 3, 4], [0, 3, 4], [0, 3, 4], [2]] = some fc_joistref01_Bytes := by kernel_rfl
/-- joist/crc.run -/
abbrev F.crc_run : Nat := 24
def cmd_crc_run : Cmd :=
  .seq (.seq (.reg [⟨(some 4), none, .inl (.mv (.c (.int .u32 0)))⟩])
   (.keep [0, 1]))
   (.seq (.seq (.seq (.reg [⟨(some 7), none, .inl (.mv (.t 1))⟩,
       ⟨(some 8), none, .inl (.len (.t 7))⟩,
       ⟨(some 9), none, .inl (.mv (.c (.int .i64 0)))⟩])
    (.keep [0, 7, 8, 9]))
    (.block 0 (.loop [0, 7, 8, 9] (.seq (.seq (.reg [⟨(some 10), none, .inl (.bin .lss (.t 9) (.t 8))⟩])
     (.keep [0, 7, 8, 9, 10]))
     (.seq (.cond (.t 10)
       (.skip)
       (.exit 0))
      (.seq (.block 1 (.seq (.seq (.reg [⟨(some 11), none, .inl (.iaddr 1 (.t 7) (.t 9))⟩,
          ⟨(some 12), none, .inl (.load false 1 (.t 11))⟩,
          ⟨(some 6), none, .inl (.mv (.t 12))⟩])
       (.keep [0, 6, 7, 8, 9]))
       (.seq (.reg [⟨(some 13), none, .inl (.mv (.t 0))⟩,
           ⟨(some 14), none, .inl (.mv (.t 6))⟩,
           ⟨(some 15), none, .inl (.conv .u32 (.t 14))⟩,
           ⟨(some 16), none, .inl (.bin .xor (.t 13) (.t 15))⟩,
           ⟨(some 17), none, .inr (.call 29 [(.t 16)])⟩,
           ⟨(some 0), none, .inl (.mv (.t 17))⟩])
        (.keep [0, 7, 8, 9]))))
       (.seq (.reg [⟨(some 18), none, .inl (.bin .add (.t 9) (.c (.int .i64 1)))⟩,
           ⟨(some 9), none, .inl (.mv (.t 18))⟩])
        (.keep [0, 7, 8, 9]))))))))
    (.seq (.seq (.reg [⟨(some 19), none, .inl (.mv (.t 0))⟩,
        ⟨(some 4), none, .inl (.mv (.t 19))⟩])
     (.keep [4]))
     (.ret)))
def fc_crc_run : FC := ⟨20, cmd_crc_run, [.t 4]⟩
theorem fc_crc_run_ok : compF Try.prog 24 [[0, 1], [0, 7, 8, 9], [0, 7, 8, 9], [0, 7, 8, 9, 10], [0, 6, 7, 8, 9], [0, 7, 8, 9], [0, 7, 8, 9], [4]] = some fc_crc_run := by kernel_rfl
/-- joist/joistref02.goOn -/
abbrev F.joistref02_goOn : Nat := 25
def cmd_joistref02_goOn : Cmd :=
  .seq (.seq (.reg [⟨(some 4), none, .inl (.mv (.c (.int .i64 0)))⟩])
   (.keep [0, 1]))
   (.seq (.seq (.seq (.reg [⟨(some 5), none, .inl (.mv (.c (.int .i64 0)))⟩])
    (.keep [0, 1, 5]))
    (.block 0 (.loop [0, 1, 5] (.seq (.seq (.seq (.reg [⟨(some 7), none, .inl (.mv (.t 5))⟩,
        ⟨(some 8), none, .inl (.mv (.t 1))⟩,
        ⟨(some 9), none, .inl (.len (.t 8))⟩,
        ⟨(some 10), none, .inl (.bin .lss (.t 7) (.t 9))⟩])
     (.keep [0, 1, 5, 10]))
     (.cond (.t 10)
       (.skip)
       (.exit 0)))
     (.seq (.block 1 (.seq (.seq (.reg [⟨(some 13), none, .inl (.mv (.t 0))⟩,
         ⟨(some 14), none, .inl (.mv (.t 1))⟩,
         ⟨(some 15), none, .inl (.mv (.t 5))⟩,
         ⟨(some 16), none, .inl (.iaddr 1 (.t 14) (.t 15))⟩,
         ⟨(some 17), none, .inl (.load false 1 (.t 16))⟩,
         ⟨(some 18), none, .inl (.conv .i64 (.t 17))⟩,
         ⟨(some 19), none, .inl (.bin .xor (.t 13) (.t 18))⟩,
         ⟨(some 0), none, .inl (.mv (.t 19))⟩])
      (.keep [0, 1, 5]))
      (.seq (.seq (.reg [⟨(some 6), none, .inl (.mv (.c (.int .i64 0)))⟩])
       (.keep [0, 1, 5, 6]))
       (.block 2 (.loop [0, 1, 5, 6] (.seq (.seq (.seq (.reg [⟨(some 20), none, .inl (.mv (.t 6))⟩,
           ⟨(some 21), none, .inl (.bin .lss (.t 20) (.c (.int .i64 8)))⟩])
        (.keep [0, 1, 5, 6, 21]))
        (.cond (.t 21)
          (.skip)
          (.exit 2)))
        (.seq (.block 3 (.seq (.seq (.reg [⟨(some 24), none, .inl (.mv (.t 0))⟩,
            ⟨(some 25), none, .inl (.bin .rem (.t 24) (.c (.int .i64 2)))⟩,
            ⟨(some 26), none, .inl (.bin .eql (.t 25) (.c (.int .i64 1)))⟩])
         (.keep [0, 1, 5, 6, 26]))
         (.cond (.t 26)
           (.seq (.reg [⟨(some 27), none, .inl (.mv (.t 0))⟩,
               ⟨(some 28), none, .inl (.bin .quo (.t 27) (.c (.int .i64 2)))⟩,
               ⟨(some 29), none, .inl (.bin .xor (.t 28) (.c (.int .i64 3988292384)))⟩,
               ⟨(some 0), none, .inl (.mv (.t 29))⟩])
            (.keep [0, 1, 5, 6]))
           (.seq (.reg [⟨(some 30), none, .inl (.mv (.t 0))⟩,
               ⟨(some 31), none, .inl (.bin .quo (.t 30) (.c (.int .i64 2)))⟩,
               ⟨(some 0), none, .inl (.mv (.t 31))⟩])
            (.keep [0, 1, 5, 6])))))
         (.seq (.reg [⟨(some 22), none, .inl (.mv (.t 6))⟩,
             ⟨(some 23), none, .inl (.bin .add (.t 22) (.c (.int .i64 1)))⟩,
             ⟨(some 6), none, .inl (.mv (.t 23))⟩])
          (.keep [0, 1, 5, 6])))))))))
      (.seq (.reg [⟨(some 11), none, .inl (.mv (.t 5))⟩,
          ⟨(some 12), none, .inl (.bin .add (.t 11) (.c (.int .i64 1)))⟩,
          ⟨(some 5), none, .inl (.mv (.t 12))⟩])
       (.keep [0, 1, 5])))))))
    (.seq (.seq (.reg [⟨(some 32), none, .inl (.mv (.t 0))⟩,
        ⟨(some 4), none, .inl (.mv (.t 32))⟩])
     (.keep [4]))
     (.ret)))
def fc_joistref02_goOn : FC := ⟨33, cmd_joistref02_goOn, [.t 4]⟩
theorem fc_joistref02_goOn_ok : compF Try.prog 25 [[0, 1], [0, 1, 5], [0, 1, 5], [0, 1, 5, 10], [0, 1, 5], [0, 1, 5, 6], [0, 1, 5, 6], [0, 1, 5, 6, 21], [0, 1, 5, 6, 26], [0, 1, 5, 6], [0, 1, 5, 6], [0, 1, 5, 6], [0, 1, 5], [4]] = some fc_joistref02_goOn := by kernel_rfl
/-- joist/words.may -/
abbrev F.words_may : Nat := 26
def cmd_words_may : Cmd :=
  .seq (.seq (.reg [⟨(some 2), none, .inl (.mv (.c (.bool false)))⟩])
   (.keep [0]))
   (.seq (.seq (.reg [⟨(some 3), none, .inl (.mv (.t 0))⟩,
       ⟨(some 4), none, .inl (.bin .geq (.t 3) (.c (.int .i64 0)))⟩,
       ⟨(some 5), none, .inl (.mv (.t 4))⟩,
       ⟨(some 6), (some (5, true)), .inl (.mv (.t 0))⟩,
       ⟨(some 7), (some (5, true)), .inl (.bin .leq (.t 6) (.c (.int .i64 4611686018427387903)))⟩,
       ⟨(some 8), none, .inl (.pick (.t 5) (.t 7) (.c (.bool false)))⟩,
       ⟨(some 2), none, .inl (.mv (.t 8))⟩])
    (.keep [2]))
    (.ret))
def fc_words_may : FC := ⟨9, cmd_words_may, [.t 2]⟩
theorem fc_words_may_ok : compF Try.prog 26 [[0], [2]] = some fc_words_may := by kernel_rfl
/-- joist/words.write -/
abbrev F.words_write : Nat := 27
def cmd_words_write : Cmd :=
  .seq (.seq (.reg [⟨(some 5), none, .inl (.mv (.c (.int .i64 0)))⟩])
   (.keep [0, 1, 5]))
   (.block 0 (.loop [0, 1, 5] (.seq (.seq (.reg [⟨(some 6), none, .inl (.bin .lss (.t 5) (.c (.int .i64 8)))⟩])
    (.keep [0, 1, 5, 6]))
    (.seq (.cond (.t 6)
      (.skip)
      (.exit 0))
     (.seq (.block 1 (.seq (.seq (.reg [⟨(some 7), none, .inl (.mv (.t 5))⟩,
         ⟨(some 4), none, .inl (.mv (.t 7))⟩])
      (.keep [0, 1, 4, 5]))
      (.seq (.reg [⟨(some 8), none, .inl (.mv (.t 0))⟩,
          ⟨(some 9), none, .inl (.mv (.t 4))⟩,
          ⟨(some 10), none, .inl (.mv (.t 1))⟩,
          ⟨(some 11), none, .inl (.mv (.t 4))⟩,
          ⟨(some 12), none, .inl (.bin .mul (.c (.int .i64 8)) (.t 11))⟩,
          ⟨(some 13), none, .inl (.bin .shr (.t 10) (.t 12))⟩,
          ⟨(some 14), none, .inl (.conv .u8 (.t 13))⟩,
          ⟨(some 15), none, .inl (.iaddr 1 (.t 8) (.t 9))⟩,
          ⟨none, none, .inr (.store 1 (.t 15) (.t 14))⟩])
       (.keep [0, 1, 5]))))
      (.seq (.reg [⟨(some 16), none, .inl (.bin .add (.t 5) (.c (.int .i64 1)))⟩,
          ⟨(some 5), none, .inl (.mv (.t 16))⟩])
       (.keep [0, 1, 5])))))))
def fc_words_write : FC := ⟨17, cmd_words_write, []⟩
theorem fc_words_write_ok : compF Try.prog 27 [[0, 1, 5], [0, 1, 5], [0, 1, 5, 6], [0, 1, 4, 5], [0, 1, 5], [0, 1, 5]] = some fc_words_write := by kernel_rfl
/-- joist/words.place -/
abbrev F.words_place : Nat := 28
def cmd_words_place : Cmd :=
  .seq (.seq (.reg [⟨(some 4), none, .inl (.mv (.c .nils))⟩])
   (.keep [0, 1]))
   (.seq (.seq (.seq (.reg [⟨(some 6), none, .inl (.mv (.t 1))⟩,
       ⟨(some 7), none, .inl (.bin .lss (.t 6) (.c (.int .i64 0)))⟩,
       ⟨(some 8), none, .inl (.mv (.t 7))⟩,
       ⟨(some 9), (some (8, false)), .inl (.mv (.t 1))⟩,
       ⟨(some 10), (some (8, false)), .inl (.mv (.t 0))⟩,
       ⟨(some 11), (some (8, false)), .inl (.len (.t 10))⟩,
       ⟨(some 12), (some (8, false)), .inl (.bin .quo (.t 11) (.c (.int .i64 8)))⟩,
       ⟨(some 13), (some (8, false)), .inl (.bin .geq (.t 9) (.t 12))⟩,
       ⟨(some 14), none, .inl (.pick (.t 8) (.c (.bool true)) (.t 13))⟩])
    (.keep [0, 1, 14]))
    (.cond (.t 14)
      (.seq (.seq (.reg [⟨(some 4), none, .inl (.mv (.c .nils))⟩])
       (.keep [4]))
       (.ret))
      (.skip)))
    (.seq (.seq (.reg [⟨(some 15), none, .inl (.mv (.t 1))⟩,
        ⟨(some 16), none, .inl (.bin .mul (.t 15) (.c (.int .i64 8)))⟩,
        ⟨(some 5), none, .inl (.mv (.t 16))⟩])
     (.keep [0, 5]))
     (.seq (.seq (.reg [⟨(some 17), none, .inl (.mv (.t 0))⟩,
         ⟨(some 18), none, .inl (.mv (.t 5))⟩,
         ⟨(some 19), none, .inl (.mv (.t 5))⟩,
         ⟨(some 20), none, .inl (.bin .add (.t 19) (.c (.int .i64 8)))⟩,
         ⟨(some 21), none, .inl (.slice 1 (.t 17) (some (.t 18)) (some (.t 20)) none)⟩,
         ⟨(some 4), none, .inl (.mv (.t 21))⟩])
      (.keep [4]))
      (.ret))))
def fc_words_place : FC := ⟨22, cmd_words_place, [.t 4]⟩
theorem fc_words_place_ok : compF Try.prog 28 [[0, 1], [0, 1, 14], [4], [0, 5], [4]] = some fc_words_place := by kernel_rfl
/-- joist/crc.step -/
abbrev F.crc_step : Nat := 29
def cmd_crc_step : Cmd :=
  .seq (.seq (.reg [⟨(some 2), none, .inl (.mv (.c (.int .u32 0)))⟩])
   (.keep [0]))
   (.seq (.seq (.seq (.reg [⟨(some 4), none, .inl (.mv (.c (.int .i64 0)))⟩])
    (.keep [0, 4]))
    (.block 0 (.loop [0, 4] (.seq (.seq (.reg [⟨(some 5), none, .inl (.bin .lss (.t 4) (.c (.int .i64 8)))⟩])
     (.keep [0, 4, 5]))
     (.seq (.cond (.t 5)
       (.skip)
       (.exit 0))
      (.seq (.block 1 (.seq (.seq (.reg [⟨(some 6), none, .inl (.mv (.t 0))⟩,
          ⟨(some 7), none, .inl (.bin .and (.t 6) (.c (.int .u32 1)))⟩,
          ⟨(some 3), none, .inl (.mv (.t 7))⟩])
       (.keep [0, 3, 4]))
       (.seq (.seq (.reg [⟨(some 8), none, .inl (.mv (.t 0))⟩,
           ⟨(some 9), none, .inl (.bin .shr (.t 8) (.c (.int .u64 1)))⟩,
           ⟨(some 0), none, .inl (.mv (.t 9))⟩])
        (.keep [0, 3, 4]))
        (.seq (.seq (.reg [⟨(some 10), none, .inl (.mv (.t 3))⟩,
            ⟨(some 11), none, .inl (.bin .eql (.t 10) (.c (.int .u32 1)))⟩])
         (.keep [0, 4, 11]))
         (.cond (.t 11)
           (.seq (.reg [⟨(some 12), none, .inl (.mv (.t 0))⟩,
               ⟨(some 13), none, .inl (.bin .xor (.t 12) (.c (.int .u32 3988292384)))⟩,
               ⟨(some 0), none, .inl (.mv (.t 13))⟩])
            (.keep [0, 4]))
           (.skip))))))
       (.seq (.reg [⟨(some 14), none, .inl (.bin .add (.t 4) (.c (.int .i64 1)))⟩,
           ⟨(some 4), none, .inl (.mv (.t 14))⟩])
        (.keep [0, 4]))))))))
    (.seq (.seq (.reg [⟨(some 15), none, .inl (.mv (.t 0))⟩,
        ⟨(some 2), none, .inl (.mv (.t 15))⟩])
     (.keep [2]))
     (.ret)))
def fc_crc_step : FC := ⟨16, cmd_crc_step, [.t 2]⟩
theorem fc_crc_step_ok : compF Try.prog 29 [[0], [0, 4], [0, 4], [0, 4, 5], [0, 3, 4], [0, 3, 4], [0, 4, 11], [0, 4], [0, 4], [2]] = some fc_crc_step := by kernel_rfl
end Go.Proofs.Ytllkiijnkklcmaa
