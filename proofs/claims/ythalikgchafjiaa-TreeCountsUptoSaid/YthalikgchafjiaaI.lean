import Derived.Test.YthalikgchafjiaaProg
import Derived.Test.YthalikgchafjiaaVG
import Derived.KernelRfl
namespace Go.Proofs.Ythalikgchafjiaa
open Go Go.Proofs.Ythalikgchafjiaa.V
set_option linter.unusedVariables false

theorem mixed : Try.prog.follows .mixedOrders = true := by kernel_rfl
/-- joist/joistlaw14.TreeExtents -/
abbrev F.joistlaw14_TreeExtents : Nat := 3
def cmd_joistlaw14_TreeExtents : Cmd :=
  .seq (.seq (.reg [⟨(some 8), none, .inl (.mv (.c (.bool false)))⟩])
   (.keep [0, 1, 2, 3]))
   (.seq (.seq (.reg [⟨(some 15), none, .inr (.call 9 [])⟩,
       ⟨(some 9), none, .inl (.mv (.t 15))⟩])
    (.keep [0, 1, 2, 3, 9]))
    (.seq (.seq (.reg [⟨(some 16), none, .inr (.bslice 1 [(.int .i64 0)] 0 [])⟩,
        ⟨(some 17), none, .inl (.mv (.t 0))⟩,
        ⟨(some 18), none, .inr (.append 1 8 (.t 16) (.t 17))⟩,
        ⟨(some 10), none, .inl (.mv (.t 18))⟩])
     (.keep [0, 1, 2, 3, 9, 10]))
     (.seq (.seq (.reg [⟨(some 20), none, .inl (.mv (.t 10))⟩,
         ⟨(some 21), none, .inr (.call 10 [(.t 20)])⟩,
         ⟨(some 19), none, .inl (.mv (.t 21))⟩,
         ⟨(some 22), none, .inl (.ext 0 (.t 19))⟩,
         ⟨(some 23), none, .inl (.ext 1 (.t 19))⟩,
         ⟨(some 11), none, .inl (.mv (.t 22))⟩,
         ⟨(some 12), none, .inl (.mv (.t 23))⟩])
      (.keep [0, 1, 2, 3, 9, 10, 11, 12]))
      (.seq (.seq (.reg [⟨(some 25), none, .inl (.mv (.t 0))⟩,
          ⟨(some 26), none, .inr (.call 11 [(.t 25)])⟩,
          ⟨(some 24), none, .inl (.mv (.t 26))⟩,
          ⟨(some 27), none, .inl (.ext 0 (.t 24))⟩,
          ⟨(some 28), none, .inl (.ext 1 (.t 24))⟩,
          ⟨(some 13), none, .inl (.mv (.t 27))⟩,
          ⟨(some 14), none, .inl (.mv (.t 28))⟩])
       (.keep [0, 1, 2, 3, 9, 10, 11, 12, 13, 14]))
       (.seq (.seq (.reg [⟨(some 29), none, .inl (.mv (.t 9))⟩,
           ⟨(some 30), none, .inl (.mv (.t 29))⟩,
           ⟨(some 31), (some (30, true)), .inl (.mv (.t 11))⟩,
           ⟨(some 32), (some (30, true)), .inl (.mv (.t 13))⟩,
           ⟨(some 33), (some (30, true)), .inr (.call 12 [(.t 31), (.t 32)])⟩,
           ⟨(some 34), none, .inl (.pick (.t 30) (.t 33) (.c (.bool false)))⟩,
           ⟨(some 35), none, .inl (.mv (.t 34))⟩,
           ⟨(some 36), (some (35, true)), .inl (.mv (.t 12))⟩,
           ⟨(some 37), (some (35, true)), .inl (.mv (.t 14))⟩,
           ⟨(some 38), (some (35, true)), .inl (.binb .eql (.t 36) (.t 37))⟩,
           ⟨(some 39), none, .inl (.pick (.t 35) (.t 38) (.c (.bool false)))⟩,
           ⟨(some 40), none, .inl (.mv (.t 39))⟩,
           ⟨(some 41), (some (40, true)), .inl (.mv (.t 10))⟩,
           ⟨(some 42), (some (40, true)), .inl (.mv (.t 0))⟩,
           ⟨(some 43), (some (40, true)), .inr (.call 13 [(.t 41), (.t 42)])⟩,
           ⟨(some 44), none, .inl (.pick (.t 40) (.t 43) (.c (.bool false)))⟩,
           ⟨(some 45), none, .inl (.mv (.t 44))⟩,
           ⟨(some 46), (some (45, true)), .inl (.mv (.t 1))⟩,
           ⟨(some 47), (some (45, true)), .inl (.mv (.t 2))⟩,
           ⟨(some 48), (some (45, true)), .inr (.call 14 [(.t 46), (.t 47)])⟩,
           ⟨(some 49), (some (45, true)), .inl (.mv (.t 1))⟩,
           ⟨(some 50), (some (45, true)), .inl (.mv (.t 2))⟩,
           ⟨(some 51), (some (45, true)), .inr (.call 15 [(.t 49), (.t 50)])⟩,
           ⟨(some 52), (some (45, true)), .inl (.binb .eql (.t 48) (.t 51))⟩,
           ⟨(some 53), none, .inl (.pick (.t 45) (.t 52) (.c (.bool false)))⟩,
           ⟨(some 54), none, .inl (.mv (.t 53))⟩,
           ⟨(some 55), (some (54, true)), .inl (.mv (.t 3))⟩,
           ⟨(some 56), (some (54, true)), .inr (.call 16 [(.t 55)])⟩,
           ⟨(some 57), (some (54, true)), .inl (.mv (.t 3))⟩,
           ⟨(some 58), (some (54, true)), .inr (.call 17 [(.t 57)])⟩,
           ⟨(some 59), (some (54, true)), .inl (.bin .eql (.t 56) (.t 58))⟩,
           ⟨(some 60), none, .inl (.pick (.t 54) (.t 59) (.c (.bool false)))⟩,
           ⟨(some 8), none, .inl (.mv (.t 60))⟩])
        (.keep [8]))
        (.ret))))))
def fc_joistlaw14_TreeExtents : FC := ⟨61, cmd_joistlaw14_TreeExtents, [.t 8]⟩
theorem fc_joistlaw14_TreeExtents_ok : compF Try.prog 3 [[0, 1, 2, 3], [0, 1, 2, 3, 9], [0, 1, 2, 3, 9, 10], [0, 1, 2, 3, 9, 10, 11, 12], [0, 1, 2, 3, 9, 10, 11, 12, 13, 14], [8]] = some fc_joistlaw14_TreeExtents := by kernel_rfl
/-- joist/joistlaw14.TreeWrites -/
abbrev F.joistlaw14_TreeWrites : Nat := 4
def cmd_joistlaw14_TreeWrites : Cmd :=
  .seq (.seq (.reg [⟨(some 6), none, .inl (.mv (.c (.bool false)))⟩])
   (.keep [0, 1, 2]))
   (.seq (.seq (.reg [⟨(some 14), none, .inr (.call 9 [])⟩,
       ⟨(some 7), none, .inl (.mv (.t 14))⟩])
    (.keep [0, 1, 2, 7]))
    (.seq (.seq (.seq (.reg [⟨(some 15), none, .inl (.mv (.t 2))⟩,
        ⟨(some 16), none, .inl (.len (.t 15))⟩,
        ⟨(some 17), none, .inl (.bin .gtr (.t 16) (.c (.int .i64 300)))⟩])
     (.keep [0, 1, 2, 7, 17]))
     (.cond (.t 17)
       (.seq (.seq (.reg [⟨(some 18), none, .inl (.mv (.t 7))⟩,
           ⟨(some 6), none, .inl (.mv (.t 18))⟩])
        (.keep [6]))
        (.ret))
       (.skip)))
     (.seq (.seq (.reg [⟨(some 20), none, .inl (.mv (.t 0))⟩,
         ⟨(some 21), none, .inl (.mv (.t 1))⟩,
         ⟨(some 22), none, .inl (.mv (.t 2))⟩,
         ⟨(some 23), none, .inr (.call 18 [(.t 20), (.t 21), (.t 22)])⟩,
         ⟨(some 19), none, .inl (.mv (.t 23))⟩,
         ⟨(some 24), none, .inl (.ext 0 (.t 19))⟩,
         ⟨(some 25), none, .inl (.ext 1 (.t 19))⟩,
         ⟨(some 8), none, .inl (.mv (.t 24))⟩,
         ⟨(some 9), none, .inl (.mv (.t 25))⟩])
      (.keep [0, 1, 2, 7, 8, 9]))
      (.seq (.seq (.reg [⟨(some 27), none, .inl (.mv (.t 0))⟩,
          ⟨(some 28), none, .inl (.mv (.t 1))⟩,
          ⟨(some 29), none, .inl (.mv (.t 2))⟩,
          ⟨(some 30), none, .inr (.call 19 [(.t 27), (.t 28), (.t 29)])⟩,
          ⟨(some 26), none, .inl (.mv (.t 30))⟩,
          ⟨(some 31), none, .inl (.ext 0 (.t 26))⟩,
          ⟨(some 32), none, .inl (.ext 1 (.t 26))⟩,
          ⟨(some 10), none, .inl (.mv (.t 31))⟩,
          ⟨(some 11), none, .inl (.mv (.t 32))⟩])
       (.keep [7, 8, 9, 10, 11]))
       (.seq (.seq (.reg [⟨(some 33), none, .inl (.mv (.t 8))⟩,
           ⟨(some 34), none, .inl (.b2s (.t 33))⟩,
           ⟨(some 35), none, .inl (.mv (.t 10))⟩,
           ⟨(some 36), none, .inl (.b2s (.t 35))⟩,
           ⟨(some 37), none, .inl (.bins .eql (.t 34) (.t 36))⟩,
           ⟨(some 12), none, .inl (.mv (.t 37))⟩])
        (.keep [7, 8, 9, 11, 12]))
        (.seq (.seq (.reg [⟨(some 38), none, .inl (.mv (.t 8))⟩,
            ⟨(some 39), none, .inr (.bslice 1 [.nils] 2 [(0, (.t 38)), (1, (.c .nils))])⟩,
            ⟨(some 40), none, .inr (.call 20 [(.t 39)])⟩,
            ⟨(some 13), none, .inl (.mv (.t 40))⟩])
         (.keep [7, 9, 11, 12, 13]))
         (.seq (.seq (.reg [⟨(some 41), none, .inl (.mv (.t 7))⟩,
             ⟨(some 42), none, .inl (.mv (.t 41))⟩,
             ⟨(some 43), (some (42, true)), .inl (.mv (.t 12))⟩,
             ⟨(some 44), none, .inl (.pick (.t 42) (.t 43) (.c (.bool false)))⟩,
             ⟨(some 45), none, .inl (.mv (.t 44))⟩,
             ⟨(some 46), (some (45, true)), .inl (.mv (.t 13))⟩,
             ⟨(some 47), none, .inl (.pick (.t 45) (.t 46) (.c (.bool false)))⟩,
             ⟨(some 48), none, .inl (.mv (.t 47))⟩,
             ⟨(some 49), (some (48, true)), .inl (.mv (.t 9))⟩,
             ⟨(some 50), (some (48, true)), .inl (.mv (.t 11))⟩,
             ⟨(some 51), (some (48, true)), .inl (.bin .eql (.t 49) (.t 50))⟩,
             ⟨(some 52), none, .inl (.pick (.t 48) (.t 51) (.c (.bool false)))⟩,
             ⟨(some 6), none, .inl (.mv (.t 52))⟩])
          (.keep [6]))
          (.ret))))))))
def fc_joistlaw14_TreeWrites : FC := ⟨53, cmd_joistlaw14_TreeWrites, [.t 6]⟩
theorem fc_joistlaw14_TreeWrites_ok : compF Try.prog 4 [[0, 1, 2], [0, 1, 2, 7], [0, 1, 2, 7, 17], [6], [0, 1, 2, 7, 8, 9], [7, 8, 9, 10, 11], [7, 8, 9, 11, 12], [7, 9, 11, 12, 13], [6]] = some fc_joistlaw14_TreeWrites := by kernel_rfl
/-- joist/joistlaw14.TreeReads -/
abbrev F.joistlaw14_TreeReads : Nat := 5
def cmd_joistlaw14_TreeReads : Cmd :=
  .seq (.seq (.reg [⟨(some 6), none, .inl (.mv (.c (.bool false)))⟩])
   (.keep [0, 1, 2]))
   (.seq (.seq (.reg [⟨(some 18), none, .inr (.call 9 [])⟩,
       ⟨(some 7), none, .inl (.mv (.t 18))⟩])
    (.keep [0, 1, 2, 7]))
    (.seq (.seq (.seq (.reg [⟨(some 19), none, .inl (.mv (.t 1))⟩,
        ⟨(some 20), none, .inl (.len (.t 19))⟩,
        ⟨(some 21), none, .inl (.bin .gtr (.t 20) (.c (.int .i64 8192)))⟩])
     (.keep [0, 1, 2, 7, 21]))
     (.cond (.t 21)
       (.seq (.seq (.reg [⟨(some 22), none, .inl (.mv (.t 7))⟩,
           ⟨(some 6), none, .inl (.mv (.t 22))⟩])
        (.keep [6]))
        (.ret))
       (.skip)))
     (.seq (.seq (.reg [⟨(some 23), none, .inl (.mv (.t 1))⟩,
         ⟨(some 24), none, .inr (.call 21 [(.t 23)])⟩,
         ⟨(some 8), none, .inl (.mv (.t 24))⟩])
      (.keep [0, 1, 2, 7, 8]))
      (.seq (.seq (.reg [⟨(some 26), none, .inl (.mv (.t 0))⟩,
          ⟨(some 27), none, .inl (.mv (.t 8))⟩,
          ⟨(some 28), none, .inr (.call 22 [(.t 26), (.t 27)])⟩,
          ⟨(some 25), none, .inl (.mv (.t 28))⟩,
          ⟨(some 29), none, .inl (.ext 0 (.t 25))⟩,
          ⟨(some 30), none, .inl (.ext 1 (.t 25))⟩,
          ⟨(some 9), none, .inl (.mv (.t 29))⟩,
          ⟨(some 10), none, .inl (.mv (.t 30))⟩])
       (.keep [0, 1, 2, 7, 8, 9, 10]))
       (.seq (.seq (.reg [⟨(some 32), none, .inl (.mv (.t 0))⟩,
           ⟨(some 33), none, .inl (.mv (.t 8))⟩,
           ⟨(some 34), none, .inl (.mv (.t 2))⟩,
           ⟨(some 35), none, .inr (.call 23 [(.t 32), (.t 33), (.t 34)])⟩,
           ⟨(some 31), none, .inl (.mv (.t 35))⟩,
           ⟨(some 36), none, .inl (.ext 0 (.t 31))⟩,
           ⟨(some 37), none, .inl (.ext 1 (.t 31))⟩,
           ⟨(some 11), none, .inr (.alloc [(.int .i64 0), (.int .i64 0), (.int .i64 0)])⟩,
           ⟨none, none, .inr (.store 3 (.t 11) (.t 36))⟩,
           ⟨(some 12), none, .inl (.mv (.t 37))⟩])
        (.keep [0, 1, 2, 7, 8, 9, 10, 11, 12]))
        (.seq (.seq (.reg [⟨(some 38), none, .inl (.mv (.t 8))⟩,
            ⟨(some 39), none, .inl (.mv (.t 1))⟩,
            ⟨(some 40), none, .inr (.call 24 [(.t 38), (.t 39)])⟩,
            ⟨(some 13), none, .inl (.mv (.t 40))⟩])
         (.keep [0, 1, 2, 7, 9, 10, 11, 12, 13]))
         (.seq (.seq (.reg [⟨(some 42), none, .inl (.mv (.t 0))⟩,
             ⟨(some 43), none, .inl (.mv (.t 1))⟩,
             ⟨(some 44), none, .inr (.call 25 [(.t 42), (.t 43)])⟩,
             ⟨(some 41), none, .inl (.mv (.t 44))⟩,
             ⟨(some 45), none, .inl (.ext 0 (.t 41))⟩,
             ⟨(some 46), none, .inl (.ext 1 (.t 41))⟩,
             ⟨(some 14), none, .inl (.mv (.t 45))⟩,
             ⟨(some 15), none, .inl (.mv (.t 46))⟩])
          (.keep [0, 1, 2, 7, 9, 10, 11, 12, 13, 14, 15]))
          (.seq (.seq (.reg [⟨(some 48), none, .inl (.mv (.t 0))⟩,
              ⟨(some 49), none, .inl (.mv (.t 1))⟩,
              ⟨(some 50), none, .inl (.mv (.t 2))⟩,
              ⟨(some 51), none, .inr (.call 26 [(.t 48), (.t 49), (.t 50)])⟩,
              ⟨(some 47), none, .inl (.mv (.t 51))⟩,
              ⟨(some 52), none, .inl (.ext 0 (.t 47))⟩,
              ⟨(some 53), none, .inl (.ext 1 (.t 47))⟩,
              ⟨(some 16), none, .inr (.alloc [(.int .i64 0), (.int .i64 0), (.int .i64 0)])⟩,
              ⟨none, none, .inr (.store 3 (.t 16) (.t 52))⟩,
              ⟨(some 17), none, .inl (.mv (.t 53))⟩])
           (.keep [7, 9, 10, 11, 12, 13, 14, 15, 16, 17]))
           (.seq (.seq (.reg [⟨(some 54), none, .inl (.mv (.t 7))⟩,
               ⟨(some 55), none, .inl (.mv (.t 54))⟩,
               ⟨(some 56), (some (55, true)), .inl (.mv (.t 13))⟩,
               ⟨(some 57), none, .inl (.pick (.t 55) (.t 56) (.c (.bool false)))⟩,
               ⟨(some 58), none, .inl (.mv (.t 57))⟩,
               ⟨(some 59), (some (58, true)), .inl (.mv (.t 9))⟩,
               ⟨(some 60), (some (58, true)), .inl (.mv (.t 14))⟩,
               ⟨(some 61), (some (58, true)), .inr (.call 12 [(.t 59), (.t 60)])⟩,
               ⟨(some 62), none, .inl (.pick (.t 58) (.t 61) (.c (.bool false)))⟩,
               ⟨(some 63), none, .inl (.mv (.t 62))⟩,
               ⟨(some 64), (some (63, true)), .inl (.mv (.t 10))⟩,
               ⟨(some 65), (some (63, true)), .inl (.mv (.t 15))⟩,
               ⟨(some 66), (some (63, true)), .inl (.binb .eql (.t 64) (.t 65))⟩,
               ⟨(some 67), none, .inl (.pick (.t 63) (.t 66) (.c (.bool false)))⟩,
               ⟨(some 68), none, .inl (.mv (.t 67))⟩,
               ⟨(some 69), (some (68, true)), .inl (.load true 3 (.t 11))⟩,
               ⟨(some 70), (some (68, true)), .inl (.load true 3 (.t 16))⟩,
               ⟨(some 71), (some (68, true)), .inl (.eqagg false [0, 0, 0] (.t 69) (.t 70))⟩,
               ⟨(some 72), none, .inl (.pick (.t 68) (.t 71) (.c (.bool false)))⟩,
               ⟨(some 73), none, .inl (.mv (.t 72))⟩,
               ⟨(some 74), (some (73, true)), .inl (.mv (.t 12))⟩,
               ⟨(some 75), (some (73, true)), .inl (.mv (.t 17))⟩,
               ⟨(some 76), (some (73, true)), .inl (.binb .eql (.t 74) (.t 75))⟩,
               ⟨(some 77), none, .inl (.pick (.t 73) (.t 76) (.c (.bool false)))⟩,
               ⟨(some 6), none, .inl (.mv (.t 77))⟩])
            (.keep [6]))
            (.ret))))))))))
def fc_joistlaw14_TreeReads : FC := ⟨78, cmd_joistlaw14_TreeReads, [.t 6]⟩
theorem fc_joistlaw14_TreeReads_ok : compF Try.prog 5 [[0, 1, 2], [0, 1, 2, 7], [0, 1, 2, 7, 21], [6], [0, 1, 2, 7, 8], [0, 1, 2, 7, 8, 9, 10], [0, 1, 2, 7, 8, 9, 10, 11, 12], [0, 1, 2, 7, 9, 10, 11, 12, 13], [0, 1, 2, 7, 9, 10, 11, 12, 13, 14, 15], [7, 9, 10, 11, 12, 13, 14, 15, 16, 17], [6]] = some fc_joistlaw14_TreeReads := by kernel_rfl
/-- joist/joistlaw14.TreeBack -/
abbrev F.joistlaw14_TreeBack : Nat := 6
def cmd_joistlaw14_TreeBack : Cmd :=
  .seq (.seq (.reg [⟨(some 10), none, .inl (.mv (.c (.bool false)))⟩])
   (.keep [0, 1, 2, 3, 4]))
   (.seq (.seq (.reg [⟨(some 22), none, .inr (.call 9 [])⟩,
       ⟨(some 11), none, .inl (.mv (.t 22))⟩])
    (.keep [0, 1, 2, 3, 4, 11]))
    (.seq (.seq (.seq (.reg [⟨(some 23), none, .inl (.mv (.t 3))⟩,
        ⟨(some 24), none, .inl (.len (.t 23))⟩,
        ⟨(some 25), none, .inl (.bin .gtr (.t 24) (.c (.int .i64 300)))⟩,
        ⟨(some 26), none, .inl (.mv (.t 25))⟩,
        ⟨(some 27), (some (26, false)), .inl (.mv (.t 4))⟩,
        ⟨(some 28), (some (26, false)), .inl (.len (.t 27))⟩,
        ⟨(some 29), (some (26, false)), .inl (.bin .gtr (.t 28) (.c (.int .i64 8192)))⟩,
        ⟨(some 30), none, .inl (.pick (.t 26) (.c (.bool true)) (.t 29))⟩])
     (.keep [0, 1, 2, 3, 4, 11, 30]))
     (.cond (.t 30)
       (.seq (.seq (.reg [⟨(some 31), none, .inl (.mv (.t 11))⟩,
           ⟨(some 10), none, .inl (.mv (.t 31))⟩])
        (.keep [10]))
        (.ret))
       (.skip)))
     (.seq (.seq (.reg [⟨(some 33), none, .inl (.mv (.t 0))⟩,
         ⟨(some 34), none, .inr (.call 10 [(.t 33)])⟩,
         ⟨(some 32), none, .inl (.mv (.t 34))⟩,
         ⟨(some 35), none, .inl (.ext 0 (.t 32))⟩,
         ⟨(some 36), none, .inl (.ext 1 (.t 32))⟩,
         ⟨(some 12), none, .inl (.mv (.t 35))⟩,
         ⟨(some 13), none, .inl (.mv (.t 36))⟩])
      (.keep [0, 1, 2, 3, 4, 11, 12, 13]))
      (.seq (.seq (.seq (.reg [⟨(some 37), none, .inl (.mv (.t 13))⟩,
          ⟨(some 38), none, .inl (.mv (.t 37))⟩,
          ⟨(some 39), (some (38, true)), .inl (.mv (.t 0))⟩,
          ⟨(some 40), (some (38, true)), .inl (.len (.t 39))⟩,
          ⟨(some 41), (some (38, true)), .inl (.mv (.t 12))⟩,
          ⟨(some 42), (some (38, true)), .inr (.call 14 [(.t 40), (.t 41)])⟩,
          ⟨(some 43), (some (38, true)), .inl (.un .not (.t 42))⟩,
          ⟨(some 44), none, .inl (.pick (.t 38) (.t 43) (.c (.bool false)))⟩])
       (.keep [1, 2, 3, 4, 11, 44]))
       (.cond (.t 44)
         (.seq (.seq (.reg [⟨(some 10), none, .inl (.mv (.c (.bool false)))⟩])
          (.keep [10]))
          (.ret))
         (.skip)))
       (.seq (.seq (.reg [⟨(some 46), none, .inl (.mv (.t 1))⟩,
           ⟨(some 47), none, .inl (.mv (.t 2))⟩,
           ⟨(some 48), none, .inl (.mv (.t 3))⟩,
           ⟨(some 49), none, .inr (.call 18 [(.t 46), (.t 47), (.t 48)])⟩,
           ⟨(some 45), none, .inl (.mv (.t 49))⟩,
           ⟨(some 50), none, .inl (.ext 0 (.t 45))⟩,
           ⟨(some 51), none, .inl (.ext 1 (.t 45))⟩,
           ⟨(some 14), none, .inl (.mv (.t 50))⟩,
           ⟨(some 15), none, .inl (.mv (.t 51))⟩])
        (.keep [1, 2, 3, 4, 11, 14, 15]))
        (.seq (.seq (.seq (.reg [⟨(some 52), none, .inl (.mv (.t 15))⟩,
            ⟨(some 53), none, .inl (.bin .eql (.t 52) (.c (.int .i64 0)))⟩])
         (.keep [1, 2, 3, 4, 11, 14, 53]))
         (.cond (.t 53)
           (.seq (.seq (.reg [⟨(some 55), none, .inl (.mv (.t 1))⟩,
               ⟨(some 56), none, .inl (.mv (.t 14))⟩,
               ⟨(some 57), none, .inr (.call 22 [(.t 55), (.t 56)])⟩,
               ⟨(some 54), none, .inl (.mv (.t 57))⟩,
               ⟨(some 58), none, .inl (.ext 0 (.t 54))⟩,
               ⟨(some 59), none, .inl (.ext 1 (.t 54))⟩,
               ⟨(some 16), none, .inl (.mv (.t 58))⟩,
               ⟨(some 17), none, .inl (.mv (.t 59))⟩])
            (.keep [1, 2, 3, 4, 11, 14, 16, 17]))
            (.seq (.seq (.reg [⟨(some 60), none, .inl (.mv (.t 17))⟩,
                ⟨(some 61), none, .inl (.un .not (.t 60))⟩,
                ⟨(some 62), none, .inl (.mv (.t 61))⟩,
                ⟨(some 63), (some (62, false)), .inl (.mv (.t 3))⟩,
                ⟨(some 64), (some (62, false)), .inl (.mv (.t 16))⟩,
                ⟨(some 65), (some (62, false)), .inr (.call 12 [(.t 63), (.t 64)])⟩,
                ⟨(some 66), (some (62, false)), .inl (.un .not (.t 65))⟩,
                ⟨(some 67), none, .inl (.pick (.t 62) (.c (.bool true)) (.t 66))⟩,
                ⟨(some 68), none, .inl (.mv (.t 67))⟩,
                ⟨(some 69), (some (68, false)), .inl (.mv (.t 14))⟩,
                ⟨(some 70), (some (68, false)), .inl (.len (.t 69))⟩,
                ⟨(some 71), (some (68, false)), .inl (.mv (.t 2))⟩,
                ⟨(some 72), (some (68, false)), .inl (.bin .mul (.c (.int .i64 128)) (.t 71))⟩,
                ⟨(some 73), (some (68, false)), .inl (.bin .neq (.t 70) (.t 72))⟩,
                ⟨(some 74), none, .inl (.pick (.t 68) (.c (.bool true)) (.t 73))⟩])
             (.keep [1, 4, 11, 74]))
             (.cond (.t 74)
               (.seq (.seq (.reg [⟨(some 10), none, .inl (.mv (.c (.bool false)))⟩])
                (.keep [10]))
                (.ret))
               (.skip))))
           (.skip)))
         (.seq (.seq (.reg [⟨(some 76), none, .inl (.mv (.t 1))⟩,
             ⟨(some 77), none, .inl (.mv (.t 4))⟩,
             ⟨(some 78), none, .inr (.call 22 [(.t 76), (.t 77)])⟩,
             ⟨(some 75), none, .inl (.mv (.t 78))⟩,
             ⟨(some 79), none, .inl (.ext 0 (.t 75))⟩,
             ⟨(some 80), none, .inl (.ext 1 (.t 75))⟩,
             ⟨(some 18), none, .inl (.mv (.t 79))⟩,
             ⟨(some 19), none, .inl (.mv (.t 80))⟩])
          (.keep [1, 4, 11, 18, 19]))
          (.seq (.seq (.seq (.reg [⟨(some 81), none, .inl (.mv (.t 19))⟩,
              ⟨(some 82), none, .inl (.un .not (.t 81))⟩])
           (.keep [1, 4, 11, 18, 82]))
           (.cond (.t 82)
             (.seq (.seq (.reg [⟨(some 83), none, .inl (.mv (.t 11))⟩,
                 ⟨(some 84), none, .inl (.mv (.t 83))⟩,
                 ⟨(some 85), (some (84, true)), .inl (.mv (.t 18))⟩,
                 ⟨(some 86), (some (84, true)), .inl (.len (.t 85))⟩,
                 ⟨(some 87), (some (84, true)), .inl (.bin .eql (.t 86) (.c (.int .i64 0)))⟩,
                 ⟨(some 88), none, .inl (.pick (.t 84) (.t 87) (.c (.bool false)))⟩,
                 ⟨(some 10), none, .inl (.mv (.t 88))⟩])
              (.keep [10]))
              (.ret))
             (.skip)))
           (.seq (.seq (.reg [⟨(some 90), none, .inl (.mv (.t 1))⟩,
               ⟨(some 91), none, .inl (.mv (.t 4))⟩,
               ⟨(some 92), none, .inl (.len (.t 91))⟩,
               ⟨(some 93), none, .inl (.bin .quo (.t 92) (.c (.int .i64 128)))⟩,
               ⟨(some 94), none, .inl (.mv (.t 18))⟩,
               ⟨(some 95), none, .inr (.call 18 [(.t 90), (.t 93), (.t 94)])⟩,
               ⟨(some 89), none, .inl (.mv (.t 95))⟩,
               ⟨(some 96), none, .inl (.ext 0 (.t 89))⟩,
               ⟨(some 97), none, .inl (.ext 1 (.t 89))⟩,
               ⟨(some 20), none, .inl (.mv (.t 96))⟩,
               ⟨(some 21), none, .inl (.mv (.t 97))⟩])
            (.keep [4, 11, 20, 21]))
            (.seq (.seq (.reg [⟨(some 98), none, .inl (.mv (.t 11))⟩,
                ⟨(some 99), none, .inl (.mv (.t 98))⟩,
                ⟨(some 100), (some (99, true)), .inl (.mv (.t 21))⟩,
                ⟨(some 101), (some (99, true)), .inl (.bin .eql (.t 100) (.c (.int .i64 0)))⟩,
                ⟨(some 102), none, .inl (.pick (.t 99) (.t 101) (.c (.bool false)))⟩,
                ⟨(some 103), none, .inl (.mv (.t 102))⟩,
                ⟨(some 104), (some (103, true)), .inl (.mv (.t 20))⟩,
                ⟨(some 105), (some (103, true)), .inl (.b2s (.t 104))⟩,
                ⟨(some 106), (some (103, true)), .inl (.mv (.t 4))⟩,
                ⟨(some 107), (some (103, true)), .inl (.b2s (.t 106))⟩,
                ⟨(some 108), (some (103, true)), .inl (.bins .eql (.t 105) (.t 107))⟩,
                ⟨(some 109), none, .inl (.pick (.t 103) (.t 108) (.c (.bool false)))⟩,
                ⟨(some 10), none, .inl (.mv (.t 109))⟩])
             (.keep [10]))
             (.ret)))))))))))
def fc_joistlaw14_TreeBack : FC := ⟨110, cmd_joistlaw14_TreeBack, [.t 10]⟩
theorem fc_joistlaw14_TreeBack_ok : compF Try.prog 6 [[0, 1, 2, 3, 4], [0, 1, 2, 3, 4, 11], [0, 1, 2, 3, 4, 11, 30], [10], [0, 1, 2, 3, 4, 11, 12, 13], [1, 2, 3, 4, 11, 44], [10], [1, 2, 3, 4, 11, 14, 15], [1, 2, 3, 4, 11, 14, 53], [1, 2, 3, 4, 11, 14, 16, 17], [1, 4, 11, 74], [10], [1, 4, 11, 18, 19], [1, 4, 11, 18, 82], [10], [4, 11, 20, 21], [10]] = some fc_joistlaw14_TreeBack := by kernel_rfl
/-- joist/joistlaw14.TreeCounts -/
abbrev F.joistlaw14_TreeCounts : Nat := 7
def cmd_joistlaw14_TreeCounts : Cmd :=
  .seq (.seq (.reg [⟨(some 6), none, .inl (.mv (.c (.bool false)))⟩])
   (.keep [0, 1, 2]))
   (.seq (.seq (.reg [⟨(some 13), none, .inr (.call 9 [])⟩,
       ⟨(some 7), none, .inl (.mv (.t 13))⟩])
    (.keep [0, 1, 2, 7]))
    (.seq (.seq (.seq (.reg [⟨(some 14), none, .inl (.mv (.t 1))⟩,
        ⟨(some 15), none, .inl (.len (.t 14))⟩,
        ⟨(some 16), none, .inl (.bin .gtr (.t 15) (.c (.int .i64 300)))⟩])
     (.keep [0, 1, 2, 7, 16]))
     (.cond (.t 16)
       (.seq (.seq (.reg [⟨(some 17), none, .inl (.mv (.t 7))⟩,
           ⟨(some 6), none, .inl (.mv (.t 17))⟩])
        (.keep [6]))
        (.ret))
       (.skip)))
     (.seq (.seq (.reg [⟨(some 18), none, .inl (.mv (.t 1))⟩,
         ⟨(some 19), none, .inl (.len (.t 18))⟩,
         ⟨(some 20), none, .inr (.call 16 [(.t 19)])⟩,
         ⟨(some 8), none, .inl (.mv (.t 20))⟩])
      (.keep [0, 1, 2, 7, 8]))
      (.seq (.seq (.reg [⟨(some 22), none, .inl (.mv (.t 0))⟩,
          ⟨(some 23), none, .inl (.mv (.t 8))⟩,
          ⟨(some 24), none, .inl (.mv (.t 1))⟩,
          ⟨(some 25), none, .inr (.call 18 [(.t 22), (.t 23), (.t 24)])⟩,
          ⟨(some 21), none, .inl (.mv (.t 25))⟩,
          ⟨(some 26), none, .inl (.ext 0 (.t 21))⟩,
          ⟨(some 27), none, .inl (.ext 1 (.t 21))⟩,
          ⟨(some 9), none, .inl (.mv (.t 26))⟩,
          ⟨(some 10), none, .inl (.mv (.t 27))⟩])
       (.keep [0, 1, 2, 7, 8, 10]))
       (.seq (.seq (.reg [⟨(some 29), none, .inl (.mv (.t 0))⟩,
           ⟨(some 30), none, .inl (.mv (.t 8))⟩,
           ⟨(some 31), none, .inl (.bin .sub (.t 30) (.c (.int .i64 1)))⟩,
           ⟨(some 32), none, .inl (.mv (.t 1))⟩,
           ⟨(some 33), none, .inr (.call 18 [(.t 29), (.t 31), (.t 32)])⟩,
           ⟨(some 28), none, .inl (.mv (.t 33))⟩,
           ⟨(some 34), none, .inl (.ext 0 (.t 28))⟩,
           ⟨(some 35), none, .inl (.ext 1 (.t 28))⟩,
           ⟨(some 11), none, .inl (.mv (.t 34))⟩,
           ⟨(some 12), none, .inl (.mv (.t 35))⟩])
        (.keep [0, 1, 2, 7, 8, 10, 12]))
        (.seq (.seq (.seq (.reg [⟨(some 36), none, .inl (.mv (.t 0))⟩,
            ⟨(some 37), none, .inl (.mv (.t 1))⟩,
            ⟨(some 38), none, .inr (.call 14 [(.t 36), (.t 37)])⟩,
            ⟨(some 39), none, .inl (.mv (.t 38))⟩,
            ⟨(some 40), (some (39, true)), .inl (.mv (.t 10))⟩,
            ⟨(some 41), (some (39, true)), .inl (.bin .neq (.t 40) (.c (.int .i64 0)))⟩,
            ⟨(some 42), (some (39, true)), .inl (.mv (.t 41))⟩,
            ⟨(some 43), (some (42, false)), .inl (.mv (.t 12))⟩,
            ⟨(some 44), (some (42, false)), .inl (.bin .neq (.t 43) (.c (.int .i64 2)))⟩,
            ⟨(some 45), (some (39, true)), .inl (.pick (.t 42) (.c (.bool true)) (.t 44))⟩,
            ⟨(some 46), (some (39, true)), .inl (.mv (.t 45))⟩,
            ⟨(some 47), (some (46, false)), .inl (.mv (.t 8))⟩,
            ⟨(some 48), (some (46, false)), .inr (.call 16 [(.c (.int .i64 64))])⟩,
            ⟨(some 49), (some (46, false)), .inl (.bin .gtr (.t 47) (.t 48))⟩,
            ⟨(some 50), (some (39, true)), .inl (.pick (.t 46) (.c (.bool true)) (.t 49))⟩,
            ⟨(some 51), none, .inl (.pick (.t 39) (.t 50) (.c (.bool false)))⟩])
         (.keep [0, 1, 2, 7, 10, 12, 51]))
         (.cond (.t 51)
           (.seq (.seq (.reg [⟨(some 6), none, .inl (.mv (.c (.bool false)))⟩])
            (.keep [6]))
            (.ret))
           (.skip)))
         (.seq (.seq (.seq (.reg [⟨(some 52), none, .inl (.mv (.t 0))⟩,
             ⟨(some 53), none, .inl (.mv (.t 1))⟩,
             ⟨(some 54), none, .inr (.call 14 [(.t 52), (.t 53)])⟩,
             ⟨(some 55), none, .inl (.un .not (.t 54))⟩,
             ⟨(some 56), none, .inl (.mv (.t 55))⟩,
             ⟨(some 57), (some (56, true)), .inl (.mv (.t 10))⟩,
             ⟨(some 58), (some (56, true)), .inl (.bin .neq (.t 57) (.c (.int .i64 1)))⟩,
             ⟨(some 59), (some (56, true)), .inl (.mv (.t 58))⟩,
             ⟨(some 60), (some (59, false)), .inl (.mv (.t 12))⟩,
             ⟨(some 61), (some (59, false)), .inl (.bin .neq (.t 60) (.c (.int .i64 1)))⟩,
             ⟨(some 62), (some (56, true)), .inl (.pick (.t 59) (.c (.bool true)) (.t 61))⟩,
             ⟨(some 63), none, .inl (.pick (.t 56) (.t 62) (.c (.bool false)))⟩])
          (.keep [2, 7, 63]))
          (.cond (.t 63)
            (.seq (.seq (.reg [⟨(some 6), none, .inl (.mv (.c (.bool false)))⟩])
             (.keep [6]))
             (.ret))
            (.skip)))
          (.seq (.seq (.reg [⟨(some 64), none, .inl (.mv (.t 7))⟩,
              ⟨(some 65), none, .inl (.mv (.t 64))⟩,
              ⟨(some 66), (some (65, true)), .inl (.mv (.t 2))⟩,
              ⟨(some 67), (some (65, true)), .inl (.bin .lss (.t 66) (.c (.int .i64 0)))⟩,
              ⟨(some 68), (some (65, true)), .inl (.mv (.t 67))⟩,
              ⟨(some 69), (some (68, false)), .inl (.mv (.t 2))⟩,
              ⟨(some 70), (some (68, false)), .inl (.bin .gtr (.t 69) (.c (.int .i64 1099511627776)))⟩,
              ⟨(some 71), (some (65, true)), .inl (.pick (.t 68) (.c (.bool true)) (.t 70))⟩,
              ⟨(some 72), (some (65, true)), .inl (.mv (.t 71))⟩,
              ⟨(some 73), (some (72, false)), .inl (.mv (.t 2))⟩,
              ⟨(some 74), (some (72, false)), .inr (.call 16 [(.t 73)])⟩,
              ⟨(some 75), (some (72, false)), .inl (.bin .geq (.t 74) (.c (.int .i64 1)))⟩,
              ⟨(some 76), (some (72, false)), .inl (.mv (.t 75))⟩,
              ⟨(some 77), (some (76, true)), .inl (.mv (.t 2))⟩,
              ⟨(some 78), (some (76, true)), .inl (.bin .add (.t 77) (.c (.int .i64 1)))⟩,
              ⟨(some 79), (some (76, true)), .inr (.call 16 [(.t 78)])⟩,
              ⟨(some 80), (some (76, true)), .inl (.mv (.t 2))⟩,
              ⟨(some 81), (some (76, true)), .inr (.call 16 [(.t 80)])⟩,
              ⟨(some 82), (some (76, true)), .inl (.bin .geq (.t 79) (.t 81))⟩,
              ⟨(some 83), (some (72, false)), .inl (.pick (.t 76) (.t 82) (.c (.bool false)))⟩,
              ⟨(some 84), (some (72, false)), .inl (.mv (.t 83))⟩,
              ⟨(some 85), (some (84, true)), .inl (.mv (.t 2))⟩,
              ⟨(some 86), (some (84, true)), .inl (.bin .add (.t 85) (.c (.int .i64 1)))⟩,
              ⟨(some 87), (some (84, true)), .inr (.call 16 [(.t 86)])⟩,
              ⟨(some 88), (some (84, true)), .inl (.mv (.t 2))⟩,
              ⟨(some 89), (some (84, true)), .inr (.call 16 [(.t 88)])⟩,
              ⟨(some 90), (some (84, true)), .inl (.bin .add (.t 89) (.c (.int .i64 20)))⟩,
              ⟨(some 91), (some (84, true)), .inl (.bin .leq (.t 87) (.t 90))⟩,
              ⟨(some 92), (some (72, false)), .inl (.pick (.t 84) (.t 91) (.c (.bool false)))⟩,
              ⟨(some 93), (some (65, true)), .inl (.pick (.t 72) (.c (.bool true)) (.t 92))⟩,
              ⟨(some 94), none, .inl (.pick (.t 65) (.t 93) (.c (.bool false)))⟩,
              ⟨(some 6), none, .inl (.mv (.t 94))⟩])
           (.keep [6]))
           (.ret)))))))))
def fc_joistlaw14_TreeCounts : FC := ⟨95, cmd_joistlaw14_TreeCounts, [.t 6]⟩
theorem fc_joistlaw14_TreeCounts_ok : compF Try.prog 7 [[0, 1, 2], [0, 1, 2, 7], [0, 1, 2, 7, 16], [6], [0, 1, 2, 7, 8], [0, 1, 2, 7, 8, 10], [0, 1, 2, 7, 8, 10, 12], [0, 1, 2, 7, 10, 12, 51], [6], [2, 7, 63], [6], [6]] = some fc_joistlaw14_TreeCounts := by kernel_rfl
/-- joist/joistlaw14.TreeDown -/
abbrev F.joistlaw14_TreeDown : Nat := 8
def cmd_joistlaw14_TreeDown : Cmd :=
  .seq (.seq (.reg [⟨(some 8), none, .inl (.mv (.c (.bool false)))⟩])
   (.keep [0, 1, 2, 3]))
   (.seq (.seq (.reg [⟨(some 20), none, .inr (.call 9 [])⟩,
       ⟨(some 9), none, .inl (.mv (.t 20))⟩])
    (.keep [0, 1, 2, 3, 9]))
    (.seq (.seq (.seq (.reg [⟨(some 21), none, .inl (.mv (.t 2))⟩,
        ⟨(some 22), none, .inl (.len (.t 21))⟩,
        ⟨(some 23), none, .inl (.bin .gtr (.t 22) (.c (.int .i64 300)))⟩])
     (.keep [0, 1, 2, 3, 9, 23]))
     (.cond (.t 23)
       (.seq (.seq (.reg [⟨(some 24), none, .inl (.mv (.t 9))⟩,
           ⟨(some 8), none, .inl (.mv (.t 24))⟩])
        (.keep [8]))
        (.ret))
       (.skip)))
     (.seq (.seq (.reg [⟨(some 26), none, .inl (.mv (.t 0))⟩,
         ⟨(some 27), none, .inl (.mv (.t 1))⟩,
         ⟨(some 28), none, .inl (.mv (.t 2))⟩,
         ⟨(some 29), none, .inr (.call 18 [(.t 26), (.t 27), (.t 28)])⟩,
         ⟨(some 25), none, .inl (.mv (.t 29))⟩,
         ⟨(some 30), none, .inl (.ext 0 (.t 25))⟩,
         ⟨(some 31), none, .inl (.ext 1 (.t 25))⟩,
         ⟨(some 10), none, .inl (.mv (.t 30))⟩,
         ⟨(some 11), none, .inl (.mv (.t 31))⟩])
      (.keep [0, 3, 9, 10, 11]))
      (.seq (.seq (.reg [⟨(some 33), none, .inl (.mv (.t 0))⟩,
          ⟨(some 34), none, .inl (.mv (.t 10))⟩,
          ⟨(some 35), none, .inl (.mv (.t 3))⟩,
          ⟨(some 36), none, .inr (.call 23 [(.t 33), (.t 34), (.t 35)])⟩,
          ⟨(some 32), none, .inl (.mv (.t 36))⟩,
          ⟨(some 37), none, .inl (.ext 0 (.t 32))⟩,
          ⟨(some 38), none, .inl (.ext 1 (.t 32))⟩,
          ⟨(some 12), none, .inr (.alloc [(.int .i64 0), (.int .i64 0), (.int .i64 0)])⟩,
          ⟨none, none, .inr (.store 3 (.t 12) (.t 37))⟩,
          ⟨(some 13), none, .inl (.mv (.t 38))⟩])
       (.keep [0, 3, 9, 10, 11, 12, 13]))
       (.seq (.seq (.seq (.reg [⟨(some 39), none, .inl (.mv (.t 11))⟩,
           ⟨(some 40), none, .inl (.bin .neq (.t 39) (.c (.int .i64 0)))⟩,
           ⟨(some 41), none, .inl (.mv (.t 40))⟩,
           ⟨(some 42), (some (41, false)), .inl (.mv (.t 3))⟩,
           ⟨(some 43), (some (41, false)), .inl (.bin .lss (.t 42) (.c (.int .i64 0)))⟩,
           ⟨(some 44), none, .inl (.pick (.t 41) (.c (.bool true)) (.t 43))⟩,
           ⟨(some 45), none, .inl (.mv (.t 44))⟩,
           ⟨(some 46), (some (45, false)), .inl (.mv (.t 3))⟩,
           ⟨(some 47), (some (45, false)), .inl (.mv (.t 0))⟩,
           ⟨(some 48), (some (45, false)), .inl (.bin .geq (.t 46) (.t 47))⟩,
           ⟨(some 49), none, .inl (.pick (.t 45) (.c (.bool true)) (.t 48))⟩])
        (.keep [3, 9, 10, 12, 13, 49]))
        (.cond (.t 49)
          (.seq (.seq (.reg [⟨(some 50), none, .inl (.mv (.t 9))⟩,
              ⟨(some 51), none, .inl (.mv (.t 50))⟩,
              ⟨(some 52), (some (51, true)), .inl (.mv (.t 13))⟩,
              ⟨(some 53), (some (51, true)), .inl (.un .not (.t 52))⟩,
              ⟨(some 54), none, .inl (.pick (.t 51) (.t 53) (.c (.bool false)))⟩,
              ⟨(some 8), none, .inl (.mv (.t 54))⟩])
           (.keep [8]))
           (.ret))
          (.skip)))
        (.seq (.seq (.reg [⟨(some 14), none, .inl (.mv (.c (.int .i64 0)))⟩])
         (.keep [3, 9, 10, 12, 13, 14]))
         (.seq (.seq (.seq (.reg [⟨(some 15), none, .inl (.mv (.c (.int .i64 0)))⟩])
          (.keep [3, 9, 10, 12, 13, 14, 15]))
          (.block 0 (.loop [3, 9, 10, 12, 13, 14, 15] (.seq (.seq (.seq (.reg [⟨(some 55), none, .inl (.mv (.t 15))⟩,
              ⟨(some 56), none, .inl (.bin .lss (.t 55) (.c (.int .i64 4)))⟩])
           (.keep [3, 9, 10, 12, 13, 14, 15, 56]))
           (.cond (.t 56)
             (.skip)
             (.exit 0)))
           (.seq (.block 1 (.seq (.seq (.seq (.reg [⟨(some 59), none, .inl (.mv (.t 14))⟩,
               ⟨(some 60), none, .inl (.bin .lss (.t 59) (.c (.int .i64 0)))⟩,
               ⟨(some 61), none, .inl (.mv (.t 60))⟩,
               ⟨(some 62), (some (61, false)), .inl (.mv (.t 14))⟩,
               ⟨(some 63), (some (61, false)), .inl (.bin .add (.t 62) (.c (.int .i64 1)))⟩,
               ⟨(some 64), (some (61, false)), .inl (.bin .mul (.c (.int .i64 128)) (.t 63))⟩,
               ⟨(some 65), (some (61, false)), .inl (.mv (.t 10))⟩,
               ⟨(some 66), (some (61, false)), .inl (.len (.t 65))⟩,
               ⟨(some 67), (some (61, false)), .inl (.bin .gtr (.t 64) (.t 66))⟩,
               ⟨(some 68), none, .inl (.pick (.t 61) (.c (.bool true)) (.t 67))⟩])
            (.keep [3, 9, 10, 12, 13, 14, 15, 68]))
            (.cond (.t 68)
              (.seq (.seq (.reg [⟨(some 8), none, .inl (.mv (.c (.bool false)))⟩])
               (.keep [8]))
               (.ret))
              (.skip)))
            (.seq (.seq (.reg [⟨(some 70), none, .inl (.mv (.t 10))⟩,
                ⟨(some 71), none, .inl (.mv (.t 14))⟩,
                ⟨(some 72), none, .inl (.bin .mul (.c (.int .i64 128)) (.t 71))⟩,
                ⟨(some 73), none, .inl (.mv (.t 14))⟩,
                ⟨(some 74), none, .inl (.bin .add (.t 73) (.c (.int .i64 1)))⟩,
                ⟨(some 75), none, .inl (.bin .mul (.c (.int .i64 128)) (.t 74))⟩,
                ⟨(some 76), none, .inl (.slice 1 (.t 70) (some (.t 72)) (some (.t 75)) none)⟩,
                ⟨(some 77), none, .inr (.call 27 [(.t 76)])⟩,
                ⟨(some 69), none, .inl (.mv (.t 77))⟩,
                ⟨(some 78), none, .inl (.ext 0 (.t 69))⟩,
                ⟨(some 79), none, .inl (.ext 1 (.t 69))⟩,
                ⟨(some 16), none, .inl (.mv (.t 78))⟩,
                ⟨(some 17), none, .inl (.mv (.t 79))⟩])
             (.keep [3, 9, 10, 12, 13, 15, 16, 17]))
             (.seq (.seq (.seq (.reg [⟨(some 80), none, .inl (.mv (.t 17))⟩,
                 ⟨(some 81), none, .inl (.un .not (.t 80))⟩,
                 ⟨(some 82), none, .inl (.mv (.t 81))⟩,
                 ⟨(some 83), (some (82, false)), .inl (.mv (.t 16))⟩,
                 ⟨(some 84), (some (82, false)), .inl (.len (.t 83))⟩,
                 ⟨(some 85), (some (82, false)), .inl (.bin .neq (.t 84) (.c (.int .i64 16)))⟩,
                 ⟨(some 86), none, .inl (.pick (.t 82) (.c (.bool true)) (.t 85))⟩,
                 ⟨(some 87), none, .inl (.mv (.t 86))⟩,
                 ⟨(some 88), (some (87, false)), .inl (.mv (.t 16))⟩,
                 ⟨(some 89), (some (87, false)), .inl (.iaddr 1 (.t 88) (.c (.int .i64 0)))⟩,
                 ⟨(some 90), (some (87, false)), .inl (.load false 1 (.t 89))⟩,
                 ⟨(some 91), (some (87, false)), .inl (.bin .quo (.t 90) (.c (.int .i64 2)))⟩,
                 ⟨(some 92), (some (87, false)), .inl (.bin .lss (.t 91) (.c (.int .i64 1)))⟩,
                 ⟨(some 93), none, .inl (.pick (.t 87) (.c (.bool true)) (.t 92))⟩,
                 ⟨(some 94), none, .inl (.mv (.t 93))⟩,
                 ⟨(some 95), (some (94, false)), .inl (.mv (.t 16))⟩,
                 ⟨(some 96), (some (94, false)), .inl (.iaddr 1 (.t 95) (.c (.int .i64 0)))⟩,
                 ⟨(some 97), (some (94, false)), .inl (.load false 1 (.t 96))⟩,
                 ⟨(some 98), (some (94, false)), .inl (.bin .quo (.t 97) (.c (.int .i64 2)))⟩,
                 ⟨(some 99), (some (94, false)), .inl (.bin .gtr (.t 98) (.c (.int .i64 7)))⟩,
                 ⟨(some 100), none, .inl (.pick (.t 94) (.c (.bool true)) (.t 99))⟩])
              (.keep [3, 9, 10, 12, 13, 15, 16, 100]))
              (.cond (.t 100)
                (.seq (.seq (.reg [⟨(some 8), none, .inl (.mv (.c (.bool false)))⟩])
                 (.keep [8]))
                 (.ret))
                (.skip)))
              (.seq (.seq (.reg [⟨(some 18), none, .inl (.mv (.c (.int .i64 0)))⟩])
               (.keep [3, 9, 10, 12, 13, 15, 16, 18]))
               (.seq (.seq (.seq (.reg [⟨(some 19), none, .inl (.mv (.c (.int .i64 0)))⟩])
                (.keep [3, 9, 10, 12, 13, 15, 16, 18, 19]))
                (.block 2 (.loop [3, 9, 10, 12, 13, 15, 16, 18, 19] (.seq (.seq (.seq (.reg [⟨(some 101), none, .inl (.mv (.t 19))⟩,
                    ⟨(some 102), none, .inl (.mv (.t 16))⟩,
                    ⟨(some 103), none, .inl (.iaddr 1 (.t 102) (.c (.int .i64 0)))⟩,
                    ⟨(some 104), none, .inl (.load false 1 (.t 103))⟩,
                    ⟨(some 105), none, .inl (.bin .quo (.t 104) (.c (.int .i64 2)))⟩,
                    ⟨(some 106), none, .inl (.bin .lss (.t 101) (.t 105))⟩])
                 (.keep [3, 9, 10, 12, 13, 15, 16, 18, 19, 106]))
                 (.cond (.t 106)
                   (.skip)
                   (.exit 2)))
                 (.seq (.block 3 (.seq (.seq (.reg [⟨(some 109), none, .inl (.mv (.t 16))⟩,
                     ⟨(some 110), none, .inl (.mv (.t 19))⟩,
                     ⟨(some 111), none, .inl (.bin .mul (.c (.int .i64 2)) (.t 110))⟩,
                     ⟨(some 112), none, .inl (.bin .add (.c (.int .i64 1)) (.t 111))⟩,
                     ⟨(some 113), none, .inl (.iaddr 1 (.t 109) (.t 112))⟩,
                     ⟨(some 114), none, .inl (.load false 1 (.t 113))⟩,
                     ⟨(some 115), none, .inl (.mv (.t 3))⟩,
                     ⟨(some 116), none, .inl (.bin .leq (.t 114) (.t 115))⟩])
                  (.keep [3, 9, 10, 12, 13, 15, 16, 18, 19, 116]))
                  (.cond (.t 116)
                    (.seq (.reg [⟨(some 117), none, .inl (.mv (.t 19))⟩,
                        ⟨(some 18), none, .inl (.mv (.t 117))⟩])
                     (.keep [3, 9, 10, 12, 13, 15, 16, 18, 19]))
                    (.skip))))
                  (.seq (.reg [⟨(some 107), none, .inl (.mv (.t 19))⟩,
                      ⟨(some 108), none, .inl (.bin .add (.t 107) (.c (.int .i64 1)))⟩,
                      ⟨(some 19), none, .inl (.mv (.t 108))⟩])
                   (.keep [3, 9, 10, 12, 13, 15, 16, 18, 19])))))))
                (.seq (.seq (.seq (.reg [⟨(some 118), none, .inl (.mv (.t 16))⟩,
                    ⟨(some 119), none, .inl (.iaddr 1 (.t 118) (.c (.int .i64 0)))⟩,
                    ⟨(some 120), none, .inl (.load false 1 (.t 119))⟩,
                    ⟨(some 121), none, .inl (.bin .rem (.t 120) (.c (.int .i64 2)))⟩,
                    ⟨(some 122), none, .inl (.bin .eql (.t 121) (.c (.int .i64 1)))⟩])
                 (.keep [3, 9, 10, 12, 13, 15, 16, 18, 122]))
                 (.cond (.t 122)
                   (.seq (.seq (.ord [⟨0, ⟨(some 123), none, .inl (.mv (.t 9))⟩, [], false⟩,
                       ⟨1, ⟨(some 124), none, .inl (.mv (.t 123))⟩, [], false⟩,
                       ⟨2, ⟨(some 125), (some (124, true)), .inl (.mv (.t 13))⟩, [], false⟩,
                       ⟨3, ⟨(some 126), none, .inl (.pick (.t 124) (.t 125) (.c (.bool false)))⟩, [], false⟩,
                       ⟨4, ⟨(some 127), none, .inl (.mv (.t 126))⟩, [], false⟩,
                       ⟨5, ⟨(some 128), (some (127, true)), .inl (.load true 3 (.t 12))⟩, [], false⟩,
                       ⟨6, ⟨(some 129), (some (127, true)), .inl (.mv (.t 16))⟩, [], false⟩,
                       ⟨7, ⟨(some 130), (some (127, true)), .inl (.mv (.t 18))⟩, [], false⟩,
                       ⟨8, ⟨(some 131), (some (127, true)), .inl (.bin .mul (.c (.int .i64 2)) (.t 130))⟩, [], false⟩,
                       ⟨9, ⟨(some 132), (some (127, true)), .inl (.bin .add (.c (.int .i64 1)) (.t 131))⟩, [], false⟩,
                       ⟨10, ⟨(some 133), (some (127, true)), .inl (.iaddr 1 (.t 129) (.t 132))⟩, [], false⟩,
                       ⟨11, ⟨(some 134), (some (127, true)), .inl (.load false 1 (.t 133))⟩, [], false⟩,
                       ⟨12, ⟨(some 135), (some (127, true)), .inl (.mv (.t 16))⟩, [], false⟩,
                       ⟨13, ⟨(some 136), (some (127, true)), .inl (.mv (.t 18))⟩, [], false⟩,
                       ⟨14, ⟨(some 137), (some (127, true)), .inl (.bin .mul (.c (.int .i64 2)) (.t 136))⟩, [], false⟩,
                       ⟨15, ⟨(some 138), (some (127, true)), .inl (.bin .add (.c (.int .i64 2)) (.t 137))⟩, [], false⟩,
                       ⟨16, ⟨(some 139), (some (127, true)), .inl (.iaddr 1 (.t 135) (.t 138))⟩, [], false⟩,
                       ⟨17, ⟨(some 140), (some (127, true)), .inl (.load false 1 (.t 139))⟩, [], false⟩,
                       ⟨18, ⟨(some 141), (some (127, true)), .inl (.bin .quo (.t 140) (.c (.int .i64 4)))⟩, [], false⟩,
                       ⟨19, ⟨(some 142), (some (127, true)), .inl (.mv (.t 16))⟩, [], false⟩,
                       ⟨20, ⟨(some 143), (some (127, true)), .inl (.mv (.t 18))⟩, [], false⟩,
                       ⟨21, ⟨(some 144), (some (127, true)), .inl (.bin .mul (.c (.int .i64 2)) (.t 143))⟩, [], false⟩,
                       ⟨22, ⟨(some 145), (some (127, true)), .inl (.bin .add (.c (.int .i64 2)) (.t 144))⟩, [], false⟩,
                       ⟨23, ⟨(some 146), (some (127, true)), .inl (.iaddr 1 (.t 142) (.t 145))⟩, [], false⟩,
                       ⟨24, ⟨(some 147), (some (127, true)), .inl (.load false 1 (.t 146))⟩, [], false⟩,
                       ⟨25, ⟨(some 148), (some (127, true)), .inl (.bin .rem (.t 147) (.c (.int .i64 4)))⟩, [], false⟩,
                       ⟨26, ⟨(some 149), (some (127, true)), .inl (.build [(.int .i64 0), (.int .i64 0), (.int .i64 0)] [(0, 1, (.t 134)), (1, 1, (.t 141)), (2, 1, (.t 148))])⟩, [], false⟩,
                       ⟨27, ⟨(some 150), (some (127, true)), .inl (.eqagg false [0, 0, 0] (.t 128) (.t 149))⟩, [], false⟩,
                       ⟨28, ⟨(some 151), none, .inl (.pick (.t 127) (.t 150) (.c (.bool false)))⟩, [], false⟩,
                       ⟨29, ⟨(some 152), none, .inl (.mv (.t 151))⟩, [], false⟩,
                       ⟨30, ⟨(some 153), (some (152, true)), .inl (.mv (.t 3))⟩, [], false⟩,
                       ⟨31, ⟨(some 154), (some (152, true)), .inl (.faddr 0 (.t 12))⟩, [], false⟩,
                       ⟨32, ⟨(some 155), (some (152, true)), .inl (.load false 1 (.t 154))⟩, [], false⟩,
                       ⟨33, ⟨(some 156), (some (152, true)), .inl (.bin .geq (.t 153) (.t 155))⟩, [], false⟩,
                       ⟨34, ⟨(some 157), none, .inl (.pick (.t 152) (.t 156) (.c (.bool false)))⟩, [], false⟩,
                       ⟨35, ⟨(some 158), none, .inl (.mv (.t 157))⟩, [], false⟩,
                       ⟨36, ⟨(some 159), (some (158, true)), .inl (.mv (.t 3))⟩, [], false⟩,
                       ⟨37, ⟨(some 160), (some (158, true)), .inl (.faddr 0 (.t 12))⟩, [], false⟩,
                       ⟨38, ⟨(some 161), (some (158, true)), .inl (.load false 1 (.t 160))⟩, [], false⟩,
                       ⟨39, ⟨(some 162), (some (158, true)), .inl (.bin .sub (.t 159) (.t 161))⟩, [], false⟩,
                       ⟨40, ⟨(some 163), (some (158, true)), .inl (.faddr 1 (.t 12))⟩, [], false⟩,
                       ⟨41, ⟨(some 164), (some (158, true)), .inl (.load false 1 (.t 163))⟩, [], false⟩,
                       ⟨42, ⟨(some 165), (some (158, true)), .inl (.bin .lss (.t 162) (.t 164))⟩, [], false⟩,
                       ⟨43, ⟨(some 166), none, .inl (.pick (.t 158) (.t 165) (.c (.bool false)))⟩, [], false⟩,
                       ⟨44, ⟨(some 8), none, .inl (.mv (.t 166))⟩, [], false⟩])
                    (.keep [8]))
                    (.ret))
                   (.skip)))
                 (.seq (.reg [⟨(some 167), none, .inl (.mv (.t 16))⟩,
                     ⟨(some 168), none, .inl (.mv (.t 18))⟩,
                     ⟨(some 169), none, .inl (.bin .mul (.c (.int .i64 2)) (.t 168))⟩,
                     ⟨(some 170), none, .inl (.bin .add (.c (.int .i64 2)) (.t 169))⟩,
                     ⟨(some 171), none, .inl (.iaddr 1 (.t 167) (.t 170))⟩,
                     ⟨(some 172), none, .inl (.load false 1 (.t 171))⟩,
                     ⟨(some 14), none, .inl (.mv (.t 172))⟩])
                  (.keep [3, 9, 10, 12, 13, 14, 15])))))))))
            (.seq (.reg [⟨(some 57), none, .inl (.mv (.t 15))⟩,
                ⟨(some 58), none, .inl (.bin .add (.t 57) (.c (.int .i64 1)))⟩,
                ⟨(some 15), none, .inl (.mv (.t 58))⟩])
             (.keep [3, 9, 10, 12, 13, 14, 15])))))))
          (.seq (.seq (.reg [⟨(some 8), none, .inl (.mv (.c (.bool false)))⟩])
           (.keep [8]))
           (.ret)))))))))
def fc_joistlaw14_TreeDown : FC := ⟨173, cmd_joistlaw14_TreeDown, [.t 8]⟩
theorem fc_joistlaw14_TreeDown_ok : compF Try.prog 8 [[0, 1, 2, 3], [0, 1, 2, 3, 9], [0, 1, 2, 3, 9, 23], [8], [0, 3, 9, 10, 11], [0, 3, 9, 10, 11, 12, 13], [3, 9, 10, 12, 13, 49], [8], [3, 9, 10, 12, 13, 14], [3, 9, 10, 12, 13, 14, 15], [3, 9, 10, 12, 13, 14, 15], [3, 9, 10, 12, 13, 14, 15, 56], [3, 9, 10, 12, 13, 14, 15, 68], [8], [3, 9, 10, 12, 13, 15, 16, 17], [3, 9, 10, 12, 13, 15, 16, 100], [8], [3, 9, 10, 12, 13, 15, 16, 18], [3, 9, 10, 12, 13, 15, 16, 18, 19], [3, 9, 10, 12, 13, 15, 16, 18, 19], [3, 9, 10, 12, 13, 15, 16, 18, 19, 106], [3, 9, 10, 12, 13, 15, 16, 18, 19, 116], [3, 9, 10, 12, 13, 15, 16, 18, 19], [3, 9, 10, 12, 13, 15, 16, 18, 19], [3, 9, 10, 12, 13, 15, 16, 18, 122], [8], [0, 1, 2, 3, 4, 5, 6, 7, 8, 9, 10, 11, 12, 13, 14, 15, 16, 17, 18, 19, 20, 21, 22, 23, 24, 25, 26, 27, 28, 29, 30, 31, 32, 33, 34, 35, 36, 37, 38, 39, 40, 41, 42, 43, 44], [3, 9, 10, 12, 13, 14, 15], [3, 9, 10, 12, 13, 14, 15], [8]] = some fc_joistlaw14_TreeDown := by kernel_rfl
/-- joist/joistlaw14.small -/
abbrev F.joistlaw14_small : Nat := 9
def cmd_joistlaw14_small : Cmd :=
  .seq (.seq (.reg [⟨(some 0), none, .inl (.mv (.c (.bool false)))⟩])
   (.keep []))
   (.seq (.seq (.reg [⟨(some 8), none, .inr (.bslice 1 [(.int .i64 0)] 4 [(0, (.c (.int .i64 0))), (1, (.c (.int .i64 6))), (2, (.c (.int .i64 7))), (3, (.c (.int .i64 (-1))))])⟩,
       ⟨(some 9), none, .inr (.call 10 [(.t 8)])⟩,
       ⟨(some 7), none, .inl (.mv (.t 9))⟩,
       ⟨(some 10), none, .inl (.ext 0 (.t 7))⟩,
       ⟨(some 11), none, .inl (.ext 1 (.t 7))⟩,
       ⟨(some 1), none, .inl (.mv (.t 10))⟩,
       ⟨(some 2), none, .inl (.mv (.t 11))⟩])
    (.keep [1, 2]))
    (.seq (.seq (.reg [⟨(some 13), none, .inl (.mv (.t 1))⟩,
        ⟨(some 14), none, .inr (.call 18 [(.c (.int .i64 4)), (.c (.int .i64 1)), (.t 13)])⟩,
        ⟨(some 12), none, .inl (.mv (.t 14))⟩,
        ⟨(some 15), none, .inl (.ext 0 (.t 12))⟩,
        ⟨(some 16), none, .inl (.ext 1 (.t 12))⟩,
        ⟨(some 3), none, .inl (.mv (.t 15))⟩,
        ⟨(some 4), none, .inl (.mv (.t 16))⟩])
     (.keep [1, 2, 3, 4]))
     (.seq (.seq (.reg [⟨(some 18), none, .inl (.mv (.t 3))⟩,
         ⟨(some 19), none, .inr (.call 23 [(.c (.int .i64 4)), (.t 18), (.c (.int .i64 2))])⟩,
         ⟨(some 17), none, .inl (.mv (.t 19))⟩,
         ⟨(some 20), none, .inl (.ext 0 (.t 17))⟩,
         ⟨(some 21), none, .inl (.ext 1 (.t 17))⟩,
         ⟨(some 5), none, .inr (.alloc [(.int .i64 0), (.int .i64 0), (.int .i64 0)])⟩,
         ⟨none, none, .inr (.store 3 (.t 5) (.t 20))⟩,
         ⟨(some 6), none, .inl (.mv (.t 21))⟩])
      (.keep [1, 2, 3, 4, 5, 6]))
      (.seq (.seq (.reg [⟨(some 22), none, .inl (.mv (.t 2))⟩,
          ⟨(some 23), none, .inl (.mv (.t 22))⟩,
          ⟨(some 24), (some (23, true)), .inl (.mv (.t 1))⟩,
          ⟨(some 25), (some (23, true)), .inl (.len (.t 24))⟩,
          ⟨(some 26), (some (23, true)), .inl (.bin .eql (.t 25) (.c (.int .i64 3)))⟩,
          ⟨(some 27), none, .inl (.pick (.t 23) (.t 26) (.c (.bool false)))⟩,
          ⟨(some 28), none, .inl (.mv (.t 27))⟩,
          ⟨(some 29), (some (28, true)), .inl (.mv (.t 4))⟩,
          ⟨(some 30), (some (28, true)), .inl (.bin .eql (.t 29) (.c (.int .i64 0)))⟩,
          ⟨(some 31), none, .inl (.pick (.t 28) (.t 30) (.c (.bool false)))⟩,
          ⟨(some 32), none, .inl (.mv (.t 31))⟩,
          ⟨(some 33), (some (32, true)), .inl (.mv (.t 3))⟩,
          ⟨(some 34), (some (32, true)), .inl (.len (.t 33))⟩,
          ⟨(some 35), (some (32, true)), .inl (.bin .eql (.t 34) (.c (.int .i64 128)))⟩,
          ⟨(some 36), none, .inl (.pick (.t 32) (.t 35) (.c (.bool false)))⟩,
          ⟨(some 37), none, .inl (.mv (.t 36))⟩,
          ⟨(some 38), (some (37, true)), .inl (.mv (.t 6))⟩,
          ⟨(some 39), none, .inl (.pick (.t 37) (.t 38) (.c (.bool false)))⟩,
          ⟨(some 40), none, .inl (.mv (.t 39))⟩,
          ⟨(some 41), (some (40, true)), .inl (.load true 3 (.t 5))⟩,
          ⟨(some 42), (some (40, true)), .inl (.build [(.int .i64 0), (.int .i64 0), (.int .i64 0)] [(0, 1, (.c (.int .i64 1))), (1, 1, (.c (.int .i64 2))), (2, 1, (.c (.int .i64 2)))])⟩,
          ⟨(some 43), (some (40, true)), .inl (.eqagg false [0, 0, 0] (.t 41) (.t 42))⟩,
          ⟨(some 44), none, .inl (.pick (.t 40) (.t 43) (.c (.bool false)))⟩,
          ⟨(some 45), none, .inl (.mv (.t 44))⟩,
          ⟨(some 46), (some (45, true)), .inr (.call 16 [(.c (.int .i64 7))])⟩,
          ⟨(some 47), (some (45, true)), .inl (.bin .eql (.t 46) (.c (.int .i64 1)))⟩,
          ⟨(some 48), none, .inl (.pick (.t 45) (.t 47) (.c (.bool false)))⟩,
          ⟨(some 49), none, .inl (.mv (.t 48))⟩,
          ⟨(some 50), (some (49, true)), .inr (.call 16 [(.c (.int .i64 8))])⟩,
          ⟨(some 51), (some (49, true)), .inl (.bin .eql (.t 50) (.c (.int .i64 3)))⟩,
          ⟨(some 52), none, .inl (.pick (.t 49) (.t 51) (.c (.bool false)))⟩,
          ⟨(some 53), none, .inl (.mv (.t 52))⟩,
          ⟨(some 54), (some (53, true)), .inr (.call 16 [(.c (.int .i64 50))])⟩,
          ⟨(some 55), (some (53, true)), .inl (.bin .eql (.t 54) (.c (.int .i64 11)))⟩,
          ⟨(some 56), none, .inl (.pick (.t 53) (.t 55) (.c (.bool false)))⟩,
          ⟨(some 0), none, .inl (.mv (.t 56))⟩])
       (.keep [0]))
       (.ret)))))
def fc_joistlaw14_small : FC := ⟨57, cmd_joistlaw14_small, [.t 0]⟩
theorem fc_joistlaw14_small_ok : compF Try.prog 9 [[], [1, 2], [1, 2, 3, 4], [1, 2, 3, 4, 5, 6], [0]] = some fc_joistlaw14_small := by kernel_rfl
/-- joist/tree.From -/
abbrev F.tree_From : Nat := 10
def cmd_tree_From : Cmd :=
  .seq (.seq (.reg [⟨(some 2), none, .inl (.mv (.c .nils))⟩,
      ⟨(some 3), none, .inl (.mv (.c (.bool false)))⟩])
   (.keep [0]))
   (.seq (.seq (.seq (.reg [⟨(some 9), none, .inl (.mv (.t 0))⟩,
       ⟨(some 10), none, .inl (.len (.t 9))⟩,
       ⟨(some 11), none, .inl (.bin .gtr (.t 10) (.c (.int .i64 64)))⟩])
    (.keep [0, 11]))
    (.cond (.t 11)
      (.seq (.seq (.reg [⟨(some 2), none, .inl (.mv (.c .nils))⟩,
          ⟨(some 3), none, .inl (.mv (.c (.bool false)))⟩])
       (.keep [2, 3]))
       (.ret))
      (.skip)))
    (.seq (.seq (.reg [⟨(some 4), none, .inl (.mv (.c .nils))⟩])
     (.keep [0, 4]))
     (.seq (.seq (.reg [⟨(some 5), none, .inl (.mv (.c (.int .i64 8)))⟩])
      (.keep [0, 4, 5]))
      (.seq (.seq (.seq (.reg [⟨(some 12), none, .inl (.mv (.t 0))⟩,
          ⟨(some 13), none, .inl (.len (.t 12))⟩,
          ⟨(some 14), none, .inl (.mv (.c (.int .i64 0)))⟩])
       (.keep [4, 5, 12, 13, 14]))
       (.block 0 (.loop [4, 5, 12, 13, 14] (.seq (.seq (.reg [⟨(some 15), none, .inl (.bin .lss (.t 14) (.t 13))⟩])
        (.keep [4, 5, 12, 13, 14, 15]))
        (.seq (.cond (.t 15)
          (.skip)
          (.exit 0))
         (.seq (.block 1 (.seq (.seq (.reg [⟨(some 16), none, .inl (.mv (.t 14))⟩,
             ⟨(some 17), none, .inl (.iaddr 1 (.t 12) (.t 14))⟩,
             ⟨(some 18), none, .inl (.load false 1 (.t 17))⟩,
             ⟨(some 6), none, .inl (.mv (.t 16))⟩,
             ⟨(some 7), none, .inl (.mv (.t 18))⟩])
          (.keep [4, 5, 6, 7, 12, 13, 14]))
          (.seq (.seq (.reg [⟨(some 19), none, .inl (.mv (.t 7))⟩,
              ⟨(some 20), none, .inl (.bin .eql (.t 19) (.c (.int .i64 7)))⟩,
              ⟨(some 8), none, .inl (.mv (.t 20))⟩])
           (.keep [4, 5, 6, 7, 8, 12, 13, 14]))
           (.seq (.block 2 (.seq (.seq (.seq (.reg [⟨(some 29), none, .inl (.mv (.t 7))⟩,
               ⟨(some 30), none, .inl (.bin .lss (.t 29) (.c (.int .i64 (-1))))⟩,
               ⟨(some 28), none, .inl (.mv (.t 30))⟩])
            (.keep [4, 5, 6, 7, 8, 12, 13, 14, 28]))
            (.cond (.t 28)
              (.skip)
              (.seq (.seq (.reg [⟨(some 31), none, .inl (.mv (.t 7))⟩,
                  ⟨(some 32), none, .inl (.bin .gtr (.t 31) (.c (.int .i64 7)))⟩,
                  ⟨(some 28), none, .inl (.mv (.t 32))⟩])
               (.keep [4, 5, 6, 7, 8, 12, 13, 14, 28]))
               (.cond (.t 28)
                 (.skip)
                 (.seq (.reg [⟨(some 33), none, .inl (.mv (.t 8))⟩,
                     ⟨(some 34), none, .inl (.mv (.t 33))⟩,
                     ⟨(some 35), (some (34, true)), .inl (.mv (.t 5))⟩,
                     ⟨(some 36), (some (34, true)), .inl (.bin .neq (.t 35) (.c (.int .i64 6)))⟩,
                     ⟨(some 37), none, .inl (.pick (.t 34) (.t 36) (.c (.bool false)))⟩,
                     ⟨(some 38), none, .inl (.mv (.t 37))⟩,
                     ⟨(some 39), (some (38, true)), .inl (.mv (.t 5))⟩,
                     ⟨(some 40), (some (38, true)), .inl (.bin .neq (.t 39) (.c (.int .i64 7)))⟩,
                     ⟨(some 41), none, .inl (.pick (.t 38) (.t 40) (.c (.bool false)))⟩,
                     ⟨(some 28), none, .inl (.mv (.t 41))⟩])
                  (.keep [4, 5, 6, 7, 8, 12, 13, 14, 28]))))))
            (.cond (.t 28)
              (.seq (.seq (.reg [⟨(some 2), none, .inl (.mv (.c .nils))⟩,
                  ⟨(some 3), none, .inl (.mv (.c (.bool false)))⟩])
               (.keep [2, 3]))
               (.ret))
              (.seq (.seq (.seq (.reg [⟨(some 43), none, .inl (.mv (.t 8))⟩,
                  ⟨(some 42), none, .inl (.mv (.t 43))⟩])
               (.keep [4, 5, 6, 7, 12, 13, 14, 42]))
               (.cond (.t 42)
                 (.skip)
                 (.seq (.reg [⟨(some 44), none, .inl (.mv (.t 7))⟩,
                     ⟨(some 45), none, .inl (.bin .eql (.t 44) (.c (.int .i64 (-1))))⟩,
                     ⟨(some 46), none, .inl (.mv (.t 45))⟩,
                     ⟨(some 47), (some (46, true)), .inl (.mv (.t 5))⟩,
                     ⟨(some 48), (some (46, true)), .inl (.bin .eql (.t 47) (.c (.int .i64 (-1))))⟩,
                     ⟨(some 49), none, .inl (.pick (.t 46) (.t 48) (.c (.bool false)))⟩,
                     ⟨(some 42), none, .inl (.mv (.t 49))⟩])
                  (.keep [4, 6, 7, 12, 13, 14, 42]))))
               (.cond (.t 42)
                 (.seq (.reg [⟨(some 50), none, .inl (.mv (.t 4))⟩,
                     ⟨(some 51), none, .inl (.mv (.t 4))⟩,
                     ⟨(some 52), none, .inl (.len (.t 51))⟩,
                     ⟨(some 53), none, .inl (.bin .sub (.t 52) (.c (.int .i64 1)))⟩,
                     ⟨(some 54), none, .inl (.iaddr 3 (.t 50) (.t 53))⟩,
                     ⟨(some 55), none, .inl (.faddr 1 (.t 54))⟩,
                     ⟨(some 56), none, .inl (.load false 1 (.t 55))⟩,
                     ⟨(some 57), none, .inl (.bin .add (.t 56) (.c (.int .i64 1)))⟩,
                     ⟨(some 58), none, .inl (.iaddr 3 (.t 50) (.t 53))⟩,
                     ⟨(some 59), none, .inl (.faddr 1 (.t 58))⟩,
                     ⟨none, none, .inr (.store 1 (.t 59) (.t 57))⟩])
                  (.keep [4, 7, 12, 13, 14]))
                 (.seq (.reg [⟨(some 21), none, .inl (.mv (.t 4))⟩,
                     ⟨(some 22), none, .inl (.mv (.t 6))⟩,
                     ⟨(some 23), none, .inl (.mv (.t 7))⟩,
                     ⟨(some 24), none, .inr (.call 28 [(.t 23)])⟩,
                     ⟨(some 25), none, .inl (.build [(.int .i64 0), (.int .i64 0), (.int .i64 0)] [(0, 1, (.t 22)), (1, 1, (.c (.int .i64 1))), (2, 1, (.t 24))])⟩,
                     ⟨(some 26), none, .inr (.bslice 3 [(.int .i64 0), (.int .i64 0), (.int .i64 0)] 1 [(0, (.t 25))])⟩,
                     ⟨(some 27), none, .inr (.append 3 24 (.t 21) (.t 26))⟩,
                     ⟨(some 4), none, .inl (.mv (.t 27))⟩])
                  (.keep [4, 7, 12, 13, 14])))))))
            (.seq (.reg [⟨(some 60), none, .inl (.mv (.t 7))⟩,
                ⟨(some 5), none, .inl (.mv (.t 60))⟩])
             (.keep [4, 5, 12, 13, 14]))))))
          (.seq (.reg [⟨(some 61), none, .inl (.bin .add (.t 14) (.c (.int .i64 1)))⟩,
              ⟨(some 14), none, .inl (.mv (.t 61))⟩])
           (.keep [4, 5, 12, 13, 14]))))))))
       (.seq (.seq (.reg [⟨(some 62), none, .inl (.mv (.t 4))⟩,
           ⟨(some 2), none, .inl (.mv (.t 62))⟩,
           ⟨(some 3), none, .inl (.mv (.c (.bool true)))⟩])
        (.keep [2, 3]))
        (.ret))))))
def fc_tree_From : FC := ⟨63, cmd_tree_From, [.t 2, .t 3]⟩
theorem fc_tree_From_ok : compF Try.prog 10 [[0], [0, 11], [2, 3], [0, 4], [0, 4, 5], [4, 5, 12, 13, 14], [4, 5, 12, 13, 14], [4, 5, 12, 13, 14, 15], [4, 5, 6, 7, 12, 13, 14], [4, 5, 6, 7, 8, 12, 13, 14], [4, 5, 6, 7, 8, 12, 13, 14, 28], [4, 5, 6, 7, 8, 12, 13, 14, 28], [4, 5, 6, 7, 8, 12, 13, 14, 28], [2, 3], [4, 5, 6, 7, 12, 13, 14, 42], [4, 6, 7, 12, 13, 14, 42], [4, 7, 12, 13, 14], [4, 7, 12, 13, 14], [4, 5, 12, 13, 14], [4, 5, 12, 13, 14], [2, 3]] = some fc_tree_From := by kernel_rfl
/-- joist/joistref14.From -/
abbrev F.joistref14_From : Nat := 11
def cmd_joistref14_From : Cmd :=
  .seq (.seq (.reg [⟨(some 2), none, .inl (.mv (.c .nils))⟩,
      ⟨(some 3), none, .inl (.mv (.c (.bool false)))⟩])
   (.keep [0]))
   (.seq (.seq (.reg [⟨(some 4), none, .inl (.mv (.c .nils))⟩])
    (.keep [0, 4]))
    (.seq (.seq (.seq (.reg [⟨(some 8), none, .inl (.mv (.t 0))⟩,
        ⟨(some 9), none, .inl (.len (.t 8))⟩,
        ⟨(some 10), none, .inl (.bin .gtr (.t 9) (.c (.int .i64 64)))⟩])
     (.keep [0, 4, 10]))
     (.cond (.t 10)
       (.seq (.seq (.reg [⟨(some 2), none, .inl (.mv (.c .nils))⟩,
           ⟨(some 3), none, .inl (.mv (.c (.bool false)))⟩])
        (.keep [2, 3]))
        (.ret))
       (.skip)))
     (.seq (.seq (.seq (.reg [⟨(some 5), none, .inl (.mv (.c (.int .i64 0)))⟩])
      (.keep [0, 4, 5]))
      (.block 0 (.loop [0, 4, 5] (.seq (.seq (.seq (.reg [⟨(some 11), none, .inl (.mv (.t 5))⟩,
          ⟨(some 12), none, .inl (.mv (.t 0))⟩,
          ⟨(some 13), none, .inl (.len (.t 12))⟩,
          ⟨(some 14), none, .inl (.bin .lss (.t 11) (.t 13))⟩])
       (.keep [0, 4, 5, 14]))
       (.cond (.t 14)
         (.skip)
         (.exit 0)))
       (.seq (.block 1 (.seq (.seq (.reg [⟨(some 17), none, .inl (.mv (.t 0))⟩,
           ⟨(some 18), none, .inl (.mv (.t 5))⟩,
           ⟨(some 19), none, .inl (.iaddr 1 (.t 17) (.t 18))⟩,
           ⟨(some 20), none, .inl (.load false 1 (.t 19))⟩,
           ⟨(some 6), none, .inl (.mv (.t 20))⟩])
        (.keep [0, 4, 5, 6]))
        (.seq (.seq (.seq (.reg [⟨(some 21), none, .inl (.mv (.t 6))⟩,
            ⟨(some 22), none, .inl (.bin .lss (.t 21) (.c (.int .i64 (-1))))⟩,
            ⟨(some 23), none, .inl (.mv (.t 22))⟩,
            ⟨(some 24), (some (23, false)), .inl (.mv (.t 6))⟩,
            ⟨(some 25), (some (23, false)), .inl (.bin .gtr (.t 24) (.c (.int .i64 7)))⟩,
            ⟨(some 26), none, .inl (.pick (.t 23) (.c (.bool true)) (.t 25))⟩])
         (.keep [0, 4, 5, 6, 26]))
         (.cond (.t 26)
           (.seq (.seq (.reg [⟨(some 2), none, .inl (.mv (.c .nils))⟩,
               ⟨(some 3), none, .inl (.mv (.c (.bool false)))⟩])
            (.keep [2, 3]))
            (.ret))
           (.skip)))
         (.seq (.seq (.seq (.reg [⟨(some 27), none, .inl (.mv (.t 6))⟩,
             ⟨(some 28), none, .inl (.bin .eql (.t 27) (.c (.int .i64 7)))⟩])
          (.keep [0, 4, 5, 6, 28]))
          (.cond (.t 28)
            (.seq (.seq (.seq (.reg [⟨(some 29), none, .inl (.mv (.t 5))⟩,
                ⟨(some 30), none, .inl (.bin .eql (.t 29) (.c (.int .i64 0)))⟩,
                ⟨(some 31), none, .inl (.mv (.t 30))⟩,
                ⟨(some 32), (some (31, false)), .inl (.mv (.t 0))⟩,
                ⟨(some 33), (some (31, false)), .inl (.mv (.t 5))⟩,
                ⟨(some 34), (some (31, false)), .inl (.bin .sub (.t 33) (.c (.int .i64 1)))⟩,
                ⟨(some 35), (some (31, false)), .inl (.iaddr 1 (.t 32) (.t 34))⟩,
                ⟨(some 36), (some (31, false)), .inl (.load false 1 (.t 35))⟩,
                ⟨(some 37), (some (31, false)), .inl (.bin .neq (.t 36) (.c (.int .i64 6)))⟩,
                ⟨(some 38), (some (31, false)), .inl (.mv (.t 37))⟩,
                ⟨(some 39), (some (38, true)), .inl (.mv (.t 0))⟩,
                ⟨(some 40), (some (38, true)), .inl (.mv (.t 5))⟩,
                ⟨(some 41), (some (38, true)), .inl (.bin .sub (.t 40) (.c (.int .i64 1)))⟩,
                ⟨(some 42), (some (38, true)), .inl (.iaddr 1 (.t 39) (.t 41))⟩,
                ⟨(some 43), (some (38, true)), .inl (.load false 1 (.t 42))⟩,
                ⟨(some 44), (some (38, true)), .inl (.bin .neq (.t 43) (.c (.int .i64 7)))⟩,
                ⟨(some 45), (some (31, false)), .inl (.pick (.t 38) (.t 44) (.c (.bool false)))⟩,
                ⟨(some 46), none, .inl (.pick (.t 31) (.c (.bool true)) (.t 45))⟩])
             (.keep [0, 4, 5, 46]))
             (.cond (.t 46)
               (.seq (.seq (.reg [⟨(some 2), none, .inl (.mv (.c .nils))⟩,
                   ⟨(some 3), none, .inl (.mv (.c (.bool false)))⟩])
                (.keep [2, 3]))
                (.ret))
               (.skip)))
             (.seq (.seq (.reg [⟨(some 47), none, .inl (.mv (.t 4))⟩,
                 ⟨(some 48), none, .inl (.mv (.t 4))⟩,
                 ⟨(some 49), none, .inl (.len (.t 48))⟩,
                 ⟨(some 50), none, .inl (.bin .sub (.t 49) (.c (.int .i64 1)))⟩,
                 ⟨(some 51), none, .inl (.iaddr 3 (.t 47) (.t 50))⟩,
                 ⟨(some 52), none, .inl (.faddr 1 (.t 51))⟩,
                 ⟨(some 53), none, .inl (.load false 1 (.t 52))⟩,
                 ⟨(some 54), none, .inl (.bin .add (.t 53) (.c (.int .i64 1)))⟩,
                 ⟨(some 55), none, .inl (.iaddr 3 (.t 47) (.t 50))⟩,
                 ⟨(some 56), none, .inl (.faddr 1 (.t 55))⟩,
                 ⟨none, none, .inr (.store 1 (.t 56) (.t 54))⟩])
              (.keep [0, 4, 5]))
              (.exit 1)))
            (.skip)))
          (.seq (.seq (.seq (.reg [⟨(some 57), none, .inl (.mv (.t 6))⟩,
              ⟨(some 58), none, .inl (.bin .eql (.t 57) (.c (.int .i64 (-1))))⟩,
              ⟨(some 59), none, .inl (.mv (.t 58))⟩,
              ⟨(some 60), (some (59, true)), .inl (.mv (.t 5))⟩,
              ⟨(some 61), (some (59, true)), .inl (.bin .gtr (.t 60) (.c (.int .i64 0)))⟩,
              ⟨(some 62), none, .inl (.pick (.t 59) (.t 61) (.c (.bool false)))⟩,
              ⟨(some 63), none, .inl (.mv (.t 62))⟩,
              ⟨(some 64), (some (63, true)), .inl (.mv (.t 0))⟩,
              ⟨(some 65), (some (63, true)), .inl (.mv (.t 5))⟩,
              ⟨(some 66), (some (63, true)), .inl (.bin .sub (.t 65) (.c (.int .i64 1)))⟩,
              ⟨(some 67), (some (63, true)), .inl (.iaddr 1 (.t 64) (.t 66))⟩,
              ⟨(some 68), (some (63, true)), .inl (.load false 1 (.t 67))⟩,
              ⟨(some 69), (some (63, true)), .inl (.bin .eql (.t 68) (.c (.int .i64 (-1))))⟩,
              ⟨(some 70), none, .inl (.pick (.t 63) (.t 69) (.c (.bool false)))⟩])
           (.keep [0, 4, 5, 6, 70]))
           (.cond (.t 70)
             (.seq (.seq (.reg [⟨(some 71), none, .inl (.mv (.t 4))⟩,
                 ⟨(some 72), none, .inl (.mv (.t 4))⟩,
                 ⟨(some 73), none, .inl (.len (.t 72))⟩,
                 ⟨(some 74), none, .inl (.bin .sub (.t 73) (.c (.int .i64 1)))⟩,
                 ⟨(some 75), none, .inl (.iaddr 3 (.t 71) (.t 74))⟩,
                 ⟨(some 76), none, .inl (.faddr 1 (.t 75))⟩,
                 ⟨(some 77), none, .inl (.load false 1 (.t 76))⟩,
                 ⟨(some 78), none, .inl (.bin .add (.t 77) (.c (.int .i64 1)))⟩,
                 ⟨(some 79), none, .inl (.iaddr 3 (.t 71) (.t 74))⟩,
                 ⟨(some 80), none, .inl (.faddr 1 (.t 79))⟩,
                 ⟨none, none, .inr (.store 1 (.t 80) (.t 78))⟩])
              (.keep [0, 4, 5]))
              (.exit 1))
             (.skip)))
           (.seq (.seq (.reg [⟨(some 7), none, .inl (.mv (.c (.int .i64 1)))⟩])
            (.keep [0, 4, 5, 6, 7]))
            (.seq (.seq (.seq (.reg [⟨(some 81), none, .inl (.mv (.t 6))⟩,
                ⟨(some 82), none, .inl (.bin .eql (.t 81) (.c (.int .i64 (-1))))⟩])
             (.keep [0, 4, 5, 6, 7, 82]))
             (.cond (.t 82)
               (.seq (.reg [⟨(some 7), none, .inl (.mv (.c (.int .i64 0)))⟩])
                (.keep [0, 4, 5, 6, 7]))
               (.skip)))
             (.seq (.seq (.seq (.reg [⟨(some 83), none, .inl (.mv (.t 6))⟩,
                 ⟨(some 84), none, .inl (.bin .eql (.t 83) (.c (.int .i64 6)))⟩])
              (.keep [0, 4, 5, 7, 84]))
              (.cond (.t 84)
                (.seq (.reg [⟨(some 7), none, .inl (.mv (.c (.int .i64 2)))⟩])
                 (.keep [0, 4, 5, 7]))
                (.skip)))
              (.seq (.reg [⟨(some 85), none, .inl (.mv (.t 4))⟩,
                  ⟨(some 86), none, .inl (.mv (.t 5))⟩,
                  ⟨(some 87), none, .inl (.mv (.t 7))⟩,
                  ⟨(some 88), none, .inl (.build [(.int .i64 0), (.int .i64 0), (.int .i64 0)] [(0, 1, (.t 86)), (1, 1, (.c (.int .i64 1))), (2, 1, (.t 87))])⟩,
                  ⟨(some 89), none, .inr (.bslice 3 [(.int .i64 0), (.int .i64 0), (.int .i64 0)] 1 [(0, (.t 88))])⟩,
                  ⟨(some 90), none, .inr (.append 3 24 (.t 85) (.t 89))⟩,
                  ⟨(some 4), none, .inl (.mv (.t 90))⟩])
               (.keep [0, 4, 5]))))))))))
        (.seq (.reg [⟨(some 15), none, .inl (.mv (.t 5))⟩,
            ⟨(some 16), none, .inl (.bin .add (.t 15) (.c (.int .i64 1)))⟩,
            ⟨(some 5), none, .inl (.mv (.t 16))⟩])
         (.keep [0, 4, 5])))))))
      (.seq (.seq (.reg [⟨(some 91), none, .inl (.mv (.t 4))⟩,
          ⟨(some 2), none, .inl (.mv (.t 91))⟩,
          ⟨(some 3), none, .inl (.mv (.c (.bool true)))⟩])
       (.keep [2, 3]))
       (.ret)))))
def fc_joistref14_From : FC := ⟨92, cmd_joistref14_From, [.t 2, .t 3]⟩
theorem fc_joistref14_From_ok : compF Try.prog 11 [[0], [0, 4], [0, 4, 10], [2, 3], [0, 4, 5], [0, 4, 5], [0, 4, 5, 14], [0, 4, 5, 6], [0, 4, 5, 6, 26], [2, 3], [0, 4, 5, 6, 28], [0, 4, 5, 46], [2, 3], [0, 4, 5], [0, 4, 5, 6, 70], [0, 4, 5], [0, 4, 5, 6, 7], [0, 4, 5, 6, 7, 82], [0, 4, 5, 6, 7], [0, 4, 5, 7, 84], [0, 4, 5, 7], [0, 4, 5], [0, 4, 5], [2, 3]] = some fc_joistref14_From := by kernel_rfl
/-- joist/joistref14.Same -/
abbrev F.joistref14_Same : Nat := 12
def cmd_joistref14_Same : Cmd :=
  .seq (.seq (.reg [⟨(some 4), none, .inl (.mv (.c (.bool false)))⟩])
   (.keep [0, 1]))
   (.seq (.seq (.seq (.reg [⟨(some 6), none, .inl (.mv (.t 0))⟩,
       ⟨(some 7), none, .inl (.len (.t 6))⟩,
       ⟨(some 8), none, .inl (.mv (.t 1))⟩,
       ⟨(some 9), none, .inl (.len (.t 8))⟩,
       ⟨(some 10), none, .inl (.bin .neq (.t 7) (.t 9))⟩])
    (.keep [0, 1, 10]))
    (.cond (.t 10)
      (.seq (.seq (.reg [⟨(some 4), none, .inl (.mv (.c (.bool false)))⟩])
       (.keep [4]))
       (.ret))
      (.skip)))
    (.seq (.seq (.seq (.reg [⟨(some 5), none, .inl (.mv (.c (.int .i64 0)))⟩])
     (.keep [0, 1, 5]))
     (.block 0 (.loop [0, 1, 5] (.seq (.seq (.seq (.reg [⟨(some 11), none, .inl (.mv (.t 5))⟩,
         ⟨(some 12), none, .inl (.mv (.t 0))⟩,
         ⟨(some 13), none, .inl (.len (.t 12))⟩,
         ⟨(some 14), none, .inl (.bin .lss (.t 11) (.t 13))⟩])
      (.keep [0, 1, 5, 14]))
      (.cond (.t 14)
        (.skip)
        (.exit 0)))
      (.seq (.block 1 (.seq (.seq (.ord [⟨0, ⟨(some 17), none, .inl (.mv (.t 0))⟩, [], false⟩,
          ⟨1, ⟨(some 18), none, .inl (.mv (.t 5))⟩, [], false⟩,
          ⟨2, ⟨(some 19), none, .inl (.iaddr 3 (.t 17) (.t 18))⟩, [], false⟩,
          ⟨3, ⟨(some 20), none, .inl (.load true 3 (.t 19))⟩, [], false⟩,
          ⟨4, ⟨(some 21), none, .inl (.mv (.t 1))⟩, [], false⟩,
          ⟨5, ⟨(some 22), none, .inl (.mv (.t 5))⟩, [], false⟩,
          ⟨6, ⟨(some 23), none, .inl (.iaddr 3 (.t 21) (.t 22))⟩, [], false⟩,
          ⟨7, ⟨(some 24), none, .inl (.load true 3 (.t 23))⟩, [], false⟩,
          ⟨8, ⟨(some 25), none, .inl (.eqagg true [0, 0, 0] (.t 20) (.t 24))⟩, [], false⟩])
       (.keep [0, 1, 5, 25]))
       (.cond (.t 25)
         (.seq (.seq (.reg [⟨(some 4), none, .inl (.mv (.c (.bool false)))⟩])
          (.keep [4]))
          (.ret))
         (.skip))))
       (.seq (.reg [⟨(some 15), none, .inl (.mv (.t 5))⟩,
           ⟨(some 16), none, .inl (.bin .add (.t 15) (.c (.int .i64 1)))⟩,
           ⟨(some 5), none, .inl (.mv (.t 16))⟩])
        (.keep [0, 1, 5])))))))
     (.seq (.seq (.reg [⟨(some 4), none, .inl (.mv (.c (.bool true)))⟩])
      (.keep [4]))
      (.ret))))
def fc_joistref14_Same : FC := ⟨26, cmd_joistref14_Same, [.t 4]⟩
theorem fc_joistref14_Same_ok : compF Try.prog 12 [[0, 1], [0, 1, 10], [4], [0, 1, 5], [0, 1, 5], [0, 1, 5, 14], [0, 1, 5, 25], [0, 1, 2, 3, 4, 5, 6, 7, 8], [4], [0, 1, 5], [4]] = some fc_joistref14_Same := by kernel_rfl
/-- joist/joistref01.Same -/
abbrev F.joistref01_Same : Nat := 13
def cmd_joistref01_Same : Cmd :=
  .seq (.seq (.reg [⟨(some 4), none, .inl (.mv (.c (.bool false)))⟩])
   (.keep [0, 1]))
   (.seq (.seq (.seq (.reg [⟨(some 6), none, .inl (.mv (.t 0))⟩,
       ⟨(some 7), none, .inl (.len (.t 6))⟩,
       ⟨(some 8), none, .inl (.mv (.t 1))⟩,
       ⟨(some 9), none, .inl (.len (.t 8))⟩,
       ⟨(some 10), none, .inl (.bin .neq (.t 7) (.t 9))⟩])
    (.keep [0, 1, 10]))
    (.cond (.t 10)
      (.seq (.seq (.reg [⟨(some 4), none, .inl (.mv (.c (.bool false)))⟩])
       (.keep [4]))
       (.ret))
      (.skip)))
    (.seq (.seq (.seq (.reg [⟨(some 5), none, .inl (.mv (.c (.int .i64 0)))⟩])
     (.keep [0, 1, 5]))
     (.block 0 (.loop [0, 1, 5] (.seq (.seq (.seq (.reg [⟨(some 11), none, .inl (.mv (.t 5))⟩,
         ⟨(some 12), none, .inl (.mv (.t 0))⟩,
         ⟨(some 13), none, .inl (.len (.t 12))⟩,
         ⟨(some 14), none, .inl (.bin .lss (.t 11) (.t 13))⟩])
      (.keep [0, 1, 5, 14]))
      (.cond (.t 14)
        (.skip)
        (.exit 0)))
      (.seq (.block 1 (.seq (.seq (.ord [⟨0, ⟨(some 17), none, .inl (.mv (.t 0))⟩, [], false⟩,
          ⟨1, ⟨(some 18), none, .inl (.mv (.t 5))⟩, [], false⟩,
          ⟨2, ⟨(some 19), none, .inl (.iaddr 1 (.t 17) (.t 18))⟩, [], false⟩,
          ⟨3, ⟨(some 20), none, .inl (.load false 1 (.t 19))⟩, [], false⟩,
          ⟨4, ⟨(some 21), none, .inl (.mv (.t 1))⟩, [], false⟩,
          ⟨5, ⟨(some 22), none, .inl (.mv (.t 5))⟩, [], false⟩,
          ⟨6, ⟨(some 23), none, .inl (.iaddr 1 (.t 21) (.t 22))⟩, [], false⟩,
          ⟨7, ⟨(some 24), none, .inl (.load false 1 (.t 23))⟩, [], false⟩,
          ⟨8, ⟨(some 25), none, .inl (.bin .neq (.t 20) (.t 24))⟩, [], false⟩])
       (.keep [0, 1, 5, 25]))
       (.cond (.t 25)
         (.seq (.seq (.reg [⟨(some 4), none, .inl (.mv (.c (.bool false)))⟩])
          (.keep [4]))
          (.ret))
         (.skip))))
       (.seq (.reg [⟨(some 15), none, .inl (.mv (.t 5))⟩,
           ⟨(some 16), none, .inl (.bin .add (.t 15) (.c (.int .i64 1)))⟩,
           ⟨(some 5), none, .inl (.mv (.t 16))⟩])
        (.keep [0, 1, 5])))))))
     (.seq (.seq (.reg [⟨(some 4), none, .inl (.mv (.c (.bool true)))⟩])
      (.keep [4]))
      (.ret))))
def fc_joistref01_Same : FC := ⟨26, cmd_joistref01_Same, [.t 4]⟩
theorem fc_joistref01_Same_ok : compF Try.prog 13 [[0, 1], [0, 1, 10], [4], [0, 1, 5], [0, 1, 5], [0, 1, 5, 14], [0, 1, 5, 25], [0, 1, 2, 3, 4, 5, 6, 7, 8], [4], [0, 1, 5], [4]] = some fc_joistref01_Same := by kernel_rfl
/-- joist/tree.Right -/
abbrev F.tree_Right : Nat := 14
def cmd_tree_Right : Cmd :=
  .seq (.seq (.reg [⟨(some 4), none, .inl (.mv (.c (.bool false)))⟩])
   (.keep [0, 1]))
   (.seq (.seq (.seq (.reg [⟨(some 9), none, .inl (.mv (.t 0))⟩,
       ⟨(some 10), none, .inl (.bin .lss (.t 9) (.c (.int .i64 0)))⟩,
       ⟨(some 11), none, .inl (.mv (.t 10))⟩,
       ⟨(some 12), (some (11, false)), .inl (.mv (.t 0))⟩,
       ⟨(some 13), (some (11, false)), .inl (.bin .gtr (.t 12) (.c (.int .i64 64)))⟩,
       ⟨(some 14), none, .inl (.pick (.t 11) (.c (.bool true)) (.t 13))⟩])
    (.keep [0, 1, 14]))
    (.cond (.t 14)
      (.seq (.seq (.reg [⟨(some 4), none, .inl (.mv (.c (.bool false)))⟩])
       (.keep [4]))
       (.ret))
      (.skip)))
    (.seq (.seq (.reg [⟨(some 5), none, .inl (.mv (.c (.int .i64 0)))⟩,
        ⟨(some 6), none, .inl (.mv (.c (.bool false)))⟩])
     (.keep [0, 1, 5, 6]))
     (.seq (.seq (.seq (.reg [⟨(some 15), none, .inl (.mv (.t 1))⟩,
         ⟨(some 16), none, .inl (.len (.t 15))⟩,
         ⟨(some 17), none, .inl (.mv (.c (.int .i64 0)))⟩])
      (.keep [0, 5, 6, 15, 16, 17]))
      (.block 0 (.loop [0, 5, 6, 15, 16, 17] (.seq (.seq (.reg [⟨(some 18), none, .inl (.bin .lss (.t 17) (.t 16))⟩])
       (.keep [0, 5, 6, 15, 16, 17, 18]))
       (.seq (.cond (.t 18)
         (.skip)
         (.exit 0))
        (.seq (.block 1 (.seq (.seq (.reg [⟨(some 19), none, .inl (.iaddr 3 (.t 15) (.t 17))⟩,
            ⟨(some 20), none, .inl (.load true 3 (.t 19))⟩,
            ⟨(some 8), none, .inr (.alloc [(.int .i64 0), (.int .i64 0), (.int .i64 0)])⟩,
            ⟨none, none, .inr (.store 3 (.t 8) (.t 20))⟩])
         (.keep [0, 5, 6, 8, 15, 16, 17]))
         (.seq (.block 2 (.seq (.seq (.seq (.reg [⟨(some 22), none, .inl (.faddr 0 (.t 8))⟩,
             ⟨(some 23), none, .inl (.load false 1 (.t 22))⟩,
             ⟨(some 24), none, .inl (.mv (.t 5))⟩,
             ⟨(some 25), none, .inl (.bin .neq (.t 23) (.t 24))⟩,
             ⟨(some 21), none, .inl (.mv (.t 25))⟩])
          (.keep [0, 5, 6, 8, 15, 16, 17, 21]))
          (.cond (.t 21)
            (.skip)
            (.seq (.seq (.reg [⟨(some 26), none, .inl (.faddr 1 (.t 8))⟩,
                ⟨(some 27), none, .inl (.load false 1 (.t 26))⟩,
                ⟨(some 28), none, .inl (.bin .lss (.t 27) (.c (.int .i64 1)))⟩,
                ⟨(some 21), none, .inl (.mv (.t 28))⟩])
             (.keep [0, 5, 6, 8, 15, 16, 17, 21]))
             (.cond (.t 21)
               (.skip)
               (.seq (.seq (.reg [⟨(some 29), none, .inl (.faddr 1 (.t 8))⟩,
                   ⟨(some 30), none, .inl (.load false 1 (.t 29))⟩,
                   ⟨(some 31), none, .inl (.mv (.t 0))⟩,
                   ⟨(some 32), none, .inl (.mv (.t 5))⟩,
                   ⟨(some 33), none, .inl (.bin .sub (.t 31) (.t 32))⟩,
                   ⟨(some 34), none, .inl (.bin .gtr (.t 30) (.t 33))⟩,
                   ⟨(some 21), none, .inl (.mv (.t 34))⟩])
                (.keep [0, 5, 6, 8, 15, 16, 17, 21]))
                (.cond (.t 21)
                  (.skip)
                  (.seq (.seq (.reg [⟨(some 35), none, .inl (.faddr 2 (.t 8))⟩,
                      ⟨(some 36), none, .inl (.load false 1 (.t 35))⟩,
                      ⟨(some 37), none, .inl (.bin .lss (.t 36) (.c (.int .i64 0)))⟩,
                      ⟨(some 21), none, .inl (.mv (.t 37))⟩])
                   (.keep [0, 5, 6, 8, 15, 16, 17, 21]))
                   (.cond (.t 21)
                     (.skip)
                     (.seq (.reg [⟨(some 38), none, .inl (.faddr 2 (.t 8))⟩,
                         ⟨(some 39), none, .inl (.load false 1 (.t 38))⟩,
                         ⟨(some 40), none, .inl (.bin .gtr (.t 39) (.c (.int .i64 2)))⟩,
                         ⟨(some 21), none, .inl (.mv (.t 40))⟩])
                      (.keep [0, 5, 6, 8, 15, 16, 17, 21]))))))))))
          (.cond (.t 21)
            (.seq (.seq (.reg [⟨(some 4), none, .inl (.mv (.c (.bool false)))⟩])
             (.keep [4]))
             (.ret))
            (.seq (.seq (.seq (.reg [⟨(some 42), none, .inl (.faddr 2 (.t 8))⟩,
                ⟨(some 43), none, .inl (.load false 1 (.t 42))⟩,
                ⟨(some 44), none, .inl (.bin .eql (.t 43) (.c (.int .i64 1)))⟩,
                ⟨(some 45), none, .inl (.mv (.t 44))⟩,
                ⟨(some 46), (some (45, true)), .inl (.faddr 1 (.t 8))⟩,
                ⟨(some 47), (some (45, true)), .inl (.load false 1 (.t 46))⟩,
                ⟨(some 48), (some (45, true)), .inl (.bin .neq (.t 47) (.c (.int .i64 1)))⟩,
                ⟨(some 49), none, .inl (.pick (.t 45) (.t 48) (.c (.bool false)))⟩,
                ⟨(some 41), none, .inl (.mv (.t 49))⟩])
             (.keep [0, 5, 6, 8, 15, 16, 17, 41]))
             (.cond (.t 41)
               (.skip)
               (.seq (.reg [⟨(some 50), none, .inl (.mv (.t 6))⟩,
                   ⟨(some 51), none, .inl (.mv (.t 50))⟩,
                   ⟨(some 52), (some (51, true)), .inl (.faddr 2 (.t 8))⟩,
                   ⟨(some 53), (some (51, true)), .inl (.load false 1 (.t 52))⟩,
                   ⟨(some 54), (some (51, true)), .inl (.bin .eql (.t 53) (.c (.int .i64 0)))⟩,
                   ⟨(some 55), none, .inl (.pick (.t 51) (.t 54) (.c (.bool false)))⟩,
                   ⟨(some 41), none, .inl (.mv (.t 55))⟩])
                (.keep [0, 5, 8, 15, 16, 17, 41]))))
             (.cond (.t 41)
               (.seq (.seq (.reg [⟨(some 4), none, .inl (.mv (.c (.bool false)))⟩])
                (.keep [4]))
                (.ret))
               (.skip))))))
          (.seq (.ord [⟨0, ⟨(some 56), none, .inl (.mv (.t 5))⟩, [], false⟩,
              ⟨1, ⟨(some 57), none, .inl (.faddr 1 (.t 8))⟩, [], false⟩,
              ⟨2, ⟨(some 58), none, .inl (.load false 1 (.t 57))⟩, [], false⟩,
              ⟨3, ⟨(some 59), none, .inl (.bin .add (.t 56) (.t 58))⟩, [], false⟩,
              ⟨4, ⟨(some 60), none, .inl (.faddr 2 (.t 8))⟩, [], false⟩,
              ⟨5, ⟨(some 61), none, .inl (.load false 1 (.t 60))⟩, [], false⟩,
              ⟨6, ⟨(some 62), none, .inl (.bin .eql (.t 61) (.c (.int .i64 0)))⟩, [], false⟩,
              ⟨7, ⟨(some 5), none, .inl (.mv (.t 59))⟩, [], false⟩,
              ⟨8, ⟨(some 6), none, .inl (.mv (.t 62))⟩, [], false⟩])
           (.keep [0, 5, 6, 15, 16, 17])))))
         (.seq (.reg [⟨(some 63), none, .inl (.bin .add (.t 17) (.c (.int .i64 1)))⟩,
             ⟨(some 17), none, .inl (.mv (.t 63))⟩])
          (.keep [0, 5, 6, 15, 16, 17]))))))))
      (.seq (.seq (.reg [⟨(some 64), none, .inl (.mv (.t 5))⟩,
          ⟨(some 65), none, .inl (.mv (.t 0))⟩,
          ⟨(some 66), none, .inl (.bin .eql (.t 64) (.t 65))⟩,
          ⟨(some 4), none, .inl (.mv (.t 66))⟩])
       (.keep [4]))
       (.ret)))))
def fc_tree_Right : FC := ⟨67, cmd_tree_Right, [.t 4]⟩
theorem fc_tree_Right_ok : compF Try.prog 14 [[0, 1], [0, 1, 14], [4], [0, 1, 5, 6], [0, 5, 6, 15, 16, 17], [0, 5, 6, 15, 16, 17], [0, 5, 6, 15, 16, 17, 18], [0, 5, 6, 8, 15, 16, 17], [0, 5, 6, 8, 15, 16, 17, 21], [0, 5, 6, 8, 15, 16, 17, 21], [0, 5, 6, 8, 15, 16, 17, 21], [0, 5, 6, 8, 15, 16, 17, 21], [0, 5, 6, 8, 15, 16, 17, 21], [4], [0, 5, 6, 8, 15, 16, 17, 41], [0, 5, 8, 15, 16, 17, 41], [4], [0, 5, 6, 15, 16, 17], [0, 1, 2, 3, 4, 5, 6, 7, 8], [0, 5, 6, 15, 16, 17], [4]] = some fc_tree_Right := by kernel_rfl
/-- joist/joistref14.Right -/
abbrev F.joistref14_Right : Nat := 15
def cmd_joistref14_Right : Cmd :=
  .seq (.seq (.reg [⟨(some 4), none, .inl (.mv (.c (.bool false)))⟩])
   (.keep [0, 1]))
   (.seq (.seq (.seq (.reg [⟨(some 8), none, .inl (.mv (.t 0))⟩,
       ⟨(some 9), none, .inl (.bin .lss (.t 8) (.c (.int .i64 0)))⟩,
       ⟨(some 10), none, .inl (.mv (.t 9))⟩,
       ⟨(some 11), (some (10, false)), .inl (.mv (.t 0))⟩,
       ⟨(some 12), (some (10, false)), .inl (.bin .gtr (.t 11) (.c (.int .i64 64)))⟩,
       ⟨(some 13), none, .inl (.pick (.t 10) (.c (.bool true)) (.t 12))⟩])
    (.keep [0, 1, 13]))
    (.cond (.t 13)
      (.seq (.seq (.reg [⟨(some 4), none, .inl (.mv (.c (.bool false)))⟩])
       (.keep [4]))
       (.ret))
      (.skip)))
    (.seq (.seq (.reg [⟨(some 5), none, .inl (.mv (.c (.int .i64 0)))⟩])
     (.keep [0, 1, 5]))
     (.seq (.seq (.seq (.reg [⟨(some 6), none, .inl (.mv (.c (.int .i64 0)))⟩])
      (.keep [0, 1, 5, 6]))
      (.block 0 (.loop [0, 1, 5, 6] (.seq (.seq (.seq (.reg [⟨(some 14), none, .inl (.mv (.t 6))⟩,
          ⟨(some 15), none, .inl (.mv (.t 1))⟩,
          ⟨(some 16), none, .inl (.len (.t 15))⟩,
          ⟨(some 17), none, .inl (.bin .lss (.t 14) (.t 16))⟩])
       (.keep [0, 1, 5, 6, 17]))
       (.cond (.t 17)
         (.skip)
         (.exit 0)))
       (.seq (.block 1 (.seq (.seq (.reg [⟨(some 20), none, .inl (.mv (.t 1))⟩,
           ⟨(some 21), none, .inl (.mv (.t 6))⟩,
           ⟨(some 22), none, .inl (.iaddr 3 (.t 20) (.t 21))⟩,
           ⟨(some 23), none, .inl (.load true 3 (.t 22))⟩,
           ⟨(some 7), none, .inr (.alloc [(.int .i64 0), (.int .i64 0), (.int .i64 0)])⟩,
           ⟨none, none, .inr (.store 3 (.t 7) (.t 23))⟩])
        (.keep [0, 1, 5, 6, 7]))
        (.seq (.seq (.seq (.reg [⟨(some 24), none, .inl (.faddr 0 (.t 7))⟩,
            ⟨(some 25), none, .inl (.load false 1 (.t 24))⟩,
            ⟨(some 26), none, .inl (.mv (.t 5))⟩,
            ⟨(some 27), none, .inl (.bin .neq (.t 25) (.t 26))⟩,
            ⟨(some 28), none, .inl (.mv (.t 27))⟩,
            ⟨(some 29), (some (28, false)), .inl (.faddr 1 (.t 7))⟩,
            ⟨(some 30), (some (28, false)), .inl (.load false 1 (.t 29))⟩,
            ⟨(some 31), (some (28, false)), .inl (.bin .lss (.t 30) (.c (.int .i64 1)))⟩,
            ⟨(some 32), none, .inl (.pick (.t 28) (.c (.bool true)) (.t 31))⟩,
            ⟨(some 33), none, .inl (.mv (.t 32))⟩,
            ⟨(some 34), (some (33, false)), .inl (.faddr 1 (.t 7))⟩,
            ⟨(some 35), (some (33, false)), .inl (.load false 1 (.t 34))⟩,
            ⟨(some 36), (some (33, false)), .inl (.mv (.t 0))⟩,
            ⟨(some 37), (some (33, false)), .inl (.mv (.t 5))⟩,
            ⟨(some 38), (some (33, false)), .inl (.bin .sub (.t 36) (.t 37))⟩,
            ⟨(some 39), (some (33, false)), .inl (.bin .gtr (.t 35) (.t 38))⟩,
            ⟨(some 40), none, .inl (.pick (.t 33) (.c (.bool true)) (.t 39))⟩,
            ⟨(some 41), none, .inl (.mv (.t 40))⟩,
            ⟨(some 42), (some (41, false)), .inl (.faddr 2 (.t 7))⟩,
            ⟨(some 43), (some (41, false)), .inl (.load false 1 (.t 42))⟩,
            ⟨(some 44), (some (41, false)), .inl (.bin .lss (.t 43) (.c (.int .i64 0)))⟩,
            ⟨(some 45), none, .inl (.pick (.t 41) (.c (.bool true)) (.t 44))⟩,
            ⟨(some 46), none, .inl (.mv (.t 45))⟩,
            ⟨(some 47), (some (46, false)), .inl (.faddr 2 (.t 7))⟩,
            ⟨(some 48), (some (46, false)), .inl (.load false 1 (.t 47))⟩,
            ⟨(some 49), (some (46, false)), .inl (.bin .gtr (.t 48) (.c (.int .i64 2)))⟩,
            ⟨(some 50), none, .inl (.pick (.t 46) (.c (.bool true)) (.t 49))⟩,
            ⟨(some 51), none, .inl (.mv (.t 50))⟩,
            ⟨(some 52), (some (51, false)), .inl (.faddr 2 (.t 7))⟩,
            ⟨(some 53), (some (51, false)), .inl (.load false 1 (.t 52))⟩,
            ⟨(some 54), (some (51, false)), .inl (.bin .eql (.t 53) (.c (.int .i64 1)))⟩,
            ⟨(some 55), (some (51, false)), .inl (.mv (.t 54))⟩,
            ⟨(some 56), (some (55, true)), .inl (.faddr 1 (.t 7))⟩,
            ⟨(some 57), (some (55, true)), .inl (.load false 1 (.t 56))⟩,
            ⟨(some 58), (some (55, true)), .inl (.bin .neq (.t 57) (.c (.int .i64 1)))⟩,
            ⟨(some 59), (some (51, false)), .inl (.pick (.t 55) (.t 58) (.c (.bool false)))⟩,
            ⟨(some 60), none, .inl (.pick (.t 51) (.c (.bool true)) (.t 59))⟩])
         (.keep [0, 1, 5, 6, 7, 60]))
         (.cond (.t 60)
           (.seq (.seq (.reg [⟨(some 4), none, .inl (.mv (.c (.bool false)))⟩])
            (.keep [4]))
            (.ret))
           (.skip)))
         (.seq (.seq (.seq (.reg [⟨(some 61), none, .inl (.mv (.t 6))⟩,
             ⟨(some 62), none, .inl (.bin .gtr (.t 61) (.c (.int .i64 0)))⟩,
             ⟨(some 63), none, .inl (.mv (.t 62))⟩,
             ⟨(some 64), (some (63, true)), .inl (.faddr 2 (.t 7))⟩,
             ⟨(some 65), (some (63, true)), .inl (.load false 1 (.t 64))⟩,
             ⟨(some 66), (some (63, true)), .inl (.bin .eql (.t 65) (.c (.int .i64 0)))⟩,
             ⟨(some 67), none, .inl (.pick (.t 63) (.t 66) (.c (.bool false)))⟩,
             ⟨(some 68), none, .inl (.mv (.t 67))⟩,
             ⟨(some 69), (some (68, true)), .inl (.mv (.t 1))⟩,
             ⟨(some 70), (some (68, true)), .inl (.mv (.t 6))⟩,
             ⟨(some 71), (some (68, true)), .inl (.bin .sub (.t 70) (.c (.int .i64 1)))⟩,
             ⟨(some 72), (some (68, true)), .inl (.iaddr 3 (.t 69) (.t 71))⟩,
             ⟨(some 73), (some (68, true)), .inl (.faddr 2 (.t 72))⟩,
             ⟨(some 74), (some (68, true)), .inl (.load false 1 (.t 73))⟩,
             ⟨(some 75), (some (68, true)), .inl (.bin .eql (.t 74) (.c (.int .i64 0)))⟩,
             ⟨(some 76), none, .inl (.pick (.t 68) (.t 75) (.c (.bool false)))⟩])
          (.keep [0, 1, 5, 6, 7, 76]))
          (.cond (.t 76)
            (.seq (.seq (.reg [⟨(some 4), none, .inl (.mv (.c (.bool false)))⟩])
             (.keep [4]))
             (.ret))
            (.skip)))
          (.seq (.reg [⟨(some 77), none, .inl (.mv (.t 5))⟩,
              ⟨(some 78), none, .inl (.faddr 1 (.t 7))⟩,
              ⟨(some 79), none, .inl (.load false 1 (.t 78))⟩,
              ⟨(some 80), none, .inl (.bin .add (.t 77) (.t 79))⟩,
              ⟨(some 5), none, .inl (.mv (.t 80))⟩])
           (.keep [0, 1, 5, 6]))))))
        (.seq (.reg [⟨(some 18), none, .inl (.mv (.t 6))⟩,
            ⟨(some 19), none, .inl (.bin .add (.t 18) (.c (.int .i64 1)))⟩,
            ⟨(some 6), none, .inl (.mv (.t 19))⟩])
         (.keep [0, 1, 5, 6])))))))
      (.seq (.seq (.reg [⟨(some 81), none, .inl (.mv (.t 5))⟩,
          ⟨(some 82), none, .inl (.mv (.t 0))⟩,
          ⟨(some 83), none, .inl (.bin .eql (.t 81) (.t 82))⟩,
          ⟨(some 4), none, .inl (.mv (.t 83))⟩])
       (.keep [4]))
       (.ret)))))
def fc_joistref14_Right : FC := ⟨84, cmd_joistref14_Right, [.t 4]⟩
theorem fc_joistref14_Right_ok : compF Try.prog 15 [[0, 1], [0, 1, 13], [4], [0, 1, 5], [0, 1, 5, 6], [0, 1, 5, 6], [0, 1, 5, 6, 17], [0, 1, 5, 6, 7], [0, 1, 5, 6, 7, 60], [4], [0, 1, 5, 6, 7, 76], [4], [0, 1, 5, 6], [0, 1, 5, 6], [4]] = some fc_joistref14_Right := by kernel_rfl
/-- joist/tree.Nodes -/
abbrev F.tree_Nodes : Nat := 16
def cmd_tree_Nodes : Cmd :=
  .seq (.seq (.reg [⟨(some 2), none, .inl (.mv (.c (.int .i64 0)))⟩])
   (.keep [0]))
   (.seq (.seq (.seq (.reg [⟨(some 4), none, .inl (.mv (.t 0))⟩,
       ⟨(some 5), none, .inl (.bin .lss (.t 4) (.c (.int .i64 0)))⟩])
    (.keep [0, 5]))
    (.cond (.t 5)
      (.seq (.seq (.reg [⟨(some 2), none, .inl (.mv (.c (.int .i64 0)))⟩])
       (.keep [2]))
       (.ret))
      (.skip)))
    (.seq (.seq (.reg [⟨(some 6), none, .inl (.mv (.t 0))⟩,
        ⟨(some 7), none, .inr (.call 29 [(.t 6)])⟩,
        ⟨(some 0), none, .inl (.mv (.t 7))⟩])
     (.keep [0]))
     (.seq (.seq (.reg [⟨(some 8), none, .inl (.mv (.t 0))⟩,
         ⟨(some 3), none, .inl (.mv (.t 8))⟩])
      (.keep [0, 3]))
      (.seq (.block 0 (.loop [0, 3] (.seq (.seq (.seq (.reg [⟨(some 9), none, .inl (.mv (.t 0))⟩,
          ⟨(some 10), none, .inl (.bin .gtr (.t 9) (.c (.int .i64 1)))⟩])
       (.keep [0, 3, 10]))
       (.cond (.t 10)
         (.skip)
         (.exit 0)))
       (.block 1 (.seq (.seq (.reg [⟨(some 11), none, .inl (.mv (.t 0))⟩,
           ⟨(some 12), none, .inr (.call 29 [(.t 11)])⟩,
           ⟨(some 0), none, .inl (.mv (.t 12))⟩])
        (.keep [0, 3]))
        (.seq (.reg [⟨(some 13), none, .inl (.mv (.t 3))⟩,
            ⟨(some 14), none, .inl (.mv (.t 0))⟩,
            ⟨(some 15), none, .inl (.bin .add (.t 13) (.t 14))⟩,
            ⟨(some 3), none, .inl (.mv (.t 15))⟩])
         (.keep [0, 3])))))))
       (.seq (.seq (.reg [⟨(some 16), none, .inl (.mv (.t 3))⟩,
           ⟨(some 2), none, .inl (.mv (.t 16))⟩])
        (.keep [2]))
        (.ret))))))
def fc_tree_Nodes : FC := ⟨17, cmd_tree_Nodes, [.t 2]⟩
theorem fc_tree_Nodes_ok : compF Try.prog 16 [[0], [0, 5], [2], [0], [0, 3], [0, 3], [0, 3, 10], [0, 3], [0, 3], [2]] = some fc_tree_Nodes := by kernel_rfl
/-- joist/joistref14.Nodes -/
abbrev F.joistref14_Nodes : Nat := 17
def cmd_joistref14_Nodes : Cmd :=
  .seq (.seq (.reg [⟨(some 2), none, .inl (.mv (.c (.int .i64 0)))⟩])
   (.keep [0]))
   (.seq (.seq (.seq (.reg [⟨(some 4), none, .inl (.mv (.t 0))⟩,
       ⟨(some 5), none, .inl (.bin .lss (.t 4) (.c (.int .i64 0)))⟩])
    (.keep [0, 5]))
    (.cond (.t 5)
      (.seq (.seq (.reg [⟨(some 2), none, .inl (.mv (.c (.int .i64 0)))⟩])
       (.keep [2]))
       (.ret))
      (.skip)))
    (.seq (.seq (.reg [⟨(some 6), none, .inl (.mv (.t 0))⟩,
        ⟨(some 7), none, .inl (.bin .quo (.t 6) (.c (.int .i64 7)))⟩,
        ⟨(some 8), none, .inl (.mv (.t 0))⟩,
        ⟨(some 9), none, .inl (.bin .rem (.t 8) (.c (.int .i64 7)))⟩,
        ⟨(some 10), none, .inl (.mn (.t 9) (.c (.int .i64 1)))⟩,
        ⟨(some 11), none, .inl (.bin .add (.t 7) (.t 10))⟩,
        ⟨(some 0), none, .inl (.mv (.t 11))⟩])
     (.keep [0]))
     (.seq (.seq (.reg [⟨(some 12), none, .inl (.mv (.t 0))⟩,
         ⟨(some 13), none, .inl (.mx (.t 12) (.c (.int .i64 1)))⟩,
         ⟨(some 0), none, .inl (.mv (.t 13))⟩])
      (.keep [0]))
      (.seq (.seq (.reg [⟨(some 14), none, .inl (.mv (.t 0))⟩,
          ⟨(some 3), none, .inl (.mv (.t 14))⟩])
       (.keep [0, 3]))
       (.seq (.block 0 (.loop [0, 3] (.seq (.seq (.seq (.reg [⟨(some 15), none, .inl (.mv (.t 0))⟩,
           ⟨(some 16), none, .inl (.bin .gtr (.t 15) (.c (.int .i64 1)))⟩])
        (.keep [0, 3, 16]))
        (.cond (.t 16)
          (.skip)
          (.exit 0)))
        (.block 1 (.seq (.seq (.reg [⟨(some 17), none, .inl (.mv (.t 0))⟩,
            ⟨(some 18), none, .inl (.bin .quo (.t 17) (.c (.int .i64 7)))⟩,
            ⟨(some 19), none, .inl (.mv (.t 0))⟩,
            ⟨(some 20), none, .inl (.bin .rem (.t 19) (.c (.int .i64 7)))⟩,
            ⟨(some 21), none, .inl (.mn (.t 20) (.c (.int .i64 1)))⟩,
            ⟨(some 22), none, .inl (.bin .add (.t 18) (.t 21))⟩,
            ⟨(some 0), none, .inl (.mv (.t 22))⟩])
         (.keep [0, 3]))
         (.seq (.reg [⟨(some 23), none, .inl (.mv (.t 3))⟩,
             ⟨(some 24), none, .inl (.mv (.t 0))⟩,
             ⟨(some 25), none, .inl (.bin .add (.t 23) (.t 24))⟩,
             ⟨(some 3), none, .inl (.mv (.t 25))⟩])
          (.keep [0, 3])))))))
        (.seq (.seq (.reg [⟨(some 26), none, .inl (.mv (.t 3))⟩,
            ⟨(some 2), none, .inl (.mv (.t 26))⟩])
         (.keep [2]))
         (.ret)))))))
def fc_joistref14_Nodes : FC := ⟨27, cmd_joistref14_Nodes, [.t 2]⟩
theorem fc_joistref14_Nodes_ok : compF Try.prog 17 [[0], [0, 5], [2], [0], [0], [0, 3], [0, 3], [0, 3, 16], [0, 3], [0, 3], [2]] = some fc_joistref14_Nodes := by kernel_rfl
/-- joist/tree.Write -/
abbrev F.tree_Write : Nat := 18
def cmd_tree_Write : Cmd :=
  .seq (.seq (.reg [⟨(some 6), none, .inl (.mv (.c .nils))⟩,
      ⟨(some 7), none, .inl (.mv (.c (.int .i64 0)))⟩])
   (.keep [0, 1, 2]))
   (.seq (.block 0 (.seq (.seq (.reg [⟨(some 15), none, .inl (.mv (.t 0))⟩,
       ⟨(some 16), none, .inl (.mv (.t 2))⟩,
       ⟨(some 17), none, .inr (.call 14 [(.t 15), (.t 16)])⟩,
       ⟨(some 18), none, .inl (.un .not (.t 17))⟩,
       ⟨(some 14), none, .inl (.mv (.t 18))⟩])
    (.keep [1, 2, 14]))
    (.cond (.t 14)
      (.seq (.seq (.reg [⟨(some 6), none, .inl (.mv (.c .nils))⟩,
          ⟨(some 7), none, .inl (.mv (.c (.int .i64 1)))⟩])
       (.keep [6, 7]))
       (.ret))
      (.seq (.seq (.seq (.reg [⟨(some 20), none, .inl (.mv (.t 1))⟩,
          ⟨(some 21), none, .inl (.mv (.t 2))⟩,
          ⟨(some 22), none, .inl (.len (.t 21))⟩,
          ⟨(some 23), none, .inr (.call 16 [(.t 22)])⟩,
          ⟨(some 24), none, .inl (.bin .lss (.t 20) (.t 23))⟩,
          ⟨(some 19), none, .inl (.mv (.t 24))⟩])
       (.keep [1, 2, 19]))
       (.cond (.t 19)
         (.skip)
         (.seq (.reg [⟨(some 25), none, .inl (.mv (.t 1))⟩,
             ⟨(some 26), none, .inr (.call 16 [(.c (.int .i64 64))])⟩,
             ⟨(some 27), none, .inl (.bin .gtr (.t 25) (.t 26))⟩,
             ⟨(some 19), none, .inl (.mv (.t 27))⟩])
          (.keep [1, 2, 19]))))
       (.cond (.t 19)
         (.seq (.seq (.reg [⟨(some 6), none, .inl (.mv (.c .nils))⟩,
             ⟨(some 7), none, .inl (.mv (.c (.int .i64 2)))⟩])
          (.keep [6, 7]))
          (.ret))
         (.skip))))))
    (.seq (.seq (.reg [⟨(some 8), none, .inr (.alloc [.nils])⟩])
     (.keep [1, 2, 8]))
     (.seq (.seq (.reg [⟨(some 9), none, .inr (.alloc [(.int .i64 0)])⟩,
         ⟨none, none, .inr (.store 1 (.t 9) (.c (.int .i64 0)))⟩])
      (.keep [1, 2, 8, 9]))
      (.seq (.seq (.seq (.reg [⟨(some 28), none, .inl (.mv (.t 2))⟩,
          ⟨(some 29), none, .inr (.call 31 [(.t 28)])⟩,
          ⟨(some 30), none, .inr (.call 30 [(.t 29)])⟩])
       (.keep [1, 8, 9, 30]))
       (.block 1 (.rfun (.t 30) [31, 32]
         (.seq (.reg [⟨(some 11), none, .inl (.mv (.t 32))⟩])
          (.keep [8, 9, 11]))
         (.block 2 (.seq (.seq (.reg [⟨(some 33), none, .inl (.load false 1 (.t 9))⟩,
             ⟨(some 34), none, .inl (.mv (.t 11))⟩,
             ⟨(some 35), none, .inl (.len (.t 34))⟩,
             ⟨(some 36), none, .inl (.bin .add (.t 33) (.t 35))⟩,
             ⟨none, none, .inr (.store 1 (.t 9) (.t 36))⟩])
          (.keep [8, 9, 11]))
          (.seq (.seq (.reg [⟨(some 37), none, .inl (.mv (.t 11))⟩,
              ⟨(some 38), none, .inl (.len (.t 37))⟩,
              ⟨(some 39), none, .inl (.mv (.c (.int .i64 0)))⟩])
           (.keep [8, 9, 37, 38, 39]))
           (.block 3 (.loop [8, 9, 37, 38, 39] (.seq (.seq (.reg [⟨(some 40), none, .inl (.bin .lss (.t 39) (.t 38))⟩])
            (.keep [8, 9, 37, 38, 39, 40]))
            (.seq (.cond (.t 40)
              (.skip)
              (.exit 3))
             (.seq (.block 4 (.seq (.seq (.reg [⟨(some 41), none, .inl (.iaddr 2 (.t 37) (.t 39))⟩,
                 ⟨(some 42), none, .inl (.load true 2 (.t 41))⟩,
                 ⟨(some 13), none, .inr (.alloc [(.bool false), .nils])⟩,
                 ⟨none, none, .inr (.store 2 (.t 13) (.t 42))⟩])
              (.keep [8, 9, 13, 37, 38, 39]))
              (.seq (.ord [⟨0, ⟨(some 43), none, .inl (.load false 1 (.t 8))⟩, [], true⟩,
                  ⟨1, ⟨(some 44), none, .inl (.load true 2 (.t 13))⟩, [], false⟩,
                  ⟨2, ⟨(some 45), none, .inl (.load false 1 (.t 9))⟩, [], false⟩,
                  ⟨3, ⟨(some 46), none, .inr (.call 32 [(.t 44), (.t 45)])⟩, [0], false⟩,
                  ⟨4, ⟨(some 47), none, .inr (.append 1 1 (.t 43) (.t 46))⟩, [], false⟩,
                  ⟨5, ⟨none, none, .inr (.store 1 (.t 8) (.t 47))⟩, [], false⟩])
               (.keep [8, 9, 37, 38, 39]))))
              (.seq (.reg [⟨(some 48), none, .inl (.bin .add (.t 39) (.c (.int .i64 1)))⟩,
                  ⟨(some 39), none, .inl (.mv (.t 48))⟩])
               (.keep [8, 9, 37, 38, 39])))))))))))))
       (.seq (.seq (.reg [⟨(some 49), none, .inl (.load false 1 (.t 8))⟩,
           ⟨(some 50), none, .inl (.mv (.t 1))⟩,
           ⟨(some 51), none, .inl (.bin .mul (.t 50) (.c (.int .i64 128)))⟩,
           ⟨(some 52), none, .inl (.load false 1 (.t 8))⟩,
           ⟨(some 53), none, .inl (.len (.t 52))⟩,
           ⟨(some 54), none, .inl (.bin .sub (.t 51) (.t 53))⟩,
           ⟨(some 55), none, .inr (.appendz 1 1 [(.int .u8 0)] (.t 49) (.t 54))⟩,
           ⟨(some 6), none, .inl (.mv (.t 55))⟩,
           ⟨(some 7), none, .inl (.mv (.c (.int .i64 0)))⟩])
        (.keep [6, 7]))
        (.ret))))))
def fc_tree_Write : FC := ⟨56, cmd_tree_Write, [.t 6, .t 7]⟩
theorem fc_tree_Write_ok : compF Try.prog 18 [[0, 1, 2], [1, 2, 14], [6, 7], [1, 2, 19], [1, 2, 19], [6, 7], [1, 2, 8], [1, 2, 8, 9], [1, 8, 9, 30], [8, 9, 11], [8, 9, 11], [8, 9, 37, 38, 39], [8, 9, 37, 38, 39], [8, 9, 37, 38, 39, 40], [8, 9, 13, 37, 38, 39], [8, 9, 37, 38, 39], [0, 1, 2, 3, 4, 5], [8, 9, 37, 38, 39], [6, 7]] = some fc_tree_Write := by kernel_rfl
/-- joist/joistref14.Write -/
abbrev F.joistref14_Write : Nat := 19
def cmd_joistref14_Write : Cmd :=
  .seq (.seq (.reg [⟨(some 6), none, .inl (.mv (.c .nils))⟩,
      ⟨(some 7), none, .inl (.mv (.c (.int .i64 0)))⟩])
   (.keep [0, 1, 2]))
   (.seq (.seq (.reg [⟨(some 21), none, .inl (.mv (.t 0))⟩,
       ⟨(some 22), none, .inl (.mv (.t 2))⟩,
       ⟨(some 23), none, .inr (.call 15 [(.t 21), (.t 22)])⟩,
       ⟨(some 8), none, .inl (.mv (.t 23))⟩])
    (.keep [1, 2, 8]))
    (.seq (.seq (.seq (.reg [⟨(some 24), none, .inl (.mv (.t 8))⟩,
        ⟨(some 25), none, .inl (.un .not (.t 24))⟩])
     (.keep [1, 2, 25]))
     (.cond (.t 25)
       (.seq (.seq (.reg [⟨(some 6), none, .inl (.mv (.c .nils))⟩,
           ⟨(some 7), none, .inl (.mv (.c (.int .i64 1)))⟩])
        (.keep [6, 7]))
        (.ret))
       (.skip)))
     (.seq (.seq (.seq (.reg [⟨(some 26), none, .inl (.mv (.t 1))⟩,
         ⟨(some 27), none, .inl (.mv (.t 2))⟩,
         ⟨(some 28), none, .inl (.len (.t 27))⟩,
         ⟨(some 29), none, .inr (.call 17 [(.t 28)])⟩,
         ⟨(some 30), none, .inl (.bin .lss (.t 26) (.t 29))⟩,
         ⟨(some 31), none, .inl (.mv (.t 30))⟩,
         ⟨(some 32), (some (31, false)), .inl (.mv (.t 1))⟩,
         ⟨(some 33), (some (31, false)), .inr (.call 17 [(.c (.int .i64 64))])⟩,
         ⟨(some 34), (some (31, false)), .inl (.bin .gtr (.t 32) (.t 33))⟩,
         ⟨(some 35), none, .inl (.pick (.t 31) (.c (.bool true)) (.t 34))⟩])
      (.keep [1, 2, 35]))
      (.cond (.t 35)
        (.seq (.seq (.reg [⟨(some 6), none, .inl (.mv (.c .nils))⟩,
            ⟨(some 7), none, .inl (.mv (.c (.int .i64 2)))⟩])
         (.keep [6, 7]))
         (.ret))
        (.skip)))
      (.seq (.seq (.reg [⟨(some 36), none, .inl (.mv (.t 2))⟩,
          ⟨(some 37), none, .inr (.call 33 [(.t 36)])⟩,
          ⟨(some 9), none, .inl (.mv (.t 37))⟩])
       (.keep [1, 9]))
       (.seq (.seq (.reg [⟨(some 10), none, .inl (.mv (.c .nils))⟩])
        (.keep [1, 9, 10]))
        (.seq (.seq (.reg [⟨(some 11), none, .inl (.mv (.c (.int .i64 0)))⟩])
         (.keep [1, 9, 10, 11]))
         (.seq (.seq (.seq (.reg [⟨(some 12), none, .inl (.mv (.c (.int .i64 0)))⟩])
          (.keep [1, 9, 10, 11, 12]))
          (.block 0 (.loop [1, 9, 10, 11, 12] (.seq (.seq (.seq (.reg [⟨(some 38), none, .inl (.mv (.t 12))⟩,
              ⟨(some 39), none, .inl (.mv (.t 9))⟩,
              ⟨(some 40), none, .inl (.len (.t 39))⟩,
              ⟨(some 41), none, .inl (.bin .lss (.t 38) (.t 40))⟩])
           (.keep [1, 9, 10, 11, 12, 41]))
           (.cond (.t 41)
             (.skip)
             (.exit 0)))
           (.seq (.block 1 (.seq (.seq (.reg [⟨(some 44), none, .inl (.mv (.t 11))⟩,
               ⟨(some 45), none, .inl (.mv (.t 9))⟩,
               ⟨(some 46), none, .inl (.mv (.t 12))⟩,
               ⟨(some 47), none, .inl (.iaddr 1 (.t 45) (.t 46))⟩,
               ⟨(some 48), none, .inl (.load false 1 (.t 47))⟩,
               ⟨(some 49), none, .inl (.len (.t 48))⟩,
               ⟨(some 50), none, .inl (.bin .add (.t 44) (.t 49))⟩,
               ⟨(some 11), none, .inl (.mv (.t 50))⟩])
            (.keep [1, 9, 10, 11, 12]))
            (.seq (.seq (.reg [⟨(some 13), none, .inl (.mv (.c (.int .i64 0)))⟩])
             (.keep [1, 9, 10, 11, 12, 13]))
             (.block 2 (.loop [1, 9, 10, 11, 12, 13] (.seq (.seq (.seq (.reg [⟨(some 51), none, .inl (.mv (.t 13))⟩,
                 ⟨(some 52), none, .inl (.mv (.t 9))⟩,
                 ⟨(some 53), none, .inl (.mv (.t 12))⟩,
                 ⟨(some 54), none, .inl (.iaddr 1 (.t 52) (.t 53))⟩,
                 ⟨(some 55), none, .inl (.load false 1 (.t 54))⟩,
                 ⟨(some 56), none, .inl (.len (.t 55))⟩,
                 ⟨(some 57), none, .inl (.bin .lss (.t 51) (.t 56))⟩])
              (.keep [1, 9, 10, 11, 12, 13, 57]))
              (.cond (.t 57)
                (.skip)
                (.exit 2)))
              (.seq (.block 3 (.seq (.seq (.reg [⟨(some 60), none, .inl (.mv (.t 9))⟩,
                  ⟨(some 61), none, .inl (.mv (.t 12))⟩,
                  ⟨(some 62), none, .inl (.iaddr 1 (.t 60) (.t 61))⟩,
                  ⟨(some 63), none, .inl (.load false 1 (.t 62))⟩,
                  ⟨(some 64), none, .inl (.mv (.t 13))⟩,
                  ⟨(some 65), none, .inl (.iaddr 4 (.t 63) (.t 64))⟩,
                  ⟨(some 66), none, .inl (.load true 4 (.t 65))⟩,
                  ⟨(some 14), none, .inr (.alloc [.nils, (.int .i64 0), (.bool false), (.int .i64 0)])⟩,
                  ⟨none, none, .inr (.store 4 (.t 14) (.t 66))⟩])
               (.keep [1, 9, 10, 11, 12, 13, 14]))
               (.seq (.seq (.reg [⟨(some 67), none, .inl (.faddr 1 (.t 14))⟩,
                   ⟨(some 68), none, .inl (.load false 1 (.t 67))⟩,
                   ⟨(some 69), none, .inl (.bin .mul (.c (.int .i64 2)) (.t 68))⟩,
                   ⟨(some 15), none, .inl (.mv (.t 69))⟩])
                (.keep [1, 9, 10, 11, 12, 13, 14, 15]))
                (.seq (.seq (.seq (.reg [⟨(some 70), none, .inl (.faddr 2 (.t 14))⟩,
                    ⟨(some 71), none, .inl (.load false 1 (.t 70))⟩])
                 (.keep [1, 9, 10, 11, 12, 13, 14, 15, 71]))
                 (.cond (.t 71)
                   (.seq (.reg [⟨(some 72), none, .inl (.mv (.t 15))⟩,
                       ⟨(some 73), none, .inl (.bin .add (.t 72) (.c (.int .i64 1)))⟩,
                       ⟨(some 15), none, .inl (.mv (.t 73))⟩])
                    (.keep [1, 9, 10, 11, 12, 13, 14, 15]))
                   (.skip)))
                 (.seq (.seq (.reg [⟨(some 74), none, .inl (.mv (.t 15))⟩,
                     ⟨(some 75), none, .inr (.bslice 1 [(.int .i64 0)] 1 [(0, (.t 74))])⟩,
                     ⟨(some 16), none, .inl (.mv (.t 75))⟩])
                  (.keep [1, 9, 10, 11, 12, 13, 14, 16]))
                  (.seq (.seq (.seq (.reg [⟨(some 17), none, .inl (.mv (.c (.int .i64 0)))⟩])
                   (.keep [1, 9, 10, 11, 12, 13, 14, 16, 17]))
                   (.block 4 (.loop [1, 9, 10, 11, 12, 13, 14, 16, 17] (.seq (.seq (.seq (.reg [⟨(some 76), none, .inl (.mv (.t 17))⟩,
                       ⟨(some 77), none, .inl (.faddr 0 (.t 14))⟩,
                       ⟨(some 78), none, .inl (.load false 1 (.t 77))⟩,
                       ⟨(some 79), none, .inl (.len (.t 78))⟩,
                       ⟨(some 80), none, .inl (.bin .lss (.t 76) (.t 79))⟩])
                    (.keep [1, 9, 10, 11, 12, 13, 14, 16, 17, 80]))
                    (.cond (.t 80)
                      (.skip)
                      (.exit 4)))
                    (.seq (.block 5 (.seq (.seq (.reg [⟨(some 83), none, .inl (.faddr 0 (.t 14))⟩,
                        ⟨(some 84), none, .inl (.load false 1 (.t 83))⟩,
                        ⟨(some 85), none, .inl (.mv (.t 17))⟩,
                        ⟨(some 86), none, .inl (.iaddr 1 (.t 84) (.t 85))⟩,
                        ⟨(some 87), none, .inl (.load false 1 (.t 86))⟩,
                        ⟨(some 18), none, .inl (.mv (.t 87))⟩])
                     (.keep [1, 9, 10, 11, 12, 13, 14, 16, 17, 18]))
                     (.seq (.seq (.seq (.reg [⟨(some 88), none, .inl (.faddr 2 (.t 14))⟩,
                         ⟨(some 89), none, .inl (.load false 1 (.t 88))⟩,
                         ⟨(some 90), none, .inl (.un .not (.t 89))⟩,
                         ⟨(some 91), none, .inl (.mv (.t 90))⟩,
                         ⟨(some 92), (some (91, true)), .inl (.mv (.t 17))⟩,
                         ⟨(some 93), (some (91, true)), .inl (.bin .rem (.t 92) (.c (.int .i64 2)))⟩,
                         ⟨(some 94), (some (91, true)), .inl (.bin .eql (.t 93) (.c (.int .i64 1)))⟩,
                         ⟨(some 95), none, .inl (.pick (.t 91) (.t 94) (.c (.bool false)))⟩])
                      (.keep [1, 9, 10, 11, 12, 13, 14, 16, 17, 18, 95]))
                      (.cond (.t 95)
                        (.seq (.reg [⟨(some 96), none, .inl (.mv (.t 18))⟩,
                            ⟨(some 97), none, .inl (.mv (.t 11))⟩,
                            ⟨(some 98), none, .inl (.bin .add (.t 96) (.t 97))⟩,
                            ⟨(some 18), none, .inl (.mv (.t 98))⟩])
                         (.keep [1, 9, 10, 11, 12, 13, 14, 16, 17, 18]))
                        (.skip)))
                      (.seq (.reg [⟨(some 99), none, .inl (.mv (.t 16))⟩,
                          ⟨(some 100), none, .inl (.mv (.t 18))⟩,
                          ⟨(some 101), none, .inr (.bslice 1 [(.int .i64 0)] 1 [(0, (.t 100))])⟩,
                          ⟨(some 102), none, .inr (.append 1 8 (.t 99) (.t 101))⟩,
                          ⟨(some 16), none, .inl (.mv (.t 102))⟩])
                       (.keep [1, 9, 10, 11, 12, 13, 14, 16, 17])))))
                     (.seq (.reg [⟨(some 81), none, .inl (.mv (.t 17))⟩,
                         ⟨(some 82), none, .inl (.bin .add (.t 81) (.c (.int .i64 1)))⟩,
                         ⟨(some 17), none, .inl (.mv (.t 82))⟩])
                      (.keep [1, 9, 10, 11, 12, 13, 14, 16, 17])))))))
                   (.seq (.block 6 (.loop [1, 9, 10, 11, 12, 13, 16] (.seq (.seq (.seq (.reg [⟨(some 103), none, .inl (.mv (.t 16))⟩,
                       ⟨(some 104), none, .inl (.len (.t 103))⟩,
                       ⟨(some 105), none, .inl (.bin .lss (.t 104) (.c (.int .i64 16)))⟩])
                    (.keep [1, 9, 10, 11, 12, 13, 16, 105]))
                    (.cond (.t 105)
                      (.skip)
                      (.exit 6)))
                    (.block 7 (.seq (.reg [⟨(some 106), none, .inl (.mv (.t 16))⟩,
                        ⟨(some 107), none, .inr (.bslice 1 [(.int .i64 0)] 1 [(0, (.c (.int .i64 0)))])⟩,
                        ⟨(some 108), none, .inr (.append 1 8 (.t 106) (.t 107))⟩,
                        ⟨(some 16), none, .inl (.mv (.t 108))⟩])
                     (.keep [1, 9, 10, 11, 12, 13, 16]))))))
                    (.seq (.seq (.reg [⟨(some 110), none, .inl (.mv (.t 16))⟩,
                        ⟨(some 111), none, .inr (.call 34 [(.t 110)])⟩,
                        ⟨(some 109), none, .inl (.mv (.t 111))⟩,
                        ⟨(some 112), none, .inl (.ext 0 (.t 109))⟩,
                        ⟨(some 113), none, .inl (.ext 1 (.t 109))⟩,
                        ⟨(some 19), none, .inl (.mv (.t 112))⟩,
                        ⟨(some 20), none, .inl (.mv (.t 113))⟩])
                     (.keep [1, 9, 10, 11, 12, 13, 19]))
                     (.seq (.reg [⟨(some 114), none, .inl (.mv (.t 10))⟩,
                         ⟨(some 115), none, .inl (.mv (.t 19))⟩,
                         ⟨(some 116), none, .inr (.append 1 1 (.t 114) (.t 115))⟩,
                         ⟨(some 10), none, .inl (.mv (.t 116))⟩])
                      (.keep [1, 9, 10, 11, 12, 13]))))))))))
               (.seq (.reg [⟨(some 58), none, .inl (.mv (.t 13))⟩,
                   ⟨(some 59), none, .inl (.bin .add (.t 58) (.c (.int .i64 1)))⟩,
                   ⟨(some 13), none, .inl (.mv (.t 59))⟩])
                (.keep [1, 9, 10, 11, 12, 13])))))))))
            (.seq (.reg [⟨(some 42), none, .inl (.mv (.t 12))⟩,
                ⟨(some 43), none, .inl (.bin .add (.t 42) (.c (.int .i64 1)))⟩,
                ⟨(some 12), none, .inl (.mv (.t 43))⟩])
             (.keep [1, 9, 10, 11, 12])))))))
          (.seq (.block 8 (.loop [1, 10] (.seq (.seq (.seq (.reg [⟨(some 117), none, .inl (.mv (.t 10))⟩,
              ⟨(some 118), none, .inl (.len (.t 117))⟩,
              ⟨(some 119), none, .inl (.mv (.t 1))⟩,
              ⟨(some 120), none, .inl (.bin .mul (.c (.int .i64 128)) (.t 119))⟩,
              ⟨(some 121), none, .inl (.bin .lss (.t 118) (.t 120))⟩])
           (.keep [1, 10, 121]))
           (.cond (.t 121)
             (.skip)
             (.exit 8)))
           (.block 9 (.seq (.reg [⟨(some 122), none, .inl (.mv (.t 10))⟩,
               ⟨(some 123), none, .inr (.bslice 1 [(.int .u8 0)] 1 [(0, (.c (.int .u8 0)))])⟩,
               ⟨(some 124), none, .inr (.append 1 1 (.t 122) (.t 123))⟩,
               ⟨(some 10), none, .inl (.mv (.t 124))⟩])
            (.keep [1, 10]))))))
           (.seq (.seq (.reg [⟨(some 125), none, .inl (.mv (.t 10))⟩,
               ⟨(some 6), none, .inl (.mv (.t 125))⟩,
               ⟨(some 7), none, .inl (.mv (.c (.int .i64 0)))⟩])
            (.keep [6, 7]))
            (.ret))))))))))
def fc_joistref14_Write : FC := ⟨126, cmd_joistref14_Write, [.t 6, .t 7]⟩
theorem fc_joistref14_Write_ok : compF Try.prog 19 [[0, 1, 2], [1, 2, 8], [1, 2, 25], [6, 7], [1, 2, 35], [6, 7], [1, 9], [1, 9, 10], [1, 9, 10, 11], [1, 9, 10, 11, 12], [1, 9, 10, 11, 12], [1, 9, 10, 11, 12, 41], [1, 9, 10, 11, 12], [1, 9, 10, 11, 12, 13], [1, 9, 10, 11, 12, 13], [1, 9, 10, 11, 12, 13, 57], [1, 9, 10, 11, 12, 13, 14], [1, 9, 10, 11, 12, 13, 14, 15], [1, 9, 10, 11, 12, 13, 14, 15, 71], [1, 9, 10, 11, 12, 13, 14, 15], [1, 9, 10, 11, 12, 13, 14, 16], [1, 9, 10, 11, 12, 13, 14, 16, 17], [1, 9, 10, 11, 12, 13, 14, 16, 17], [1, 9, 10, 11, 12, 13, 14, 16, 17, 80], [1, 9, 10, 11, 12, 13, 14, 16, 17, 18], [1, 9, 10, 11, 12, 13, 14, 16, 17, 18, 95], [1, 9, 10, 11, 12, 13, 14, 16, 17, 18], [1, 9, 10, 11, 12, 13, 14, 16, 17], [1, 9, 10, 11, 12, 13, 14, 16, 17], [1, 9, 10, 11, 12, 13, 16], [1, 9, 10, 11, 12, 13, 16, 105], [1, 9, 10, 11, 12, 13, 16], [1, 9, 10, 11, 12, 13, 19], [1, 9, 10, 11, 12, 13], [1, 9, 10, 11, 12, 13], [1, 9, 10, 11, 12], [1, 10], [1, 10, 121], [1, 10], [6, 7]] = some fc_joistref14_Write := by kernel_rfl
/-- joist/joistlaw01.Owned -/
abbrev F.joistlaw01_Owned : Nat := 20
def cmd_joistlaw01_Owned : Cmd :=
  .seq (.seq (.reg [⟨(some 2), none, .inl (.mv (.c (.bool false)))⟩])
   (.keep [0]))
   (.seq (.seq (.seq (.reg [⟨(some 3), none, .inl (.mv (.c (.int .i64 0)))⟩])
    (.keep [0, 3]))
    (.block 0 (.loop [0, 3] (.seq (.seq (.seq (.reg [⟨(some 9), none, .inl (.mv (.t 3))⟩,
        ⟨(some 10), none, .inl (.mv (.t 0))⟩,
        ⟨(some 11), none, .inl (.len (.t 10))⟩,
        ⟨(some 12), none, .inl (.bin .lss (.t 9) (.t 11))⟩])
     (.keep [0, 3, 12]))
     (.cond (.t 12)
       (.skip)
       (.exit 0)))
     (.seq (.block 1 (.seq (.seq (.ord [⟨0, ⟨(some 15), none, .inl (.mv (.t 0))⟩, [], false⟩,
         ⟨1, ⟨(some 16), none, .inl (.mv (.t 3))⟩, [], false⟩,
         ⟨2, ⟨(some 17), none, .inl (.iaddr 1 (.t 15) (.t 16))⟩, [], false⟩,
         ⟨3, ⟨(some 18), none, .inl (.load false 1 (.t 17))⟩, [], false⟩,
         ⟨4, ⟨(some 19), none, .inl (.mv (.t 0))⟩, [], false⟩,
         ⟨5, ⟨(some 20), none, .inl (.mv (.t 3))⟩, [], false⟩,
         ⟨6, ⟨(some 21), none, .inl (.iaddr 1 (.t 19) (.t 20))⟩, [], false⟩,
         ⟨7, ⟨(some 22), none, .inl (.load false 1 (.t 21))⟩, [], false⟩,
         ⟨8, ⟨(some 23), none, .inl (.cap (.t 22))⟩, [], false⟩,
         ⟨9, ⟨(some 24), none, .inl (.slice 1 (.t 18) none (some (.t 23)) none)⟩, [], false⟩,
         ⟨10, ⟨(some 4), none, .inl (.mv (.t 24))⟩, [], false⟩])
      (.keep [0, 3, 4]))
      (.seq (.seq (.reg [⟨(some 5), none, .inl (.mv (.c (.int .i64 0)))⟩])
       (.keep [0, 3, 4, 5]))
       (.block 2 (.loop [0, 3, 4, 5] (.seq (.seq (.seq (.reg [⟨(some 25), none, .inl (.mv (.t 5))⟩,
           ⟨(some 26), none, .inl (.mv (.t 4))⟩,
           ⟨(some 27), none, .inl (.len (.t 26))⟩,
           ⟨(some 28), none, .inl (.bin .lss (.t 25) (.t 27))⟩])
        (.keep [0, 3, 4, 5, 28]))
        (.cond (.t 28)
          (.skip)
          (.exit 2)))
        (.seq (.block 3 (.seq (.reg [⟨(some 31), none, .inl (.mv (.t 4))⟩,
            ⟨(some 32), none, .inl (.mv (.t 5))⟩,
            ⟨(some 33), none, .inl (.mv (.t 3))⟩,
            ⟨(some 34), none, .inl (.bin .add (.t 33) (.c (.int .i64 1)))⟩,
            ⟨(some 35), none, .inl (.conv .u8 (.t 34))⟩,
            ⟨(some 36), none, .inl (.iaddr 1 (.t 31) (.t 32))⟩,
            ⟨none, none, .inr (.store 1 (.t 36) (.t 35))⟩])
         (.keep [0, 3, 4, 5])))
         (.seq (.reg [⟨(some 29), none, .inl (.mv (.t 5))⟩,
             ⟨(some 30), none, .inl (.bin .add (.t 29) (.c (.int .i64 1)))⟩,
             ⟨(some 5), none, .inl (.mv (.t 30))⟩])
          (.keep [0, 3, 4, 5])))))))))
      (.seq (.reg [⟨(some 13), none, .inl (.mv (.t 3))⟩,
          ⟨(some 14), none, .inl (.bin .add (.t 13) (.c (.int .i64 1)))⟩,
          ⟨(some 3), none, .inl (.mv (.t 14))⟩])
       (.keep [0, 3])))))))
    (.seq (.seq (.seq (.reg [⟨(some 6), none, .inl (.mv (.c (.int .i64 0)))⟩])
     (.keep [0, 6]))
     (.block 4 (.loop [0, 6] (.seq (.seq (.seq (.reg [⟨(some 37), none, .inl (.mv (.t 6))⟩,
         ⟨(some 38), none, .inl (.mv (.t 0))⟩,
         ⟨(some 39), none, .inl (.len (.t 38))⟩,
         ⟨(some 40), none, .inl (.bin .lss (.t 37) (.t 39))⟩])
      (.keep [0, 6, 40]))
      (.cond (.t 40)
        (.skip)
        (.exit 4)))
      (.seq (.block 5 (.seq (.seq (.ord [⟨0, ⟨(some 43), none, .inl (.mv (.t 0))⟩, [], false⟩,
          ⟨1, ⟨(some 44), none, .inl (.mv (.t 6))⟩, [], false⟩,
          ⟨2, ⟨(some 45), none, .inl (.iaddr 1 (.t 43) (.t 44))⟩, [], false⟩,
          ⟨3, ⟨(some 46), none, .inl (.load false 1 (.t 45))⟩, [], false⟩,
          ⟨4, ⟨(some 47), none, .inl (.mv (.t 0))⟩, [], false⟩,
          ⟨5, ⟨(some 48), none, .inl (.mv (.t 6))⟩, [], false⟩,
          ⟨6, ⟨(some 49), none, .inl (.iaddr 1 (.t 47) (.t 48))⟩, [], false⟩,
          ⟨7, ⟨(some 50), none, .inl (.load false 1 (.t 49))⟩, [], false⟩,
          ⟨8, ⟨(some 51), none, .inl (.cap (.t 50))⟩, [], false⟩,
          ⟨9, ⟨(some 52), none, .inl (.slice 1 (.t 46) none (some (.t 51)) none)⟩, [], false⟩,
          ⟨10, ⟨(some 7), none, .inl (.mv (.t 52))⟩, [], false⟩])
       (.keep [0, 6, 7]))
       (.seq (.seq (.reg [⟨(some 8), none, .inl (.mv (.c (.int .i64 0)))⟩])
        (.keep [0, 6, 7, 8]))
        (.block 6 (.loop [0, 6, 7, 8] (.seq (.seq (.seq (.reg [⟨(some 53), none, .inl (.mv (.t 8))⟩,
            ⟨(some 54), none, .inl (.mv (.t 7))⟩,
            ⟨(some 55), none, .inl (.len (.t 54))⟩,
            ⟨(some 56), none, .inl (.bin .lss (.t 53) (.t 55))⟩])
         (.keep [0, 6, 7, 8, 56]))
         (.cond (.t 56)
           (.skip)
           (.exit 6)))
         (.seq (.block 7 (.seq (.seq (.reg [⟨(some 59), none, .inl (.mv (.t 7))⟩,
             ⟨(some 60), none, .inl (.mv (.t 8))⟩,
             ⟨(some 61), none, .inl (.iaddr 1 (.t 59) (.t 60))⟩,
             ⟨(some 62), none, .inl (.load false 1 (.t 61))⟩,
             ⟨(some 63), none, .inl (.mv (.t 6))⟩,
             ⟨(some 64), none, .inl (.bin .add (.t 63) (.c (.int .i64 1)))⟩,
             ⟨(some 65), none, .inl (.conv .u8 (.t 64))⟩,
             ⟨(some 66), none, .inl (.bin .neq (.t 62) (.t 65))⟩])
          (.keep [0, 6, 7, 8, 66]))
          (.cond (.t 66)
            (.seq (.seq (.reg [⟨(some 2), none, .inl (.mv (.c (.bool false)))⟩])
             (.keep [2]))
             (.ret))
            (.skip))))
          (.seq (.reg [⟨(some 57), none, .inl (.mv (.t 8))⟩,
              ⟨(some 58), none, .inl (.bin .add (.t 57) (.c (.int .i64 1)))⟩,
              ⟨(some 8), none, .inl (.mv (.t 58))⟩])
           (.keep [0, 6, 7, 8])))))))))
       (.seq (.reg [⟨(some 41), none, .inl (.mv (.t 6))⟩,
           ⟨(some 42), none, .inl (.bin .add (.t 41) (.c (.int .i64 1)))⟩,
           ⟨(some 6), none, .inl (.mv (.t 42))⟩])
        (.keep [0, 6])))))))
     (.seq (.seq (.reg [⟨(some 2), none, .inl (.mv (.c (.bool true)))⟩])
      (.keep [2]))
      (.ret))))
def fc_joistlaw01_Owned : FC := ⟨67, cmd_joistlaw01_Owned, [.t 2]⟩
theorem fc_joistlaw01_Owned_ok : compF Try.prog 20 [[0], [0, 3], [0, 3], [0, 3, 12], [0, 3, 4], [0, 1, 2, 3, 4, 5, 6, 7, 8, 9, 10], [0, 3, 4, 5], [0, 3, 4, 5], [0, 3, 4, 5, 28], [0, 3, 4, 5], [0, 3, 4, 5], [0, 3], [0, 6], [0, 6], [0, 6, 40], [0, 6, 7], [0, 1, 2, 3, 4, 5, 6, 7, 8, 9, 10], [0, 6, 7, 8], [0, 6, 7, 8], [0, 6, 7, 8, 56], [0, 6, 7, 8, 66], [2], [0, 6, 7, 8], [0, 6], [2]] = some fc_joistlaw01_Owned := by kernel_rfl
/-- joist/joistlaw01.Lent -/
abbrev F.joistlaw01_Lent : Nat := 21
def cmd_joistlaw01_Lent : Cmd :=
  .seq (.seq (.reg [⟨(some 2), none, .inl (.mv (.c .nils))⟩])
   (.keep [0]))
   (.seq (.seq (.reg [⟨(some 4), none, .inl (.mv (.t 0))⟩,
       ⟨(some 5), none, .inl (.len (.t 4))⟩,
       ⟨(some 6), none, .inl (.mv (.t 0))⟩,
       ⟨(some 7), none, .inl (.len (.t 6))⟩,
       ⟨(some 8), none, .inl (.bin .add (.t 7) (.c (.int .i64 1)))⟩,
       ⟨(some 9), none, .inr (.mksl 1 1 [(.int .u8 0)] (.t 5) (.t 8))⟩,
       ⟨(some 3), none, .inl (.mv (.t 9))⟩])
    (.keep [0, 3]))
    (.seq (.seq (.reg [⟨(some 10), none, .inl (.mv (.t 3))⟩,
        ⟨(some 11), none, .inl (.mv (.t 0))⟩,
        ⟨(some 12), none, .inr (.copy 1 (.t 10) (.t 11))⟩])
     (.keep [0, 3]))
     (.seq (.seq (.reg [⟨(some 13), none, .inl (.mv (.t 3))⟩,
         ⟨(some 14), none, .inl (.mv (.t 0))⟩,
         ⟨(some 15), none, .inl (.len (.t 14))⟩,
         ⟨(some 16), none, .inl (.bin .add (.t 15) (.c (.int .i64 1)))⟩,
         ⟨(some 17), none, .inl (.slice 1 (.t 13) none (some (.t 16)) none)⟩,
         ⟨(some 18), none, .inl (.mv (.t 0))⟩,
         ⟨(some 19), none, .inl (.len (.t 18))⟩,
         ⟨(some 20), none, .inl (.iaddr 1 (.t 17) (.t 19))⟩,
         ⟨none, none, .inr (.store 1 (.t 20) (.c (.int .u8 77)))⟩])
      (.keep [3]))
      (.seq (.seq (.reg [⟨(some 21), none, .inl (.mv (.t 3))⟩,
          ⟨(some 2), none, .inl (.mv (.t 21))⟩])
       (.keep [2]))
       (.ret)))))
def fc_joistlaw01_Lent : FC := ⟨22, cmd_joistlaw01_Lent, [.t 2]⟩
theorem fc_joistlaw01_Lent_ok : compF Try.prog 21 [[0], [0, 3], [0, 3], [3], [2]] = some fc_joistlaw01_Lent := by kernel_rfl
/-- joist/tree.Read -/
abbrev F.tree_Read : Nat := 22
def cmd_tree_Read : Cmd :=
  .seq (.seq (.reg [⟨(some 4), none, .inl (.mv (.c .nils))⟩,
      ⟨(some 5), none, .inl (.mv (.c (.bool false)))⟩])
   (.keep [0, 1]))
   (.seq (.seq (.reg [⟨(some 14), none, .inl (.mv (.t 1))⟩,
       ⟨(some 15), none, .inl (.len (.t 14))⟩,
       ⟨(some 16), none, .inl (.bin .quo (.t 15) (.c (.int .i64 128)))⟩,
       ⟨(some 6), none, .inl (.mv (.t 16))⟩])
    (.keep [0, 1, 6]))
    (.seq (.seq (.seq (.reg [⟨(some 17), none, .inl (.mv (.t 1))⟩,
        ⟨(some 18), none, .inl (.len (.t 17))⟩,
        ⟨(some 19), none, .inl (.bin .rem (.t 18) (.c (.int .i64 128)))⟩,
        ⟨(some 20), none, .inl (.bin .neq (.t 19) (.c (.int .i64 0)))⟩,
        ⟨(some 21), none, .inl (.mv (.t 20))⟩,
        ⟨(some 22), (some (21, false)), .inl (.mv (.t 6))⟩,
        ⟨(some 23), (some (21, false)), .inr (.call 16 [(.c (.int .i64 64))])⟩,
        ⟨(some 24), (some (21, false)), .inl (.bin .gtr (.t 22) (.t 23))⟩,
        ⟨(some 25), none, .inl (.pick (.t 21) (.c (.bool true)) (.t 24))⟩])
     (.keep [0, 1, 6, 25]))
     (.cond (.t 25)
       (.seq (.seq (.reg [⟨(some 4), none, .inl (.mv (.c .nils))⟩,
           ⟨(some 5), none, .inl (.mv (.c (.bool false)))⟩])
        (.keep [4, 5]))
        (.ret))
       (.skip)))
     (.seq (.seq (.reg [⟨(some 7), none, .inl (.mv (.c .nils))⟩])
      (.keep [0, 1, 6, 7]))
      (.seq (.seq (.seq (.reg [⟨(some 26), none, .inl (.mv (.t 6))⟩,
          ⟨(some 27), none, .inl (.mv (.c (.int .i64 0)))⟩])
       (.keep [0, 1, 6, 7, 26, 27]))
       (.block 0 (.loop [0, 1, 6, 7, 26, 27] (.seq (.seq (.reg [⟨(some 28), none, .inl (.bin .lss (.t 27) (.t 26))⟩])
        (.keep [0, 1, 6, 7, 26, 27, 28]))
        (.seq (.cond (.t 28)
          (.skip)
          (.exit 0))
         (.seq (.block 1 (.seq (.seq (.reg [⟨(some 29), none, .inl (.mv (.t 27))⟩,
             ⟨(some 8), none, .inl (.mv (.t 29))⟩])
          (.keep [0, 1, 6, 7, 8, 26, 27]))
          (.seq (.seq (.reg [⟨(some 30), none, .inl (.mv (.t 1))⟩,
              ⟨(some 31), none, .inl (.mv (.t 8))⟩,
              ⟨(some 32), none, .inr (.call 35 [(.t 30), (.t 31)])⟩,
              ⟨(some 9), none, .inr (.alloc [(.bool false), .nils])⟩,
              ⟨none, none, .inr (.store 2 (.t 9) (.t 32))⟩])
           (.keep [0, 1, 6, 7, 9, 26, 27]))
           (.seq (.seq (.seq (.reg [⟨(some 33), none, .inl (.faddr 0 (.t 9))⟩,
               ⟨(some 34), none, .inl (.load false 1 (.t 33))⟩,
               ⟨(some 35), none, .inl (.un .not (.t 34))⟩])
            (.keep [0, 1, 6, 7, 9, 26, 27, 35]))
            (.cond (.t 35)
              (.exit 1)
              (.skip)))
            (.seq (.seq (.reg [⟨(some 36), none, .inl (.faddr 1 (.t 9))⟩,
                ⟨(some 37), none, .inl (.load false 1 (.t 36))⟩,
                ⟨(some 38), none, .inl (.len (.t 37))⟩,
                ⟨(some 39), none, .inl (.mv (.c (.int .i64 0)))⟩])
             (.keep [0, 1, 6, 7, 26, 27, 37, 38, 39]))
             (.block 2 (.loop [0, 1, 6, 7, 26, 27, 37, 38, 39] (.seq (.seq (.reg [⟨(some 40), none, .inl (.bin .lss (.t 39) (.t 38))⟩])
              (.keep [0, 1, 6, 7, 26, 27, 37, 38, 39, 40]))
              (.seq (.cond (.t 40)
                (.skip)
                (.exit 2))
               (.seq (.block 3 (.seq (.seq (.reg [⟨(some 41), none, .inl (.iaddr 2 (.t 37) (.t 39))⟩,
                   ⟨(some 42), none, .inl (.load true 2 (.t 41))⟩,
                   ⟨(some 11), none, .inr (.alloc [(.int .i64 0), (.int .i64 0)])⟩,
                   ⟨none, none, .inr (.store 2 (.t 11) (.t 42))⟩])
                (.keep [0, 1, 6, 7, 11, 26, 27, 37, 38, 39]))
                (.seq (.reg [⟨(some 43), none, .inl (.mv (.t 7))⟩,
                    ⟨(some 44), none, .inl (.load true 2 (.t 11))⟩,
                    ⟨(some 45), none, .inr (.call 36 [(.t 44)])⟩,
                    ⟨(some 46), none, .inr (.bslice 3 [(.int .i64 0), (.int .i64 0), (.int .i64 0)] 1 [(0, (.t 45))])⟩,
                    ⟨(some 47), none, .inr (.append 3 24 (.t 43) (.t 46))⟩,
                    ⟨(some 7), none, .inl (.mv (.t 47))⟩])
                 (.keep [0, 1, 6, 7, 26, 27, 37, 38, 39]))))
                (.seq (.reg [⟨(some 48), none, .inl (.bin .add (.t 39) (.c (.int .i64 1)))⟩,
                    ⟨(some 39), none, .inl (.mv (.t 48))⟩])
                 (.keep [0, 1, 6, 7, 26, 27, 37, 38, 39]))))))))))))
          (.seq (.reg [⟨(some 49), none, .inl (.bin .add (.t 27) (.c (.int .i64 1)))⟩,
              ⟨(some 27), none, .inl (.mv (.t 49))⟩])
           (.keep [0, 1, 6, 7, 26, 27]))))))))
       (.seq (.seq (.seq (.reg [⟨(some 51), none, .inl (.mv (.t 0))⟩,
           ⟨(some 52), none, .inl (.mv (.t 6))⟩,
           ⟨(some 53), none, .inl (.mv (.t 7))⟩,
           ⟨(some 54), none, .inr (.call 18 [(.t 51), (.t 52), (.t 53)])⟩,
           ⟨(some 50), none, .inl (.mv (.t 54))⟩,
           ⟨(some 55), none, .inl (.ext 0 (.t 50))⟩,
           ⟨(some 56), none, .inl (.ext 1 (.t 50))⟩,
           ⟨(some 12), none, .inl (.mv (.t 55))⟩,
           ⟨(some 13), none, .inl (.mv (.t 56))⟩])
        (.keep [1, 7, 12, 13]))
        (.seq (.seq (.reg [⟨(some 57), none, .inl (.mv (.t 13))⟩,
            ⟨(some 58), none, .inl (.bin .neq (.t 57) (.c (.int .i64 0)))⟩,
            ⟨(some 59), none, .inl (.mv (.t 58))⟩,
            ⟨(some 60), (some (59, false)), .inl (.mv (.t 12))⟩,
            ⟨(some 61), (some (59, false)), .inl (.mv (.t 1))⟩,
            ⟨(some 62), (some (59, false)), .inr (.call 37 [(.t 60), (.t 61)])⟩,
            ⟨(some 63), (some (59, false)), .inl (.un .not (.t 62))⟩,
            ⟨(some 64), none, .inl (.pick (.t 59) (.c (.bool true)) (.t 63))⟩])
         (.keep [7, 64]))
         (.cond (.t 64)
           (.seq (.seq (.reg [⟨(some 4), none, .inl (.mv (.c .nils))⟩,
               ⟨(some 5), none, .inl (.mv (.c (.bool false)))⟩])
            (.keep [4, 5]))
            (.ret))
           (.skip))))
        (.seq (.seq (.reg [⟨(some 65), none, .inl (.mv (.t 7))⟩,
            ⟨(some 4), none, .inl (.mv (.t 65))⟩,
            ⟨(some 5), none, .inl (.mv (.c (.bool true)))⟩])
         (.keep [4, 5]))
         (.ret)))))))
def fc_tree_Read : FC := ⟨66, cmd_tree_Read, [.t 4, .t 5]⟩
theorem fc_tree_Read_ok : compF Try.prog 22 [[0, 1], [0, 1, 6], [0, 1, 6, 25], [4, 5], [0, 1, 6, 7], [0, 1, 6, 7, 26, 27], [0, 1, 6, 7, 26, 27], [0, 1, 6, 7, 26, 27, 28], [0, 1, 6, 7, 8, 26, 27], [0, 1, 6, 7, 9, 26, 27], [0, 1, 6, 7, 9, 26, 27, 35], [0, 1, 6, 7, 26, 27, 37, 38, 39], [0, 1, 6, 7, 26, 27, 37, 38, 39], [0, 1, 6, 7, 26, 27, 37, 38, 39, 40], [0, 1, 6, 7, 11, 26, 27, 37, 38, 39], [0, 1, 6, 7, 26, 27, 37, 38, 39], [0, 1, 6, 7, 26, 27, 37, 38, 39], [0, 1, 6, 7, 26, 27], [1, 7, 12, 13], [7, 64], [4, 5], [4, 5]] = some fc_tree_Read := by kernel_rfl
/-- joist/tree.Find -/
abbrev F.tree_Find : Nat := 23
def cmd_tree_Find : Cmd :=
  .seq (.seq (.reg [⟨(some 6), none, .inr (.alloc [(.int .i64 0), (.int .i64 0), (.int .i64 0)])⟩,
      ⟨(some 7), none, .inl (.mv (.c (.bool false)))⟩])
   (.keep [0, 1, 2, 6]))
   (.seq (.seq (.seq (.reg [⟨(some 15), none, .inl (.mv (.t 0))⟩,
       ⟨(some 16), none, .inl (.mv (.t 1))⟩,
       ⟨(some 17), none, .inr (.call 22 [(.t 15), (.t 16)])⟩,
       ⟨(some 14), none, .inl (.mv (.t 17))⟩,
       ⟨(some 18), none, .inl (.ext 0 (.t 14))⟩,
       ⟨(some 19), none, .inl (.ext 1 (.t 14))⟩,
       ⟨(some 8), none, .inl (.mv (.t 18))⟩,
       ⟨(some 9), none, .inl (.mv (.t 19))⟩])
    (.keep [0, 1, 2, 6, 9]))
    (.seq (.seq (.reg [⟨(some 20), none, .inl (.mv (.t 9))⟩,
        ⟨(some 21), none, .inl (.un .not (.t 20))⟩,
        ⟨(some 22), none, .inl (.mv (.t 21))⟩,
        ⟨(some 23), (some (22, false)), .inl (.mv (.t 2))⟩,
        ⟨(some 24), (some (22, false)), .inl (.bin .lss (.t 23) (.c (.int .i64 0)))⟩,
        ⟨(some 25), none, .inl (.pick (.t 22) (.c (.bool true)) (.t 24))⟩,
        ⟨(some 26), none, .inl (.mv (.t 25))⟩,
        ⟨(some 27), (some (26, false)), .inl (.mv (.t 2))⟩,
        ⟨(some 28), (some (26, false)), .inl (.mv (.t 0))⟩,
        ⟨(some 29), (some (26, false)), .inl (.bin .geq (.t 27) (.t 28))⟩,
        ⟨(some 30), none, .inl (.pick (.t 26) (.c (.bool true)) (.t 29))⟩])
     (.keep [1, 2, 6, 30]))
     (.cond (.t 30)
       (.seq (.seq (.reg [⟨(some 31), none, .inl (.build [(.int .i64 0), (.int .i64 0), (.int .i64 0)] [])⟩,
           ⟨none, none, .inr (.store 3 (.t 6) (.t 31))⟩,
           ⟨(some 7), none, .inl (.mv (.c (.bool false)))⟩])
        (.keep [6, 7]))
        (.ret))
       (.skip))))
    (.seq (.seq (.reg [⟨(some 32), none, .inl (.mv (.t 1))⟩,
        ⟨(some 33), none, .inr (.call 35 [(.t 32), (.c (.int .i64 0))])⟩,
        ⟨(some 10), none, .inr (.alloc [(.bool false), .nils])⟩,
        ⟨none, none, .inr (.store 2 (.t 10) (.t 33))⟩])
     (.keep [1, 2, 6, 10]))
     (.block 0 (.loop [1, 2, 6, 10] (.block 1 (.seq (.seq (.reg [⟨(some 11), none, .inl (.mv (.c (.int .i64 0)))⟩])
      (.keep [1, 2, 6, 10, 11]))
      (.seq (.seq (.seq (.reg [⟨(some 34), none, .inl (.faddr 1 (.t 10))⟩,
          ⟨(some 35), none, .inl (.load false 1 (.t 34))⟩,
          ⟨(some 36), none, .inl (.len (.t 35))⟩,
          ⟨(some 37), none, .inl (.mv (.c (.int .i64 0)))⟩])
       (.keep [1, 2, 6, 10, 11, 35, 36, 37]))
       (.block 2 (.loop [1, 2, 6, 10, 11, 35, 36, 37] (.seq (.seq (.reg [⟨(some 38), none, .inl (.bin .lss (.t 37) (.t 36))⟩])
        (.keep [1, 2, 6, 10, 11, 35, 36, 37, 38]))
        (.seq (.cond (.t 38)
          (.skip)
          (.exit 2))
         (.seq (.block 3 (.seq (.seq (.reg [⟨(some 39), none, .inl (.mv (.t 37))⟩,
             ⟨(some 40), none, .inl (.iaddr 2 (.t 35) (.t 37))⟩,
             ⟨(some 41), none, .inl (.load true 2 (.t 40))⟩,
             ⟨(some 13), none, .inr (.alloc [(.int .i64 0), (.int .i64 0)])⟩,
             ⟨(some 12), none, .inl (.mv (.t 39))⟩,
             ⟨none, none, .inr (.store 2 (.t 13) (.t 41))⟩])
          (.keep [1, 2, 6, 10, 11, 12, 13, 35, 36, 37]))
          (.seq (.seq (.reg [⟨(some 42), none, .inl (.iaddrA 2 1 (.t 13) (.c (.int .i64 0)))⟩,
              ⟨(some 43), none, .inl (.load false 1 (.t 42))⟩,
              ⟨(some 44), none, .inl (.mv (.t 2))⟩,
              ⟨(some 45), none, .inl (.bin .leq (.t 43) (.t 44))⟩])
           (.keep [1, 2, 6, 10, 11, 12, 35, 36, 37, 45]))
           (.cond (.t 45)
             (.seq (.reg [⟨(some 46), none, .inl (.mv (.t 12))⟩,
                 ⟨(some 11), none, .inl (.mv (.t 46))⟩])
              (.keep [1, 2, 6, 10, 11, 35, 36, 37]))
             (.skip)))))
          (.seq (.reg [⟨(some 47), none, .inl (.bin .add (.t 37) (.c (.int .i64 1)))⟩,
              ⟨(some 37), none, .inl (.mv (.t 47))⟩])
           (.keep [1, 2, 6, 10, 11, 35, 36, 37]))))))))
       (.seq (.seq (.seq (.reg [⟨(some 48), none, .inl (.faddr 0 (.t 10))⟩,
           ⟨(some 49), none, .inl (.load false 1 (.t 48))⟩])
        (.keep [1, 2, 6, 10, 11, 49]))
        (.cond (.t 49)
          (.seq (.seq (.reg [⟨(some 50), none, .inl (.faddr 1 (.t 10))⟩,
              ⟨(some 51), none, .inl (.load false 1 (.t 50))⟩,
              ⟨(some 52), none, .inl (.mv (.t 11))⟩,
              ⟨(some 53), none, .inl (.iaddr 2 (.t 51) (.t 52))⟩,
              ⟨(some 54), none, .inl (.load true 2 (.t 53))⟩,
              ⟨(some 55), none, .inr (.call 36 [(.t 54)])⟩,
              ⟨none, none, .inr (.store 3 (.t 6) (.t 55))⟩,
              ⟨(some 7), none, .inl (.mv (.c (.bool true)))⟩])
           (.keep [6, 7]))
           (.ret))
          (.skip)))
        (.seq (.reg [⟨(some 56), none, .inl (.mv (.t 1))⟩,
            ⟨(some 57), none, .inl (.faddr 1 (.t 10))⟩,
            ⟨(some 58), none, .inl (.load false 1 (.t 57))⟩,
            ⟨(some 59), none, .inl (.mv (.t 11))⟩,
            ⟨(some 60), none, .inl (.iaddr 2 (.t 58) (.t 59))⟩,
            ⟨(some 61), none, .inl (.iaddrA 2 1 (.t 60) (.c (.int .i64 1)))⟩,
            ⟨(some 62), none, .inl (.load false 1 (.t 61))⟩,
            ⟨(some 63), none, .inr (.call 35 [(.t 56), (.t 62)])⟩,
            ⟨none, none, .inr (.store 2 (.t 10) (.t 63))⟩])
         (.keep [1, 2, 6, 10]))))))))))
def fc_tree_Find : FC := ⟨64, cmd_tree_Find, [.cell 6 true 3, .t 7]⟩
theorem fc_tree_Find_ok : compF Try.prog 23 [[0, 1, 2, 6], [0, 1, 2, 6, 9], [1, 2, 6, 30], [6, 7], [1, 2, 6, 10], [1, 2, 6, 10], [1, 2, 6, 10, 11], [1, 2, 6, 10, 11, 35, 36, 37], [1, 2, 6, 10, 11, 35, 36, 37], [1, 2, 6, 10, 11, 35, 36, 37, 38], [1, 2, 6, 10, 11, 12, 13, 35, 36, 37], [1, 2, 6, 10, 11, 12, 35, 36, 37, 45], [1, 2, 6, 10, 11, 35, 36, 37], [1, 2, 6, 10, 11, 35, 36, 37], [1, 2, 6, 10, 11, 49], [6, 7], [1, 2, 6, 10]] = some fc_tree_Find := by kernel_rfl
/-- joist/joistlaw01.Kept -/
abbrev F.joistlaw01_Kept : Nat := 24
def cmd_joistlaw01_Kept : Cmd :=
  .seq (.seq (.reg [⟨(some 4), none, .inl (.mv (.c (.bool false)))⟩])
   (.keep [0, 1]))
   (.seq (.seq (.reg [⟨(some 5), none, .inl (.mv (.t 0))⟩,
       ⟨(some 6), none, .inl (.b2s (.t 5))⟩,
       ⟨(some 7), none, .inl (.mv (.t 1))⟩,
       ⟨(some 8), none, .inl (.b2s (.t 7))⟩,
       ⟨(some 9), none, .inl (.bins .eql (.t 6) (.t 8))⟩,
       ⟨(some 10), none, .inl (.mv (.t 9))⟩,
       ⟨(some 11), (some (10, true)), .inl (.mv (.t 0))⟩,
       ⟨(some 12), (some (10, true)), .inl (.mv (.t 1))⟩,
       ⟨(some 13), (some (10, true)), .inl (.len (.t 12))⟩,
       ⟨(some 14), (some (10, true)), .inl (.bin .add (.t 13) (.c (.int .i64 1)))⟩,
       ⟨(some 15), (some (10, true)), .inl (.slice 1 (.t 11) none (some (.t 14)) none)⟩,
       ⟨(some 16), (some (10, true)), .inl (.mv (.t 1))⟩,
       ⟨(some 17), (some (10, true)), .inl (.len (.t 16))⟩,
       ⟨(some 18), (some (10, true)), .inl (.iaddr 1 (.t 15) (.t 17))⟩,
       ⟨(some 19), (some (10, true)), .inl (.load false 1 (.t 18))⟩,
       ⟨(some 20), (some (10, true)), .inl (.bin .eql (.t 19) (.c (.int .u8 77)))⟩,
       ⟨(some 21), none, .inl (.pick (.t 10) (.t 20) (.c (.bool false)))⟩,
       ⟨(some 4), none, .inl (.mv (.t 21))⟩])
    (.keep [4]))
    (.ret))
def fc_joistlaw01_Kept : FC := ⟨22, cmd_joistlaw01_Kept, [.t 4]⟩
theorem fc_joistlaw01_Kept_ok : compF Try.prog 24 [[0, 1], [4]] = some fc_joistlaw01_Kept := by kernel_rfl
/-- joist/joistref14.Read -/
abbrev F.joistref14_Read : Nat := 25
def cmd_joistref14_Read : Cmd :=
  .seq (.seq (.reg [⟨(some 4), none, .inl (.mv (.c .nils))⟩,
      ⟨(some 5), none, .inl (.mv (.c (.bool false)))⟩])
   (.keep [0, 1]))
   (.seq (.seq (.reg [⟨(some 18), none, .inl (.mv (.t 1))⟩,
       ⟨(some 19), none, .inl (.len (.t 18))⟩,
       ⟨(some 20), none, .inl (.bin .quo (.t 19) (.c (.int .i64 128)))⟩,
       ⟨(some 6), none, .inl (.mv (.t 20))⟩])
    (.keep [0, 1, 6]))
    (.seq (.seq (.seq (.reg [⟨(some 21), none, .inl (.mv (.t 1))⟩,
        ⟨(some 22), none, .inl (.len (.t 21))⟩,
        ⟨(some 23), none, .inl (.bin .rem (.t 22) (.c (.int .i64 128)))⟩,
        ⟨(some 24), none, .inl (.bin .neq (.t 23) (.c (.int .i64 0)))⟩,
        ⟨(some 25), none, .inl (.mv (.t 24))⟩,
        ⟨(some 26), (some (25, false)), .inl (.mv (.t 6))⟩,
        ⟨(some 27), (some (25, false)), .inl (.bin .lss (.t 26) (.c (.int .i64 1)))⟩,
        ⟨(some 28), none, .inl (.pick (.t 25) (.c (.bool true)) (.t 27))⟩,
        ⟨(some 29), none, .inl (.mv (.t 28))⟩,
        ⟨(some 30), (some (29, false)), .inl (.mv (.t 6))⟩,
        ⟨(some 31), (some (29, false)), .inr (.call 17 [(.c (.int .i64 64))])⟩,
        ⟨(some 32), (some (29, false)), .inl (.bin .gtr (.t 30) (.t 31))⟩,
        ⟨(some 33), none, .inl (.pick (.t 29) (.c (.bool true)) (.t 32))⟩,
        ⟨(some 34), none, .inl (.mv (.t 33))⟩,
        ⟨(some 35), (some (34, false)), .inl (.mv (.t 0))⟩,
        ⟨(some 36), (some (34, false)), .inl (.bin .lss (.t 35) (.c (.int .i64 0)))⟩,
        ⟨(some 37), none, .inl (.pick (.t 34) (.c (.bool true)) (.t 36))⟩,
        ⟨(some 38), none, .inl (.mv (.t 37))⟩,
        ⟨(some 39), (some (38, false)), .inl (.mv (.t 0))⟩,
        ⟨(some 40), (some (38, false)), .inl (.bin .gtr (.t 39) (.c (.int .i64 64)))⟩,
        ⟨(some 41), none, .inl (.pick (.t 38) (.c (.bool true)) (.t 40))⟩])
     (.keep [0, 1, 6, 41]))
     (.cond (.t 41)
       (.seq (.seq (.reg [⟨(some 4), none, .inl (.mv (.c .nils))⟩,
           ⟨(some 5), none, .inl (.mv (.c (.bool false)))⟩])
        (.keep [4, 5]))
        (.ret))
       (.skip)))
     (.seq (.seq (.reg [⟨(some 7), none, .inl (.mv (.c .nils))⟩])
      (.keep [0, 1, 6, 7]))
      (.seq (.seq (.seq (.reg [⟨(some 8), none, .inl (.mv (.c (.int .i64 0)))⟩])
       (.keep [0, 1, 6, 7, 8]))
       (.block 0 (.loop [0, 1, 6, 7, 8] (.seq (.seq (.seq (.reg [⟨(some 42), none, .inl (.mv (.t 8))⟩,
           ⟨(some 43), none, .inl (.mv (.t 6))⟩,
           ⟨(some 44), none, .inl (.bin .lss (.t 42) (.t 43))⟩])
        (.keep [0, 1, 6, 7, 8, 44]))
        (.cond (.t 44)
          (.skip)
          (.exit 0)))
        (.seq (.block 1 (.seq (.seq (.reg [⟨(some 48), none, .inl (.mv (.t 1))⟩,
            ⟨(some 49), none, .inl (.mv (.t 8))⟩,
            ⟨(some 50), none, .inl (.bin .mul (.c (.int .i64 16)) (.t 49))⟩,
            ⟨(some 51), none, .inr (.call 38 [(.t 48), (.t 50)])⟩,
            ⟨(some 47), none, .inl (.mv (.t 51))⟩,
            ⟨(some 52), none, .inl (.ext 0 (.t 47))⟩,
            ⟨(some 53), none, .inl (.ext 1 (.t 47))⟩,
            ⟨(some 9), none, .inl (.mv (.t 52))⟩,
            ⟨(some 10), none, .inl (.mv (.t 53))⟩])
         (.keep [0, 1, 6, 7, 8, 9]))
         (.seq (.seq (.reg [⟨(some 11), none, .inl (.mv (.c (.int .i64 0)))⟩])
          (.keep [0, 1, 6, 7, 8, 9, 11]))
          (.block 2 (.loop [0, 1, 6, 7, 8, 9, 11] (.seq (.seq (.seq (.reg [⟨(some 54), none, .inl (.mv (.t 11))⟩,
              ⟨(some 55), none, .inl (.mv (.t 9))⟩,
              ⟨(some 56), none, .inl (.bin .quo (.t 55) (.c (.int .i64 2)))⟩,
              ⟨(some 57), none, .inl (.mn (.t 56) (.c (.int .i64 7)))⟩,
              ⟨(some 58), none, .inl (.bin .lss (.t 54) (.t 57))⟩,
              ⟨(some 59), none, .inl (.mv (.t 58))⟩,
              ⟨(some 60), (some (59, true)), .inl (.mv (.t 9))⟩,
              ⟨(some 61), (some (59, true)), .inl (.bin .rem (.t 60) (.c (.int .i64 2)))⟩,
              ⟨(some 62), (some (59, true)), .inl (.bin .eql (.t 61) (.c (.int .i64 1)))⟩,
              ⟨(some 63), none, .inl (.pick (.t 59) (.t 62) (.c (.bool false)))⟩])
           (.keep [0, 1, 6, 7, 8, 9, 11, 63]))
           (.cond (.t 63)
             (.skip)
             (.exit 2)))
           (.seq (.block 3 (.seq (.seq (.reg [⟨(some 67), none, .inl (.mv (.t 1))⟩,
               ⟨(some 68), none, .inl (.mv (.t 8))⟩,
               ⟨(some 69), none, .inl (.bin .mul (.c (.int .i64 16)) (.t 68))⟩,
               ⟨(some 70), none, .inl (.bin .add (.t 69) (.c (.int .i64 1)))⟩,
               ⟨(some 71), none, .inl (.mv (.t 11))⟩,
               ⟨(some 72), none, .inl (.bin .mul (.c (.int .i64 2)) (.t 71))⟩,
               ⟨(some 73), none, .inl (.bin .add (.t 70) (.t 72))⟩,
               ⟨(some 74), none, .inr (.call 38 [(.t 67), (.t 73)])⟩,
               ⟨(some 66), none, .inl (.mv (.t 74))⟩,
               ⟨(some 75), none, .inl (.ext 0 (.t 66))⟩,
               ⟨(some 76), none, .inl (.ext 1 (.t 66))⟩,
               ⟨(some 12), none, .inl (.mv (.t 75))⟩,
               ⟨(some 13), none, .inl (.mv (.t 76))⟩])
            (.keep [0, 1, 6, 7, 8, 9, 11, 12]))
            (.seq (.seq (.reg [⟨(some 78), none, .inl (.mv (.t 1))⟩,
                ⟨(some 79), none, .inl (.mv (.t 8))⟩,
                ⟨(some 80), none, .inl (.bin .mul (.c (.int .i64 16)) (.t 79))⟩,
                ⟨(some 81), none, .inl (.bin .add (.t 80) (.c (.int .i64 2)))⟩,
                ⟨(some 82), none, .inl (.mv (.t 11))⟩,
                ⟨(some 83), none, .inl (.bin .mul (.c (.int .i64 2)) (.t 82))⟩,
                ⟨(some 84), none, .inl (.bin .add (.t 81) (.t 83))⟩,
                ⟨(some 85), none, .inr (.call 38 [(.t 78), (.t 84)])⟩,
                ⟨(some 77), none, .inl (.mv (.t 85))⟩,
                ⟨(some 86), none, .inl (.ext 0 (.t 77))⟩,
                ⟨(some 87), none, .inl (.ext 1 (.t 77))⟩,
                ⟨(some 14), none, .inl (.mv (.t 86))⟩,
                ⟨(some 15), none, .inl (.mv (.t 87))⟩])
             (.keep [0, 1, 6, 7, 8, 9, 11, 12, 14]))
             (.seq (.reg [⟨(some 88), none, .inl (.mv (.t 7))⟩,
                 ⟨(some 89), none, .inl (.mv (.t 12))⟩,
                 ⟨(some 90), none, .inl (.mv (.t 14))⟩,
                 ⟨(some 91), none, .inl (.bin .quo (.t 90) (.c (.int .i64 4)))⟩,
                 ⟨(some 92), none, .inl (.mv (.t 14))⟩,
                 ⟨(some 93), none, .inl (.bin .rem (.t 92) (.c (.int .i64 4)))⟩,
                 ⟨(some 94), none, .inl (.build [(.int .i64 0), (.int .i64 0), (.int .i64 0)] [(0, 1, (.t 89)), (1, 1, (.t 91)), (2, 1, (.t 93))])⟩,
                 ⟨(some 95), none, .inr (.bslice 3 [(.int .i64 0), (.int .i64 0), (.int .i64 0)] 1 [(0, (.t 94))])⟩,
                 ⟨(some 96), none, .inr (.append 3 24 (.t 88) (.t 95))⟩,
                 ⟨(some 7), none, .inl (.mv (.t 96))⟩])
              (.keep [0, 1, 6, 7, 8, 9, 11])))))
            (.seq (.reg [⟨(some 64), none, .inl (.mv (.t 11))⟩,
                ⟨(some 65), none, .inl (.bin .add (.t 64) (.c (.int .i64 1)))⟩,
                ⟨(some 11), none, .inl (.mv (.t 65))⟩])
             (.keep [0, 1, 6, 7, 8, 9, 11])))))))))
         (.seq (.reg [⟨(some 45), none, .inl (.mv (.t 8))⟩,
             ⟨(some 46), none, .inl (.bin .add (.t 45) (.c (.int .i64 1)))⟩,
             ⟨(some 8), none, .inl (.mv (.t 46))⟩])
          (.keep [0, 1, 6, 7, 8])))))))
       (.seq (.seq (.reg [⟨(some 98), none, .inl (.mv (.t 0))⟩,
           ⟨(some 99), none, .inl (.mv (.t 6))⟩,
           ⟨(some 100), none, .inl (.mv (.t 7))⟩,
           ⟨(some 101), none, .inr (.call 19 [(.t 98), (.t 99), (.t 100)])⟩,
           ⟨(some 97), none, .inl (.mv (.t 101))⟩,
           ⟨(some 102), none, .inl (.ext 0 (.t 97))⟩,
           ⟨(some 103), none, .inl (.ext 1 (.t 97))⟩,
           ⟨(some 16), none, .inl (.mv (.t 102))⟩,
           ⟨(some 17), none, .inl (.mv (.t 103))⟩])
        (.keep [1, 7, 16, 17]))
        (.seq (.seq (.seq (.reg [⟨(some 104), none, .inl (.mv (.t 17))⟩,
            ⟨(some 105), none, .inl (.bin .neq (.t 104) (.c (.int .i64 0)))⟩,
            ⟨(some 106), none, .inl (.mv (.t 105))⟩,
            ⟨(some 107), (some (106, false)), .inl (.mv (.t 16))⟩,
            ⟨(some 108), (some (106, false)), .inl (.b2s (.t 107))⟩,
            ⟨(some 109), (some (106, false)), .inl (.mv (.t 1))⟩,
            ⟨(some 110), (some (106, false)), .inl (.b2s (.t 109))⟩,
            ⟨(some 111), (some (106, false)), .inl (.bins .neq (.t 108) (.t 110))⟩,
            ⟨(some 112), none, .inl (.pick (.t 106) (.c (.bool true)) (.t 111))⟩])
         (.keep [7, 112]))
         (.cond (.t 112)
           (.seq (.seq (.reg [⟨(some 4), none, .inl (.mv (.c .nils))⟩,
               ⟨(some 5), none, .inl (.mv (.c (.bool false)))⟩])
            (.keep [4, 5]))
            (.ret))
           (.skip)))
         (.seq (.seq (.reg [⟨(some 113), none, .inl (.mv (.t 7))⟩,
             ⟨(some 4), none, .inl (.mv (.t 113))⟩,
             ⟨(some 5), none, .inl (.mv (.c (.bool true)))⟩])
          (.keep [4, 5]))
          (.ret))))))))
def fc_joistref14_Read : FC := ⟨114, cmd_joistref14_Read, [.t 4, .t 5]⟩
theorem fc_joistref14_Read_ok : compF Try.prog 25 [[0, 1], [0, 1, 6], [0, 1, 6, 41], [4, 5], [0, 1, 6, 7], [0, 1, 6, 7, 8], [0, 1, 6, 7, 8], [0, 1, 6, 7, 8, 44], [0, 1, 6, 7, 8, 9], [0, 1, 6, 7, 8, 9, 11], [0, 1, 6, 7, 8, 9, 11], [0, 1, 6, 7, 8, 9, 11, 63], [0, 1, 6, 7, 8, 9, 11, 12], [0, 1, 6, 7, 8, 9, 11, 12, 14], [0, 1, 6, 7, 8, 9, 11], [0, 1, 6, 7, 8, 9, 11], [0, 1, 6, 7, 8], [1, 7, 16, 17], [7, 112], [4, 5], [4, 5]] = some fc_joistref14_Read := by kernel_rfl
/-- joist/joistref14.Find -/
abbrev F.joistref14_Find : Nat := 26
def cmd_joistref14_Find : Cmd :=
  .seq (.seq (.reg [⟨(some 6), none, .inr (.alloc [(.int .i64 0), (.int .i64 0), (.int .i64 0)])⟩,
      ⟨(some 7), none, .inl (.mv (.c (.bool false)))⟩])
   (.keep [0, 1, 2, 6]))
   (.seq (.seq (.reg [⟨(some 12), none, .inl (.mv (.t 0))⟩,
       ⟨(some 13), none, .inl (.mv (.t 1))⟩,
       ⟨(some 14), none, .inr (.call 25 [(.t 12), (.t 13)])⟩,
       ⟨(some 11), none, .inl (.mv (.t 14))⟩,
       ⟨(some 15), none, .inl (.ext 0 (.t 11))⟩,
       ⟨(some 16), none, .inl (.ext 1 (.t 11))⟩,
       ⟨(some 8), none, .inl (.mv (.t 15))⟩,
       ⟨(some 9), none, .inl (.mv (.t 16))⟩])
    (.keep [2, 6, 8, 9]))
    (.seq (.seq (.seq (.reg [⟨(some 10), none, .inl (.mv (.c (.int .i64 0)))⟩])
     (.keep [2, 6, 8, 9, 10]))
     (.block 0 (.loop [2, 6, 8, 9, 10] (.seq (.seq (.seq (.reg [⟨(some 17), none, .inl (.mv (.t 10))⟩,
         ⟨(some 18), none, .inl (.mv (.t 8))⟩,
         ⟨(some 19), none, .inl (.len (.t 18))⟩,
         ⟨(some 20), none, .inl (.bin .lss (.t 17) (.t 19))⟩,
         ⟨(some 21), none, .inl (.mv (.t 20))⟩,
         ⟨(some 22), (some (21, true)), .inl (.mv (.t 9))⟩,
         ⟨(some 23), none, .inl (.pick (.t 21) (.t 22) (.c (.bool false)))⟩])
      (.keep [2, 6, 8, 9, 10, 23]))
      (.cond (.t 23)
        (.skip)
        (.exit 0)))
      (.seq (.block 1 (.seq (.seq (.ord [⟨0, ⟨(some 26), none, .inl (.mv (.t 2))⟩, [], false⟩,
          ⟨1, ⟨(some 27), none, .inl (.mv (.t 8))⟩, [], false⟩,
          ⟨2, ⟨(some 28), none, .inl (.mv (.t 10))⟩, [], false⟩,
          ⟨3, ⟨(some 29), none, .inl (.iaddr 3 (.t 27) (.t 28))⟩, [], false⟩,
          ⟨4, ⟨(some 30), none, .inl (.faddr 0 (.t 29))⟩, [], false⟩,
          ⟨5, ⟨(some 31), none, .inl (.load false 1 (.t 30))⟩, [], false⟩,
          ⟨6, ⟨(some 32), none, .inl (.bin .geq (.t 26) (.t 31))⟩, [], false⟩,
          ⟨7, ⟨(some 33), none, .inl (.mv (.t 32))⟩, [], false⟩,
          ⟨8, ⟨(some 34), (some (33, true)), .inl (.mv (.t 2))⟩, [], false⟩,
          ⟨9, ⟨(some 35), (some (33, true)), .inl (.mv (.t 8))⟩, [], false⟩,
          ⟨10, ⟨(some 36), (some (33, true)), .inl (.mv (.t 10))⟩, [], false⟩,
          ⟨11, ⟨(some 37), (some (33, true)), .inl (.iaddr 3 (.t 35) (.t 36))⟩, [], false⟩,
          ⟨12, ⟨(some 38), (some (33, true)), .inl (.faddr 0 (.t 37))⟩, [], false⟩,
          ⟨13, ⟨(some 39), (some (33, true)), .inl (.load false 1 (.t 38))⟩, [], false⟩,
          ⟨14, ⟨(some 40), (some (33, true)), .inl (.bin .sub (.t 34) (.t 39))⟩, [], false⟩,
          ⟨15, ⟨(some 41), (some (33, true)), .inl (.mv (.t 8))⟩, [], false⟩,
          ⟨16, ⟨(some 42), (some (33, true)), .inl (.mv (.t 10))⟩, [], false⟩,
          ⟨17, ⟨(some 43), (some (33, true)), .inl (.iaddr 3 (.t 41) (.t 42))⟩, [], false⟩,
          ⟨18, ⟨(some 44), (some (33, true)), .inl (.faddr 1 (.t 43))⟩, [], false⟩,
          ⟨19, ⟨(some 45), (some (33, true)), .inl (.load false 1 (.t 44))⟩, [], false⟩,
          ⟨20, ⟨(some 46), (some (33, true)), .inl (.bin .lss (.t 40) (.t 45))⟩, [], false⟩,
          ⟨21, ⟨(some 47), none, .inl (.pick (.t 33) (.t 46) (.c (.bool false)))⟩, [], false⟩])
       (.keep [2, 6, 8, 9, 10, 47]))
       (.cond (.t 47)
         (.seq (.seq (.reg [⟨(some 48), none, .inl (.mv (.t 8))⟩,
             ⟨(some 49), none, .inl (.mv (.t 10))⟩,
             ⟨(some 50), none, .inl (.iaddr 3 (.t 48) (.t 49))⟩,
             ⟨(some 51), none, .inl (.load true 3 (.t 50))⟩,
             ⟨none, none, .inr (.store 3 (.t 6) (.t 51))⟩,
             ⟨(some 7), none, .inl (.mv (.c (.bool true)))⟩])
          (.keep [6, 7]))
          (.ret))
         (.skip))))
       (.seq (.reg [⟨(some 24), none, .inl (.mv (.t 10))⟩,
           ⟨(some 25), none, .inl (.bin .add (.t 24) (.c (.int .i64 1)))⟩,
           ⟨(some 10), none, .inl (.mv (.t 25))⟩])
        (.keep [2, 6, 8, 9, 10])))))))
     (.seq (.seq (.reg [⟨(some 52), none, .inl (.build [(.int .i64 0), (.int .i64 0), (.int .i64 0)] [])⟩,
         ⟨none, none, .inr (.store 3 (.t 6) (.t 52))⟩,
         ⟨(some 7), none, .inl (.mv (.c (.bool false)))⟩])
      (.keep [6, 7]))
      (.ret))))
def fc_joistref14_Find : FC := ⟨53, cmd_joistref14_Find, [.cell 6 true 3, .t 7]⟩
theorem fc_joistref14_Find_ok : compF Try.prog 26 [[0, 1, 2, 6], [2, 6, 8, 9], [2, 6, 8, 9, 10], [2, 6, 8, 9, 10], [2, 6, 8, 9, 10, 23], [2, 6, 8, 9, 10, 47], [0, 1, 2, 3, 4, 5, 6, 7, 8, 9, 10, 11, 12, 13, 14, 15, 16, 17, 18, 19, 20, 21], [6, 7], [2, 6, 8, 9, 10], [6, 7]] = some fc_joistref14_Find := by kernel_rfl
/-- joist/words.All -/
abbrev F.words_All : Nat := 27
def cmd_words_All : Cmd :=
  .seq (.seq (.reg [⟨(some 2), none, .inl (.mv (.c .nils))⟩,
      ⟨(some 3), none, .inl (.mv (.c (.bool false)))⟩])
   (.keep [0]))
   (.seq (.seq (.seq (.reg [⟨(some 7), none, .inl (.mv (.t 0))⟩,
       ⟨(some 8), none, .inl (.len (.t 7))⟩,
       ⟨(some 9), none, .inl (.bin .rem (.t 8) (.c (.int .i64 8)))⟩,
       ⟨(some 10), none, .inl (.bin .neq (.t 9) (.c (.int .i64 0)))⟩])
    (.keep [0, 10]))
    (.cond (.t 10)
      (.seq (.seq (.reg [⟨(some 2), none, .inl (.mv (.c .nils))⟩,
          ⟨(some 3), none, .inl (.mv (.c (.bool false)))⟩])
       (.keep [2, 3]))
       (.ret))
      (.skip)))
    (.seq (.seq (.reg [⟨(some 4), none, .inl (.mv (.c .nils))⟩])
     (.keep [0, 4]))
     (.seq (.block 0 (.loop [0, 4] (.seq (.seq (.seq (.reg [⟨(some 11), none, .inl (.mv (.t 0))⟩,
         ⟨(some 12), none, .inl (.len (.t 11))⟩,
         ⟨(some 13), none, .inl (.bin .gtr (.t 12) (.c (.int .i64 0)))⟩])
      (.keep [0, 4, 13]))
      (.cond (.t 13)
        (.skip)
        (.exit 0)))
      (.block 1 (.seq (.seq (.reg [⟨(some 15), none, .inl (.mv (.t 0))⟩,
          ⟨(some 16), none, .inl (.slice 1 (.t 15) none (some (.c (.int .i64 8))) none)⟩,
          ⟨(some 17), none, .inr (.call 39 [(.t 16)])⟩,
          ⟨(some 14), none, .inl (.mv (.t 17))⟩,
          ⟨(some 18), none, .inl (.ext 0 (.t 14))⟩,
          ⟨(some 19), none, .inl (.ext 1 (.t 14))⟩,
          ⟨(some 5), none, .inl (.mv (.t 18))⟩,
          ⟨(some 6), none, .inl (.mv (.t 19))⟩])
       (.keep [0, 4, 5, 6]))
       (.seq (.seq (.seq (.reg [⟨(some 20), none, .inl (.mv (.t 6))⟩,
           ⟨(some 21), none, .inl (.un .not (.t 20))⟩])
        (.keep [0, 4, 5, 21]))
        (.cond (.t 21)
          (.seq (.seq (.reg [⟨(some 2), none, .inl (.mv (.c .nils))⟩,
              ⟨(some 3), none, .inl (.mv (.c (.bool false)))⟩])
           (.keep [2, 3]))
           (.ret))
          (.skip)))
        (.seq (.ord [⟨0, ⟨(some 22), none, .inl (.mv (.t 4))⟩, [], true⟩,
            ⟨1, ⟨(some 23), none, .inl (.mv (.t 5))⟩, [], false⟩,
            ⟨4, ⟨(some 26), none, .inl (.mv (.t 0))⟩, [], true⟩,
            ⟨5, ⟨(some 27), none, .inl (.slice 1 (.t 26) (some (.c (.int .i64 8))) none none)⟩, [], true⟩,
            ⟨2, ⟨(some 24), none, .inr (.bslice 1 [(.int .i64 0)] 1 [(0, (.t 23))])⟩, [0, 4, 5], false⟩,
            ⟨3, ⟨(some 25), none, .inr (.append 1 8 (.t 22) (.t 24))⟩, [4, 5], false⟩,
            ⟨6, ⟨(some 4), none, .inl (.mv (.t 25))⟩, [], false⟩,
            ⟨7, ⟨(some 0), none, .inl (.mv (.t 27))⟩, [], false⟩])
         (.keep [0, 4]))))))))
      (.seq (.seq (.reg [⟨(some 28), none, .inl (.mv (.t 4))⟩,
          ⟨(some 2), none, .inl (.mv (.t 28))⟩,
          ⟨(some 3), none, .inl (.mv (.c (.bool true)))⟩])
       (.keep [2, 3]))
       (.ret)))))
def fc_words_All : FC := ⟨29, cmd_words_All, [.t 2, .t 3]⟩
theorem fc_words_All_ok : compF Try.prog 27 [[0], [0, 10], [2, 3], [0, 4], [0, 4], [0, 4, 13], [0, 4, 5, 6], [0, 4, 5, 21], [2, 3], [0, 4], [0, 1, 4, 5, 2, 3, 6, 7], [2, 3]] = some fc_words_All := by kernel_rfl
/-- joist/tree.useOf -/
abbrev F.tree_useOf : Nat := 28
def cmd_tree_useOf : Cmd :=
  .seq (.seq (.reg [⟨(some 2), none, .inl (.mv (.c (.int .i64 0)))⟩])
   (.keep [0]))
   (.seq (.seq (.seq (.reg [⟨(some 3), none, .inl (.mv (.t 0))⟩])
    (.keep [3]))
    (.block 0 (.seq (.seq (.reg [⟨(some 5), none, .inl (.bin .eql (.t 3) (.c (.int .i64 (-1))))⟩,
        ⟨(some 4), none, .inl (.mv (.t 5))⟩])
     (.keep [3, 4]))
     (.cond (.t 4)
       (.seq (.seq (.reg [⟨(some 2), none, .inl (.mv (.c (.int .i64 0)))⟩])
        (.keep [2]))
        (.ret))
       (.seq (.seq (.seq (.reg [⟨(some 7), none, .inl (.bin .eql (.t 3) (.c (.int .i64 6)))⟩,
           ⟨(some 6), none, .inl (.mv (.t 7))⟩])
        (.keep [3, 6]))
        (.cond (.t 6)
          (.skip)
          (.seq (.reg [⟨(some 8), none, .inl (.bin .eql (.t 3) (.c (.int .i64 7)))⟩,
              ⟨(some 6), none, .inl (.mv (.t 8))⟩])
           (.keep [6]))))
        (.cond (.t 6)
          (.seq (.seq (.reg [⟨(some 2), none, .inl (.mv (.c (.int .i64 2)))⟩])
           (.keep [2]))
           (.ret))
          (.skip)))))))
    (.seq (.seq (.reg [⟨(some 2), none, .inl (.mv (.c (.int .i64 1)))⟩])
     (.keep [2]))
     (.ret)))
def fc_tree_useOf : FC := ⟨9, cmd_tree_useOf, [.t 2]⟩
theorem fc_tree_useOf_ok : compF Try.prog 28 [[0], [3], [3, 4], [2], [3, 6], [6], [2], [2]] = some fc_tree_useOf := by kernel_rfl
/-- joist/tree.holders -/
abbrev F.tree_holders : Nat := 29
def cmd_tree_holders : Cmd :=
  .seq (.seq (.reg [⟨(some 2), none, .inl (.mv (.c (.int .i64 0)))⟩])
   (.keep [0]))
   (.seq (.seq (.seq (.reg [⟨(some 3), none, .inl (.mv (.t 0))⟩,
       ⟨(some 4), none, .inl (.bin .eql (.t 3) (.c (.int .i64 0)))⟩])
    (.keep [0, 4]))
    (.cond (.t 4)
      (.seq (.seq (.reg [⟨(some 2), none, .inl (.mv (.c (.int .i64 1)))⟩])
       (.keep [2]))
       (.ret))
      (.skip)))
    (.seq (.seq (.reg [⟨(some 5), none, .inl (.mv (.t 0))⟩,
        ⟨(some 6), none, .inl (.bin .sub (.t 5) (.c (.int .i64 1)))⟩,
        ⟨(some 7), none, .inl (.bin .quo (.t 6) (.c (.int .i64 7)))⟩,
        ⟨(some 8), none, .inl (.bin .add (.t 7) (.c (.int .i64 1)))⟩,
        ⟨(some 2), none, .inl (.mv (.t 8))⟩])
     (.keep [2]))
     (.ret)))
def fc_tree_holders : FC := ⟨9, cmd_tree_holders, [.t 2]⟩
theorem fc_tree_holders_ok : compF Try.prog 29 [[0], [0, 4], [2], [2]] = some fc_tree_holders := by kernel_rfl
/-- slices.Backward[[][]joist/tree.node,[]joist/tree.node] -/
abbrev F.slices_Backward : Nat := 30
def cmd_slices_Backward : Cmd :=
  .seq (.seq (.reg [⟨(some 1), none, .inr (.box 1 (.t 0))⟩,
      ⟨(some 2), none, .inl (.mv (.c .any))⟩])
   (.keep [1]))
   (.seq (.seq (.reg [⟨(some 3), none, .inl (.mkfn 40 [(.t 1)])⟩,
       ⟨(some 2), none, .inl (.mv (.t 3))⟩])
    (.keep [2]))
    (.ret))
def fc_slices_Backward : FC := ⟨4, cmd_slices_Backward, [.t 2]⟩
theorem fc_slices_Backward_ok : compF Try.prog 30 [[1], [2]] = some fc_slices_Backward := by kernel_rfl
/-- joist/tree.levels -/
abbrev F.tree_levels : Nat := 31
def cmd_tree_levels : Cmd :=
  .seq (.seq (.reg [⟨(some 2), none, .inl (.mv (.c .nils))⟩])
   (.keep [0]))
   (.seq (.seq (.reg [⟨(some 3), none, .inl (.mv (.c .nils))⟩])
    (.keep [0, 3]))
    (.seq (.seq (.seq (.reg [⟨(some 10), none, .inl (.mv (.t 0))⟩,
        ⟨(some 11), none, .inl (.len (.t 10))⟩,
        ⟨(some 12), none, .inl (.mv (.c (.int .i64 0)))⟩])
     (.keep [3, 10, 11, 12]))
     (.block 0 (.loop [3, 10, 11, 12] (.seq (.seq (.reg [⟨(some 13), none, .inl (.bin .lss (.t 12) (.t 11))⟩])
      (.keep [3, 10, 11, 12, 13]))
      (.seq (.cond (.t 13)
        (.skip)
        (.exit 0))
       (.seq (.block 1 (.seq (.seq (.reg [⟨(some 14), none, .inl (.iaddr 3 (.t 10) (.t 12))⟩,
           ⟨(some 15), none, .inl (.load true 3 (.t 14))⟩,
           ⟨(some 5), none, .inr (.alloc [(.int .i64 0), (.int .i64 0), (.int .i64 0)])⟩,
           ⟨none, none, .inr (.store 3 (.t 5) (.t 15))⟩])
        (.keep [3, 5, 10, 11, 12]))
        (.seq (.reg [⟨(some 16), none, .inl (.mv (.t 3))⟩,
            ⟨(some 17), none, .inl (.faddr 0 (.t 5))⟩,
            ⟨(some 18), none, .inl (.load false 1 (.t 17))⟩,
            ⟨(some 19), none, .inl (.faddr 1 (.t 5))⟩,
            ⟨(some 20), none, .inl (.load false 1 (.t 19))⟩,
            ⟨(some 21), none, .inl (.bin .mul (.t 20) (.c (.int .i64 4)))⟩,
            ⟨(some 22), none, .inl (.faddr 2 (.t 5))⟩,
            ⟨(some 23), none, .inl (.load false 1 (.t 22))⟩,
            ⟨(some 24), none, .inl (.bin .add (.t 21) (.t 23))⟩,
            ⟨(some 25), none, .inl (.build [(.int .i64 0), (.int .i64 0)] [(0, 1, (.t 18)), (1, 1, (.t 24))])⟩,
            ⟨(some 26), none, .inr (.bslice 2 [(.int .i64 0), (.int .i64 0)] 1 [(0, (.t 25))])⟩,
            ⟨(some 27), none, .inr (.append 2 16 (.t 16) (.t 26))⟩,
            ⟨(some 3), none, .inl (.mv (.t 27))⟩])
         (.keep [3, 10, 11, 12]))))
        (.seq (.reg [⟨(some 28), none, .inl (.bin .add (.t 12) (.c (.int .i64 1)))⟩,
            ⟨(some 12), none, .inl (.mv (.t 28))⟩])
         (.keep [3, 10, 11, 12]))))))))
     (.seq (.seq (.reg [⟨(some 29), none, .inl (.mv (.t 3))⟩,
         ⟨(some 30), none, .inr (.call 41 [(.t 29), (.c (.bool true))])⟩,
         ⟨(some 31), none, .inr (.bslice 1 [.nils] 1 [(0, (.t 30))])⟩,
         ⟨(some 6), none, .inl (.mv (.t 31))⟩])
      (.keep [6]))
      (.seq (.skip)
       (.seq (.block 2 (.loop [6] (.block 3 (.seq (.seq (.reg [⟨(some 32), none, .inl (.mv (.t 6))⟩,
           ⟨(some 33), none, .inl (.mv (.t 6))⟩,
           ⟨(some 34), none, .inl (.len (.t 33))⟩,
           ⟨(some 35), none, .inl (.bin .sub (.t 34) (.c (.int .i64 1)))⟩,
           ⟨(some 36), none, .inl (.iaddr 1 (.t 32) (.t 35))⟩,
           ⟨(some 37), none, .inl (.load false 1 (.t 36))⟩,
           ⟨(some 7), none, .inl (.mv (.t 37))⟩])
        (.keep [6, 7]))
        (.seq (.seq (.seq (.reg [⟨(some 38), none, .inl (.mv (.t 7))⟩,
            ⟨(some 39), none, .inl (.len (.t 38))⟩,
            ⟨(some 40), none, .inl (.bin .eql (.t 39) (.c (.int .i64 1)))⟩])
         (.keep [6, 7, 40]))
         (.cond (.t 40)
           (.exit 2)
           (.skip)))
         (.seq (.seq (.reg [⟨(some 3), none, .inl (.mv (.c .nils))⟩])
          (.keep [3, 6, 7]))
          (.seq (.seq (.seq (.reg [⟨(some 41), none, .inl (.mv (.t 7))⟩,
              ⟨(some 42), none, .inl (.len (.t 41))⟩,
              ⟨(some 43), none, .inl (.mv (.c (.int .i64 0)))⟩])
           (.keep [3, 6, 41, 42, 43]))
           (.block 4 (.loop [3, 6, 41, 42, 43] (.seq (.seq (.reg [⟨(some 44), none, .inl (.bin .lss (.t 43) (.t 42))⟩])
            (.keep [3, 6, 41, 42, 43, 44]))
            (.seq (.cond (.t 44)
              (.skip)
              (.exit 4))
             (.seq (.block 5 (.seq (.seq (.reg [⟨(some 45), none, .inl (.mv (.t 43))⟩,
                 ⟨(some 46), none, .inl (.iaddr 2 (.t 41) (.t 43))⟩,
                 ⟨(some 47), none, .inl (.load true 2 (.t 46))⟩,
                 ⟨(some 9), none, .inr (.alloc [(.bool false), .nils])⟩,
                 ⟨(some 8), none, .inl (.mv (.t 45))⟩,
                 ⟨none, none, .inr (.store 2 (.t 9) (.t 47))⟩])
              (.keep [3, 6, 8, 9, 41, 42, 43]))
              (.seq (.reg [⟨(some 48), none, .inl (.mv (.t 3))⟩,
                  ⟨(some 49), none, .inl (.load true 2 (.t 9))⟩,
                  ⟨(some 50), none, .inr (.call 42 [(.t 49)])⟩,
                  ⟨(some 51), none, .inl (.mv (.t 8))⟩,
                  ⟨(some 52), none, .inl (.build [(.int .i64 0), (.int .i64 0)] [(0, 1, (.t 50)), (1, 1, (.t 51))])⟩,
                  ⟨(some 53), none, .inr (.bslice 2 [(.int .i64 0), (.int .i64 0)] 1 [(0, (.t 52))])⟩,
                  ⟨(some 54), none, .inr (.append 2 16 (.t 48) (.t 53))⟩,
                  ⟨(some 3), none, .inl (.mv (.t 54))⟩])
               (.keep [3, 6, 41, 42, 43]))))
              (.seq (.reg [⟨(some 55), none, .inl (.bin .add (.t 43) (.c (.int .i64 1)))⟩,
                  ⟨(some 43), none, .inl (.mv (.t 55))⟩])
               (.keep [3, 6, 41, 42, 43]))))))))
           (.seq (.reg [⟨(some 56), none, .inl (.mv (.t 6))⟩,
               ⟨(some 57), none, .inl (.mv (.t 3))⟩,
               ⟨(some 58), none, .inr (.call 41 [(.t 57), (.c (.bool false))])⟩,
               ⟨(some 59), none, .inr (.bslice 1 [.nils] 1 [(0, (.t 58))])⟩,
               ⟨(some 60), none, .inr (.append 1 24 (.t 56) (.t 59))⟩,
               ⟨(some 6), none, .inl (.mv (.t 60))⟩])
            (.keep [6])))))))))
        (.seq (.seq (.reg [⟨(some 61), none, .inl (.mv (.t 6))⟩,
            ⟨(some 2), none, .inl (.mv (.t 61))⟩])
         (.keep [2]))
         (.ret)))))))
def fc_tree_levels : FC := ⟨62, cmd_tree_levels, [.t 2]⟩
theorem fc_tree_levels_ok : compF Try.prog 31 [[0], [0, 3], [3, 10, 11, 12], [3, 10, 11, 12], [3, 10, 11, 12, 13], [3, 5, 10, 11, 12], [3, 10, 11, 12], [3, 10, 11, 12], [6], [6], [6, 7], [6, 7, 40], [3, 6, 7], [3, 6, 41, 42, 43], [3, 6, 41, 42, 43], [3, 6, 41, 42, 43, 44], [3, 6, 8, 9, 41, 42, 43], [3, 6, 41, 42, 43], [3, 6, 41, 42, 43], [6], [2]] = some fc_tree_levels := by kernel_rfl
/-- (joist/tree.node).put -/
abbrev F.tree_node_put : Nat := 32
def cmd_tree_node_put : Cmd :=
  .seq (.seq (.reg [⟨(some 2), none, .inr (.box 2 (.t 0))⟩,
      ⟨(some 4), none, .inl (.mv (.c .nils))⟩])
   (.keep [1, 2]))
   (.seq (.seq (.reg [⟨(some 10), none, .inr (.mksl 1 8 [(.int .i64 0)] (.c (.int .i64 16)) (.c (.int .i64 16)))⟩,
       ⟨(some 5), none, .inl (.mv (.t 10))⟩])
    (.keep [1, 2, 5]))
    (.seq (.seq (.reg [⟨(some 11), none, .inl (.mv (.t 5))⟩,
        ⟨(some 12), none, .inl (.faddr 1 (.t 2))⟩,
        ⟨(some 13), none, .inl (.load false 1 (.t 12))⟩,
        ⟨(some 14), none, .inl (.len (.t 13))⟩,
        ⟨(some 15), none, .inl (.bin .mul (.c (.int .i64 2)) (.t 14))⟩,
        ⟨(some 16), none, .inl (.iaddr 1 (.t 11) (.c (.int .i64 0)))⟩,
        ⟨none, none, .inr (.store 1 (.t 16) (.t 15))⟩])
     (.keep [1, 2, 5]))
     (.seq (.seq (.seq (.reg [⟨(some 17), none, .inl (.faddr 0 (.t 2))⟩,
         ⟨(some 18), none, .inl (.load false 1 (.t 17))⟩])
      (.keep [1, 2, 5, 18]))
      (.cond (.t 18)
        (.seq (.reg [⟨(some 19), none, .inl (.mv (.t 5))⟩,
            ⟨(some 20), none, .inl (.mv (.t 5))⟩,
            ⟨(some 21), none, .inl (.iaddr 1 (.t 20) (.c (.int .i64 0)))⟩,
            ⟨(some 22), none, .inl (.load false 1 (.t 21))⟩,
            ⟨(some 23), none, .inl (.bin .or (.t 22) (.c (.int .i64 1)))⟩,
            ⟨(some 24), none, .inl (.iaddr 1 (.t 19) (.c (.int .i64 0)))⟩,
            ⟨none, none, .inr (.store 1 (.t 24) (.t 23))⟩,
            ⟨(some 1), none, .inl (.mv (.c (.int .i64 0)))⟩])
         (.keep [1, 2, 5]))
        (.skip)))
      (.seq (.seq (.seq (.reg [⟨(some 25), none, .inl (.faddr 1 (.t 2))⟩,
          ⟨(some 26), none, .inl (.load false 1 (.t 25))⟩,
          ⟨(some 27), none, .inl (.len (.t 26))⟩,
          ⟨(some 28), none, .inl (.mv (.c (.int .i64 0)))⟩])
       (.keep [1, 5, 26, 27, 28]))
       (.block 0 (.loop [1, 5, 26, 27, 28] (.seq (.seq (.reg [⟨(some 29), none, .inl (.bin .lss (.t 28) (.t 27))⟩])
        (.keep [1, 5, 26, 27, 28, 29]))
        (.seq (.cond (.t 29)
          (.skip)
          (.exit 0))
         (.seq (.block 1 (.seq (.seq (.reg [⟨(some 30), none, .inl (.mv (.t 28))⟩,
             ⟨(some 31), none, .inl (.iaddr 2 (.t 26) (.t 28))⟩,
             ⟨(some 32), none, .inl (.load true 2 (.t 31))⟩,
             ⟨(some 7), none, .inr (.alloc [(.int .i64 0), (.int .i64 0)])⟩,
             ⟨(some 6), none, .inl (.mv (.t 30))⟩,
             ⟨none, none, .inr (.store 2 (.t 7) (.t 32))⟩])
          (.keep [1, 5, 6, 7, 26, 27, 28]))
          (.seq (.ord [⟨0, ⟨(some 33), none, .inl (.mv (.t 5))⟩, [], false⟩,
              ⟨1, ⟨(some 34), none, .inl (.mv (.t 6))⟩, [], false⟩,
              ⟨2, ⟨(some 35), none, .inl (.bin .mul (.c (.int .i64 2)) (.t 34))⟩, [], false⟩,
              ⟨3, ⟨(some 36), none, .inl (.bin .add (.c (.int .i64 1)) (.t 35))⟩, [], false⟩,
              ⟨4, ⟨(some 37), none, .inl (.mv (.t 5))⟩, [], true⟩,
              ⟨5, ⟨(some 38), none, .inl (.mv (.t 6))⟩, [], true⟩,
              ⟨6, ⟨(some 39), none, .inl (.bin .mul (.c (.int .i64 2)) (.t 38))⟩, [], true⟩,
              ⟨7, ⟨(some 40), none, .inl (.bin .add (.c (.int .i64 2)) (.t 39))⟩, [], true⟩,
              ⟨8, ⟨(some 41), none, .inl (.iaddrA 2 1 (.t 7) (.c (.int .i64 0)))⟩, [], false⟩,
              ⟨9, ⟨(some 42), none, .inl (.load false 1 (.t 41))⟩, [], false⟩,
              ⟨10, ⟨(some 43), none, .inl (.iaddrA 2 1 (.t 7) (.c (.int .i64 1)))⟩, [], true⟩,
              ⟨11, ⟨(some 44), none, .inl (.load false 1 (.t 43))⟩, [], true⟩,
              ⟨12, ⟨(some 45), none, .inl (.mv (.t 1))⟩, [], true⟩,
              ⟨13, ⟨(some 46), none, .inl (.bin .add (.t 44) (.t 45))⟩, [], true⟩,
              ⟨14, ⟨(some 47), none, .inl (.iaddr 1 (.t 33) (.t 36))⟩, [], false⟩,
              ⟨15, ⟨none, none, .inr (.store 1 (.t 47) (.t 42))⟩, [4, 5, 6, 7, 10, 11, 12, 13], false⟩,
              ⟨16, ⟨(some 48), none, .inl (.iaddr 1 (.t 37) (.t 40))⟩, [], false⟩,
              ⟨17, ⟨none, none, .inr (.store 1 (.t 48) (.t 46))⟩, [], false⟩])
           (.keep [1, 5, 26, 27, 28]))))
          (.seq (.reg [⟨(some 49), none, .inl (.bin .add (.t 28) (.c (.int .i64 1)))⟩,
              ⟨(some 28), none, .inl (.mv (.t 49))⟩])
           (.keep [1, 5, 26, 27, 28]))))))))
       (.seq (.seq (.reg [⟨(some 51), none, .inl (.mv (.t 5))⟩,
           ⟨(some 52), none, .inr (.call 43 [(.t 51)])⟩,
           ⟨(some 50), none, .inl (.mv (.t 52))⟩,
           ⟨(some 53), none, .inl (.ext 0 (.t 50))⟩,
           ⟨(some 54), none, .inl (.ext 1 (.t 50))⟩,
           ⟨(some 8), none, .inl (.mv (.t 53))⟩,
           ⟨(some 9), none, .inl (.mv (.t 54))⟩])
        (.keep [8]))
        (.seq (.seq (.reg [⟨(some 55), none, .inl (.mv (.t 8))⟩,
            ⟨(some 4), none, .inl (.mv (.t 55))⟩])
         (.keep [4]))
         (.ret)))))))
def fc_tree_node_put : FC := ⟨56, cmd_tree_node_put, [.t 4]⟩
theorem fc_tree_node_put_ok : compF Try.prog 32 [[1, 2], [1, 2, 5], [1, 2, 5], [1, 2, 5, 18], [1, 2, 5], [1, 5, 26, 27, 28], [1, 5, 26, 27, 28], [1, 5, 26, 27, 28, 29], [1, 5, 6, 7, 26, 27, 28], [1, 5, 26, 27, 28], [0, 1, 2, 3, 4, 5, 6, 7, 8, 9, 10, 11, 12, 13, 14, 15, 16, 17], [1, 5, 26, 27, 28], [8], [4]] = some fc_tree_node_put := by kernel_rfl
/-- joist/joistref14.levels -/
abbrev F.joistref14_levels : Nat := 33
def cmd_joistref14_levels : Cmd :=
  .seq (.seq (.reg [⟨(some 2), none, .inl (.mv (.c .nils))⟩])
   (.keep [0]))
   (.seq (.seq (.reg [⟨(some 9), none, .inl (.mv (.t 0))⟩,
       ⟨(some 10), none, .inr (.call 44 [(.t 9)])⟩,
       ⟨(some 11), none, .inr (.bslice 1 [.nils] 1 [(0, (.t 10))])⟩,
       ⟨(some 3), none, .inl (.mv (.t 11))⟩])
    (.keep [3]))
    (.seq (.block 0 (.loop [3] (.seq (.seq (.seq (.reg [⟨(some 12), none, .inl (.mv (.t 3))⟩,
        ⟨(some 13), none, .inl (.iaddr 1 (.t 12) (.c (.int .i64 0)))⟩,
        ⟨(some 14), none, .inl (.load false 1 (.t 13))⟩,
        ⟨(some 15), none, .inl (.len (.t 14))⟩,
        ⟨(some 16), none, .inl (.bin .gtr (.t 15) (.c (.int .i64 1)))⟩])
     (.keep [3, 16]))
     (.cond (.t 16)
       (.skip)
       (.exit 0)))
     (.block 1 (.seq (.seq (.reg [⟨(some 17), none, .inl (.mv (.t 3))⟩,
         ⟨(some 18), none, .inl (.iaddr 1 (.t 17) (.c (.int .i64 0)))⟩,
         ⟨(some 19), none, .inl (.load false 1 (.t 18))⟩,
         ⟨(some 4), none, .inl (.mv (.t 19))⟩])
      (.keep [3, 4]))
      (.seq (.seq (.reg [⟨(some 5), none, .inl (.mv (.c .nils))⟩])
       (.keep [3, 4, 5]))
       (.seq (.seq (.seq (.reg [⟨(some 6), none, .inl (.mv (.c (.int .i64 0)))⟩])
        (.keep [3, 4, 5, 6]))
        (.block 2 (.loop [3, 4, 5, 6] (.seq (.seq (.seq (.reg [⟨(some 20), none, .inl (.mv (.t 6))⟩,
            ⟨(some 21), none, .inl (.mv (.t 4))⟩,
            ⟨(some 22), none, .inl (.len (.t 21))⟩,
            ⟨(some 23), none, .inr (.call 45 [(.t 22)])⟩,
            ⟨(some 24), none, .inl (.bin .lss (.t 20) (.t 23))⟩])
         (.keep [3, 4, 5, 6, 24]))
         (.cond (.t 24)
           (.skip)
           (.exit 2)))
         (.seq (.block 3 (.seq (.seq (.reg [⟨(some 27), none, .inl (.mv (.t 4))⟩,
             ⟨(some 28), none, .inl (.mv (.t 6))⟩,
             ⟨(some 29), none, .inl (.bin .mul (.c (.int .i64 7)) (.t 28))⟩,
             ⟨(some 30), none, .inl (.iaddr 4 (.t 27) (.t 29))⟩,
             ⟨(some 31), none, .inl (.faddr 3 (.t 30))⟩,
             ⟨(some 32), none, .inl (.load false 1 (.t 31))⟩,
             ⟨(some 33), none, .inl (.build [.nils, (.int .i64 0), (.bool false), (.int .i64 0)] [(3, 1, (.t 32))])⟩,
             ⟨(some 7), none, .inr (.alloc [.nils, (.int .i64 0), (.bool false), (.int .i64 0)])⟩,
             ⟨none, none, .inr (.store 4 (.t 7) (.t 33))⟩])
          (.keep [3, 4, 5, 6, 7]))
          (.seq (.seq (.seq (.reg [⟨(some 34), none, .inl (.mv (.t 6))⟩,
              ⟨(some 35), none, .inl (.bin .mul (.c (.int .i64 7)) (.t 34))⟩,
              ⟨(some 8), none, .inl (.mv (.t 35))⟩])
           (.keep [3, 4, 5, 6, 7, 8]))
           (.block 4 (.loop [3, 4, 5, 6, 7, 8] (.seq (.seq (.seq (.reg [⟨(some 36), none, .inl (.mv (.t 8))⟩,
               ⟨(some 37), none, .inl (.mv (.t 4))⟩,
               ⟨(some 38), none, .inl (.len (.t 37))⟩,
               ⟨(some 39), none, .inl (.bin .lss (.t 36) (.t 38))⟩,
               ⟨(some 40), none, .inl (.mv (.t 39))⟩,
               ⟨(some 41), (some (40, true)), .inl (.mv (.t 8))⟩,
               ⟨(some 42), (some (40, true)), .inl (.mv (.t 6))⟩,
               ⟨(some 43), (some (40, true)), .inl (.bin .add (.t 42) (.c (.int .i64 1)))⟩,
               ⟨(some 44), (some (40, true)), .inl (.bin .mul (.c (.int .i64 7)) (.t 43))⟩,
               ⟨(some 45), (some (40, true)), .inl (.bin .lss (.t 41) (.t 44))⟩,
               ⟨(some 46), none, .inl (.pick (.t 40) (.t 45) (.c (.bool false)))⟩])
            (.keep [3, 4, 5, 6, 7, 8, 46]))
            (.cond (.t 46)
              (.skip)
              (.exit 4)))
            (.seq (.block 5 (.seq (.seq (.ord [⟨0, ⟨(some 49), none, .inl (.faddr 0 (.t 7))⟩, [], true⟩,
                ⟨1, ⟨(some 50), none, .inl (.load false 1 (.t 49))⟩, [], true⟩,
                ⟨2, ⟨(some 51), none, .inl (.mv (.t 4))⟩, [], false⟩,
                ⟨3, ⟨(some 52), none, .inl (.mv (.t 8))⟩, [], false⟩,
                ⟨4, ⟨(some 53), none, .inl (.iaddr 4 (.t 51) (.t 52))⟩, [], false⟩,
                ⟨5, ⟨(some 54), none, .inl (.faddr 3 (.t 53))⟩, [], false⟩,
                ⟨6, ⟨(some 55), none, .inl (.load false 1 (.t 54))⟩, [], false⟩,
                ⟨7, ⟨(some 56), none, .inl (.mv (.t 8))⟩, [], false⟩,
                ⟨8, ⟨(some 57), none, .inr (.bslice 1 [(.int .i64 0)] 2 [(0, (.t 55)), (1, (.t 56))])⟩, [0, 1], false⟩,
                ⟨9, ⟨(some 58), none, .inr (.append 1 8 (.t 50) (.t 57))⟩, [], false⟩,
                ⟨10, ⟨(some 59), none, .inl (.faddr 0 (.t 7))⟩, [], false⟩,
                ⟨11, ⟨none, none, .inr (.store 1 (.t 59) (.t 58))⟩, [], false⟩])
             (.keep [3, 4, 5, 6, 7, 8]))
             (.seq (.reg [⟨(some 60), none, .inl (.faddr 1 (.t 7))⟩,
                 ⟨(some 61), none, .inl (.load false 1 (.t 60))⟩,
                 ⟨(some 62), none, .inl (.bin .add (.t 61) (.c (.int .i64 1)))⟩,
                 ⟨(some 63), none, .inl (.faddr 1 (.t 7))⟩,
                 ⟨none, none, .inr (.store 1 (.t 63) (.t 62))⟩])
              (.keep [3, 4, 5, 6, 7, 8]))))
             (.seq (.reg [⟨(some 47), none, .inl (.mv (.t 8))⟩,
                 ⟨(some 48), none, .inl (.bin .add (.t 47) (.c (.int .i64 1)))⟩,
                 ⟨(some 8), none, .inl (.mv (.t 48))⟩])
              (.keep [3, 4, 5, 6, 7, 8])))))))
           (.seq (.reg [⟨(some 64), none, .inl (.mv (.t 5))⟩,
               ⟨(some 65), none, .inl (.load true 4 (.t 7))⟩,
               ⟨(some 66), none, .inr (.bslice 4 [.nils, (.int .i64 0), (.bool false), (.int .i64 0)] 1 [(0, (.t 65))])⟩,
               ⟨(some 67), none, .inr (.append 4 48 (.t 64) (.t 66))⟩,
               ⟨(some 5), none, .inl (.mv (.t 67))⟩])
            (.keep [3, 4, 5, 6])))))
          (.seq (.reg [⟨(some 25), none, .inl (.mv (.t 6))⟩,
              ⟨(some 26), none, .inl (.bin .add (.t 25) (.c (.int .i64 1)))⟩,
              ⟨(some 6), none, .inl (.mv (.t 26))⟩])
           (.keep [3, 4, 5, 6])))))))
        (.seq (.reg [⟨(some 68), none, .inl (.mv (.t 5))⟩,
            ⟨(some 69), none, .inr (.bslice 1 [.nils] 1 [(0, (.t 68))])⟩,
            ⟨(some 70), none, .inl (.mv (.t 3))⟩,
            ⟨(some 71), none, .inr (.append 1 24 (.t 69) (.t 70))⟩,
            ⟨(some 3), none, .inl (.mv (.t 71))⟩])
         (.keep [3])))))))))
     (.seq (.seq (.reg [⟨(some 72), none, .inl (.mv (.t 3))⟩,
         ⟨(some 2), none, .inl (.mv (.t 72))⟩])
      (.keep [2]))
      (.ret))))
def fc_joistref14_levels : FC := ⟨73, cmd_joistref14_levels, [.t 2]⟩
theorem fc_joistref14_levels_ok : compF Try.prog 33 [[0], [3], [3], [3, 16], [3, 4], [3, 4, 5], [3, 4, 5, 6], [3, 4, 5, 6], [3, 4, 5, 6, 24], [3, 4, 5, 6, 7], [3, 4, 5, 6, 7, 8], [3, 4, 5, 6, 7, 8], [3, 4, 5, 6, 7, 8, 46], [3, 4, 5, 6, 7, 8], [0, 1, 2, 3, 4, 5, 6, 7, 8, 9, 10, 11], [3, 4, 5, 6, 7, 8], [3, 4, 5, 6, 7, 8], [3, 4, 5, 6], [3, 4, 5, 6], [3], [2]] = some fc_joistref14_levels := by kernel_rfl
/-- joist/joistref01.Of -/
abbrev F.joistref01_Of : Nat := 34
def cmd_joistref01_Of : Cmd :=
  .seq (.seq (.reg [⟨(some 2), none, .inl (.mv (.c .nils))⟩,
      ⟨(some 3), none, .inl (.mv (.c (.int .i64 0)))⟩])
   (.keep [0]))
   (.seq (.seq (.reg [⟨(some 4), none, .inl (.mv (.c .nils))⟩])
    (.keep [0, 4]))
    (.seq (.seq (.seq (.reg [⟨(some 5), none, .inl (.mv (.c (.int .i64 0)))⟩])
     (.keep [0, 4, 5]))
     (.block 0 (.loop [0, 4, 5] (.seq (.seq (.seq (.reg [⟨(some 6), none, .inl (.mv (.t 5))⟩,
         ⟨(some 7), none, .inl (.mv (.t 0))⟩,
         ⟨(some 8), none, .inl (.len (.t 7))⟩,
         ⟨(some 9), none, .inl (.bin .lss (.t 6) (.t 8))⟩])
      (.keep [0, 4, 5, 9]))
      (.cond (.t 9)
        (.skip)
        (.exit 0)))
      (.seq (.block 1 (.seq (.seq (.seq (.reg [⟨(some 12), none, .inl (.mv (.t 0))⟩,
          ⟨(some 13), none, .inl (.mv (.t 5))⟩,
          ⟨(some 14), none, .inl (.iaddr 1 (.t 12) (.t 13))⟩,
          ⟨(some 15), none, .inl (.load false 1 (.t 14))⟩,
          ⟨(some 16), none, .inl (.bin .lss (.t 15) (.c (.int .i64 0)))⟩,
          ⟨(some 17), none, .inl (.mv (.t 16))⟩,
          ⟨(some 18), (some (17, false)), .inl (.mv (.t 0))⟩,
          ⟨(some 19), (some (17, false)), .inl (.mv (.t 5))⟩,
          ⟨(some 20), (some (17, false)), .inl (.iaddr 1 (.t 18) (.t 19))⟩,
          ⟨(some 21), (some (17, false)), .inl (.load false 1 (.t 20))⟩,
          ⟨(some 22), (some (17, false)), .inl (.bin .gtr (.t 21) (.c (.int .i64 4611686018427387903)))⟩,
          ⟨(some 23), none, .inl (.pick (.t 17) (.c (.bool true)) (.t 22))⟩])
       (.keep [0, 4, 5, 23]))
       (.cond (.t 23)
         (.seq (.seq (.reg [⟨(some 2), none, .inl (.mv (.c .nils))⟩,
             ⟨(some 3), none, .inl (.mv (.c (.int .i64 4)))⟩])
          (.keep [2, 3]))
          (.ret))
         (.skip)))
       (.seq (.reg [⟨(some 24), none, .inl (.mv (.t 4))⟩,
           ⟨(some 25), none, .inl (.mv (.t 0))⟩,
           ⟨(some 26), none, .inl (.mv (.t 5))⟩,
           ⟨(some 27), none, .inl (.iaddr 1 (.t 25) (.t 26))⟩,
           ⟨(some 28), none, .inl (.load false 1 (.t 27))⟩,
           ⟨(some 29), none, .inr (.call 46 [(.t 28)])⟩,
           ⟨(some 30), none, .inr (.append 1 1 (.t 24) (.t 29))⟩,
           ⟨(some 4), none, .inl (.mv (.t 30))⟩])
        (.keep [0, 4, 5]))))
       (.seq (.reg [⟨(some 10), none, .inl (.mv (.t 5))⟩,
           ⟨(some 11), none, .inl (.bin .add (.t 10) (.c (.int .i64 1)))⟩,
           ⟨(some 5), none, .inl (.mv (.t 11))⟩])
        (.keep [0, 4, 5])))))))
     (.seq (.seq (.reg [⟨(some 31), none, .inl (.mv (.t 4))⟩,
         ⟨(some 2), none, .inl (.mv (.t 31))⟩,
         ⟨(some 3), none, .inl (.mv (.c (.int .i64 0)))⟩])
      (.keep [2, 3]))
      (.ret))))
def fc_joistref01_Of : FC := ⟨32, cmd_joistref01_Of, [.t 2, .t 3]⟩
theorem fc_joistref01_Of_ok : compF Try.prog 34 [[0], [0, 4], [0, 4, 5], [0, 4, 5], [0, 4, 5, 9], [0, 4, 5, 23], [2, 3], [0, 4, 5], [0, 4, 5], [2, 3]] = some fc_joistref01_Of := by kernel_rfl
/-- joist/tree.get -/
abbrev F.tree_get : Nat := 35
def cmd_tree_get : Cmd :=
  .seq (.seq (.reg [⟨(some 2), none, .inr (.box 1 (.t 0))⟩,
      ⟨(some 4), none, .inr (.alloc [(.bool false), .nils])⟩])
   (.keep [1, 2, 4]))
   (.seq (.seq (.reg [⟨(some 10), none, .inl (.mv (.t 1))⟩,
       ⟨(some 11), none, .inl (.bin .mul (.t 10) (.c (.int .i64 128)))⟩,
       ⟨(some 5), none, .inr (.alloc [(.int .i64 0)])⟩,
       ⟨none, none, .inr (.store 1 (.t 5) (.t 11))⟩])
    (.keep [2, 4, 5]))
    (.seq (.seq (.reg [⟨(some 12), none, .inl (.mkfn 47 [(.t 2), (.t 5)])⟩,
        ⟨(some 6), none, .inl (.mv (.t 12))⟩])
     (.keep [4, 6]))
     (.seq (.seq (.reg [⟨(some 13), none, .inl (.mv (.t 6))⟩,
         ⟨(some 14), none, .inr (.callv (.t 13) [(.c (.int .i64 0))])⟩,
         ⟨(some 7), none, .inl (.mv (.t 14))⟩])
      (.keep [4, 6, 7]))
      (.seq (.seq (.reg [⟨(some 15), none, .inl (.mv (.t 7))⟩,
          ⟨(some 16), none, .inl (.bin .and (.t 15) (.c (.int .i64 1)))⟩,
          ⟨(some 17), none, .inl (.bin .neq (.t 16) (.c (.int .i64 0)))⟩,
          ⟨(some 18), none, .inl (.build [(.bool false), .nils] [(0, 1, (.t 17))])⟩,
          ⟨(some 8), none, .inr (.alloc [(.bool false), .nils])⟩,
          ⟨none, none, .inr (.store 2 (.t 8) (.t 18))⟩])
       (.keep [4, 6, 7, 8]))
       (.seq (.seq (.seq (.reg [⟨(some 19), none, .inl (.mv (.t 7))⟩,
           ⟨(some 20), none, .inl (.bin .quo (.t 19) (.c (.int .i64 2)))⟩,
           ⟨(some 21), none, .inl (.mn (.t 20) (.c (.int .i64 7)))⟩,
           ⟨(some 22), none, .inl (.mv (.c (.int .i64 0)))⟩])
        (.keep [4, 6, 8, 21, 22]))
        (.block 0 (.loop [4, 6, 8, 21, 22] (.seq (.seq (.reg [⟨(some 23), none, .inl (.bin .lss (.t 22) (.t 21))⟩])
         (.keep [4, 6, 8, 21, 22, 23]))
         (.seq (.cond (.t 23)
           (.skip)
           (.exit 0))
          (.seq (.block 1 (.seq (.seq (.reg [⟨(some 24), none, .inl (.mv (.t 22))⟩,
              ⟨(some 9), none, .inl (.mv (.t 24))⟩])
           (.keep [4, 6, 8, 9, 21, 22]))
           (.seq (.ord [⟨0, ⟨(some 25), none, .inl (.faddr 1 (.t 8))⟩, [], true⟩,
               ⟨1, ⟨(some 26), none, .inl (.load false 1 (.t 25))⟩, [], true⟩,
               ⟨2, ⟨(some 27), none, .inl (.mv (.t 6))⟩, [], false⟩,
               ⟨3, ⟨(some 28), none, .inl (.mv (.t 9))⟩, [], false⟩,
               ⟨4, ⟨(some 29), none, .inl (.bin .mul (.c (.int .i64 2)) (.t 28))⟩, [], false⟩,
               ⟨5, ⟨(some 30), none, .inl (.bin .add (.c (.int .i64 1)) (.t 29))⟩, [], false⟩,
               ⟨7, ⟨(some 32), none, .inl (.mv (.t 6))⟩, [], true⟩,
               ⟨8, ⟨(some 33), none, .inl (.mv (.t 9))⟩, [], true⟩,
               ⟨9, ⟨(some 34), none, .inl (.bin .mul (.c (.int .i64 2)) (.t 33))⟩, [], true⟩,
               ⟨10, ⟨(some 35), none, .inl (.bin .add (.c (.int .i64 2)) (.t 34))⟩, [], true⟩,
               ⟨6, ⟨(some 31), none, .inr (.callv (.t 27) [(.t 30)])⟩, [0, 1, 7, 8, 9, 10], false⟩,
               ⟨11, ⟨(some 36), none, .inr (.callv (.t 32) [(.t 35)])⟩, [0, 1], false⟩,
               ⟨12, ⟨(some 37), none, .inl (.build [(.int .i64 0), (.int .i64 0)] [(0, 1, (.t 31)), (1, 1, (.t 36))])⟩, [], false⟩,
               ⟨13, ⟨(some 38), none, .inr (.bslice 2 [(.int .i64 0), (.int .i64 0)] 1 [(0, (.t 37))])⟩, [0, 1], false⟩,
               ⟨14, ⟨(some 39), none, .inr (.append 2 16 (.t 26) (.t 38))⟩, [], false⟩,
               ⟨15, ⟨(some 40), none, .inl (.faddr 1 (.t 8))⟩, [], false⟩,
               ⟨16, ⟨none, none, .inr (.store 1 (.t 40) (.t 39))⟩, [], false⟩])
            (.keep [4, 6, 8, 21, 22]))))
           (.seq (.reg [⟨(some 41), none, .inl (.bin .add (.t 22) (.c (.int .i64 1)))⟩,
               ⟨(some 22), none, .inl (.mv (.t 41))⟩])
            (.keep [4, 6, 8, 21, 22]))))))))
        (.seq (.seq (.reg [⟨(some 42), none, .inl (.load true 2 (.t 8))⟩,
            ⟨none, none, .inr (.store 2 (.t 4) (.t 42))⟩])
         (.keep [4]))
         (.ret)))))))
def fc_tree_get : FC := ⟨43, cmd_tree_get, [.cell 4 true 2]⟩
theorem fc_tree_get_ok : compF Try.prog 35 [[1, 2, 4], [2, 4, 5], [4, 6], [4, 6, 7], [4, 6, 7, 8], [4, 6, 8, 21, 22], [4, 6, 8, 21, 22], [4, 6, 8, 21, 22, 23], [4, 6, 8, 9, 21, 22], [4, 6, 8, 21, 22], [0, 1, 2, 3, 4, 5, 7, 8, 9, 10, 6, 11, 12, 13, 14, 15, 16], [4, 6, 8, 21, 22], [4]] = some fc_tree_get := by kernel_rfl
/-- joist/tree.extent -/
abbrev F.tree_extent : Nat := 36
def cmd_tree_extent : Cmd :=
  .seq (.seq (.reg [⟨(some 1), none, .inr (.box 2 (.t 0))⟩,
      ⟨(some 2), none, .inr (.alloc [(.int .i64 0), (.int .i64 0), (.int .i64 0)])⟩])
   (.keep [1, 2]))
   (.seq (.seq (.reg [⟨(some 3), none, .inl (.iaddrA 2 1 (.t 1) (.c (.int .i64 0)))⟩,
       ⟨(some 4), none, .inl (.load false 1 (.t 3))⟩,
       ⟨(some 5), none, .inl (.iaddrA 2 1 (.t 1) (.c (.int .i64 1)))⟩,
       ⟨(some 6), none, .inl (.load false 1 (.t 5))⟩,
       ⟨(some 7), none, .inl (.bin .quo (.t 6) (.c (.int .i64 4)))⟩,
       ⟨(some 8), none, .inl (.iaddrA 2 1 (.t 1) (.c (.int .i64 1)))⟩,
       ⟨(some 9), none, .inl (.load false 1 (.t 8))⟩,
       ⟨(some 10), none, .inl (.bin .rem (.t 9) (.c (.int .i64 4)))⟩,
       ⟨(some 11), none, .inl (.build [(.int .i64 0), (.int .i64 0), (.int .i64 0)] [(0, 1, (.t 4)), (1, 1, (.t 7)), (2, 1, (.t 10))])⟩,
       ⟨none, none, .inr (.store 3 (.t 2) (.t 11))⟩])
    (.keep [2]))
    (.ret))
def fc_tree_extent : FC := ⟨12, cmd_tree_extent, [.cell 2 true 3]⟩
theorem fc_tree_extent_ok : compF Try.prog 36 [[1, 2], [2]] = some fc_tree_extent := by kernel_rfl
/-- bytes.Equal -/
abbrev F.bytes_Equal : Nat := 37
def cmd_bytes_Equal : Cmd :=
  .seq (.seq (.reg [⟨(some 4), none, .inl (.mv (.c (.bool false)))⟩])
   (.keep [0, 1]))
   (.seq (.seq (.reg [⟨(some 5), none, .inl (.mv (.t 0))⟩,
       ⟨(some 6), none, .inl (.b2s (.t 5))⟩,
       ⟨(some 7), none, .inl (.mv (.t 1))⟩,
       ⟨(some 8), none, .inl (.b2s (.t 7))⟩,
       ⟨(some 9), none, .inl (.bins .eql (.t 6) (.t 8))⟩,
       ⟨(some 4), none, .inl (.mv (.t 9))⟩])
    (.keep [4]))
    (.ret))
def fc_bytes_Equal : FC := ⟨10, cmd_bytes_Equal, [.t 4]⟩
theorem fc_bytes_Equal_ok : compF Try.prog 37 [[0, 1], [4]] = some fc_bytes_Equal := by kernel_rfl
/-- joist/joistref01.Get -/
abbrev F.joistref01_Get : Nat := 38
def cmd_joistref01_Get : Cmd :=
  .seq (.seq (.reg [⟨(some 4), none, .inl (.mv (.c (.int .i64 0)))⟩,
      ⟨(some 5), none, .inl (.mv (.c (.bool false)))⟩])
   (.keep [0, 1]))
   (.seq (.seq (.seq (.reg [⟨(some 9), none, .inl (.mv (.t 1))⟩,
       ⟨(some 10), none, .inl (.bin .lss (.t 9) (.c (.int .i64 0)))⟩,
       ⟨(some 11), none, .inl (.mv (.t 10))⟩,
       ⟨(some 12), (some (11, false)), .inl (.mv (.t 1))⟩,
       ⟨(some 13), (some (11, false)), .inl (.mv (.t 0))⟩,
       ⟨(some 14), (some (11, false)), .inl (.len (.t 13))⟩,
       ⟨(some 15), (some (11, false)), .inl (.bin .quo (.t 14) (.c (.int .i64 8)))⟩,
       ⟨(some 16), (some (11, false)), .inl (.bin .geq (.t 12) (.t 15))⟩,
       ⟨(some 17), none, .inl (.pick (.t 11) (.c (.bool true)) (.t 16))⟩])
    (.keep [0, 1, 17]))
    (.cond (.t 17)
      (.seq (.seq (.reg [⟨(some 4), none, .inl (.mv (.c (.int .i64 0)))⟩,
          ⟨(some 5), none, .inl (.mv (.c (.bool false)))⟩])
       (.keep [4, 5]))
       (.ret))
      (.skip)))
    (.seq (.seq (.reg [⟨(some 18), none, .inl (.mv (.t 0))⟩,
        ⟨(some 19), none, .inl (.mv (.t 1))⟩,
        ⟨(some 20), none, .inl (.bin .mul (.c (.int .i64 8)) (.t 19))⟩,
        ⟨(some 21), none, .inl (.mv (.t 1))⟩,
        ⟨(some 22), none, .inl (.bin .mul (.c (.int .i64 8)) (.t 21))⟩,
        ⟨(some 23), none, .inl (.bin .add (.t 22) (.c (.int .i64 8)))⟩,
        ⟨(some 24), none, .inl (.slice 1 (.t 18) (some (.t 20)) (some (.t 23)) none)⟩,
        ⟨(some 6), none, .inl (.mv (.t 24))⟩])
     (.keep [6]))
     (.seq (.seq (.seq (.reg [⟨(some 25), none, .inl (.mv (.t 6))⟩,
         ⟨(some 26), none, .inl (.iaddr 1 (.t 25) (.c (.int .i64 7)))⟩,
         ⟨(some 27), none, .inl (.load false 1 (.t 26))⟩,
         ⟨(some 28), none, .inl (.bin .geq (.t 27) (.c (.int .u8 64)))⟩])
      (.keep [6, 28]))
      (.cond (.t 28)
        (.seq (.seq (.reg [⟨(some 4), none, .inl (.mv (.c (.int .i64 0)))⟩,
            ⟨(some 5), none, .inl (.mv (.c (.bool false)))⟩])
         (.keep [4, 5]))
         (.ret))
        (.skip)))
      (.seq (.seq (.reg [⟨(some 7), none, .inl (.mv (.c (.int .i64 0)))⟩])
       (.keep [6, 7]))
       (.seq (.seq (.seq (.reg [⟨(some 8), none, .inl (.mv (.c (.int .i64 7)))⟩])
        (.keep [6, 7, 8]))
        (.block 0 (.loop [6, 7, 8] (.seq (.seq (.seq (.reg [⟨(some 29), none, .inl (.mv (.t 8))⟩,
            ⟨(some 30), none, .inl (.bin .geq (.t 29) (.c (.int .i64 0)))⟩])
         (.keep [6, 7, 8, 30]))
         (.cond (.t 30)
           (.skip)
           (.exit 0)))
         (.seq (.block 1 (.seq (.reg [⟨(some 33), none, .inl (.mv (.t 7))⟩,
             ⟨(some 34), none, .inl (.bin .mul (.t 33) (.c (.int .i64 256)))⟩,
             ⟨(some 35), none, .inl (.mv (.t 6))⟩,
             ⟨(some 36), none, .inl (.mv (.t 8))⟩,
             ⟨(some 37), none, .inl (.iaddr 1 (.t 35) (.t 36))⟩,
             ⟨(some 38), none, .inl (.load false 1 (.t 37))⟩,
             ⟨(some 39), none, .inl (.conv .i64 (.t 38))⟩,
             ⟨(some 40), none, .inl (.bin .add (.t 34) (.t 39))⟩,
             ⟨(some 7), none, .inl (.mv (.t 40))⟩])
          (.keep [6, 7, 8])))
          (.seq (.reg [⟨(some 31), none, .inl (.mv (.t 8))⟩,
              ⟨(some 32), none, .inl (.bin .sub (.t 31) (.c (.int .i64 1)))⟩,
              ⟨(some 8), none, .inl (.mv (.t 32))⟩])
           (.keep [6, 7, 8])))))))
        (.seq (.seq (.reg [⟨(some 41), none, .inl (.mv (.t 7))⟩,
            ⟨(some 4), none, .inl (.mv (.t 41))⟩,
            ⟨(some 5), none, .inl (.mv (.c (.bool true)))⟩])
         (.keep [4, 5]))
         (.ret)))))))
def fc_joistref01_Get : FC := ⟨42, cmd_joistref01_Get, [.t 4, .t 5]⟩
theorem fc_joistref01_Get_ok : compF Try.prog 38 [[0, 1], [0, 1, 17], [4, 5], [6], [6, 28], [4, 5], [6, 7], [6, 7, 8], [6, 7, 8], [6, 7, 8, 30], [6, 7, 8], [6, 7, 8], [4, 5]] = some fc_joistref01_Get := by kernel_rfl
/-- joist/words.read -/
abbrev F.words_read : Nat := 39
def cmd_words_read : Cmd :=
  .seq (.seq (.reg [⟨(some 2), none, .inl (.mv (.c (.int .i64 0)))⟩,
      ⟨(some 3), none, .inl (.mv (.c (.bool false)))⟩])
   (.keep [0, 2]))
   (.seq (.seq (.seq (.reg [⟨(some 5), none, .inl (.mv (.t 0))⟩,
       ⟨(some 6), none, .inl (.iaddr 1 (.t 5) (.c (.int .i64 7)))⟩,
       ⟨(some 7), none, .inl (.load false 1 (.t 6))⟩,
       ⟨(some 8), none, .inl (.bin .geq (.t 7) (.c (.int .u8 64)))⟩])
    (.keep [0, 2, 8]))
    (.cond (.t 8)
      (.seq (.seq (.reg [⟨(some 2), none, .inl (.mv (.c (.int .i64 0)))⟩,
          ⟨(some 3), none, .inl (.mv (.c (.bool false)))⟩])
       (.keep [2, 3]))
       (.ret))
      (.skip)))
    (.seq (.seq (.seq (.reg [⟨(some 9), none, .inl (.mv (.c (.int .i64 0)))⟩])
     (.keep [0, 2, 9]))
     (.block 0 (.loop [0, 2, 9] (.seq (.seq (.reg [⟨(some 10), none, .inl (.bin .lss (.t 9) (.c (.int .i64 8)))⟩])
      (.keep [0, 2, 9, 10]))
      (.seq (.cond (.t 10)
        (.skip)
        (.exit 0))
       (.seq (.block 1 (.seq (.seq (.reg [⟨(some 11), none, .inl (.mv (.t 9))⟩,
           ⟨(some 4), none, .inl (.mv (.t 11))⟩])
        (.keep [0, 2, 4, 9]))
        (.seq (.reg [⟨(some 12), none, .inl (.mv (.t 2))⟩,
            ⟨(some 13), none, .inl (.bin .shl (.t 12) (.c (.int .u64 8)))⟩,
            ⟨(some 14), none, .inl (.mv (.t 0))⟩,
            ⟨(some 15), none, .inl (.mv (.t 4))⟩,
            ⟨(some 16), none, .inl (.bin .sub (.c (.int .i64 7)) (.t 15))⟩,
            ⟨(some 17), none, .inl (.iaddr 1 (.t 14) (.t 16))⟩,
            ⟨(some 18), none, .inl (.load false 1 (.t 17))⟩,
            ⟨(some 19), none, .inl (.conv .i64 (.t 18))⟩,
            ⟨(some 20), none, .inl (.bin .or (.t 13) (.t 19))⟩,
            ⟨(some 2), none, .inl (.mv (.t 20))⟩])
         (.keep [0, 2, 9]))))
        (.seq (.reg [⟨(some 21), none, .inl (.bin .add (.t 9) (.c (.int .i64 1)))⟩,
            ⟨(some 9), none, .inl (.mv (.t 21))⟩])
         (.keep [0, 2, 9]))))))))
     (.seq (.seq (.reg [⟨(some 22), none, .inl (.mv (.t 2))⟩,
         ⟨(some 2), none, .inl (.mv (.t 22))⟩,
         ⟨(some 3), none, .inl (.mv (.c (.bool true)))⟩])
      (.keep [2, 3]))
      (.ret))))
def fc_words_read : FC := ⟨23, cmd_words_read, [.t 2, .t 3]⟩
theorem fc_words_read_ok : compF Try.prog 39 [[0, 2], [0, 2, 8], [2, 3], [0, 2, 9], [0, 2, 9], [0, 2, 9, 10], [0, 2, 4, 9], [0, 2, 9], [0, 2, 9], [2, 3]] = some fc_words_read := by kernel_rfl
/-- slices.Backward[[][]joist/tree.node,[]joist/tree.node]$1 -/
abbrev F.slices_Backward_1 : Nat := 40
def cmd_slices_Backward_1 : Cmd :=
  .seq (.seq (.reg [⟨(some 4), none, .inl (.load false 1 (.t 1))⟩,
      ⟨(some 5), none, .inl (.len (.t 4))⟩,
      ⟨(some 6), none, .inl (.bin .sub (.t 5) (.c (.int .i64 1)))⟩,
      ⟨(some 3), none, .inl (.mv (.t 6))⟩])
   (.keep [0, 1, 3]))
   (.block 0 (.loop [0, 1, 3] (.seq (.seq (.seq (.reg [⟨(some 7), none, .inl (.mv (.t 3))⟩,
       ⟨(some 8), none, .inl (.bin .geq (.t 7) (.c (.int .i64 0)))⟩])
    (.keep [0, 1, 3, 8]))
    (.cond (.t 8)
      (.skip)
      (.exit 0)))
    (.seq (.block 1 (.seq (.seq (.reg [⟨(some 11), none, .inl (.mv (.t 0))⟩,
        ⟨(some 12), none, .inl (.mv (.t 3))⟩,
        ⟨(some 13), none, .inl (.load false 1 (.t 1))⟩,
        ⟨(some 14), none, .inl (.mv (.t 3))⟩,
        ⟨(some 15), none, .inl (.iaddr 1 (.t 13) (.t 14))⟩,
        ⟨(some 16), none, .inl (.load false 1 (.t 15))⟩,
        ⟨(some 17), none, .inr (.callv (.t 11) [(.t 12), (.t 16)])⟩,
        ⟨(some 18), none, .inl (.un .not (.t 17))⟩])
     (.keep [0, 1, 3, 18]))
     (.cond (.t 18)
       (.ret)
       (.skip))))
     (.seq (.reg [⟨(some 9), none, .inl (.mv (.t 3))⟩,
         ⟨(some 10), none, .inl (.bin .sub (.t 9) (.c (.int .i64 1)))⟩,
         ⟨(some 3), none, .inl (.mv (.t 10))⟩])
      (.keep [0, 1, 3]))))))
def fc_slices_Backward_1 : FC := ⟨19, cmd_slices_Backward_1, []⟩
theorem fc_slices_Backward_1_ok : compF Try.prog 40 [[0, 1, 3], [0, 1, 3], [0, 1, 3, 8], [0, 1, 3, 18], [0, 1, 3]] = some fc_slices_Backward_1 := by kernel_rfl
/-- joist/tree.held -/
abbrev F.tree_held : Nat := 41
def cmd_tree_held : Cmd :=
  .seq (.seq (.reg [⟨(some 3), none, .inr (.box 1 (.t 1))⟩,
      ⟨(some 4), none, .inl (.mv (.c .nils))⟩])
   (.keep [0, 3]))
   (.seq (.seq (.seq (.reg [⟨(some 7), none, .inl (.mv (.t 0))⟩,
       ⟨(some 8), none, .inl (.len (.t 7))⟩,
       ⟨(some 9), none, .inl (.bin .eql (.t 8) (.c (.int .i64 0)))⟩])
    (.keep [0, 3, 9]))
    (.cond (.t 9)
      (.seq (.seq (.reg [⟨(some 10), none, .inl (.load false 1 (.t 3))⟩,
          ⟨(some 11), none, .inl (.build [(.bool false), .nils] [(0, 1, (.t 10))])⟩,
          ⟨(some 12), none, .inr (.bslice 2 [(.bool false), .nils] 1 [(0, (.t 11))])⟩,
          ⟨(some 4), none, .inl (.mv (.t 12))⟩])
       (.keep [4]))
       (.ret))
      (.skip)))
    (.seq (.seq (.reg [⟨(some 5), none, .inr (.alloc [.nils])⟩])
     (.keep [0, 3, 5]))
     (.seq (.seq (.seq (.reg [⟨(some 13), none, .inl (.mv (.t 0))⟩,
         ⟨(some 14), none, .inr (.call 49 [(.t 13), (.c (.int .i64 7))])⟩])
      (.keep [3, 5, 14]))
      (.block 0 (.rfun (.t 14) [15]
        (.seq (.reg [⟨(some 6), none, .inl (.mv (.t 15))⟩])
         (.keep [3, 5, 6]))
        (.block 1 (.seq (.reg [⟨(some 16), none, .inl (.load false 1 (.t 5))⟩,
            ⟨(some 17), none, .inl (.load false 1 (.t 3))⟩,
            ⟨(some 18), none, .inl (.mv (.t 6))⟩,
            ⟨(some 19), none, .inl (.build [(.bool false), .nils] [(0, 1, (.t 17)), (1, 1, (.t 18))])⟩,
            ⟨(some 20), none, .inr (.bslice 2 [(.bool false), .nils] 1 [(0, (.t 19))])⟩,
            ⟨(some 21), none, .inr (.append 2 32 (.t 16) (.t 20))⟩,
            ⟨none, none, .inr (.store 1 (.t 5) (.t 21))⟩])
         (.keep []))))))
      (.seq (.seq (.reg [⟨(some 22), none, .inl (.load false 1 (.t 5))⟩,
          ⟨(some 4), none, .inl (.mv (.t 22))⟩])
       (.keep [4]))
       (.ret)))))
def fc_tree_held : FC := ⟨23, cmd_tree_held, [.t 4]⟩
theorem fc_tree_held_ok : compF Try.prog 41 [[0, 3], [0, 3, 9], [4], [0, 3, 5], [3, 5, 14], [3, 5, 6], [], [4]] = some fc_tree_held := by kernel_rfl
/-- (joist/tree.node).first -/
abbrev F.tree_node_first : Nat := 42
def cmd_tree_node_first : Cmd :=
  .seq (.seq (.reg [⟨(some 1), none, .inr (.box 2 (.t 0))⟩,
      ⟨(some 2), none, .inl (.mv (.c (.int .i64 0)))⟩])
   (.keep [1]))
   (.seq (.seq (.seq (.reg [⟨(some 3), none, .inl (.faddr 1 (.t 1))⟩,
       ⟨(some 4), none, .inl (.load false 1 (.t 3))⟩,
       ⟨(some 5), none, .inl (.len (.t 4))⟩,
       ⟨(some 6), none, .inl (.bin .eql (.t 5) (.c (.int .i64 0)))⟩])
    (.keep [1, 6]))
    (.cond (.t 6)
      (.seq (.seq (.reg [⟨(some 2), none, .inl (.mv (.c (.int .i64 0)))⟩])
       (.keep [2]))
       (.ret))
      (.skip)))
    (.seq (.seq (.reg [⟨(some 7), none, .inl (.faddr 1 (.t 1))⟩,
        ⟨(some 8), none, .inl (.load false 1 (.t 7))⟩,
        ⟨(some 9), none, .inl (.iaddr 2 (.t 8) (.c (.int .i64 0)))⟩,
        ⟨(some 10), none, .inl (.iaddrA 2 1 (.t 9) (.c (.int .i64 0)))⟩,
        ⟨(some 11), none, .inl (.load false 1 (.t 10))⟩,
        ⟨(some 2), none, .inl (.mv (.t 11))⟩])
     (.keep [2]))
     (.ret)))
def fc_tree_node_first : FC := ⟨12, cmd_tree_node_first, [.t 2]⟩
theorem fc_tree_node_first_ok : compF Try.prog 42 [[1], [1, 6], [2], [2]] = some fc_tree_node_first := by kernel_rfl
/-- joist/words.Of -/
abbrev F.words_Of : Nat := 43
def cmd_words_Of : Cmd :=
  .seq (.seq (.reg [⟨(some 2), none, .inl (.mv (.c .nils))⟩,
      ⟨(some 3), none, .inl (.mv (.c (.int .i64 0)))⟩])
   (.keep [0]))
   (.seq (.seq (.reg [⟨(some 7), none, .inl (.mv (.t 0))⟩,
       ⟨(some 8), none, .inl (.len (.t 7))⟩,
       ⟨(some 9), none, .inl (.bin .mul (.t 8) (.c (.int .i64 8)))⟩,
       ⟨(some 10), none, .inr (.mksl 1 1 [(.int .u8 0)] (.t 9) (.t 9))⟩,
       ⟨(some 4), none, .inl (.mv (.t 10))⟩])
    (.keep [0, 4]))
    (.seq (.seq (.seq (.reg [⟨(some 11), none, .inl (.mv (.t 0))⟩,
        ⟨(some 12), none, .inl (.len (.t 11))⟩,
        ⟨(some 13), none, .inl (.mv (.c (.int .i64 0)))⟩])
     (.keep [4, 11, 12, 13]))
     (.block 0 (.loop [4, 11, 12, 13] (.seq (.seq (.reg [⟨(some 14), none, .inl (.bin .lss (.t 13) (.t 12))⟩])
      (.keep [4, 11, 12, 13, 14]))
      (.seq (.cond (.t 14)
        (.skip)
        (.exit 0))
       (.seq (.block 1 (.seq (.seq (.reg [⟨(some 15), none, .inl (.mv (.t 13))⟩,
           ⟨(some 16), none, .inl (.iaddr 1 (.t 11) (.t 13))⟩,
           ⟨(some 17), none, .inl (.load false 1 (.t 16))⟩,
           ⟨(some 5), none, .inl (.mv (.t 15))⟩,
           ⟨(some 6), none, .inl (.mv (.t 17))⟩])
        (.keep [4, 5, 6, 11, 12, 13]))
        (.seq (.seq (.seq (.reg [⟨(some 18), none, .inl (.mv (.t 6))⟩,
            ⟨(some 19), none, .inr (.call 50 [(.t 18)])⟩,
            ⟨(some 20), none, .inl (.un .not (.t 19))⟩])
         (.keep [4, 5, 6, 11, 12, 13, 20]))
         (.cond (.t 20)
           (.seq (.seq (.reg [⟨(some 2), none, .inl (.mv (.c .nils))⟩,
               ⟨(some 3), none, .inl (.mv (.c (.int .i64 4)))⟩])
            (.keep [2, 3]))
            (.ret))
           (.skip)))
         (.seq (.reg [⟨(some 21), none, .inl (.mv (.t 4))⟩,
             ⟨(some 22), none, .inl (.mv (.t 5))⟩,
             ⟨(some 23), none, .inr (.call 52 [(.t 21), (.t 22)])⟩,
             ⟨(some 24), none, .inl (.mv (.t 6))⟩,
             ⟨(some 25), none, .inr (.call 51 [(.t 23), (.t 24)])⟩])
          (.keep [4, 11, 12, 13])))))
        (.seq (.reg [⟨(some 26), none, .inl (.bin .add (.t 13) (.c (.int .i64 1)))⟩,
            ⟨(some 13), none, .inl (.mv (.t 26))⟩])
         (.keep [4, 11, 12, 13]))))))))
     (.seq (.seq (.reg [⟨(some 27), none, .inl (.mv (.t 4))⟩,
         ⟨(some 2), none, .inl (.mv (.t 27))⟩,
         ⟨(some 3), none, .inl (.mv (.c (.int .i64 0)))⟩])
      (.keep [2, 3]))
      (.ret))))
def fc_words_Of : FC := ⟨28, cmd_words_Of, [.t 2, .t 3]⟩
theorem fc_words_Of_ok : compF Try.prog 43 [[0], [0, 4], [4, 11, 12, 13], [4, 11, 12, 13], [4, 11, 12, 13, 14], [4, 5, 6, 11, 12, 13], [4, 5, 6, 11, 12, 13, 20], [2, 3], [4, 11, 12, 13], [4, 11, 12, 13], [2, 3]] = some fc_words_Of := by kernel_rfl
/-- joist/joistref14.leaves -/
abbrev F.joistref14_leaves : Nat := 44
def cmd_joistref14_leaves : Cmd :=
  .seq (.seq (.reg [⟨(some 2), none, .inl (.mv (.c .nils))⟩])
   (.keep [0]))
   (.seq (.seq (.reg [⟨(some 3), none, .inl (.mv (.c .nils))⟩])
    (.keep [0, 3]))
    (.seq (.seq (.seq (.reg [⟨(some 4), none, .inl (.mv (.c (.int .i64 0)))⟩])
     (.keep [0, 3, 4]))
     (.block 0 (.loop [0, 3, 4] (.seq (.seq (.seq (.reg [⟨(some 7), none, .inl (.mv (.t 4))⟩,
         ⟨(some 8), none, .inl (.mv (.t 0))⟩,
         ⟨(some 9), none, .inl (.len (.t 8))⟩,
         ⟨(some 10), none, .inr (.call 45 [(.t 9)])⟩,
         ⟨(some 11), none, .inl (.bin .lss (.t 7) (.t 10))⟩])
      (.keep [0, 3, 4, 11]))
      (.cond (.t 11)
        (.skip)
        (.exit 0)))
      (.seq (.block 1 (.seq (.seq (.reg [⟨(some 14), none, .inl (.build [.nils, (.int .i64 0), (.bool false), (.int .i64 0)] [(2, 1, (.c (.bool true)))])⟩,
          ⟨(some 5), none, .inr (.alloc [.nils, (.int .i64 0), (.bool false), (.int .i64 0)])⟩,
          ⟨none, none, .inr (.store 4 (.t 5) (.t 14))⟩])
       (.keep [0, 3, 4, 5]))
       (.seq (.seq (.seq (.reg [⟨(some 15), none, .inl (.mv (.t 4))⟩,
           ⟨(some 16), none, .inl (.bin .mul (.c (.int .i64 7)) (.t 15))⟩,
           ⟨(some 6), none, .inl (.mv (.t 16))⟩])
        (.keep [0, 3, 4, 5, 6]))
        (.block 2 (.loop [0, 3, 4, 5, 6] (.seq (.seq (.seq (.reg [⟨(some 17), none, .inl (.mv (.t 6))⟩,
            ⟨(some 18), none, .inl (.mv (.t 0))⟩,
            ⟨(some 19), none, .inl (.len (.t 18))⟩,
            ⟨(some 20), none, .inl (.bin .lss (.t 17) (.t 19))⟩,
            ⟨(some 21), none, .inl (.mv (.t 20))⟩,
            ⟨(some 22), (some (21, true)), .inl (.mv (.t 6))⟩,
            ⟨(some 23), (some (21, true)), .inl (.mv (.t 4))⟩,
            ⟨(some 24), (some (21, true)), .inl (.bin .add (.t 23) (.c (.int .i64 1)))⟩,
            ⟨(some 25), (some (21, true)), .inl (.bin .mul (.c (.int .i64 7)) (.t 24))⟩,
            ⟨(some 26), (some (21, true)), .inl (.bin .lss (.t 22) (.t 25))⟩,
            ⟨(some 27), none, .inl (.pick (.t 21) (.t 26) (.c (.bool false)))⟩])
         (.keep [0, 3, 4, 5, 6, 27]))
         (.cond (.t 27)
           (.skip)
           (.exit 2)))
         (.seq (.block 3 (.seq (.seq (.ord [⟨0, ⟨(some 30), none, .inl (.faddr 0 (.t 5))⟩, [], true⟩,
             ⟨1, ⟨(some 31), none, .inl (.load false 1 (.t 30))⟩, [], true⟩,
             ⟨2, ⟨(some 32), none, .inl (.mv (.t 0))⟩, [], false⟩,
             ⟨3, ⟨(some 33), none, .inl (.mv (.t 6))⟩, [], false⟩,
             ⟨4, ⟨(some 34), none, .inl (.iaddr 3 (.t 32) (.t 33))⟩, [], false⟩,
             ⟨5, ⟨(some 35), none, .inl (.faddr 0 (.t 34))⟩, [], false⟩,
             ⟨6, ⟨(some 36), none, .inl (.load false 1 (.t 35))⟩, [], false⟩,
             ⟨7, ⟨(some 37), none, .inl (.mv (.t 0))⟩, [], false⟩,
             ⟨8, ⟨(some 38), none, .inl (.mv (.t 6))⟩, [], false⟩,
             ⟨9, ⟨(some 39), none, .inl (.iaddr 3 (.t 37) (.t 38))⟩, [], false⟩,
             ⟨10, ⟨(some 40), none, .inl (.faddr 1 (.t 39))⟩, [], false⟩,
             ⟨11, ⟨(some 41), none, .inl (.load false 1 (.t 40))⟩, [], false⟩,
             ⟨12, ⟨(some 42), none, .inl (.bin .mul (.c (.int .i64 4)) (.t 41))⟩, [], false⟩,
             ⟨13, ⟨(some 43), none, .inl (.mv (.t 0))⟩, [], false⟩,
             ⟨14, ⟨(some 44), none, .inl (.mv (.t 6))⟩, [], false⟩,
             ⟨15, ⟨(some 45), none, .inl (.iaddr 3 (.t 43) (.t 44))⟩, [], false⟩,
             ⟨16, ⟨(some 46), none, .inl (.faddr 2 (.t 45))⟩, [], false⟩,
             ⟨17, ⟨(some 47), none, .inl (.load false 1 (.t 46))⟩, [], false⟩,
             ⟨18, ⟨(some 48), none, .inl (.bin .add (.t 42) (.t 47))⟩, [], false⟩,
             ⟨19, ⟨(some 49), none, .inr (.bslice 1 [(.int .i64 0)] 2 [(0, (.t 36)), (1, (.t 48))])⟩, [0, 1], false⟩,
             ⟨20, ⟨(some 50), none, .inr (.append 1 8 (.t 31) (.t 49))⟩, [], false⟩,
             ⟨21, ⟨(some 51), none, .inl (.faddr 0 (.t 5))⟩, [], false⟩,
             ⟨22, ⟨none, none, .inr (.store 1 (.t 51) (.t 50))⟩, [], false⟩])
          (.keep [0, 3, 4, 5, 6]))
          (.seq (.reg [⟨(some 52), none, .inl (.faddr 1 (.t 5))⟩,
              ⟨(some 53), none, .inl (.load false 1 (.t 52))⟩,
              ⟨(some 54), none, .inl (.bin .add (.t 53) (.c (.int .i64 1)))⟩,
              ⟨(some 55), none, .inl (.faddr 1 (.t 5))⟩,
              ⟨none, none, .inr (.store 1 (.t 55) (.t 54))⟩])
           (.keep [0, 3, 4, 5, 6]))))
          (.seq (.reg [⟨(some 28), none, .inl (.mv (.t 6))⟩,
              ⟨(some 29), none, .inl (.bin .add (.t 28) (.c (.int .i64 1)))⟩,
              ⟨(some 6), none, .inl (.mv (.t 29))⟩])
           (.keep [0, 3, 4, 5, 6])))))))
        (.seq (.seq (.seq (.reg [⟨(some 56), none, .inl (.faddr 1 (.t 5))⟩,
            ⟨(some 57), none, .inl (.load false 1 (.t 56))⟩,
            ⟨(some 58), none, .inl (.bin .gtr (.t 57) (.c (.int .i64 0)))⟩])
         (.keep [0, 3, 4, 5, 58]))
         (.cond (.t 58)
           (.seq (.reg [⟨(some 59), none, .inl (.faddr 0 (.t 5))⟩,
               ⟨(some 60), none, .inl (.load false 1 (.t 59))⟩,
               ⟨(some 61), none, .inl (.iaddr 1 (.t 60) (.c (.int .i64 0)))⟩,
               ⟨(some 62), none, .inl (.load false 1 (.t 61))⟩,
               ⟨(some 63), none, .inl (.faddr 3 (.t 5))⟩,
               ⟨none, none, .inr (.store 1 (.t 63) (.t 62))⟩])
            (.keep [0, 3, 4, 5]))
           (.skip)))
         (.seq (.reg [⟨(some 64), none, .inl (.mv (.t 3))⟩,
             ⟨(some 65), none, .inl (.load true 4 (.t 5))⟩,
             ⟨(some 66), none, .inr (.bslice 4 [.nils, (.int .i64 0), (.bool false), (.int .i64 0)] 1 [(0, (.t 65))])⟩,
             ⟨(some 67), none, .inr (.append 4 48 (.t 64) (.t 66))⟩,
             ⟨(some 3), none, .inl (.mv (.t 67))⟩])
          (.keep [0, 3, 4]))))))
       (.seq (.reg [⟨(some 12), none, .inl (.mv (.t 4))⟩,
           ⟨(some 13), none, .inl (.bin .add (.t 12) (.c (.int .i64 1)))⟩,
           ⟨(some 4), none, .inl (.mv (.t 13))⟩])
        (.keep [0, 3, 4])))))))
     (.seq (.seq (.reg [⟨(some 68), none, .inl (.mv (.t 3))⟩,
         ⟨(some 2), none, .inl (.mv (.t 68))⟩])
      (.keep [2]))
      (.ret))))
def fc_joistref14_leaves : FC := ⟨69, cmd_joistref14_leaves, [.t 2]⟩
theorem fc_joistref14_leaves_ok : compF Try.prog 44 [[0], [0, 3], [0, 3, 4], [0, 3, 4], [0, 3, 4, 11], [0, 3, 4, 5], [0, 3, 4, 5, 6], [0, 3, 4, 5, 6], [0, 3, 4, 5, 6, 27], [0, 3, 4, 5, 6], [0, 1, 2, 3, 4, 5, 6, 7, 8, 9, 10, 11, 12, 13, 14, 15, 16, 17, 18, 19, 20, 21, 22], [0, 3, 4, 5, 6], [0, 3, 4, 5, 6], [0, 3, 4, 5, 58], [0, 3, 4, 5], [0, 3, 4], [0, 3, 4], [2]] = some fc_joistref14_leaves := by kernel_rfl
/-- joist/joistref14.above -/
abbrev F.joistref14_above : Nat := 45
def cmd_joistref14_above : Cmd :=
  .seq (.seq (.reg [⟨(some 2), none, .inl (.mv (.c (.int .i64 0)))⟩])
   (.keep [0]))
   (.seq (.seq (.reg [⟨(some 3), none, .inl (.mv (.t 0))⟩,
       ⟨(some 4), none, .inl (.bin .add (.t 3) (.c (.int .i64 7)))⟩,
       ⟨(some 5), none, .inl (.bin .sub (.t 4) (.c (.int .i64 1)))⟩,
       ⟨(some 6), none, .inl (.bin .quo (.t 5) (.c (.int .i64 7)))⟩,
       ⟨(some 7), none, .inl (.mx (.c (.int .i64 1)) (.t 6))⟩,
       ⟨(some 2), none, .inl (.mv (.t 7))⟩])
    (.keep [2]))
    (.ret))
def fc_joistref14_above : FC := ⟨8, cmd_joistref14_above, [.t 2]⟩
theorem fc_joistref14_above_ok : compF Try.prog 45 [[0], [2]] = some fc_joistref14_above := by kernel_rfl
/-- joist/joistref01.Bytes -/
abbrev F.joistref01_Bytes : Nat := 46
def cmd_joistref01_Bytes : Cmd :=
  .seq (.seq (.reg [⟨(some 2), none, .inl (.mv (.c .nils))⟩])
   (.keep [0]))
   (.seq (.seq (.reg [⟨(some 3), none, .inl (.mv (.c .nils))⟩])
    (.keep [0, 3]))
    (.seq (.seq (.seq (.reg [⟨(some 4), none, .inl (.mv (.c (.int .i64 0)))⟩])
     (.keep [0, 3, 4]))
     (.block 0 (.loop [0, 3, 4] (.seq (.seq (.seq (.reg [⟨(some 5), none, .inl (.mv (.t 4))⟩,
         ⟨(some 6), none, .inl (.bin .lss (.t 5) (.c (.int .i64 8)))⟩])
      (.keep [0, 3, 4, 6]))
      (.cond (.t 6)
        (.skip)
        (.exit 0)))
      (.seq (.block 1 (.seq (.seq (.reg [⟨(some 9), none, .inl (.mv (.t 3))⟩,
          ⟨(some 10), none, .inl (.mv (.t 0))⟩,
          ⟨(some 11), none, .inl (.conv .u8 (.t 10))⟩,
          ⟨(some 12), none, .inr (.bslice 1 [(.int .u8 0)] 1 [(0, (.t 11))])⟩,
          ⟨(some 13), none, .inr (.append 1 1 (.t 9) (.t 12))⟩,
          ⟨(some 3), none, .inl (.mv (.t 13))⟩])
       (.keep [0, 3, 4]))
       (.seq (.reg [⟨(some 14), none, .inl (.mv (.t 0))⟩,
           ⟨(some 15), none, .inl (.bin .quo (.t 14) (.c (.int .i64 256)))⟩,
           ⟨(some 0), none, .inl (.mv (.t 15))⟩])
        (.keep [0, 3, 4]))))
       (.seq (.reg [⟨(some 7), none, .inl (.mv (.t 4))⟩,
           ⟨(some 8), none, .inl (.bin .add (.t 7) (.c (.int .i64 1)))⟩,
           ⟨(some 4), none, .inl (.mv (.t 8))⟩])
        (.keep [0, 3, 4])))))))
     (.seq (.seq (.reg [⟨(some 16), none, .inl (.mv (.t 3))⟩,
         ⟨(some 2), none, .inl (.mv (.t 16))⟩])
      (.keep [2]))
      (.ret))))
def fc_joistref01_Bytes : FC := ⟨17, cmd_joistref01_Bytes, [.t 2]⟩
theorem fc_joistref01_Bytes_ok : compF Try.prog 46 [[0], [0, 3], [0, 3, 4], [0, 3, 4], [0, 3, 4, 6], [0, 3, 4], [0, 3, 4], [0, 3, 4], [2]] = some fc_joistref01_Bytes := by kernel_rfl
/-- joist/tree.get$1 -/
abbrev F.tree_get_1 : Nat := 47
def cmd_tree_get_1 : Cmd :=
  .seq (.seq (.reg [⟨(some 4), none, .inl (.mv (.c (.int .i64 0)))⟩])
   (.keep [0, 1, 2]))
   (.seq (.seq (.reg [⟨(some 8), none, .inl (.load false 1 (.t 1))⟩,
       ⟨(some 9), none, .inl (.load false 1 (.t 2))⟩,
       ⟨(some 10), none, .inl (.load false 1 (.t 2))⟩,
       ⟨(some 11), none, .inl (.bin .add (.t 10) (.c (.int .i64 128)))⟩,
       ⟨(some 12), none, .inl (.slice 1 (.t 8) (some (.t 9)) (some (.t 11)) none)⟩,
       ⟨(some 13), none, .inl (.mv (.t 0))⟩,
       ⟨(some 14), none, .inr (.call 48 [(.t 12), (.t 13)])⟩,
       ⟨(some 7), none, .inl (.mv (.t 14))⟩,
       ⟨(some 15), none, .inl (.ext 0 (.t 7))⟩,
       ⟨(some 16), none, .inl (.ext 1 (.t 7))⟩,
       ⟨(some 5), none, .inl (.mv (.t 15))⟩,
       ⟨(some 6), none, .inl (.mv (.t 16))⟩])
    (.keep [5]))
    (.seq (.seq (.reg [⟨(some 17), none, .inl (.mv (.t 5))⟩,
        ⟨(some 4), none, .inl (.mv (.t 17))⟩])
     (.keep [4]))
     (.ret)))
def fc_tree_get_1 : FC := ⟨18, cmd_tree_get_1, [.t 4]⟩
theorem fc_tree_get_1_ok : compF Try.prog 47 [[0, 1, 2], [5], [4]] = some fc_tree_get_1 := by kernel_rfl
/-- joist/words.Get -/
abbrev F.words_Get : Nat := 48
def cmd_words_Get : Cmd :=
  .seq (.seq (.reg [⟨(some 4), none, .inl (.mv (.c (.int .i64 0)))⟩,
      ⟨(some 5), none, .inl (.mv (.c (.bool false)))⟩])
   (.keep [0, 1]))
   (.seq (.seq (.reg [⟨(some 7), none, .inl (.mv (.t 0))⟩,
       ⟨(some 8), none, .inl (.mv (.t 1))⟩,
       ⟨(some 9), none, .inr (.call 52 [(.t 7), (.t 8)])⟩,
       ⟨(some 6), none, .inl (.mv (.t 9))⟩])
    (.keep [6]))
    (.seq (.seq (.seq (.reg [⟨(some 10), none, .inl (.mv (.t 6))⟩,
        ⟨(some 11), none, .inl (.eqnil false (.t 10))⟩])
     (.keep [6, 11]))
     (.cond (.t 11)
       (.seq (.seq (.reg [⟨(some 4), none, .inl (.mv (.c (.int .i64 0)))⟩,
           ⟨(some 5), none, .inl (.mv (.c (.bool false)))⟩])
        (.keep [4, 5]))
        (.ret))
       (.skip)))
     (.seq (.seq (.reg [⟨(some 12), none, .inl (.mv (.t 6))⟩,
         ⟨(some 13), none, .inr (.call 39 [(.t 12)])⟩,
         ⟨(some 14), none, .inl (.ext 0 (.t 13))⟩,
         ⟨(some 15), none, .inl (.ext 1 (.t 13))⟩,
         ⟨(some 4), none, .inl (.mv (.t 14))⟩,
         ⟨(some 5), none, .inl (.mv (.t 15))⟩])
      (.keep [4, 5]))
      (.ret))))
def fc_words_Get : FC := ⟨16, cmd_words_Get, [.t 4, .t 5]⟩
theorem fc_words_Get_ok : compF Try.prog 48 [[0, 1], [6], [6, 11], [4, 5], [4, 5]] = some fc_words_Get := by kernel_rfl
/-- slices.Chunk[[][2]int,[2]int] -/
abbrev F.slices_Chunk : Nat := 49
def cmd_slices_Chunk : Cmd :=
  .seq (.seq (.reg [⟨(some 2), none, .inr (.box 1 (.t 0))⟩,
      ⟨(some 3), none, .inr (.box 1 (.t 1))⟩,
      ⟨(some 4), none, .inl (.mv (.c .any))⟩])
   (.keep [2, 3]))
   (.seq (.seq (.seq (.reg [⟨(some 5), none, .inl (.load false 1 (.t 3))⟩,
       ⟨(some 6), none, .inl (.bin .lss (.t 5) (.c (.int .i64 1)))⟩])
    (.keep [2, 3, 6]))
    (.cond (.t 6)
      (.stuck)
      (.skip)))
    (.seq (.seq (.reg [⟨(some 8), none, .inl (.mkfn 53 [(.t 2), (.t 3)])⟩,
        ⟨(some 4), none, .inl (.mv (.t 8))⟩])
     (.keep [4]))
     (.ret)))
def fc_slices_Chunk : FC := ⟨9, cmd_slices_Chunk, [.t 4]⟩
theorem fc_slices_Chunk_ok : compF Try.prog 49 [[2, 3], [2, 3, 6], [4]] = some fc_slices_Chunk := by kernel_rfl
/-- joist/words.may -/
abbrev F.words_may : Nat := 50
def cmd_words_may : Cmd :=
  .seq (.seq (.reg [⟨(some 2), none, .inl (.mv (.c (.bool false)))⟩])
   (.keep [0]))
   (.seq (.seq (.reg [⟨(some 3), none, .inl (.mv (.t 0))⟩,
       ⟨(some 4), none, .inl (.bin .geq (.t 3) (.c (.int .i64 0)))⟩,
       ⟨(some 5), none, .inl (.mv (.t 4))⟩,
       ⟨(some 6), (some (5, true)), .inl (.mv (.t 0))⟩,
       ⟨(some 7), (some (5, true)), .inl (.bin .leq (.t 6) (.c (.int .i64 4611686018427387903)))⟩,
       ⟨(some 8), none, .inl (.pick (.t 5) (.t 7) (.c (.bool false)))⟩,
       ⟨(some 2), none, .inl (.mv (.t 8))⟩])
    (.keep [2]))
    (.ret))
def fc_words_may : FC := ⟨9, cmd_words_may, [.t 2]⟩
theorem fc_words_may_ok : compF Try.prog 50 [[0], [2]] = some fc_words_may := by kernel_rfl
/-- joist/words.write -/
abbrev F.words_write : Nat := 51
def cmd_words_write : Cmd :=
  .seq (.seq (.reg [⟨(some 5), none, .inl (.mv (.c (.int .i64 0)))⟩])
   (.keep [0, 1, 5]))
   (.block 0 (.loop [0, 1, 5] (.seq (.seq (.reg [⟨(some 6), none, .inl (.bin .lss (.t 5) (.c (.int .i64 8)))⟩])
    (.keep [0, 1, 5, 6]))
    (.seq (.cond (.t 6)
      (.skip)
      (.exit 0))
     (.seq (.block 1 (.seq (.seq (.reg [⟨(some 7), none, .inl (.mv (.t 5))⟩,
         ⟨(some 4), none, .inl (.mv (.t 7))⟩])
      (.keep [0, 1, 4, 5]))
      (.seq (.reg [⟨(some 8), none, .inl (.mv (.t 0))⟩,
          ⟨(some 9), none, .inl (.mv (.t 4))⟩,
          ⟨(some 10), none, .inl (.mv (.t 1))⟩,
          ⟨(some 11), none, .inl (.mv (.t 4))⟩,
          ⟨(some 12), none, .inl (.bin .mul (.c (.int .i64 8)) (.t 11))⟩,
          ⟨(some 13), none, .inl (.bin .shr (.t 10) (.t 12))⟩,
          ⟨(some 14), none, .inl (.conv .u8 (.t 13))⟩,
          ⟨(some 15), none, .inl (.iaddr 1 (.t 8) (.t 9))⟩,
          ⟨none, none, .inr (.store 1 (.t 15) (.t 14))⟩])
       (.keep [0, 1, 5]))))
      (.seq (.reg [⟨(some 16), none, .inl (.bin .add (.t 5) (.c (.int .i64 1)))⟩,
          ⟨(some 5), none, .inl (.mv (.t 16))⟩])
       (.keep [0, 1, 5])))))))
def fc_words_write : FC := ⟨17, cmd_words_write, []⟩
theorem fc_words_write_ok : compF Try.prog 51 [[0, 1, 5], [0, 1, 5], [0, 1, 5, 6], [0, 1, 4, 5], [0, 1, 5], [0, 1, 5]] = some fc_words_write := by kernel_rfl
/-- joist/words.place -/
abbrev F.words_place : Nat := 52
def cmd_words_place : Cmd :=
  .seq (.seq (.reg [⟨(some 4), none, .inl (.mv (.c .nils))⟩])
   (.keep [0, 1]))
   (.seq (.seq (.seq (.reg [⟨(some 6), none, .inl (.mv (.t 1))⟩,
       ⟨(some 7), none, .inl (.bin .lss (.t 6) (.c (.int .i64 0)))⟩,
       ⟨(some 8), none, .inl (.mv (.t 7))⟩,
       ⟨(some 9), (some (8, false)), .inl (.mv (.t 1))⟩,
       ⟨(some 10), (some (8, false)), .inl (.mv (.t 0))⟩,
       ⟨(some 11), (some (8, false)), .inl (.len (.t 10))⟩,
       ⟨(some 12), (some (8, false)), .inl (.bin .quo (.t 11) (.c (.int .i64 8)))⟩,
       ⟨(some 13), (some (8, false)), .inl (.bin .geq (.t 9) (.t 12))⟩,
       ⟨(some 14), none, .inl (.pick (.t 8) (.c (.bool true)) (.t 13))⟩])
    (.keep [0, 1, 14]))
    (.cond (.t 14)
      (.seq (.seq (.reg [⟨(some 4), none, .inl (.mv (.c .nils))⟩])
       (.keep [4]))
       (.ret))
      (.skip)))
    (.seq (.seq (.reg [⟨(some 15), none, .inl (.mv (.t 1))⟩,
        ⟨(some 16), none, .inl (.bin .mul (.t 15) (.c (.int .i64 8)))⟩,
        ⟨(some 5), none, .inl (.mv (.t 16))⟩])
     (.keep [0, 5]))
     (.seq (.seq (.reg [⟨(some 17), none, .inl (.mv (.t 0))⟩,
         ⟨(some 18), none, .inl (.mv (.t 5))⟩,
         ⟨(some 19), none, .inl (.mv (.t 5))⟩,
         ⟨(some 20), none, .inl (.bin .add (.t 19) (.c (.int .i64 8)))⟩,
         ⟨(some 21), none, .inl (.slice 1 (.t 17) (some (.t 18)) (some (.t 20)) none)⟩,
         ⟨(some 4), none, .inl (.mv (.t 21))⟩])
      (.keep [4]))
      (.ret))))
def fc_words_place : FC := ⟨22, cmd_words_place, [.t 4]⟩
theorem fc_words_place_ok : compF Try.prog 52 [[0, 1], [0, 1, 14], [4], [0, 5], [4]] = some fc_words_place := by kernel_rfl
/-- slices.Chunk[[][2]int,[2]int]$1 -/
abbrev F.slices_Chunk_1 : Nat := 53
def cmd_slices_Chunk_1 : Cmd :=
  .seq (.seq (.reg [⟨(some 4), none, .inl (.mv (.c (.int .i64 0)))⟩])
   (.keep [0, 1, 2, 4]))
   (.block 0 (.loop [0, 1, 2, 4] (.seq (.seq (.seq (.reg [⟨(some 6), none, .inl (.mv (.t 4))⟩,
       ⟨(some 7), none, .inl (.load false 1 (.t 1))⟩,
       ⟨(some 8), none, .inl (.len (.t 7))⟩,
       ⟨(some 9), none, .inl (.bin .lss (.t 6) (.t 8))⟩])
    (.keep [0, 1, 2, 4, 9]))
    (.cond (.t 9)
      (.skip)
      (.exit 0)))
    (.seq (.block 1 (.seq (.seq (.ord [⟨0, ⟨(some 13), none, .inl (.load false 1 (.t 2))⟩, [], false⟩,
        ⟨1, ⟨(some 14), none, .inl (.load false 1 (.t 1))⟩, [], false⟩,
        ⟨2, ⟨(some 15), none, .inl (.mv (.t 4))⟩, [], false⟩,
        ⟨3, ⟨(some 16), none, .inl (.slice 2 (.t 14) (some (.t 15)) none none)⟩, [], false⟩,
        ⟨4, ⟨(some 17), none, .inl (.len (.t 16))⟩, [], false⟩,
        ⟨5, ⟨(some 18), none, .inl (.mn (.t 13) (.t 17))⟩, [], false⟩,
        ⟨6, ⟨(some 5), none, .inl (.mv (.t 18))⟩, [], false⟩])
     (.keep [0, 1, 2, 4, 5]))
     (.seq (.seq (.reg [⟨(some 19), none, .inl (.mv (.t 0))⟩,
         ⟨(some 20), none, .inl (.load false 1 (.t 1))⟩,
         ⟨(some 21), none, .inl (.mv (.t 4))⟩,
         ⟨(some 22), none, .inl (.mv (.t 4))⟩,
         ⟨(some 23), none, .inl (.mv (.t 5))⟩,
         ⟨(some 24), none, .inl (.bin .add (.t 22) (.t 23))⟩,
         ⟨(some 25), none, .inl (.mv (.t 4))⟩,
         ⟨(some 26), none, .inl (.mv (.t 5))⟩,
         ⟨(some 27), none, .inl (.bin .add (.t 25) (.t 26))⟩,
         ⟨(some 28), none, .inl (.slice 2 (.t 20) (some (.t 21)) (some (.t 24)) (some (.t 27)))⟩,
         ⟨(some 29), none, .inr (.callv (.t 19) [(.t 28)])⟩,
         ⟨(some 30), none, .inl (.un .not (.t 29))⟩])
      (.keep [0, 1, 2, 4, 30]))
      (.cond (.t 30)
        (.ret)
        (.skip)))))
     (.seq (.reg [⟨(some 10), none, .inl (.mv (.t 4))⟩,
         ⟨(some 11), none, .inl (.load false 1 (.t 2))⟩,
         ⟨(some 12), none, .inl (.bin .add (.t 10) (.t 11))⟩,
         ⟨(some 4), none, .inl (.mv (.t 12))⟩])
      (.keep [0, 1, 2, 4]))))))
def fc_slices_Chunk_1 : FC := ⟨31, cmd_slices_Chunk_1, []⟩
theorem fc_slices_Chunk_1_ok : compF Try.prog 53 [[0, 1, 2, 4], [0, 1, 2, 4], [0, 1, 2, 4, 9], [0, 1, 2, 4, 5], [0, 1, 2, 3, 4, 5, 6], [0, 1, 2, 4, 30], [0, 1, 2, 4]] = some fc_slices_Chunk_1 := by kernel_rfl
end Go.Proofs.Ythalikgchafjiaa
